/-
  Parts of the proof that the law holds whatever the input; without conditions.
-/
import Derived.Test.YticodgjinajkpaaGreatProg
import Derived.KernelRfl
import Derived.Test.YticodgjinajkpaaGreatZT2
import Derived.Test.YticodgjinajkpaaGreatZT3
set_option maxRecDepth 100000
namespace Go.Proofs.YticodgjinajkpaaGreat
open Abs
abbrev s_ (n:Nat):AArg:=.slot n
abbrev k_ (x:AV):AArg:=.const x
abbrev h_ (a:List AArg) (k:AK):AOp:=⟨none,a,none,k⟩
abbrev m_ (d:Nat) (a:List AArg) (k:AK):AOp:=⟨some d,a,none,k⟩
abbrev g_ (d g:Nat) (w:Bool) (a:List AArg) (k:AK):AOp:=⟨some d,a,some (g,w),k⟩
abbrev ld:AK:=.load false 1
abbrev ln:AK:=.len false
abbrev l6:AK:=.load true 6
abbrev nt:AK:=.un .not
abbrev st:AK:=.store 1
abbrev f0_:AK:=.faddr false 0 1
abbrev f1_:AK:=.faddr false 1 1
abbrev f2_:AK:=.faddr false 2 1
abbrev f3_:AK:=.faddr false 3 1
abbrev f4_:AK:=.faddr false 4 1
abbrev f5_:AK:=.faddr false 5 1
abbrev bad_:AK:=.bin .add
abbrev bls_:AK:=.bin .lss
abbrev beq_:AK:=.bin .eql
abbrev bgt_:AK:=.bin .gtr
abbrev bsu_:AK:=.bin .sub
abbrev ble_:AK:=.bin .leq
abbrev bne_:AK:=.bin .neq
abbrev bge_:AK:=.bin .geq
abbrev a1_:AK:=.iaddr 1
abbrev a2_:AK:=.iaddr 2
abbrev a3_:AK:=.iaddr 3
abbrev a4_:AK:=.iaddr 4
abbrev a5_:AK:=.iaddr 5
abbrev a6_:AK:=.iaddr 6
abbrev v_ (d a:Nat):AOp:=⟨some d,[.slot a],none,.mv⟩
def Gl:AC:=(.seq (.reg [o1 1 0 .box,c1 2 (.bool false) .mv]) (.seq (.seq (.reg [o1 5 1 l6,k1 6 7 5,o1 7 6 nt]) (.cond (.slot 7) (.seq (.reg [k0 8 13,v_ 2 8]) .ret) .skip)) (.seq (.reg [o1 10 1 l6,k1 11 19 10,v_ 9 11,o1 12 9 (.extract 0),o1 13 9 (.extract 1),o0 3 (.alloc (.agg [(.int .i64 0),(.int .i64 0),(.int .i64 0),(.int .i64 0),.nilS,.nilS]) 6),n2 3 12 (.store 6),v_ 4 13]) (.seq (.seq (.reg [o1 14 1 l6,k1 15 10 14,o1 16 15 nt]) (.cond (.slot 16) (.seq (.reg [o1 17 3 l6,o0 18 (.build [(.int .i64 0),(.int .i64 0),(.int .i64 0),(.int .i64 0),.nilS,.nilS] [(0,1),(1,1),(2,1),(3,1),(4,1),(5,1)] []),k2 19 11 17 18,v_ 20 19,g1 21 20 4 .mv,g_ 22 20 true [s_ 21,k_ (.int .i64 2)] beq_,m_ 23 [s_ 20,s_ 22,k_ (.bool false)] .pick,v_ 24 23,g_ 25 24 true [k_ (.fn 13 [])] .call,m_ 26 [s_ 24,s_ 25,k_ (.bool false)] .pick,v_ 2 26]) .ret) .skip)) (.seq (.dreg [v_ 27 4,c2 28 27 (.int .i64 0) beq_,v_ 29 28,g1 30 29 3 l6,g1 31 29 1 l6,g_ 32 29 true [k_ (.fn 20 []),s_ 31] .call,g_ 33 29 true [k_ (.fn 11 []),s_ 30,s_ 32] .call,m_ 34 [s_ 29,s_ 33,k_ (.bool false)] .pick,v_ 35 34,g_ 36 35 true [k_ (.fn 13 [])] .call,m_ 37 [s_ 35,s_ 36,k_ (.bool false)] .pick,v_ 2 37]) .ret)))))
theorem Me:As Tryz.prog 5 1=some ⟨38,1,[(.slot 2)],Gl⟩:=by kernel_rfl
def Ku:AC:=(.seq (.reg [o1 1 0 .box,c1 2 (.bool false) .mv]) (.seq (.reg [c1 3 (.int .i64 0) .mv]) (.seq (.seq (.reg [o1 6 1 f4_,o1 7 6 ld,o1 8 7 ln,c2 9 8 (.int .i64 80) bgt_,v_ 10 9,g_ 11 10 false [s_ 1] f5_,g_ 12 10 false [s_ 11] ld,g_ 13 10 false [s_ 12] ln,g_ 14 10 false [s_ 13,k_ (.int .i64 80)] bgt_,m_ 15 [s_ 10,k_ (.bool true),s_ 14] .pick]) (.cond (.slot 15) (.seq (.reg [c1 2 (.bool false) .mv]) .ret) .skip)) (.seq (.seq (.reg [c1 4 (.int .i64 0) .mv]) (.block 0 (.loop (.seq (.seq (.reg [v_ 16 4,o1 17 1 f4_,o1 18 17 ld,o1 19 18 ln,o2 20 16 19 bls_]) (.cond (.slot 20) .skip (.exit 0))) (.seq (.block 1 (.dreg [v_ 23 3,o1 24 1 f4_,o1 25 24 ld,v_ 26 4,o2 27 25 26 a5_,o1 28 27 f2_,o1 29 28 ld,o1 30 1 f4_,o1 31 30 ld,v_ 32 4,o2 33 31 32 a5_,o1 34 33 f4_,o1 35 34 ld,k2 36 24 29 35,o2 37 23 36 bad_,v_ 3 37])) (.reg [v_ 21 4,c2 22 21 (.int .i64 1) bad_,v_ 4 22])))))) (.seq (.seq (.reg [c1 5 (.int .i64 0) .mv]) (.block 2 (.loop (.seq (.seq (.reg [v_ 38 5,o1 39 1 f5_,o1 40 39 ld,o1 41 40 ln,o2 42 38 41 bls_]) (.cond (.slot 42) .skip (.exit 2))) (.seq (.block 3 (.dreg [v_ 45 3,o1 46 1 f5_,o1 47 46 ld,v_ 48 5,o2 49 47 48 a3_,o1 50 49 f1_,o1 51 50 ld,o1 52 1 f5_,o1 53 52 ld,v_ 54 5,o2 55 53 54 a3_,o1 56 55 f2_,o1 57 56 ld,k2 58 24 51 57,o2 59 45 58 bad_,v_ 3 59])) (.reg [v_ 43 5,c2 44 43 (.int .i64 1) bad_,v_ 5 44])))))) (.seq (.reg [v_ 60 3,c2 61 60 (.int .i64 1500) ble_,v_ 2 61]) .ret))))))
theorem U5:As Tryz.prog 7 1=some ⟨62,1,[(.slot 2)],Ku⟩:=by kernel_rfl
def Kv:AC:=(.seq (.reg [o1 1 0 .box,c1 2 (.bool false) .mv]) (.seq (.reg [o1 6 1 l6,k1 7 29 6,v_ 5 7,o1 8 5 (.extract 0),o1 9 5 (.extract 1),v_ 3 8,v_ 4 9]) (.seq (.reg [v_ 10 3,c2 11 10 (.int .i64 0) beq_,v_ 2 11]) .ret)))
theorem U6:As Tryz.prog 10 1=some ⟨12,1,[(.slot 2)],Kv⟩:=by kernel_rfl
def M3:AC:=(.seq (.reg [o1 2 0 .box,o1 3 1 .box,c1 4 (.bool false) .mv]) (.seq (.seq (.reg [o1 9 2 f0_,o1 10 9 ld,o1 11 3 f0_,o1 12 11 ld,o2 13 10 12 bne_,v_ 14 13,g_ 15 14 false [s_ 2] f1_,g_ 16 14 false [s_ 15] ld,g_ 17 14 false [s_ 3] f1_,g_ 18 14 false [s_ 17] ld,g_ 19 14 false [s_ 16,s_ 18] bne_,m_ 20 [s_ 14,k_ (.bool true),s_ 19] .pick,v_ 21 20,g_ 22 21 false [s_ 2] f2_,g_ 23 21 false [s_ 22] ld,g_ 24 21 false [s_ 3] f2_,g_ 25 21 false [s_ 24] ld,g_ 26 21 false [s_ 23,s_ 25] bne_,m_ 27 [s_ 21,k_ (.bool true),s_ 26] .pick,v_ 28 27,g_ 29 28 false [s_ 2] f3_,g_ 30 28 false [s_ 29] ld,g_ 31 28 false [s_ 3] f3_,g_ 32 28 false [s_ 31] ld,g_ 33 28 false [s_ 30,s_ 32] bne_,m_ 34 [s_ 28,k_ (.bool true),s_ 33] .pick,v_ 35 34,g_ 36 35 false [s_ 2] f4_,g_ 37 35 false [s_ 36] ld,g_ 38 35 false [s_ 37] ln,g_ 39 35 false [s_ 3] f4_,g_ 40 35 false [s_ 39] ld,g_ 41 35 false [s_ 40] ln,g_ 42 35 false [s_ 38,s_ 41] bne_,m_ 43 [s_ 35,k_ (.bool true),s_ 42] .pick,v_ 44 43,g_ 45 44 false [s_ 2] f5_,g_ 46 44 false [s_ 45] ld,g_ 47 44 false [s_ 46] ln,g_ 48 44 false [s_ 3] f5_,g_ 49 44 false [s_ 48] ld,g_ 50 44 false [s_ 49] ln,g_ 51 44 false [s_ 47,s_ 50] bne_,m_ 52 [s_ 44,k_ (.bool true),s_ 51] .pick]) (.cond (.slot 52) (.seq (.reg [c1 4 (.bool false) .mv]) .ret) .skip)) (.seq (.seq (.reg [c1 5 (.int .i64 0) .mv]) (.block 0 (.loop (.seq (.seq (.reg [v_ 53 5,o1 54 2 f4_,o1 55 54 ld,o1 56 55 ln,o2 57 53 56 bls_]) (.cond (.slot 57) .skip (.exit 0))) (.seq (.block 1 (.seq (.dtl [o1 60 2 f4_,o1 61 60 ld,v_ 62 5,o2 63 61 62 a5_,o1 64 63 (.load true 5),o1 65 3 f4_,o1 66 65 ld,v_ 67 5,o2 68 66 67 a5_,o1 69 68 (.load true 5)] [k2 70 30 64 69,o1 71 70 nt]) (.cond (.slot 71) (.seq (.reg [c1 4 (.bool false) .mv]) .ret) .skip))) (.reg [v_ 58 5,c2 59 58 (.int .i64 1) bad_,v_ 5 59])))))) (.seq (.seq (.reg [c1 6 (.int .i64 0) .mv]) (.block 2 (.loop (.seq (.seq (.reg [v_ 72 6,o1 73 2 f5_,o1 74 73 ld,o1 75 74 ln,o2 76 72 75 bls_]) (.cond (.slot 76) .skip (.exit 2))) (.seq (.block 3 (.seq (.gry [true,true,true,true,true,true,true,true,true,true,false,false,false,false] [m_ 79 [s_ 2] f5_,m_ 80 [s_ 79] ld,m_ 81 [s_ 6] .mv,m_ 82 [s_ 80,s_ 81] a3_,m_ 83 [s_ 82] (.load true 3),m_ 84 [s_ 3] f5_,m_ 85 [s_ 84] ld,m_ 86 [s_ 6] .mv,m_ 87 [s_ 85,s_ 86] a3_,m_ 88 [s_ 87] (.load true 3),m_ 7 [] (.alloc (.agg [(.int .i64 0),.nilS,.nilS]) 3),m_ 8 [] (.alloc (.agg [(.int .i64 0),.nilS,.nilS]) 3),h_ [s_ 7,s_ 83] (.store 3),h_ [s_ 8,s_ 88] (.store 3)]) (.seq (.reg [o1 89 7 f0_,o1 90 89 ld,o1 91 8 f0_,o1 92 91 ld,o2 93 90 92 bne_,v_ 94 93,g_ 95 94 false [s_ 7] f1_,g_ 96 94 false [s_ 95] ld,g_ 97 94 false [s_ 8] f1_,g_ 98 94 false [s_ 97] ld,g_ 99 94 false [k_ (.fn 31 []),s_ 96,s_ 98] .call,g_ 100 94 false [s_ 99] nt,m_ 101 [s_ 94,k_ (.bool true),s_ 100] .pick,v_ 102 101,g_ 103 102 false [s_ 7] f2_,g_ 104 102 false [s_ 103] ld,g_ 105 102 false [s_ 8] f2_,g_ 106 102 false [s_ 105] ld,g_ 107 102 false [k_ (.fn 32 []),s_ 104,s_ 106] .call,g_ 108 102 false [s_ 107] nt,m_ 109 [s_ 102,k_ (.bool true),s_ 108] .pick]) (.cond (.slot 109) (.seq (.reg [c1 4 (.bool false) .mv]) .ret) .skip)))) (.reg [v_ 77 6,c2 78 77 (.int .i64 1) bad_,v_ 6 78])))))) (.seq (.reg [c1 4 (.bool true) .mv]) .ret)))))
theorem X7:As Tryz.prog 11 2=some ⟨110,2,[(.slot 4)],M3⟩:=by kernel_rfl
def Kw:AC:=(.seq (.reg [c1 0 (.bool false) .mv]) (.seq (.reg [m_ 10 [k_ (.int .i64 97),k_ (.int .i64 97)] (.build [(.int .i64 0),(.int .i64 0)] [(0,1),(1,1)] [0,1]),o1 11 10 (.bslice 2 1 (.agg [(.int .i64 0),(.int .i64 0)]) [0]),o1 12 11 (.bslice 1 1 .nilS [0]),m_ 13 [k_ (.int .i64 98),k_ (.int .i64 98)] (.build [(.int .i64 0),(.int .i64 0)] [(0,1),(1,1)] [0,1]),o1 14 13 (.bslice 2 1 (.agg [(.int .i64 0),(.int .i64 0)]) [0]),o1 15 14 (.bslice 1 1 .nilS [0]),v_ 1 12,v_ 2 15]) (.seq (.reg [c1 16 (.int .i64 1) (.build [(.int .i64 0),.nilS,.nilS] [(0,1),(1,1),(2,1)] [0]),o1 17 16 (.bslice 3 1 (.agg [(.int .i64 0),.nilS,.nilS]) [0]),v_ 18 1,m_ 19 [k_ (.int .i64 1),s_ 18,k_ (.int .i64 1)] (.build [(.int .i64 0),(.int .i64 0),.nilS,(.int .i64 0),.nilS] [(0,1),(1,1),(2,1),(3,1),(4,1)] [1,2,3]),v_ 20 2,m_ 21 [k_ (.int .i64 2),s_ 20,k_ (.int .i64 1)] (.build [(.int .i64 0),(.int .i64 0),.nilS,(.int .i64 0),.nilS] [(0,1),(1,1),(2,1),(3,1),(4,1)] [1,2,3]),o2 22 19 21 (.bslice 5 2 (.agg [(.int .i64 0),(.int .i64 0),.nilS,(.int .i64 0),.nilS]) [0,1]),m_ 23 [k_ (.int .i64 1),k_ (.int .i64 1),k_ (.int .i64 3),s_ 17,s_ 22] (.build [(.int .i64 0),(.int .i64 0),(.int .i64 0),(.int .i64 0),.nilS,.nilS] [(0,1),(1,1),(2,1),(3,1),(4,1),(5,1)] [0,1,2,5,4]),o0 3 (.alloc (.agg [(.int .i64 0),(.int .i64 0),(.int .i64 0),(.int .i64 0),.nilS,.nilS]) 6),n2 3 23 (.store 6)]) (.seq (.reg [o1 25 3 l6,k1 26 14 25,v_ 24 26,o1 27 24 (.extract 0),o1 28 24 (.extract 1),v_ 4 27,v_ 5 28]) (.seq (.reg [o1 30 3 l6,k1 31 15 30,v_ 29 31,o1 32 29 (.extract 0),o1 33 29 (.extract 1),v_ 6 32,v_ 7 33]) (.seq (.reg [o1 35 3 l6,k1 36 19 35,v_ 34 36,o1 37 34 (.extract 0),o1 38 34 (.extract 1),o0 8 (.alloc (.agg [(.int .i64 0),(.int .i64 0),(.int .i64 0),(.int .i64 0),.nilS,.nilS]) 6),n2 8 37 (.store 6),v_ 9 38]) (.seq (.reg [v_ 39 5,c2 40 39 (.int .i64 0) beq_,v_ 41 40,g1 42 41 7 .mv,g_ 43 41 true [s_ 42,k_ (.int .i64 0)] beq_,m_ 44 [s_ 41,s_ 43,k_ (.bool false)] .pick,v_ 45 44,g1 46 45 9 .mv,g_ 47 45 true [s_ 46,k_ (.int .i64 0)] beq_,m_ 48 [s_ 45,s_ 47,k_ (.bool false)] .pick,v_ 49 48,g1 50 49 4 .mv,g1 51 49 50 ln,g_ 52 49 true [s_ 51,k_ (.int .i64 3)] beq_,m_ 53 [s_ 49,s_ 52,k_ (.bool false)] .pick,v_ 54 53,g1 55 54 6 .mv,g1 56 54 55 ln,g_ 57 54 true [s_ 56,k_ (.int .i64 2)] beq_,m_ 58 [s_ 54,s_ 57,k_ (.bool false)] .pick,v_ 59 58,g1 60 59 8 f2_,g1 61 59 60 ld,g_ 62 59 true [s_ 61,k_ (.int .i64 2)] beq_,m_ 63 [s_ 59,s_ 62,k_ (.bool false)] .pick,v_ 64 63,g1 65 64 8 f4_,g1 66 64 65 ld,g1 67 64 66 ln,g_ 68 64 true [s_ 67,k_ (.int .i64 1)] beq_,m_ 69 [s_ 64,s_ 68,k_ (.bool false)] .pick,v_ 0 69]) .ret)))))))
theorem U7:As Tryz.prog 13 0=some ⟨70,0,[(.slot 0)],Kw⟩:=by kernel_rfl
def M4:AC:=(.seq (.reg [o1 1 0 .box,c1 2 .nilS .mv,c1 3 (.int .i64 0) .mv]) (.seq (.seq (.reg [o1 5 1 l6,k1 6 23 5,v_ 4 6]) (.seq (.reg [v_ 7 4,c2 8 7 (.int .i64 0) bne_]) (.cond (.slot 8) (.seq (.reg [v_ 9 4,c1 2 .nilS .mv,v_ 3 9]) .ret) .skip))) (.seq (.reg [o1 10 1 l6,k1 11 34 10,k1 12 33 11,v_ 2 12,c1 3 (.int .i64 0) .mv]) .ret)))
theorem X8:As Tryz.prog 14 1=some ⟨13,1,[(.slot 2),(.slot 3)],M4⟩:=by kernel_rfl
def Kx:AC:=(.seq (.reg [o1 1 0 .box,c1 2 .nilS .mv,c1 3 (.int .i64 0) .mv]) (.seq (.seq (.reg [o1 5 1 l6,k1 6 23 5,v_ 4 6]) (.seq (.reg [v_ 7 4,c2 8 7 (.int .i64 0) bne_]) (.cond (.slot 8) (.seq (.reg [v_ 9 4,c1 2 .nilS .mv,v_ 3 9]) .ret) .skip))) (.seq (.reg [o1 10 1 l6,k1 11 35 10,k1 12 33 11,v_ 2 12,c1 3 (.int .i64 0) .mv]) .ret)))
theorem U8:As Tryz.prog 15 1=some ⟨13,1,[(.slot 2),(.slot 3)],Kx⟩:=by kernel_rfl
def Ky:AC:=(.seq (.reg [o1 1 0 .box,c1 2 .nilS .mv]) (.seq (.reg [o1 6 1 f2_,o1 7 6 ld,o2 8 7 7 (.mkSlice 1 1 (.bool false)),v_ 3 8]) (.seq (.reg [v_ 9 3,o1 10 1 f3_,o1 11 10 ld,o2 12 9 11 a1_,h_ [s_ 12,k_ (.bool true)] st]) (.seq (.seq (.reg [c1 4 (.bool true) .mv]) (.block 0 (.loop (.seq (.seq (.reg [v_ 13 4]) (.cond (.slot 13) .skip (.exit 0))) (.block 1 (.seq (.reg [c1 4 (.bool false) .mv]) (.seq (.reg [c1 5 (.int .i64 0) .mv]) (.block 2 (.loop (.seq (.seq (.reg [v_ 14 5,o1 15 1 f4_,o1 16 15 ld,o1 17 16 ln,o2 18 14 17 bls_]) (.cond (.slot 18) .skip (.exit 2))) (.seq (.block 3 (.seq (.reg [v_ 21 3,o1 22 1 f4_,o1 23 22 ld,v_ 24 5,o2 25 23 24 a5_,o1 26 25 f0_,o1 27 26 ld,o2 28 21 27 a1_,o1 29 28 ld,v_ 30 29,g1 31 30 3 .mv,g1 32 30 1 f4_,g1 33 30 32 ld,g1 34 30 5 .mv,g2 35 30 33 34 a5_,g1 36 30 35 f1_,g1 37 30 36 ld,g2 38 30 31 37 a1_,g1 39 30 38 ld,g1 40 30 39 nt,m_ 41 [s_ 30,s_ 40,k_ (.bool false)] .pick]) (.cond (.slot 41) (.seq (.reg [v_ 42 3,o1 43 1 f4_,o1 44 43 ld,v_ 45 5,o2 46 44 45 a5_,o1 47 46 f1_,o1 48 47 ld,o2 49 42 48 a1_,h_ [s_ 49,k_ (.bool true)] st]) (.reg [c1 4 (.bool true) .mv])) .skip))) (.reg [v_ 19 5,c2 20 19 (.int .i64 1) bad_,v_ 5 20])))))))))))) (.seq (.reg [v_ 50 3,v_ 2 50]) .ret)))))
theorem U9:As Tryz.prog 17 1=some ⟨51,1,[(.slot 2)],Ky⟩:=by kernel_rfl
def Jj:AC:=(.seq (.reg [o1 1 0 .box,c1 2 .nilS .mv]) (.seq (.reg [o1 7 1 f2_,o1 8 7 ld,o2 9 8 8 (.mkSlice 1 1 (.bool false)),v_ 3 9]) (.seq (.seq (.reg [c1 4 (.int .i64 0) .mv]) (.block 0 (.loop (.seq (.seq (.reg [v_ 10 4,o1 11 1 f5_,o1 12 11 ld,o1 13 12 ln,o2 14 10 13 bls_]) (.cond (.slot 14) .skip (.exit 0))) (.seq (.block 1 (.reg [v_ 17 3,o1 18 1 f5_,o1 19 18 ld,v_ 20 4,o2 21 19 20 a3_,o1 22 21 f0_,o1 23 22 ld,o2 24 17 23 a1_,h_ [s_ 24,k_ (.bool true)] st])) (.reg [v_ 15 4,c2 16 15 (.int .i64 1) bad_,v_ 4 16])))))) (.seq (.seq (.reg [c1 5 (.bool true) .mv]) (.block 2 (.loop (.seq (.seq (.reg [v_ 25 5]) (.cond (.slot 25) .skip (.exit 2))) (.block 3 (.seq (.reg [c1 5 (.bool false) .mv]) (.seq (.reg [c1 6 (.int .i64 0) .mv]) (.block 4 (.loop (.seq (.seq (.reg [v_ 26 6,o1 27 1 f4_,o1 28 27 ld,o1 29 28 ln,o2 30 26 29 bls_]) (.cond (.slot 30) .skip (.exit 4))) (.seq (.block 5 (.seq (.reg [v_ 33 3,o1 34 1 f4_,o1 35 34 ld,v_ 36 6,o2 37 35 36 a5_,o1 38 37 f1_,o1 39 38 ld,o2 40 33 39 a1_,o1 41 40 ld,v_ 42 41,g1 43 42 3 .mv,g1 44 42 1 f4_,g1 45 42 44 ld,g1 46 42 6 .mv,g2 47 42 45 46 a5_,g1 48 42 47 f0_,g1 49 42 48 ld,g2 50 42 43 49 a1_,g1 51 42 50 ld,g1 52 42 51 nt,m_ 53 [s_ 42,s_ 52,k_ (.bool false)] .pick]) (.cond (.slot 53) (.seq (.reg [v_ 54 3,o1 55 1 f4_,o1 56 55 ld,v_ 57 6,o2 58 56 57 a5_,o1 59 58 f0_,o1 60 59 ld,o2 61 54 60 a1_,h_ [s_ 61,k_ (.bool true)] st]) (.reg [c1 5 (.bool true) .mv])) .skip))) (.reg [v_ 31 6,c2 32 31 (.int .i64 1) bad_,v_ 6 32])))))))))))) (.seq (.reg [v_ 62 3,v_ 2 62]) .ret)))))
theorem Rt:As Tryz.prog 18 1=some ⟨63,1,[(.slot 2)],Jj⟩:=by kernel_rfl
def J7:AC:=(.seq (.reg [o1 1 0 .box,o0 2 (.alloc (.agg [(.int .i64 0),(.int .i64 0),(.int .i64 0),(.int .i64 0),.nilS,.nilS]) 6),c1 3 (.int .i64 0) .mv]) (.seq (.seq (.reg [o1 14 1 l6,k1 15 23 14,v_ 4 15]) (.seq (.reg [v_ 16 4,c2 17 16 (.int .i64 0) bne_]) (.cond (.slot 17) (.seq (.reg [o0 18 (.build [(.int .i64 0),(.int .i64 0),(.int .i64 0),(.int .i64 0),.nilS,.nilS] [(0,1),(1,1),(2,1),(3,1),(4,1),(5,1)] []),v_ 19 4,n2 2 18 (.store 6),v_ 3 19]) .ret) .skip))) (.seq (.dreg [o1 20 1 l6,k1 21 34 20,o1 22 1 l6,k1 23 35 22,v_ 5 21,v_ 6 23]) (.seq (.seq (.reg [v_ 24 6,o1 25 1 f3_,o1 26 25 ld,o2 27 24 26 a1_,o1 28 27 ld,o1 29 28 nt]) (.cond (.slot 29) (.seq (.reg [o1 30 1 f0_,o1 31 30 ld,o1 32 1 f1_,o1 33 32 ld,k2 34 26 31 33,n2 2 34 (.store 6),c1 3 (.int .i64 0) .mv]) .ret) .skip)) (.seq (.reg [o1 35 1 f2_,o1 36 35 ld,o2 37 36 36 (.mkSlice 1 8 (.int .i64 0)),v_ 7 37]) (.seq (.reg [o1 38 1 f0_,o1 39 38 ld,o1 40 1 f1_,o1 41 40 ld,o2 42 39 41 (.build [(.int .i64 0),(.int .i64 0),(.int .i64 0),(.int .i64 0),.nilS,.nilS] [(0,1),(1,1),(2,1),(3,1),(4,1),(5,1)] [0,1]),o0 8 (.alloc (.agg [(.int .i64 0),(.int .i64 0),(.int .i64 0),(.int .i64 0),.nilS,.nilS]) 6),n2 8 42 (.store 6)]) (.seq (.seq (.reg [v_ 43 7,o1 44 43 ln,c1 45 (.int .i64 0) .mv]) (.block 0 (.loop (.seq (.reg [o2 46 45 44 bls_]) (.seq (.cond (.slot 46) .skip (.exit 0)) (.seq (.block 1 (.seq (.reg [v_ 47 45,v_ 9 47]) (.seq (.reg [v_ 48 7,v_ 49 9,o2 50 48 49 a1_,h_ [s_ 50,k_ (.int .i64 (-1))] st]) (.seq (.reg [v_ 51 5,v_ 52 9,o2 53 51 52 a1_,o1 54 53 ld,v_ 55 54,g1 56 55 6 .mv,g1 57 55 9 .mv,g2 58 55 56 57 a1_,g1 59 55 58 ld,m_ 60 [s_ 55,s_ 59,k_ (.bool false)] .pick]) (.cond (.slot 60) (.seq (.reg [v_ 61 7,v_ 62 9,o1 63 8 f2_,o1 64 63 ld,o2 65 61 62 a1_,n2 65 64 st]) (.reg [o1 66 8 f2_,o1 67 66 ld,c2 68 67 (.int .i64 1) bad_,o1 69 8 f2_,n2 69 68 st])) .skip))))) (.reg [c2 70 45 (.int .i64 1) bad_,v_ 45 70]))))))) (.seq (.reg [v_ 71 7,o1 72 1 f3_,o1 73 72 ld,o2 74 71 73 a1_,o1 75 74 ld,o1 76 8 f3_,n2 76 75 st]) (.seq (.seq (.reg [o1 77 1 f4_,o1 78 77 ld,o1 79 78 ln,c1 80 (.int .i64 0) .mv]) (.block 2 (.loop (.seq (.reg [o2 81 80 79 bls_]) (.seq (.cond (.slot 81) .skip (.exit 2)) (.seq (.block 3 (.seq (.reg [o2 82 78 80 a5_,o1 83 82 (.load true 5),o0 11 (.alloc (.agg [(.int .i64 0),(.int .i64 0),.nilS,(.int .i64 0),.nilS]) 5),n2 11 83 (.store 5)]) (.seq (.gry [false,false,false,false,false,false,false,false,false,true,false,false,false,false] [m_ 84 [s_ 7] .mv,m_ 85 [s_ 11] f0_,m_ 86 [s_ 85] ld,m_ 87 [s_ 84,s_ 86] a1_,m_ 88 [s_ 87] ld,m_ 89 [s_ 7] .mv,m_ 90 [s_ 11] f1_,m_ 91 [s_ 90] ld,m_ 92 [s_ 89,s_ 91] a1_,m_ 93 [s_ 92] ld,m_ 94 [s_ 11] f0_,h_ [s_ 94,s_ 88] st,m_ 95 [s_ 11] f1_,h_ [s_ 95,s_ 93] st]) (.seq (.reg [o1 96 11 f0_,o1 97 96 ld,c2 98 97 (.int .i64 0) bge_,v_ 99 98,g1 100 99 11 f1_,g1 101 99 100 ld,g_ 102 99 true [s_ 101,k_ (.int .i64 0)] bge_,m_ 103 [s_ 99,s_ 102,k_ (.bool false)] .pick]) (.cond (.slot 103) (.seq (.reg [o1 105 11 f2_,o1 106 105 ld,o1 107 11 f4_,o1 108 107 ld,k2 109 36 106 108,v_ 104 109,o1 110 104 (.extract 0),o1 111 104 (.extract 1),o1 112 11 f2_,n2 112 110 st,o1 113 11 f4_,n2 113 111 st]) (.reg [o1 114 8 f4_,o1 115 114 ld,o1 116 11 (.load true 5),o1 117 116 (.bslice 5 1 (.agg [(.int .i64 0),(.int .i64 0),.nilS,(.int .i64 0),.nilS]) [0]),o2 118 115 117 (.app 5 72 (.agg [(.int .i64 0),(.int .i64 0),.nilS,(.int .i64 0),.nilS])),o1 119 8 f4_,n2 119 118 st])) .skip))))) (.reg [c2 120 80 (.int .i64 1) bad_,v_ 80 120]))))))) (.seq (.seq (.reg [o1 121 1 f5_,o1 122 121 ld,o1 123 122 ln,c1 124 (.int .i64 0) .mv]) (.block 4 (.loop (.seq (.reg [o2 125 124 123 bls_]) (.seq (.cond (.slot 125) .skip (.exit 4)) (.seq (.block 5 (.seq (.reg [o2 126 122 124 a3_,o1 127 126 (.load true 3),o0 13 (.alloc (.agg [(.int .i64 0),.nilS,.nilS]) 3),n2 13 127 (.store 3)]) (.seq (.reg [v_ 128 7,o1 129 13 f0_,o1 130 129 ld,o2 131 128 130 a1_,o1 132 131 ld,o1 133 13 f0_,n2 133 132 st]) (.seq (.reg [o1 134 13 f0_,o1 135 134 ld,c2 136 135 (.int .i64 0) bge_]) (.cond (.slot 136) (.seq (.reg [o1 138 13 f1_,o1 139 138 ld,o1 140 13 f2_,o1 141 140 ld,k2 142 36 139 141,v_ 137 142,o1 143 137 (.extract 0),o1 144 137 (.extract 1),o1 145 13 f1_,n2 145 143 st,o1 146 13 f2_,n2 146 144 st]) (.reg [o1 147 8 f5_,o1 148 147 ld,o1 149 13 (.load true 3),o1 150 149 (.bslice 3 1 (.agg [(.int .i64 0),.nilS,.nilS]) [0]),o2 151 148 150 (.app 3 56 (.agg [(.int .i64 0),.nilS,.nilS])),o1 152 8 f5_,n2 152 151 st])) .skip))))) (.reg [c2 153 124 (.int .i64 1) bad_,v_ 124 153]))))))) (.seq (.reg [o1 154 8 l6,n2 2 154 (.store 6),c1 3 (.int .i64 0) .mv]) .ret)))))))))))
theorem Pn:As Tryz.prog 19 1=some ⟨155,1,[(.cell 2 true 6),(.slot 3)],J7⟩:=by kernel_rfl
def M5:AC:=(.seq (.reg [o1 1 0 .box,o0 2 (.alloc (.agg [(.int .i64 0),(.int .i64 0),(.int .i64 0),(.int .i64 0),.nilS,.nilS]) 6)]) (.seq (.dreg [o1 14 1 l6,k1 15 17 14,o1 16 1 l6,k1 17 18 16,v_ 3 15,v_ 4 17]) (.seq (.seq (.reg [v_ 18 4,o1 19 1 f3_,o1 20 19 ld,o2 21 18 20 a1_,o1 22 21 ld,o1 23 22 nt]) (.cond (.slot 23) (.seq (.reg [o1 24 1 f0_,o1 25 24 ld,o1 26 1 f1_,o1 27 26 ld,m_ 28 [s_ 25,s_ 27,k_ (.int .i64 1)] (.build [(.int .i64 0),(.int .i64 0),(.int .i64 0),(.int .i64 0),.nilS,.nilS] [(0,1),(1,1),(2,1),(3,1),(4,1),(5,1)] [0,1,2]),n2 2 28 (.store 6)]) .ret) .skip)) (.seq (.greg [o1 29 1 f0_,o1 30 29 ld,o1 31 1 f1_,o1 32 31 ld,v_ 33 3,v_ 34 4,o1 35 1 f3_,o1 36 35 ld,k3 37 37 33 34 36,o3 38 30 32 37 (.build [(.int .i64 0),(.int .i64 0),(.int .i64 0),(.int .i64 0),.nilS,.nilS] [(0,1),(1,1),(2,1),(3,1),(4,1),(5,1)] [0,1,3]),o0 5 (.alloc (.agg [(.int .i64 0),(.int .i64 0),(.int .i64 0),(.int .i64 0),.nilS,.nilS]) 6),n2 5 38 (.store 6)]) (.seq (.seq (.reg [c1 6 (.int .i64 0) .mv]) (.block 0 (.loop (.seq (.seq (.reg [v_ 39 6,o1 40 1 f2_,o1 41 40 ld,o2 42 39 41 bls_]) (.cond (.slot 42) .skip (.exit 0))) (.seq (.block 1 (.seq (.reg [v_ 45 3,v_ 46 6,o2 47 45 46 a1_,o1 48 47 ld,v_ 49 48,g1 50 49 4 .mv,g1 51 49 6 .mv,g2 52 49 50 51 a1_,g1 53 49 52 ld,m_ 54 [s_ 49,s_ 53,k_ (.bool false)] .pick]) (.cond (.slot 54) (.reg [o1 55 5 f2_,o1 56 55 ld,c2 57 56 (.int .i64 1) bad_,o1 58 5 f2_,n2 58 57 st]) .skip))) (.reg [v_ 43 6,c2 44 43 (.int .i64 1) bad_,v_ 6 44])))))) (.seq (.seq (.reg [c1 7 (.int .i64 0) .mv]) (.block 2 (.loop (.seq (.seq (.reg [v_ 59 7,o1 60 1 f4_,o1 61 60 ld,o1 62 61 ln,o2 63 59 62 bls_]) (.cond (.slot 63) .skip (.exit 2))) (.seq (.block 3 (.seq (.reg [o1 66 1 f4_,o1 67 66 ld,v_ 68 7,o2 69 67 68 a5_,o1 70 69 (.load true 5),o0 8 (.alloc (.agg [(.int .i64 0),(.int .i64 0),.nilS,(.int .i64 0),.nilS]) 5),n2 8 70 (.store 5)]) (.seq (.dreg [v_ 71 3,v_ 72 4,o1 73 8 f0_,o1 74 73 ld,k3 75 37 71 72 74,v_ 76 3,v_ 77 4,o1 78 8 f1_,o1 79 78 ld,k3 80 37 76 77 79,v_ 9 75,v_ 10 80]) (.seq (.reg [v_ 81 9,c2 82 81 (.int .i64 0) bge_,v_ 83 82,g1 84 83 10 .mv,g_ 85 83 true [s_ 84,k_ (.int .i64 0)] bge_,m_ 86 [s_ 83,s_ 85,k_ (.bool false)] .pick]) (.cond (.slot 86) (.reg [o1 87 5 f4_,o1 88 87 ld,v_ 89 9,v_ 90 10,o1 91 8 f2_,o1 92 91 ld,o1 93 8 f3_,o1 94 93 ld,o1 95 8 f4_,o1 96 95 ld,m_ 97 [s_ 89,s_ 90,s_ 92,s_ 94,s_ 96] (.build [(.int .i64 0),(.int .i64 0),.nilS,(.int .i64 0),.nilS] [(0,1),(1,1),(2,1),(3,1),(4,1)] [0,1,2,3,4]),o1 98 97 (.bslice 5 1 (.agg [(.int .i64 0),(.int .i64 0),.nilS,(.int .i64 0),.nilS]) [0]),o2 99 88 98 (.app 5 72 (.agg [(.int .i64 0),(.int .i64 0),.nilS,(.int .i64 0),.nilS])),o1 100 5 f4_,n2 100 99 st]) .skip))))) (.reg [v_ 64 7,c2 65 64 (.int .i64 1) bad_,v_ 7 65])))))) (.seq (.seq (.reg [c1 11 (.int .i64 0) .mv]) (.block 4 (.loop (.seq (.seq (.reg [v_ 101 11,o1 102 1 f5_,o1 103 102 ld,o1 104 103 ln,o2 105 101 104 bls_]) (.cond (.slot 105) .skip (.exit 4))) (.seq (.block 5 (.seq (.reg [o1 108 1 f5_,o1 109 108 ld,v_ 110 11,o2 111 109 110 a3_,o1 112 111 (.load true 3),o0 12 (.alloc (.agg [(.int .i64 0),.nilS,.nilS]) 3),n2 12 112 (.store 3)]) (.seq (.reg [v_ 113 3,v_ 114 4,o1 115 12 f0_,o1 116 115 ld,k3 117 37 113 114 116,v_ 13 117]) (.seq (.reg [v_ 118 13,c2 119 118 (.int .i64 0) bge_]) (.cond (.slot 119) (.reg [o1 120 5 f5_,o1 121 120 ld,v_ 122 13,o1 123 12 f1_,o1 124 123 ld,o1 125 12 f2_,o1 126 125 ld,o3 127 122 124 126 (.build [(.int .i64 0),.nilS,.nilS] [(0,1),(1,1),(2,1)] [0,1,2]),o1 128 127 (.bslice 3 1 (.agg [(.int .i64 0),.nilS,.nilS]) [0]),o2 129 121 128 (.app 3 56 (.agg [(.int .i64 0),.nilS,.nilS])),o1 130 5 f5_,n2 130 129 st]) .skip))))) (.reg [v_ 106 11,c2 107 106 (.int .i64 1) bad_,v_ 11 107])))))) (.seq (.reg [o1 131 5 l6,n2 2 131 (.store 6)]) .ret))))))))
theorem X9:As Tryz.prog 20 1=some ⟨132,1,[(.cell 2 true 6)],M5⟩:=by kernel_rfl
def M6:AC:=(.seq (.reg [o1 1 0 .box,c1 2 (.int .i64 0) .mv]) (.seq (.seq (.reg [o1 6 1 l6,k1 7 48 6,v_ 5 7,o1 8 5 (.extract 0),o1 9 5 (.extract 1),v_ 3 8,v_ 4 9]) (.seq (.reg [v_ 10 3,c2 11 10 (.int .i64 0) bne_]) (.cond (.slot 11) (.seq (.reg [c1 2 (.int .i64 2) .mv]) .ret) .skip))) (.seq (.reg [c1 2 (.int .i64 0) .mv]) .ret)))
theorem Ya:As Tryz.prog 23 1=some ⟨12,1,[(.slot 2)],M6⟩:=by kernel_rfl
def M7:AC:=(.seq (.reg [c1 4 (.int .i64 0) .mv]) (.seq (.seq (.reg [v_ 8 0,o1 9 8 ln,c2 10 9 (.int .i64 100) bgt_,v_ 11 10,g_ 12 11 false [s_ 1] .mv,g_ 13 11 false [s_ 12] ln,g_ 14 11 false [s_ 13,k_ (.int .i64 200)] bgt_,m_ 15 [s_ 11,k_ (.bool true),s_ 14] .pick]) (.cond (.slot 15) (.seq (.reg [c1 4 (.int .i64 4000) .mv]) .ret) .skip)) (.seq (.reg [c1 5 (.int .i64 1) .mv]) (.seq (.seq (.reg [c1 6 (.int .i64 0) .mv]) (.block 0 (.loop (.seq (.seq (.reg [v_ 16 6,v_ 17 0,o1 18 17 ln,o2 19 16 18 bls_]) (.cond (.slot 19) .skip (.exit 0))) (.seq (.block 1 (.reg [v_ 22 5,v_ 23 0,v_ 24 6,o2 25 23 24 a1_,o1 26 25 ld,o1 27 26 ln,c2 28 27 (.int .i64 4000) .min,o2 29 22 28 bad_,v_ 5 29])) (.reg [v_ 20 6,c2 21 20 (.int .i64 1) bad_,v_ 6 21])))))) (.seq (.seq (.reg [c1 7 (.int .i64 0) .mv]) (.block 2 (.loop (.seq (.seq (.reg [v_ 30 7,v_ 31 1,o1 32 31 ln,o2 33 30 32 bls_]) (.cond (.slot 33) .skip (.exit 2))) (.seq (.block 3 (.reg [v_ 36 5,c2 37 36 (.int .i64 1) bad_,v_ 38 1,v_ 39 7,o2 40 38 39 a6_,o1 41 40 f5_,o1 42 41 ld,o1 43 42 ln,c2 44 43 (.int .i64 4000) .min,o2 45 37 44 bad_,v_ 5 45])) (.reg [v_ 34 7,c2 35 34 (.int .i64 1) bad_,v_ 7 35])))))) (.seq (.reg [v_ 46 5,v_ 4 46]) .ret))))))
theorem Yb:As Tryz.prog 24 2=some ⟨47,2,[(.slot 4)],M7⟩:=by kernel_rfl
def M8:AC:=(.seq (.reg [o0 4 (.alloc (.agg [(.int .i64 0),(.int .i64 0),(.int .i64 0),(.int .i64 0),.nilS,.nilS]) 6)]) (.seq (.reg [v_ 5 0,v_ 6 1,m_ 7 [s_ 5,s_ 6,k_ (.int .i64 1)] (.build [(.int .i64 0),(.int .i64 0),(.int .i64 0),(.int .i64 0),.nilS,.nilS] [(0,1),(1,1),(2,1),(3,1),(4,1),(5,1)] [0,1,2]),n2 4 7 (.store 6)]) .ret))
theorem Yc:As Tryz.prog 26 2=some ⟨8,2,[(.cell 4 true 6)],M8⟩:=by kernel_rfl
def Kz:AC:=(.seq (.reg [o1 1 0 .box,c1 2 (.int .i64 0) .mv,c1 3 (.int .i64 0) .mv]) (.seq (.seq (.reg [o1 10 1 f0_,o1 11 10 ld,c2 12 11 (.int .i64 1) bne_,v_ 13 12,g1 14 13 1 f0_,g1 15 13 14 ld,g_ 16 13 true [s_ 15,k_ (.int .i64 2)] bne_,m_ 17 [s_ 13,s_ 16,k_ (.bool false)] .pick,v_ 18 17,g_ 19 18 false [s_ 1] f1_,g_ 20 18 false [s_ 19] ld,g_ 21 18 false [s_ 20,k_ (.int .i64 1)] bne_,g_ 22 18 false [s_ 21] .mv,g1 23 22 1 f1_,g1 24 22 23 ld,g_ 25 22 true [s_ 24,k_ (.int .i64 2)] bne_,g_ 26 18 false [s_ 22,s_ 25,k_ (.bool false)] .pick,m_ 27 [s_ 18,k_ (.bool true),s_ 26] .pick,v_ 28 27,g_ 29 28 false [s_ 1] f2_,g_ 30 28 false [s_ 29] ld,g_ 31 28 false [s_ 30,k_ (.int .i64 1)] bls_,m_ 32 [s_ 28,k_ (.bool true),s_ 31] .pick,v_ 33 32,g_ 34 33 false [s_ 1] f2_,g_ 35 33 false [s_ 34] ld,g_ 36 33 false [s_ 35,k_ (.int .i64 1024)] bgt_,m_ 37 [s_ 33,k_ (.bool true),s_ 36] .pick,v_ 38 37,g_ 39 38 false [s_ 1] f3_,g_ 40 38 false [s_ 39] ld,g_ 41 38 false [s_ 40,k_ (.int .i64 0)] bls_,m_ 42 [s_ 38,k_ (.bool true),s_ 41] .pick,v_ 43 42,g_ 44 43 false [s_ 1] f3_,g_ 45 43 false [s_ 44] ld,g_ 46 43 false [s_ 1] f2_,g_ 47 43 false [s_ 46] ld,g_ 48 43 false [s_ 45,s_ 47] bge_,m_ 49 [s_ 43,k_ (.bool true),s_ 48] .pick,v_ 50 49,g_ 51 50 false [s_ 1] f4_,g_ 52 50 false [s_ 51] ld,g_ 53 50 false [s_ 52] ln,g_ 54 50 false [s_ 53,k_ (.int .i64 4096)] bgt_,m_ 55 [s_ 50,k_ (.bool true),s_ 54] .pick,v_ 56 55,g_ 57 56 false [s_ 1] f5_,g_ 58 56 false [s_ 57] ld,g_ 59 56 false [s_ 58] ln,g_ 60 56 false [s_ 59,k_ (.int .i64 4096)] bgt_,m_ 61 [s_ 56,k_ (.bool true),s_ 60] .pick]) (.cond (.slot 61) (.seq (.reg [c1 2 (.int .i64 1) .mv,c1 3 (.int .i64 0) .mv]) .ret) .skip)) (.seq (.seq (.reg [c1 4 (.int .i64 0) .mv]) (.block 0 (.loop (.seq (.seq (.reg [v_ 62 4,o1 63 1 f4_,o1 64 63 ld,o1 65 64 ln,o2 66 62 65 bls_]) (.cond (.slot 66) .skip (.exit 0))) (.seq (.block 1 (.seq (.reg [o1 69 1 f4_,o1 70 69 ld,v_ 71 4,o2 72 70 71 a5_,o1 73 72 (.load true 5),o0 5 (.alloc (.agg [(.int .i64 0),(.int .i64 0),.nilS,(.int .i64 0),.nilS]) 5),n2 5 73 (.store 5)]) (.seq (.reg [o1 74 5 f2_,o1 75 74 ld,o1 76 75 ln,v_ 6 76]) (.seq (.reg [v_ 77 6,c2 78 77 (.int .i64 0) beq_,v_ 79 78,g1 80 79 5 f3_,g1 81 79 80 ld,g_ 82 79 true [s_ 81,k_ (.int .i64 0)] beq_,m_ 83 [s_ 79,s_ 82,k_ (.bool false)] .pick,v_ 84 83,g_ 85 84 false [s_ 5] f3_,g_ 86 84 false [s_ 85] ld,g_ 87 84 false [s_ 86,k_ (.int .i64 1)] bge_,g_ 88 84 false [s_ 87] .mv,g1 89 88 5 f3_,g1 90 88 89 ld,g1 91 88 6 .mv,g2 92 88 90 91 ble_,g_ 93 84 false [s_ 88,s_ 92,k_ (.bool false)] .pick,m_ 94 [s_ 84,k_ (.bool true),s_ 93] .pick,v_ 7 94]) (.seq (.reg [o1 95 5 f0_,o1 96 95 ld,c2 97 96 (.int .i64 0) bls_,v_ 98 97,g_ 99 98 false [s_ 5] f0_,g_ 100 98 false [s_ 99] ld,g_ 101 98 false [s_ 1] f2_,g_ 102 98 false [s_ 101] ld,g_ 103 98 false [s_ 100,s_ 102] bge_,m_ 104 [s_ 98,k_ (.bool true),s_ 103] .pick,v_ 105 104,g_ 106 105 false [s_ 5] f1_,g_ 107 105 false [s_ 106] ld,g_ 108 105 false [s_ 107,k_ (.int .i64 0)] bls_,m_ 109 [s_ 105,k_ (.bool true),s_ 108] .pick,v_ 110 109,g_ 111 110 false [s_ 5] f1_,g_ 112 110 false [s_ 111] ld,g_ 113 110 false [s_ 1] f2_,g_ 114 110 false [s_ 113] ld,g_ 115 110 false [s_ 112,s_ 114] bge_,m_ 116 [s_ 110,k_ (.bool true),s_ 115] .pick,v_ 117 116,g_ 118 117 false [s_ 7] .mv,g_ 119 117 false [s_ 118] nt,m_ 120 [s_ 117,k_ (.bool true),s_ 119] .pick,v_ 121 120,g_ 122 121 false [s_ 1] f0_,g_ 123 121 false [s_ 122] ld,g_ 124 121 false [s_ 5] f2_,g_ 125 121 false [s_ 124] ld,g_ 126 121 false [k_ (.fn 53 []),s_ 123,s_ 125] .call,g_ 127 121 false [s_ 126] nt,m_ 128 [s_ 121,k_ (.bool true),s_ 127] .pick,v_ 129 128,g_ 130 129 false [s_ 1] l6,g_ 131 129 false [s_ 5] f4_,g_ 132 129 false [s_ 131] ld,g_ 133 129 false [s_ 5] f2_,g_ 134 129 false [s_ 133] ld,g_ 135 129 false [k_ (.fn 54 []),s_ 130,s_ 132,s_ 134] .call,g_ 136 129 false [s_ 135] nt,m_ 137 [s_ 129,k_ (.bool true),s_ 136] .pick]) (.cond (.slot 137) (.seq (.reg [v_ 138 4,c1 2 (.int .i64 2) .mv,v_ 3 138]) .ret) .skip)))))) (.reg [v_ 67 4,c2 68 67 (.int .i64 1) bad_,v_ 4 68])))))) (.seq (.seq (.reg [c1 8 (.int .i64 0) .mv]) (.block 2 (.loop (.seq (.seq (.reg [v_ 139 8,o1 140 1 f5_,o1 141 140 ld,o1 142 141 ln,o2 143 139 142 bls_]) (.cond (.slot 143) .skip (.exit 2))) (.seq (.block 3 (.seq (.reg [o1 146 1 f5_,o1 147 146 ld,v_ 148 8,o2 149 147 148 a3_,o1 150 149 (.load true 3),o0 9 (.alloc (.agg [(.int .i64 0),.nilS,.nilS]) 3),n2 9 150 (.store 3)]) (.seq (.reg [o1 151 9 f0_,o1 152 151 ld,c2 153 152 (.int .i64 0) bls_,v_ 154 153,g_ 155 154 false [s_ 9] f0_,g_ 156 154 false [s_ 155] ld,g_ 157 154 false [s_ 1] f2_,g_ 158 154 false [s_ 157] ld,g_ 159 154 false [s_ 156,s_ 158] bge_,m_ 160 [s_ 154,k_ (.bool true),s_ 159] .pick,v_ 161 160,g_ 162 161 false [s_ 1] f0_,g_ 163 161 false [s_ 162] ld,g_ 164 161 false [s_ 9] f1_,g_ 165 161 false [s_ 164] ld,g_ 166 161 false [k_ (.fn 53 []),s_ 163,s_ 165] .call,g_ 167 161 false [s_ 166] nt,m_ 168 [s_ 161,k_ (.bool true),s_ 167] .pick,v_ 169 168,g_ 170 169 false [s_ 1] l6,g_ 171 169 false [s_ 9] f2_,g_ 172 169 false [s_ 171] ld,g_ 173 169 false [s_ 9] f1_,g_ 174 169 false [s_ 173] ld,g_ 175 169 false [k_ (.fn 54 []),s_ 170,s_ 172,s_ 174] .call,g_ 176 169 false [s_ 175] nt,m_ 177 [s_ 169,k_ (.bool true),s_ 176] .pick]) (.cond (.slot 177) (.seq (.reg [v_ 178 8,c1 2 (.int .i64 3) .mv,v_ 3 178]) .ret) .skip)))) (.reg [v_ 144 8,c2 145 144 (.int .i64 1) bad_,v_ 8 145])))))) (.seq (.seq (.reg [o1 179 1 l6,k1 180 55 179]) (.cond (.slot 180) (.seq (.reg [c1 2 (.int .i64 4) .mv,c1 3 (.int .i64 0) .mv]) .ret) .skip)) (.seq (.reg [c1 2 (.int .i64 0) .mv,c1 3 (.int .i64 0) .mv]) .ret))))))
theorem Va:As Tryz.prog 29 1=some ⟨181,1,[(.slot 2),(.slot 3)],Kz⟩:=by kernel_rfl
def Hk:AC:=(.seq (.reg [o1 2 0 .box,o1 3 1 .box,c1 4 (.bool false) .mv]) (.seq (.reg [o1 5 2 f0_,o1 6 5 ld,o1 7 3 f0_,o1 8 7 ld,o2 9 6 8 beq_,v_ 10 9,g1 11 10 2 f1_,g1 12 10 11 ld,g1 13 10 3 f1_,g1 14 10 13 ld,g2 15 10 12 14 beq_,m_ 16 [s_ 10,s_ 15,k_ (.bool false)] .pick,v_ 17 16,g1 18 17 2 f3_,g1 19 17 18 ld,g1 20 17 3 f3_,g1 21 17 20 ld,g2 22 17 19 21 beq_,m_ 23 [s_ 17,s_ 22,k_ (.bool false)] .pick,v_ 24 23,g1 25 24 2 f2_,g1 26 24 25 ld,g1 27 24 3 f2_,g1 28 24 27 ld,g_ 29 24 true [k_ (.fn 31 []),s_ 26,s_ 28] .call,m_ 30 [s_ 24,s_ 29,k_ (.bool false)] .pick,v_ 31 30,g1 32 31 2 f4_,g1 33 31 32 ld,g1 34 31 3 f4_,g1 35 31 34 ld,g_ 36 31 true [k_ (.fn 32 []),s_ 33,s_ 35] .call,m_ 37 [s_ 31,s_ 36,k_ (.bool false)] .pick,v_ 4 37]) .ret))
theorem N8:As Tryz.prog 30 2=some ⟨38,2,[(.slot 4)],Hk⟩:=by kernel_rfl
def Hl:AC:=(.seq (.reg [c1 4 (.bool false) .mv]) (.seq (.seq (.reg [v_ 6 0,o1 7 6 ln,v_ 8 1,o1 9 8 ln,o2 10 7 9 bne_]) (.cond (.slot 10) (.seq (.reg [c1 4 (.bool false) .mv]) .ret) .skip)) (.seq (.seq (.reg [c1 5 (.int .i64 0) .mv]) (.block 0 (.loop (.seq (.seq (.reg [v_ 11 5,v_ 12 0,o1 13 12 ln,o2 14 11 13 bls_]) (.cond (.slot 14) .skip (.exit 0))) (.seq (.block 1 (.seq (.dtl [v_ 17 0,v_ 18 5,o2 19 17 18 a1_,o1 20 19 ld,v_ 21 1,v_ 22 5,o2 23 21 22 a1_,o1 24 23 ld] [k2 25 56 20 24,o1 26 25 nt]) (.cond (.slot 26) (.seq (.reg [c1 4 (.bool false) .mv]) .ret) .skip))) (.reg [v_ 15 5,c2 16 15 (.int .i64 1) bad_,v_ 5 16])))))) (.seq (.reg [c1 4 (.bool true) .mv]) .ret))))
theorem N9:As Tryz.prog 31 2=some ⟨27,2,[(.slot 4)],Hl⟩:=by kernel_rfl
def Gm:AC:=(.seq (.reg [c1 4 (.bool false) .mv]) (.seq (.seq (.reg [v_ 6 0,o1 7 6 ln,v_ 8 1,o1 9 8 ln,o2 10 7 9 bne_]) (.cond (.slot 10) (.seq (.reg [c1 4 (.bool false) .mv]) .ret) .skip)) (.seq (.seq (.reg [c1 5 (.int .i64 0) .mv]) (.block 0 (.loop (.seq (.seq (.reg [v_ 11 5,v_ 12 0,o1 13 12 ln,o2 14 11 13 bls_]) (.cond (.slot 14) .skip (.exit 0))) (.seq (.block 1 (.seq (.dtl [v_ 17 0,v_ 18 5,o2 19 17 18 a6_,o1 20 19 l6,v_ 21 1,v_ 22 5,o2 23 21 22 a6_,o1 24 23 l6] [k2 25 57 20 24,o1 26 25 nt]) (.cond (.slot 26) (.seq (.reg [c1 4 (.bool false) .mv]) .ret) .skip))) (.reg [v_ 15 5,c2 16 15 (.int .i64 1) bad_,v_ 5 16])))))) (.seq (.reg [c1 4 (.bool true) .mv]) .ret))))
theorem Mf:As Tryz.prog 32 2=some ⟨27,2,[(.slot 4)],Gm⟩:=by kernel_rfl
def Po:AC:=(.seq (.reg [c1 2 .nilS .mv]) (.seq (.reg [c1 3 .nilS .mv]) (.seq (.seq (.reg [v_ 6 0,o1 7 6 ln,c1 8 (.int .i64 0) .mv]) (.block 0 (.loop (.seq (.reg [o2 9 8 7 bls_]) (.seq (.cond (.slot 9) .skip (.exit 0)) (.seq (.block 1 (.seq (.reg [v_ 10 8,o2 11 6 8 a1_,o1 12 11 ld,v_ 4 10,v_ 5 12]) (.seq (.reg [v_ 13 5]) (.cond (.slot 13) (.reg [v_ 14 3,v_ 15 4,o1 16 15 (.bslice 1 1 (.int .i64 0) [0]),o2 17 14 16 (.app 1 8 (.int .i64 0)),v_ 3 17]) .skip)))) (.reg [c2 18 8 (.int .i64 1) bad_,v_ 8 18]))))))) (.seq (.reg [v_ 19 3,v_ 2 19]) .ret))))
theorem z0o:As Tryz.prog 33 1=some ⟨20,1,[(.slot 2)],Po⟩:=by kernel_rfl
def M9:AC:=(.seq (.reg [o1 1 0 .box,c1 2 .nilS .mv]) (.seq (.reg [c1 3 .nilS .mv]) (.seq (.seq (.reg [o1 6 1 f4_,o1 7 6 ld,o1 8 7 ln,c1 9 (.int .i64 0) .mv]) (.block 0 (.loop (.seq (.reg [o2 10 9 8 bls_]) (.seq (.cond (.slot 10) .skip (.exit 0)) (.seq (.block 1 (.seq (.reg [o2 11 7 9 a5_,o1 12 11 (.load true 5),o0 5 (.alloc (.agg [(.int .i64 0),(.int .i64 0),.nilS,(.int .i64 0),.nilS]) 5),n2 5 12 (.store 5)]) (.reg [v_ 13 3,o1 14 5 f0_,o1 15 14 ld,o1 16 5 f1_,o1 17 16 ld,o2 18 15 17 (.build [(.int .i64 0),(.int .i64 0)] [(0,1),(1,1)] [0,1]),o1 19 18 (.bslice 2 1 (.agg [(.int .i64 0),(.int .i64 0)]) [0]),o2 20 13 19 (.app 2 16 (.agg [(.int .i64 0),(.int .i64 0)])),v_ 3 20]))) (.reg [c2 21 9 (.int .i64 1) bad_,v_ 9 21]))))))) (.seq (.reg [o1 22 1 f2_,o1 23 22 ld,o1 24 1 f3_,o1 25 24 ld,o1 26 25 (.bslice 1 1 (.int .i64 0) [0]),v_ 27 3,k3 28 58 23 26 27,v_ 2 28]) .ret))))
theorem Yd:As Tryz.prog 34 1=some ⟨29,1,[(.slot 2)],M9⟩:=by kernel_rfl
def K1:AC:=(.seq (.reg [o1 1 0 .box,c1 2 .nilS .mv]) (.seq (.reg [c1 3 .nilS .mv]) (.seq (.reg [c1 4 .nilS .mv]) (.seq (.seq (.reg [o1 9 1 f4_,o1 10 9 ld,o1 11 10 ln,c1 12 (.int .i64 0) .mv]) (.block 0 (.loop (.seq (.reg [o2 13 12 11 bls_]) (.seq (.cond (.slot 13) .skip (.exit 0)) (.seq (.block 1 (.seq (.reg [o2 14 10 12 a5_,o1 15 14 (.load true 5),o0 6 (.alloc (.agg [(.int .i64 0),(.int .i64 0),.nilS,(.int .i64 0),.nilS]) 5),n2 6 15 (.store 5)]) (.reg [v_ 16 3,o1 17 6 f1_,o1 18 17 ld,o1 19 6 f0_,o1 20 19 ld,o2 21 18 20 (.build [(.int .i64 0),(.int .i64 0)] [(0,1),(1,1)] [0,1]),o1 22 21 (.bslice 2 1 (.agg [(.int .i64 0),(.int .i64 0)]) [0]),o2 23 16 22 (.app 2 16 (.agg [(.int .i64 0),(.int .i64 0)])),v_ 3 23]))) (.reg [c2 24 12 (.int .i64 1) bad_,v_ 12 24]))))))) (.seq (.seq (.reg [o1 25 1 f5_,o1 26 25 ld,o1 27 26 ln,c1 28 (.int .i64 0) .mv]) (.block 2 (.loop (.seq (.reg [o2 29 28 27 bls_]) (.seq (.cond (.slot 29) .skip (.exit 2)) (.seq (.block 3 (.seq (.reg [o2 30 26 28 a3_,o1 31 30 (.load true 3),o0 8 (.alloc (.agg [(.int .i64 0),.nilS,.nilS]) 3),n2 8 31 (.store 3)]) (.reg [v_ 32 4,o1 33 8 f0_,o1 34 33 ld,o1 35 34 (.bslice 1 1 (.int .i64 0) [0]),o2 36 32 35 (.app 1 8 (.int .i64 0)),v_ 4 36]))) (.reg [c2 37 28 (.int .i64 1) bad_,v_ 28 37]))))))) (.seq (.reg [o1 38 1 f2_,o1 39 38 ld,v_ 40 4,v_ 41 3,k3 42 58 39 40 41,v_ 2 42]) .ret))))))
theorem Vb:As Tryz.prog 35 1=some ⟨43,1,[(.slot 2)],K1⟩:=by kernel_rfl
def Sy:AC:=(.seq (.reg [c1 4 .nilS .mv,c1 5 .nilS .mv]) (.seq (.reg [v_ 8 0,k1 9 59 8,v_ 10 1,k1 11 60 10,v_ 0 9,v_ 1 11]) (.seq (.seq (.reg [v_ 12 0,o1 13 12 ln,c1 14 (.int .i64 0) .mv]) (.block 0 (.loop (.seq (.reg [o2 15 14 13 bls_]) (.seq (.cond (.slot 15) .skip (.exit 0)) (.seq (.block 1 (.seq (.reg [v_ 16 14,v_ 6 16]) (.reg [v_ 17 0,v_ 18 6,v_ 19 0,v_ 20 6,o2 21 19 20 a1_,o1 22 21 ld,k1 23 51 22,o2 24 17 18 a1_,n2 24 23 st]))) (.reg [c2 25 14 (.int .i64 1) bad_,v_ 14 25]))))))) (.seq (.seq (.reg [v_ 26 1,o1 27 26 ln,c1 28 (.int .i64 0) .mv]) (.block 2 (.loop (.seq (.reg [o2 29 28 27 bls_]) (.seq (.cond (.slot 29) .skip (.exit 2)) (.seq (.block 3 (.seq (.reg [v_ 30 28,v_ 7 30]) (.reg [v_ 31 1,v_ 32 7,v_ 33 1,v_ 34 7,o2 35 33 34 a6_,o1 36 35 f5_,o1 37 36 ld,k1 38 52 37,o2 39 31 32 a6_,o1 40 39 f5_,n2 40 38 st]))) (.reg [c2 41 28 (.int .i64 1) bad_,v_ 28 41]))))))) (.seq (.reg [v_ 42 0,v_ 43 1,v_ 4 42,v_ 5 43]) .ret)))))
theorem z7k:As Tryz.prog 36 2=some ⟨44,2,[(.slot 4),(.slot 5)],Sy⟩:=by kernel_rfl
def Jk:AC:=(.seq (.reg [c1 6 (.int .i64 0) .mv]) (.seq (.reg [c1 7 (.int .i64 0) .mv]) (.seq (.seq (.reg [c1 8 (.int .i64 0) .mv]) (.block 0 (.loop (.seq (.seq (.reg [v_ 9 8,v_ 10 2,o2 11 9 10 bls_]) (.cond (.slot 11) .skip (.exit 0))) (.seq (.block 1 (.seq (.reg [v_ 14 0,v_ 15 8,o2 16 14 15 a1_,o1 17 16 ld,v_ 18 17,g1 19 18 1 .mv,g1 20 18 8 .mv,g2 21 18 19 20 a1_,g1 22 18 21 ld,m_ 23 [s_ 18,s_ 22,k_ (.bool false)] .pick]) (.cond (.slot 23) (.reg [v_ 24 7,c2 25 24 (.int .i64 1) bad_,v_ 7 25]) .skip))) (.reg [v_ 12 8,c2 13 12 (.int .i64 1) bad_,v_ 8 13])))))) (.seq (.seq (.reg [v_ 26 0,v_ 27 2,o2 28 26 27 a1_,o1 29 28 ld,v_ 30 29,g1 31 30 1 .mv,g1 32 30 2 .mv,g2 33 30 31 32 a1_,g1 34 30 33 ld,m_ 35 [s_ 30,s_ 34,k_ (.bool false)] .pick]) (.cond (.slot 35) (.seq (.reg [v_ 36 7,v_ 6 36]) .ret) .skip)) (.seq (.reg [c1 6 (.int .i64 (-1)) .mv]) .ret)))))
theorem Ru:As Tryz.prog 37 3=some ⟨37,3,[(.slot 6)],Jk⟩:=by kernel_rfl
def Na:AC:=(.seq (.reg [o1 1 0 .box,c1 2 (.int .i64 0) .mv,c1 3 (.int .i64 0) .mv]) (.seq (.seq (.reg [o1 8 1 l6,k1 9 72 8,o1 10 9 nt]) (.cond (.slot 10) (.seq (.reg [c1 2 (.int .i64 1) .mv,c1 3 (.int .i64 0) .mv]) .ret) .skip)) (.seq (.seq (.reg [o1 11 1 f4_,o1 12 11 ld,o1 13 12 ln,c1 14 (.int .i64 0) .mv]) (.block 0 (.loop (.seq (.reg [o2 15 14 13 bls_]) (.seq (.cond (.slot 15) .skip (.exit 0)) (.seq (.block 1 (.seq (.reg [v_ 16 14,o2 17 12 14 a5_,o1 18 17 (.load true 5),o0 5 (.alloc (.agg [(.int .i64 0),(.int .i64 0),.nilS,(.int .i64 0),.nilS]) 5),v_ 4 16,n2 5 18 (.store 5)]) (.seq (.reg [o1 19 1 l6,o1 20 5 (.load true 5),k2 21 73 19 20,o1 22 21 nt]) (.cond (.slot 22) (.seq (.reg [v_ 23 4,c1 2 (.int .i64 2) .mv,v_ 3 23]) .ret) .skip)))) (.reg [c2 24 14 (.int .i64 1) bad_,v_ 14 24]))))))) (.seq (.seq (.reg [o1 25 1 f5_,o1 26 25 ld,o1 27 26 ln,c1 28 (.int .i64 0) .mv]) (.block 2 (.loop (.seq (.reg [o2 29 28 27 bls_]) (.seq (.cond (.slot 29) .skip (.exit 2)) (.seq (.block 3 (.seq (.reg [v_ 30 28,o2 31 26 28 a3_,o1 32 31 (.load true 3),o0 7 (.alloc (.agg [(.int .i64 0),.nilS,.nilS]) 3),v_ 6 30,n2 7 32 (.store 3)]) (.seq (.reg [o1 33 1 l6,o1 34 7 f0_,o1 35 34 ld,k2 36 74 33 35,o1 37 36 nt,v_ 38 37,g_ 39 38 false [s_ 1] f0_,g_ 40 38 false [s_ 39] ld,g_ 41 38 false [s_ 7] f1_,g_ 42 38 false [s_ 41] ld,g_ 43 38 false [k_ (.fn 75 []),s_ 40,s_ 42] .call,g_ 44 38 false [s_ 43] nt,m_ 45 [s_ 38,k_ (.bool true),s_ 44] .pick,v_ 46 45,g_ 47 46 false [s_ 1] l6,g_ 48 46 false [s_ 7] f2_,g_ 49 46 false [s_ 48] ld,g_ 50 46 false [s_ 7] f1_,g_ 51 46 false [s_ 50] ld,g_ 52 46 false [k_ (.fn 76 []),s_ 47,s_ 49,s_ 51] .call,g_ 53 46 false [s_ 52] nt,m_ 54 [s_ 46,k_ (.bool true),s_ 53] .pick]) (.cond (.slot 54) (.seq (.reg [v_ 55 6,c1 2 (.int .i64 3) .mv,v_ 3 55]) .ret) .skip)))) (.reg [c2 56 28 (.int .i64 1) bad_,v_ 28 56]))))))) (.seq (.seq (.reg [o1 57 1 l6,k1 58 77 57]) (.cond (.slot 58) (.seq (.reg [c1 2 (.int .i64 4) .mv,c1 3 (.int .i64 0) .mv]) .ret) .skip)) (.seq (.reg [c1 2 (.int .i64 0) .mv,c1 3 (.int .i64 0) .mv]) .ret))))))
theorem Ye:As Tryz.prog 48 1=some ⟨59,1,[(.slot 2),(.slot 3)],Na⟩:=by kernel_rfl
def K2:AC:=(.seq (.reg [c1 2 .nilS .mv]) (.seq (.seq (.reg [v_ 3 0]) (.block 0 (.seq (.reg [c2 5 3 (.int .i64 1) beq_,v_ 4 5]) (.cond (.slot 4) (.seq (.reg [m_ 6 [k_ (.int .i64 0),k_ (.int .i64 255)] (.build [(.int .i64 0),(.int .i64 0)] [(0,1),(1,1)] [0,1]),o1 7 6 (.bslice 2 1 (.agg [(.int .i64 0),(.int .i64 0)]) [0]),v_ 2 7]) .ret) (.seq (.reg [c2 9 3 (.int .i64 2) beq_,v_ 8 9]) (.cond (.slot 8) (.seq (.reg [m_ 10 [k_ (.int .i64 0),k_ (.int .i64 55295)] (.build [(.int .i64 0),(.int .i64 0)] [(0,1),(1,1)] [0,1]),m_ 11 [k_ (.int .i64 57344),k_ (.int .i64 1114111)] (.build [(.int .i64 0),(.int .i64 0)] [(0,1),(1,1)] [0,1]),o2 12 10 11 (.bslice 2 2 (.agg [(.int .i64 0),(.int .i64 0)]) [0,1]),v_ 2 12]) .ret) .skip)))))) (.seq (.reg [c1 2 .nilS .mv]) .ret)))
theorem Vd:As Tryz.prog 49 1=some ⟨13,1,[(.slot 2)],K2⟩:=by kernel_rfl
def Bz:AC:=(.seq (.reg [c1 2 .nilS .mv]) (.seq (.seq (.reg [v_ 3 0,c2 4 3 .nilS (.eqn false)]) (.cond (.slot 4) (.seq (.reg [c1 2 .nilS .mv]) .ret) .skip)) (.seq (.reg [o0 5 (.bslice 2 0 (.agg [(.int .i64 0),(.int .i64 0)]) []),v_ 6 0,o2 7 5 6 (.app 2 16 (.agg [(.int .i64 0),(.int .i64 0)])),v_ 2 7]) .ret)))
theorem Cg:As Tryz.prog 51 1=some ⟨8,1,[(.slot 2)],Bz⟩:=by kernel_rfl
def B0:AC:=(.seq (.reg [c1 2 .nilS .mv]) (.seq (.seq (.reg [v_ 3 0,c2 4 3 .nilS (.eqn false)]) (.cond (.slot 4) (.seq (.reg [c1 2 .nilS .mv]) .ret) .skip)) (.seq (.reg [o0 5 (.bslice 4 0 (.agg [(.int .i64 0),(.int .i64 0),(.int .i64 0),(.int .i64 0)]) []),v_ 6 0,o2 7 5 6 (.app 4 32 (.agg [(.int .i64 0),(.int .i64 0),(.int .i64 0),(.int .i64 0)])),v_ 2 7]) .ret)))
theorem Ch:As Tryz.prog 52 1=some ⟨8,1,[(.slot 2)],B0⟩:=by kernel_rfl
def Jl:AC:=(.seq (.reg [c1 4 (.bool false) .mv]) (.seq (.seq (.reg [c1 5 (.int .i64 0) .mv]) (.block 0 (.loop (.seq (.seq (.reg [v_ 7 5,v_ 8 1,o1 9 8 ln,o2 10 7 9 bls_]) (.cond (.slot 10) .skip (.exit 0))) (.seq (.block 1 (.seq (.reg [v_ 13 1,v_ 14 5,o2 15 13 14 a1_,o1 16 15 ld,v_ 6 16]) (.seq (.reg [v_ 17 6,o1 18 17 ln,c2 19 18 (.int .i64 0) beq_,v_ 20 19,g_ 21 20 false [s_ 6] .mv,g_ 22 20 false [s_ 21] ln,g_ 23 20 false [s_ 22,k_ (.int .i64 64)] bgt_,m_ 24 [s_ 20,k_ (.bool true),s_ 23] .pick,v_ 25 24,g_ 26 25 false [s_ 6] .mv,g_ 27 25 false [s_ 6] .mv,g_ 28 25 false [k_ (.fn 79 []),s_ 27] .call,g_ 29 25 false [k_ (.fn 56 []),s_ 26,s_ 28] .call,g_ 30 25 false [s_ 29] nt,m_ 31 [s_ 25,k_ (.bool true),s_ 30] .pick,v_ 32 31,g_ 33 32 false [s_ 6] .mv,g_ 34 32 false [s_ 0] .mv,g_ 35 32 false [k_ (.fn 81 []),s_ 34] .call,g_ 36 32 false [k_ (.fn 80 []),s_ 33,s_ 35,k_ (.int .i64 2)] .call,g_ 37 32 false [s_ 36] ln,g_ 38 32 false [s_ 37,k_ (.int .i64 0)] bgt_,m_ 39 [s_ 32,k_ (.bool true),s_ 38] .pick]) (.cond (.slot 39) (.seq (.reg [c1 4 (.bool false) .mv]) .ret) .skip)))) (.reg [v_ 11 5,c2 12 11 (.int .i64 1) bad_,v_ 5 12])))))) (.seq (.reg [v_ 40 1,o1 41 40 ln,c2 42 41 (.int .i64 4) ble_,v_ 4 42]) .ret)))
theorem Rv:As Tryz.prog 53 2=some ⟨43,2,[(.slot 4)],Jl⟩:=by kernel_rfl
def Jm:AC:=(.seq (.reg [o1 3 0 .box,c1 6 (.bool false) .mv]) (.seq (.seq (.reg [c1 7 (.int .i64 0) .mv]) (.block 0 (.loop (.seq (.seq (.reg [v_ 8 7,v_ 9 1,o1 10 9 ln,o2 11 8 10 bls_,v_ 12 11,g1 13 12 1 .mv,g1 14 12 13 ln,g_ 15 12 true [s_ 14,k_ (.int .i64 64)] ble_,m_ 16 [s_ 12,s_ 15,k_ (.bool false)] .pick]) (.cond (.slot 16) .skip (.exit 0))) (.seq (.block 1 (.seq (.dtl [v_ 19 1,v_ 20 7,o2 21 19 20 a6_,o1 22 21 l6,o1 23 3 f0_,o1 24 23 ld,o1 25 3 f1_,o1 26 25 ld,v_ 27 2] [m_ 28 [k_ (.fn 82 []),s_ 22,s_ 24,s_ 26,s_ 27] .call,o1 29 28 nt]) (.cond (.slot 29) (.seq (.reg [c1 6 (.bool false) .mv]) .ret) .skip))) (.reg [v_ 17 7,c2 18 17 (.int .i64 1) bad_,v_ 7 18])))))) (.seq (.reg [v_ 30 1,o1 31 30 ln,c2 32 31 (.int .i64 64) ble_,v_ 6 32]) .ret)))
theorem Rw:As Tryz.prog 54 3=some ⟨33,3,[(.slot 6)],Jm⟩:=by kernel_rfl
def K3:AC:=(.seq (.reg [o1 1 0 .box,c1 2 (.bool false) .mv]) (.seq (.reg [o1 9 1 f2_,o1 10 9 ld,o2 11 10 10 (.mkSlice 1 1 (.bool false)),v_ 3 11]) (.seq (.seq (.reg [v_ 12 3,o1 13 12 ln,c1 14 (.int .i64 0) .mv]) (.block 0 (.loop (.seq (.reg [o2 15 14 13 bls_]) (.seq (.cond (.slot 15) .skip (.exit 0)) (.seq (.block 1 (.seq (.reg [v_ 16 14,v_ 4 16]) (.reg [v_ 17 3,v_ 18 4,o2 19 17 18 a1_,h_ [s_ 19,k_ (.bool true)] st]))) (.reg [c2 20 14 (.int .i64 1) bad_,v_ 14 20]))))))) (.seq (.seq (.reg [c1 5 (.int .i64 0) .mv]) (.block 2 (.loop (.seq (.seq (.reg [v_ 21 5,o1 22 1 f2_,o1 23 22 ld,o2 24 21 23 ble_]) (.cond (.slot 24) .skip (.exit 2))) (.seq (.block 3 (.seq (.reg [o1 27 1 f2_,o1 28 27 ld,o2 29 28 28 (.mkSlice 1 1 (.bool false)),v_ 6 29]) (.seq (.reg [c1 7 (.bool false) .mv]) (.seq (.seq (.reg [c1 8 (.int .i64 0) .mv]) (.block 4 (.loop (.seq (.seq (.reg [v_ 30 8,o1 31 1 f4_,o1 32 31 ld,o1 33 32 ln,o2 34 30 33 bls_]) (.cond (.slot 34) .skip (.exit 4))) (.seq (.block 5 (.seq (.reg [o1 37 1 f4_,o1 38 37 ld,v_ 39 8,o2 40 38 39 a5_,o1 41 40 f2_,o1 42 41 ld,o1 43 42 ln,c2 44 43 (.int .i64 0) beq_,v_ 45 44,g1 46 45 3 .mv,g1 47 45 1 f4_,g1 48 45 47 ld,g1 49 45 8 .mv,g2 50 45 48 49 a5_,g1 51 45 50 f0_,g1 52 45 51 ld,g2 53 45 46 52 a1_,g1 54 45 53 ld,m_ 55 [s_ 45,s_ 54,k_ (.bool false)] .pick]) (.cond (.slot 55) (.seq (.reg [v_ 56 6,o1 57 1 f4_,o1 58 57 ld,v_ 59 8,o2 60 58 59 a5_,o1 61 60 f1_,o1 62 61 ld,o2 63 56 62 a1_,h_ [s_ 63,k_ (.bool true)] st]) (.reg [c1 7 (.bool true) .mv])) .skip))) (.reg [v_ 35 8,c2 36 35 (.int .i64 1) bad_,v_ 8 36])))))) (.seq (.seq (.reg [v_ 64 7,o1 65 64 nt]) (.cond (.slot 65) (.seq (.reg [c1 2 (.bool false) .mv]) .ret) .skip)) (.reg [v_ 66 6,v_ 3 66])))))) (.reg [v_ 25 5,c2 26 25 (.int .i64 1) bad_,v_ 5 26])))))) (.seq (.reg [c1 2 (.bool true) .mv]) .ret)))))
theorem Ve:As Tryz.prog 55 1=some ⟨67,1,[(.slot 2)],K3⟩:=by kernel_rfl
def Nb:AC:=(.seq (.reg [c1 4 (.bool false) .mv]) (.seq (.seq (.reg [v_ 6 0,o1 7 6 ln,v_ 8 1,o1 9 8 ln,o2 10 7 9 bne_]) (.cond (.slot 10) (.seq (.reg [c1 4 (.bool false) .mv]) .ret) .skip)) (.seq (.seq (.reg [c1 5 (.int .i64 0) .mv]) (.block 0 (.loop (.seq (.seq (.reg [v_ 11 5,v_ 12 0,o1 13 12 ln,o2 14 11 13 bls_]) (.cond (.slot 14) .skip (.exit 0))) (.seq (.block 1 (.seq (.dreg [v_ 17 0,v_ 18 5,o2 19 17 18 a2_,o1 20 19 (.load true 2),v_ 21 1,v_ 22 5,o2 23 21 22 a2_,o1 24 23 (.load true 2),o2 25 20 24 (.eqs true [1,1])]) (.cond (.slot 25) (.seq (.reg [c1 4 (.bool false) .mv]) .ret) .skip))) (.reg [v_ 15 5,c2 16 15 (.int .i64 1) bad_,v_ 5 16])))))) (.seq (.reg [c1 4 (.bool true) .mv]) .ret))))
theorem Yf:As Tryz.prog 56 2=some ⟨26,2,[(.slot 4)],Nb⟩:=by kernel_rfl
def Nc:AC:=(.seq (.reg [o1 2 0 .box,o1 3 1 .box,c1 4 (.bool false) .mv]) (.seq (.seq (.reg [o1 6 2 f0_,o1 7 6 ld,o1 8 3 f0_,o1 9 8 ld,o2 10 7 9 bne_,v_ 11 10,g_ 12 11 false [s_ 2] f1_,g_ 13 11 false [s_ 12] ld,g_ 14 11 false [s_ 3] f1_,g_ 15 11 false [s_ 14] ld,g_ 16 11 false [s_ 13,s_ 15] bne_,m_ 17 [s_ 11,k_ (.bool true),s_ 16] .pick,v_ 18 17,g_ 19 18 false [s_ 2] f2_,g_ 20 18 false [s_ 19] ld,g_ 21 18 false [s_ 3] f2_,g_ 22 18 false [s_ 21] ld,g_ 23 18 false [s_ 20,s_ 22] bne_,m_ 24 [s_ 18,k_ (.bool true),s_ 23] .pick,v_ 25 24,g_ 26 25 false [s_ 2] f3_,g_ 27 25 false [s_ 26] ld,g_ 28 25 false [s_ 3] f3_,g_ 29 25 false [s_ 28] ld,g_ 30 25 false [s_ 27,s_ 29] bne_,m_ 31 [s_ 25,k_ (.bool true),s_ 30] .pick,v_ 32 31,g_ 33 32 false [s_ 2] f4_,g_ 34 32 false [s_ 33] ld,g_ 35 32 false [s_ 3] f4_,g_ 36 32 false [s_ 35] ld,g_ 37 32 false [s_ 34,s_ 36] bne_,m_ 38 [s_ 32,k_ (.bool true),s_ 37] .pick,v_ 39 38,g_ 40 39 false [s_ 2] f5_,g_ 41 39 false [s_ 40] ld,g_ 42 39 false [s_ 41] ln,g_ 43 39 false [s_ 3] f5_,g_ 44 39 false [s_ 43] ld,g_ 45 39 false [s_ 44] ln,g_ 46 39 false [s_ 42,s_ 45] bne_,m_ 47 [s_ 39,k_ (.bool true),s_ 46] .pick]) (.cond (.slot 47) (.seq (.reg [c1 4 (.bool false) .mv]) .ret) .skip)) (.seq (.seq (.reg [c1 5 (.int .i64 0) .mv]) (.block 0 (.loop (.seq (.seq (.reg [v_ 48 5,o1 49 2 f5_,o1 50 49 ld,o1 51 50 ln,o2 52 48 51 bls_]) (.cond (.slot 52) .skip (.exit 0))) (.seq (.block 1 (.seq (.dreg [o1 55 2 f5_,o1 56 55 ld,v_ 57 5,o2 58 56 57 a4_,o1 59 58 (.load true 4),o1 60 3 f5_,o1 61 60 ld,v_ 62 5,o2 63 61 62 a4_,o1 64 63 (.load true 4),o2 65 59 64 (.eqs true [1,1,1,1])]) (.cond (.slot 65) (.seq (.reg [c1 4 (.bool false) .mv]) .ret) .skip))) (.reg [v_ 53 5,c2 54 53 (.int .i64 1) bad_,v_ 5 54])))))) (.seq (.reg [c1 4 (.bool true) .mv]) .ret))))
theorem Yg:As Tryz.prog 57 2=some ⟨66,2,[(.slot 4)],Nc⟩:=by kernel_rfl
def Ea:AC:=(.seq (.reg [c1 6 .nilS .mv]) (.seq (.reg [v_ 13 0,o2 14 13 13 (.mkSlice 1 24 .nilS),v_ 7 14]) (.seq (.seq (.reg [v_ 15 2,o1 16 15 ln,c1 17 (.int .i64 0) .mv]) (.block 0 (.loop (.seq (.reg [o2 18 17 16 bls_]) (.seq (.cond (.slot 18) .skip (.exit 0)) (.seq (.block 1 (.seq (.reg [o2 19 15 17 a2_,o1 20 19 (.load true 2),o0 9 (.alloc (.agg [(.int .i64 0),(.int .i64 0)]) 2),n2 9 20 (.store 2)]) (.grx [false,true,true,false,true,true,true,false,true,true,false,false,false,false] [m_ 21 [s_ 7] .mv,m_ 22 [s_ 9,k_ (.int .i64 0)] (.iaddrA 2 1 false),m_ 23 [s_ 22] ld,m_ 24 [s_ 7] .mv,m_ 25 [s_ 9,k_ (.int .i64 0)] (.iaddrA 2 1 false),m_ 26 [s_ 25] ld,m_ 27 [s_ 24,s_ 26] a1_,m_ 28 [s_ 27] ld,m_ 29 [s_ 9,k_ (.int .i64 1)] (.iaddrA 2 1 false),m_ 30 [s_ 29] ld,m_ 31 [s_ 30] (.bslice 1 1 (.int .i64 0) [0]),m_ 32 [s_ 28,s_ 31] (.app 1 8 (.int .i64 0)),m_ 33 [s_ 21,s_ 23] a1_,h_ [s_ 33,s_ 32] st]))) (.reg [c2 34 17 (.int .i64 1) bad_,v_ 17 34]))))))) (.seq (.reg [v_ 35 0,o2 36 35 35 (.mkSlice 1 1 (.bool false)),v_ 10 36]) (.seq (.reg [v_ 37 1,k1 38 83 37,v_ 11 38]) (.seq (.block 2 (.loop (.seq (.seq (.reg [v_ 39 11,o1 40 39 ln,c2 41 40 (.int .i64 0) bgt_]) (.cond (.slot 41) .skip (.exit 2))) (.block 3 (.seq (.reg [v_ 42 11,v_ 43 11,o1 44 43 ln,c2 45 44 (.int .i64 1) bsu_,o2 46 42 45 a1_,o1 47 46 ld,v_ 12 47]) (.seq (.reg [v_ 48 11,v_ 49 11,o1 50 49 ln,c2 51 50 (.int .i64 1) bsu_,o2 52 48 51 (.slice 1 false true false),v_ 11 52]) (.seq (.seq (.reg [v_ 53 10,v_ 54 12,o2 55 53 54 a1_,o1 56 55 ld]) (.cond (.slot 56) (.exit 3) .skip)) (.seq (.reg [v_ 57 10,v_ 58 12,o2 59 57 58 a1_,h_ [s_ 59,k_ (.bool true)] st]) (.reg [v_ 60 11,v_ 61 7,v_ 62 12,o2 63 61 62 a1_,o1 64 63 ld,o2 65 60 64 (.app 1 8 (.int .i64 0)),v_ 11 65]))))))))) (.seq (.reg [v_ 66 10,v_ 6 66]) .ret)))))))
theorem K4:As Tryz.prog 58 3=some ⟨67,3,[(.slot 6)],Ea⟩:=by kernel_rfl
def Bu:AC:=(.seq (.reg [c1 2 .nilS .mv]) (.seq (.seq (.reg [v_ 3 0,c2 4 3 .nilS (.eqn false)]) (.cond (.slot 4) (.seq (.reg [c1 2 .nilS .mv]) .ret) .skip)) (.seq (.reg [o0 5 (.bslice 1 0 .nilS []),v_ 6 0,o2 7 5 6 (.app 1 24 .nilS),v_ 2 7]) .ret)))
theorem B9:As Tryz.prog 59 1=some ⟨8,1,[(.slot 2)],Bu⟩:=by kernel_rfl
def B1:AC:=(.seq (.reg [c1 2 .nilS .mv]) (.seq (.seq (.reg [v_ 3 0,c2 4 3 .nilS (.eqn false)]) (.cond (.slot 4) (.seq (.reg [c1 2 .nilS .mv]) .ret) .skip)) (.seq (.reg [o0 5 (.bslice 6 0 (.agg [(.int .i64 0),(.int .i64 0),(.int .i64 0),(.int .i64 0),(.int .i64 0),.nilS]) []),v_ 6 0,o2 7 5 6 (.app 6 64 (.agg [(.int .i64 0),(.int .i64 0),(.int .i64 0),(.int .i64 0),(.int .i64 0),.nilS])),v_ 2 7]) .ret)))
theorem Ci:As Tryz.prog 60 1=some ⟨8,1,[(.slot 2)],B1⟩:=by kernel_rfl
def Pp:AC:=(.seq (.reg [o1 1 0 .box,c1 2 (.bool false) .mv]) (.seq (.reg [o1 3 1 f0_,o1 4 3 ld,k1 5 49 4,o1 6 5 ln,c2 7 6 (.int .i64 0) bgt_,v_ 8 7,g1 9 8 1 f1_,g1 10 8 9 ld,g_ 11 8 true [k_ (.fn 49 []),s_ 10] .call,g1 12 8 11 ln,g_ 13 8 true [s_ 12,k_ (.int .i64 0)] bgt_,m_ 14 [s_ 8,s_ 13,k_ (.bool false)] .pick,v_ 15 14,g1 16 15 1 f2_,g1 17 15 16 ld,g_ 18 15 true [s_ 17,k_ (.int .i64 1)] bge_,m_ 19 [s_ 15,s_ 18,k_ (.bool false)] .pick,v_ 20 19,g1 21 20 1 f2_,g1 22 20 21 ld,g_ 23 20 true [s_ 22,k_ (.int .i64 1024)] ble_,m_ 24 [s_ 20,s_ 23,k_ (.bool false)] .pick,v_ 25 24,g1 26 25 1 l6,g1 27 25 1 f3_,g1 28 25 27 ld,g_ 29 25 true [k_ (.fn 74 []),s_ 26,s_ 28] .call,m_ 30 [s_ 25,s_ 29,k_ (.bool false)] .pick,v_ 31 30,g1 32 31 1 f4_,g1 33 31 32 ld,g1 34 31 33 ln,g_ 35 31 true [s_ 34,k_ (.int .i64 4096)] ble_,m_ 36 [s_ 31,s_ 35,k_ (.bool false)] .pick,v_ 37 36,g1 38 37 1 f5_,g1 39 37 38 ld,g1 40 37 39 ln,g_ 41 37 true [s_ 40,k_ (.int .i64 4096)] ble_,m_ 42 [s_ 37,s_ 41,k_ (.bool false)] .pick,v_ 2 42]) .ret))
theorem z0p:As Tryz.prog 72 1=some ⟨43,1,[(.slot 2)],Pp⟩:=by kernel_rfl
def Pq:AC:=(.seq (.reg [o1 2 0 .box,o1 3 1 .box,c1 4 (.bool false) .mv]) (.seq (.reg [o1 6 3 f2_,o1 7 6 ld,o1 8 7 ln,v_ 5 8]) (.seq (.seq (.reg [o1 9 2 l6,o1 10 3 f0_,o1 11 10 ld,k2 12 74 9 11,o1 13 12 nt,v_ 14 13,g_ 15 14 false [s_ 2] l6,g_ 16 14 false [s_ 3] f1_,g_ 17 14 false [s_ 16] ld,g_ 18 14 false [k_ (.fn 74 []),s_ 15,s_ 17] .call,g_ 19 14 false [s_ 18] nt,m_ 20 [s_ 14,k_ (.bool true),s_ 19] .pick,v_ 21 20,g_ 22 21 false [s_ 2] f0_,g_ 23 21 false [s_ 22] ld,g_ 24 21 false [s_ 3] f2_,g_ 25 21 false [s_ 24] ld,g_ 26 21 false [k_ (.fn 75 []),s_ 23,s_ 25] .call,g_ 27 21 false [s_ 26] nt,m_ 28 [s_ 21,k_ (.bool true),s_ 27] .pick,v_ 29 28,g_ 30 29 false [s_ 3] f3_,g_ 31 29 false [s_ 30] ld,g_ 32 29 false [s_ 5] .mv,g_ 33 29 false [s_ 32,k_ (.int .i64 1)] .min,g_ 34 29 false [s_ 31,s_ 33] bls_,m_ 35 [s_ 29,k_ (.bool true),s_ 34] .pick,v_ 36 35,g_ 37 36 false [s_ 3] f3_,g_ 38 36 false [s_ 37] ld,g_ 39 36 false [s_ 5] .mv,g_ 40 36 false [s_ 38,s_ 39] bgt_,m_ 41 [s_ 36,k_ (.bool true),s_ 40] .pick]) (.cond (.slot 41) (.seq (.reg [c1 4 (.bool false) .mv]) .ret) .skip)) (.seq (.reg [o1 42 2 l6,o1 43 3 f4_,o1 44 43 ld,o1 45 3 f2_,o1 46 45 ld,k3 47 76 42 44 46,v_ 4 47]) .ret))))
theorem z0q:As Tryz.prog 73 2=some ⟨48,2,[(.slot 4)],Pq⟩:=by kernel_rfl
def Nf:AC:=(.seq (.reg [o1 2 0 .box,c1 4 (.bool false) .mv]) (.seq (.reg [v_ 5 1,c2 6 5 (.int .i64 0) bge_,v_ 7 6,g1 8 7 1 .mv,g1 9 7 2 f2_,g1 10 7 9 ld,g2 11 7 8 10 bls_,m_ 12 [s_ 7,s_ 11,k_ (.bool false)] .pick,v_ 4 12]) .ret))
theorem Yh:As Tryz.prog 74 2=some ⟨13,2,[(.slot 4)],Nf⟩:=by kernel_rfl
def K5:AC:=(.seq (.reg [c1 4 (.bool false) .mv]) (.seq (.seq (.reg [v_ 8 1,o1 9 8 ln,c2 10 9 (.int .i64 4) bgt_]) (.cond (.slot 10) (.seq (.reg [c1 4 (.bool false) .mv]) .ret) .skip)) (.seq (.reg [v_ 11 0,k1 12 49 11,v_ 5 12]) (.seq (.seq (.reg [v_ 13 1,o1 14 13 ln,c1 15 (.int .i64 0) .mv]) (.block 0 (.loop (.seq (.reg [o2 16 15 14 bls_]) (.seq (.cond (.slot 16) .skip (.exit 0)) (.seq (.block 1 (.seq (.reg [o2 17 13 15 a1_,o1 18 17 ld,v_ 7 18]) (.seq (.reg [v_ 19 7,o1 20 19 ln,c2 21 20 (.int .i64 0) beq_,v_ 22 21,g_ 23 22 false [s_ 7] .mv,g_ 24 22 false [s_ 23] ln,g_ 25 22 false [s_ 24,k_ (.int .i64 64)] bgt_,m_ 26 [s_ 22,k_ (.bool true),s_ 25] .pick,v_ 27 26,g_ 28 27 false [s_ 7] .mv,g_ 29 27 false [k_ (.fn 93 []),s_ 28] .call,g_ 30 27 false [s_ 29] nt,m_ 31 [s_ 27,k_ (.bool true),s_ 30] .pick,v_ 32 31,g_ 33 32 false [s_ 7] .mv,g_ 34 32 false [s_ 5] .mv,g_ 35 32 false [k_ (.fn 94 []),s_ 33,s_ 34] .call,g_ 36 32 false [s_ 35] nt,m_ 37 [s_ 32,k_ (.bool true),s_ 36] .pick]) (.cond (.slot 37) (.seq (.reg [c1 4 (.bool false) .mv]) .ret) .skip)))) (.reg [c2 38 15 (.int .i64 1) bad_,v_ 15 38]))))))) (.seq (.reg [c1 4 (.bool true) .mv]) .ret)))))
theorem Vf:As Tryz.prog 75 2=some ⟨39,2,[(.slot 4)],K5⟩:=by kernel_rfl
def K6:AC:=(.seq (.reg [o1 3 0 .box,c1 6 (.bool false) .mv]) (.seq (.seq (.reg [v_ 9 1,o1 10 9 ln,c2 11 10 (.int .i64 64) bgt_]) (.cond (.slot 11) (.seq (.reg [c1 6 (.bool false) .mv]) .ret) .skip)) (.seq (.seq (.reg [v_ 12 1,o1 13 12 ln,c1 14 (.int .i64 0) .mv]) (.block 0 (.loop (.seq (.reg [o2 15 14 13 bls_]) (.seq (.cond (.slot 15) .skip (.exit 0)) (.seq (.block 1 (.seq (.reg [o2 16 12 14 a6_,o1 17 16 l6,o0 8 (.alloc (.agg [(.int .i64 0),(.int .i64 0),(.int .i64 0),(.int .i64 0),(.int .i64 0),.nilS]) 6),n2 8 17 (.store 6)]) (.seq (.reg [o1 18 8 l6,o1 19 3 f0_,o1 20 19 ld,o1 21 3 f1_,o1 22 21 ld,v_ 23 2,m_ 24 [k_ (.fn 95 []),s_ 18,s_ 20,s_ 22,s_ 23] .call,o1 25 24 nt]) (.cond (.slot 25) (.seq (.reg [c1 6 (.bool false) .mv]) .ret) .skip)))) (.reg [c2 26 14 (.int .i64 1) bad_,v_ 14 26]))))))) (.seq (.reg [c1 6 (.bool true) .mv]) .ret))))
theorem Vg:As Tryz.prog 76 3=some ⟨27,3,[(.slot 6)],K6⟩:=by kernel_rfl
def Ng:AC:=(.seq (.reg [o1 1 0 .box,c1 2 (.bool false) .mv]) (.seq (.reg [o1 14 1 f2_,o1 15 14 ld,o2 16 15 15 (.mkSlice 1 24 .nilS),v_ 3 16]) (.seq (.reg [o1 17 1 f2_,o1 18 17 ld,o2 19 18 18 (.mkSlice 1 8 (.int .i64 0)),v_ 4 19]) (.seq (.seq (.reg [o1 20 1 f4_,o1 21 20 ld,o1 22 21 ln,c1 23 (.int .i64 0) .mv]) (.block 0 (.loop (.seq (.reg [o2 24 23 22 bls_]) (.seq (.cond (.slot 24) .skip (.exit 0)) (.seq (.block 1 (.seq (.reg [o2 25 21 23 a5_,o1 26 25 (.load true 5),o0 6 (.alloc (.agg [(.int .i64 0),(.int .i64 0),.nilS,(.int .i64 0),.nilS]) 5),n2 6 26 (.store 5)]) (.seq (.reg [o1 27 6 f2_,o1 28 27 ld,o1 29 28 ln,c2 30 29 (.int .i64 0) beq_]) (.cond (.slot 30) (.seq (.grx [false,true,true,false,true,true,true,false,true,true,false,false,false,false] [m_ 31 [s_ 3] .mv,m_ 32 [s_ 6] f0_,m_ 33 [s_ 32] ld,m_ 34 [s_ 3] .mv,m_ 35 [s_ 6] f0_,m_ 36 [s_ 35] ld,m_ 37 [s_ 34,s_ 36] a1_,m_ 38 [s_ 37] ld,m_ 39 [s_ 6] f1_,m_ 40 [s_ 39] ld,m_ 41 [s_ 40] (.bslice 1 1 (.int .i64 0) [0]),m_ 42 [s_ 38,s_ 41] (.app 1 8 (.int .i64 0)),m_ 43 [s_ 31,s_ 33] a1_,h_ [s_ 43,s_ 42] st]) (.reg [v_ 44 4,o1 45 6 f1_,o1 46 45 ld,o2 47 44 46 a1_,o1 48 47 ld,c2 49 48 (.int .i64 1) bad_,o2 50 44 46 a1_,n2 50 49 st])) .skip)))) (.reg [c2 51 23 (.int .i64 1) bad_,v_ 23 51]))))))) (.seq (.reg [c1 7 .nilS .mv]) (.seq (.seq (.reg [v_ 52 4,o1 53 52 ln,c1 54 (.int .i64 0) .mv]) (.block 2 (.loop (.seq (.reg [o2 55 54 53 bls_]) (.seq (.cond (.slot 55) .skip (.exit 2)) (.seq (.block 3 (.seq (.reg [v_ 56 54,o2 57 52 54 a1_,o1 58 57 ld,v_ 8 56,v_ 9 58]) (.seq (.reg [v_ 59 9,c2 60 59 (.int .i64 0) beq_]) (.cond (.slot 60) (.reg [v_ 61 7,v_ 62 8,o1 63 62 (.bslice 1 1 (.int .i64 0) [0]),o2 64 61 63 (.app 1 8 (.int .i64 0)),v_ 7 64]) .skip)))) (.reg [c2 65 54 (.int .i64 1) bad_,v_ 54 65]))))))) (.seq (.reg [c1 10 (.int .i64 0) .mv]) (.seq (.block 4 (.loop (.seq (.seq (.reg [v_ 66 7,o1 67 66 ln,c2 68 67 (.int .i64 0) bgt_]) (.cond (.slot 68) .skip (.exit 4))) (.seq (.block 5 (.seq (.reg [v_ 71 7,c2 72 71 (.int .i64 0) a1_,o1 73 72 ld,v_ 11 73]) (.seq (.reg [v_ 74 7,c2 75 74 (.int .i64 1) (.slice 1 true false false),v_ 7 75]) (.seq (.reg [v_ 76 3,v_ 77 11,o2 78 76 77 a1_,o1 79 78 ld,o1 80 79 ln,c1 81 (.int .i64 0) .mv]) (.block 6 (.loop (.seq (.reg [o2 82 81 80 bls_]) (.seq (.cond (.slot 82) .skip (.exit 6)) (.seq (.block 7 (.seq (.reg [o2 83 79 81 a1_,o1 84 83 ld,v_ 13 84]) (.seq (.reg [v_ 85 4,v_ 86 13,o2 87 85 86 a1_,o1 88 87 ld,c2 89 88 (.int .i64 1) bsu_,o2 90 85 86 a1_,n2 90 89 st]) (.seq (.reg [v_ 91 4,v_ 92 13,o2 93 91 92 a1_,o1 94 93 ld,c2 95 94 (.int .i64 0) beq_]) (.cond (.slot 95) (.reg [v_ 96 7,v_ 97 13,o1 98 97 (.bslice 1 1 (.int .i64 0) [0]),o2 99 96 98 (.app 1 8 (.int .i64 0)),v_ 7 99]) .skip))))) (.reg [c2 100 81 (.int .i64 1) bad_,v_ 81 100])))))))))) (.reg [v_ 69 10,c2 70 69 (.int .i64 1) bad_,v_ 10 70]))))) (.seq (.reg [v_ 101 10,o1 102 1 f2_,o1 103 102 ld,o2 104 101 103 bls_,v_ 2 104]) .ret)))))))))
theorem Yi:As Tryz.prog 77 1=some ⟨105,1,[(.slot 2)],Ng⟩:=by kernel_rfl
def Nh:AC:=(.seq (.reg [o0 2 (.alloc (.agg [(.int .i64 0),(.int .i64 0),(.int .i64 0),(.int .i64 0)]) 4)]) (.seq (.reg [v_ 3 0,c2 4 3 (.int .i64 21) (.build [(.int .i64 0),(.int .i64 0),(.int .i64 0),(.int .i64 0)] [(0,1),(1,1),(2,1),(3,1)] [0,2]),n2 2 4 (.store 4)]) .ret))
theorem Yj:As Tryz.prog 78 1=some ⟨5,1,[(.cell 2 true 4)],Nh⟩:=by kernel_rfl
def Ni:AC:=(.seq (.reg [c1 2 .nilS .mv]) (.seq (.reg [v_ 3 0,m_ 4 [k_ (.fn 80 []),s_ 3,k_ .nilS,k_ (.int .i64 0)] .call,v_ 2 4]) .ret))
theorem Yk:As Tryz.prog 79 1=some ⟨5,1,[(.slot 2)],Ni⟩:=by kernel_rfl
def Nj:AC:=(.seq (.reg [c1 6 .nilS .mv]) (.seq (.reg [c1 7 .nilS .mv]) (.seq (.reg [v_ 15 0,v_ 16 1,k2 17 96 15 16,v_ 8 17]) (.seq (.seq (.reg [c1 9 (.int .i64 0) .mv]) (.block 0 (.loop (.seq (.seq (.reg [v_ 18 9,v_ 19 8,o1 20 19 ln,o2 21 18 20 bls_]) (.cond (.slot 21) .skip (.exit 0))) (.seq (.block 1 (.seq (.dreg [v_ 24 0,v_ 25 8,v_ 26 9,o2 27 25 26 a1_,o1 28 27 ld,k2 29 97 24 28,v_ 30 1,v_ 31 8,v_ 32 9,o2 33 31 32 a1_,o1 34 33 ld,k2 35 97 30 34,v_ 10 29,v_ 11 35]) (.seq (.reg [v_ 36 10,v_ 37 36,g_ 38 37 false [s_ 11] .mv,m_ 39 [s_ 37,k_ (.bool true),s_ 38] .pick,v_ 12 39]) (.seq (.seq (.reg [v_ 40 2,c2 41 40 (.int .i64 1) beq_]) (.cond (.slot 41) (.reg [v_ 42 10,v_ 43 42,g1 44 43 11 .mv,m_ 45 [s_ 43,s_ 44,k_ (.bool false)] .pick,v_ 12 45]) .skip)) (.seq (.seq (.reg [v_ 46 2,c2 47 46 (.int .i64 2) beq_]) (.cond (.slot 47) (.reg [v_ 48 10,v_ 49 48,g1 50 49 11 .mv,g1 51 49 50 nt,m_ 52 [s_ 49,s_ 51,k_ (.bool false)] .pick,v_ 12 52]) .skip)) (.seq (.seq (.reg [v_ 53 12,o1 54 53 nt]) (.cond (.slot 54) (.exit 1) .skip)) (.seq (.reg [c1 13 (.int .i64 1073741824) .mv]) (.seq (.seq (.reg [v_ 55 9,c2 56 55 (.int .i64 1) bad_,v_ 57 8,o1 58 57 ln,o2 59 56 58 bls_]) (.cond (.slot 59) (.reg [v_ 60 8,v_ 61 9,c2 62 61 (.int .i64 1) bad_,o2 63 60 62 a1_,o1 64 63 ld,c2 65 64 (.int .i64 1) bsu_,v_ 13 65]) .skip)) (.seq (.reg [v_ 66 7,o1 67 66 ln,v_ 14 67]) (.seq (.dreg [v_ 68 14,c2 69 68 (.int .i64 0) bgt_,v_ 70 69,g1 71 70 7 .mv,g1 72 70 14 .mv,g_ 73 70 true [s_ 72,k_ (.int .i64 1)] bsu_,g2 74 70 71 73 a2_,g1 75 70 74 f1_,g1 76 70 75 ld,g1 77 70 8 .mv,g1 78 70 9 .mv,g2 79 70 77 78 a1_,g1 80 70 79 ld,g_ 81 70 true [s_ 80,k_ (.int .i64 1)] bsu_,g2 82 70 76 81 beq_,m_ 83 [s_ 70,s_ 82,k_ (.bool false)] .pick]) (.cond (.slot 83) (.reg [v_ 84 7,v_ 85 14,c2 86 85 (.int .i64 1) bsu_,v_ 87 13,o2 88 84 86 a2_,o1 89 88 f1_,n2 89 87 st]) (.reg [v_ 90 7,v_ 91 8,v_ 92 9,o2 93 91 92 a1_,o1 94 93 ld,v_ 95 13,o2 96 94 95 (.build [(.int .i64 0),(.int .i64 0)] [(0,1),(1,1)] [0,1]),o1 97 96 (.bslice 2 1 (.agg [(.int .i64 0),(.int .i64 0)]) [0]),o2 98 90 97 (.app 2 16 (.agg [(.int .i64 0),(.int .i64 0)])),v_ 7 98])))))))))))) (.reg [v_ 22 9,c2 23 22 (.int .i64 1) bad_,v_ 9 23])))))) (.seq (.reg [v_ 99 7,v_ 6 99]) .ret)))))
theorem Yl:As Tryz.prog 80 3=some ⟨100,3,[(.slot 6)],Nj⟩:=by kernel_rfl
def Jn:AC:=(.seq (.reg [c1 2 .nilS .mv]) (.seq (.seq (.reg [v_ 3 0,c2 4 3 (.int .i64 1) beq_]) (.cond (.slot 4) (.seq (.reg [m_ 5 [k_ (.int .i64 0),k_ (.int .i64 255)] (.build [(.int .i64 0),(.int .i64 0)] [(0,1),(1,1)] [0,1]),o1 6 5 (.bslice 2 1 (.agg [(.int .i64 0),(.int .i64 0)]) [0]),v_ 2 6]) .ret) .skip)) (.seq (.seq (.reg [v_ 7 0,c2 8 7 (.int .i64 2) beq_]) (.cond (.slot 8) (.seq (.reg [m_ 9 [k_ (.int .i64 0),k_ (.int .i64 55295)] (.build [(.int .i64 0),(.int .i64 0)] [(0,1),(1,1)] [0,1]),m_ 10 [k_ (.int .i64 57344),k_ (.int .i64 1114111)] (.build [(.int .i64 0),(.int .i64 0)] [(0,1),(1,1)] [0,1]),o2 11 9 10 (.bslice 2 2 (.agg [(.int .i64 0),(.int .i64 0)]) [0,1]),v_ 2 11]) .ret) .skip)) (.seq (.reg [c1 2 .nilS .mv]) .ret))))
theorem Rx:As Tryz.prog 81 1=some ⟨12,1,[(.slot 2)],Jn⟩:=by kernel_rfl
def Nk:AC:=(.seq (.reg [o1 4 0 .box,c1 8 (.bool false) .mv]) (.seq (.seq (.reg [o1 19 4 l6,v_ 20 1,v_ 21 2,v_ 22 3,o1 23 22 ln,m_ 24 [k_ (.fn 98 []),s_ 19,s_ 20,s_ 21,s_ 23] .call,o1 25 24 nt]) (.cond (.slot 25) (.seq (.reg [c1 8 (.bool false) .mv]) .ret) .skip)) (.seq (.reg [o1 27 4 l6,v_ 28 1,v_ 29 3,k3 30 99 27 28 29,v_ 26 30,o1 31 26 (.extract 0),o1 32 26 (.extract 1),v_ 9 31,v_ 10 32]) (.seq (.seq (.reg [v_ 33 10,o1 34 33 nt]) (.cond (.slot 34) (.seq (.reg [c1 8 (.bool false) .mv]) .ret) .skip)) (.seq (.seq (.reg [v_ 35 2,c2 36 35 (.int .i64 2) beq_]) (.cond (.slot 36) (.seq (.reg [v_ 37 9,v_ 38 2,k1 39 81 38,m_ 40 [k_ (.fn 80 []),s_ 37,s_ 39,k_ (.int .i64 2)] .call,o1 41 40 ln,c2 42 41 (.int .i64 0) beq_,v_ 8 42]) .ret) .skip)) (.seq (.dreg [o1 43 4 f1_,o1 44 43 ld,k1 45 100 44,o1 46 4 f2_,o1 47 46 ld,k1 48 100 47,o1 49 4 f3_,o1 50 49 ld,k1 51 100 50,v_ 11 45,v_ 12 48,v_ 13 51]) (.seq (.seq (.reg [c1 14 (.int .i64 0) .mv]) (.block 0 (.loop (.seq (.seq (.reg [v_ 52 14,v_ 53 9,o1 54 53 ln,o2 55 52 54 bls_]) (.cond (.slot 55) .skip (.exit 0))) (.seq (.block 1 (.seq (.dreg [v_ 58 9,v_ 59 14,o2 60 58 59 a2_,o1 61 60 f0_,o1 62 61 ld,v_ 63 11,o2 64 62 63 (.bin .quo),v_ 65 9,v_ 66 14,o2 67 65 66 a2_,o1 68 67 f1_,o1 69 68 ld,v_ 70 11,o2 71 69 70 (.bin .quo),v_ 15 64,v_ 16 71]) (.seq (.reg [v_ 72 15,v_ 17 72]) (.block 2 (.loop (.seq (.seq (.reg [v_ 73 17,v_ 74 16,o2 75 73 74 ble_]) (.cond (.slot 75) .skip (.exit 2))) (.seq (.block 3 (.seq (.seq (.reg [v_ 78 17,v_ 79 15,o2 80 78 79 bsu_,c2 81 80 (.int .i64 300) bgt_,v_ 82 81,g1 83 82 12 .mv,g_ 84 82 true [s_ 83,k_ (.int .i64 300)] bgt_,m_ 85 [s_ 82,s_ 84,k_ (.bool false)] .pick]) (.cond (.slot 85) (.seq (.reg [v_ 86 17,v_ 87 15,o2 88 86 87 bsu_,c2 89 88 (.int .i64 700) bgt_]) (.cond (.slot 89) (.seq (.reg [c1 8 (.bool false) .mv]) .ret) .skip)) (.seq (.reg [v_ 90 17,v_ 91 15,o2 92 90 91 bsu_,v_ 93 12,o2 94 92 93 bgt_]) (.cond (.slot 94) (.exit 2) .skip)))) (.seq (.dreg [o1 95 4 f0_,o1 96 95 ld,v_ 97 17,v_ 98 12,o2 99 97 98 (.bin .rem),v_ 100 13,o2 101 99 100 (.bin .mul),o2 102 96 101 bad_,v_ 18 102]) (.seq (.reg [v_ 103 18,c2 104 103 (.int .i64 0) bls_,v_ 105 104,g_ 106 105 false [s_ 18] .mv,g_ 107 105 false [s_ 106,k_ (.int .i64 255)] bgt_,m_ 108 [s_ 105,k_ (.bool true),s_ 107] .pick]) (.cond (.slot 108) (.seq (.reg [c1 8 (.bool false) .mv]) .ret) .skip))))) (.reg [v_ 76 17,c2 77 76 (.int .i64 1) bad_,v_ 17 77])))))))) (.reg [v_ 56 14,c2 57 56 (.int .i64 1) bad_,v_ 14 57])))))) (.seq (.reg [c1 8 (.bool true) .mv]) .ret))))))))
theorem Ym:As Tryz.prog 82 4=some ⟨109,4,[(.slot 8)],Nk⟩:=by kernel_rfl
def Dv:AC:=(.seq (.reg [c1 2 .nilS .mv]) (.seq (.seq (.reg [v_ 3 0,c2 4 3 .nilS (.eqn false)]) (.cond (.slot 4) (.seq (.reg [c1 2 .nilS .mv]) .ret) .skip)) (.seq (.reg [o0 5 (.bslice 1 0 (.int .i64 0) []),v_ 6 0,o2 7 5 6 (.app 1 8 (.int .i64 0)),v_ 2 7]) .ret)))
theorem E1:As Tryz.prog 83 1=some ⟨8,1,[(.slot 2)],Dv⟩:=by kernel_rfl
def Nl:AC:=(.seq (.reg [o1 2 0 .box,c1 4 (.bool false) .mv]) (.seq (.reg [o1 5 2 f0_,o1 6 5 ld,c2 7 6 (.int .i64 0) bge_,v_ 8 7,g1 9 8 2 f0_,g1 10 8 9 ld,g1 11 8 1 .mv,g2 12 8 10 11 bls_,m_ 13 [s_ 8,s_ 12,k_ (.bool false)] .pick,v_ 14 13,g1 15 14 2 (.load true 4),g_ 16 14 true [k_ (.fn 101 []),s_ 15] .call,m_ 17 [s_ 14,s_ 16,k_ (.bool false)] .pick,v_ 4 17]) .ret))
theorem Yn:As Tryz.prog 86 2=some ⟨18,2,[(.slot 4)],Nl⟩:=by kernel_rfl
def Nm:AC:=(.seq (.reg [o1 2 0 .box,c1 4 (.int .i64 0) .mv,c1 5 (.bool false) .mv]) (.seq (.seq (.reg [o1 6 2 (.load true 4),k1 7 101 6,o1 8 7 nt,v_ 9 8,g_ 10 9 false [s_ 1] .mv,g_ 11 9 false [s_ 10,k_ (.int .i64 0)] bls_,m_ 12 [s_ 9,k_ (.bool true),s_ 11] .pick,v_ 13 12,g_ 14 13 false [s_ 1] .mv,g_ 15 13 false [s_ 14,k_ (.int .i64 2097151)] bgt_,m_ 16 [s_ 13,k_ (.bool true),s_ 15] .pick]) (.cond (.slot 16) (.seq (.reg [c1 4 (.int .i64 0) .mv,c1 5 (.bool false) .mv]) .ret) .skip)) (.seq (.dreg [v_ 17 1,o1 18 2 f1_,o1 19 18 ld,o2 20 17 19 (.bin .shr),o1 21 2 f2_,o1 22 21 ld,m_ 23 [k_ (.int .i64 1),s_ 22] (.bin .shl),c2 24 23 (.int .i64 1) bsu_,o2 25 20 24 (.bin .and),o1 26 2 f3_,o1 27 26 ld,o2 28 25 27 (.bin .shl),v_ 4 28,c1 5 (.bool true) .mv]) .ret)))
theorem Yo:As Tryz.prog 87 2=some ⟨29,2,[(.slot 4),(.slot 5)],Nm⟩:=by kernel_rfl
def Nn:AC:=(.seq (.reg [o1 1 0 .box,o0 2 (.alloc (.agg [(.int .i64 0),(.int .i64 0),(.int .i64 0),(.int .i64 0)]) 4)]) (.seq (.reg [o1 3 1 f1_,o1 4 3 ld,o1 5 1 f2_,o1 6 5 ld,o1 7 1 f3_,o1 8 7 ld,o3 9 4 6 8 (.build [(.int .i64 0),(.int .i64 0),(.int .i64 0),(.int .i64 0)] [(0,1),(1,1),(2,1),(3,1)] [1,2,3]),n2 2 9 (.store 4)]) .ret))
theorem Yp:As Tryz.prog 88 1=some ⟨10,1,[(.cell 2 true 4)],Nn⟩:=by kernel_rfl
def Hx:AC:=(.seq (.reg [c1 2 (.int .i64 0) .mv]) (.seq (.cond (.const (.bool false)) (.seq (.reg [v_ 3 0,o1 4 3 (.conv .u32),k1 5 110 4,v_ 2 5]) .ret) .skip) (.seq (.reg [v_ 6 0,k1 7 111 6,v_ 2 7]) .ret)))
theorem Pr:As Tryz.prog 90 1=some ⟨8,1,[(.slot 2)],Hx⟩:=by kernel_rfl
def No:AC:=(.seq (.reg [c1 2 (.bool false) .mv]) (.seq (.reg [c1 3 (.int .i64 (-1073741826)) .mv]) (.seq (.seq (.reg [v_ 6 0,o1 7 6 ln,c1 8 (.int .i64 0) .mv]) (.block 0 (.loop (.seq (.reg [o2 9 8 7 bls_]) (.seq (.cond (.slot 9) .skip (.exit 0)) (.seq (.block 1 (.seq (.reg [o2 10 6 8 a2_,o1 11 10 (.load true 2),o0 5 (.alloc (.agg [(.int .i64 0),(.int .i64 0)]) 2),n2 5 11 (.store 2)]) (.seq (.seq (.reg [o1 12 5 f0_,o1 13 12 ld,o1 14 5 f1_,o1 15 14 ld,o2 16 13 15 bgt_,v_ 17 16,g_ 18 17 false [s_ 5] f0_,g_ 19 17 false [s_ 18] ld,g_ 20 17 false [s_ 19,k_ (.int .i64 (-1073741824))] bls_,m_ 21 [s_ 17,k_ (.bool true),s_ 20] .pick,v_ 22 21,g_ 23 22 false [s_ 5] f1_,g_ 24 22 false [s_ 23] ld,g_ 25 22 false [s_ 24,k_ (.int .i64 1073741824)] bgt_,m_ 26 [s_ 22,k_ (.bool true),s_ 25] .pick,v_ 27 26,g_ 28 27 false [s_ 5] f0_,g_ 29 27 false [s_ 28] ld,g_ 30 27 false [s_ 3] .mv,g_ 31 27 false [s_ 30,k_ (.int .i64 1)] bad_,g_ 32 27 false [s_ 29,s_ 31] ble_,m_ 33 [s_ 27,k_ (.bool true),s_ 32] .pick]) (.cond (.slot 33) (.seq (.reg [c1 2 (.bool false) .mv]) .ret) .skip)) (.reg [o1 34 5 f1_,o1 35 34 ld,v_ 3 35])))) (.reg [c2 36 8 (.int .i64 1) bad_,v_ 8 36]))))))) (.seq (.reg [c1 2 (.bool true) .mv]) .ret))))
theorem Yq:As Tryz.prog 93 1=some ⟨37,1,[(.slot 2)],No⟩:=by kernel_rfl
def K7:AC:=(.seq (.reg [c1 4 (.bool false) .mv]) (.seq (.reg [v_ 5 0,v_ 6 1,k2 7 113 5 6,o1 8 7 ln,c2 9 8 (.int .i64 0) beq_,v_ 4 9]) .ret))
theorem Vh:As Tryz.prog 94 2=some ⟨10,2,[(.slot 4)],K7⟩:=by kernel_rfl
def Ps:AC:=(.seq (.reg [o1 4 0 .box,c1 8 (.bool false) .mv]) (.seq (.seq (.reg [o1 11 4 l6,v_ 12 1,v_ 13 2,v_ 14 3,o1 15 14 ln,m_ 16 [k_ (.fn 114 []),s_ 11,s_ 12,s_ 13,s_ 15] .call,o1 17 16 nt]) (.cond (.slot 17) (.seq (.reg [c1 8 (.bool false) .mv]) .ret) .skip)) (.seq (.reg [o1 19 4 l6,v_ 20 3,k2 21 115 19 20,v_ 18 21,o1 22 18 (.extract 0),o1 23 18 (.extract 1),v_ 9 22,v_ 10 23]) (.seq (.reg [v_ 24 10,v_ 25 24,g1 26 25 9 .mv,g1 27 25 2 .mv,g_ 28 25 true [k_ (.fn 49 []),s_ 27] .call,g_ 29 25 true [k_ (.fn 94 []),s_ 26,s_ 28] .call,m_ 30 [s_ 25,s_ 29,k_ (.bool false)] .pick,v_ 8 30]) .ret))))
theorem z0r:As Tryz.prog 95 4=some ⟨31,4,[(.slot 8)],Ps⟩:=by kernel_rfl
def Hy:AC:=(.seq (.reg [c1 4 .nilS .mv]) (.seq (.reg [c1 9 (.int .i64 (-1073741824)) (.bslice 1 1 (.int .i64 0) [0]),v_ 5 9]) (.seq (.seq (.reg [c1 6 (.int .i64 0) .mv]) (.block 0 (.loop (.seq (.seq (.reg [v_ 10 6,c2 11 10 (.int .i64 2) bls_]) (.cond (.slot 11) .skip (.exit 0))) (.seq (.block 1 (.seq (.reg [v_ 14 0,v_ 7 14]) (.seq (.seq (.reg [v_ 15 6,c2 16 15 (.int .i64 1) beq_]) (.cond (.slot 16) (.reg [v_ 17 1,v_ 7 17]) .skip)) (.seq (.reg [c1 8 (.int .i64 0) .mv]) (.block 2 (.loop (.seq (.seq (.reg [v_ 18 8,v_ 19 7,o1 20 19 ln,o2 21 18 20 bls_]) (.cond (.slot 21) .skip (.exit 2))) (.seq (.block 3 (.seq (.seq (.reg [v_ 24 7,v_ 25 8,o2 26 24 25 a2_,o1 27 26 f0_,o1 28 27 ld,c2 29 28 (.int .i64 (-1073741824)) bgt_,v_ 30 29,g1 31 30 7 .mv,g1 32 30 8 .mv,g2 33 30 31 32 a2_,g1 34 30 33 f0_,g1 35 30 34 ld,g_ 36 30 true [s_ 35,k_ (.int .i64 1073741824)] ble_,m_ 37 [s_ 30,s_ 36,k_ (.bool false)] .pick]) (.cond (.slot 37) (.reg [v_ 38 5,v_ 39 7,v_ 40 8,o2 41 39 40 a2_,o1 42 41 f0_,o1 43 42 ld,k2 44 116 38 43,v_ 5 44]) .skip)) (.seq (.reg [v_ 45 7,v_ 46 8,o2 47 45 46 a2_,o1 48 47 f1_,o1 49 48 ld,c2 50 49 (.int .i64 (-1073741824)) bge_,v_ 51 50,g1 52 51 7 .mv,g1 53 51 8 .mv,g2 54 51 52 53 a2_,g1 55 51 54 f1_,g1 56 51 55 ld,g_ 57 51 true [s_ 56,k_ (.int .i64 1073741824)] bls_,m_ 58 [s_ 51,s_ 57,k_ (.bool false)] .pick]) (.cond (.slot 58) (.reg [v_ 59 5,v_ 60 7,v_ 61 8,o2 62 60 61 a2_,o1 63 62 f1_,o1 64 63 ld,c2 65 64 (.int .i64 1) bad_,k2 66 116 59 65,v_ 5 66]) .skip)))) (.reg [v_ 22 8,c2 23 22 (.int .i64 1) bad_,v_ 8 23]))))))))) (.reg [v_ 12 6,c2 13 12 (.int .i64 1) bad_,v_ 6 13])))))) (.seq (.reg [v_ 67 5,v_ 4 67]) .ret))))
theorem Pt:As Tryz.prog 96 2=some ⟨68,2,[(.slot 4)],Hy⟩:=by kernel_rfl
def Pu:AC:=(.seq (.reg [c1 4 (.bool false) .mv]) (.seq (.seq (.reg [c1 5 (.int .i64 0) .mv]) (.block 0 (.loop (.seq (.seq (.reg [v_ 6 5,v_ 7 0,o1 8 7 ln,o2 9 6 8 bls_]) (.cond (.slot 9) .skip (.exit 0))) (.seq (.block 1 (.seq (.reg [v_ 12 0,v_ 13 5,o2 14 12 13 a2_,o1 15 14 f0_,o1 16 15 ld,v_ 17 1,o2 18 16 17 ble_,v_ 19 18,g1 20 19 1 .mv,g1 21 19 0 .mv,g1 22 19 5 .mv,g2 23 19 21 22 a2_,g1 24 19 23 f1_,g1 25 19 24 ld,g2 26 19 20 25 ble_,m_ 27 [s_ 19,s_ 26,k_ (.bool false)] .pick,v_ 28 27,g1 29 28 1 .mv,g_ 30 28 true [s_ 29,k_ (.int .i64 (-1073741824))] bge_,m_ 31 [s_ 28,s_ 30,k_ (.bool false)] .pick,v_ 32 31,g1 33 32 1 .mv,g_ 34 32 true [s_ 33,k_ (.int .i64 1073741824)] ble_,m_ 35 [s_ 32,s_ 34,k_ (.bool false)] .pick]) (.cond (.slot 35) (.seq (.reg [c1 4 (.bool true) .mv]) .ret) .skip))) (.reg [v_ 10 5,c2 11 10 (.int .i64 1) bad_,v_ 5 11])))))) (.seq (.reg [c1 4 (.bool false) .mv]) .ret)))
theorem z0s:As Tryz.prog 97 2=some ⟨36,2,[(.slot 4)],Pu⟩:=by kernel_rfl
def K8:AC:=(.seq (.reg [o1 4 0 .box,c1 8 (.bool false) .mv]) (.seq (.seq (.reg [v_ 10 1,c2 11 10 (.int .i64 1) bne_,v_ 12 11,g1 13 12 1 .mv,g_ 14 12 true [s_ 13,k_ (.int .i64 2)] bne_,m_ 15 [s_ 12,s_ 14,k_ (.bool false)] .pick,v_ 16 15,g_ 17 16 false [s_ 2] .mv,g_ 18 16 false [s_ 17,k_ (.int .i64 1)] bne_,g_ 19 16 false [s_ 18] .mv,g1 20 19 2 .mv,g_ 21 19 true [s_ 20,k_ (.int .i64 2)] bne_,g_ 22 16 false [s_ 19,s_ 21,k_ (.bool false)] .pick,m_ 23 [s_ 16,k_ (.bool true),s_ 22] .pick,v_ 24 23,g_ 25 24 false [s_ 4] l6,g_ 26 24 false [k_ (.fn 117 []),s_ 25] .call,g_ 27 24 false [s_ 26] nt,m_ 28 [s_ 24,k_ (.bool true),s_ 27] .pick]) (.cond (.slot 28) (.seq (.reg [c1 8 (.bool false) .mv]) .ret) .skip)) (.seq (.seq (.reg [c1 9 (.int .i64 0) .mv]) (.block 0 (.loop (.seq (.seq (.reg [v_ 29 9,o1 30 4 f5_,o1 31 30 ld,o1 32 31 ln,o2 33 29 32 bls_]) (.cond (.slot 33) .skip (.exit 0))) (.seq (.block 1 (.seq (.reg [o1 36 4 f5_,o1 37 36 ld,v_ 38 9,o2 39 37 38 a4_,o1 40 39 (.load true 4),v_ 41 3,k2 42 118 40 41,o1 43 42 nt,v_ 44 43,g_ 45 44 false [s_ 1] .mv,g_ 46 44 false [s_ 45,k_ (.int .i64 2)] beq_,g_ 47 44 false [s_ 46] .mv,g1 48 47 9 .mv,g_ 49 47 true [s_ 48,k_ (.int .i64 0)] bgt_,g1 50 47 49 .mv,g_ 51 50 false [s_ 4] f5_,g_ 52 50 false [s_ 51] ld,g_ 53 50 false [s_ 9] .mv,g_ 54 50 false [s_ 52,s_ 53] a4_,g_ 55 50 false [s_ 54] (.load true 4),g_ 56 50 false [k_ (.fn 119 []),s_ 55] .call,g_ 57 50 false [s_ 56] nt,g_ 58 47 true [s_ 50,k_ (.bool true),s_ 57] .pick,g_ 59 44 false [s_ 47,s_ 58,k_ (.bool false)] .pick,m_ 60 [s_ 44,k_ (.bool true),s_ 59] .pick]) (.cond (.slot 60) (.seq (.reg [c1 8 (.bool false) .mv]) .ret) .skip))) (.reg [v_ 34 9,c2 35 34 (.int .i64 1) bad_,v_ 9 35])))))) (.seq (.reg [v_ 61 2,c2 62 61 (.int .i64 1) beq_,v_ 63 62,g_ 64 63 false [s_ 4] l6,g_ 65 63 false [k_ (.fn 120 []),s_ 64] .call,m_ 66 [s_ 63,k_ (.bool true),s_ 65] .pick,v_ 8 66]) .ret))))
theorem Vi:As Tryz.prog 98 4=some ⟨67,4,[(.slot 8)],K8⟩:=by kernel_rfl
def K9:AC:=(.seq (.reg [o1 3 0 .box,c1 6 .nilS .mv,c1 7 (.bool false) .mv]) (.seq (.seq (.reg [v_ 19 1,c2 20 19 (.int .i64 2) beq_,v_ 21 20,g1 22 21 3 f5_,g1 23 21 22 ld,g1 24 21 23 ln,g_ 25 21 true [s_ 24,k_ (.int .i64 1)] beq_,m_ 26 [s_ 21,s_ 25,k_ (.bool false)] .pick]) (.cond (.slot 26) (.seq (.dreg [v_ 27 2,o1 28 3 f5_,o1 29 28 ld,c2 30 29 (.int .i64 0) a4_,o1 31 30 f0_,o1 32 31 ld,o2 33 27 32 a1_,o1 34 33 ld,k1 35 79 34,o1 36 3 f4_,o1 37 36 ld,k2 38 121 35 37,v_ 8 38]) (.seq (.dreg [v_ 39 8,v_ 40 8,c2 41 40 (.int .i64 0) a2_,o1 42 41 f0_,o1 43 42 ld,c2 44 43 (.int .i64 0) bge_,v_ 45 44,g1 46 45 8 .mv,g1 47 45 8 .mv,g1 48 45 47 ln,g_ 49 45 true [s_ 48,k_ (.int .i64 1)] bsu_,g2 50 45 46 49 a2_,g1 51 45 50 f1_,g1 52 45 51 ld,g_ 53 45 true [s_ 52,k_ (.int .i64 1114111)] ble_,m_ 54 [s_ 45,s_ 53,k_ (.bool false)] .pick,v_ 6 39,v_ 7 54]) .ret)) .skip)) (.seq (.reg [o1 55 3 f4_,o1 56 55 ld,o1 57 56 (.bslice 1 1 (.int .i64 0) [0]),v_ 9 57]) (.seq (.seq (.reg [c1 10 (.int .i64 0) .mv]) (.block 0 (.loop (.seq (.seq (.reg [v_ 58 10,v_ 59 2,o1 60 59 ln,o2 61 58 60 bls_]) (.cond (.slot 61) .skip (.exit 0))) (.seq (.block 1 (.seq (.reg [c1 11 .nilS .mv]) (.seq (.reg [c1 12 (.bool false) .mv]) (.seq (.seq (.reg [c1 13 (.int .i64 0) .mv]) (.block 2 (.loop (.seq (.seq (.reg [v_ 64 13,c2 65 64 (.int .i64 256) bls_,v_ 66 65,g1 67 66 1 .mv,g_ 68 66 true [s_ 67,k_ (.int .i64 1)] beq_,m_ 69 [s_ 66,s_ 68,k_ (.bool false)] .pick]) (.cond (.slot 69) .skip (.exit 2))) (.seq (.block 3 (.seq (.seq (.reg [v_ 72 2,v_ 73 10,o2 74 72 73 a1_,o1 75 74 ld,v_ 76 13,k2 77 97 75 76,o1 78 77 nt]) (.cond (.slot 78) (.exit 3) .skip)) (.seq (.reg [c1 14 (.int .i64 0) .mv]) (.seq (.seq (.reg [c1 15 (.int .i64 0) .mv]) (.block 4 (.loop (.seq (.seq (.reg [v_ 79 15,o1 80 3 f5_,o1 81 80 ld,o1 82 81 ln,o2 83 79 82 bls_]) (.cond (.slot 83) .skip (.exit 4))) (.seq (.block 5 (.seq (.reg [o1 86 3 f5_,o1 87 86 ld,v_ 88 15,o2 89 87 88 a4_,o1 90 89 f0_,o1 91 90 ld,v_ 92 10,o2 93 91 92 beq_]) (.cond (.slot 93) (.seq (.reg [o1 95 3 f5_,o1 96 95 ld,v_ 97 15,o2 98 96 97 a4_,o1 99 98 (.load true 4),v_ 100 13,k2 101 122 99 100,v_ 94 101,o1 102 94 (.extract 0),o1 103 94 (.extract 1),v_ 16 102,v_ 17 103]) (.seq (.reg [v_ 104 14,v_ 105 16,o2 106 104 105 bad_,v_ 14 106]) (.reg [c1 12 (.bool true) .mv]))) .skip))) (.reg [v_ 84 15,c2 85 84 (.int .i64 1) bad_,v_ 15 85])))))) (.reg [v_ 107 11,v_ 108 14,k2 109 123 107 108,v_ 11 109]))))) (.reg [v_ 70 13,c2 71 70 (.int .i64 1) bad_,v_ 13 71])))))) (.seq (.seq (.reg [v_ 110 12,o1 111 110 nt]) (.cond (.slot 111) (.exit 1) .skip)) (.seq (.reg [c1 18 (.bool true) .mv]) (.seq (.reg [v_ 113 9,v_ 114 11,k2 115 124 113 114,v_ 112 115,o1 116 112 (.extract 0),o1 117 112 (.extract 1),v_ 9 116,v_ 18 117]) (.seq (.reg [v_ 118 18,o1 119 118 nt]) (.cond (.slot 119) (.seq (.reg [c1 6 .nilS .mv,c1 7 (.bool false) .mv]) .ret) .skip))))))))) (.reg [v_ 62 10,c2 63 62 (.int .i64 1) bad_,v_ 10 63])))))) (.seq (.dreg [v_ 120 9,k1 121 125 120,v_ 122 9,c2 123 122 (.int .i64 0) a1_,o1 124 123 ld,c2 125 124 (.int .i64 0) bge_,v_ 126 125,g1 127 126 9 .mv,g1 128 126 9 .mv,g1 129 126 128 ln,g_ 130 126 true [s_ 129,k_ (.int .i64 1)] bsu_,g2 131 126 127 130 a1_,g1 132 126 131 ld,g_ 133 126 true [s_ 132,k_ (.int .i64 1114111)] ble_,m_ 134 [s_ 126,s_ 133,k_ (.bool false)] .pick,v_ 6 121,v_ 7 134]) .ret)))))
theorem Vj:As Tryz.prog 99 3=some ⟨135,3,[(.slot 6),(.slot 7)],K9⟩:=by kernel_rfl
def Pv:AC:=(.seq (.reg [c1 2 (.int .i64 0) .mv]) (.seq (.reg [c1 3 (.int .i64 1) .mv]) (.seq (.seq (.reg [c1 4 (.int .i64 0) .mv]) (.block 0 (.loop (.seq (.seq (.reg [v_ 5 4,v_ 6 0,o2 7 5 6 bls_]) (.cond (.slot 7) .skip (.exit 0))) (.seq (.block 1 (.reg [v_ 10 3,m_ 11 [k_ (.int .i64 2),s_ 10] (.bin .mul),v_ 3 11])) (.reg [v_ 8 4,c2 9 8 (.int .i64 1) bad_,v_ 4 9])))))) (.seq (.reg [v_ 12 3,v_ 2 12]) .ret))))
theorem z0t:As Tryz.prog 100 1=some ⟨13,1,[(.slot 2)],Pv⟩:=by kernel_rfl
def Pw:AC:=(.seq (.reg [o1 1 0 .box,c1 2 (.bool false) .mv]) (.seq (.reg [o1 3 1 f1_,o1 4 3 ld,c2 5 4 (.int .i64 0) bge_,v_ 6 5,g1 7 6 1 f1_,g1 8 6 7 ld,g_ 9 6 true [s_ 8,k_ (.int .i64 21)] bls_,m_ 10 [s_ 6,s_ 9,k_ (.bool false)] .pick,v_ 11 10,g1 12 11 1 f2_,g1 13 11 12 ld,g_ 14 11 true [s_ 13,k_ (.int .i64 1)] bge_,m_ 15 [s_ 11,s_ 14,k_ (.bool false)] .pick,v_ 16 15,g1 17 16 1 f2_,g1 18 16 17 ld,g_ 19 16 true [s_ 18,k_ (.int .i64 21)] ble_,m_ 20 [s_ 16,s_ 19,k_ (.bool false)] .pick,v_ 21 20,g1 22 21 1 f3_,g1 23 21 22 ld,g_ 24 21 true [s_ 23,k_ (.int .i64 0)] bge_,m_ 25 [s_ 21,s_ 24,k_ (.bool false)] .pick,v_ 26 25,g1 27 26 1 f3_,g1 28 26 27 ld,g_ 29 26 true [s_ 28,k_ (.int .i64 21)] bls_,m_ 30 [s_ 26,s_ 29,k_ (.bool false)] .pick,v_ 31 30,g1 32 31 1 f3_,g1 33 31 32 ld,g_ 34 31 true [s_ 33,k_ (.int .i64 0)] beq_,g1 35 31 34 .mv,g_ 36 35 false [s_ 1] f2_,g_ 37 35 false [s_ 36] ld,g_ 38 35 false [s_ 37,k_ (.int .i64 6)] ble_,g_ 39 31 true [s_ 35,k_ (.bool true),s_ 38] .pick,m_ 40 [s_ 31,s_ 39,k_ (.bool false)] .pick,v_ 2 40]) .ret))
theorem z0u:As Tryz.prog 101 1=some ⟨41,1,[(.slot 2)],Pw⟩:=by kernel_rfl
end Go.Proofs.YticodgjinajkpaaGreat
set_option maxRecDepth 100000
namespace Go.Proofs.YticodgjinajkpaaGreat
open Abs
def Gn:AC:=(.seq (.reg [c1 2 (.int .i64 0) .mv]) (.seq (.seq (.reg [v_ 3 0,c2 4 3 (.int .u64 4294967296) bge_]) (.cond (.slot 4) (.seq (.reg [v_ 5 0,c2 6 5 (.int .u64 32) (.bin .shr),v_ 0 6]) (.reg [c1 2 (.int .i64 32) .mv])) .skip)) (.seq (.seq (.reg [v_ 7 0,c2 8 7 (.int .u64 65536) bge_]) (.cond (.slot 8) (.seq (.reg [v_ 9 0,c2 10 9 (.int .u64 16) (.bin .shr),v_ 0 10]) (.reg [v_ 11 2,c2 12 11 (.int .i64 16) bad_,v_ 2 12])) .skip)) (.seq (.seq (.reg [v_ 13 0,c2 14 13 (.int .u64 256) bge_]) (.cond (.slot 14) (.seq (.reg [v_ 15 0,c2 16 15 (.int .u64 8) (.bin .shr),v_ 0 16]) (.reg [v_ 17 2,c2 18 17 (.int .i64 8) bad_,v_ 2 18])) .skip)) (.seq (.reg [v_ 19 2,v_ 20 0,o1 21 20 (.conv .u8),m_ 22 [k_ (.str [0,1,2,2,3,3,3,3,4,4,4,4,4,4,4,4,5,5,5,5,5,5,5,5,5,5,5,5,5,5,5,5,6,6,6,6,6,6,6,6,6,6,6,6,6,6,6,6,6,6,6,6,6,6,6,6,6,6,6,6,6,6,6,6,7,7,7,7,7,7,7,7,7,7,7,7,7,7,7,7,7,7,7,7,7,7,7,7,7,7,7,7,7,7,7,7,7,7,7,7,7,7,7,7,7,7,7,7,7,7,7,7,7,7,7,7,7,7,7,7,7,7,7,7,7,7,7,7,8,8,8,8,8,8,8,8,8,8,8,8,8,8,8,8,8,8,8,8,8,8,8,8,8,8,8,8,8,8,8,8,8,8,8,8,8,8,8,8,8,8,8,8,8,8,8,8,8,8,8,8,8,8,8,8,8,8,8,8,8,8,8,8,8,8,8,8,8,8,8,8,8,8,8,8,8,8,8,8,8,8,8,8,8,8,8,8,8,8,8,8,8,8,8,8,8,8,8,8,8,8,8,8,8,8,8,8,8,8,8,8,8,8,8,8,8,8,8,8,8,8,8,8,8,8,8,8]),s_ 21] .indexStr,o1 23 22 (.conv .i64),o2 24 19 23 bad_,v_ 2 24]) .ret)))))
theorem Mg:As Tryz.prog 111 1=some ⟨25,1,[(.slot 2)],Gn⟩:=by kernel_rfl
def Np:AC:=(.seq (.reg [c1 4 .nilS .mv]) (.seq (.reg [c1 5 .nilS .mv]) (.seq (.reg [c1 6 (.int .i64 (-1073741824)) .mv]) (.seq (.seq (.reg [v_ 9 1,k1 10 131 9,o1 11 10 ln,c1 12 (.int .i64 0) .mv]) (.block 0 (.loop (.seq (.reg [o2 13 12 11 bls_]) (.seq (.cond (.slot 13) .skip (.exit 0)) (.seq (.block 1 (.seq (.reg [o2 14 10 12 a2_,o1 15 14 (.load true 2),o0 8 (.alloc (.agg [(.int .i64 0),(.int .i64 0)]) 2),n2 8 15 (.store 2)]) (.seq (.reg [v_ 16 5,v_ 17 6,o1 18 8 f0_,o1 19 18 ld,c2 20 19 (.int .i64 1) bsu_,o2 21 17 20 (.build [(.int .i64 0),(.int .i64 0)] [(0,1),(1,1)] [0,1]),o1 22 21 (.bslice 2 1 (.agg [(.int .i64 0),(.int .i64 0)]) [0]),o2 23 16 22 (.app 2 16 (.agg [(.int .i64 0),(.int .i64 0)])),v_ 5 23]) (.reg [o1 24 8 f1_,o1 25 24 ld,c2 26 25 (.int .i64 1) bad_,v_ 6 26])))) (.reg [c2 27 12 (.int .i64 1) bad_,v_ 12 27]))))))) (.seq (.reg [v_ 28 5,v_ 29 6,c2 30 29 (.int .i64 1073741824) (.build [(.int .i64 0),(.int .i64 0)] [(0,1),(1,1)] [0,1]),o1 31 30 (.bslice 2 1 (.agg [(.int .i64 0),(.int .i64 0)]) [0]),o2 32 28 31 (.app 2 16 (.agg [(.int .i64 0),(.int .i64 0)])),v_ 5 32]) (.seq (.reg [v_ 33 0,v_ 34 5,k2 35 132 33 34,v_ 4 35]) .ret))))))
theorem Yr:As Tryz.prog 113 2=some ⟨36,2,[(.slot 4)],Np⟩:=by kernel_rfl
def Nq:AC:=(.seq (.reg [o1 4 0 .box,c1 8 (.bool false) .mv]) (.seq (.seq (.reg [v_ 11 1,k1 12 49 11,o1 13 12 ln,c2 14 13 (.int .i64 0) beq_,v_ 15 14,g_ 16 15 false [s_ 2] .mv,g_ 17 15 false [k_ (.fn 49 []),s_ 16] .call,g_ 18 15 false [s_ 17] ln,g_ 19 15 false [s_ 18,k_ (.int .i64 0)] beq_,m_ 20 [s_ 15,k_ (.bool true),s_ 19] .pick,v_ 21 20,g_ 22 21 false [s_ 4] l6,g_ 23 21 false [k_ (.fn 133 []),s_ 22] .call,g_ 24 21 false [s_ 23] nt,m_ 25 [s_ 21,k_ (.bool true),s_ 24] .pick]) (.cond (.slot 25) (.seq (.reg [c1 8 (.bool false) .mv]) .ret) .skip)) (.seq (.seq (.reg [o1 26 4 f5_,o1 27 26 ld,o1 28 27 ln,c1 29 (.int .i64 0) .mv]) (.block 0 (.loop (.seq (.reg [o2 30 29 28 bls_]) (.seq (.cond (.slot 30) .skip (.exit 0)) (.seq (.block 1 (.seq (.reg [o2 31 27 29 a4_,o1 32 31 (.load true 4),o0 10 (.alloc (.agg [(.int .i64 0),(.int .i64 0),(.int .i64 0),(.int .i64 0)]) 4),n2 10 32 (.store 4)]) (.seq (.dreg [o1 33 10 (.load true 4),v_ 34 3,k2 35 86 33 34,o1 36 35 nt,v_ 37 36,g_ 38 37 false [s_ 1] .mv,g_ 39 37 false [s_ 38,k_ (.int .i64 2)] beq_,g_ 40 37 false [s_ 39] .mv,g1 41 40 10 (.load true 4),g1 42 40 10 f0_,g1 43 40 42 ld,g_ 44 40 true [k_ (.fn 78 []),s_ 43] .call,g2 45 40 41 44 (.eqs true [1,1,1,1]),g_ 46 37 false [s_ 40,s_ 45,k_ (.bool false)] .pick,m_ 47 [s_ 37,k_ (.bool true),s_ 46] .pick]) (.cond (.slot 47) (.seq (.reg [c1 8 (.bool false) .mv]) .ret) .skip)))) (.reg [c2 48 29 (.int .i64 1) bad_,v_ 29 48]))))))) (.seq (.reg [v_ 49 1,c2 50 49 (.int .i64 2) bne_,v_ 51 50,g_ 52 51 false [s_ 4] f5_,g_ 53 51 false [s_ 52] ld,g_ 54 51 false [s_ 53] ln,g_ 55 51 false [s_ 54,k_ (.int .i64 1)] ble_,m_ 56 [s_ 51,k_ (.bool true),s_ 55] .pick,v_ 57 56,g1 58 57 2 .mv,g_ 59 57 true [s_ 58,k_ (.int .i64 2)] bne_,g1 60 57 59 .mv,g_ 61 60 false [s_ 4] l6,g_ 62 60 false [k_ (.fn 134 []),s_ 61] .call,g_ 63 57 true [s_ 60,k_ (.bool true),s_ 62] .pick,m_ 64 [s_ 57,s_ 63,k_ (.bool false)] .pick,v_ 8 64]) .ret))))
theorem Ys:As Tryz.prog 114 4=some ⟨65,4,[(.slot 8)],Nq⟩:=by kernel_rfl
def Nr:AC:=(.seq (.reg [o1 2 0 .box,c1 4 .nilS .mv,c1 5 (.bool false) .mv]) (.seq (.reg [o1 9 2 l6,v_ 10 1,k2 11 135 9 10,v_ 8 11,o1 12 8 (.extract 0),o1 13 8 (.extract 1),v_ 6 12,v_ 7 13]) (.seq (.seq (.reg [v_ 14 7,o1 15 14 nt]) (.cond (.slot 15) (.seq (.reg [c1 4 .nilS .mv,c1 5 (.bool false) .mv]) .ret) .skip)) (.seq (.seq (.reg [v_ 16 6,o1 17 16 ln,c2 18 17 (.int .i64 0) beq_]) (.cond (.slot 18) (.seq (.reg [c1 4 .nilS .mv,c1 5 (.bool true) .mv]) .ret) .skip)) (.seq (.dreg [o1 19 2 l6,k1 20 88 19,v_ 21 6,k2 22 137 20 21,o1 23 2 f0_,o1 24 23 ld,k2 25 136 22 24,v_ 4 25,c1 5 (.bool true) .mv]) .ret)))))
theorem Yt:As Tryz.prog 115 2=some ⟨26,2,[(.slot 4),(.slot 5)],Nr⟩:=by kernel_rfl
def Px:AC:=(.seq (.reg [c1 4 .nilS .mv]) (.seq (.reg [v_ 9 0,o1 10 9 ln,c1 5 (.int .i64 0) .mv,v_ 6 10]) (.seq (.block 0 (.loop (.seq (.seq (.reg [v_ 11 5,v_ 12 6,o2 13 11 12 bls_]) (.cond (.slot 13) .skip (.exit 0))) (.block 1 (.seq (.reg [v_ 14 5,v_ 15 6,o2 16 14 15 bad_,c2 17 16 (.int .i64 2) (.bin .quo),v_ 7 17]) (.seq (.reg [v_ 18 0,v_ 19 7,o2 20 18 19 a1_,o1 21 20 ld,v_ 22 1,o2 23 21 22 bls_]) (.cond (.slot 23) (.reg [v_ 24 7,c2 25 24 (.int .i64 1) bad_,v_ 5 25]) (.reg [v_ 26 7,v_ 6 26])))))))) (.seq (.seq (.reg [v_ 27 5,v_ 28 0,o1 29 28 ln,o2 30 27 29 bls_,v_ 31 30,g1 32 31 0 .mv,g1 33 31 5 .mv,g2 34 31 32 33 a1_,g1 35 31 34 ld,g1 36 31 1 .mv,g2 37 31 35 36 beq_,m_ 38 [s_ 31,s_ 37,k_ (.bool false)] .pick]) (.cond (.slot 38) (.seq (.reg [v_ 39 0,v_ 4 39]) .ret) .skip)) (.seq (.reg [v_ 40 0,c1 41 (.int .i64 0) (.bslice 1 1 (.int .i64 0) [0]),o2 42 40 41 (.app 1 8 (.int .i64 0)),v_ 0 42]) (.seq (.seq (.reg [v_ 43 0,o1 44 43 ln,c2 45 44 (.int .i64 1) bsu_,v_ 8 45]) (.block 2 (.loop (.seq (.seq (.reg [v_ 46 8,v_ 47 5,o2 48 46 47 bgt_]) (.cond (.slot 48) .skip (.exit 2))) (.seq (.block 3 (.reg [v_ 51 0,v_ 52 8,v_ 53 0,v_ 54 8,c2 55 54 (.int .i64 1) bsu_,o2 56 53 55 a1_,o1 57 56 ld,o2 58 51 52 a1_,n2 58 57 st])) (.reg [v_ 49 8,c2 50 49 (.int .i64 1) bsu_,v_ 8 50])))))) (.seq (.reg [v_ 59 0,v_ 60 5,v_ 61 1,o2 62 59 60 a1_,n2 62 61 st]) (.seq (.reg [v_ 63 0,v_ 4 63]) .ret))))))))
theorem z0v:As Tryz.prog 116 2=some ⟨64,2,[(.slot 4)],Px⟩:=by kernel_rfl
def Hz:AC:=(.seq (.reg [o1 1 0 .box,c1 2 (.bool false) .mv]) (.seq (.seq (.reg [o1 4 1 f0_,o1 5 4 ld,k1 6 138 5,o1 7 6 nt,v_ 8 7,g_ 9 8 false [s_ 1] f4_,g_ 10 8 false [s_ 9] ld,g_ 11 8 false [k_ (.fn 138 []),s_ 10] .call,g_ 12 8 false [s_ 11] nt,m_ 13 [s_ 8,k_ (.bool true),s_ 12] .pick,v_ 14 13,g_ 15 14 false [s_ 1] l6,g_ 16 14 false [k_ (.fn 140 []),s_ 15] .call,g_ 17 14 false [k_ (.fn 139 []),s_ 16] .call,g_ 18 14 false [s_ 17] nt,m_ 19 [s_ 14,k_ (.bool true),s_ 18] .pick,v_ 20 19,g_ 21 20 false [s_ 1] f5_,g_ 22 20 false [s_ 21] ld,g_ 23 20 false [s_ 22] ln,g_ 24 20 false [s_ 23,k_ (.int .i64 4)] bgt_,m_ 25 [s_ 20,k_ (.bool true),s_ 24] .pick]) (.cond (.slot 25) (.seq (.reg [c1 2 (.bool false) .mv]) .ret) .skip)) (.seq (.seq (.reg [c1 3 (.int .i64 1) .mv]) (.block 0 (.loop (.seq (.seq (.reg [v_ 26 3,o1 27 1 f5_,o1 28 27 ld,o1 29 28 ln,o2 30 26 29 bls_]) (.cond (.slot 30) .skip (.exit 0))) (.seq (.block 1 (.seq (.dreg [o1 33 1 f5_,o1 34 33 ld,v_ 35 3,o2 36 34 35 a4_,o1 37 36 f3_,o1 38 37 ld,o1 39 1 f5_,o1 40 39 ld,v_ 41 3,c2 42 41 (.int .i64 1) bsu_,o2 43 40 42 a4_,o1 44 43 f3_,o1 45 44 ld,o2 46 38 45 ble_]) (.cond (.slot 46) (.seq (.reg [c1 2 (.bool false) .mv]) .ret) .skip))) (.reg [v_ 31 3,c2 32 31 (.int .i64 1) bad_,v_ 3 32])))))) (.seq (.reg [c1 2 (.bool true) .mv]) .ret))))
theorem Py:As Tryz.prog 117 1=some ⟨47,1,[(.slot 2)],Hz⟩:=by kernel_rfl
def La:AC:=(.seq (.reg [o1 2 0 .box,c1 4 (.bool false) .mv]) (.seq (.reg [o1 5 2 (.load true 4),k1 6 139 5,v_ 7 6,g1 8 7 2 f0_,g1 9 7 8 ld,g_ 10 7 true [s_ 9,k_ (.int .i64 0)] bge_,m_ 11 [s_ 7,s_ 10,k_ (.bool false)] .pick,v_ 12 11,g1 13 12 2 f0_,g1 14 12 13 ld,g1 15 12 1 .mv,g2 16 12 14 15 bls_,m_ 17 [s_ 12,s_ 16,k_ (.bool false)] .pick,v_ 4 17]) .ret))
theorem Vk:As Tryz.prog 118 2=some ⟨18,2,[(.slot 4)],La⟩:=by kernel_rfl
def Pz:AC:=(.seq (.reg [o1 1 0 .box,c1 2 (.bool false) .mv]) (.seq (.reg [o1 3 1 f1_,o1 4 3 ld,c2 5 4 (.int .i64 0) beq_,v_ 6 5,g1 7 6 1 f2_,g1 8 6 7 ld,g_ 9 6 true [s_ 8,k_ (.int .i64 21)] beq_,m_ 10 [s_ 6,s_ 9,k_ (.bool false)] .pick,v_ 11 10,g1 12 11 1 f3_,g1 13 11 12 ld,g_ 14 11 true [s_ 13,k_ (.int .i64 0)] beq_,m_ 15 [s_ 11,s_ 14,k_ (.bool false)] .pick,v_ 2 15]) .ret))
theorem z0w:As Tryz.prog 119 1=some ⟨16,1,[(.slot 2)],Pz⟩:=by kernel_rfl
def Lb:AC:=(.seq (.reg [o1 1 0 .box,c1 2 (.bool false) .mv]) (.seq (.reg [o1 3 1 f0_,o1 4 3 ld,c2 5 4 (.int .i64 0) beq_,v_ 6 5,g1 7 6 1 l6,g_ 8 6 true [k_ (.fn 140 []),s_ 7] .call,g_ 9 6 true [k_ (.fn 119 []),s_ 8] .call,m_ 10 [s_ 6,s_ 9,k_ (.bool false)] .pick,v_ 2 10]) .ret))
theorem Vl:As Tryz.prog 120 1=some ⟨11,1,[(.slot 2)],Lb⟩:=by kernel_rfl
def Ns:AC:=(.seq (.reg [c1 4 .nilS .mv]) (.seq (.seq (.reg [v_ 8 1,c2 9 8 (.int .i64 2147483648) bgt_,v_ 10 9,g_ 11 10 false [s_ 1] .mv,g_ 12 10 false [s_ 11,k_ (.int .i64 (-2147483648))] bls_,m_ 13 [s_ 10,k_ (.bool true),s_ 12] .pick]) (.cond (.slot 13) (.seq (.reg [c1 4 .nilS .mv]) .ret) .skip)) (.seq (.reg [v_ 14 0,k1 15 79 14,v_ 5 15]) (.seq (.reg [c1 6 .nilS .mv]) (.seq (.seq (.reg [c1 7 (.int .i64 0) .mv]) (.block 0 (.loop (.seq (.seq (.reg [v_ 16 7,v_ 17 5,o1 18 17 ln,o2 19 16 18 bls_]) (.cond (.slot 19) .skip (.exit 0))) (.seq (.block 1 (.dtl [v_ 22 6,v_ 23 5,v_ 24 7,o2 25 23 24 a2_,o1 26 25 f0_,o1 27 26 ld,v_ 28 1,o2 29 27 28 bad_,v_ 30 5,v_ 31 7,o2 32 30 31 a2_,o1 33 32 f1_,o1 34 33 ld,v_ 35 1,o2 36 34 35 bad_,o2 37 29 36 (.build [(.int .i64 0),(.int .i64 0)] [(0,1),(1,1)] [0,1]),o1 38 37 (.bslice 2 1 (.agg [(.int .i64 0),(.int .i64 0)]) [0])] [o2 39 22 38 (.app 2 16 (.agg [(.int .i64 0),(.int .i64 0)])),v_ 6 39])) (.reg [v_ 20 7,c2 21 20 (.int .i64 1) bad_,v_ 7 21])))))) (.seq (.reg [v_ 40 6,k1 41 79 40,v_ 4 41]) .ret))))))
theorem Yu:As Tryz.prog 121 2=some ⟨42,2,[(.slot 4)],Ns⟩:=by kernel_rfl
def Lc:AC:=(.seq (.reg [o1 2 0 .box,c1 4 (.int .i64 0) .mv,c1 5 (.bool false) .mv]) (.seq (.seq (.reg [o1 6 2 (.load true 4),k1 7 139 6,o1 8 7 nt,v_ 9 8,g_ 10 9 false [s_ 1] .mv,g_ 11 9 false [s_ 10,k_ (.int .i64 0)] bls_,m_ 12 [s_ 9,k_ (.bool true),s_ 11] .pick,v_ 13 12,g_ 14 13 false [s_ 1] .mv,g_ 15 13 false [s_ 14,k_ (.int .i64 2097152)] bge_,m_ 16 [s_ 13,k_ (.bool true),s_ 15] .pick]) (.cond (.slot 16) (.seq (.reg [c1 4 (.int .i64 0) .mv,c1 5 (.bool false) .mv]) .ret) .skip)) (.seq (.dreg [v_ 17 1,o1 18 2 f1_,o1 19 18 ld,k1 20 100 19,o2 21 17 20 (.bin .quo),o1 22 2 f2_,o1 23 22 ld,k1 24 100 23,o2 25 21 24 (.bin .rem),o1 26 2 f3_,o1 27 26 ld,k1 28 100 27,o2 29 25 28 (.bin .mul),v_ 4 29,c1 5 (.bool true) .mv]) .ret)))
theorem Vm:As Tryz.prog 122 2=some ⟨30,2,[(.slot 4),(.slot 5)],Lc⟩:=by kernel_rfl
def P0:AC:=(.seq (.reg [c1 4 .nilS .mv]) (.seq (.reg [v_ 9 0,o1 10 9 ln,c1 5 (.int .i64 0) .mv,v_ 6 10]) (.seq (.block 0 (.loop (.seq (.seq (.reg [v_ 11 5,v_ 12 6,o2 13 11 12 bls_]) (.cond (.slot 13) .skip (.exit 0))) (.block 1 (.seq (.reg [v_ 14 5,v_ 15 6,o2 16 14 15 bad_,c2 17 16 (.int .i64 2) (.bin .quo),v_ 7 17]) (.seq (.reg [v_ 18 0,v_ 19 7,o2 20 18 19 a1_,o1 21 20 ld,v_ 22 1,o2 23 21 22 bls_]) (.cond (.slot 23) (.reg [v_ 24 7,c2 25 24 (.int .i64 1) bad_,v_ 5 25]) (.reg [v_ 26 7,v_ 6 26])))))))) (.seq (.seq (.reg [v_ 27 5,v_ 28 0,o1 29 28 ln,o2 30 27 29 bls_,v_ 31 30,g1 32 31 0 .mv,g1 33 31 5 .mv,g2 34 31 32 33 a1_,g1 35 31 34 ld,g1 36 31 1 .mv,g2 37 31 35 36 beq_,m_ 38 [s_ 31,s_ 37,k_ (.bool false)] .pick]) (.cond (.slot 38) (.seq (.reg [v_ 39 0,v_ 4 39]) .ret) .skip)) (.seq (.reg [v_ 40 0,c1 41 (.int .i64 0) (.bslice 1 1 (.int .i64 0) [0]),o2 42 40 41 (.app 1 8 (.int .i64 0)),v_ 0 42]) (.seq (.seq (.reg [v_ 43 0,o1 44 43 ln,c2 45 44 (.int .i64 1) bsu_,v_ 8 45]) (.block 2 (.loop (.seq (.seq (.reg [v_ 46 8,v_ 47 5,o2 48 46 47 bgt_]) (.cond (.slot 48) .skip (.exit 2))) (.seq (.block 3 (.reg [v_ 51 0,v_ 52 8,v_ 53 0,v_ 54 8,c2 55 54 (.int .i64 1) bsu_,o2 56 53 55 a1_,o1 57 56 ld,o2 58 51 52 a1_,n2 58 57 st])) (.reg [v_ 49 8,c2 50 49 (.int .i64 1) bsu_,v_ 8 50])))))) (.seq (.reg [v_ 59 0,v_ 60 5,v_ 61 1,o2 62 59 60 a1_,n2 62 61 st]) (.seq (.reg [v_ 63 0,v_ 4 63]) .ret))))))))
theorem z0x:As Tryz.prog 123 2=some ⟨64,2,[(.slot 4)],P0⟩:=by kernel_rfl
def Nt:AC:=(.seq (.reg [c1 4 .nilS .mv,c1 5 (.bool false) .mv]) (.seq (.seq (.reg [v_ 14 0,o1 15 14 ln,v_ 16 1,o1 17 16 ln,o2 18 15 17 (.bin .mul),c2 19 18 (.int .i64 4000) ble_]) (.cond (.slot 19) (.seq (.reg [c1 6 .nilS .mv]) (.seq (.seq (.reg [c1 7 (.int .i64 0) .mv]) (.block 0 (.loop (.seq (.seq (.reg [v_ 20 7,v_ 21 0,o1 22 21 ln,o2 23 20 22 bls_]) (.cond (.slot 23) .skip (.exit 0))) (.seq (.block 1 (.seq (.reg [c1 8 (.int .i64 0) .mv]) (.block 2 (.loop (.seq (.seq (.reg [v_ 26 8,v_ 27 1,o1 28 27 ln,o2 29 26 28 bls_]) (.cond (.slot 29) .skip (.exit 2))) (.seq (.block 3 (.seq (.seq (.dreg [v_ 32 0,v_ 33 7,o2 34 32 33 a1_,o1 35 34 ld,v_ 36 1,v_ 37 8,o2 38 36 37 a1_,o1 39 38 ld,o2 40 35 39 bad_,c2 41 40 (.int .i64 1114111) bgt_]) (.cond (.slot 41) (.seq (.reg [c1 4 .nilS .mv,c1 5 (.bool false) .mv]) .ret) .skip)) (.dtl [v_ 42 6,v_ 43 0,v_ 44 7,o2 45 43 44 a1_,o1 46 45 ld,v_ 47 1,v_ 48 8,o2 49 47 48 a1_,o1 50 49 ld,o2 51 46 50 bad_] [k2 52 123 42 51,v_ 6 52]))) (.reg [v_ 30 8,c2 31 30 (.int .i64 1) bad_,v_ 8 31]))))))) (.reg [v_ 24 7,c2 25 24 (.int .i64 1) bad_,v_ 7 25])))))) (.seq (.reg [v_ 53 6,v_ 4 53,c1 5 (.bool true) .mv]) .ret))) .skip)) (.seq (.reg [m_ 54 [k_ (.int .i64 2228223),k_ (.int .i64 2228223)] (.mkSlice 1 1 (.bool false)),v_ 9 54]) (.seq (.seq (.reg [c1 10 (.int .i64 0) .mv]) (.block 4 (.loop (.seq (.seq (.reg [v_ 55 10,v_ 56 0,o1 57 56 ln,o2 58 55 57 bls_]) (.cond (.slot 58) .skip (.exit 4))) (.seq (.block 5 (.seq (.reg [c1 11 (.int .i64 0) .mv]) (.block 6 (.loop (.seq (.seq (.reg [v_ 61 11,v_ 62 1,o1 63 62 ln,o2 64 61 63 bls_]) (.cond (.slot 64) .skip (.exit 6))) (.seq (.block 7 (.seq (.seq (.dreg [v_ 67 0,v_ 68 10,o2 69 67 68 a1_,o1 70 69 ld,v_ 71 1,v_ 72 11,o2 73 71 72 a1_,o1 74 73 ld,o2 75 70 74 bad_,c2 76 75 (.int .i64 1114111) bgt_]) (.cond (.slot 76) (.seq (.reg [c1 4 .nilS .mv,c1 5 (.bool false) .mv]) .ret) .skip)) (.dtl [v_ 77 9,v_ 78 0,v_ 79 10,o2 80 78 79 a1_,o1 81 80 ld,v_ 82 1,v_ 83 11,o2 84 82 83 a1_,o1 85 84 ld,o2 86 81 85 bad_,c2 87 86 (.int .i64 1114111) bad_,o2 88 77 87 a1_] [h_ [s_ 88,k_ (.bool true)] st]))) (.reg [v_ 65 11,c2 66 65 (.int .i64 1) bad_,v_ 11 66]))))))) (.reg [v_ 59 10,c2 60 59 (.int .i64 1) bad_,v_ 10 60])))))) (.seq (.reg [c1 12 .nilS .mv]) (.seq (.seq (.reg [c1 13 (.int .i64 0) .mv]) (.block 8 (.loop (.seq (.seq (.reg [v_ 89 13,v_ 90 9,o1 91 90 ln,o2 92 89 91 bls_]) (.cond (.slot 92) .skip (.exit 8))) (.seq (.block 9 (.seq (.reg [v_ 95 9,v_ 96 13,o2 97 95 96 a1_,o1 98 97 ld]) (.cond (.slot 98) (.reg [v_ 99 12,v_ 100 13,c2 101 100 (.int .i64 1114111) bsu_,o1 102 101 (.bslice 1 1 (.int .i64 0) [0]),o2 103 99 102 (.app 1 8 (.int .i64 0)),v_ 12 103]) .skip))) (.reg [v_ 93 13,c2 94 93 (.int .i64 1) bad_,v_ 13 94])))))) (.seq (.reg [v_ 104 12,v_ 4 104,c1 5 (.bool true) .mv]) .ret)))))))
theorem Yv:As Tryz.prog 124 2=some ⟨105,2,[(.slot 4),(.slot 5)],Nt⟩:=by kernel_rfl
def Ld:AC:=(.seq (.reg [c1 2 .nilS .mv]) (.seq (.reg [c1 3 .nilS .mv]) (.seq (.seq (.reg [c1 4 (.int .i64 0) .mv]) (.block 0 (.loop (.seq (.seq (.reg [v_ 6 4,v_ 7 0,o1 8 7 ln,o2 9 6 8 bls_]) (.cond (.slot 9) .skip (.exit 0))) (.seq (.block 1 (.seq (.reg [v_ 12 3,o1 13 12 ln,v_ 5 13]) (.seq (.dreg [v_ 14 5,c2 15 14 (.int .i64 0) bgt_,v_ 16 15,g1 17 16 3 .mv,g1 18 16 5 .mv,g_ 19 16 true [s_ 18,k_ (.int .i64 1)] bsu_,g2 20 16 17 19 a2_,g1 21 16 20 f1_,g1 22 16 21 ld,g1 23 16 0 .mv,g1 24 16 4 .mv,g2 25 16 23 24 a1_,g1 26 16 25 ld,g_ 27 16 true [s_ 26,k_ (.int .i64 1)] bsu_,g2 28 16 22 27 beq_,m_ 29 [s_ 16,s_ 28,k_ (.bool false)] .pick]) (.cond (.slot 29) (.reg [v_ 30 3,v_ 31 5,c2 32 31 (.int .i64 1) bsu_,v_ 33 0,v_ 34 4,o2 35 33 34 a1_,o1 36 35 ld,o2 37 30 32 a2_,o1 38 37 f1_,n2 38 36 st]) (.dtl [v_ 39 3,v_ 40 0,v_ 41 4,o2 42 40 41 a1_,o1 43 42 ld,v_ 44 0,v_ 45 4,o2 46 44 45 a1_,o1 47 46 ld,o2 48 43 47 (.build [(.int .i64 0),(.int .i64 0)] [(0,1),(1,1)] [0,1]),o1 49 48 (.bslice 2 1 (.agg [(.int .i64 0),(.int .i64 0)]) [0])] [o2 50 39 49 (.app 2 16 (.agg [(.int .i64 0),(.int .i64 0)])),v_ 3 50]))))) (.reg [v_ 10 4,c2 11 10 (.int .i64 1) bad_,v_ 4 11])))))) (.seq (.reg [v_ 51 3,v_ 2 51]) .ret))))
theorem Vn:As Tryz.prog 125 1=some ⟨52,1,[(.slot 2)],Ld⟩:=by kernel_rfl
def P5:AC:=(.seq (.reg [c1 2 .nilS .mv]) (.seq (.reg [v_ 10 0,o1 11 10 ln,m_ 12 [k_ (.int .i64 0),s_ 11] (.mkSlice 2 16 (.agg [(.int .i64 0),(.int .i64 0)])),v_ 3 12]) (.seq (.seq (.reg [v_ 13 0,o1 14 13 ln,c1 15 (.int .i64 0) .mv]) (.block 0 (.loop (.seq (.reg [o2 16 15 14 bls_]) (.seq (.cond (.slot 16) .skip (.exit 0)) (.seq (.block 1 (.seq (.reg [o2 17 13 15 a2_,o1 18 17 (.load true 2),o0 5 (.alloc (.agg [(.int .i64 0),(.int .i64 0)]) 2),n2 5 18 (.store 2)]) (.seq (.reg [o1 19 5 f0_,o1 20 19 ld,c2 21 20 (.int .i64 (-1073741824)) .max,o1 22 5 f1_,o1 23 22 ld,c2 24 23 (.int .i64 1073741824) .min,o1 25 5 f0_,n2 25 21 st,o1 26 5 f1_,n2 26 24 st]) (.seq (.reg [o1 27 5 f0_,o1 28 27 ld,o1 29 5 f1_,o1 30 29 ld,o2 31 28 30 ble_]) (.cond (.slot 31) (.reg [v_ 32 3,o1 33 5 (.load true 2),o1 34 33 (.bslice 2 1 (.agg [(.int .i64 0),(.int .i64 0)]) [0]),o2 35 32 34 (.app 2 16 (.agg [(.int .i64 0),(.int .i64 0)])),v_ 3 35]) .skip))))) (.reg [c2 36 15 (.int .i64 1) bad_,v_ 15 36]))))))) (.seq (.reg [v_ 37 3,m_ 38 [k_ (.fn 142 []),s_ 37,k_ (.fn 143 [])] .call]) (.seq (.reg [v_ 39 3,c2 40 39 (.int .i64 0) (.slice 2 false true false),v_ 6 40]) (.seq (.seq (.reg [v_ 41 3,o1 42 41 ln,c1 43 (.int .i64 0) .mv]) (.block 2 (.loop (.seq (.reg [o2 44 43 42 bls_]) (.seq (.cond (.slot 44) .skip (.exit 2)) (.seq (.block 3 (.seq (.reg [o2 45 41 43 a2_,o1 46 45 (.load true 2),o0 8 (.alloc (.agg [(.int .i64 0),(.int .i64 0)]) 2),n2 8 46 (.store 2)]) (.seq (.seq (.reg [v_ 47 6,o1 48 47 ln,v_ 9 48]) (.seq (.dreg [v_ 49 9,c2 50 49 (.int .i64 0) bgt_,v_ 51 50,g1 52 51 8 f0_,g1 53 51 52 ld,g1 54 51 6 .mv,g1 55 51 9 .mv,g_ 56 51 true [s_ 55,k_ (.int .i64 1)] bsu_,g2 57 51 54 56 a2_,g1 58 51 57 f1_,g1 59 51 58 ld,g_ 60 51 true [s_ 59,k_ (.int .i64 1)] bad_,g2 61 51 53 60 ble_,m_ 62 [s_ 51,s_ 61,k_ (.bool false)] .pick]) (.cond (.slot 62) (.seq (.dtl [v_ 63 6,v_ 64 9,c2 65 64 (.int .i64 1) bsu_,v_ 66 6,v_ 67 9,c2 68 67 (.int .i64 1) bsu_,o2 69 66 68 a2_,o1 70 69 f1_,o1 71 70 ld,o1 72 8 f1_,o1 73 72 ld,o2 74 71 73 .max,o2 75 63 65 a2_,o1 76 75 f1_] [n2 76 74 st]) (.exit 3)) .skip))) (.reg [v_ 77 6,o1 78 8 (.load true 2),o1 79 78 (.bslice 2 1 (.agg [(.int .i64 0),(.int .i64 0)]) [0]),o2 80 77 79 (.app 2 16 (.agg [(.int .i64 0),(.int .i64 0)])),v_ 6 80])))) (.reg [c2 81 43 (.int .i64 1) bad_,v_ 43 81]))))))) (.seq (.reg [v_ 82 6,v_ 2 82]) .ret)))))))
theorem z0y:As Tryz.prog 131 1=some ⟨83,1,[(.slot 2)],P5⟩:=by kernel_rfl
def P6:AC:=(.seq (.reg [c1 4 .nilS .mv]) (.seq (.reg [v_ 7 0,k1 8 131 7,v_ 9 1,k1 10 131 9,v_ 0 8,v_ 1 10]) (.seq (.reg [c1 5 .nilS .mv]) (.seq (.block 0 (.loop (.seq (.seq (.reg [v_ 11 0,o1 12 11 ln,c2 13 12 (.int .i64 0) bgt_,v_ 14 13,g1 15 14 1 .mv,g1 16 14 15 ln,g_ 17 14 true [s_ 16,k_ (.int .i64 0)] bgt_,m_ 18 [s_ 14,s_ 17,k_ (.bool false)] .pick]) (.cond (.slot 18) .skip (.exit 0))) (.block 1 (.seq (.greg [v_ 19 0,c2 20 19 (.int .i64 0) a2_,o1 21 20 f0_,o1 22 21 ld,v_ 23 1,c2 24 23 (.int .i64 0) a2_,o1 25 24 f0_,o1 26 25 ld,o2 27 22 26 .max,v_ 28 0,c2 29 28 (.int .i64 0) a2_,o1 30 29 f1_,o1 31 30 ld,v_ 32 1,c2 33 32 (.int .i64 0) a2_,o1 34 33 f1_,o1 35 34 ld,o2 36 31 35 .min,o2 37 27 36 (.build [(.int .i64 0),(.int .i64 0)] [(0,1),(1,1)] [0,1]),o0 6 (.alloc (.agg [(.int .i64 0),(.int .i64 0)]) 2),n2 6 37 (.store 2)]) (.seq (.seq (.reg [o1 38 6 f0_,o1 39 38 ld,o1 40 6 f1_,o1 41 40 ld,o2 42 39 41 ble_]) (.cond (.slot 42) (.reg [v_ 43 5,o1 44 6 (.load true 2),o1 45 44 (.bslice 2 1 (.agg [(.int .i64 0),(.int .i64 0)]) [0]),o2 46 43 45 (.app 2 16 (.agg [(.int .i64 0),(.int .i64 0)])),v_ 5 46]) .skip)) (.seq (.dreg [v_ 47 0,c2 48 47 (.int .i64 0) a2_,o1 49 48 f1_,o1 50 49 ld,v_ 51 1,c2 52 51 (.int .i64 0) a2_,o1 53 52 f1_,o1 54 53 ld,o2 55 50 54 bls_]) (.cond (.slot 55) (.reg [v_ 56 0,c2 57 56 (.int .i64 1) (.slice 2 true false false),v_ 0 57]) (.reg [v_ 58 1,c2 59 58 (.int .i64 1) (.slice 2 true false false),v_ 1 59]))))))))) (.seq (.reg [v_ 60 5,v_ 4 60]) .ret)))))
theorem z0z:As Tryz.prog 132 2=some ⟨61,2,[(.slot 4)],P6⟩:=by kernel_rfl
def Jo:AC:=(.seq (.reg [o1 1 0 .box,c1 2 (.bool false) .mv]) (.seq (.reg [o1 3 1 f0_,o1 4 3 ld,k1 5 145 4,v_ 6 5,g1 7 6 1 f4_,g1 8 6 7 ld,g_ 9 6 true [k_ (.fn 145 []),s_ 8] .call,m_ 10 [s_ 6,s_ 9,k_ (.bool false)] .pick,v_ 11 10,g1 12 11 1 l6,g_ 13 11 true [k_ (.fn 88 []),s_ 12] .call,g_ 14 11 true [k_ (.fn 86 []),s_ 13,k_ (.int .i64 1)] .call,m_ 15 [s_ 11,s_ 14,k_ (.bool false)] .pick,v_ 16 15,g1 17 16 1 f5_,g1 18 16 17 ld,g_ 19 16 true [k_ (.fn 146 []),s_ 18] .call,m_ 20 [s_ 16,s_ 19,k_ (.bool false)] .pick,v_ 2 20]) .ret))
theorem Ry:As Tryz.prog 133 1=some ⟨21,1,[(.slot 2)],Jo⟩:=by kernel_rfl
def Nu:AC:=(.seq (.reg [o1 1 0 .box,c1 2 (.bool false) .mv]) (.seq (.reg [o1 3 1 f0_,o1 4 3 ld,c2 5 4 (.int .i64 0) beq_,v_ 6 5,g1 7 6 1 l6,g_ 8 6 true [k_ (.fn 88 []),s_ 7] .call,g_ 9 6 true [k_ (.fn 78 []),k_ (.int .i64 0)] .call,g2 10 6 8 9 (.eqs false [1,1,1,1]),m_ 11 [s_ 6,s_ 10,k_ (.bool false)] .pick,v_ 2 11]) .ret))
theorem Yw:As Tryz.prog 134 1=some ⟨12,1,[(.slot 2)],Nu⟩:=by kernel_rfl
def Nv:AC:=(.seq (.reg [o1 2 0 .box,c1 4 .nilS .mv,c1 5 (.bool false) .mv]) (.seq (.seq (.reg [v_ 12 1,o1 13 12 ln,c2 14 13 (.int .i64 4) bgt_,v_ 15 14,g_ 16 15 false [s_ 2] l6,g_ 17 15 false [k_ (.fn 133 []),s_ 16] .call,g_ 18 15 false [s_ 17] nt,m_ 19 [s_ 15,k_ (.bool true),s_ 18] .pick]) (.cond (.slot 19) (.seq (.reg [c1 4 .nilS .mv,c1 5 (.bool false) .mv]) .ret) .skip)) (.seq (.reg [c1 6 (.bool true) .mv]) (.seq (.reg [v_ 20 1,o1 21 20 ln,o2 22 21 21 (.mkSlice 1 24 .nilS),v_ 7 22]) (.seq (.seq (.reg [v_ 23 1,o1 24 23 ln,c1 25 (.int .i64 0) .mv]) (.block 0 (.loop (.seq (.reg [o2 26 25 24 bls_]) (.seq (.cond (.slot 26) .skip (.exit 0)) (.seq (.block 1 (.seq (.reg [v_ 27 25,o2 28 23 25 a1_,o1 29 28 ld,v_ 8 27,v_ 9 29]) (.seq (.reg [v_ 30 7,v_ 31 8,v_ 32 9,k0 33 147,k2 34 132 32 33,o2 35 30 31 a1_,n2 35 34 st]) (.reg [v_ 36 6,v_ 37 36,g1 38 37 7 .mv,g1 39 37 8 .mv,g2 40 37 38 39 a1_,g1 41 37 40 ld,g1 42 37 41 ln,g_ 43 37 true [s_ 42,k_ (.int .i64 0)] bgt_,m_ 44 [s_ 37,s_ 43,k_ (.bool false)] .pick,v_ 6 44])))) (.reg [c2 45 25 (.int .i64 1) bad_,v_ 25 45]))))))) (.seq (.seq (.reg [o1 46 2 f5_,o1 47 46 ld,o1 48 47 ln,c1 49 (.int .i64 0) .mv]) (.block 2 (.loop (.seq (.reg [o2 50 49 48 bls_]) (.seq (.cond (.slot 50) .skip (.exit 2)) (.seq (.block 3 (.seq (.reg [o2 51 47 49 a4_,o1 52 51 (.load true 4),o0 11 (.alloc (.agg [(.int .i64 0),(.int .i64 0),(.int .i64 0),(.int .i64 0)]) 4),n2 11 52 (.store 4)]) (.seq (.reg [o1 53 11 (.load true 4),v_ 54 1,o1 55 54 ln,k2 56 86 53 55,o1 57 56 nt]) (.cond (.slot 57) (.seq (.reg [c1 4 .nilS .mv,c1 5 (.bool false) .mv]) .ret) .skip)))) (.reg [c2 58 49 (.int .i64 1) bad_,v_ 49 58]))))))) (.seq (.seq (.reg [v_ 59 6,o1 60 59 nt]) (.cond (.slot 60) (.seq (.reg [c1 4 .nilS .mv,c1 5 (.bool true) .mv]) .ret) .skip)) (.seq (.reg [o1 61 2 l6,v_ 62 7,k2 63 148 61 62,o1 64 63 (.extract 0),o1 65 63 (.extract 1),v_ 4 64,v_ 5 65]) .ret))))))))
theorem Yx:As Tryz.prog 135 2=some ⟨66,2,[(.slot 4),(.slot 5)],Nv⟩:=by kernel_rfl
def P7:AC:=(.seq (.reg [c1 4 .nilS .mv]) (.seq (.seq (.reg [v_ 7 1,c2 8 7 (.int .i64 (-2147483648)) bls_,v_ 9 8,g_ 10 9 false [s_ 1] .mv,g_ 11 9 false [s_ 10,k_ (.int .i64 2147483648)] bgt_,m_ 12 [s_ 9,k_ (.bool true),s_ 11] .pick]) (.cond (.slot 12) (.seq (.reg [c1 4 .nilS .mv]) .ret) .skip)) (.seq (.reg [v_ 13 0,k1 14 131 13,v_ 5 14]) (.seq (.seq (.reg [v_ 15 5,o1 16 15 ln,c1 17 (.int .i64 0) .mv]) (.block 0 (.loop (.seq (.reg [o2 18 17 16 bls_]) (.seq (.cond (.slot 18) .skip (.exit 0)) (.seq (.block 1 (.seq (.reg [v_ 19 17,v_ 6 19]) (.seq (.reg [v_ 20 5,v_ 21 6,o2 22 20 21 a2_,o1 23 22 f0_,o1 24 23 ld,v_ 25 1,o2 26 24 25 bad_,o2 27 20 21 a2_,o1 28 27 f0_,n2 28 26 st]) (.reg [v_ 29 5,v_ 30 6,o2 31 29 30 a2_,o1 32 31 f1_,o1 33 32 ld,v_ 34 1,o2 35 33 34 bad_,o2 36 29 30 a2_,o1 37 36 f1_,n2 37 35 st])))) (.reg [c2 38 17 (.int .i64 1) bad_,v_ 17 38]))))))) (.seq (.reg [v_ 39 5,k1 40 131 39,v_ 4 40]) .ret)))))
theorem z1a:As Tryz.prog 136 2=some ⟨41,2,[(.slot 4)],P7⟩:=by kernel_rfl
def H0:AC:=(.seq (.reg [o1 2 0 .box,c1 4 .nilS .mv]) (.seq (.seq (.reg [o1 13 2 (.load true 4),k1 14 101 13,o1 15 14 nt]) (.cond (.slot 15) (.seq (.reg [c1 4 .nilS .mv]) .ret) .skip)) (.seq (.reg [o1 16 2 f2_,o1 17 16 ld,m_ 18 [k_ (.int .i64 1),s_ 17] (.bin .shl),c2 19 18 (.int .i64 1) bsu_,v_ 5 19]) (.seq (.reg [c1 6 .nilS .mv]) (.seq (.seq (.reg [v_ 20 1,m_ 21 [k_ (.int .i64 0),k_ (.int .i64 2097151)] (.build [(.int .i64 0),(.int .i64 0)] [(0,1),(1,1)] [0,1]),o1 22 21 (.bslice 2 1 (.agg [(.int .i64 0),(.int .i64 0)]) [0]),k2 23 132 20 22,o1 24 23 ln,c1 25 (.int .i64 0) .mv]) (.block 0 (.loop (.seq (.reg [o2 26 25 24 bls_]) (.seq (.cond (.slot 26) .skip (.exit 0)) (.seq (.block 1 (.seq (.reg [o2 27 23 25 a2_,o1 28 27 (.load true 2),o0 8 (.alloc (.agg [(.int .i64 0),(.int .i64 0)]) 2),n2 8 28 (.store 2)]) (.seq (.dreg [o1 29 8 f0_,o1 30 29 ld,o1 31 2 f1_,o1 32 31 ld,o2 33 30 32 (.bin .shr),o1 34 8 f1_,o1 35 34 ld,o1 36 2 f1_,o1 37 36 ld,o2 38 35 37 (.bin .shr),v_ 9 33,v_ 10 38]) (.seq (.seq (.reg [v_ 39 10,v_ 40 9,o2 41 39 40 bsu_,v_ 42 5,o2 43 41 42 bge_]) (.cond (.slot 43) (.seq (.reg [v_ 44 5,m_ 45 [k_ (.int .i64 0),s_ 44] (.build [(.int .i64 0),(.int .i64 0)] [(0,1),(1,1)] [0,1]),o1 46 45 (.bslice 2 1 (.agg [(.int .i64 0),(.int .i64 0)]) [0]),v_ 6 46]) (.exit 0)) .skip)) (.seq (.reg [v_ 47 9,v_ 48 5,o2 49 47 48 (.bin .and),v_ 50 10,v_ 51 5,o2 52 50 51 (.bin .and),o2 53 49 52 ble_]) (.cond (.slot 53) (.reg [v_ 54 6,v_ 55 9,v_ 56 5,o2 57 55 56 (.bin .and),v_ 58 10,v_ 59 5,o2 60 58 59 (.bin .and),o2 61 57 60 (.build [(.int .i64 0),(.int .i64 0)] [(0,1),(1,1)] [0,1]),o1 62 61 (.bslice 2 1 (.agg [(.int .i64 0),(.int .i64 0)]) [0]),o2 63 54 62 (.app 2 16 (.agg [(.int .i64 0),(.int .i64 0)])),v_ 6 63]) (.reg [v_ 64 6,v_ 65 10,v_ 66 5,o2 67 65 66 (.bin .and),m_ 68 [k_ (.int .i64 0),s_ 67] (.build [(.int .i64 0),(.int .i64 0)] [(0,1),(1,1)] [0,1]),v_ 69 9,v_ 70 5,o2 71 69 70 (.bin .and),v_ 72 5,o2 73 71 72 (.build [(.int .i64 0),(.int .i64 0)] [(0,1),(1,1)] [0,1]),o2 74 68 73 (.bslice 2 2 (.agg [(.int .i64 0),(.int .i64 0)]) [0,1]),o2 75 64 74 (.app 2 16 (.agg [(.int .i64 0),(.int .i64 0)])),v_ 6 75]))))))) (.reg [c2 76 25 (.int .i64 1) bad_,v_ 25 76]))))))) (.seq (.reg [v_ 77 6,k1 78 131 77,v_ 6 78]) (.seq (.seq (.reg [o1 79 2 f3_,o1 80 79 ld,c2 81 80 (.int .i64 0) beq_]) (.cond (.slot 81) (.seq (.reg [v_ 82 6,v_ 4 82]) .ret) .skip)) (.seq (.reg [o0 11 (.alloc .nilS 1)]) (.seq (.seq (.reg [v_ 83 6,k1 84 149 83]) (.block 2 (.rng (.slot 84) [85] (.reg [v_ 12 85]) (.block 3 (.dtl [o1 86 11 ld,v_ 87 12,o1 88 2 f3_,o1 89 88 ld,o2 90 87 89 (.bin .shl),v_ 91 12,o1 92 2 f3_,o1 93 92 ld,o2 94 91 93 (.bin .shl),o2 95 90 94 (.build [(.int .i64 0),(.int .i64 0)] [(0,1),(1,1)] [0,1]),o1 96 95 (.bslice 2 1 (.agg [(.int .i64 0),(.int .i64 0)]) [0])] [o2 97 86 96 (.app 2 16 (.agg [(.int .i64 0),(.int .i64 0)])),n2 11 97 st]))))) (.seq (.reg [o1 98 11 ld,k1 99 131 98,v_ 4 99]) .ret))))))))))
theorem Nw:As Tryz.prog 137 2=some ⟨100,2,[(.slot 4)],H0⟩:=by kernel_rfl
def Le:AC:=(.seq (.reg [c1 2 (.bool false) .mv]) (.seq (.reg [v_ 3 0,m_ 4 [k_ (.int .i64 (-1114111)),s_ 3] ble_,v_ 5 4,g1 6 5 0 .mv,g_ 7 5 true [s_ 6,k_ (.int .i64 1114111)] ble_,m_ 8 [s_ 5,s_ 7,k_ (.bool false)] .pick,v_ 2 8]) .ret))
theorem Vo:As Tryz.prog 138 1=some ⟨9,1,[(.slot 2)],Le⟩:=by kernel_rfl
def Nx:AC:=(.seq (.reg [o1 1 0 .box,c1 2 (.bool false) .mv]) (.seq (.seq (.reg [o1 3 1 f1_,o1 4 3 ld,c2 5 4 (.int .i64 0) bls_,v_ 6 5,g_ 7 6 false [s_ 1] f1_,g_ 8 6 false [s_ 7] ld,g_ 9 6 false [s_ 8,k_ (.int .i64 20)] bgt_,m_ 10 [s_ 6,k_ (.bool true),s_ 9] .pick,v_ 11 10,g_ 12 11 false [s_ 1] f2_,g_ 13 11 false [s_ 12] ld,g_ 14 11 false [s_ 13,k_ (.int .i64 1)] bls_,m_ 15 [s_ 11,k_ (.bool true),s_ 14] .pick,v_ 16 15,g_ 17 16 false [s_ 1] f2_,g_ 18 16 false [s_ 17] ld,g_ 19 16 false [s_ 18,k_ (.int .i64 21)] bgt_,m_ 20 [s_ 16,k_ (.bool true),s_ 19] .pick,v_ 21 20,g_ 22 21 false [s_ 1] f3_,g_ 23 21 false [s_ 22] ld,g_ 24 21 false [s_ 23,k_ (.int .i64 0)] bls_,m_ 25 [s_ 21,k_ (.bool true),s_ 24] .pick,v_ 26 25,g_ 27 26 false [s_ 1] f3_,g_ 28 26 false [s_ 27] ld,g_ 29 26 false [s_ 28,k_ (.int .i64 20)] bgt_,m_ 30 [s_ 26,k_ (.bool true),s_ 29] .pick]) (.cond (.slot 30) (.seq (.reg [c1 2 (.bool false) .mv]) .ret) .skip)) (.seq (.reg [o1 31 1 f3_,o1 32 31 ld,c2 33 32 (.int .i64 0) beq_,v_ 34 33,g_ 35 34 false [s_ 1] f2_,g_ 36 34 false [s_ 35] ld,g_ 37 34 false [s_ 36,k_ (.int .i64 6)] ble_,m_ 38 [s_ 34,k_ (.bool true),s_ 37] .pick,v_ 2 38]) .ret)))
theorem Yy:As Tryz.prog 139 1=some ⟨39,1,[(.slot 2)],Nx⟩:=by kernel_rfl
def Lf:AC:=(.seq (.reg [o1 1 0 .box,o0 2 (.alloc (.agg [(.int .i64 0),(.int .i64 0),(.int .i64 0),(.int .i64 0)]) 4)]) (.seq (.reg [o1 3 1 f1_,o1 4 3 ld,o1 5 1 f2_,o1 6 5 ld,o1 7 1 f3_,o1 8 7 ld,o3 9 4 6 8 (.build [(.int .i64 0),(.int .i64 0),(.int .i64 0),(.int .i64 0)] [(0,1),(1,1),(2,1),(3,1)] [1,2,3]),n2 2 9 (.store 4)]) .ret))
theorem Vp:As Tryz.prog 140 1=some ⟨10,1,[(.cell 2 true 4)],Lf⟩:=by kernel_rfl
def C1:AC:=(.seq (.reg [v_ 5 0,o1 6 5 ln,v_ 4 6]) (.reg [v_ 7 0,v_ 8 4,v_ 9 4,o1 10 9 (.conv .u64),k1 11 90 10,v_ 12 1,m_ 13 [k_ (.fn 150 []),s_ 7,k_ (.int .i64 0),s_ 8,s_ 11,s_ 12] .call]))
theorem En:As Tryz.prog 142 2=some ⟨14,2,[],C1⟩:=by kernel_rfl
def Ny:AC:=(.seq (.reg [c1 2 (.bool false) .mv]) (.seq (.reg [v_ 3 0,c2 4 3 (.int .i64 (-1114111)) bge_,v_ 5 4,g1 6 5 0 .mv,g_ 7 5 true [s_ 6,k_ (.int .i64 1114111)] ble_,m_ 8 [s_ 5,s_ 7,k_ (.bool false)] .pick,v_ 2 8]) .ret))
theorem Yz:As Tryz.prog 145 1=some ⟨9,1,[(.slot 2)],Ny⟩:=by kernel_rfl
def Lg:AC:=(.seq (.reg [c1 2 (.bool false) .mv]) (.seq (.seq (.reg [v_ 5 0,o1 6 5 ln,c1 7 (.int .i64 0) .mv]) (.block 0 (.loop (.seq (.reg [o2 8 7 6 bls_]) (.seq (.cond (.slot 8) .skip (.exit 0)) (.seq (.block 1 (.seq (.reg [v_ 9 7,o2 10 5 7 a4_,o1 11 10 (.load true 4),o0 4 (.alloc (.agg [(.int .i64 0),(.int .i64 0),(.int .i64 0),(.int .i64 0)]) 4),v_ 3 9,n2 4 11 (.store 4)]) (.seq (.dreg [v_ 12 3,c2 13 12 (.int .i64 0) bgt_,v_ 14 13,g1 15 14 4 f3_,g1 16 14 15 ld,g1 17 14 0 .mv,g1 18 14 3 .mv,g_ 19 14 true [s_ 18,k_ (.int .i64 1)] bsu_,g2 20 14 17 19 a4_,g1 21 14 20 f3_,g1 22 14 21 ld,g2 23 14 16 22 ble_,m_ 24 [s_ 14,s_ 23,k_ (.bool false)] .pick]) (.cond (.slot 24) (.seq (.reg [c1 2 (.bool false) .mv]) .ret) .skip)))) (.reg [c2 25 7 (.int .i64 1) bad_,v_ 7 25]))))))) (.seq (.reg [v_ 26 0,o1 27 26 ln,c2 28 27 (.int .i64 4) ble_,v_ 2 28]) .ret)))
theorem Vq:As Tryz.prog 146 1=some ⟨29,1,[(.slot 2)],Lg⟩:=by kernel_rfl
def Jp:AC:=(.seq (.reg [c1 0 .nilS .mv]) (.seq (.reg [m_ 1 [k_ (.int .i64 0),k_ (.int .i64 1114111)] (.build [(.int .i64 0),(.int .i64 0)] [(0,1),(1,1)] [0,1]),o1 2 1 (.bslice 2 1 (.agg [(.int .i64 0),(.int .i64 0)]) [0]),v_ 0 2]) .ret))
theorem Rz:As Tryz.prog 147 0=some ⟨3,0,[(.slot 0)],Jp⟩:=by kernel_rfl
def A5:AC:=(.seq (.reg [o1 2 0 .box,c1 4 .nilS .mv,c1 5 (.bool false) .mv]) (.seq (.reg [o0 17 .mkMap,v_ 6 17]) (.seq (.reg [c1 7 .nilS .mv]) (.seq (.seq (.reg [o1 18 2 f5_,o1 19 18 ld,o1 20 19 ln,c1 21 (.int .i64 0) .mv]) (.block 0 (.loop (.seq (.reg [o2 22 21 20 bls_]) (.seq (.cond (.slot 22) .skip (.exit 0)) (.seq (.block 1 (.seq (.reg [o2 23 19 21 a4_,o1 24 23 (.load true 4),o0 9 (.alloc (.agg [(.int .i64 0),(.int .i64 0),(.int .i64 0),(.int .i64 0)]) 4),n2 9 24 (.store 4)]) (.seq (.seq (.reg [v_ 25 6,o1 26 9 f0_,o1 27 26 ld,o2 28 25 27 (.mapGet .nilS),o1 29 28 ln,c2 30 29 (.int .i64 0) beq_]) (.cond (.slot 30) (.reg [v_ 31 7,o1 32 9 f0_,o1 33 32 ld,o1 34 33 (.bslice 1 1 (.int .i64 0) [0]),o2 35 31 34 (.app 1 8 (.int .i64 0)),v_ 7 35]) .skip)) (.grx [false,true,true,false,true,true,false,true,false,false,false] [m_ 36 [s_ 6] .mv,m_ 37 [s_ 9] f0_,m_ 38 [s_ 37] ld,m_ 39 [s_ 6] .mv,m_ 40 [s_ 9] f0_,m_ 41 [s_ 40] ld,m_ 42 [s_ 39,s_ 41] (.mapGet .nilS),m_ 43 [s_ 9] (.load true 4),m_ 44 [s_ 43] (.bslice 4 1 (.agg [(.int .i64 0),(.int .i64 0),(.int .i64 0),(.int .i64 0)]) [0]),m_ 45 [s_ 42,s_ 44] (.app 4 32 (.agg [(.int .i64 0),(.int .i64 0),(.int .i64 0),(.int .i64 0)])),h_ [s_ 36,s_ 38,s_ 45] .mapSet])))) (.reg [c2 46 21 (.int .i64 1) bad_,v_ 21 46]))))))) (.seq (.reg [o1 47 2 f4_,o1 48 47 ld,o1 49 2 f4_,o1 50 49 ld,o2 51 48 50 (.build [(.int .i64 0),(.int .i64 0)] [(0,1),(1,1)] [0,1]),o1 52 51 (.bslice 2 1 (.agg [(.int .i64 0),(.int .i64 0)]) [0]),v_ 10 52]) (.seq (.seq (.reg [v_ 53 7,o1 54 53 ln,c1 55 (.int .i64 0) .mv]) (.block 2 (.loop (.seq (.reg [o2 56 55 54 bls_]) (.seq (.cond (.slot 56) .skip (.exit 2)) (.seq (.block 3 (.seq (.reg [o2 57 53 55 a1_,o1 58 57 ld,v_ 12 58]) (.dreg [v_ 59 10,v_ 60 6,v_ 61 12,o2 62 60 61 (.mapGet .nilS),v_ 63 1,v_ 64 12,o2 65 63 64 a1_,o1 66 65 ld,k2 67 153 62 66,k2 68 152 59 67,v_ 10 68]))) (.reg [c2 69 55 (.int .i64 1) bad_,v_ 55 69]))))))) (.seq (.reg [v_ 71 10,k1 72 154 71,v_ 70 72,o1 73 70 (.extract 0),o1 74 70 (.extract 1),v_ 13 73,v_ 14 74]) (.seq (.reg [v_ 76 10,k1 77 155 76,v_ 75 77,o1 78 75 (.extract 0),o1 79 75 (.extract 1),v_ 15 78,v_ 16 79]) (.seq (.reg [v_ 80 10,v_ 81 10,o1 82 81 ln,c2 83 82 (.int .i64 0) bgt_,v_ 84 83,g1 85 84 13 .mv,g_ 86 84 true [s_ 85,k_ (.int .i64 0)] bge_,m_ 87 [s_ 84,s_ 86,k_ (.bool false)] .pick,v_ 88 87,g1 89 88 15 .mv,g_ 90 88 true [s_ 89,k_ (.int .i64 1114111)] ble_,m_ 91 [s_ 88,s_ 90,k_ (.bool false)] .pick,v_ 4 80,v_ 5 91]) .ret)))))))))
theorem A7:As Tryz.prog 148 2=some ⟨92,2,[(.slot 4),(.slot 5)],A5⟩:=by kernel_rfl
def P8:AC:=(.seq (.reg [c1 2 .nilF .mv]) (.seq (.reg [v_ 4 0,k1 5 131 4,o0 3 (.alloc .nilS 1),n2 3 5 st]) (.seq (.reg [o1 6 3 (.mkFunc 156),v_ 2 6]) .ret)))
theorem z1b:As Tryz.prog 149 1=some ⟨7,1,[(.slot 2)],P8⟩:=by kernel_rfl
def Db:AC:=(.seq (.reg [c1 10 (.bool true) .mv]) (.seq (.reg [c1 11 (.bool true) .mv]) (.block 0 (.loop (.block 1 (.seq (.reg [v_ 21 2,v_ 22 1,o2 23 21 22 bsu_,v_ 12 23]) (.seq (.seq (.reg [v_ 24 12,c2 25 24 (.int .i64 12) ble_]) (.cond (.slot 25) (.seq (.reg [v_ 26 0,v_ 27 1,v_ 28 2,v_ 29 4,m_ 30 [k_ (.fn 157 []),s_ 26,s_ 27,s_ 28,s_ 29] .call]) .ret) .skip)) (.seq (.seq (.reg [v_ 31 3,c2 32 31 (.int .i64 0) beq_]) (.cond (.slot 32) (.seq (.reg [v_ 33 0,v_ 34 1,v_ 35 2,v_ 36 4,m_ 37 [k_ (.fn 158 []),s_ 33,s_ 34,s_ 35,s_ 36] .call]) .ret) .skip)) (.seq (.seq (.reg [v_ 38 10,o1 39 38 nt]) (.cond (.slot 39) (.seq (.reg [v_ 40 0,v_ 41 1,v_ 42 2,v_ 43 4,m_ 44 [k_ (.fn 159 []),s_ 40,s_ 41,s_ 42,s_ 43] .call]) (.reg [v_ 45 3,c2 46 45 (.int .i64 1) bsu_,v_ 3 46])) .skip)) (.seq (.reg [v_ 48 0,v_ 49 1,v_ 50 2,v_ 51 4,m_ 52 [k_ (.fn 160 []),s_ 48,s_ 49,s_ 50,s_ 51] .call,v_ 47 52,o1 53 47 (.extract 0),o1 54 47 (.extract 1),v_ 13 53,v_ 14 54]) (.seq (.seq (.reg [v_ 55 14,c2 56 55 (.int .i64 2) beq_]) (.cond (.slot 56) (.seq (.reg [v_ 57 0,v_ 58 1,v_ 59 2,v_ 60 4,m_ 61 [k_ (.fn 161 []),s_ 57,s_ 58,s_ 59,s_ 60] .call]) (.seq (.reg [v_ 62 2,c2 63 62 (.int .i64 1) bsu_,v_ 64 13,v_ 65 1,o2 66 64 65 bsu_,o2 67 63 66 bsu_,v_ 13 67]) (.reg [c1 14 (.int .i64 1) .mv]))) .skip)) (.seq (.seq (.reg [v_ 68 10,v_ 69 68,g1 70 69 11 .mv,m_ 71 [s_ 69,s_ 70,k_ (.bool false)] .pick,v_ 72 71,g1 73 72 14 .mv,g_ 74 72 true [s_ 73,k_ (.int .i64 1)] beq_,m_ 75 [s_ 72,s_ 74,k_ (.bool false)] .pick]) (.cond (.slot 75) (.seq (.reg [v_ 76 0,v_ 77 1,v_ 78 2,v_ 79 4,m_ 80 [k_ (.fn 162 []),s_ 76,s_ 77,s_ 78,s_ 79] .call]) (.cond (.slot 80) .ret .skip)) .skip)) (.seq (.seq (.dtl [v_ 81 1,c2 82 81 (.int .i64 0) bgt_,v_ 83 82,g1 84 83 4 .mv,g1 85 83 0 .mv,g1 86 83 1 .mv,g_ 87 83 true [s_ 86,k_ (.int .i64 1)] bsu_,g2 88 83 85 87 a2_,g1 89 83 88 (.load true 2),g1 90 83 0 .mv,g1 91 83 13 .mv,g2 92 83 90 91 a2_,g1 93 83 92 (.load true 2)] [g_ 94 83 true [s_ 84,s_ 89,s_ 93] .call,g_ 95 83 true [s_ 94,k_ (.int .i64 0)] bls_,g1 96 83 95 nt,m_ 97 [s_ 83,s_ 96,k_ (.bool false)] .pick]) (.cond (.slot 97) (.seq (.reg [v_ 98 0,v_ 99 1,v_ 100 2,v_ 101 13,v_ 102 4,m_ 103 [k_ (.fn 163 []),s_ 98,s_ 99,s_ 100,s_ 101,s_ 102] .call,v_ 15 103]) (.seq (.reg [v_ 104 15,v_ 1 104]) (.exit 1))) .skip)) (.seq (.reg [v_ 106 0,v_ 107 1,v_ 108 2,v_ 109 13,v_ 110 4,m_ 111 [k_ (.fn 164 []),s_ 106,s_ 107,s_ 108,s_ 109,s_ 110] .call,v_ 105 111,o1 112 105 (.extract 0),o1 113 105 (.extract 1),v_ 16 112,v_ 17 113]) (.seq (.reg [v_ 114 17,v_ 11 114]) (.seq (.reg [v_ 115 16,v_ 116 1,o2 117 115 116 bsu_,v_ 118 2,v_ 119 16,o2 120 118 119 bsu_,v_ 18 117,v_ 19 120]) (.seq (.reg [v_ 121 12,c2 122 121 (.int .i64 8) (.bin .quo),v_ 20 122]) (.seq (.reg [v_ 123 18,v_ 124 19,o2 125 123 124 bls_]) (.cond (.slot 125) (.seq (.reg [v_ 126 18,v_ 127 20,o2 128 126 127 bge_,v_ 10 128]) (.seq (.reg [v_ 129 0,v_ 130 1,v_ 131 16,v_ 132 3,v_ 133 4,m_ 134 [k_ (.fn 150 []),s_ 129,s_ 130,s_ 131,s_ 132,s_ 133] .call]) (.reg [v_ 135 16,c2 136 135 (.int .i64 1) bad_,v_ 1 136]))) (.seq (.reg [v_ 137 19,v_ 138 20,o2 139 137 138 bge_,v_ 10 139]) (.seq (.reg [v_ 140 0,v_ 141 16,c2 142 141 (.int .i64 1) bad_,v_ 143 2,v_ 144 3,v_ 145 4,m_ 146 [k_ (.fn 150 []),s_ 140,s_ 142,s_ 143,s_ 144,s_ 145] .call]) (.reg [v_ 147 16,v_ 2 147]))))))))))))))))))))))
theorem Ez:As Tryz.prog 150 5=some ⟨148,5,[],Db⟩:=by kernel_rfl
def P9:AC:=(.seq (.reg [c1 4 .nilS .mv]) (.seq (.reg [c1 5 .nilS .mv]) (.seq (.seq (.reg [v_ 10 0,o1 11 10 ln,c1 12 (.int .i64 0) .mv]) (.block 0 (.loop (.seq (.reg [o2 13 12 11 bls_]) (.seq (.cond (.slot 13) .skip (.exit 0)) (.seq (.block 1 (.seq (.reg [o2 14 10 12 a2_,o1 15 14 (.load true 2),o0 7 (.alloc (.agg [(.int .i64 0),(.int .i64 0)]) 2),n2 7 15 (.store 2)]) (.seq (.seq (.reg [v_ 16 1,o1 17 16 ln,c1 18 (.int .i64 0) .mv]) (.block 2 (.loop (.seq (.reg [o2 19 18 17 bls_]) (.seq (.cond (.slot 19) .skip (.exit 2)) (.seq (.block 3 (.seq (.reg [o2 20 16 18 a2_,o1 21 20 (.load true 2),o0 9 (.alloc (.agg [(.int .i64 0),(.int .i64 0)]) 2),n2 9 21 (.store 2)]) (.reg [v_ 22 5,o1 23 7 f0_,o1 24 23 ld,o1 25 9 f0_,o1 26 25 ld,o2 27 24 26 bad_,o1 28 7 f1_,o1 29 28 ld,o1 30 9 f1_,o1 31 30 ld,o2 32 29 31 bad_,o2 33 27 32 (.build [(.int .i64 0),(.int .i64 0)] [(0,1),(1,1)] [0,1]),o1 34 33 (.bslice 2 1 (.agg [(.int .i64 0),(.int .i64 0)]) [0]),o2 35 22 34 (.app 2 16 (.agg [(.int .i64 0),(.int .i64 0)])),v_ 5 35]))) (.reg [c2 36 18 (.int .i64 1) bad_,v_ 18 36]))))))) (.seq (.reg [v_ 37 5,o1 38 37 ln,c2 39 38 (.int .i64 65536) bgt_]) (.cond (.slot 39) (.reg [v_ 40 5,k1 41 131 40,v_ 5 41]) .skip))))) (.reg [c2 42 12 (.int .i64 1) bad_,v_ 12 42]))))))) (.seq (.reg [v_ 43 5,k1 44 131 43,v_ 4 44]) .ret))))
theorem z1c:As Tryz.prog 152 2=some ⟨45,2,[(.slot 4)],P9⟩:=by kernel_rfl
def H5:AC:=(.seq (.reg [o1 2 0 .box,c1 4 .nilS .mv]) (.seq (.seq (.reg [o1 13 2 ld,o1 14 13 ln,c2 15 14 (.int .i64 1) beq_]) (.cond (.slot 15) (.seq (.reg [o1 16 2 ld,c2 17 16 (.int .i64 0) a4_,o1 18 17 (.load true 4),v_ 19 1,k2 20 137 18 19,v_ 4 20]) .ret) .skip)) (.seq (.reg [o0 5 (.alloc .nilS 1)]) (.seq (.seq (.reg [v_ 21 1,k1 22 149 21]) (.block 0 (.rng (.slot 22) [23] (.reg [v_ 6 23]) (.block 1 (.seq (.reg [c1 7 (.int .i64 0) .mv]) (.seq (.seq (.reg [o1 24 2 ld,o1 25 24 ln,c1 26 (.int .i64 0) .mv]) (.block 2 (.loop (.seq (.reg [o2 27 26 25 bls_]) (.seq (.cond (.slot 27) .skip (.exit 2)) (.seq (.block 3 (.seq (.reg [o2 28 24 26 a4_,o1 29 28 (.load true 4),o0 9 (.alloc (.agg [(.int .i64 0),(.int .i64 0),(.int .i64 0),(.int .i64 0)]) 4),n2 9 29 (.store 4)]) (.seq (.reg [o1 31 9 (.load true 4),v_ 32 6,k2 33 87 31 32,v_ 30 33,o1 34 30 (.extract 0),o1 35 30 (.extract 1),v_ 10 34,v_ 11 35]) (.reg [v_ 36 7,v_ 37 10,o2 38 36 37 bad_,v_ 7 38])))) (.reg [c2 39 26 (.int .i64 1) bad_,v_ 26 39]))))))) (.seq (.reg [o1 40 5 ld,o1 41 40 ln,v_ 12 41]) (.seq (.reg [v_ 42 12,c2 43 42 (.int .i64 0) bgt_,v_ 44 43,g1 45 44 5 ld,g1 46 44 12 .mv,g_ 47 44 true [s_ 46,k_ (.int .i64 1)] bsu_,g2 48 44 45 47 a2_,g1 49 44 48 f1_,g1 50 44 49 ld,g1 51 44 7 .mv,g_ 52 44 true [s_ 51,k_ (.int .i64 1)] bsu_,g2 53 44 50 52 beq_,m_ 54 [s_ 44,s_ 53,k_ (.bool false)] .pick]) (.cond (.slot 54) (.reg [o1 55 5 ld,v_ 56 12,c2 57 56 (.int .i64 1) bsu_,v_ 58 7,o2 59 55 57 a2_,o1 60 59 f1_,n2 60 58 st]) (.reg [o1 61 5 ld,v_ 62 7,v_ 63 7,o2 64 62 63 (.build [(.int .i64 0),(.int .i64 0)] [(0,1),(1,1)] [0,1]),o1 65 64 (.bslice 2 1 (.agg [(.int .i64 0),(.int .i64 0)]) [0]),o2 66 61 65 (.app 2 16 (.agg [(.int .i64 0),(.int .i64 0)])),n2 5 66 st])))))))))) (.seq (.reg [o1 67 5 ld,k1 68 131 67,v_ 4 68]) .ret)))))
theorem Qa:As Tryz.prog 153 2=some ⟨69,2,[(.slot 4)],H5⟩:=by kernel_rfl
def Nz:AC:=(.seq (.reg [c1 2 (.int .i64 0) .mv,c1 3 (.bool false) .mv]) (.seq (.reg [v_ 5 0,k1 6 131 5,v_ 4 6]) (.seq (.seq (.reg [v_ 7 4,o1 8 7 ln,c2 9 8 (.int .i64 0) beq_]) (.cond (.slot 9) (.seq (.reg [c1 2 (.int .i64 0) .mv,c1 3 (.bool false) .mv]) .ret) .skip)) (.seq (.reg [v_ 10 4,c2 11 10 (.int .i64 0) a2_,o1 12 11 f0_,o1 13 12 ld,v_ 2 13,c1 3 (.bool true) .mv]) .ret))))
theorem Y0:As Tryz.prog 154 1=some ⟨14,1,[(.slot 2),(.slot 3)],Nz⟩:=by kernel_rfl
def Qb:AC:=(.seq (.reg [c1 2 (.int .i64 0) .mv,c1 3 (.bool false) .mv]) (.seq (.reg [v_ 5 0,k1 6 131 5,v_ 4 6]) (.seq (.seq (.reg [v_ 7 4,o1 8 7 ln,c2 9 8 (.int .i64 0) beq_]) (.cond (.slot 9) (.seq (.reg [c1 2 (.int .i64 0) .mv,c1 3 (.bool false) .mv]) .ret) .skip)) (.seq (.reg [v_ 10 4,v_ 11 4,o1 12 11 ln,c2 13 12 (.int .i64 1) bsu_,o2 14 10 13 a2_,o1 15 14 f1_,o1 16 15 ld,v_ 2 16,c1 3 (.bool true) .mv]) .ret))))
theorem z1d:As Tryz.prog 155 1=some ⟨17,1,[(.slot 2),(.slot 3)],Qb⟩:=by kernel_rfl
def Hc:AC:=(.seq (.reg [o1 6 1 ld,o1 7 6 ln,c1 8 (.int .i64 0) .mv]) (.block 0 (.loop (.seq (.reg [o2 9 8 7 bls_]) (.seq (.cond (.slot 9) .skip (.exit 0)) (.seq (.block 1 (.seq (.reg [o2 10 6 8 a2_,o1 11 10 (.load true 2),o0 4 (.alloc (.agg [(.int .i64 0),(.int .i64 0)]) 2),n2 4 11 (.store 2)]) (.seq (.reg [o1 12 4 f0_,o1 13 12 ld,v_ 5 13]) (.block 2 (.loop (.seq (.seq (.reg [v_ 14 5,o1 15 4 f1_,o1 16 15 ld,o2 17 14 16 ble_]) (.cond (.slot 17) .skip (.exit 2))) (.seq (.block 3 (.seq (.reg [v_ 20 0,v_ 21 5,o2 22 20 21 .call,o1 23 22 nt]) (.cond (.slot 23) .ret .skip))) (.reg [v_ 18 5,c2 19 18 (.int .i64 1) bad_,v_ 5 19])))))))) (.reg [c2 24 8 (.int .i64 1) bad_,v_ 8 24])))))))
theorem Vr:As Tryz.prog 156 2=some ⟨25,2,[],Hc⟩:=by kernel_rfl
def Co:AC:=(.seq (.reg [v_ 10 1,c2 11 10 (.int .i64 1) bad_,v_ 8 11]) (.block 0 (.loop (.seq (.seq (.reg [v_ 12 8,v_ 13 2,o2 14 12 13 bls_]) (.cond (.slot 14) .skip (.exit 0))) (.seq (.block 1 (.seq (.reg [v_ 17 8,v_ 9 17]) (.block 2 (.loop (.seq (.seq (.dtl [v_ 18 9,v_ 19 1,o2 20 18 19 bgt_,v_ 21 20,g1 22 21 3 .mv,g1 23 21 0 .mv,g1 24 21 9 .mv,g2 25 21 23 24 a2_,g1 26 21 25 (.load true 2),g1 27 21 0 .mv,g1 28 21 9 .mv,g_ 29 21 true [s_ 28,k_ (.int .i64 1)] bsu_,g2 30 21 27 29 a2_,g1 31 21 30 (.load true 2)] [g_ 32 21 true [s_ 22,s_ 26,s_ 31] .call,g_ 33 21 true [s_ 32,k_ (.int .i64 0)] bls_,m_ 34 [s_ 21,s_ 33,k_ (.bool false)] .pick]) (.cond (.slot 34) .skip (.exit 2))) (.seq (.block 3 (.greg [v_ 37 0,v_ 38 9,v_ 39 0,v_ 40 9,c2 41 40 (.int .i64 1) bsu_,v_ 42 0,v_ 43 9,c2 44 43 (.int .i64 1) bsu_,o2 45 42 44 a2_,o1 46 45 (.load true 2),v_ 47 0,v_ 48 9,o2 49 47 48 a2_,o1 50 49 (.load true 2),o2 51 37 38 a2_,n2 51 46 (.store 2),o2 52 39 41 a2_,n2 52 50 (.store 2)])) (.reg [v_ 35 9,c2 36 35 (.int .i64 1) bsu_,v_ 9 36]))))))) (.reg [v_ 15 8,c2 16 15 (.int .i64 1) bad_,v_ 8 16]))))))
theorem Eb:As Tryz.prog 157 4=some ⟨53,4,[],Co⟩:=by kernel_rfl
end Go.Proofs.YticodgjinajkpaaGreat
set_option linter.unusedSimpArgs false
set_option linter.unusedVariables false
namespace Go.Proofs.YticodgjinajkpaaGreat
open Abs
theorem F6 {P:Program} {f m np b:Nat} {xs:List AV} {l:List Grp} {K:AV→Ac→Prop} {res:List ARes} {B:AC} (hf:As P f xs.length=some ⟨m,np,res,B⟩) (hb:b=l.length) (h:W P m b B (entry xs) (Abs.hl l) (Ret P res K)):Bn P f xs (Abs.hl l) K:=by
 subst hb
 exact z9l hf (W_T h)
theorem zmw (l:List Span):Bn Tryz.prog 157 [.ref 0 1 0 0,.int .i64 0,.int .i64 0,.fn 143 []] (Abs.hl [⟨2,1,true,l.map Bt⟩]) fun y H'=>y=.tup []∧H'=Abs.hl [⟨2,1,true,l.map Bt⟩]:=by
 refine F6 (b:=1) Eb rfl ?_
 unfold Co
 (repeat' (first|(simp (disch:=omega) only [push_cast,↓zz,seval])|(with_reducible first|refine And.intro ?_ ?_|(first|refine Ab ?_ ?_|refine Aa ?_ ?_)<;>intro hc<;>(try simp only [push_cast] at hc))|omega|with_reducible intro _))
 refine Ao (Ap (fun (_:Unit)=>True) (fun _=>0) (fun _=>[(0,.ref 0 1 0 0),(1,.int .i64 0),(2,.int .i64 0),(3,.fn 143 []),(8,.int .i64 1)])
   (fun _=>[⟨2,1,true,l.map Bt⟩]) (fun _ _=>[]) () trivial ?_ ?_)
 · (repeat' (first|(simp (disch:=omega) only [push_cast,↓zz,seval])|(with_reducible first|refine And.intro ?_ ?_|(first|refine Ab ?_ ?_|refine Aa ?_ ?_)<;>intro hc<;>(try simp only [push_cast] at hc))|omega|with_reducible intro _))
 rintro _ _
 refine W_T ?_
 (repeat' (first|(simp (disch:=omega) only [push_cast,↓zz,seval])|(with_reducible first|refine And.intro ?_ ?_|(first|refine Ab ?_ ?_|refine Aa ?_ ?_)<;>intro hc<;>(try simp only [push_cast] at hc))|omega|with_reducible intro _))
 all_goals trace_state
set_option maxRecDepth 100000 in
theorem len0:PC Tryz.prog 111 [.int .u64 0] (.int .i64 0):=by
 refine A9 Mg ?_
 unfold Gn
 (repeat' (first|(simp (disch:=omega) only [push_cast,↓zz,seval])|(with_reducible first|refine And.intro ?_ ?_|(first|refine Ab ?_ ?_|refine Aa ?_ ?_)<;>intro hc<;>(try simp only [push_cast] at hc))|omega|with_reducible intro _))
 all_goals decide
theorem z7l:PC Tryz.prog 90 [.int .u64 0] (.int .i64 0):=by
 refine A9 Pr ?_
 unfold Hx
 (repeat' (first|(simp (disch:=omega) only [push_cast,↓zz,seval])|(with_reducible first|refine And.intro ?_ ?_|(first|refine Ab ?_ ?_|refine Aa ?_ ?_)<;>intro hc<;>(try simp only [push_cast] at hc)|refine eK len0 ?_|refine eQ len0 ?_|refine eG len0 ?_)|((with_reducible first|refine cK len0 ?_|refine cQ len0 ?_|refine cG len0 ?_);(simp (disch:=omega) only [push_cast,↓zz,seval]);(fail_if_success with_reducible change False))|omega|with_reducible intro _))
theorem pdq0 (l:List Span):Bn Tryz.prog 150 [.ref 0 1 0 0,.int .i64 0,.int .i64 0,.int .i64 0,.fn 143 []] (Abs.hl [⟨2,1,true,l.map Bt⟩]) fun y H'=>y=.tup []∧H'=Abs.hl [⟨2,1,true,l.map Bt⟩]:=by
 refine F6 (b:=1) Ez rfl ?_
 unfold Db
 (repeat' (first|(simp (disch:=omega) only [push_cast,↓zz,seval])|(with_reducible first|refine And.intro ?_ ?_|(first|refine Ab ?_ ?_|refine Aa ?_ ?_)<;>intro hc<;>(try simp only [push_cast] at hc))|omega|with_reducible intro _))
 refine Ao (Ap (fun (_:Unit)=>True) (fun _=>0) (fun _=>[(0,.ref 0 1 0 0),(1,.int .i64 0),(2,.int .i64 0),(3,.int .i64 0),(4,.fn 143 []),(10,.bool true),(11,.bool true)])
   (fun _=>[⟨2,1,true,l.map Bt⟩]) (fun _ _=>[]) () trivial ?_ ?_)
 · (repeat' (first|(simp (disch:=omega) only [push_cast,↓zz,seval])|(with_reducible first|refine And.intro ?_ ?_|(first|refine Ab ?_ ?_|refine Aa ?_ ?_)<;>intro hc<;>(try simp only [push_cast] at hc))|omega|with_reducible intro _))
 rintro _ _
 refine W_T ?_
 (repeat' (first|(simp (disch:=omega) only [push_cast,↓zz,seval])|(with_reducible first|refine And.intro ?_ ?_|(first|refine Ab ?_ ?_|refine Aa ?_ ?_)<;>intro hc<;>(try simp only [push_cast] at hc))|omega|with_reducible intro _))
 refine Bn.mono (zmw l) ?_
 rintro y H' ⟨rfl,rfl⟩
 (repeat' (first|(simp (disch:=omega) only [push_cast,↓zz,seval])|(with_reducible first|refine And.intro ?_ ?_|(first|refine Ab ?_ ?_|refine Aa ?_ ?_)<;>intro hc<;>(try simp only [push_cast] at hc))|omega|with_reducible intro _))
 all_goals trace_state
theorem sort0 (l:List Span):Bn Tryz.prog 142 [.ref 0 1 0 0,.fn 143 []] (Abs.hl [⟨2,1,true,l.map Bt⟩]) fun y H'=>y=.tup []∧H'=Abs.hl [⟨2,1,true,l.map Bt⟩]:=by
 refine F6 (b:=1) En rfl ?_
 unfold C1
 (repeat' (first|(simp (disch:=omega) only [push_cast,↓zz,seval])|(with_reducible first|refine And.intro ?_ ?_|(first|refine Ab ?_ ?_|refine Aa ?_ ?_)<;>intro hc<;>(try simp only [push_cast] at hc)|refine eK z7l ?_|refine eQ z7l ?_|refine eG z7l ?_)|((with_reducible first|refine cK z7l ?_|refine cQ z7l ?_|refine cG z7l ?_);(simp (disch:=omega) only [push_cast,↓zz,seval]);(fail_if_success with_reducible change False))|omega|with_reducible intro _))
 refine Bn.mono (pdq0 l) ?_
 rintro y H' ⟨rfl,rfl⟩
 (repeat' (first|(simp (disch:=omega) only [push_cast,↓zz,seval])|(with_reducible first|refine And.intro ?_ ?_|(first|refine Ab ?_ ?_|refine Aa ?_ ?_)<;>intro hc<;>(try simp only [push_cast] at hc))|omega|with_reducible intro _))
 all_goals trace_state
def memL (l:List Span) (x:Int):Prop:=∃ s ∈ l,s.lo ≤ x∧x ≤ s.hi
theorem Bh (x:Int):¬ memL [] x:=fun ⟨s,hs,_⟩=>by cases hs
theorem Av {s:Span} {l:List Span} {x:Int}:memL (s :: l) x ↔ (s.lo ≤ x∧x ≤ s.hi) ∨ memL l x:=by
 constructor
 · rintro ⟨t,ht,hx⟩
   rcases List.mem_cons.1 ht with rfl|ht
   · exact .inl hx
   · exact .inr ⟨t,ht,hx⟩
 · rintro (hx|⟨t,ht,hx⟩)
   · exact ⟨s,by simp,hx⟩
   · exact ⟨t,by simp [ht],hx⟩
theorem Dx {l m:List Span} {x:Int}:memL (l ++ m) x ↔ memL l x ∨ memL m x:=by
 constructor
 · rintro ⟨t,ht,hx⟩
   rcases List.mem_append.1 ht with ht|ht
   · exact .inl ⟨t,ht,hx⟩
   · exact .inr ⟨t,ht,hx⟩
 · rintro (⟨t,ht,hx⟩|⟨t,ht,hx⟩)
   · exact ⟨t,by simp [ht],hx⟩
   · exact ⟨t,by simp [ht],hx⟩
def Plain (l:List Span):Prop:=(∀ s ∈ l,s.lo ≤ s.hi)∧l.Pairwise fun s t=>s.hi + 1 < t.lo
theorem Plain.tail {s:Span} {l:List Span} (h:Plain (s :: l)):Plain l:=⟨fun t ht=>h.1 t (by simp [ht]),(List.pairwise_cons.1 h.2).2⟩
theorem Plain.head {s:Span} {l:List Span} (h:Plain (s :: l)):s.lo ≤ s.hi:=h.1 s (by simp)
theorem Plain.after {s:Span} {l:List Span} (h:Plain (s :: l)) {x:Int} (hx:memL l x):s.hi + 1 < x:=by
 obtain ⟨t,ht,h1,h2⟩:=hx
 have:=(List.pairwise_cons.1 h.2).1 t ht
 omega
theorem Fx:∀ {a b:List Span},Plain a→Plain b→(∀ x,memL a x ↔ memL b x)→a=b
 | [],[],_,_,_=>rfl
 | [],t :: b,_,hb,h=>absurd ((h t.lo).2 (Av.2 (.inl ⟨Int.le_refl _,hb.head⟩))) (Bh _)
 | s :: a,[],ha,_,h=>absurd ((h s.lo).1 (Av.2 (.inl ⟨Int.le_refl _,ha.head⟩))) (Bh _)
 | s :: a,t :: b,ha,hb,h=>by
   have hs:=ha.head
   have ht:=hb.head
   have key:∀ {s t:Span} {a b:List Span},Plain (s :: a)→Plain (t :: b)→(∀ x,memL (s :: a) x ↔ memL (t :: b) x)→t.lo ≤ s.lo:=fun {s t a b} ha hb h=>by
     rcases Av.1 ((h s.lo).1 (Av.2 (.inl ⟨Int.le_refl _,ha.head⟩))) with hh|hh
     · exact hh.1
     · have:=hb.after hh;have:=hb.head;omega
   have hlo:s.lo=t.lo:=Int.le_antisymm (key hb ha fun x=>(h x).symm) (key ha hb h)
   have key2:∀ {s t:Span} {a b:List Span},Plain (s :: a)→Plain (t :: b)→(∀ x,memL (s :: a) x ↔ memL (t :: b) x)→s.lo=t.lo→t.hi ≤ s.hi:=fun {s t a b} ha hb h e=>by
     have:=ha.head
     rcases Int.lt_or_le s.hi t.hi with hlt|hle
     · rcases Av.1 ((h (s.hi + 1)).2 (Av.2 (.inl ⟨by omega,by omega⟩))) with hh|hh
       · omega
       · have:=ha.after hh;omega
     · exact hle
   have hhi:s.hi=t.hi:=Int.le_antisymm (key2 hb ha (fun x=>(h x).symm) hlo.symm) (key2 ha hb h hlo)
   have hst:s=t:=by cases s;cases t;simp_all
   subst hst
   refine congrArg _ (Fx ha.tail hb.tail fun x=>⟨fun hx=>?_,fun hx=>?_⟩)
   · rcases Av.1 ((h x).1 (Av.2 (.inr hx))) with hh|hh
     · have:=ha.after hx;omega
     · exact hh
   · rcases Av.1 ((h x).2 (Av.2 (.inr hx))) with hh|hh
     · have:=hb.after hx;omega
     · exact hh
def C7 (out:List Span) (x:Span):List Span :=
 match out.getLast? with
 | some y=>if x.lo ≤ y.hi + 1 then out.dropLast ++ [⟨y.lo,max y.hi x.hi⟩] else out ++ [x]
 | none=>[x]
theorem E4 (x:Span):C7 [] x=[x]:=rfl
theorem J8 (out:List Span) (y x:Span):C7 (out ++ [y]) x=if x.lo ≤ y.hi + 1 then out ++ [⟨y.lo,max y.hi x.hi⟩] else out ++ [y] ++ [x]:=by
 simp [C7]
theorem Dt (l:List Span):l=[] ∨ ∃ m y,l=m ++ [y]:=by
 rcases List.eq_nil_or_concat l with h|⟨m,y,h⟩
 · exact .inl h
 · exact .inr ⟨m,y,by simpa using h⟩
theorem Fq {m:List Span} {y:Span}:Plain (m ++ [y]) ↔ Plain m∧y.lo ≤ y.hi∧∀ s ∈ m,s.hi + 1 < y.lo:=by
 simp only [Plain,List.pairwise_append,List.mem_append,List.mem_singleton,List.pairwise_singleton,true_and,or_imp,forall_and,forall_eq]
 constructor
 · rintro ⟨⟨h1,h2⟩,h3,h4⟩;exact ⟨⟨h1,h3⟩,h2,h4⟩
 · rintro ⟨⟨h1,h3⟩,h2,h4⟩;exact ⟨⟨h1,h2⟩,h3,h4⟩
def Before (l:List Span) (x:Int):Prop:=∀ s ∈ l,s.lo ≤ x
theorem z1e {out:List Span} {x:Span} (h:Plain out) (hx:x.lo ≤ x.hi) (hb:Before out x.lo):Plain (C7 out x)∧Before (C7 out x) x.lo∧∀ v,memL (C7 out x) v ↔ memL out v ∨ (x.lo ≤ v∧v ≤ x.hi):=by
 rcases Dt out with rfl|⟨m,y,rfl⟩
 · refine ⟨⟨by simp [E4,hx],by simp [E4]⟩,by simp [E4,Before],fun v=>?_⟩
   rw [E4,Av]
   constructor
   · rintro (h|h)
     · exact .inr h
     · exact absurd h (Bh _)
   · rintro (h|h)
     · exact absurd h (Bh _)
     · exact .inl h
 · rw [J8]
   obtain ⟨h1,h2,h3⟩:=Fq.1 h
   have hy:y.lo ≤ x.lo:=hb y (by simp)
   split
   · rename_i hle
     refine ⟨Fq.2 ⟨h1,by simp only;omega,fun s hs=>h3 s hs⟩,?_,fun v=>?_⟩
     · intro s hs
       rcases List.mem_append.1 hs with hs|hs
       · exact hb s (by simp [hs])
       · simp only [List.mem_singleton] at hs;subst hs;exact hy
     · rw [Dx,Dx,Av,Av]
       simp only [Bh,or_false]
       constructor
       · rintro (h|h)
         · exact .inl (.inl h)
         · by_cases hv:v ≤ y.hi
           · exact .inl (.inr ⟨h.1,hv⟩)
           · exact .inr ⟨by omega,by omega⟩
       · rintro ((h|h)|h)
         · exact .inl h
         · exact .inr ⟨h.1,by omega⟩
         · exact .inr ⟨by omega,by omega⟩
   · rename_i hle
     refine ⟨Fq.2 ⟨h,hx,fun s hs=>?_⟩,?_,fun v=>?_⟩
     · rcases List.mem_append.1 hs with hs|hs
       · have:=h3 s hs;omega
       · simp only [List.mem_singleton] at hs;subst hs;omega
     · intro s hs
       rcases List.mem_append.1 hs with hs|hs
       · exact hb s hs
       · simp only [List.mem_singleton] at hs;subst hs;exact Int.le_refl _
     · rw [Dx,Av]
       simp only [Bh,or_false]
theorem Gp:∀ (l out:List Span),Plain out→(∀ s ∈ l,s.lo ≤ s.hi)→l.Pairwise (fun a b=>a.lo ≤ b.lo)→(∀ s ∈ l,Before out s.lo)→Plain (l.foldl C7 out)∧∀ v,memL (l.foldl C7 out) v ↔ memL out v ∨ memL l v
 | [],out,h,_,_,_=>⟨h,fun v=>by simp only [List.foldl_nil,Bh,or_false]⟩
 | x :: l,out,h,h1,h2,h3=>by
   obtain ⟨p1,p2,p3⟩:=z1e h (h1 x (by simp)) (h3 x (by simp))
   rw [List.pairwise_cons] at h2
   obtain ⟨q1,q2⟩:=Gp l (C7 out x) p1 (fun s hs=>h1 s (by simp [hs])) h2.2 (fun s hs t ht=>Int.le_trans (p2 t ht) (h2.1 s hs))
   refine ⟨q1,fun v=>?_⟩
   rw [List.foldl_cons,q2 v,p3 v,Av,or_assoc]
theorem z7m (out:List Span) (x:Span):(C7 out x).length ≤ out.length + 1:=by
 rcases Dt out with rfl|⟨m,y,rfl⟩
 · simp [E4]
 · rw [J8];split<;>simp
theorem Vs:∀ (l out:List Span),(l.foldl C7 out).length ≤ out.length + l.length
 | [],out=>by simp
 | x :: l,out=>by
   have h1:=Vs l (C7 out x)
   have h2:=z7m out x
   simp only [List.foldl_cons,List.length_cons]
   omega
def J9 (s:Span):Span:=⟨max s.lo (-1073741824),min s.hi 1073741824⟩
def inN (l:List Span):List Span:=(l.map J9).filter fun s=>decide (s.lo ≤ s.hi)
theorem zby {l:List Span} {x:Int}:memL (inN l) x ↔ memL l x∧-1073741824 ≤ x∧x ≤ 1073741824:=by
 constructor
 · rintro ⟨s,hs,h1,h2⟩
   simp only [inN,List.mem_filter,List.mem_map] at hs
   obtain ⟨⟨t,ht,rfl⟩,_⟩:=hs
   simp only [J9] at h1 h2
   exact ⟨⟨t,ht,by omega,by omega⟩,by omega,by omega⟩
 · rintro ⟨⟨t,ht,h1,h2⟩,h3,h4⟩
   refine ⟨J9 t,?_,by simp only [J9];omega,by simp only [J9];omega⟩
   simp only [inN,List.mem_filter,List.mem_map,decide_eq_true_eq]
   exact ⟨⟨t,ht,rfl⟩,by simp only [J9];omega⟩
theorem z4y {l:List Span}:∀ s ∈ inN l,s.lo ≤ s.hi:=fun s hs=>by
 simp only [inN,List.mem_filter,decide_eq_true_eq] at hs
 exact hs.2
theorem Qc {l m:List Span} (h:l.Perm m) (x:Int):memL l x ↔ memL m x :=
 ⟨fun ⟨s,hs,hx⟩=>⟨s,h.mem_iff.1 hs,hx⟩,fun ⟨s,hs,hx⟩=>⟨s,h.mem_iff.2 hs,hx⟩⟩
def Ar (l:List Span):List Span:=((inN l).mergeSort fun a b=>decide (a.lo ≤ b.lo)).foldl C7 []
theorem zgq {l m:List Span} (hp:m.Perm (inN l)) (hs:m.Pairwise fun a b=>a.lo ≤ b.lo):m.foldl C7 []=Ar l:=by
 have hq:((inN l).mergeSort fun a b=>decide (a.lo ≤ b.lo)).Perm (inN l):=List.mergeSort_perm _ _
 have hs':((inN l).mergeSort fun a b=>decide (a.lo ≤ b.lo)).Pairwise fun a b=>a.lo ≤ b.lo:=by
   have:=List.pairwise_mergeSort (le:=fun a b:Span=>decide (a.lo ≤ b.lo)) (fun a b c h1 h2=>by simp at *;omega) (fun a b=>by simp;omega) (inN l)
   simpa using this
 obtain ⟨a1,a2⟩:=Gp m [] ⟨by simp,by simp⟩ (fun s h=>z4y s (hp.mem_iff.1 h)) hs (fun s _ t ht=>by cases ht)
 obtain ⟨b1,b2⟩:=Gp _ [] ⟨by simp,by simp⟩ (fun s h=>z4y s (hq.mem_iff.1 h)) hs' (fun s _ t ht=>by cases ht)
 refine Fx a1 b1 fun x=>?_
 rw [Ar,a2 x,b2 x,Qc hp x,Qc hq x]
theorem Aq (l:List Span):Plain (Ar l)∧∀ x,memL (Ar l) x ↔ memL l x∧-1073741824 ≤ x∧x ≤ 1073741824:=by
 have hq:((inN l).mergeSort fun a b=>decide (a.lo ≤ b.lo)).Perm (inN l):=List.mergeSort_perm _ _
 have hs':((inN l).mergeSort fun a b=>decide (a.lo ≤ b.lo)).Pairwise fun a b=>a.lo ≤ b.lo:=by
   have:=List.pairwise_mergeSort (le:=fun a b:Span=>decide (a.lo ≤ b.lo)) (fun a b c h1 h2=>by simp at *;omega) (fun a b=>by simp;omega) (inN l)
   simpa using this
 obtain ⟨b1,b2⟩:=Gp _ [] ⟨by simp,by simp⟩ (fun s h=>z4y s (hq.mem_iff.1 h)) hs' (fun s _ t ht=>by cases ht)
 refine ⟨b1,fun x=>?_⟩
 rw [Ar,b2 x,Qc hq x,zby]
 simp only [Bh,false_or]
theorem z1f (l:List Span):(inN l).length ≤ l.length:=by
 have:=List.length_filter_le (fun s:Span=>decide (s.lo ≤ s.hi)) (l.map J9)
 simpa [inN] using this
theorem Dd (l:List Span):(Ar l).length ≤ l.length:=by
 have h1:=Vs ((inN l).mergeSort fun a b=>decide (a.lo ≤ b.lo)) []
 have h2:=z1f l
 rw [List.length_mergeSort] at h1
 simp only [List.length_nil] at h1
 rw [Ar]
 omega
end Go.Proofs.YticodgjinajkpaaGreat
namespace Go.Proofs.YticodgjinajkpaaGreat.Abs
section
variable {P:Program} {n b:Nat} {S:MS} {H:Ac}
theorem put_defers (a:Act) (d:Option Nat) (v:Value):(a.put d v).defers=a.defers:=by cases d<;>rfl
theorem zqy (hS:SRel S H) {env:Env} {a:Act} (hF:FRel S n env a) {o:Oper} {q:AOp} {ops:Array Oper} (h:Bs P n ops o=some q) {K:AV→Ac→Prop} (hst:Ag P q.k H (q.vals env) K)
   {N:Act→World→Prop} {Q:Exit→Act→World→Prop} (hN:∀ S' H' x a',Evo S S'→SRel S' H'→FRel S' n (env.put q.dst x) a'→a'.defers=a.defers→K x H'→N a' S'.w) (r:Option Nat) (m:Nat):o.wpIn (fen r) m P a S.w N Q:=by
 obtain ⟨h1,h2,h3,h4,_⟩:=Bf h
 have hargs:=Kn hF h2
 have hsem:o.semAt (fen r).round a.eval=execOp a.eval o:=Oper.semAt_eq _ _ _ fun c hc=>by rw [hc] at h1;cases h1
 rcases R6 hS o h1 (ρ:=a.eval) hargs hst with ⟨v,S',x,H',hr,e,hS',hv,hK⟩|⟨f,cargs,hr,hc⟩
 · have hN':=fun v' (hv':VRel S' x v')=>hN S' H' x (a.put o.dst v') e hS' (by rw [h3];exact (hF.mono e).put h4 hv') (put_defers _ _ _) hK
   refine ⟨fun _ _=>trivial,?_⟩
   rw [hsem]
   rcases hr with hr|⟨hr,rfl⟩<;>rw [hr]
   · exact hN' v hv
   · exact hN' undef hv
 · refine ⟨fun _ _=>trivial,?_⟩
   rw [hsem,hr,Oper.uponIn_enter]
   refine ⟨fun h=>(by cases h),Ow (hc.mono fun e w' hh=>?_)⟩
   obtain ⟨v,S',x,H',rfl,rfl,ev,hS',hv,hK⟩:=hh
   exact hN S' H' x (a.put o.dst v) ev hS' (by rw [h3];exact (hF.mono ev).put h4 hv) (put_defers _ _ _) hK
theorem Gq {ops:Array Oper} {Q:Exit→Act→World→Prop} {rd:Option Nat} {m:Nat} (tl:List Nat):∀ (l:List Oper) (l':List AOp) (k:Nat),(∀ j,j < l.length→l[j]? = ops[k + j]?)→l.mapM (Bs P n ops)=some l'→∀ {S:MS} {H:Ac} {env:Env} {a:Act} {K:Env→Ac→Prop},
   SRel S H→FRel S n env a→runK P l' env H K→(∀ S' H' env' a',Evo S S'→SRel S' H'→FRel S' n env' a'→a'.defers=a.defers→K env' H'→wpOpsIn (fen rd) m P ops Q tl a' S'.w)→wpOpsIn (fen rd) m P ops Q (List.range' k l.length ++ tl) a S.w
 | [],l',k,_,hm,S,H,env,a,K,hS,hF,hr,hQ=>by
   simp at hm
   subst hm
   exact hQ S H env a (.refl S) hS hF rfl hr
 | o :: l,l',k,hl,hm,S,H,env,a,K,hS,hF,hr,hQ=>by
   rw [List.mapM_cons] at hm
   simp only [Option.bind_eq_bind,Option.bind_eq_some_iff,Option.pure_def,Option.some.injEq] at hm
   obtain ⟨q,hq,r,hrr,rfl⟩:=hm
   have h0:ops[k]? = some o:=by simpa using (hl 0 (by simp)).symm
   have hl':∀ j,j < l.length→l[j]? = ops[k + 1 + j]? := fun j hj=>by have:=hl (j + 1) (by simp;omega);simpa [Nat.add_assoc,Nat.add_comm 1 j] using this
   have hg:=Ov hq hF hr
   rw [show List.range' k (o :: l).length ++ tl=k :: (List.range' (k + 1) l.length ++ tl) from rfl]
   simp only [wpOpsIn,h0]
   cases hw:Region.wanted o (yielded ops a.tmps)
   · rw [hw] at hg
     simp only [Bool.false_eq_true,if_false] at hg ⊢
     obtain ⟨_,_,h3,h4,_⟩:=Bf hq
     exact ⟨fun _ _=>trivial,Gq tl l r (k + 1) hl' hrr hS (by rw [h3];exact hF.put h4 Ho) hg (fun S' H' env' a' e hS' hF' hd=>hQ S' H' env' a' e hS' hF' (hd.trans (put_defers _ _ _)))⟩
   · rw [hw] at hg
     simp only [if_true] at hg ⊢
     refine zqy hS hF hq hg (fun S' H' x a' e hS' hF' hd hK=>?_) rd m
     exact Gq tl l r (k + 1) hl' hrr hS' hF' hK (fun S2 H2 env2 a2 e2 hS2 hF2 hd2 hK2=>hQ S2 H2 env2 a2 (e.trans e2) hS2 hF2 (hd2.trans hd) hK2)
end
structure Itr where
 P:Program
 l:Nat
 m:Nat
 rows:List (List AV)
 S0:MS
 J:Nat→(Nat→Prop)→World→Prop
 Jx:Nat→(Nat→Prop)→World→Prop
 cJ:Clo J
 cx:Clo Jx
 fact:∀ k O W,J k O W ∨ Jx k O W→(∀ b,S0.im b→¬ O b∧W.heap[b]? = S0.w.heap[b]?)∧(W.os=S0.w.os∧W.tape=S0.w.tape∧W.output=S0.w.output)∧S0.w.heap.size ≤ W.heap.size∧∀ b,O b→S0.w.heap.size ≤ b∧b < W.heap.size
 round:∀ k row O W,rows[k]? = some row→J k O W→YieldAt Fence.wide m P l (encI row) W fun e W'=>W.heap.size ≤ W'.heap.size∧(∀ b,O b→W'.heap[b]? = W.heap[b]?)∧(e=.returned (.bool true)∧J (k + 1) O W' ∨ e=.returned (.bool false)∧Jx (k + 1) O W')
namespace Itr
def at_ (I:Itr):Option Nat→(Nat→Prop)→World→Prop
 | some k,O,W=>I.J k O W
 | none,O,W=>∃ k,I.Jx k O W
structure Now (I:Itr) (s:Option Nat) (X:Nat→Prop) (S:MS) (H:Ac):Prop where
 rel:SRel S H
 base:S.base ≤ S.w.heap.size
 keep:∀ b,X b→S.keep b
 im:∀ b,I.S0.im b→S.im b
 apart:∀ b,S.im b→I.S0.im b ∨ ¬ X b
 st:I.at_ s (fun b=>b < S.w.heap.size∧¬ X b∧¬ I.S0.im b) S.w
theorem Now.on {I:Itr} {s:Option Nat} {X:Nat→Prop} {S S':MS} {H H':Ac} (h:I.Now s X S H) (e:Evo S S') (hr:SRel S' H'):I.Now s X S' H':=by
 have hX:∀ b,X b→b < S.w.heap.size:=fun b hb=>h.rel.im b (.inr (h.keep b hb))
 have hi0:∀ b,I.S0.im b→b < S.w.heap.size:=fun b hb=>h.rel.im b (.inl (h.im b hb))
 refine ⟨hr,by rw [e.base];exact Nat.le_trans h.base e.size,fun b hb=>e.keep b (h.keep b hb),fun b hb=>e.im b (h.im b hb),fun b hb=>?_,?_⟩
 · rcases e.fresh b hb with hh|hh
   · exact h.apart b hh
   · exact .inr fun hx=>hh (h.keep b hx)
 · have ho:(fun b=>b < S'.w.heap.size∧¬ X b∧¬ I.S0.im b)=fun b=>(b < S.w.heap.size∧¬ X b∧¬ I.S0.im b) ∨ (S.w.heap.size ≤ b∧b < S'.w.heap.size):=by
     funext b
     refine propext ⟨fun ⟨h1,h2,h3⟩=>?_,fun hh=>?_⟩
     · rcases Nat.lt_or_ge b S.w.heap.size with hl|hl
       · exact .inl ⟨hl,h2,h3⟩
       · exact .inr ⟨hl,h1⟩
     · rcases hh with ⟨h1,h2,h3⟩|⟨h1,h2⟩
       · exact ⟨Nat.lt_of_lt_of_le h1 e.size,h2,h3⟩
       · exact ⟨h2,fun hx=>by have:=hX b hx;omega,fun hx=>by have:=hi0 b hx;omega⟩
   rw [ho]
   have hk:∀ b,b < S.w.heap.size→¬ (b < S.w.heap.size∧¬ X b∧¬ I.S0.im b)→S'.w.heap[b]? = S.w.heap[b]? := fun b hb hn=>by
     by_cases hx:X b
     · exact e.kept b (.inr (h.keep b hx))
     · by_cases hi:I.S0.im b
       · exact e.kept b (.inl (h.im b hi))
       · exact absurd ⟨hb,hx,hi⟩ hn
   cases s with
   | some k=>exact I.cJ k _ _ _ h.st e.os e.tape e.output e.size hk
   | none=>obtain ⟨k,hj⟩:=h.st;exact ⟨k,I.cx k _ _ _ hj e.os e.tape e.output e.size hk⟩
theorem Now.round {I:Itr} {k:Nat} {X:Nat→Prop} {S:MS} {H:Ac} (h:I.Now (some k) X S H) {W':World} {s':Option Nat} (hsz:S.w.heap.size ≤ W'.heap.size) (ho:∀ b,b < S.w.heap.size∧¬ X b∧¬ I.S0.im b→W'.heap[b]? = S.w.heap[b]?)
   (hi:∀ b,I.S0.im b→W'.heap[b]? = S.w.heap[b]?) (hst:I.at_ s' (fun b=>b < S.w.heap.size∧¬ X b∧¬ I.S0.im b) W') :
   ∃ S',S'.w=W'∧I.Now s' (fun b=>X b ∨ (S.w.heap.size ≤ b∧b < W'.heap.size)) S' H∧Evi S S':=by
 obtain ⟨S',hd⟩:∃ S':MS,S'={ S with w:=W',keep:=fun b=>S.keep b ∨ (S.w.heap.size ≤ b∧b < W'.heap.size) }:=⟨_,rfl⟩
 have hX:∀ b,X b→b < S.w.heap.size:=fun b hb=>h.rel.im b (.inr (h.keep b hb))
 have him:∀ b,S.im b→b < S.w.heap.size:=fun b hb=>h.rel.im b (.inl hb)
 have hi0:∀ b,I.S0.im b→b < S.w.heap.size:=fun b hb=>him b (h.im b hb)
 have hw:∀ b,S.im b→W'.heap[b]? = S.w.heap[b]? := fun b hb=>by
   by_cases h0:I.S0.im b
   · exact hi b h0
   · exact ho b ⟨him b hb,(h.apart b hb).resolve_left h0,h0⟩
 refine ⟨S',by rw [hd],⟨?_,?_,?_,?_,?_,?_⟩,?_⟩
 · subst hd
   exact h.rel.turn2 hw rfl rfl rfl rfl rfl rfl (fun b hb=>hb.imp id And.left) (fun b hb=>hb.elim (fun hh=>Nat.lt_of_lt_of_le (h.rel.im b (.inr hh)) hsz) And.right)
     (fun b hb hl=>ho b ⟨hl,fun hx=>hb (.inr (h.keep b hx)),fun hx=>hb (.inl (h.im b hx))⟩) hsz
 · subst hd;exact Nat.le_trans h.base hsz
 · subst hd;exact fun b hb=>hb.imp (h.keep b) id
 · subst hd;exact h.im
 · subst hd
   intro b hb
   rcases h.apart b hb with hh|hh
   · exact .inl hh
   · exact .inr fun hx=>hx.elim hh fun hx=>by have:=him b hb;omega
 · subst hd
   have e:(fun b=>b < W'.heap.size∧¬ (X b ∨ (S.w.heap.size ≤ b∧b < W'.heap.size))∧¬ I.S0.im b)=fun b=>b < S.w.heap.size∧¬ X b∧¬ I.S0.im b:=by
     funext b
     refine propext ⟨fun ⟨h1,h2,h3⟩=>⟨?_,fun hx=>h2 (.inl hx),h3⟩,fun ⟨h1,h2,h3⟩=>⟨by omega,fun hx=>hx.elim h2 (fun hh=>by omega),h3⟩⟩
     rcases Nat.lt_or_ge b S.w.heap.size with hl|hl
     · exact hl
     · exact absurd (.inr ⟨hl,h1⟩) h2
   show I.at_ s' _ W'
   rw [e]
   exact hst
 · subst hd
   exact Evi.of hw rfl rfl rfl rfl rfl rfl
end Itr
def Lh (I:Itr) (n:Nat) (Q:Option Nat→Ex→Env→Ac→Prop) (e:Exit) (a:Act) (w:World):Prop :=
 ∃ S' env H' x s X,S'.w=w∧I.Now s X S' H'∧FRel S' n env a∧a.defers=[]∧e=Ex.up x∧Q s x env H'
def TI (I:Itr) (n:Nat) (c:AC) (s:Option Nat) (env:Env) (H:Ac) (Q:Option Nat→Ex→Env→Ac→Prop):Prop :=
 ∀ code,C6 I.P n code=some c→∀ S a X,I.Now s X S H→FRel S n env a→a.defers=[]→code.wpIn (fen none) (I.m + 1) I.P (Lh I n Q) a S.w
section
variable {I:Itr} {n:Nat} {s:Option Nat} {env:Env} {H:Ac} {Q:Option Nat→Ex→Env→Ac→Prop}
theorem zgr {F:Fence} {mm:Nat} {c:Code} {a:Act} {w:World} (h:c.wpIn F mm I.P (Lh I n Q) a w):(Code.scope c).wpIn F mm I.P (Lh I n Q) a w:=by
 refine Fw (wpIn_mono h fun e a w hh=>?_)
 obtain ⟨S2,env,H',y,s,X,h1,h2,h3,h4,h5,h6⟩:=hh
 subst h5
 cases y<;>exact ⟨S2,env,H',_,s,X,h1,h2,h3,h4,rfl,h6⟩
theorem Vt {c:AC} (h:∀ code,C6 I.P n code=some c→(∀ d,code ≠ .scope d)→∀ S a X,I.Now s X S H→FRel S n env a→a.defers=[]→code.wpIn (fen none) (I.m + 1) I.P (Lh I n Q) a S.w):TI I n c s env H Q:=by
 intro code
 induction code with
 | scope d ih=>exact fun hc S a X hN hF hd=>zgr (ih (by simpa [C6] using hc) S a X hN hF hd)
 | skip=>exact fun hc=>h _ hc (by simp)
 | region=>exact fun hc=>h _ hc (by simp)
 | seq=>exact fun hc=>h _ hc (by simp)
 | cond=>exact fun hc=>h _ hc (by simp)
 | block=>exact fun hc=>h _ hc (by simp)
 | loop=>exact fun hc=>h _ hc (by simp)
 | rangeFunc=>exact fun hc=>h _ hc (by simp)
 | exit=>exact fun hc=>h _ hc (by simp)
 | label=>exact fun hc=>h _ hc (by simp)
 | goto=>exact fun hc=>h _ hc (by simp)
 | ret=>exact fun hc=>h _ hc (by simp)
 | refuse=>exact fun hc=>h _ hc (by simp)
theorem zmx (h:Q s .normal env H):TI I n .skip s env H Q:=Vt fun code hc hs S a X hN hF hd=>by
 have hA:Lh I n Q .normal a S.w:=⟨S,env,H,.normal,s,X,rfl,hN,hF,hd,rfl,h⟩
 cases code<;>simp only [C6,reduceCtorEq,Option.some.injEq] at hc
 case skip=>exact wpIn_skip hA
 case label=>exact wpIn_label hA
 case region=>exact absurd hc Ce
 case seq=>split at hc<;>cases hc
 case cond=>split at hc<;>cases hc
 case block=>obtain ⟨_,_,h⟩:=Option.map_eq_some_iff.1 hc;cases h
 case loop=>obtain ⟨_,_,h⟩:=Option.map_eq_some_iff.1 hc;cases h
 case rangeFunc=>split at hc<;>cases hc
 case scope d=>exact absurd rfl (hs d)
theorem zmy {id:Nat} (h:Q s (.exit id) env H):TI I n (.exit id) s env H Q:=Vt fun code hc hs S a X hN hF hd=>by
 cases code<;>simp only [C6,reduceCtorEq,Option.some.injEq] at hc
 case exit k=>cases hc;exact wpIn_exit ⟨S,env,H,.exit id,s,X,rfl,hN,hF,hd,rfl,h⟩
 case region=>exact absurd hc Ce
 case seq=>split at hc<;>cases hc
 case cond=>split at hc<;>cases hc
 case block=>obtain ⟨_,_,h⟩:=Option.map_eq_some_iff.1 hc;cases h
 case loop=>obtain ⟨_,_,h⟩:=Option.map_eq_some_iff.1 hc;cases h
 case rangeFunc=>split at hc<;>cases hc
 case scope d=>exact absurd rfl (hs d)
theorem zqz (h:Q s .ret env H):TI I n .ret s env H Q:=Vt fun code hc hs S a X hN hF hd=>by
 cases code<;>simp only [C6,reduceCtorEq,Option.some.injEq] at hc
 case ret=>exact wpIn_ret ⟨S,env,H,.ret,s,X,rfl,hN,hF,hd,rfl,h⟩
 case region=>exact absurd hc Ce
 case seq=>split at hc<;>cases hc
 case cond=>split at hc<;>cases hc
 case block=>obtain ⟨_,_,h⟩:=Option.map_eq_some_iff.1 hc;cases h
 case loop=>obtain ⟨_,_,h⟩:=Option.map_eq_some_iff.1 hc;cases h
 case rangeFunc=>split at hc<;>cases hc
 case scope d=>exact absurd rfl (hs d)
def Ex.thenI (K:Option Nat→Env→Ac→Prop) (Q:Option Nat→Ex→Env→Ac→Prop):Option Nat→Ex→Env→Ac→Prop
 | s,.normal,env,H=>K s env H
 | s,x,env,H=>Q s x env H
theorem Jq {x y:AC} (h:TI I n x s env H (Ex.thenI (fun s' env' H'=>TI I n y s' env' H' Q) Q)):TI I n (.seq x y) s env H Q:=Vt fun code hc hs S a X hN hF hd=>by
 cases code<;>simp only [C6,reduceCtorEq,Option.some.injEq] at hc
 case seq c d =>
   split at hc
   · rename_i x' y' hx hy
     cases hc
     refine wpIn_seq (wpIn_mono (h c hx S a X hN hF hd) fun e a' w' hh=>?_)
     obtain ⟨S2,env2,H2,z,s2,X2,rfl,hN2,hF2,hd2,rfl,hq⟩:=hh
     cases z with
     | normal=>exact hq d hy S2 a' X2 hN2 hF2 hd2
     | exit id=>exact ⟨S2,env2,H2,.exit id,s2,X2,rfl,hN2,hF2,hd2,rfl,hq⟩
     | ret=>exact ⟨S2,env2,H2,.ret,s2,X2,rfl,hN2,hF2,hd2,rfl,hq⟩
   · cases hc
 case region=>exact absurd hc Ce
 case cond=>split at hc<;>cases hc
 case block=>obtain ⟨_,_,h⟩:=Option.map_eq_some_iff.1 hc;cases h
 case loop=>obtain ⟨_,_,h⟩:=Option.map_eq_some_iff.1 hc;cases h
 case rangeFunc=>split at hc<;>cases hc
 case scope d=>exact absurd rfl (hs d)
theorem zmz {c:AArg} {x y:AC} {q:Bool} (hc:c.eval env=.bool q) (ht:q=true→TI I n x s env H Q) (hf:q=false→TI I n y s env H Q):TI I n (.cond c x y) s env H Q:=Vt fun code hcc hs S a X hN hF hd=>by
 cases code<;>simp only [C6,reduceCtorEq,Option.some.injEq] at hcc
 case cond z p q' =>
   split at hcc
   · rename_i z' p2 q2 hz hp hq
     cases hcc
     have hv:=Up hF hz
     rw [hc] at hv
     exact wpIn_cond_split (t:=q) hv (fun hbb=>ht hbb p hp S a X hN hF hd) (fun hbb=>hf hbb q' hq S a X hN hF hd)
   · cases hcc
 case region=>exact absurd hcc Ce
 case seq=>split at hcc<;>cases hcc
 case block=>obtain ⟨_,_,h⟩:=Option.map_eq_some_iff.1 hcc;cases h
 case loop=>obtain ⟨_,_,h⟩:=Option.map_eq_some_iff.1 hcc;cases h
 case rangeFunc=>split at hcc<;>cases hcc
 case scope d=>exact absurd rfl (hs d)
def Ex.inBlockI (id:Nat) (Q:Option Nat→Ex→Env→Ac→Prop):Option Nat→Ex→Env→Ac→Prop
 | s,.exit k,env,H=>if k=id then Q s .normal env H else Q s (.exit k) env H
 | s,x,env,H=>Q s x env H
theorem Li {id:Nat} {c:AC} (h:TI I n c s env H (Ex.inBlockI id Q)):TI I n (.block id c) s env H Q:=Vt fun code hc hs S a X hN hF hd=>by
 cases code<;>simp only [C6,reduceCtorEq,Option.some.injEq] at hc
 case block k d =>
   obtain ⟨x,hx,hh⟩:=Option.map_eq_some_iff.1 hc
   cases hh
   refine wpIn_block (wpIn_mono (h d hx S a X hN hF hd) fun e a' w' hh=>?_)
   obtain ⟨S2,env2,H2,z,s2,X2,h1,hN2,hF2,hd2,rfl,hq⟩:=hh
   cases z with
   | normal=>exact ⟨S2,env2,H2,.normal,s2,X2,h1,hN2,hF2,hd2,rfl,hq⟩
   | exit j =>
     simp only [Ex.up,Exit.inBlock]
     simp only [Ex.inBlockI] at hq
     split
     · rename_i hj;rw [if_pos hj] at hq;exact ⟨S2,env2,H2,.normal,s2,X2,h1,hN2,hF2,hd2,rfl,hq⟩
     · rename_i hj;rw [if_neg hj] at hq;exact ⟨S2,env2,H2,.exit j,s2,X2,h1,hN2,hF2,hd2,rfl,hq⟩
   | ret=>exact ⟨S2,env2,H2,.ret,s2,X2,h1,hN2,hF2,hd2,rfl,hq⟩
 case region=>exact absurd hc Ce
 case seq=>split at hc<;>cases hc
 case cond=>split at hc<;>cases hc
 case loop=>obtain ⟨_,_,h⟩:=Option.map_eq_some_iff.1 hc;cases h
 case rangeFunc=>split at hc<;>cases hc
 case scope d=>exact absurd rfl (hs d)
theorem zbz {σ:Type} (Inv:σ→Option Nat→Env→Ac→Prop) (μ:σ→Nat) {c:AC} (s0:σ) (h0:Inv s0 s env H)
   (round:∀ t s env H,Inv t s env H→TI I n c s env H (Ex.thenI (fun s' env' H'=>∃ t',Inv t' s' env' H'∧μ t' < μ t) Q)):TI I n (.loop c) s env H Q:=Vt fun code hc hs S a X hN hF hd=>by
 cases code<;>simp only [C6,reduceCtorEq,Option.some.injEq] at hc
 case loop d =>
   obtain ⟨x,hx,hh⟩:=Option.map_eq_some_iff.1 hc
   cases hh
   refine wpIn_loop_ghost (fun k a w=>∃ S' t s env H X,S'.w=w∧I.Now s X S' H∧FRel S' n env a∧a.defers=[]∧Inv t s env H∧μ t=k) (μ s0) ⟨S,s0,s,env,H,X,rfl,hN,hF,hd,h0,rfl⟩ ?_
   rintro k a w ⟨S1,t,s1,env1,H1,X1,rfl,hN1,hF1,hd1,hI,rfl⟩
   refine wpIn_mono (round t s1 env1 H1 hI d hx S1 a X1 hN1 hF1 hd1) fun e a' w' hh=>?_
   obtain ⟨S2,env2,H2,z,s2,X2,rfl,hN2,hF2,hd2,rfl,hq⟩:=hh
   cases z with
   | normal =>
     obtain ⟨t',h1,h2⟩:=hq
     exact ⟨μ t',h2,S2,t',s2,env2,H2,X2,rfl,hN2,hF2,hd2,h1,rfl⟩
   | exit id=>exact ⟨S2,env2,H2,.exit id,s2,X2,rfl,hN2,hF2,hd2,rfl,hq⟩
   | ret=>exact ⟨S2,env2,H2,.ret,s2,X2,rfl,hN2,hF2,hd2,rfl,hq⟩
 case region=>exact absurd hc Ce
 case seq=>split at hc<;>cases hc
 case cond=>split at hc<;>cases hc
 case block=>obtain ⟨_,_,h⟩:=Option.map_eq_some_iff.1 hc;cases h
 case rangeFunc=>split at hc<;>cases hc
 case scope d=>exact absurd rfl (hs d)
theorem zr0 {ops:List AOp} (h:runK I.P ops env H fun env' H'=>Q s .normal env' H'):TI I n (.reg ops) s env H Q:=Vt fun code hc hs S a X hN hF hd=>by
 cases code<;>simp only [C6,reduceCtorEq,Option.some.injEq] at hc
 case region id l draw =>
   split at hc
   · rename_i r hr
     obtain ⟨hd',rfl⟩:=J2 hc
     subst hd'
     refine wpIn_region ?_
     have:=Gq (ops:=l) (rd:=none) (m:=I.m + 1) (Q:=Lh I n Q) [] l.toList ops 0 (by simp) hr hN.rel hF h (fun S' H' env' a' e hS' hF' hdd hK=>⟨S',env',H',.normal,s,X,rfl,hN.on e hS',hF',hdd.trans hd,rfl,hK⟩)
     rw [List.range_eq_range']
     simpa using this
   · cases hc
 case seq=>split at hc<;>cases hc
 case cond=>split at hc<;>cases hc
 case block=>obtain ⟨_,_,h⟩:=Option.map_eq_some_iff.1 hc;cases h
 case loop=>obtain ⟨_,_,h⟩:=Option.map_eq_some_iff.1 hc;cases h
 case rangeFunc=>split at hc<;>cases hc
 case scope d=>exact absurd rfl (hs d)
theorem Sz {α β:Type} {f:α→Option β}:∀ (p:List β) {l:List α} {y:β} {q:List β},l.mapM f=some (p ++ y :: q)→∃ l1 o l2,l=l1 ++ o :: l2∧l1.mapM f=some p∧f o=some y∧l2.mapM f=some q
 | [],l,y,q,h=>by
   cases l with
   | nil=>simp at h
   | cons o l =>
     rw [List.mapM_cons] at h
     simp only [Option.bind_eq_bind,Option.bind_eq_some_iff,Option.pure_def,Option.some.injEq,List.nil_append,List.cons.injEq] at h
     obtain ⟨y',hy,r,hr,rfl,rfl⟩:=h
     exact ⟨[],o,l,rfl,rfl,hy,hr⟩
 | z :: p,l,y,q,h=>by
   cases l with
   | nil=>simp at h
   | cons o l =>
     rw [List.mapM_cons] at h
     simp only [Option.bind_eq_bind,Option.bind_eq_some_iff,Option.pure_def,Option.some.injEq,List.cons_append,List.cons.injEq] at h
     obtain ⟨z',hz,r,hr,rfl,rfl⟩:=h
     obtain ⟨l1,o',l2,rfl,h1,h2,h3⟩:=Sz p hr
     exact ⟨o :: l1,o',l2,rfl,by rw [List.mapM_cons,hz,h1];rfl,h2,h3⟩
theorem z7n {P:Program} {op:Op} (h:Ey P op=some .call):∃ g args argTypes,op=.call { callee:=.value g,args,argTypes }:=by
 cases op
 case call c =>
   obtain ⟨callee,args,argTypes⟩:=c
   cases callee<;>simp only [Ey,El,reduceCtorEq] at h
   case value g=>exact ⟨g,args,argTypes,rfl⟩
   case builtin b =>
     repeat' split at h
     all_goals first
       | (cases h;done)
       | (simp at h;done)
 all_goals simp only [Ey,reduceCtorEq] at h
 all_goals repeat' split at h
 all_goals first
   | contradiction
   | (cases h;done)
   | (obtain ⟨⟨_,_⟩,_,h⟩:=Option.map_eq_some_iff.1 h;cases h;done)
   | (obtain ⟨_,_,h⟩:=Option.map_eq_some_iff.1 h;cases h;done)
   | (simp at h;done)
def zr1 (x:AV):Prop:=∀ S v,VRel S x v→v=valOf x
theorem S6 {S:MS}:∀ {xs:List AV} {vs:List Value},(∀ x ∈ xs,zr1 x)→Af S xs vs→vs=xs.map valOf
 | [],vs,_,h=>h
 | x :: xs,vs,hf,⟨v,r,hv,h1,h2⟩=>by
   rw [hv,hf x (by simp) S v h1,S6 (fun y hy=>hf y (by simp [hy])) h2]
   rfl
theorem zgs {pre post:List AOp} {y:AOp} {k:Nat} (hk:y.k=.call) (hg:y.guard=none)
   (h:runK I.P pre env H fun env1 H1=>∃ row,y.vals env1=.yld I.l :: row∧(∀ x ∈ row,zr1 x)∧I.rows[k]? = some row ∧
     runK I.P post (env1.put y.dst (.bool true)) H1 (fun env2 H2=>Q (some (k + 1)) .normal env2 H2)∧runK I.P post (env1.put y.dst (.bool false)) H1 (fun env2 H2=>Q none .normal env2 H2)) :
   TI I n (.reg (pre ++ y :: post)) (some k) env H Q:=Vt fun code hc hs S a X hN hF hd=>by
 cases code<;>simp only [C6,reduceCtorEq,Option.some.injEq] at hc
 case region id l draw =>
   split at hc
   · rename_i r hr
     obtain ⟨hd',hrr⟩:=J2 hc
     subst hrr
     subst hd'
     refine wpIn_region ?_
     obtain ⟨l1,o,l2,hl,h1,h2,h3⟩:=Sz pre hr
     have hsz:l.size=l1.length + (l2.length + 1):=by rw [← Array.length_toList,hl];simp
     rw [List.range_eq_range',hsz,List.range'_append_1 |>.symm]
     have hat:∀ j:Nat,l[j]? = (l1 ++ o :: l2)[j]? := fun j=>by rw [← hl,Array.getElem?_toList]
     refine Gq (ops:=l) (rd:=none) (m:=I.m + 1) (Q:=Lh I n Q) _ l1 pre 0 (fun j hj=>by rw [Nat.zero_add,hat,List.getElem?_append_left hj]) h1 hN.rel hF h (fun S1 H1 env1 a1 e1 hS1 hF1 hd1 hK=>?_)
     obtain ⟨row,hv,hfx,hrow,ht,hff⟩:=hK
     have hN1:=hN.on e1 hS1
     have ho:l[l1.length]? = some o:=by rw [hat];simp
     rw [show List.range' (0 + l1.length) (l2.length + 1)=l1.length :: List.range' (l1.length + 1) l2.length from by rw [Nat.zero_add];rfl]
     simp only [wpOpsIn,ho]
     obtain ⟨c1,c2,c3,c4,c5⟩:=Bf h2
     have hw:Region.wanted o (yielded l a1.tmps)=true:=by
       rcases c5 with ⟨g1,_⟩|⟨j,want,d,g1,g2,_⟩
       · simp [Region.wanted,g1]
       · rw [hg] at g2;cases g2
     rw [hw]
     simp only [if_true]
     have hargs:=Kn hF1 c2
     rw [show y.args.map (·.eval env1)=y.vals env1 from rfl,hv] at hargs
     rw [hk] at c1
     obtain ⟨g,args,argTypes,hop⟩:=z7n c1
     obtain ⟨fn,tm,asg,bd,hy,hR⟩:=I.round k row _ _ hrow hN1.st
     have hrun:(o.semAt (fen none).round a1.eval).run I.P S1.w=.ok (.round I.l fn tm asg bd) S1.w:=by
       rw [show (fen none).round=none from rfl,Oper.semAt_none]
       rw [hop] at hargs
       have hargs':Af S1 (.yld I.l :: row) (a1.eval g :: args.toList.map a1.eval):=by simpa [Op.operands,Call.operands] using hargs
       obtain ⟨v,vs,hvv,hv1,hv2⟩:=hargs'
       cases hvv
       have hvs:=S6 hfx hv2
       have hv1':a1.eval g=.func (.yield I.l) #[] #[]:=hv1
       have e:args.map a1.eval=encI row:=by apply Array.ext';simp [hvs]
       have hex:execOp a1.eval o=(do let d ← Deferred.ofValue (a1.eval g) (args.map a1.eval);invoke d.target d.args:Sem Next):=by
         cases o
         simp only at hop
         subst hop
         rfl
       rw [hex,e,hv1']
       simp only [Deferred.ofValue,Sem.run_bind,Sem.run_pure,Result.andThen_ok,invoke]
       simpa using hy
     refine ⟨fun _ _=>trivial,?_⟩
     rw [hrun,Oper.uponIn_round]
     refine ⟨fun h=>(by cases h),?_⟩
     refine RoundIn.mono (F:=fen none) (n:=I.m) hR fun e W' hh=>?_
     obtain ⟨hsz',ho',hcase⟩:=hh
     have hf0:=(I.fact k _ _ (.inl hN1.st)).1
     have hdef:a1.defers=[]:=hd1.trans hd
     have hgo:∀ (bv:Bool) (s':Option Nat),I.at_ s' (fun b=>b < S1.w.heap.size∧¬ X b∧¬ I.S0.im b) W'→(∀ b,I.S0.im b→W'.heap[b]? = I.S0.w.heap[b]?) →
         runK I.P post (env1.put y.dst (.bool bv)) H1 (fun env2 H2=>Q s' .normal env2 H2)→wpOpsIn (fen none) (I.m + 1) I.P l (Lh I n Q) (List.range' (l1.length + 1) l2.length) (a1.put o.dst (.bool bv)) W':=fun bv s' hst him hrk=>by
       obtain ⟨S2,hw2,hN2,ev2⟩:=hN1.round hsz' ho' (fun b hb=>(him b hb).trans ((hf0 b hb).2).symm) hst
       have hF2:FRel S2 n env1 a1:=⟨hF1.size,by rw [hdef];exact Marks.nil hN2.base,fun i hi=>VRel.moni ev2 _ (hF1.val i hi)⟩
       have hF3:=hF2.put (dst:=y.dst) (by rw [c3];exact c4) (x:=.bool bv) (v:=.bool bv) rfl
       rw [c3] at hF3
       rw [c3] at hrk
       rw [← hw2]
       have:=Gq (ops:=l) (rd:=none) (m:=I.m + 1) (Q:=Lh I n Q) [] l2 post (l1.length + 1) (fun j hj=>by rw [hat,List.getElem?_append_right (by omega),show l1.length + 1 + j - l1.length=j + 1 from by omega];rfl) h3 hN2.rel hF3 hrk
         (fun S' H' env' a' e hS' hF' hdd hK=>⟨S',env',H',.normal,s',_,rfl,hN2.on e hS',hF',hdd.trans ((put_defers _ _ _).trans hdef),rfl,hK⟩)
       simpa using this
     rcases hcase with ⟨rfl,hj⟩|⟨rfl,hj⟩
     · exact hgo true (some (k + 1)) hj (fun b hb=>((I.fact _ _ _ (.inl hj)).1 b hb).2) ht
     · exact hgo false none ⟨_,hj⟩ (fun b hb=>((I.fact _ _ _ (.inr hj)).1 b hb).2) hff
   · cases hc
 case seq=>split at hc<;>cases hc
 case cond=>split at hc<;>cases hc
 case block=>obtain ⟨_,_,h⟩:=Option.map_eq_some_iff.1 hc;cases h
 case loop=>obtain ⟨_,_,h⟩:=Option.map_eq_some_iff.1 hc;cases h
 case rangeFunc=>split at hc<;>cases hc
 case scope d=>exact absurd rfl (hs d)
theorem zn0 {P:Program} {gf:Nat} {caps:List AV} {rows:List (List AV)} {fn:AFn} (hf:As P gf (caps.length + 1)=some fn)
   (h:∀ I:Itr,I.P=P→I.rows=rows→TI I fn.n fn.body (some 0) (entry (.yld I.l :: caps)) Ac.nil (fun s x env H=>Ret P fn.res (fun _ _=>True) x env H∧(s=some rows.length ∨ s=none))):z47 P gf caps rows:=by
 refine ⟨enters_of hf,fun m l S0 lb J Jx hS0 hx0 cJ cx hj fact round=>?_⟩
 obtain ⟨F,c,hF,hb,hn,hc,hr,hnp,_⟩:=J3 hf
 obtain ⟨S,hSd⟩:∃ S:MS,S={ S0 with base:=S0.w.heap.size,keep:=fun b=>b < S0.w.heap.size∧¬ S0.im b }:=⟨_,rfl⟩
 have ev0:Evi S0 S:=by subst hSd;exact Evi.of (fun _ _=>rfl) rfl rfl rfl rfl rfl rfl
 have hw0:S.w=S0.w:=by rw [hSd]
 have hS:SRel S Ac.nil:=by
   subst hSd
   exact ⟨hS0.n,fun g hg=>absurd hg (Nat.not_lt_zero _),fun g _ hg=>absurd hg (Nat.not_lt_zero _),fun b hb=>hb.elim (fun h=>hS0.im b (.inl h)) And.left⟩
 have hx:Af S caps lb:=Af.moni ev0 _ hx0
 have hlen:=hx.length
 let I:Itr:=⟨P,l,m,rows,S0,J,Jx,cJ,cx,fact,round⟩
 have hN:I.Now (some 0) (fun b=>b < S0.w.heap.size∧¬ S0.im b) S Ac.nil:=by
   refine ⟨hS,by rw [hSd];exact Nat.le_refl _,fun b hb=>by rw [hSd];exact hb,fun b hb=>by rw [hSd];exact hb,fun b hb=>.inl (by rw [hSd] at hb;exact hb),?_⟩
   have e:(fun b=>b < S.w.heap.size∧¬ (b < S0.w.heap.size∧¬ S0.im b)∧¬ I.S0.im b)=fun _=>False:=by
     funext b
     refine propext ⟨fun ⟨h1,h2,h3⟩=>h2 ⟨by rw [hw0] at h1;exact h1,h3⟩,False.elim⟩
   rw [e,hw0]
   exact hj
 refine callsIn_of_wp_marks (F:=Fence.wide) (n:=m + 1) hF hb trivial ?_
 have hfr:FRel S fn.n (entry (.yld l :: caps)) { tmps:=(#[Value.func (.yield l) #[] #[]] ++ lb.toArray) ++ Array.replicate (F.ntmps - (#[Value.func (.yield l) #[] #[]] ++ lb.toArray).size) undef,defers:=[] }:=by
   have hx':Af S (.yld l :: caps) (.func (.yield l) #[] #[] :: lb):=⟨_,_,rfl,rfl,hx⟩
   refine ⟨by simp;omega,Marks.nil hN.base,fun i hi=>?_⟩
   by_cases hlt:i < (AV.yld l :: caps).length
   · obtain ⟨v,hv,hr⟩:=hx'.get (List.getElem?_eq_getElem hlt)
     have e1:entry (.yld l :: caps) i=(AV.yld l :: caps)[i]:=by simp [entry,List.getD,List.getElem?_eq_getElem hlt]
     have e2:((#[Value.func (.yield l) #[] #[]] ++ lb.toArray) ++ Array.replicate (F.ntmps - (#[Value.func (.yield l) #[] #[]] ++ lb.toArray).size) undef).getD i undef=v:=by
       have hsz:i < (#[Value.func (.yield l) #[] #[]] ++ lb.toArray).size:=by simp at hlt ⊢;omega
       rw [Array.getD_eq_getD_getElem?,Array.getElem?_append_left hsz]
       have:(#[Value.func (.yield l) #[] #[]] ++ lb.toArray)[i]? = (Value.func (.yield l) #[] #[] :: lb)[i]? := by simp
       rw [this,hv];rfl
     rw [e1,e2]
     exact hr
   · have e1:entry (.yld l :: caps) i=.any:=by simp [entry,List.getD,List.getElem?_eq_none (Nat.le_of_not_lt hlt)]
     rw [e1]
     trivial
 rw [← hw0]
 refine wpIn_mono (h I rfl rfl c hc S _ _ hN hfr rfl) fun e a w' hh=>?_
 obtain ⟨S2,env2,H2,z,s2,X2,rfl,hN2,hF2,hd2,rfl,⟨hq,hres⟩,hst⟩:=hh
 have fin:LeavesInM Fence.wide (m + 1) P F a.tmps (fun e W'=>(∃ v,e=.returned v)∧((∃ O,J rows.length O W') ∨ ∃ k O,Jx k O W')) a.defers .returning S2.w:=by
   rw [hd2]
   refine Hq [] S2.w List.nodup_nil (fun D hd=>by cases hd) ?_
   obtain ⟨vs,ys,h1,h2,h3⟩:=Iq hN2.rel hF2 hr hres
   refine ⟨if h:vs.toArray.size=1 then vs.toArray[0] else .tuple vs.toArray,?_,⟨_,rfl⟩,?_⟩
   · have e:results F a.tmps=(do let vs ← F.results.mapM (Sg a.tmps);pure (if h:vs.size=1 then vs[0] else .tuple vs)):=by
       unfold results
       congr
     rw [e,Array.mapM_eq_mapM_toList]
     show Sem.run P _ S2.w=_
     simp only [Sem.run_bind,Sem.run_map,h1,Result.andThen_ok,Sem.run_pure]
     rfl
   · have:=hN2.st
     rcases hst with rfl|rfl
     · exact .inl ⟨_,this⟩
     · obtain ⟨k,hk⟩:=this;exact .inr ⟨k,_,hk⟩
 cases z with
 | normal=>exact fin
 | exit id=>exact hq.elim
 | ret=>exact fin
end
end Go.Proofs.YticodgjinajkpaaGreat.Abs
namespace Go.Proofs.YticodgjinajkpaaGreat
open Abs
def domL (s:Int):List Span:=if s=1 then [⟨0,255⟩] else if s=2 then [⟨0,55295⟩,⟨57344,1114111⟩] else []
theorem Ix (a:Int):PC Tryz.prog 78 [.int .i64 a] (Ca ⟨a,0,21,0⟩):=by
 refine A9 Yj ?_
 unfold Nh
 (repeat' (first|(simp (disch:=omega) only [push_cast,↓zz,seval])|(with_reducible first|refine And.intro ?_ ?_|(first|refine Ab ?_ ?_|refine Aa ?_ ?_)<;>intro hc<;>(try simp only [push_cast] at hc))|omega|with_reducible intro _))
def Dg (p:Part):Bool:=decide (0 ≤ p.drop∧p.drop < 21∧1 ≤ p.take∧p.take ≤ 21∧0 ≤ p.up∧p.up < 21∧(p.up=0 ∨ p.take ≤ 6))
theorem Gr (p:Part):PC Tryz.prog 101 [Ca p] (.bool (Dg p)):=by
 refine A9 z0u ?_
 unfold Pw
 (repeat' (first|(simp (disch:=omega) only [push_cast,↓zz,seval])|(with_reducible first|refine And.intro ?_ ?_|(first|refine Ab ?_ ?_|refine Aa ?_ ?_)<;>intro hc<;>(try simp only [push_cast] at hc))|omega|with_reducible intro _))
 all_goals (unfold Dg;first|(refine Xl ?_;omega)|(refine Xm ?_;omega)|(refine L8 ?_;omega))
theorem Iy (p:Part):PC Tryz.prog 139 [Ca p] (.bool (Dg p)):=by
 refine A9 Yy ?_
 unfold Nx
 (repeat' (first|(simp (disch:=omega) only [push_cast,↓zz,seval])|(with_reducible first|refine And.intro ?_ ?_|(first|refine Ab ?_ ?_|refine Aa ?_ ?_)<;>intro hc<;>(try simp only [push_cast] at hc))|omega|with_reducible intro _))
 all_goals (unfold Dg;first|(refine Xl ?_;omega)|(refine Xm ?_;omega)|(refine L8 ?_;omega))
def Dj (p:Part) (n:Int):Bool:=decide (0 ≤ p.at_∧p.at_ < n) && Dg p
theorem Iz (p:Part) (n:Int):PC Tryz.prog 86 [Ca p,.int .i64 n] (.bool (Dj p n)):=by
 refine A9 Yn ?_
 unfold Nl
 (repeat' (first|(simp (disch:=omega) only [push_cast,↓zz,seval])|(with_reducible first|refine And.intro ?_ ?_|(first|refine Ab ?_ ?_|refine Aa ?_ ?_)<;>intro hc<;>(try simp only [push_cast] at hc))|(have q_:=Gr p;(with_reducible first|refine eK q_ ?_|refine eQ q_ ?_|refine eG q_ ?_);clear q_)|(have q_:=Gr p;(with_reducible first|refine cK q_ ?_|refine cQ q_ ?_|refine cG q_ ?_);clear q_;(simp (disch:=omega) only [push_cast,↓zz,seval]);(fail_if_success with_reducible change False))|omega|with_reducible intro _))
 all_goals (simp [Dj, *]<;>omega)
theorem Qd (p:Part) (n:Int):PC Tryz.prog 118 [Ca p,.int .i64 n] (.bool (Dj p n)):=by
 refine A9 Vk ?_
 unfold La
 (repeat' (first|(simp (disch:=omega) only [push_cast,↓zz,seval])|(with_reducible first|refine And.intro ?_ ?_|(first|refine Ab ?_ ?_|refine Aa ?_ ?_)<;>intro hc<;>(try simp only [push_cast] at hc))|(have q_:=Iy p;(with_reducible first|refine eK q_ ?_|refine eQ q_ ?_|refine eG q_ ?_);clear q_)|(have q_:=Iy p;(with_reducible first|refine cK q_ ?_|refine cQ q_ ?_|refine cG q_ ?_);clear q_;(simp (disch:=omega) only [push_cast,↓zz,seval]);(fail_if_success with_reducible change False))|omega|with_reducible intro _))
 all_goals (simp [Dj, *]<;>omega)
theorem zr2 (i:Nat) (h:i ≤ 40):(1:Int) ≤ 2 ^ i∧(2:Int) ^ i ≤ 1099511627776 :=
 ⟨Int.pow_pos (by decide),by have:=Nat.pow_le_pow_right (n:=2) (by decide) h;have e:((2 ^ i:Nat):Int)=2 ^ i:=(by simp);rw [← e];omega⟩
theorem Hd (n:Int) (h:0 ≤ n∧n ≤ 40):PC Tryz.prog 100 [.int .i64 n] (.int .i64 (2 ^ n.toNat)):=by
 refine A9 z0t ?_
 unfold Pv
 (repeat' (first|(simp (disch:=omega) only [push_cast,↓zz,seval])|(with_reducible first|refine And.intro ?_ ?_|(first|refine Ab ?_ ?_|refine Aa ?_ ?_)<;>intro hc<;>(try simp only [push_cast] at hc))|omega|with_reducible intro _))
 refine Ao (Ap (fun (i:Nat)=>(i:Int) ≤ n) (fun i=>n.toNat - i) (fun i=>[(0,.int .i64 n),(3,.int .i64 (2 ^ i)),(4,.int .i64 i)]) (fun _=>[]) (fun _ _=>[]) 0 (by omega) ?_ ?_)
 · (repeat' (first|(simp (disch:=omega) only [push_cast,↓zz,seval])|(with_reducible first|refine And.intro ?_ ?_|(first|refine Ab ?_ ?_|refine Aa ?_ ?_)<;>intro hc<;>(try simp only [push_cast] at hc))|omega|with_reducible intro _))
 intro i hi
 refine W_T ?_
 have hp:=zr2 (i + 1)
 rw [Int.pow_succ] at hp
 (repeat' (first|(simp (disch:=omega) only [push_cast,↓zz,seval])|(with_reducible first|refine And.intro ?_ ?_|(first|refine Ab ?_ ?_|refine Aa ?_ ?_)<;>intro hc<;>(try simp only [push_cast] at hc))|omega|with_reducible intro _))
 · refine ⟨i + 1,?_⟩
   have hp:=hp (by omega)
   (repeat' (first|(simp (disch:=omega) only [push_cast,↓zz,seval,Int.pow_succ])|(with_reducible first|refine And.intro ?_ ?_|(first|refine Ab ?_ ?_|refine Aa ?_ ?_)<;>intro hc<;>(try simp only [push_cast] at hc))|omega|with_reducible intro _))
 · obtain rfl:n=i:=by omega
   rfl
def valP (p:Part) (x:Int):Int:=x / 2 ^ p.drop.toNat % 2 ^ p.take.toNat * 2 ^ p.up.toNat
def valB (p:Part) (x:Int):Bool:=Dg p && decide (0 ≤ x∧x ≤ 2097151)
def val1 (p:Part) (x:Int):Int:=if valB p x then valP p x else 0
abbrev valV (p:Part) (x:Int):AV:=.tup [.int .i64 (val1 p x),.bool (valB p x)]
theorem Dp {p:Part}:Dg p=true ↔ (0 ≤ p.drop∧p.drop < 21∧1 ≤ p.take∧p.take ≤ 21∧0 ≤ p.up∧p.up < 21∧(p.up=0 ∨ p.take ≤ 6)):=by simp [Dg]
theorem Gs (d:Nat) (h:d ≤ 21):(1:Int) ≤ 2 ^ d∧(2:Int) ^ d ≤ 2097152 :=
 ⟨Int.pow_pos (by decide),by have:=Nat.pow_le_pow_right (n:=2) (by decide) h;have e:((2 ^ d:Nat):Int)=2 ^ d:=(by simp);rw [← e];omega⟩
theorem zgt {p:Part} {x:Int} (hb:Dg p=true) (hx:0 ≤ x∧x ≤ 2097151) :
   IntKind.i64.wrap (Jb .and .i64 (x.fdiv (2 ^ min p.drop.toNat IntKind.i64.bits)) (IntKind.i64.wrap (IntKind.i64.wrap (1 * 2 ^ min p.take.toNat IntKind.i64.bits) - 1)) * 2 ^ min p.up.toNat IntKind.i64.bits)=valP p x:=by
 rw [Dp] at hb
 have e1:min p.drop.toNat IntKind.i64.bits=p.drop.toNat:=Nat.min_eq_left (by show _ ≤ 64;omega)
 have e2:min p.take.toNat IntKind.i64.bits=p.take.toNat:=Nat.min_eq_left (by show _ ≤ 64;omega)
 have e3:min p.up.toNat IntKind.i64.bits=p.up.toNat:=Nat.min_eq_left (by show _ ≤ 64;omega)
 rw [e1,e2,e3]
 have hd:=Gs p.drop.toNat (by omega)
 have ht:=Gs p.take.toNat (by omega)
 have hu:=Gs p.up.toNat (by omega)
 rw [Int.one_mul,IntWalk.i64_in (2 ^ p.take.toNat) (by omega),IntWalk.i64_in (2 ^ p.take.toNat - 1) (by omega),z9u _ _ (by omega)]
 have q0:0 ≤ x / 2 ^ p.drop.toNat:=Int.ediv_nonneg hx.1 (by omega)
 have q1:x / 2 ^ p.drop.toNat ≤ x:=Int.ediv_le_self _ hx.1
 have m0:=Int.emod_nonneg (x / 2 ^ p.drop.toNat) (b:=2 ^ p.take.toNat) (by omega)
 have m1:=Int.emod_lt_of_pos (x / 2 ^ p.drop.toNat) (b:=2 ^ p.take.toNat) (by omega)
 rw [z9v p.take.toNat ⟨q0,by show _ < (2:Int) ^ 64;omega⟩ (by show _ ≤ 64;omega) (IntWalk.i64_in _ (by omega))]
 refine IntWalk.i64_in _ ?_
 have:x / 2 ^ p.drop.toNat % 2 ^ p.take.toNat * 2 ^ p.up.toNat ≤ 2097152 * 2097152:=Int.mul_le_mul (by omega) (by omega) (by omega) (by omega)
 have:0 ≤ x / 2 ^ p.drop.toNat % 2 ^ p.take.toNat * 2 ^ p.up.toNat:=Int.mul_nonneg (by omega) (by omega)
 omega
theorem z1g {p:Part} {x:Int} (hb:Dg p=true) (hx:0 ≤ x∧x ≤ 2097151):valB p x=true∧val1 p x=valP p x:=by
 have:valB p x=true:=by simp only [valB,hb,Bool.true_and,decide_eq_true_eq];exact hx
 exact ⟨this,by rw [val1,this];rfl⟩
theorem zr3 {p:Part} {x:Int} (h:Dg p=false ∨ x < 0 ∨ 2097151 < x):valB p x=false∧val1 p x=0:=by
 have:valB p x=false:=by
   simp only [valB,Bool.and_eq_false_iff,decide_eq_false_iff_not]
   rcases h with h|h
   · exact .inl h
   · exact .inr (by omega)
 exact ⟨this,by rw [val1,this];rfl⟩
theorem zn1 {p:Part} {x:Int} (hb:Dg p=true) (hx:0 ≤ x∧x ≤ 2097151):IntKind.i64.wrap ((IntKind.i64.wrap (x.tdiv (2 ^ p.drop.toNat))).tmod (2 ^ p.take.toNat) * 2 ^ p.up.toNat)=valP p x:=by
 rw [Dp] at hb
 have hd:=Gs p.drop.toNat (by omega)
 have ht:=Gs p.take.toNat (by omega)
 have hu:=Gs p.up.toNat (by omega)
 have q0:0 ≤ x / 2 ^ p.drop.toNat:=Int.ediv_nonneg hx.1 (by omega)
 have q1:x / 2 ^ p.drop.toNat ≤ x:=Int.ediv_le_self _ hx.1
 have m0:=Int.emod_nonneg (x / 2 ^ p.drop.toNat) (b:=2 ^ p.take.toNat) (by omega)
 have m1:=Int.emod_lt_of_pos (x / 2 ^ p.drop.toNat) (b:=2 ^ p.take.toNat) (by omega)
 rw [IntWalk.i64_quo _ _ (by omega),IntWalk.rem_in _ _ q0]
 refine IntWalk.i64_in _ ?_
 have:x / 2 ^ p.drop.toNat % 2 ^ p.take.toNat * 2 ^ p.up.toNat ≤ 2097152 * 2097152:=Int.mul_le_mul (by omega) (by omega) (by omega) (by omega)
 have:0 ≤ x / 2 ^ p.drop.toNat % 2 ^ p.take.toNat * 2 ^ p.up.toNat:=Int.mul_nonneg (by omega) (by omega)
 omega
theorem Vu {p:Part} {x:Int} (h:Dg p=false ∨ x < 0 ∨ 2097151 < x):valV p x=.tup [.int .i64 0,.bool false]:=by
 obtain ⟨h1,h2⟩:=zr3 h
 simp only [valV,h1,h2]
theorem z1h {p:Part} {x:Int} (hb:Dg p=true) (hx:0 ≤ x∧x ≤ 2097151):valV p x=.tup [.int .i64 (valP p x),.bool true]:=by
 obtain ⟨h1,h2⟩:=z1g hb hx
 simp only [valV,h1,h2]
theorem z7o (p:Part) (x:Int):PC Tryz.prog 87 [Ca p,.int .i64 x] (valV p x):=by
 refine A9 Yo ?_
 unfold Nm
 (repeat' (first|(simp (disch:=omega) only [push_cast,↓zz,seval])|(with_reducible first|refine And.intro ?_ ?_|(first|refine Ab ?_ ?_|refine Aa ?_ ?_)<;>intro hc<;>(try simp only [push_cast] at hc))|(have q_:=Gr p;(with_reducible first|refine eK q_ ?_|refine eQ q_ ?_|refine eG q_ ?_);clear q_)|(have q_:=Gr p;(with_reducible first|refine cK q_ ?_|refine cQ q_ ?_|refine cG q_ ?_);clear q_;(simp (disch:=omega) only [push_cast,↓zz,seval]);(fail_if_success with_reducible change False))|omega|with_reducible intro _))
 all_goals first|(have hb:=Dp.1 ‹Dg p=true›;omega)|(rw [Vu (.inl ‹_›)];(repeat' (first|(simp (disch:=omega) only [push_cast,↓zz,seval,Bo])|omega|(with_reducible refine And.intro ?_ ?_)));done)|(rw [Vu (.inr (by omega))];(repeat' (first|(simp (disch:=omega) only [push_cast,↓zz,seval,Bo])|omega|(with_reducible refine And.intro ?_ ?_)));done)|(rw [z1h ‹_› (by omega)];(repeat' (first|(simp (disch:=omega) only [push_cast,↓zz,seval,Bo])|omega|(with_reducible refine And.intro ?_ ?_)));exact zgt ‹_› (by omega))
theorem z1i (p:Part) (x:Int):PC Tryz.prog 122 [Ca p,.int .i64 x] (valV p x):=by
 refine A9 Vm ?_
 unfold Lc
 (repeat' (first|(simp (disch:=omega) only [push_cast,↓zz,seval])|(with_reducible first|refine And.intro ?_ ?_|(first|refine Ab ?_ ?_|refine Aa ?_ ?_)<;>intro hc<;>(try simp only [push_cast] at hc))|(have q_:=Iy p;(with_reducible first|refine eK q_ ?_|refine eQ q_ ?_|refine eG q_ ?_);clear q_)|(have q_:=Hd p.drop (by have hb:=Dp.1 ‹Dg p=true›;omega);(with_reducible first|refine eK q_ ?_|refine eQ q_ ?_|refine eG q_ ?_);clear q_)|(have q_:=Hd p.take (by have hb:=Dp.1 ‹Dg p=true›;omega);(with_reducible first|refine eK q_ ?_|refine eQ q_ ?_|refine eG q_ ?_);clear q_)|(have q_:=Hd p.up (by have hb:=Dp.1 ‹Dg p=true›;omega);(with_reducible first|refine eK q_ ?_|refine eQ q_ ?_|refine eG q_ ?_);clear q_)|(have q_:=Iy p;(with_reducible first|refine cK q_ ?_|refine cQ q_ ?_|refine cG q_ ?_);clear q_;(simp (disch:=omega) only [push_cast,↓zz,seval]);(fail_if_success with_reducible change False))|(have q_:=Hd p.drop (by have hb:=Dp.1 ‹Dg p=true›;omega);(with_reducible first|refine cK q_ ?_|refine cQ q_ ?_|refine cG q_ ?_);clear q_;(simp (disch:=omega) only [push_cast,↓zz,seval]);(fail_if_success with_reducible change False))|(have q_:=Hd p.take (by have hb:=Dp.1 ‹Dg p=true›;omega);(with_reducible first|refine cK q_ ?_|refine cQ q_ ?_|refine cG q_ ?_);clear q_;(simp (disch:=omega) only [push_cast,↓zz,seval]);(fail_if_success with_reducible change False))|(have q_:=Hd p.up (by have hb:=Dp.1 ‹Dg p=true›;omega);(with_reducible first|refine cK q_ ?_|refine cQ q_ ?_|refine cG q_ ?_);clear q_;(simp (disch:=omega) only [push_cast,↓zz,seval]);(fail_if_success with_reducible change False))|omega|with_reducible intro _))
 all_goals first|(rw [Vu (.inl ‹_›)];(repeat' (first|(simp (disch:=omega) only [push_cast,↓zz,seval,Bo])|omega|(with_reducible refine And.intro ?_ ?_)));done)|(rw [Vu (.inr (by omega))];(repeat' (first|(simp (disch:=omega) only [push_cast,↓zz,seval,Bo])|omega|(with_reducible refine And.intro ?_ ?_)));done)|(have hp:=Gs p.drop.toNat (by have hb:=Dp.1 ‹Dg p=true›;omega);omega)|(have hp:=Gs p.take.toNat (by have hb:=Dp.1 ‹Dg p=true›;omega);omega)|(rw [z1h ‹_› (by omega)];(repeat' (first|(simp (disch:=omega) only [push_cast,↓zz,seval,Bo])|omega|(with_reducible refine And.intro ?_ ?_)));exact zn1 ‹_› (by omega))
theorem D6 (s:Int):PC Tryz.prog 49 [.int .i64 s] (Ad (domL s)):=by
 refine A9 Vd ?_
 unfold K2
 (repeat' (first|(simp (disch:=omega) only [push_cast,↓zz,seval])|(with_reducible first|refine And.intro ?_ ?_|(first|refine Ab ?_ ?_|refine Aa ?_ ?_)<;>intro hc<;>(try simp only [push_cast] at hc))|omega|with_reducible intro _))
 all_goals (simp only [domL, *];rfl)
abbrev Term.outer (t:Term):Part:=⟨0,t.drop,t.take,t.up⟩
theorem Gt (t:Term):PC Tryz.prog 88 [Bv t] (Ca t.outer):=by
 refine A9 Yp ?_
 unfold Nn
 (repeat' (first|(simp (disch:=omega) only [push_cast,↓zz,seval])|(with_reducible first|refine And.intro ?_ ?_|(first|refine Ab ?_ ?_|refine Aa ?_ ?_)<;>intro hc<;>(try simp only [push_cast] at hc))|omega|with_reducible intro _))
theorem Lj (t:Term):PC Tryz.prog 140 [Bv t] (Ca t.outer):=by
 refine A9 Vp ?_
 unfold Lf
 (repeat' (first|(simp (disch:=omega) only [push_cast,↓zz,seval])|(with_reducible first|refine And.intro ?_ ?_|(first|refine Ab ?_ ?_|refine Aa ?_ ?_)<;>intro hc<;>(try simp only [push_cast] at hc))|omega|with_reducible intro _))
def N0 (t:Term):Bool:=decide (t.base=0∧t.drop=0∧t.take=21∧t.up=0)
def F7 (p:Part):Bool:=decide (p.drop=0∧p.take=21∧p.up=0)
theorem Vv (p:Part):PC Tryz.prog 119 [Ca p] (.bool (F7 p)):=by
 refine A9 z0w ?_
 unfold Pz
 (repeat' (first|(simp (disch:=omega) only [push_cast,↓zz,seval])|(with_reducible first|refine And.intro ?_ ?_|(first|refine Ab ?_ ?_|refine Aa ?_ ?_)<;>intro hc<;>(try simp only [push_cast] at hc))|omega|with_reducible intro _))
 all_goals (unfold F7;first|(refine Xl ?_;omega)|(refine Xm ?_;omega)|(refine L8 ?_;omega))
theorem Y1 (t:Term):PC Tryz.prog 120 [Bv t] (.bool (N0 t)):=by
 refine A9 Vl ?_
 unfold Lb
 (repeat' (first|(simp (disch:=omega) only [push_cast,↓zz,seval])|(with_reducible first|refine And.intro ?_ ?_|(first|refine Ab ?_ ?_|refine Aa ?_ ?_)<;>intro hc<;>(try simp only [push_cast] at hc))|(have q_:=Lj t;(with_reducible first|refine eK q_ ?_|refine eQ q_ ?_|refine eG q_ ?_);clear q_)|(have q_:=Vv t.outer;(with_reducible first|refine eK q_ ?_|refine eQ q_ ?_|refine eG q_ ?_);clear q_)|(have q_:=Lj t;(with_reducible first|refine cK q_ ?_|refine cQ q_ ?_|refine cG q_ ?_);clear q_;(simp (disch:=omega) only [push_cast,↓zz,seval]);(fail_if_success with_reducible change False))|(have q_:=Vv t.outer;(with_reducible first|refine cK q_ ?_|refine cQ q_ ?_|refine cG q_ ?_);clear q_;(simp (disch:=omega) only [push_cast,↓zz,seval]);(fail_if_success with_reducible change False))|omega|with_reducible intro _))
 all_goals (simp [N0,F7,Term.outer, *])
theorem S7 (t:Term):PC Tryz.prog 134 [Bv t] (.bool (N0 t)):=by
 refine A9 Yw ?_
 unfold Nu
 (repeat' (first|(simp (disch:=omega) only [push_cast,↓zz,seval])|(with_reducible first|refine And.intro ?_ ?_|(first|refine Ab ?_ ?_|refine Aa ?_ ?_)<;>intro hc<;>(try simp only [push_cast] at hc))|(have q_:=Gt t;(with_reducible first|refine eK q_ ?_|refine eQ q_ ?_|refine eG q_ ?_);clear q_)|(have q_:=Ix 0;(with_reducible first|refine eK q_ ?_|refine eQ q_ ?_|refine eG q_ ?_);clear q_)|(have q_:=Gt t;(with_reducible first|refine cK q_ ?_|refine cQ q_ ?_|refine cG q_ ?_);clear q_;(simp (disch:=omega) only [push_cast,↓zz,seval]);(fail_if_success with_reducible change False))|(have q_:=Ix 0;(with_reducible first|refine cK q_ ?_|refine cQ q_ ?_|refine cG q_ ?_);clear q_;(simp (disch:=omega) only [push_cast,↓zz,seval]);(fail_if_success with_reducible change False))|omega|with_reducible intro _))
 all_goals (simp [N0,F7,Term.outer, *])
def B5 (x:Int):Bool:=decide (-1114111 ≤ x∧x ≤ 1114111)
theorem I0 (x:Int):PC Tryz.prog 145 [.int .i64 x] (.bool (B5 x)):=by
 refine A9 Yz ?_
 unfold Ny
 (repeat' (first|(simp (disch:=omega) only [push_cast,↓zz,seval])|(with_reducible first|refine And.intro ?_ ?_|(first|refine Ab ?_ ?_|refine Aa ?_ ?_)<;>intro hc<;>(try simp only [push_cast] at hc))|omega|with_reducible intro _))
 all_goals (unfold B5;first|(refine Xl ?_;omega)|(refine Xm ?_;omega)|(refine L8 ?_;omega))
theorem Lk (x:Int):PC Tryz.prog 138 [.int .i64 x] (.bool (B5 x)):=by
 refine A9 Vo ?_
 unfold Le
 (repeat' (first|(simp (disch:=omega) only [push_cast,↓zz,seval])|(with_reducible first|refine And.intro ?_ ?_|(first|refine Ab ?_ ?_|refine Aa ?_ ?_)<;>intro hc<;>(try simp only [push_cast] at hc))|omega|with_reducible intro _))
 all_goals (unfold B5;first|(refine Xl ?_;omega)|(refine Xm ?_;omega)|(refine L8 ?_;omega))
def H6:List Part→Bool
 | p :: q :: l=>decide (p.up < q.up) && H6 (q :: l)
 | _=>true
theorem Ll:∀ {l:List Part} {i:Nat},i + 1 < l.length→H6 (l.drop i)=(decide ((nth l i).up < (nth l (i + 1)).up) && H6 (l.drop (i + 1)))
 | [],i,h=>by simp at h
 | [p],i,h=>by simp at h
 | p :: q :: l,0,_=>rfl
 | p :: q :: l,i + 1,h=>by
   exact Ll (l:=q :: l) (i:=i) (by simpa using h)
theorem Y2 {l:List Part} {i:Nat} (h:l.length ≤ i + 1):H6 (l.drop i)=true:=by
 match hl:l.drop i with
 | []=>rfl
 | [p]=>rfl
 | p :: q :: r=>have:=congrArg List.length hl;simp at this;omega
theorem Qe (l:List Part) (hl:l.length < 1000000000000):PC Tryz.prog 146 [Be l] (.bool (H6 l && decide (l.length ≤ 4))):=by
 refine A9 Vq ?_
 unfold Lg
 (repeat' (first|(simp (disch:=omega) only [push_cast,↓zz,seval])|(with_reducible first|refine And.intro ?_ ?_|(first|refine Ab ?_ ?_|refine Aa ?_ ?_)<;>intro hc<;>(try simp only [push_cast] at hc))|omega|with_reducible intro _))
 refine Ao (Ap (fun (i:Nat)=>i ≤ l.length∧H6 l=H6 (l.drop (i - 1))) (fun i=>l.length - i) (fun i=>[(0,Be l),(5,Be l),(6,.int .i64 l.length),(7,.int .i64 i)]) (fun _=>[]) (fun _ _=>[]) 0 (by simp) ?_ ?_)
 · (repeat' (first|(simp (disch:=omega) only [push_cast,↓zz,seval])|(with_reducible first|refine And.intro ?_ ?_|(first|refine Ab ?_ ?_|refine Aa ?_ ?_)<;>intro hc<;>(try simp only [push_cast] at hc))|omega|with_reducible intro _))
 rintro i ⟨hi,hr⟩
 refine W_T ?_
 (repeat' (first|(simp (disch:=omega) only [push_cast,↓zz,seval])|(with_reducible first|refine And.intro ?_ ?_|(first|refine Ab ?_ ?_|refine Aa ?_ ?_)<;>intro hc<;>(try simp only [push_cast] at hc))|omega|with_reducible intro _))
 · rename_i h1 h2
   rw [hr,Ll (i:=i - 1) (by omega),show i - 1 + 1=i by omega]
   have:¬ (nth l (i - 1)).up < (nth l i).up:=by omega
   simp [this]
 · refine ⟨i + 1,?_⟩
   (repeat' (first|(simp (disch:=omega) only [push_cast,↓zz,seval])|(with_reducible first|refine And.intro ?_ ?_|(first|refine Ab ?_ ?_|refine Aa ?_ ?_)<;>intro hc<;>(try simp only [push_cast] at hc))|omega|with_reducible intro _))
   rw [hr,Ll (i:=i - 1) (by omega),show i - 1 + 1=i by omega]
   have:(nth l (i - 1)).up < (nth l i).up:=by omega
   simp [this]
 · refine ⟨i + 1,?_⟩
   (repeat' (first|(simp (disch:=omega) only [push_cast,↓zz,seval])|(with_reducible first|refine And.intro ?_ ?_|(first|refine Ab ?_ ?_|refine Aa ?_ ?_)<;>intro hc<;>(try simp only [push_cast] at hc))|omega|with_reducible intro _))
   obtain rfl:i=0:=by omega
   exact hr
 · rw [hr,Y2 (i:=i - 1) (by omega),Bool.true_and]
   exact L8 (by omega)
def B6 (t:Term):Bool:=B5 t.base && B5 t.sum && Dg t.outer && (H6 t.parts && decide (t.parts.length ≤ 4))
theorem z1j (t:Term):Dj t.outer 1=Dg t.outer:=by simp [Dj]
theorem Qf (t:Term):PC Tryz.prog 86 [Ca t.outer,.int .i64 1] (.bool (Dg t.outer)):=by rw [← z1j];exact Iz t.outer 1
theorem H7 (t:Term) (hl:t.parts.length < 1000000000000):PC Tryz.prog 133 [Bv t] (.bool (B6 t)):=by
 refine A9 Ry ?_
 unfold Jo
 (repeat' (first|(simp (disch:=omega) only [push_cast,↓zz,seval])|(with_reducible first|refine And.intro ?_ ?_|(first|refine Ab ?_ ?_|refine Aa ?_ ?_)<;>intro hc<;>(try simp only [push_cast] at hc))|(have q_:=I0 t.base;(with_reducible first|refine eK q_ ?_|refine eQ q_ ?_|refine eG q_ ?_);clear q_)|(have q_:=I0 t.sum;(with_reducible first|refine eK q_ ?_|refine eQ q_ ?_|refine eG q_ ?_);clear q_)|(have q_:=Gt t;(with_reducible first|refine eK q_ ?_|refine eQ q_ ?_|refine eG q_ ?_);clear q_)|(have q_:=Qf t;(with_reducible first|refine eK q_ ?_|refine eQ q_ ?_|refine eG q_ ?_);clear q_)|(have q_:=Qe t.parts hl;(with_reducible first|refine eK q_ ?_|refine eQ q_ ?_|refine eG q_ ?_);clear q_)|(have q_:=I0 t.base;(with_reducible first|refine cK q_ ?_|refine cQ q_ ?_|refine cG q_ ?_);clear q_;(simp (disch:=omega) only [push_cast,↓zz,seval]);(fail_if_success with_reducible change False))|(have q_:=I0 t.sum;(with_reducible first|refine cK q_ ?_|refine cQ q_ ?_|refine cG q_ ?_);clear q_;(simp (disch:=omega) only [push_cast,↓zz,seval]);(fail_if_success with_reducible change False))|(have q_:=Gt t;(with_reducible first|refine cK q_ ?_|refine cQ q_ ?_|refine cG q_ ?_);clear q_;(simp (disch:=omega) only [push_cast,↓zz,seval]);(fail_if_success with_reducible change False))|(have q_:=Qf t;(with_reducible first|refine cK q_ ?_|refine cQ q_ ?_|refine cG q_ ?_);clear q_;(simp (disch:=omega) only [push_cast,↓zz,seval]);(fail_if_success with_reducible change False))|(have q_:=Qe t.parts hl;(with_reducible first|refine cK q_ ?_|refine cQ q_ ?_|refine cG q_ ?_);clear q_;(simp (disch:=omega) only [push_cast,↓zz,seval]);(fail_if_success with_reducible change False))|omega|with_reducible intro _))
 all_goals (simp [B6, *])
theorem Qg (t:Term) (hl:t.parts.length < 1000000000000):PC Tryz.prog 117 [Bv t] (.bool (B6 t)):=by
 refine A9 Py ?_
 unfold Hz
 (repeat' (first|(simp (disch:=omega) only [push_cast,↓zz,seval])|(with_reducible first|refine And.intro ?_ ?_|(first|refine Ab ?_ ?_|refine Aa ?_ ?_)<;>intro hc<;>(try simp only [push_cast] at hc))|(have q_:=Lk t.base;(with_reducible first|refine eK q_ ?_|refine eQ q_ ?_|refine eG q_ ?_);clear q_)|(have q_:=Lk t.sum;(with_reducible first|refine eK q_ ?_|refine eQ q_ ?_|refine eG q_ ?_);clear q_)|(have q_:=Lj t;(with_reducible first|refine eK q_ ?_|refine eQ q_ ?_|refine eG q_ ?_);clear q_)|(have q_:=Iy t.outer;(with_reducible first|refine eK q_ ?_|refine eQ q_ ?_|refine eG q_ ?_);clear q_)|(have q_:=Lk t.base;(with_reducible first|refine cK q_ ?_|refine cQ q_ ?_|refine cG q_ ?_);clear q_;(simp (disch:=omega) only [push_cast,↓zz,seval]);(fail_if_success with_reducible change False))|(have q_:=Lk t.sum;(with_reducible first|refine cK q_ ?_|refine cQ q_ ?_|refine cG q_ ?_);clear q_;(simp (disch:=omega) only [push_cast,↓zz,seval]);(fail_if_success with_reducible change False))|(have q_:=Lj t;(with_reducible first|refine cK q_ ?_|refine cQ q_ ?_|refine cG q_ ?_);clear q_;(simp (disch:=omega) only [push_cast,↓zz,seval]);(fail_if_success with_reducible change False))|(have q_:=Iy t.outer;(with_reducible first|refine cK q_ ?_|refine cQ q_ ?_|refine cG q_ ?_);clear q_;(simp (disch:=omega) only [push_cast,↓zz,seval]);(fail_if_success with_reducible change False))|omega|with_reducible intro _))
 · have:¬ t.parts.length ≤ 4:=by omega
   simp [B6,this]
 · have hn:B6 t=H6 t.parts:=by
     have:t.parts.length ≤ 4:=by omega
     simp [B6, *]
   rw [hn]
   refine Ao (Ap (fun (i:Nat)=>i ≤ t.parts.length∧H6 t.parts=H6 (t.parts.drop i)) (fun i=>t.parts.length - i) (fun i=>[(1,.ptr 0 1 0 0),(3,.int .i64 (i + 1))]) (fun _=>[⟨6,1,true,[Bv t]⟩]) (fun env _=>[Aw 0 (env 1)]) 0 (by simp) ?_ ?_)
   · (repeat' (first|(simp (disch:=omega) only [push_cast,↓zz,seval])|(with_reducible first|refine And.intro ?_ ?_|(first|refine Ab ?_ ?_|refine Aa ?_ ?_)<;>intro hc<;>(try simp only [push_cast] at hc))|omega|with_reducible intro _))
   rintro i ⟨hi,hr⟩
   refine W_T ?_
   (repeat' (first|(simp (disch:=omega) only [push_cast,↓zz,seval])|(with_reducible first|refine And.intro ?_ ?_|(first|refine Ab ?_ ?_|refine Aa ?_ ?_)<;>intro hc<;>(try simp only [push_cast] at hc))|omega|with_reducible intro _))
   · rw [hr,Ll (i:=i) (by omega)]
     have:¬ (nth t.parts i).up < (nth t.parts (i + 1)).up:=by omega
     simp [this]
   · refine ⟨i + 1,?_⟩
     (repeat' (first|(simp (disch:=omega) only [push_cast,↓zz,seval])|(with_reducible first|refine And.intro ?_ ?_|(first|refine Ab ?_ ?_|refine Aa ?_ ?_)<;>intro hc<;>(try simp only [push_cast] at hc))|omega|with_reducible intro _))
     rw [hr,Ll (i:=i) (by omega)]
     have:(nth t.parts i).up < (nth t.parts (i + 1)).up:=by omega
     simp [this]
   · rw [hr,Y2 (i:=i) (by omega)]
 all_goals (simp [B6, *])
def Y3 (s:Int):Bool:=decide (s=1 ∨ s=2)
def C4 (i n:Int) (l:List Part):Bool:=l.all fun p=>Dj p n && (decide (i ≠ 2) || F7 p)
def Er (t:Term) (i o n:Int):Bool:=Y3 i && Y3 o && B6 t && C4 i n t.parts && (decide (i ≠ 2) || decide (t.parts.length ≤ 1)) && (decide (o ≠ 2) || N0 t)
theorem Vw (s:Int):decide (((domL s).length:Int)=0)=!Y3 s:=by
 unfold domL Y3
 split
 · subst_vars;decide
 · split
   · subst_vars;decide
   · simp [*]
theorem zje (l:List Part):(l.length ≤ 1)=((l.length:Int) ≤ 1):=by simp only [eq_iff_iff];omega
theorem z7p (t:Term) (i o n:Int) (hl:t.parts.length < 1000000000000):PC Tryz.prog 114 [Bv t,.int .i64 i,.int .i64 o,.int .i64 n] (.bool (Er t i o n)):=by
 refine A9 Ys ?_
 unfold Nq
 (repeat' (first|(simp (disch:=omega) only [push_cast,↓zz,seval,Vw])|(with_reducible first|refine And.intro ?_ ?_|(first|refine Ab ?_ ?_|refine Aa ?_ ?_)<;>intro hc<;>(try simp only [push_cast] at hc))|(have q_:=D6 i;(with_reducible first|refine eK q_ ?_|refine eQ q_ ?_|refine eG q_ ?_);clear q_)|(have q_:=D6 o;(with_reducible first|refine eK q_ ?_|refine eQ q_ ?_|refine eG q_ ?_);clear q_)|(have q_:=H7 t hl;(with_reducible first|refine eK q_ ?_|refine eQ q_ ?_|refine eG q_ ?_);clear q_)|(have q_:=D6 i;(with_reducible first|refine cK q_ ?_|refine cQ q_ ?_|refine cG q_ ?_);clear q_;(simp (disch:=omega) only [push_cast,↓zz,seval,Vw]);(fail_if_success with_reducible change False))|(have q_:=D6 o;(with_reducible first|refine cK q_ ?_|refine cQ q_ ?_|refine cG q_ ?_);clear q_;(simp (disch:=omega) only [push_cast,↓zz,seval,Vw]);(fail_if_success with_reducible change False))|(have q_:=H7 t hl;(with_reducible first|refine cK q_ ?_|refine cQ q_ ?_|refine cG q_ ?_);clear q_;(simp (disch:=omega) only [push_cast,↓zz,seval,Vw]);(fail_if_success with_reducible change False))|omega|with_reducible intro _))
 · simp [Er, *]
 · have hn:Er t i o n=(C4 i n t.parts && (decide (i ≠ 2) || decide ((t.parts.length:Int) ≤ 1)) && (decide (o ≠ 2) || N0 t)):=by simp [Er,zje, *]
   rw [hn]
   refine Ao (Ap (fun (k:Nat)=>k ≤ t.parts.length∧C4 i n t.parts=C4 i n (t.parts.drop k)) (fun k=>t.parts.length - k) (fun k=>[(1,.int .i64 i),(2,.int .i64 o),(3,.int .i64 n),(4,.ptr 0 1 0 0),(27,Be t.parts),(28,.int .i64 t.parts.length),(29,.int .i64 k)]) (fun _=>[⟨6,1,true,[Bv t]⟩]) (fun env _=>[Aw 0 (env 4)]) 0 (by simp) ?_ ?_)
   · (repeat' (first|(simp (disch:=omega) only [push_cast,↓zz,seval])|(with_reducible first|refine And.intro ?_ ?_|(first|refine Ab ?_ ?_|refine Aa ?_ ?_)<;>intro hc<;>(try simp only [push_cast] at hc))|omega|with_reducible intro _))
   rintro k ⟨hi,hr⟩
   refine W_T ?_
   (repeat' (first|(simp (disch:=omega) only [push_cast,↓zz,seval])|(with_reducible first|refine And.intro ?_ ?_|(first|refine Ab ?_ ?_|refine Aa ?_ ?_)<;>intro hc<;>(try simp only [push_cast] at hc))|(have q_:=Iz (nth t.parts k) n;(with_reducible first|refine eK q_ ?_|refine eQ q_ ?_|refine eG q_ ?_);clear q_)|(have q_:=Ix (nth t.parts k).at_;(with_reducible first|refine eK q_ ?_|refine eQ q_ ?_|refine eG q_ ?_);clear q_)|(have q_:=S7 t;(with_reducible first|refine eK q_ ?_|refine eQ q_ ?_|refine eG q_ ?_);clear q_)|(have q_:=Iz (nth t.parts k) n;(with_reducible first|refine cK q_ ?_|refine cQ q_ ?_|refine cG q_ ?_);clear q_;(simp (disch:=omega) only [push_cast,↓zz,seval]);(fail_if_success with_reducible change False))|(have q_:=Ix (nth t.parts k).at_;(with_reducible first|refine cK q_ ?_|refine cQ q_ ?_|refine cG q_ ?_);clear q_;(simp (disch:=omega) only [push_cast,↓zz,seval]);(fail_if_success with_reducible change False))|(have q_:=S7 t;(with_reducible first|refine cK q_ ?_|refine cQ q_ ?_|refine cG q_ ?_);clear q_;(simp (disch:=omega) only [push_cast,↓zz,seval]);(fail_if_success with_reducible change False))|omega|with_reducible intro _))
   all_goals (first|(refine ⟨k + 1,?_⟩;(repeat' (first|(simp (disch:=omega) only [push_cast,↓zz,seval])|(with_reducible first|refine And.intro ?_ ?_|(first|refine Ab ?_ ?_|refine Aa ?_ ?_)<;>intro hc<;>(try simp only [push_cast] at hc))|omega|with_reducible intro _));(try (first|(rw [hr,drop_at (by omega)];simp [C4,F7, *];done)|(rw [hr,List.drop_of_length_le (by omega)];simp [C4,F7, *];done)|(simp [C4,F7, *];done)));done)|(first|(rw [hr,drop_at (by omega)];simp [C4,F7, *];done)|(rw [hr,List.drop_of_length_le (by omega)];simp [C4,F7, *];done)|(simp [C4,F7, *];done)))
 all_goals (simp [Er, *])
theorem zc0 (t:Term) (i o n:Int) (hl:t.parts.length < 1000000000000):PC Tryz.prog 98 [Bv t,.int .i64 i,.int .i64 o,.int .i64 n] (.bool (Er t i o n)):=by
 refine A9 Vi ?_
 unfold K8
 (repeat' (first|(simp (disch:=omega) only [push_cast,↓zz,seval])|(with_reducible first|refine And.intro ?_ ?_|(first|refine Ab ?_ ?_|refine Aa ?_ ?_)<;>intro hc<;>(try simp only [push_cast] at hc))|(have q_:=Qg t hl;(with_reducible first|refine eK q_ ?_|refine eQ q_ ?_|refine eG q_ ?_);clear q_)|(have q_:=Qg t hl;(with_reducible first|refine cK q_ ?_|refine cQ q_ ?_|refine cG q_ ?_);clear q_;(simp (disch:=omega) only [push_cast,↓zz,seval]);(fail_if_success with_reducible change False))|omega|with_reducible intro _))
 all_goals first
   | (simp [Er,Y3, *];done)
   | ((have hn:Er t i o n=(C4 i n t.parts && (decide (i ≠ 2) || decide ((t.parts.length:Int) ≤ 1)) && (decide (o ≠ 2) || N0 t)):=by simp [Er,Y3,zje, *])
      rw [hn]
      refine Ao (Ap (fun (k:Nat)=>k ≤ t.parts.length∧C4 i n t.parts=C4 i n (t.parts.drop k)∧(i=2→k ≤ 1)) (fun k=>t.parts.length - k) (fun k=>[(1,.int .i64 i),(2,.int .i64 o),(3,.int .i64 n),(4,.ptr 0 1 0 0),(9,.int .i64 k)]) (fun _=>[⟨6,1,true,[Bv t]⟩]) (fun env _=>[Aw 0 (env 4)]) 0 (by simp) ?_ ?_)
      · (repeat' (first|(simp (disch:=omega) only [push_cast,↓zz,seval])|(with_reducible first|refine And.intro ?_ ?_|(first|refine Ab ?_ ?_|refine Aa ?_ ?_)<;>intro hc<;>(try simp only [push_cast] at hc))|omega|with_reducible intro _))
      rintro k ⟨hi,hr,hk⟩
      refine W_T ?_
      (repeat' (first|(simp (disch:=omega) only [push_cast,↓zz,seval])|(with_reducible first|refine And.intro ?_ ?_|(first|refine Ab ?_ ?_|refine Aa ?_ ?_)<;>intro hc<;>(try simp only [push_cast] at hc))|(have q_:=Qd (nth t.parts k) n;(with_reducible first|refine eK q_ ?_|refine eQ q_ ?_|refine eG q_ ?_);clear q_)|(have q_:=Vv (nth t.parts k);(with_reducible first|refine eK q_ ?_|refine eQ q_ ?_|refine eG q_ ?_);clear q_)|(have q_:=Y1 t;(with_reducible first|refine eK q_ ?_|refine eQ q_ ?_|refine eG q_ ?_);clear q_)|(have q_:=Qd (nth t.parts k) n;(with_reducible first|refine cK q_ ?_|refine cQ q_ ?_|refine cG q_ ?_);clear q_;(simp (disch:=omega) only [push_cast,↓zz,seval]);(fail_if_success with_reducible change False))|(have q_:=Vv (nth t.parts k);(with_reducible first|refine cK q_ ?_|refine cQ q_ ?_|refine cG q_ ?_);clear q_;(simp (disch:=omega) only [push_cast,↓zz,seval]);(fail_if_success with_reducible change False))|(have q_:=Y1 t;(with_reducible first|refine cK q_ ?_|refine cQ q_ ?_|refine cG q_ ?_);clear q_;(simp (disch:=omega) only [push_cast,↓zz,seval]);(fail_if_success with_reducible change False))|omega|with_reducible intro _))
      all_goals first
        | (first|(refine ⟨k + 1,?_⟩;(repeat' (first|(simp (disch:=omega) only [push_cast,↓zz,seval])|(with_reducible first|refine And.intro ?_ ?_|(first|refine Ab ?_ ?_|refine Aa ?_ ?_)<;>intro hc<;>(try simp only [push_cast] at hc))|omega|with_reducible intro _));(try (first|(rw [hr,drop_at (by omega)];simp [C4, *];done)|(rw [hr,List.drop_of_length_le (by omega)];simp [C4, *];done)|(simp [C4, *];done)));done)|(first|(rw [hr,drop_at (by omega)];simp [C4, *];done)|(rw [hr,List.drop_of_length_le (by omega)];simp [C4, *];done)|(simp [C4, *];done)))
        | ((have h2:¬ (t.parts.length:Int) ≤ 1:=by omega);simp [h2, *];done)
        | (rw [hr,List.drop_of_length_le (by omega)];(have h2:i=2→(t.parts.length:Int) ≤ 1:=by omega);by_cases h3:i=2<;>simp [C4, *];done)
        )
theorem Qh (l:List Part) (hl:l.length ≤ 1000000000000):PC Tryz.prog 52 [Be l] (Be l):=by
 by_cases h0:l=[]
 · subst h0
   refine z42 ?_ ?_
   · refine A9 Ch ?_
     unfold B0
     (repeat' (first|(simp (disch:=omega) only [push_cast,↓zz,seval])|(with_reducible first|refine And.intro ?_ ?_|(first|refine Ab ?_ ?_|refine Aa ?_ ?_)<;>intro hc<;>(try simp only [push_cast] at hc))|omega|with_reducible intro _))
   · refine A9 Ch ?_
     unfold B0
     (repeat' (first|(simp (disch:=omega) only [push_cast,↓zz,seval])|(with_reducible first|refine And.intro ?_ ?_|(first|refine Ab ?_ ?_|refine Aa ?_ ?_)<;>intro hc<;>(try simp only [push_cast] at hc))|omega|with_reducible intro _))
 · refine A9 Ch ?_
   unfold B0
   (repeat' (first|(simp (disch:=omega) only [push_cast,↓zz,seval,h0])|(with_reducible first|refine And.intro ?_ ?_|(first|refine Ab ?_ ?_|refine Aa ?_ ?_)<;>intro hc<;>(try simp only [push_cast] at hc))|omega|with_reducible intro _))
def sumP (w:List Int):List Part→Int→Option Int
 | [],a=>some a
 | p :: l,a=>if Dj p w.length then sumP w l (IntKind.i64.wrap (a + val1 p (nth w p.at_.toNat))) else none
def symB (x:Int):Bool:=decide (0 ≤ x∧x ≤ 1114111)
def Lm (t:Term) (w:List Int):Option Int :=
 if w.all symB then
   match sumP w t.parts t.sum with
   | some x=>if valB t.outer x && decide (x ≤ 1114111) then some (IntKind.i64.wrap (t.base + valP t.outer x)) else none
   | none=>none
 else none
theorem Ai {p:Part} {n:Int} (h:Dj p n=true):0 ≤ p.at_∧p.at_ < n:=by
 simp only [Dj,Bool.and_eq_true,decide_eq_true_eq] at h
 exact h.1
end Go.Proofs.YticodgjinajkpaaGreat
