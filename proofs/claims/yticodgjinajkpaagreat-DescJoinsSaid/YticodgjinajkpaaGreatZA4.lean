/-
  The functions of the seat and what they call, as the walk reads them. Written by a program of my own (wip/tools/mkfns.py).
  The functions of the seat and what they call, as the walk reads them. Written by a program of my own (wip/tools/mkfns.py).
  The library's sort of no spans.
  Plain lists of spans: what a set's list is, whichever way it is made.
  Functions that hand on rows: their code, carried out between the rounds.
  Contracts of layers 2, 3: sorts; parts.
-/
import Derived.Test.YticodgjinajkpaaGreatProg
import Derived.KernelRfl
import Derived.Test.YticodgjinajkpaaGreatZA2
import Derived.Test.YticodgjinajkpaaGreatZA3
set_option maxRecDepth 100000
namespace Go.Proofs.YticodgjinajkpaaGreat
open Abs
abbrev s_ (n:Nat):AArg:=.slot n
abbrev k_ (x:AV):AArg:=.const x
abbrev h_ (a:List AArg) (k:AK):AOp:=⟨none,a,none,k⟩
abbrev m_ (d:Nat) (a:List AArg) (k:AK):AOp:=⟨some d,a,none,k⟩
abbrev g_ (d g:Nat) (w:Bool) (a:List AArg) (k:AK):AOp:=⟨some d,a,some (g,w),k⟩
def z68:AC:=(.seq (.reg [o1 2 0 .box,o1 3 1 .box,c1 4 (.bool false) .mv]) (.seq (.seq (.reg [o1 7 2 (.load true 6),k1 8 7 7,o1 9 8 (.un .not),o1 10 9 .mv,g_ 11 10 false [s_ 3] (.load true 6),g_ 12 10 false [k_ (.fn 7 []),s_ 11] .call,g_ 13 10 false [s_ 12] (.un .not),m_ 14 [s_ 10,k_ (.bool true),s_ 13] .pick]) (.cond (.slot 14) (.seq (.reg [k0 15 8,o1 4 15 .mv]) .ret) .skip)) (.seq (.reg [o1 17 2 (.load true 6),o1 18 3 (.load true 6),k2 19 9 17 18,o1 16 19 .mv,o1 20 16 (.extract 0),o1 21 16 (.extract 1),o0 5 (.alloc (.agg [(.int .i64 0),(.int .i64 0),(.int .i64 0),(.int .i64 0),.nilS,.nilS]) 6),n2 5 20 (.store 6),o1 6 21 .mv]) (.seq (.seq (.reg [o1 22 2 (.load true 6),k1 23 10 22,o1 24 23 (.un .not),o1 25 24 .mv,g_ 26 25 false [s_ 3] (.load true 6),g_ 27 25 false [k_ (.fn 10 []),s_ 26] .call,g_ 28 25 false [s_ 27] (.un .not),m_ 29 [s_ 25,k_ (.bool true),s_ 28] .pick,o1 30 29 .mv,g_ 31 30 false [s_ 2] (.faddr false 0 1),g_ 32 30 false [s_ 31] (.load false 1),g_ 33 30 false [s_ 3] (.faddr false 0 1),g_ 34 30 false [s_ 33] (.load false 1),g_ 35 30 false [s_ 32,s_ 34] (.bin .neq),m_ 36 [s_ 30,k_ (.bool true),s_ 35] .pick,o1 37 36 .mv,g_ 38 37 false [s_ 2] (.faddr false 1 1),g_ 39 37 false [s_ 38] (.load false 1),g_ 40 37 false [s_ 3] (.faddr false 1 1),g_ 41 37 false [s_ 40] (.load false 1),g_ 42 37 false [s_ 39,s_ 41] (.bin .neq),m_ 43 [s_ 37,k_ (.bool true),s_ 42] .pick]) (.cond (.slot 43) (.seq (.reg [o1 44 6 .mv,c2 45 44 (.int .i64 2) (.bin .eql),o1 46 45 .mv,g1 47 46 5 (.load true 6),g_ 48 46 true [] (.build [(.int .i64 0),(.int .i64 0),(.int .i64 0),(.int .i64 0),.nilS,.nilS] [(0,1),(1,1),(2,1),(3,1),(4,1),(5,1)] []),g_ 49 46 true [k_ (.fn 11 []),s_ 47,s_ 48] .call,m_ 50 [s_ 46,s_ 49,k_ (.bool false)] .pick,o1 51 50 .mv,g_ 52 51 true [k_ (.fn 8 [])] .call,m_ 53 [s_ 51,s_ 52,k_ (.bool false)] .pick,o1 4 53 .mv]) .ret) .skip)) (.seq (.seq (.reg [o1 54 2 (.faddr false 2 1),o1 55 54 (.load false 1),o1 56 3 (.faddr false 2 1),o1 57 56 (.load false 1),o2 58 55 57 (.bin .add),c2 59 58 (.int .i64 1) (.bin .add),c2 60 59 (.int .i64 1024) (.bin .gtr)]) (.cond (.slot 60) (.seq (.reg [o1 61 6 .mv,c2 62 61 (.int .i64 4) (.bin .eql),o1 63 62 .mv,g1 64 63 5 (.load true 6),g_ 65 63 true [] (.build [(.int .i64 0),(.int .i64 0),(.int .i64 0),(.int .i64 0),.nilS,.nilS] [(0,1),(1,1),(2,1),(3,1),(4,1),(5,1)] []),g_ 66 63 true [k_ (.fn 11 []),s_ 64,s_ 65] .call,m_ 67 [s_ 63,s_ 66,k_ (.bool false)] .pick,o1 68 67 .mv,g_ 69 68 true [k_ (.fn 8 [])] .call,m_ 70 [s_ 68,s_ 69,k_ (.bool false)] .pick,o1 4 70 .mv]) .ret) .skip)) (.seq (.dreg [o1 71 6 .mv,c2 72 71 (.int .i64 0) (.bin .eql),o1 73 72 .mv,g1 74 73 5 (.load true 6),g1 75 73 2 (.load true 6),g1 76 73 3 (.load true 6),g_ 77 73 true [k_ (.fn 12 []),s_ 75,s_ 76] .call,g_ 78 73 true [k_ (.fn 11 []),s_ 74,s_ 77] .call,m_ 79 [s_ 73,s_ 78,k_ (.bool false)] .pick,o1 80 79 .mv,g_ 81 80 true [k_ (.fn 8 [])] .call,m_ 82 [s_ 80,s_ 81,k_ (.bool false)] .pick,o1 4 82 .mv]) .ret))))))
theorem zaz:z0j Tryz.prog 3 2=some ⟨83,2,[(.slot 4)],z68⟩:=by kernel_rfl
def z9s:AC:=(.seq (.reg [o1 1 0 .box,c1 2 (.bool false) .mv]) (.seq (.reg [c1 3 (.int .i64 0) .mv]) (.seq (.seq (.reg [o1 6 1 (.faddr false 4 1),o1 7 6 (.load false 1),o1 8 7 (.len false),c2 9 8 (.int .i64 80) (.bin .gtr),o1 10 9 .mv,g_ 11 10 false [s_ 1] (.faddr false 5 1),g_ 12 10 false [s_ 11] (.load false 1),g_ 13 10 false [s_ 12] (.len false),g_ 14 10 false [s_ 13,k_ (.int .i64 80)] (.bin .gtr),m_ 15 [s_ 10,k_ (.bool true),s_ 14] .pick]) (.cond (.slot 15) (.seq (.reg [c1 2 (.bool false) .mv]) .ret) .skip)) (.seq (.seq (.reg [c1 4 (.int .i64 0) .mv]) (.block 0 (.loop (.seq (.seq (.reg [o1 16 4 .mv,o1 17 1 (.faddr false 4 1),o1 18 17 (.load false 1),o1 19 18 (.len false),o2 20 16 19 (.bin .lss)]) (.cond (.slot 20) .skip (.exit 0))) (.seq (.block 1 (.dreg [o1 23 3 .mv,o1 24 1 (.faddr false 4 1),o1 25 24 (.load false 1),o1 26 4 .mv,o2 27 25 26 (.iaddr 5),o1 28 27 (.faddr false 2 1),o1 29 28 (.load false 1),o1 30 1 (.faddr false 4 1),o1 31 30 (.load false 1),o1 32 4 .mv,o2 33 31 32 (.iaddr 5),o1 34 33 (.faddr false 4 1),o1 35 34 (.load false 1),k2 36 24 29 35,o2 37 23 36 (.bin .add),o1 3 37 .mv])) (.reg [o1 21 4 .mv,c2 22 21 (.int .i64 1) (.bin .add),o1 4 22 .mv])))))) (.seq (.seq (.reg [c1 5 (.int .i64 0) .mv]) (.block 2 (.loop (.seq (.seq (.reg [o1 38 5 .mv,o1 39 1 (.faddr false 5 1),o1 40 39 (.load false 1),o1 41 40 (.len false),o2 42 38 41 (.bin .lss)]) (.cond (.slot 42) .skip (.exit 2))) (.seq (.block 3 (.dreg [o1 45 3 .mv,o1 46 1 (.faddr false 5 1),o1 47 46 (.load false 1),o1 48 5 .mv,o2 49 47 48 (.iaddr 3),o1 50 49 (.faddr false 1 1),o1 51 50 (.load false 1),o1 52 1 (.faddr false 5 1),o1 53 52 (.load false 1),o1 54 5 .mv,o2 55 53 54 (.iaddr 3),o1 56 55 (.faddr false 2 1),o1 57 56 (.load false 1),k2 58 24 51 57,o2 59 45 58 (.bin .add),o1 3 59 .mv])) (.reg [o1 43 5 .mv,c2 44 43 (.int .i64 1) (.bin .add),o1 5 44 .mv])))))) (.seq (.reg [o1 60 3 .mv,c2 61 60 (.int .i64 1500) (.bin .leq),o1 2 61 .mv]) .ret))))))
theorem zif:z0j Tryz.prog 7 1=some ⟨62,1,[(.slot 2)],z9s⟩:=by kernel_rfl
def z9t:AC:=(.seq (.reg [c1 0 (.bool false) .mv]) (.seq (.reg [m_ 4 [k_ (.fn 25 []),k_ (.int .i64 1)] .call,m_ 5 [k_ (.fn 26 []),k_ (.int .i64 1),k_ (.int .i64 1)] .call,k2 6 9 4 5,o1 3 6 .mv,o1 7 3 (.extract 0),o1 8 3 (.extract 1),o0 1 (.alloc (.agg [(.int .i64 0),(.int .i64 0),(.int .i64 0),(.int .i64 0),.nilS,.nilS]) 6),n2 1 7 (.store 6),o1 2 8 .mv]) (.seq (.reg [o1 9 2 .mv,c2 10 9 (.int .i64 0) (.bin .eql),o1 11 10 .mv,g1 12 11 1 (.faddr false 2 1),g1 13 11 12 (.load false 1),g_ 14 11 true [s_ 13,k_ (.int .i64 3)] (.bin .eql),m_ 15 [s_ 11,s_ 14,k_ (.bool false)] .pick,o1 16 15 .mv,g1 17 16 1 (.faddr false 4 1),g1 18 16 17 (.load false 1),g1 19 16 18 (.len false),g_ 20 16 true [s_ 19,k_ (.int .i64 3)] (.bin .eql),m_ 21 [s_ 16,s_ 20,k_ (.bool false)] .pick,o1 22 21 .mv,g1 23 22 1 (.faddr false 4 1),g1 24 22 23 (.load false 1),g_ 25 22 true [s_ 24,k_ (.int .i64 1)] (.iaddr 5),g1 26 22 25 (.faddr false 1 1),g1 27 22 26 (.load false 1),g_ 28 22 true [s_ 27,k_ (.int .i64 2)] (.bin .eql),m_ 29 [s_ 22,s_ 28,k_ (.bool false)] .pick,o1 30 29 .mv,g1 31 30 1 (.faddr false 4 1),g1 32 30 31 (.load false 1),g_ 33 30 true [s_ 32,k_ (.int .i64 2)] (.iaddr 5),g1 34 30 33 (.faddr false 0 1),g1 35 30 34 (.load false 1),g_ 36 30 true [s_ 35,k_ (.int .i64 1)] (.bin .eql),m_ 37 [s_ 30,s_ 36,k_ (.bool false)] .pick,o1 38 37 .mv,g1 39 38 1 (.faddr false 4 1),g1 40 38 39 (.load false 1),g_ 41 38 true [s_ 40,k_ (.int .i64 2)] (.iaddr 5),g1 42 38 41 (.faddr false 3 1),g1 43 38 42 (.load false 1),g_ 44 38 true [s_ 43,k_ (.int .i64 1)] (.bin .eql),m_ 45 [s_ 38,s_ 44,k_ (.bool false)] .pick,o1 46 45 .mv,g1 47 46 1 (.faddr false 5 1),g1 48 46 47 (.load false 1),g1 49 46 48 (.len false),g_ 50 46 true [s_ 49,k_ (.int .i64 1)] (.bin .eql),m_ 51 [s_ 46,s_ 50,k_ (.bool false)] .pick,o1 52 51 .mv,g1 53 52 1 (.load true 6),g_ 54 52 true [k_ (.fn 23 []),s_ 53] .call,g_ 55 52 true [s_ 54,k_ (.int .i64 0)] (.bin .eql),m_ 56 [s_ 52,s_ 55,k_ (.bool false)] .pick,o1 0 56 .mv]) .ret)))
theorem zig:z0j Tryz.prog 8 0=some ⟨57,0,[(.slot 0)],z9t⟩:=by kernel_rfl
def z6t:AC:=(.seq (.reg [o1 2 0 .box,o1 3 1 .box,o0 4 (.alloc (.agg [(.int .i64 0),(.int .i64 0),(.int .i64 0),(.int .i64 0),.nilS,.nilS]) 6),c1 5 (.int .i64 0) .mv]) (.seq (.seq (.reg [o1 15 2 (.load true 6),k1 16 23 15,c2 17 16 (.int .i64 0) (.bin .neq),o1 18 17 .mv,g_ 19 18 false [s_ 3] (.load true 6),g_ 20 18 false [k_ (.fn 23 []),s_ 19] .call,g_ 21 18 false [s_ 20,k_ (.int .i64 0)] (.bin .neq),m_ 22 [s_ 18,k_ (.bool true),s_ 21] .pick,o1 23 22 .mv,g_ 24 23 false [s_ 2] (.faddr false 0 1),g_ 25 23 false [s_ 24] (.load false 1),g_ 26 23 false [s_ 3] (.faddr false 0 1),g_ 27 23 false [s_ 26] (.load false 1),g_ 28 23 false [s_ 25,s_ 27] (.bin .neq),m_ 29 [s_ 23,k_ (.bool true),s_ 28] .pick,o1 30 29 .mv,g_ 31 30 false [s_ 2] (.faddr false 1 1),g_ 32 30 false [s_ 31] (.load false 1),g_ 33 30 false [s_ 3] (.faddr false 1 1),g_ 34 30 false [s_ 33] (.load false 1),g_ 35 30 false [s_ 32,s_ 34] (.bin .neq),m_ 36 [s_ 30,k_ (.bool true),s_ 35] .pick]) (.cond (.slot 36) (.seq (.reg [o0 37 (.build [(.int .i64 0),(.int .i64 0),(.int .i64 0),(.int .i64 0),.nilS,.nilS] [(0,1),(1,1),(2,1),(3,1),(4,1),(5,1)] []),n2 4 37 (.store 6),c1 5 (.int .i64 2) .mv]) .ret) .skip)) (.seq (.reg [o1 38 2 (.faddr false 2 1),o1 39 38 (.load false 1),m_ 40 [k_ (.int .i64 1),s_ 39] (.bin .add),o1 41 3 (.faddr false 2 1),o1 42 41 (.load false 1),o2 43 40 42 (.bin .add),o1 6 43 .mv]) (.seq (.seq (.reg [o1 44 6 .mv,c2 45 44 (.int .i64 1024) (.bin .gtr),o1 46 45 .mv,g_ 47 46 false [s_ 2] (.faddr false 4 1),g_ 48 46 false [s_ 47] (.load false 1),g_ 49 46 false [s_ 48] (.len false),g_ 50 46 false [k_ (.int .i64 2),s_ 49] (.bin .add),g_ 51 46 false [s_ 3] (.faddr false 4 1),g_ 52 46 false [s_ 51] (.load false 1),g_ 53 46 false [s_ 52] (.len false),g_ 54 46 false [s_ 50,s_ 53] (.bin .add),g_ 55 46 false [s_ 54,k_ (.int .i64 4096)] (.bin .gtr),m_ 56 [s_ 46,k_ (.bool true),s_ 55] .pick,o1 57 56 .mv,g_ 58 57 false [s_ 2] (.faddr false 5 1),g_ 59 57 false [s_ 58] (.load false 1),g_ 60 57 false [s_ 59] (.len false),g_ 61 57 false [s_ 3] (.faddr false 5 1),g_ 62 57 false [s_ 61] (.load false 1),g_ 63 57 false [s_ 62] (.len false),g_ 64 57 false [s_ 60,s_ 63] (.bin .add),g_ 65 57 false [s_ 64,k_ (.int .i64 4096)] (.bin .gtr),m_ 66 [s_ 57,k_ (.bool true),s_ 65] .pick]) (.cond (.slot 66) (.seq (.reg [o0 67 (.build [(.int .i64 0),(.int .i64 0),(.int .i64 0),(.int .i64 0),.nilS,.nilS] [(0,1),(1,1),(2,1),(3,1),(4,1),(5,1)] []),n2 4 67 (.store 6),c1 5 (.int .i64 4) .mv]) .ret) .skip)) (.seq (.reg [o1 68 2 (.faddr false 0 1),o1 69 68 (.load false 1),o1 70 2 (.faddr false 1 1),o1 71 70 (.load false 1),o1 72 6 .mv,o3 73 69 71 72 (.build [(.int .i64 0),(.int .i64 0),(.int .i64 0),(.int .i64 0),.nilS,.nilS] [(0,1),(1,1),(2,1),(3,1),(4,1),(5,1)] [0,1,2]),o0 7 (.alloc (.agg [(.int .i64 0),(.int .i64 0),(.int .i64 0),(.int .i64 0),.nilS,.nilS]) 6),n2 7 73 (.store 6)]) (.seq (.reg [o1 74 2 (.faddr false 3 1),o1 75 74 (.load false 1),m_ 76 [k_ (.int .i64 1),s_ 75] (.bin .add),o1 77 76 (.build [(.int .i64 0),(.int .i64 0),.nilS,(.int .i64 0),.nilS] [(0,1),(1,1),(2,1),(3,1),(4,1)] [1]),o1 78 2 (.faddr false 2 1),o1 79 78 (.load false 1),m_ 80 [k_ (.int .i64 1),s_ 79] (.bin .add),o1 81 3 (.faddr false 3 1),o1 82 81 (.load false 1),o2 83 80 82 (.bin .add),o1 84 83 (.build [(.int .i64 0),(.int .i64 0),.nilS,(.int .i64 0),.nilS] [(0,1),(1,1),(2,1),(3,1),(4,1)] [1]),o2 85 77 84 (.bslice 5 2 (.agg [(.int .i64 0),(.int .i64 0),.nilS,(.int .i64 0),.nilS]) [0,1]),o1 86 7 (.faddr false 4 1),n2 86 85 (.store 1)]) (.seq (.seq (.reg [o1 87 2 (.load true 6),o1 88 3 (.load true 6),o2 89 87 88 (.build [(.int .i64 0),(.int .i64 0),(.int .i64 0),(.int .i64 0),.nilS,.nilS,(.int .i64 0),(.int .i64 0),(.int .i64 0),(.int .i64 0),.nilS,.nilS] [(0,6),(6,6)] [0,1]),c1 90 (.int .i64 0) .mv]) (.block 0 (.loop (.seq (.reg [c2 91 90 (.int .i64 2) (.bin .lss)]) (.seq (.cond (.slot 91) .skip (.exit 0)) (.seq (.block 1 (.seq (.reg [o1 92 90 .mv,o2 93 89 90 (.index 2 6 true),o0 9 (.alloc (.agg [(.int .i64 0),(.int .i64 0),(.int .i64 0),(.int .i64 0),.nilS,.nilS]) 6),o1 8 92 .mv,n2 9 93 (.store 6)]) (.seq (.reg [o1 94 8 .mv,o1 95 2 (.faddr false 2 1),o1 96 95 (.load false 1),o2 97 94 96 (.bin .mul),m_ 98 [k_ (.int .i64 1),s_ 97] (.bin .add),o1 10 98 .mv]) (.seq (.seq (.reg [o1 99 9 (.faddr false 4 1),o1 100 99 (.load false 1),o1 101 100 (.len false),c1 102 (.int .i64 0) .mv]) (.block 2 (.loop (.seq (.reg [o2 103 102 101 (.bin .lss)]) (.seq (.cond (.slot 103) .skip (.exit 2)) (.seq (.block 3 (.seq (.reg [o2 104 100 102 (.iaddr 5),o1 105 104 (.load true 5),o0 12 (.alloc (.agg [(.int .i64 0),(.int .i64 0),.nilS,(.int .i64 0),.nilS]) 5),n2 12 105 (.store 5)]) (.dtl [o1 106 7 (.faddr false 4 1),o1 107 106 (.load false 1),o1 108 12 (.faddr false 0 1),o1 109 108 (.load false 1),o1 110 10 .mv,o2 111 109 110 (.bin .add),o1 112 12 (.faddr false 1 1),o1 113 112 (.load false 1),o1 114 10 .mv,o2 115 113 114 (.bin .add),o1 116 12 (.faddr false 2 1),o1 117 116 (.load false 1),k1 118 27 117,o1 119 12 (.faddr false 3 1),o1 120 119 (.load false 1),o1 121 12 (.faddr false 4 1),o1 122 121 (.load false 1),k1 123 28 122,m_ 124 [s_ 111,s_ 115,s_ 118,s_ 120,s_ 123] (.build [(.int .i64 0),(.int .i64 0),.nilS,(.int .i64 0),.nilS] [(0,1),(1,1),(2,1),(3,1),(4,1)] [0,1,2,3,4]),o1 125 124 (.bslice 5 1 (.agg [(.int .i64 0),(.int .i64 0),.nilS,(.int .i64 0),.nilS]) [0])] [o2 126 107 125 (.app 5 72 (.agg [(.int .i64 0),(.int .i64 0),.nilS,(.int .i64 0),.nilS])),o1 127 7 (.faddr false 4 1),n2 127 126 (.store 1)]))) (.reg [c2 128 102 (.int .i64 1) (.bin .add),o1 102 128 .mv]))))))) (.seq (.reg [o1 129 9 (.faddr false 5 1),o1 130 129 (.load false 1),o1 131 130 (.len false),c1 132 (.int .i64 0) .mv]) (.block 4 (.loop (.seq (.reg [o2 133 132 131 (.bin .lss)]) (.seq (.cond (.slot 133) .skip (.exit 4)) (.seq (.block 5 (.seq (.reg [o2 134 130 132 (.iaddr 3),o1 135 134 (.load true 3),o0 14 (.alloc (.agg [(.int .i64 0),.nilS,.nilS]) 3),n2 14 135 (.store 3)]) (.dtl [o1 136 7 (.faddr false 5 1),o1 137 136 (.load false 1),o1 138 14 (.faddr false 0 1),o1 139 138 (.load false 1),o1 140 10 .mv,o2 141 139 140 (.bin .add),o1 142 14 (.faddr false 1 1),o1 143 142 (.load false 1),k1 144 27 143,o1 145 14 (.faddr false 2 1),o1 146 145 (.load false 1),k1 147 28 146,o3 148 141 144 147 (.build [(.int .i64 0),.nilS,.nilS] [(0,1),(1,1),(2,1)] [0,1,2]),o1 149 148 (.bslice 3 1 (.agg [(.int .i64 0),.nilS,.nilS]) [0])] [o2 150 137 149 (.app 3 56 (.agg [(.int .i64 0),.nilS,.nilS])),o1 151 7 (.faddr false 5 1),n2 151 150 (.store 1)]))) (.reg [c2 152 132 (.int .i64 1) (.bin .add),o1 132 152 .mv]))))))))))) (.reg [c2 153 90 (.int .i64 1) (.bin .add),o1 90 153 .mv]))))))) (.seq (.reg [o1 154 7 (.load true 6),n2 4 154 (.store 6),c1 5 (.int .i64 0) .mv]) .ret))))))))
theorem z96:z0j Tryz.prog 9 2=some ⟨155,2,[(.cell 4 true 6),(.slot 5)],z6t⟩:=by kernel_rfl
def z9u:AC:=(.seq (.reg [o1 1 0 .box,c1 2 (.bool false) .mv]) (.seq (.reg [o1 6 1 (.load true 6),k1 7 29 6,o1 5 7 .mv,o1 8 5 (.extract 0),o1 9 5 (.extract 1),o1 3 8 .mv,o1 4 9 .mv]) (.seq (.reg [o1 10 3 .mv,c2 11 10 (.int .i64 0) (.bin .eql),o1 2 11 .mv]) .ret)))
theorem zih:z0j Tryz.prog 10 1=some ⟨12,1,[(.slot 2)],z9u⟩:=by kernel_rfl
def zbm:AC:=(.seq (.reg [o1 2 0 .box,o1 3 1 .box,c1 4 (.bool false) .mv]) (.seq (.seq (.reg [o1 9 2 (.faddr false 0 1),o1 10 9 (.load false 1),o1 11 3 (.faddr false 0 1),o1 12 11 (.load false 1),o2 13 10 12 (.bin .neq),o1 14 13 .mv,g_ 15 14 false [s_ 2] (.faddr false 1 1),g_ 16 14 false [s_ 15] (.load false 1),g_ 17 14 false [s_ 3] (.faddr false 1 1),g_ 18 14 false [s_ 17] (.load false 1),g_ 19 14 false [s_ 16,s_ 18] (.bin .neq),m_ 20 [s_ 14,k_ (.bool true),s_ 19] .pick,o1 21 20 .mv,g_ 22 21 false [s_ 2] (.faddr false 2 1),g_ 23 21 false [s_ 22] (.load false 1),g_ 24 21 false [s_ 3] (.faddr false 2 1),g_ 25 21 false [s_ 24] (.load false 1),g_ 26 21 false [s_ 23,s_ 25] (.bin .neq),m_ 27 [s_ 21,k_ (.bool true),s_ 26] .pick,o1 28 27 .mv,g_ 29 28 false [s_ 2] (.faddr false 3 1),g_ 30 28 false [s_ 29] (.load false 1),g_ 31 28 false [s_ 3] (.faddr false 3 1),g_ 32 28 false [s_ 31] (.load false 1),g_ 33 28 false [s_ 30,s_ 32] (.bin .neq),m_ 34 [s_ 28,k_ (.bool true),s_ 33] .pick,o1 35 34 .mv,g_ 36 35 false [s_ 2] (.faddr false 4 1),g_ 37 35 false [s_ 36] (.load false 1),g_ 38 35 false [s_ 37] (.len false),g_ 39 35 false [s_ 3] (.faddr false 4 1),g_ 40 35 false [s_ 39] (.load false 1),g_ 41 35 false [s_ 40] (.len false),g_ 42 35 false [s_ 38,s_ 41] (.bin .neq),m_ 43 [s_ 35,k_ (.bool true),s_ 42] .pick,o1 44 43 .mv,g_ 45 44 false [s_ 2] (.faddr false 5 1),g_ 46 44 false [s_ 45] (.load false 1),g_ 47 44 false [s_ 46] (.len false),g_ 48 44 false [s_ 3] (.faddr false 5 1),g_ 49 44 false [s_ 48] (.load false 1),g_ 50 44 false [s_ 49] (.len false),g_ 51 44 false [s_ 47,s_ 50] (.bin .neq),m_ 52 [s_ 44,k_ (.bool true),s_ 51] .pick]) (.cond (.slot 52) (.seq (.reg [c1 4 (.bool false) .mv]) .ret) .skip)) (.seq (.seq (.reg [c1 5 (.int .i64 0) .mv]) (.block 0 (.loop (.seq (.seq (.reg [o1 53 5 .mv,o1 54 2 (.faddr false 4 1),o1 55 54 (.load false 1),o1 56 55 (.len false),o2 57 53 56 (.bin .lss)]) (.cond (.slot 57) .skip (.exit 0))) (.seq (.block 1 (.seq (.dtl [o1 60 2 (.faddr false 4 1),o1 61 60 (.load false 1),o1 62 5 .mv,o2 63 61 62 (.iaddr 5),o1 64 63 (.load true 5),o1 65 3 (.faddr false 4 1),o1 66 65 (.load false 1),o1 67 5 .mv,o2 68 66 67 (.iaddr 5),o1 69 68 (.load true 5)] [k2 70 30 64 69,o1 71 70 (.un .not)]) (.cond (.slot 71) (.seq (.reg [c1 4 (.bool false) .mv]) .ret) .skip))) (.reg [o1 58 5 .mv,c2 59 58 (.int .i64 1) (.bin .add),o1 5 59 .mv])))))) (.seq (.seq (.reg [c1 6 (.int .i64 0) .mv]) (.block 2 (.loop (.seq (.seq (.reg [o1 72 6 .mv,o1 73 2 (.faddr false 5 1),o1 74 73 (.load false 1),o1 75 74 (.len false),o2 76 72 75 (.bin .lss)]) (.cond (.slot 76) .skip (.exit 2))) (.seq (.block 3 (.seq (.gry [true,true,true,true,true,true,true,true,true,true,false,false,false,false] [m_ 79 [s_ 2] (.faddr false 5 1),m_ 80 [s_ 79] (.load false 1),m_ 81 [s_ 6] .mv,m_ 82 [s_ 80,s_ 81] (.iaddr 3),m_ 83 [s_ 82] (.load true 3),m_ 84 [s_ 3] (.faddr false 5 1),m_ 85 [s_ 84] (.load false 1),m_ 86 [s_ 6] .mv,m_ 87 [s_ 85,s_ 86] (.iaddr 3),m_ 88 [s_ 87] (.load true 3),m_ 7 [] (.alloc (.agg [(.int .i64 0),.nilS,.nilS]) 3),m_ 8 [] (.alloc (.agg [(.int .i64 0),.nilS,.nilS]) 3),h_ [s_ 7,s_ 83] (.store 3),h_ [s_ 8,s_ 88] (.store 3)]) (.seq (.reg [o1 89 7 (.faddr false 0 1),o1 90 89 (.load false 1),o1 91 8 (.faddr false 0 1),o1 92 91 (.load false 1),o2 93 90 92 (.bin .neq),o1 94 93 .mv,g_ 95 94 false [s_ 7] (.faddr false 1 1),g_ 96 94 false [s_ 95] (.load false 1),g_ 97 94 false [s_ 8] (.faddr false 1 1),g_ 98 94 false [s_ 97] (.load false 1),g_ 99 94 false [k_ (.fn 31 []),s_ 96,s_ 98] .call,g_ 100 94 false [s_ 99] (.un .not),m_ 101 [s_ 94,k_ (.bool true),s_ 100] .pick,o1 102 101 .mv,g_ 103 102 false [s_ 7] (.faddr false 2 1),g_ 104 102 false [s_ 103] (.load false 1),g_ 105 102 false [s_ 8] (.faddr false 2 1),g_ 106 102 false [s_ 105] (.load false 1),g_ 107 102 false [k_ (.fn 32 []),s_ 104,s_ 106] .call,g_ 108 102 false [s_ 107] (.un .not),m_ 109 [s_ 102,k_ (.bool true),s_ 108] .pick]) (.cond (.slot 109) (.seq (.reg [c1 4 (.bool false) .mv]) .ret) .skip)))) (.reg [o1 77 6 .mv,c2 78 77 (.int .i64 1) (.bin .add),o1 6 78 .mv])))))) (.seq (.reg [c1 4 (.bool true) .mv]) .ret)))))
theorem zl8:z0j Tryz.prog 11 2=some ⟨110,2,[(.slot 4)],zbm⟩:=by kernel_rfl
def zbn:AC:=(.seq (.reg [o1 2 0 .box,o1 3 1 .box,o0 4 (.alloc (.agg [(.int .i64 0),(.int .i64 0),(.int .i64 0),(.int .i64 0),.nilS,.nilS]) 6)]) (.seq (.reg [o1 14 2 (.faddr false 0 1),o1 15 14 (.load false 1),o1 16 2 (.faddr false 1 1),o1 17 16 (.load false 1),o1 18 2 (.faddr false 2 1),o1 19 18 (.load false 1),m_ 20 [k_ (.int .i64 1),s_ 19] (.bin .add),o1 21 3 (.faddr false 2 1),o1 22 21 (.load false 1),o2 23 20 22 (.bin .add),o3 24 15 17 23 (.build [(.int .i64 0),(.int .i64 0),(.int .i64 0),(.int .i64 0),.nilS,.nilS] [(0,1),(1,1),(2,1),(3,1),(4,1),(5,1)] [0,1,2]),o0 5 (.alloc (.agg [(.int .i64 0),(.int .i64 0),(.int .i64 0),(.int .i64 0),.nilS,.nilS]) 6),n2 5 24 (.store 6)]) (.seq (.reg [o1 25 5 (.faddr false 4 1),o1 26 25 (.load false 1),o1 27 2 (.faddr false 3 1),o1 28 27 (.load false 1),m_ 29 [k_ (.int .i64 1),s_ 28] (.bin .add),o1 30 29 (.build [(.int .i64 0),(.int .i64 0),.nilS,(.int .i64 0),.nilS] [(0,1),(1,1),(2,1),(3,1),(4,1)] [1]),o1 31 2 (.faddr false 2 1),o1 32 31 (.load false 1),m_ 33 [k_ (.int .i64 1),s_ 32] (.bin .add),o1 34 3 (.faddr false 3 1),o1 35 34 (.load false 1),o2 36 33 35 (.bin .add),o1 37 36 (.build [(.int .i64 0),(.int .i64 0),.nilS,(.int .i64 0),.nilS] [(0,1),(1,1),(2,1),(3,1),(4,1)] [1]),o2 38 30 37 (.bslice 5 2 (.agg [(.int .i64 0),(.int .i64 0),.nilS,(.int .i64 0),.nilS]) [0,1]),o2 39 26 38 (.app 5 72 (.agg [(.int .i64 0),(.int .i64 0),.nilS,(.int .i64 0),.nilS])),o1 40 5 (.faddr false 4 1),n2 40 39 (.store 1)]) (.seq (.seq (.reg [c1 6 (.int .i64 0) .mv]) (.block 0 (.loop (.seq (.seq (.reg [o1 41 6 .mv,o1 42 2 (.faddr false 4 1),o1 43 42 (.load false 1),o1 44 43 (.len false),o2 45 41 44 (.bin .lss)]) (.cond (.slot 45) .skip (.exit 0))) (.seq (.block 1 (.seq (.reg [o1 48 2 (.faddr false 4 1),o1 49 48 (.load false 1),o1 50 6 .mv,o2 51 49 50 (.iaddr 5),o1 52 51 (.load true 5),o0 7 (.alloc (.agg [(.int .i64 0),(.int .i64 0),.nilS,(.int .i64 0),.nilS]) 5),n2 7 52 (.store 5)]) (.seq (.reg [o1 53 7 (.faddr false 0 1),o1 54 53 (.load false 1),c2 55 54 (.int .i64 1) (.bin .add),o1 56 7 (.faddr false 0 1),n2 56 55 (.store 1)]) (.seq (.reg [o1 57 7 (.faddr false 1 1),o1 58 57 (.load false 1),c2 59 58 (.int .i64 1) (.bin .add),o1 60 7 (.faddr false 1 1),n2 60 59 (.store 1)]) (.reg [o1 61 5 (.faddr false 4 1),o1 62 61 (.load false 1),o1 63 7 (.load true 5),o1 64 63 (.bslice 5 1 (.agg [(.int .i64 0),(.int .i64 0),.nilS,(.int .i64 0),.nilS]) [0]),o2 65 62 64 (.app 5 72 (.agg [(.int .i64 0),(.int .i64 0),.nilS,(.int .i64 0),.nilS])),o1 66 5 (.faddr false 4 1),n2 66 65 (.store 1)]))))) (.reg [o1 46 6 .mv,c2 47 46 (.int .i64 1) (.bin .add),o1 6 47 .mv])))))) (.seq (.seq (.reg [c1 8 (.int .i64 0) .mv]) (.block 2 (.loop (.seq (.seq (.reg [o1 67 8 .mv,o1 68 3 (.faddr false 4 1),o1 69 68 (.load false 1),o1 70 69 (.len false),o2 71 67 70 (.bin .lss)]) (.cond (.slot 71) .skip (.exit 2))) (.seq (.block 3 (.seq (.reg [o1 74 3 (.faddr false 4 1),o1 75 74 (.load false 1),o1 76 8 .mv,o2 77 75 76 (.iaddr 5),o1 78 77 (.load true 5),o0 9 (.alloc (.agg [(.int .i64 0),(.int .i64 0),.nilS,(.int .i64 0),.nilS]) 5),n2 9 78 (.store 5)]) (.seq (.reg [o1 79 9 (.faddr false 0 1),o1 80 79 (.load false 1),c2 81 80 (.int .i64 1) (.bin .add),o1 82 2 (.faddr false 2 1),o1 83 82 (.load false 1),o2 84 81 83 (.bin .add),o1 85 9 (.faddr false 0 1),n2 85 84 (.store 1)]) (.seq (.reg [o1 86 9 (.faddr false 1 1),o1 87 86 (.load false 1),c2 88 87 (.int .i64 1) (.bin .add),o1 89 2 (.faddr false 2 1),o1 90 89 (.load false 1),o2 91 88 90 (.bin .add),o1 92 9 (.faddr false 1 1),n2 92 91 (.store 1)]) (.reg [o1 93 5 (.faddr false 4 1),o1 94 93 (.load false 1),o1 95 9 (.load true 5),o1 96 95 (.bslice 5 1 (.agg [(.int .i64 0),(.int .i64 0),.nilS,(.int .i64 0),.nilS]) [0]),o2 97 94 96 (.app 5 72 (.agg [(.int .i64 0),(.int .i64 0),.nilS,(.int .i64 0),.nilS])),o1 98 5 (.faddr false 4 1),n2 98 97 (.store 1)]))))) (.reg [o1 72 8 .mv,c2 73 72 (.int .i64 1) (.bin .add),o1 8 73 .mv])))))) (.seq (.seq (.reg [c1 10 (.int .i64 0) .mv]) (.block 4 (.loop (.seq (.seq (.reg [o1 99 10 .mv,o1 100 2 (.faddr false 5 1),o1 101 100 (.load false 1),o1 102 101 (.len false),o2 103 99 102 (.bin .lss)]) (.cond (.slot 103) .skip (.exit 4))) (.seq (.block 5 (.seq (.reg [o1 106 2 (.faddr false 5 1),o1 107 106 (.load false 1),o1 108 10 .mv,o2 109 107 108 (.iaddr 3),o1 110 109 (.load true 3),o0 11 (.alloc (.agg [(.int .i64 0),.nilS,.nilS]) 3),n2 11 110 (.store 3)]) (.seq (.reg [o1 111 11 (.faddr false 0 1),o1 112 111 (.load false 1),c2 113 112 (.int .i64 1) (.bin .add),o1 114 11 (.faddr false 0 1),n2 114 113 (.store 1)]) (.reg [o1 115 5 (.faddr false 5 1),o1 116 115 (.load false 1),o1 117 11 (.load true 3),o1 118 117 (.bslice 3 1 (.agg [(.int .i64 0),.nilS,.nilS]) [0]),o2 119 116 118 (.app 3 56 (.agg [(.int .i64 0),.nilS,.nilS])),o1 120 5 (.faddr false 5 1),n2 120 119 (.store 1)])))) (.reg [o1 104 10 .mv,c2 105 104 (.int .i64 1) (.bin .add),o1 10 105 .mv])))))) (.seq (.seq (.reg [c1 12 (.int .i64 0) .mv]) (.block 6 (.loop (.seq (.seq (.reg [o1 121 12 .mv,o1 122 3 (.faddr false 5 1),o1 123 122 (.load false 1),o1 124 123 (.len false),o2 125 121 124 (.bin .lss)]) (.cond (.slot 125) .skip (.exit 6))) (.seq (.block 7 (.seq (.reg [o1 128 3 (.faddr false 5 1),o1 129 128 (.load false 1),o1 130 12 .mv,o2 131 129 130 (.iaddr 3),o1 132 131 (.load true 3),o0 13 (.alloc (.agg [(.int .i64 0),.nilS,.nilS]) 3),n2 13 132 (.store 3)]) (.seq (.reg [o1 133 13 (.faddr false 0 1),o1 134 133 (.load false 1),c2 135 134 (.int .i64 1) (.bin .add),o1 136 2 (.faddr false 2 1),o1 137 136 (.load false 1),o2 138 135 137 (.bin .add),o1 139 13 (.faddr false 0 1),n2 139 138 (.store 1)]) (.reg [o1 140 5 (.faddr false 5 1),o1 141 140 (.load false 1),o1 142 13 (.load true 3),o1 143 142 (.bslice 3 1 (.agg [(.int .i64 0),.nilS,.nilS]) [0]),o2 144 141 143 (.app 3 56 (.agg [(.int .i64 0),.nilS,.nilS])),o1 145 5 (.faddr false 5 1),n2 145 144 (.store 1)])))) (.reg [o1 126 12 .mv,c2 127 126 (.int .i64 1) (.bin .add),o1 12 127 .mv])))))) (.seq (.reg [o1 146 5 (.load true 6),n2 4 146 (.store 6)]) .ret))))))))
theorem zl9:z0j Tryz.prog 12 2=some ⟨147,2,[(.cell 4 true 6)],zbn⟩:=by kernel_rfl
def zbo:AC:=(.seq (.reg [o1 1 0 .box,c1 2 (.int .i64 0) .mv]) (.seq (.seq (.reg [o1 6 1 (.load true 6),k1 7 48 6,o1 5 7 .mv,o1 8 5 (.extract 0),o1 9 5 (.extract 1),o1 3 8 .mv,o1 4 9 .mv]) (.seq (.reg [o1 10 3 .mv,c2 11 10 (.int .i64 0) (.bin .neq)]) (.cond (.slot 11) (.seq (.reg [c1 2 (.int .i64 2) .mv]) .ret) .skip))) (.seq (.reg [c1 2 (.int .i64 0) .mv]) .ret)))
theorem zla:z0j Tryz.prog 23 1=some ⟨12,1,[(.slot 2)],zbo⟩:=by kernel_rfl
def zbp:AC:=(.seq (.reg [c1 4 (.int .i64 0) .mv]) (.seq (.seq (.reg [o1 8 0 .mv,o1 9 8 (.len false),c2 10 9 (.int .i64 100) (.bin .gtr),o1 11 10 .mv,g_ 12 11 false [s_ 1] .mv,g_ 13 11 false [s_ 12] (.len false),g_ 14 11 false [s_ 13,k_ (.int .i64 200)] (.bin .gtr),m_ 15 [s_ 11,k_ (.bool true),s_ 14] .pick]) (.cond (.slot 15) (.seq (.reg [c1 4 (.int .i64 4000) .mv]) .ret) .skip)) (.seq (.reg [c1 5 (.int .i64 1) .mv]) (.seq (.seq (.reg [c1 6 (.int .i64 0) .mv]) (.block 0 (.loop (.seq (.seq (.reg [o1 16 6 .mv,o1 17 0 .mv,o1 18 17 (.len false),o2 19 16 18 (.bin .lss)]) (.cond (.slot 19) .skip (.exit 0))) (.seq (.block 1 (.reg [o1 22 5 .mv,o1 23 0 .mv,o1 24 6 .mv,o2 25 23 24 (.iaddr 1),o1 26 25 (.load false 1),o1 27 26 (.len false),c2 28 27 (.int .i64 4000) .min,o2 29 22 28 (.bin .add),o1 5 29 .mv])) (.reg [o1 20 6 .mv,c2 21 20 (.int .i64 1) (.bin .add),o1 6 21 .mv])))))) (.seq (.seq (.reg [c1 7 (.int .i64 0) .mv]) (.block 2 (.loop (.seq (.seq (.reg [o1 30 7 .mv,o1 31 1 .mv,o1 32 31 (.len false),o2 33 30 32 (.bin .lss)]) (.cond (.slot 33) .skip (.exit 2))) (.seq (.block 3 (.reg [o1 36 5 .mv,c2 37 36 (.int .i64 1) (.bin .add),o1 38 1 .mv,o1 39 7 .mv,o2 40 38 39 (.iaddr 6),o1 41 40 (.faddr false 5 1),o1 42 41 (.load false 1),o1 43 42 (.len false),c2 44 43 (.int .i64 4000) .min,o2 45 37 44 (.bin .add),o1 5 45 .mv])) (.reg [o1 34 7 .mv,c2 35 34 (.int .i64 1) (.bin .add),o1 7 35 .mv])))))) (.seq (.reg [o1 46 5 .mv,o1 4 46 .mv]) .ret))))))
theorem zlb:z0j Tryz.prog 24 2=some ⟨47,2,[(.slot 4)],zbp⟩:=by kernel_rfl
def zdt:AC:=(.seq (.reg [o0 2 (.alloc (.agg [(.int .i64 0),(.int .i64 0),(.int .i64 0),(.int .i64 0),.nilS,.nilS]) 6)]) (.seq (.reg [o1 4 0 .mv,o1 5 0 .mv,k2 6 26 4 5,o0 3 (.alloc (.agg [(.int .i64 0),(.int .i64 0),(.int .i64 0),(.int .i64 0),.nilS,.nilS]) 6),n2 3 6 (.store 6)]) (.seq (.reg [o1 7 0 .mv,k1 8 49 7,o1 9 8 (.bslice 1 1 .nilS [0]),m_ 10 [k_ (.fn 50 []),k_ (.int .i64 0),k_ (.int .i64 0)] .call,o1 11 10 (.bslice 6 1 (.agg [(.int .i64 0),(.int .i64 0),(.int .i64 0),(.int .i64 0),(.int .i64 0),.nilS]) [0]),m_ 12 [s_ 9,k_ (.int .i64 1),s_ 11] (.build [(.int .i64 0),(.int .i64 0),.nilS,(.int .i64 0),.nilS] [(0,1),(1,1),(2,1),(3,1),(4,1)] [2,3,4]),o1 13 12 (.bslice 5 1 (.agg [(.int .i64 0),(.int .i64 0),.nilS,(.int .i64 0),.nilS]) [0]),o1 14 3 (.faddr false 4 1),n2 14 13 (.store 1)]) (.seq (.reg [o0 15 (.build [(.int .i64 0),.nilS,.nilS] [(0,1),(1,1),(2,1)] []),o1 16 15 (.bslice 3 1 (.agg [(.int .i64 0),.nilS,.nilS]) [0]),o1 17 3 (.faddr false 5 1),n2 17 16 (.store 1)]) (.seq (.reg [o1 18 3 (.load true 6),n2 2 18 (.store 6)]) .ret)))))
theorem zno:z0j Tryz.prog 25 1=some ⟨19,1,[(.cell 2 true 6)],zdt⟩:=by kernel_rfl
def zbq:AC:=(.seq (.reg [o0 4 (.alloc (.agg [(.int .i64 0),(.int .i64 0),(.int .i64 0),(.int .i64 0),.nilS,.nilS]) 6)]) (.seq (.reg [o1 5 0 .mv,o1 6 1 .mv,m_ 7 [s_ 5,s_ 6,k_ (.int .i64 1)] (.build [(.int .i64 0),(.int .i64 0),(.int .i64 0),(.int .i64 0),.nilS,.nilS] [(0,1),(1,1),(2,1),(3,1),(4,1),(5,1)] [0,1,2]),n2 4 7 (.store 6)]) .ret))
theorem zlc:z0j Tryz.prog 26 2=some ⟨8,2,[(.cell 4 true 6)],zbq⟩:=by kernel_rfl
def z9v:AC:=(.seq (.reg [c1 2 .nilS .mv]) (.seq (.reg [c1 3 .nilS .mv]) (.seq (.seq (.reg [o1 6 0 .mv,o1 7 6 (.len false),c1 8 (.int .i64 0) .mv]) (.block 0 (.loop (.seq (.reg [o2 9 8 7 (.bin .lss)]) (.seq (.cond (.slot 9) .skip (.exit 0)) (.seq (.block 1 (.seq (.reg [o2 10 6 8 (.iaddr 1),o1 11 10 (.load false 1),o1 5 11 .mv]) (.reg [o1 12 3 .mv,o1 13 5 .mv,k1 14 51 13,o1 15 14 (.bslice 1 1 .nilS [0]),o2 16 12 15 (.app 1 24 .nilS),o1 3 16 .mv]))) (.reg [c2 17 8 (.int .i64 1) (.bin .add),o1 8 17 .mv]))))))) (.seq (.reg [o1 18 3 .mv,o1 2 18 .mv]) .ret))))
theorem zii:z0j Tryz.prog 27 1=some ⟨19,1,[(.slot 2)],z9v⟩:=by kernel_rfl
def zbr:AC:=(.seq (.reg [c1 2 .nilS .mv]) (.seq (.reg [c1 3 .nilS .mv]) (.seq (.seq (.reg [o1 6 0 .mv,o1 7 6 (.len false),c1 8 (.int .i64 0) .mv]) (.block 0 (.loop (.seq (.reg [o2 9 8 7 (.bin .lss)]) (.seq (.cond (.slot 9) .skip (.exit 0)) (.seq (.block 1 (.seq (.reg [o2 10 6 8 (.iaddr 6),o1 11 10 (.load true 6),o0 5 (.alloc (.agg [(.int .i64 0),(.int .i64 0),(.int .i64 0),(.int .i64 0),(.int .i64 0),.nilS]) 6),n2 5 11 (.store 6)]) (.seq (.reg [o1 12 5 (.faddr false 5 1),o1 13 12 (.load false 1),k1 14 52 13,o1 15 5 (.faddr false 5 1),n2 15 14 (.store 1)]) (.reg [o1 16 3 .mv,o1 17 5 (.load true 6),o1 18 17 (.bslice 6 1 (.agg [(.int .i64 0),(.int .i64 0),(.int .i64 0),(.int .i64 0),(.int .i64 0),.nilS]) [0]),o2 19 16 18 (.app 6 64 (.agg [(.int .i64 0),(.int .i64 0),(.int .i64 0),(.int .i64 0),(.int .i64 0),.nilS])),o1 3 19 .mv])))) (.reg [c2 20 8 (.int .i64 1) (.bin .add),o1 8 20 .mv]))))))) (.seq (.reg [o1 21 3 .mv,o1 2 21 .mv]) .ret))))
theorem zld:z0j Tryz.prog 28 1=some ⟨22,1,[(.slot 2)],zbr⟩:=by kernel_rfl
def z9w:AC:=(.seq (.reg [o1 1 0 .box,c1 2 (.int .i64 0) .mv,c1 3 (.int .i64 0) .mv]) (.seq (.seq (.reg [o1 10 1 (.faddr false 0 1),o1 11 10 (.load false 1),c2 12 11 (.int .i64 1) (.bin .neq),o1 13 12 .mv,g1 14 13 1 (.faddr false 0 1),g1 15 13 14 (.load false 1),g_ 16 13 true [s_ 15,k_ (.int .i64 2)] (.bin .neq),m_ 17 [s_ 13,s_ 16,k_ (.bool false)] .pick,o1 18 17 .mv,g_ 19 18 false [s_ 1] (.faddr false 1 1),g_ 20 18 false [s_ 19] (.load false 1),g_ 21 18 false [s_ 20,k_ (.int .i64 1)] (.bin .neq),g_ 22 18 false [s_ 21] .mv,g1 23 22 1 (.faddr false 1 1),g1 24 22 23 (.load false 1),g_ 25 22 true [s_ 24,k_ (.int .i64 2)] (.bin .neq),g_ 26 18 false [s_ 22,s_ 25,k_ (.bool false)] .pick,m_ 27 [s_ 18,k_ (.bool true),s_ 26] .pick,o1 28 27 .mv,g_ 29 28 false [s_ 1] (.faddr false 2 1),g_ 30 28 false [s_ 29] (.load false 1),g_ 31 28 false [s_ 30,k_ (.int .i64 1)] (.bin .lss),m_ 32 [s_ 28,k_ (.bool true),s_ 31] .pick,o1 33 32 .mv,g_ 34 33 false [s_ 1] (.faddr false 2 1),g_ 35 33 false [s_ 34] (.load false 1),g_ 36 33 false [s_ 35,k_ (.int .i64 1024)] (.bin .gtr),m_ 37 [s_ 33,k_ (.bool true),s_ 36] .pick,o1 38 37 .mv,g_ 39 38 false [s_ 1] (.faddr false 3 1),g_ 40 38 false [s_ 39] (.load false 1),g_ 41 38 false [s_ 40,k_ (.int .i64 0)] (.bin .lss),m_ 42 [s_ 38,k_ (.bool true),s_ 41] .pick,o1 43 42 .mv,g_ 44 43 false [s_ 1] (.faddr false 3 1),g_ 45 43 false [s_ 44] (.load false 1),g_ 46 43 false [s_ 1] (.faddr false 2 1),g_ 47 43 false [s_ 46] (.load false 1),g_ 48 43 false [s_ 45,s_ 47] (.bin .geq),m_ 49 [s_ 43,k_ (.bool true),s_ 48] .pick,o1 50 49 .mv,g_ 51 50 false [s_ 1] (.faddr false 4 1),g_ 52 50 false [s_ 51] (.load false 1),g_ 53 50 false [s_ 52] (.len false),g_ 54 50 false [s_ 53,k_ (.int .i64 4096)] (.bin .gtr),m_ 55 [s_ 50,k_ (.bool true),s_ 54] .pick,o1 56 55 .mv,g_ 57 56 false [s_ 1] (.faddr false 5 1),g_ 58 56 false [s_ 57] (.load false 1),g_ 59 56 false [s_ 58] (.len false),g_ 60 56 false [s_ 59,k_ (.int .i64 4096)] (.bin .gtr),m_ 61 [s_ 56,k_ (.bool true),s_ 60] .pick]) (.cond (.slot 61) (.seq (.reg [c1 2 (.int .i64 1) .mv,c1 3 (.int .i64 0) .mv]) .ret) .skip)) (.seq (.seq (.reg [c1 4 (.int .i64 0) .mv]) (.block 0 (.loop (.seq (.seq (.reg [o1 62 4 .mv,o1 63 1 (.faddr false 4 1),o1 64 63 (.load false 1),o1 65 64 (.len false),o2 66 62 65 (.bin .lss)]) (.cond (.slot 66) .skip (.exit 0))) (.seq (.block 1 (.seq (.reg [o1 69 1 (.faddr false 4 1),o1 70 69 (.load false 1),o1 71 4 .mv,o2 72 70 71 (.iaddr 5),o1 73 72 (.load true 5),o0 5 (.alloc (.agg [(.int .i64 0),(.int .i64 0),.nilS,(.int .i64 0),.nilS]) 5),n2 5 73 (.store 5)]) (.seq (.reg [o1 74 5 (.faddr false 2 1),o1 75 74 (.load false 1),o1 76 75 (.len false),o1 6 76 .mv]) (.seq (.reg [o1 77 6 .mv,c2 78 77 (.int .i64 0) (.bin .eql),o1 79 78 .mv,g1 80 79 5 (.faddr false 3 1),g1 81 79 80 (.load false 1),g_ 82 79 true [s_ 81,k_ (.int .i64 0)] (.bin .eql),m_ 83 [s_ 79,s_ 82,k_ (.bool false)] .pick,o1 84 83 .mv,g_ 85 84 false [s_ 5] (.faddr false 3 1),g_ 86 84 false [s_ 85] (.load false 1),g_ 87 84 false [s_ 86,k_ (.int .i64 1)] (.bin .geq),g_ 88 84 false [s_ 87] .mv,g1 89 88 5 (.faddr false 3 1),g1 90 88 89 (.load false 1),g1 91 88 6 .mv,g2 92 88 90 91 (.bin .leq),g_ 93 84 false [s_ 88,s_ 92,k_ (.bool false)] .pick,m_ 94 [s_ 84,k_ (.bool true),s_ 93] .pick,o1 7 94 .mv]) (.seq (.reg [o1 95 5 (.faddr false 0 1),o1 96 95 (.load false 1),c2 97 96 (.int .i64 0) (.bin .lss),o1 98 97 .mv,g_ 99 98 false [s_ 5] (.faddr false 0 1),g_ 100 98 false [s_ 99] (.load false 1),g_ 101 98 false [s_ 1] (.faddr false 2 1),g_ 102 98 false [s_ 101] (.load false 1),g_ 103 98 false [s_ 100,s_ 102] (.bin .geq),m_ 104 [s_ 98,k_ (.bool true),s_ 103] .pick,o1 105 104 .mv,g_ 106 105 false [s_ 5] (.faddr false 1 1),g_ 107 105 false [s_ 106] (.load false 1),g_ 108 105 false [s_ 107,k_ (.int .i64 0)] (.bin .lss),m_ 109 [s_ 105,k_ (.bool true),s_ 108] .pick,o1 110 109 .mv,g_ 111 110 false [s_ 5] (.faddr false 1 1),g_ 112 110 false [s_ 111] (.load false 1),g_ 113 110 false [s_ 1] (.faddr false 2 1),g_ 114 110 false [s_ 113] (.load false 1),g_ 115 110 false [s_ 112,s_ 114] (.bin .geq),m_ 116 [s_ 110,k_ (.bool true),s_ 115] .pick,o1 117 116 .mv,g_ 118 117 false [s_ 7] .mv,g_ 119 117 false [s_ 118] (.un .not),m_ 120 [s_ 117,k_ (.bool true),s_ 119] .pick,o1 121 120 .mv,g_ 122 121 false [s_ 1] (.faddr false 0 1),g_ 123 121 false [s_ 122] (.load false 1),g_ 124 121 false [s_ 5] (.faddr false 2 1),g_ 125 121 false [s_ 124] (.load false 1),g_ 126 121 false [k_ (.fn 53 []),s_ 123,s_ 125] .call,g_ 127 121 false [s_ 126] (.un .not),m_ 128 [s_ 121,k_ (.bool true),s_ 127] .pick,o1 129 128 .mv,g_ 130 129 false [s_ 1] (.load true 6),g_ 131 129 false [s_ 5] (.faddr false 4 1),g_ 132 129 false [s_ 131] (.load false 1),g_ 133 129 false [s_ 5] (.faddr false 2 1),g_ 134 129 false [s_ 133] (.load false 1),g_ 135 129 false [k_ (.fn 54 []),s_ 130,s_ 132,s_ 134] .call,g_ 136 129 false [s_ 135] (.un .not),m_ 137 [s_ 129,k_ (.bool true),s_ 136] .pick]) (.cond (.slot 137) (.seq (.reg [o1 138 4 .mv,c1 2 (.int .i64 2) .mv,o1 3 138 .mv]) .ret) .skip)))))) (.reg [o1 67 4 .mv,c2 68 67 (.int .i64 1) (.bin .add),o1 4 68 .mv])))))) (.seq (.seq (.reg [c1 8 (.int .i64 0) .mv]) (.block 2 (.loop (.seq (.seq (.reg [o1 139 8 .mv,o1 140 1 (.faddr false 5 1),o1 141 140 (.load false 1),o1 142 141 (.len false),o2 143 139 142 (.bin .lss)]) (.cond (.slot 143) .skip (.exit 2))) (.seq (.block 3 (.seq (.reg [o1 146 1 (.faddr false 5 1),o1 147 146 (.load false 1),o1 148 8 .mv,o2 149 147 148 (.iaddr 3),o1 150 149 (.load true 3),o0 9 (.alloc (.agg [(.int .i64 0),.nilS,.nilS]) 3),n2 9 150 (.store 3)]) (.seq (.reg [o1 151 9 (.faddr false 0 1),o1 152 151 (.load false 1),c2 153 152 (.int .i64 0) (.bin .lss),o1 154 153 .mv,g_ 155 154 false [s_ 9] (.faddr false 0 1),g_ 156 154 false [s_ 155] (.load false 1),g_ 157 154 false [s_ 1] (.faddr false 2 1),g_ 158 154 false [s_ 157] (.load false 1),g_ 159 154 false [s_ 156,s_ 158] (.bin .geq),m_ 160 [s_ 154,k_ (.bool true),s_ 159] .pick,o1 161 160 .mv,g_ 162 161 false [s_ 1] (.faddr false 0 1),g_ 163 161 false [s_ 162] (.load false 1),g_ 164 161 false [s_ 9] (.faddr false 1 1),g_ 165 161 false [s_ 164] (.load false 1),g_ 166 161 false [k_ (.fn 53 []),s_ 163,s_ 165] .call,g_ 167 161 false [s_ 166] (.un .not),m_ 168 [s_ 161,k_ (.bool true),s_ 167] .pick,o1 169 168 .mv,g_ 170 169 false [s_ 1] (.load true 6),g_ 171 169 false [s_ 9] (.faddr false 2 1),g_ 172 169 false [s_ 171] (.load false 1),g_ 173 169 false [s_ 9] (.faddr false 1 1),g_ 174 169 false [s_ 173] (.load false 1),g_ 175 169 false [k_ (.fn 54 []),s_ 170,s_ 172,s_ 174] .call,g_ 176 169 false [s_ 175] (.un .not),m_ 177 [s_ 169,k_ (.bool true),s_ 176] .pick]) (.cond (.slot 177) (.seq (.reg [o1 178 8 .mv,c1 2 (.int .i64 3) .mv,o1 3 178 .mv]) .ret) .skip)))) (.reg [o1 144 8 .mv,c2 145 144 (.int .i64 1) (.bin .add),o1 8 145 .mv])))))) (.seq (.seq (.reg [o1 179 1 (.load true 6),k1 180 55 179]) (.cond (.slot 180) (.seq (.reg [c1 2 (.int .i64 4) .mv,c1 3 (.int .i64 0) .mv]) .ret) .skip)) (.seq (.reg [c1 2 (.int .i64 0) .mv,c1 3 (.int .i64 0) .mv]) .ret))))))
theorem zij:z0j Tryz.prog 29 1=some ⟨181,1,[(.slot 2),(.slot 3)],z9w⟩:=by kernel_rfl
def z71:AC:=(.seq (.reg [o1 2 0 .box,o1 3 1 .box,c1 4 (.bool false) .mv]) (.seq (.reg [o1 5 2 (.faddr false 0 1),o1 6 5 (.load false 1),o1 7 3 (.faddr false 0 1),o1 8 7 (.load false 1),o2 9 6 8 (.bin .eql),o1 10 9 .mv,g1 11 10 2 (.faddr false 1 1),g1 12 10 11 (.load false 1),g1 13 10 3 (.faddr false 1 1),g1 14 10 13 (.load false 1),g2 15 10 12 14 (.bin .eql),m_ 16 [s_ 10,s_ 15,k_ (.bool false)] .pick,o1 17 16 .mv,g1 18 17 2 (.faddr false 3 1),g1 19 17 18 (.load false 1),g1 20 17 3 (.faddr false 3 1),g1 21 17 20 (.load false 1),g2 22 17 19 21 (.bin .eql),m_ 23 [s_ 17,s_ 22,k_ (.bool false)] .pick,o1 24 23 .mv,g1 25 24 2 (.faddr false 2 1),g1 26 24 25 (.load false 1),g1 27 24 3 (.faddr false 2 1),g1 28 24 27 (.load false 1),g_ 29 24 true [k_ (.fn 31 []),s_ 26,s_ 28] .call,m_ 30 [s_ 24,s_ 29,k_ (.bool false)] .pick,o1 31 30 .mv,g1 32 31 2 (.faddr false 4 1),g1 33 31 32 (.load false 1),g1 34 31 3 (.faddr false 4 1),g1 35 31 34 (.load false 1),g_ 36 31 true [k_ (.fn 32 []),s_ 33,s_ 35] .call,m_ 37 [s_ 31,s_ 36,k_ (.bool false)] .pick,o1 4 37 .mv]) .ret))
theorem zcl:z0j Tryz.prog 30 2=some ⟨38,2,[(.slot 4)],z71⟩:=by kernel_rfl
def z72:AC:=(.seq (.reg [c1 4 (.bool false) .mv]) (.seq (.seq (.reg [o1 6 0 .mv,o1 7 6 (.len false),o1 8 1 .mv,o1 9 8 (.len false),o2 10 7 9 (.bin .neq)]) (.cond (.slot 10) (.seq (.reg [c1 4 (.bool false) .mv]) .ret) .skip)) (.seq (.seq (.reg [c1 5 (.int .i64 0) .mv]) (.block 0 (.loop (.seq (.seq (.reg [o1 11 5 .mv,o1 12 0 .mv,o1 13 12 (.len false),o2 14 11 13 (.bin .lss)]) (.cond (.slot 14) .skip (.exit 0))) (.seq (.block 1 (.seq (.dtl [o1 17 0 .mv,o1 18 5 .mv,o2 19 17 18 (.iaddr 1),o1 20 19 (.load false 1),o1 21 1 .mv,o1 22 5 .mv,o2 23 21 22 (.iaddr 1),o1 24 23 (.load false 1)] [k2 25 56 20 24,o1 26 25 (.un .not)]) (.cond (.slot 26) (.seq (.reg [c1 4 (.bool false) .mv]) .ret) .skip))) (.reg [o1 15 5 .mv,c2 16 15 (.int .i64 1) (.bin .add),o1 5 16 .mv])))))) (.seq (.reg [c1 4 (.bool true) .mv]) .ret))))
theorem zcm:z0j Tryz.prog 31 2=some ⟨27,2,[(.slot 4)],z72⟩:=by kernel_rfl
def z69:AC:=(.seq (.reg [c1 4 (.bool false) .mv]) (.seq (.seq (.reg [o1 6 0 .mv,o1 7 6 (.len false),o1 8 1 .mv,o1 9 8 (.len false),o2 10 7 9 (.bin .neq)]) (.cond (.slot 10) (.seq (.reg [c1 4 (.bool false) .mv]) .ret) .skip)) (.seq (.seq (.reg [c1 5 (.int .i64 0) .mv]) (.block 0 (.loop (.seq (.seq (.reg [o1 11 5 .mv,o1 12 0 .mv,o1 13 12 (.len false),o2 14 11 13 (.bin .lss)]) (.cond (.slot 14) .skip (.exit 0))) (.seq (.block 1 (.seq (.dtl [o1 17 0 .mv,o1 18 5 .mv,o2 19 17 18 (.iaddr 6),o1 20 19 (.load true 6),o1 21 1 .mv,o1 22 5 .mv,o2 23 21 22 (.iaddr 6),o1 24 23 (.load true 6)] [k2 25 57 20 24,o1 26 25 (.un .not)]) (.cond (.slot 26) (.seq (.reg [c1 4 (.bool false) .mv]) .ret) .skip))) (.reg [o1 15 5 .mv,c2 16 15 (.int .i64 1) (.bin .add),o1 5 16 .mv])))))) (.seq (.reg [c1 4 (.bool true) .mv]) .ret))))
theorem zb0:z0j Tryz.prog 32 2=some ⟨27,2,[(.slot 4)],z69⟩:=by kernel_rfl
def zbs:AC:=(.seq (.reg [o1 1 0 .box,c1 2 (.int .i64 0) .mv,c1 3 (.int .i64 0) .mv]) (.seq (.seq (.reg [o1 8 1 (.load true 6),k1 9 72 8,o1 10 9 (.un .not)]) (.cond (.slot 10) (.seq (.reg [c1 2 (.int .i64 1) .mv,c1 3 (.int .i64 0) .mv]) .ret) .skip)) (.seq (.seq (.reg [o1 11 1 (.faddr false 4 1),o1 12 11 (.load false 1),o1 13 12 (.len false),c1 14 (.int .i64 0) .mv]) (.block 0 (.loop (.seq (.reg [o2 15 14 13 (.bin .lss)]) (.seq (.cond (.slot 15) .skip (.exit 0)) (.seq (.block 1 (.seq (.reg [o1 16 14 .mv,o2 17 12 14 (.iaddr 5),o1 18 17 (.load true 5),o0 5 (.alloc (.agg [(.int .i64 0),(.int .i64 0),.nilS,(.int .i64 0),.nilS]) 5),o1 4 16 .mv,n2 5 18 (.store 5)]) (.seq (.reg [o1 19 1 (.load true 6),o1 20 5 (.load true 5),k2 21 73 19 20,o1 22 21 (.un .not)]) (.cond (.slot 22) (.seq (.reg [o1 23 4 .mv,c1 2 (.int .i64 2) .mv,o1 3 23 .mv]) .ret) .skip)))) (.reg [c2 24 14 (.int .i64 1) (.bin .add),o1 14 24 .mv]))))))) (.seq (.seq (.reg [o1 25 1 (.faddr false 5 1),o1 26 25 (.load false 1),o1 27 26 (.len false),c1 28 (.int .i64 0) .mv]) (.block 2 (.loop (.seq (.reg [o2 29 28 27 (.bin .lss)]) (.seq (.cond (.slot 29) .skip (.exit 2)) (.seq (.block 3 (.seq (.reg [o1 30 28 .mv,o2 31 26 28 (.iaddr 3),o1 32 31 (.load true 3),o0 7 (.alloc (.agg [(.int .i64 0),.nilS,.nilS]) 3),o1 6 30 .mv,n2 7 32 (.store 3)]) (.seq (.reg [o1 33 1 (.load true 6),o1 34 7 (.faddr false 0 1),o1 35 34 (.load false 1),k2 36 74 33 35,o1 37 36 (.un .not),o1 38 37 .mv,g_ 39 38 false [s_ 1] (.faddr false 0 1),g_ 40 38 false [s_ 39] (.load false 1),g_ 41 38 false [s_ 7] (.faddr false 1 1),g_ 42 38 false [s_ 41] (.load false 1),g_ 43 38 false [k_ (.fn 75 []),s_ 40,s_ 42] .call,g_ 44 38 false [s_ 43] (.un .not),m_ 45 [s_ 38,k_ (.bool true),s_ 44] .pick,o1 46 45 .mv,g_ 47 46 false [s_ 1] (.load true 6),g_ 48 46 false [s_ 7] (.faddr false 2 1),g_ 49 46 false [s_ 48] (.load false 1),g_ 50 46 false [s_ 7] (.faddr false 1 1),g_ 51 46 false [s_ 50] (.load false 1),g_ 52 46 false [k_ (.fn 76 []),s_ 47,s_ 49,s_ 51] .call,g_ 53 46 false [s_ 52] (.un .not),m_ 54 [s_ 46,k_ (.bool true),s_ 53] .pick]) (.cond (.slot 54) (.seq (.reg [o1 55 6 .mv,c1 2 (.int .i64 3) .mv,o1 3 55 .mv]) .ret) .skip)))) (.reg [c2 56 28 (.int .i64 1) (.bin .add),o1 28 56 .mv]))))))) (.seq (.seq (.reg [o1 57 1 (.load true 6),k1 58 77 57]) (.cond (.slot 58) (.seq (.reg [c1 2 (.int .i64 4) .mv,c1 3 (.int .i64 0) .mv]) .ret) .skip)) (.seq (.reg [c1 2 (.int .i64 0) .mv,c1 3 (.int .i64 0) .mv]) .ret))))))
theorem zle:z0j Tryz.prog 48 1=some ⟨59,1,[(.slot 2),(.slot 3)],zbs⟩:=by kernel_rfl
def z9x:AC:=(.seq (.reg [c1 2 .nilS .mv]) (.seq (.seq (.reg [o1 3 0 .mv]) (.block 0 (.seq (.reg [c2 5 3 (.int .i64 1) (.bin .eql),o1 4 5 .mv]) (.cond (.slot 4) (.seq (.reg [m_ 6 [k_ (.int .i64 0),k_ (.int .i64 255)] (.build [(.int .i64 0),(.int .i64 0)] [(0,1),(1,1)] [0,1]),o1 7 6 (.bslice 2 1 (.agg [(.int .i64 0),(.int .i64 0)]) [0]),o1 2 7 .mv]) .ret) (.seq (.reg [c2 9 3 (.int .i64 2) (.bin .eql),o1 8 9 .mv]) (.cond (.slot 8) (.seq (.reg [m_ 10 [k_ (.int .i64 0),k_ (.int .i64 55295)] (.build [(.int .i64 0),(.int .i64 0)] [(0,1),(1,1)] [0,1]),m_ 11 [k_ (.int .i64 57344),k_ (.int .i64 1114111)] (.build [(.int .i64 0),(.int .i64 0)] [(0,1),(1,1)] [0,1]),o2 12 10 11 (.bslice 2 2 (.agg [(.int .i64 0),(.int .i64 0)]) [0,1]),o1 2 12 .mv]) .ret) .skip)))))) (.seq (.reg [c1 2 .nilS .mv]) .ret)))
theorem zik:z0j Tryz.prog 49 1=some ⟨13,1,[(.slot 2)],z9x⟩:=by kernel_rfl
def zdu:AC:=(.seq (.reg [o0 4 (.alloc (.agg [(.int .i64 0),(.int .i64 0),(.int .i64 0),(.int .i64 0),(.int .i64 0),.nilS]) 6)]) (.seq (.reg [o1 5 1 .mv,o1 6 0 .mv,k1 7 78 6,o1 8 7 (.bslice 4 1 (.agg [(.int .i64 0),(.int .i64 0),(.int .i64 0),(.int .i64 0)]) [0]),m_ 9 [k_ (.int .i64 21),s_ 5,s_ 8] (.build [(.int .i64 0),(.int .i64 0),(.int .i64 0),(.int .i64 0),(.int .i64 0),.nilS] [(0,1),(1,1),(2,1),(3,1),(4,1),(5,1)] [2,4,5]),n2 4 9 (.store 6)]) .ret))
theorem znp:z0j Tryz.prog 50 2=some ⟨10,2,[(.cell 4 true 6)],zdu⟩:=by kernel_rfl
def z1l:AC:=(.seq (.reg [c1 2 .nilS .mv]) (.seq (.seq (.reg [o1 3 0 .mv,c2 4 3 .nilS (.eqn false)]) (.cond (.slot 4) (.seq (.reg [c1 2 .nilS .mv]) .ret) .skip)) (.seq (.reg [o0 5 (.bslice 2 0 (.agg [(.int .i64 0),(.int .i64 0)]) []),o1 6 0 .mv,o2 7 5 6 (.app 2 16 (.agg [(.int .i64 0),(.int .i64 0)])),o1 2 7 .mv]) .ret)))
theorem z1z:z0j Tryz.prog 51 1=some ⟨8,1,[(.slot 2)],z1l⟩:=by kernel_rfl
def z1m:AC:=(.seq (.reg [c1 2 .nilS .mv]) (.seq (.seq (.reg [o1 3 0 .mv,c2 4 3 .nilS (.eqn false)]) (.cond (.slot 4) (.seq (.reg [c1 2 .nilS .mv]) .ret) .skip)) (.seq (.reg [o0 5 (.bslice 4 0 (.agg [(.int .i64 0),(.int .i64 0),(.int .i64 0),(.int .i64 0)]) []),o1 6 0 .mv,o2 7 5 6 (.app 4 32 (.agg [(.int .i64 0),(.int .i64 0),(.int .i64 0),(.int .i64 0)])),o1 2 7 .mv]) .ret)))
theorem z2a:z0j Tryz.prog 52 1=some ⟨8,1,[(.slot 2)],z1m⟩:=by kernel_rfl
def z8p:AC:=(.seq (.reg [c1 4 (.bool false) .mv]) (.seq (.seq (.reg [c1 5 (.int .i64 0) .mv]) (.block 0 (.loop (.seq (.seq (.reg [o1 7 5 .mv,o1 8 1 .mv,o1 9 8 (.len false),o2 10 7 9 (.bin .lss)]) (.cond (.slot 10) .skip (.exit 0))) (.seq (.block 1 (.seq (.reg [o1 13 1 .mv,o1 14 5 .mv,o2 15 13 14 (.iaddr 1),o1 16 15 (.load false 1),o1 6 16 .mv]) (.seq (.reg [o1 17 6 .mv,o1 18 17 (.len false),c2 19 18 (.int .i64 0) (.bin .eql),o1 20 19 .mv,g_ 21 20 false [s_ 6] .mv,g_ 22 20 false [s_ 21] (.len false),g_ 23 20 false [s_ 22,k_ (.int .i64 64)] (.bin .gtr),m_ 24 [s_ 20,k_ (.bool true),s_ 23] .pick,o1 25 24 .mv,g_ 26 25 false [s_ 6] .mv,g_ 27 25 false [s_ 6] .mv,g_ 28 25 false [k_ (.fn 79 []),s_ 27] .call,g_ 29 25 false [k_ (.fn 56 []),s_ 26,s_ 28] .call,g_ 30 25 false [s_ 29] (.un .not),m_ 31 [s_ 25,k_ (.bool true),s_ 30] .pick,o1 32 31 .mv,g_ 33 32 false [s_ 6] .mv,g_ 34 32 false [s_ 0] .mv,g_ 35 32 false [k_ (.fn 81 []),s_ 34] .call,g_ 36 32 false [k_ (.fn 80 []),s_ 33,s_ 35,k_ (.int .i64 2)] .call,g_ 37 32 false [s_ 36] (.len false),g_ 38 32 false [s_ 37,k_ (.int .i64 0)] (.bin .gtr),m_ 39 [s_ 32,k_ (.bool true),s_ 38] .pick]) (.cond (.slot 39) (.seq (.reg [c1 4 (.bool false) .mv]) .ret) .skip)))) (.reg [o1 11 5 .mv,c2 12 11 (.int .i64 1) (.bin .add),o1 5 12 .mv])))))) (.seq (.reg [o1 40 1 .mv,o1 41 40 (.len false),c2 42 41 (.int .i64 4) (.bin .leq),o1 4 42 .mv]) .ret)))
theorem zfq:z0j Tryz.prog 53 2=some ⟨43,2,[(.slot 4)],z8p⟩:=by kernel_rfl
def z8q:AC:=(.seq (.reg [o1 3 0 .box,c1 6 (.bool false) .mv]) (.seq (.seq (.reg [c1 7 (.int .i64 0) .mv]) (.block 0 (.loop (.seq (.seq (.reg [o1 8 7 .mv,o1 9 1 .mv,o1 10 9 (.len false),o2 11 8 10 (.bin .lss),o1 12 11 .mv,g1 13 12 1 .mv,g1 14 12 13 (.len false),g_ 15 12 true [s_ 14,k_ (.int .i64 64)] (.bin .leq),m_ 16 [s_ 12,s_ 15,k_ (.bool false)] .pick]) (.cond (.slot 16) .skip (.exit 0))) (.seq (.block 1 (.seq (.dtl [o1 19 1 .mv,o1 20 7 .mv,o2 21 19 20 (.iaddr 6),o1 22 21 (.load true 6),o1 23 3 (.faddr false 0 1),o1 24 23 (.load false 1),o1 25 3 (.faddr false 1 1),o1 26 25 (.load false 1),o1 27 2 .mv] [m_ 28 [k_ (.fn 82 []),s_ 22,s_ 24,s_ 26,s_ 27] .call,o1 29 28 (.un .not)]) (.cond (.slot 29) (.seq (.reg [c1 6 (.bool false) .mv]) .ret) .skip))) (.reg [o1 17 7 .mv,c2 18 17 (.int .i64 1) (.bin .add),o1 7 18 .mv])))))) (.seq (.reg [o1 30 1 .mv,o1 31 30 (.len false),c2 32 31 (.int .i64 64) (.bin .leq),o1 6 32 .mv]) .ret)))
theorem zfr:z0j Tryz.prog 54 3=some ⟨33,3,[(.slot 6)],z8q⟩:=by kernel_rfl
def z9y:AC:=(.seq (.reg [o1 1 0 .box,c1 2 (.bool false) .mv]) (.seq (.reg [o1 9 1 (.faddr false 2 1),o1 10 9 (.load false 1),o2 11 10 10 (.mkSlice 1 1 (.bool false)),o1 3 11 .mv]) (.seq (.seq (.reg [o1 12 3 .mv,o1 13 12 (.len false),c1 14 (.int .i64 0) .mv]) (.block 0 (.loop (.seq (.reg [o2 15 14 13 (.bin .lss)]) (.seq (.cond (.slot 15) .skip (.exit 0)) (.seq (.block 1 (.seq (.reg [o1 16 14 .mv,o1 4 16 .mv]) (.reg [o1 17 3 .mv,o1 18 4 .mv,o2 19 17 18 (.iaddr 1),h_ [s_ 19,k_ (.bool true)] (.store 1)]))) (.reg [c2 20 14 (.int .i64 1) (.bin .add),o1 14 20 .mv]))))))) (.seq (.seq (.reg [c1 5 (.int .i64 0) .mv]) (.block 2 (.loop (.seq (.seq (.reg [o1 21 5 .mv,o1 22 1 (.faddr false 2 1),o1 23 22 (.load false 1),o2 24 21 23 (.bin .leq)]) (.cond (.slot 24) .skip (.exit 2))) (.seq (.block 3 (.seq (.reg [o1 27 1 (.faddr false 2 1),o1 28 27 (.load false 1),o2 29 28 28 (.mkSlice 1 1 (.bool false)),o1 6 29 .mv]) (.seq (.reg [c1 7 (.bool false) .mv]) (.seq (.seq (.reg [c1 8 (.int .i64 0) .mv]) (.block 4 (.loop (.seq (.seq (.reg [o1 30 8 .mv,o1 31 1 (.faddr false 4 1),o1 32 31 (.load false 1),o1 33 32 (.len false),o2 34 30 33 (.bin .lss)]) (.cond (.slot 34) .skip (.exit 4))) (.seq (.block 5 (.seq (.reg [o1 37 1 (.faddr false 4 1),o1 38 37 (.load false 1),o1 39 8 .mv,o2 40 38 39 (.iaddr 5),o1 41 40 (.faddr false 2 1),o1 42 41 (.load false 1),o1 43 42 (.len false),c2 44 43 (.int .i64 0) (.bin .eql),o1 45 44 .mv,g1 46 45 3 .mv,g1 47 45 1 (.faddr false 4 1),g1 48 45 47 (.load false 1),g1 49 45 8 .mv,g2 50 45 48 49 (.iaddr 5),g1 51 45 50 (.faddr false 0 1),g1 52 45 51 (.load false 1),g2 53 45 46 52 (.iaddr 1),g1 54 45 53 (.load false 1),m_ 55 [s_ 45,s_ 54,k_ (.bool false)] .pick]) (.cond (.slot 55) (.seq (.reg [o1 56 6 .mv,o1 57 1 (.faddr false 4 1),o1 58 57 (.load false 1),o1 59 8 .mv,o2 60 58 59 (.iaddr 5),o1 61 60 (.faddr false 1 1),o1 62 61 (.load false 1),o2 63 56 62 (.iaddr 1),h_ [s_ 63,k_ (.bool true)] (.store 1)]) (.reg [c1 7 (.bool true) .mv])) .skip))) (.reg [o1 35 8 .mv,c2 36 35 (.int .i64 1) (.bin .add),o1 8 36 .mv])))))) (.seq (.seq (.reg [o1 64 7 .mv,o1 65 64 (.un .not)]) (.cond (.slot 65) (.seq (.reg [c1 2 (.bool false) .mv]) .ret) .skip)) (.reg [o1 66 6 .mv,o1 3 66 .mv])))))) (.reg [o1 25 5 .mv,c2 26 25 (.int .i64 1) (.bin .add),o1 5 26 .mv])))))) (.seq (.reg [c1 2 (.bool true) .mv]) .ret)))))
theorem zil:z0j Tryz.prog 55 1=some ⟨67,1,[(.slot 2)],z9y⟩:=by kernel_rfl
def zbt:AC:=(.seq (.reg [c1 4 (.bool false) .mv]) (.seq (.seq (.reg [o1 6 0 .mv,o1 7 6 (.len false),o1 8 1 .mv,o1 9 8 (.len false),o2 10 7 9 (.bin .neq)]) (.cond (.slot 10) (.seq (.reg [c1 4 (.bool false) .mv]) .ret) .skip)) (.seq (.seq (.reg [c1 5 (.int .i64 0) .mv]) (.block 0 (.loop (.seq (.seq (.reg [o1 11 5 .mv,o1 12 0 .mv,o1 13 12 (.len false),o2 14 11 13 (.bin .lss)]) (.cond (.slot 14) .skip (.exit 0))) (.seq (.block 1 (.seq (.dreg [o1 17 0 .mv,o1 18 5 .mv,o2 19 17 18 (.iaddr 2),o1 20 19 (.load true 2),o1 21 1 .mv,o1 22 5 .mv,o2 23 21 22 (.iaddr 2),o1 24 23 (.load true 2),o2 25 20 24 (.eqs true [1,1])]) (.cond (.slot 25) (.seq (.reg [c1 4 (.bool false) .mv]) .ret) .skip))) (.reg [o1 15 5 .mv,c2 16 15 (.int .i64 1) (.bin .add),o1 5 16 .mv])))))) (.seq (.reg [c1 4 (.bool true) .mv]) .ret))))
theorem zlf:z0j Tryz.prog 56 2=some ⟨26,2,[(.slot 4)],zbt⟩:=by kernel_rfl
def zbu:AC:=(.seq (.reg [o1 2 0 .box,o1 3 1 .box,c1 4 (.bool false) .mv]) (.seq (.seq (.reg [o1 6 2 (.faddr false 0 1),o1 7 6 (.load false 1),o1 8 3 (.faddr false 0 1),o1 9 8 (.load false 1),o2 10 7 9 (.bin .neq),o1 11 10 .mv,g_ 12 11 false [s_ 2] (.faddr false 1 1),g_ 13 11 false [s_ 12] (.load false 1),g_ 14 11 false [s_ 3] (.faddr false 1 1),g_ 15 11 false [s_ 14] (.load false 1),g_ 16 11 false [s_ 13,s_ 15] (.bin .neq),m_ 17 [s_ 11,k_ (.bool true),s_ 16] .pick,o1 18 17 .mv,g_ 19 18 false [s_ 2] (.faddr false 2 1),g_ 20 18 false [s_ 19] (.load false 1),g_ 21 18 false [s_ 3] (.faddr false 2 1),g_ 22 18 false [s_ 21] (.load false 1),g_ 23 18 false [s_ 20,s_ 22] (.bin .neq),m_ 24 [s_ 18,k_ (.bool true),s_ 23] .pick,o1 25 24 .mv,g_ 26 25 false [s_ 2] (.faddr false 3 1),g_ 27 25 false [s_ 26] (.load false 1),g_ 28 25 false [s_ 3] (.faddr false 3 1),g_ 29 25 false [s_ 28] (.load false 1),g_ 30 25 false [s_ 27,s_ 29] (.bin .neq),m_ 31 [s_ 25,k_ (.bool true),s_ 30] .pick,o1 32 31 .mv,g_ 33 32 false [s_ 2] (.faddr false 4 1),g_ 34 32 false [s_ 33] (.load false 1),g_ 35 32 false [s_ 3] (.faddr false 4 1),g_ 36 32 false [s_ 35] (.load false 1),g_ 37 32 false [s_ 34,s_ 36] (.bin .neq),m_ 38 [s_ 32,k_ (.bool true),s_ 37] .pick,o1 39 38 .mv,g_ 40 39 false [s_ 2] (.faddr false 5 1),g_ 41 39 false [s_ 40] (.load false 1),g_ 42 39 false [s_ 41] (.len false),g_ 43 39 false [s_ 3] (.faddr false 5 1),g_ 44 39 false [s_ 43] (.load false 1),g_ 45 39 false [s_ 44] (.len false),g_ 46 39 false [s_ 42,s_ 45] (.bin .neq),m_ 47 [s_ 39,k_ (.bool true),s_ 46] .pick]) (.cond (.slot 47) (.seq (.reg [c1 4 (.bool false) .mv]) .ret) .skip)) (.seq (.seq (.reg [c1 5 (.int .i64 0) .mv]) (.block 0 (.loop (.seq (.seq (.reg [o1 48 5 .mv,o1 49 2 (.faddr false 5 1),o1 50 49 (.load false 1),o1 51 50 (.len false),o2 52 48 51 (.bin .lss)]) (.cond (.slot 52) .skip (.exit 0))) (.seq (.block 1 (.seq (.dreg [o1 55 2 (.faddr false 5 1),o1 56 55 (.load false 1),o1 57 5 .mv,o2 58 56 57 (.iaddr 4),o1 59 58 (.load true 4),o1 60 3 (.faddr false 5 1),o1 61 60 (.load false 1),o1 62 5 .mv,o2 63 61 62 (.iaddr 4),o1 64 63 (.load true 4),o2 65 59 64 (.eqs true [1,1,1,1])]) (.cond (.slot 65) (.seq (.reg [c1 4 (.bool false) .mv]) .ret) .skip))) (.reg [o1 53 5 .mv,c2 54 53 (.int .i64 1) (.bin .add),o1 5 54 .mv])))))) (.seq (.reg [c1 4 (.bool true) .mv]) .ret))))
theorem zlg:z0j Tryz.prog 57 2=some ⟨66,2,[(.slot 4)],zbu⟩:=by kernel_rfl
def zdv:AC:=(.seq (.reg [o1 1 0 .box,c1 2 (.bool false) .mv]) (.seq (.reg [o1 3 1 (.faddr false 0 1),o1 4 3 (.load false 1),k1 5 49 4,o1 6 5 (.len false),c2 7 6 (.int .i64 0) (.bin .gtr),o1 8 7 .mv,g1 9 8 1 (.faddr false 1 1),g1 10 8 9 (.load false 1),g_ 11 8 true [k_ (.fn 49 []),s_ 10] .call,g1 12 8 11 (.len false),g_ 13 8 true [s_ 12,k_ (.int .i64 0)] (.bin .gtr),m_ 14 [s_ 8,s_ 13,k_ (.bool false)] .pick,o1 15 14 .mv,g1 16 15 1 (.faddr false 2 1),g1 17 15 16 (.load false 1),g_ 18 15 true [s_ 17,k_ (.int .i64 1)] (.bin .geq),m_ 19 [s_ 15,s_ 18,k_ (.bool false)] .pick,o1 20 19 .mv,g1 21 20 1 (.faddr false 2 1),g1 22 20 21 (.load false 1),g_ 23 20 true [s_ 22,k_ (.int .i64 1024)] (.bin .leq),m_ 24 [s_ 20,s_ 23,k_ (.bool false)] .pick,o1 25 24 .mv,g1 26 25 1 (.load true 6),g1 27 25 1 (.faddr false 3 1),g1 28 25 27 (.load false 1),g_ 29 25 true [k_ (.fn 74 []),s_ 26,s_ 28] .call,m_ 30 [s_ 25,s_ 29,k_ (.bool false)] .pick,o1 31 30 .mv,g1 32 31 1 (.faddr false 4 1),g1 33 31 32 (.load false 1),g1 34 31 33 (.len false),g_ 35 31 true [s_ 34,k_ (.int .i64 4096)] (.bin .leq),m_ 36 [s_ 31,s_ 35,k_ (.bool false)] .pick,o1 37 36 .mv,g1 38 37 1 (.faddr false 5 1),g1 39 37 38 (.load false 1),g1 40 37 39 (.len false),g_ 41 37 true [s_ 40,k_ (.int .i64 4096)] (.bin .leq),m_ 42 [s_ 37,s_ 41,k_ (.bool false)] .pick,o1 2 42 .mv]) .ret))
theorem znq:z0j Tryz.prog 72 1=some ⟨43,1,[(.slot 2)],zdv⟩:=by kernel_rfl
def zdw:AC:=(.seq (.reg [o1 2 0 .box,o1 3 1 .box,c1 4 (.bool false) .mv]) (.seq (.reg [o1 6 3 (.faddr false 2 1),o1 7 6 (.load false 1),o1 8 7 (.len false),o1 5 8 .mv]) (.seq (.seq (.reg [o1 9 2 (.load true 6),o1 10 3 (.faddr false 0 1),o1 11 10 (.load false 1),k2 12 74 9 11,o1 13 12 (.un .not),o1 14 13 .mv,g_ 15 14 false [s_ 2] (.load true 6),g_ 16 14 false [s_ 3] (.faddr false 1 1),g_ 17 14 false [s_ 16] (.load false 1),g_ 18 14 false [k_ (.fn 74 []),s_ 15,s_ 17] .call,g_ 19 14 false [s_ 18] (.un .not),m_ 20 [s_ 14,k_ (.bool true),s_ 19] .pick,o1 21 20 .mv,g_ 22 21 false [s_ 2] (.faddr false 0 1),g_ 23 21 false [s_ 22] (.load false 1),g_ 24 21 false [s_ 3] (.faddr false 2 1),g_ 25 21 false [s_ 24] (.load false 1),g_ 26 21 false [k_ (.fn 75 []),s_ 23,s_ 25] .call,g_ 27 21 false [s_ 26] (.un .not),m_ 28 [s_ 21,k_ (.bool true),s_ 27] .pick,o1 29 28 .mv,g_ 30 29 false [s_ 3] (.faddr false 3 1),g_ 31 29 false [s_ 30] (.load false 1),g_ 32 29 false [s_ 5] .mv,g_ 33 29 false [s_ 32,k_ (.int .i64 1)] .min,g_ 34 29 false [s_ 31,s_ 33] (.bin .lss),m_ 35 [s_ 29,k_ (.bool true),s_ 34] .pick,o1 36 35 .mv,g_ 37 36 false [s_ 3] (.faddr false 3 1),g_ 38 36 false [s_ 37] (.load false 1),g_ 39 36 false [s_ 5] .mv,g_ 40 36 false [s_ 38,s_ 39] (.bin .gtr),m_ 41 [s_ 36,k_ (.bool true),s_ 40] .pick]) (.cond (.slot 41) (.seq (.reg [c1 4 (.bool false) .mv]) .ret) .skip)) (.seq (.reg [o1 42 2 (.load true 6),o1 43 3 (.faddr false 4 1),o1 44 43 (.load false 1),o1 45 3 (.faddr false 2 1),o1 46 45 (.load false 1),k3 47 76 42 44 46,o1 4 47 .mv]) .ret))))
theorem znr:z0j Tryz.prog 73 2=some ⟨48,2,[(.slot 4)],zdw⟩:=by kernel_rfl
def zbv:AC:=(.seq (.reg [o1 2 0 .box,c1 4 (.bool false) .mv]) (.seq (.reg [o1 5 1 .mv,c2 6 5 (.int .i64 0) (.bin .geq),o1 7 6 .mv,g1 8 7 1 .mv,g1 9 7 2 (.faddr false 2 1),g1 10 7 9 (.load false 1),g2 11 7 8 10 (.bin .lss),m_ 12 [s_ 7,s_ 11,k_ (.bool false)] .pick,o1 4 12 .mv]) .ret))
theorem zlh:z0j Tryz.prog 74 2=some ⟨13,2,[(.slot 4)],zbv⟩:=by kernel_rfl
def z9z:AC:=(.seq (.reg [c1 4 (.bool false) .mv]) (.seq (.seq (.reg [o1 8 1 .mv,o1 9 8 (.len false),c2 10 9 (.int .i64 4) (.bin .gtr)]) (.cond (.slot 10) (.seq (.reg [c1 4 (.bool false) .mv]) .ret) .skip)) (.seq (.reg [o1 11 0 .mv,k1 12 49 11,o1 5 12 .mv]) (.seq (.seq (.reg [o1 13 1 .mv,o1 14 13 (.len false),c1 15 (.int .i64 0) .mv]) (.block 0 (.loop (.seq (.reg [o2 16 15 14 (.bin .lss)]) (.seq (.cond (.slot 16) .skip (.exit 0)) (.seq (.block 1 (.seq (.reg [o2 17 13 15 (.iaddr 1),o1 18 17 (.load false 1),o1 7 18 .mv]) (.seq (.reg [o1 19 7 .mv,o1 20 19 (.len false),c2 21 20 (.int .i64 0) (.bin .eql),o1 22 21 .mv,g_ 23 22 false [s_ 7] .mv,g_ 24 22 false [s_ 23] (.len false),g_ 25 22 false [s_ 24,k_ (.int .i64 64)] (.bin .gtr),m_ 26 [s_ 22,k_ (.bool true),s_ 25] .pick,o1 27 26 .mv,g_ 28 27 false [s_ 7] .mv,g_ 29 27 false [k_ (.fn 93 []),s_ 28] .call,g_ 30 27 false [s_ 29] (.un .not),m_ 31 [s_ 27,k_ (.bool true),s_ 30] .pick,o1 32 31 .mv,g_ 33 32 false [s_ 7] .mv,g_ 34 32 false [s_ 5] .mv,g_ 35 32 false [k_ (.fn 94 []),s_ 33,s_ 34] .call,g_ 36 32 false [s_ 35] (.un .not),m_ 37 [s_ 32,k_ (.bool true),s_ 36] .pick]) (.cond (.slot 37) (.seq (.reg [c1 4 (.bool false) .mv]) .ret) .skip)))) (.reg [c2 38 15 (.int .i64 1) (.bin .add),o1 15 38 .mv]))))))) (.seq (.reg [c1 4 (.bool true) .mv]) .ret)))))
theorem zim:z0j Tryz.prog 75 2=some ⟨39,2,[(.slot 4)],z9z⟩:=by kernel_rfl
def za0:AC:=(.seq (.reg [o1 3 0 .box,c1 6 (.bool false) .mv]) (.seq (.seq (.reg [o1 9 1 .mv,o1 10 9 (.len false),c2 11 10 (.int .i64 64) (.bin .gtr)]) (.cond (.slot 11) (.seq (.reg [c1 6 (.bool false) .mv]) .ret) .skip)) (.seq (.seq (.reg [o1 12 1 .mv,o1 13 12 (.len false),c1 14 (.int .i64 0) .mv]) (.block 0 (.loop (.seq (.reg [o2 15 14 13 (.bin .lss)]) (.seq (.cond (.slot 15) .skip (.exit 0)) (.seq (.block 1 (.seq (.reg [o2 16 12 14 (.iaddr 6),o1 17 16 (.load true 6),o0 8 (.alloc (.agg [(.int .i64 0),(.int .i64 0),(.int .i64 0),(.int .i64 0),(.int .i64 0),.nilS]) 6),n2 8 17 (.store 6)]) (.seq (.reg [o1 18 8 (.load true 6),o1 19 3 (.faddr false 0 1),o1 20 19 (.load false 1),o1 21 3 (.faddr false 1 1),o1 22 21 (.load false 1),o1 23 2 .mv,m_ 24 [k_ (.fn 95 []),s_ 18,s_ 20,s_ 22,s_ 23] .call,o1 25 24 (.un .not)]) (.cond (.slot 25) (.seq (.reg [c1 6 (.bool false) .mv]) .ret) .skip)))) (.reg [c2 26 14 (.int .i64 1) (.bin .add),o1 14 26 .mv]))))))) (.seq (.reg [c1 6 (.bool true) .mv]) .ret))))
theorem zin:z0j Tryz.prog 76 3=some ⟨27,3,[(.slot 6)],za0⟩:=by kernel_rfl
def zbw:AC:=(.seq (.reg [o1 1 0 .box,c1 2 (.bool false) .mv]) (.seq (.reg [o1 14 1 (.faddr false 2 1),o1 15 14 (.load false 1),o2 16 15 15 (.mkSlice 1 24 .nilS),o1 3 16 .mv]) (.seq (.reg [o1 17 1 (.faddr false 2 1),o1 18 17 (.load false 1),o2 19 18 18 (.mkSlice 1 8 (.int .i64 0)),o1 4 19 .mv]) (.seq (.seq (.reg [o1 20 1 (.faddr false 4 1),o1 21 20 (.load false 1),o1 22 21 (.len false),c1 23 (.int .i64 0) .mv]) (.block 0 (.loop (.seq (.reg [o2 24 23 22 (.bin .lss)]) (.seq (.cond (.slot 24) .skip (.exit 0)) (.seq (.block 1 (.seq (.reg [o2 25 21 23 (.iaddr 5),o1 26 25 (.load true 5),o0 6 (.alloc (.agg [(.int .i64 0),(.int .i64 0),.nilS,(.int .i64 0),.nilS]) 5),n2 6 26 (.store 5)]) (.seq (.reg [o1 27 6 (.faddr false 2 1),o1 28 27 (.load false 1),o1 29 28 (.len false),c2 30 29 (.int .i64 0) (.bin .eql)]) (.cond (.slot 30) (.seq (.grx [false,true,true,false,true,true,true,false,true,true,false,false,false,false] [m_ 31 [s_ 3] .mv,m_ 32 [s_ 6] (.faddr false 0 1),m_ 33 [s_ 32] (.load false 1),m_ 34 [s_ 3] .mv,m_ 35 [s_ 6] (.faddr false 0 1),m_ 36 [s_ 35] (.load false 1),m_ 37 [s_ 34,s_ 36] (.iaddr 1),m_ 38 [s_ 37] (.load false 1),m_ 39 [s_ 6] (.faddr false 1 1),m_ 40 [s_ 39] (.load false 1),m_ 41 [s_ 40] (.bslice 1 1 (.int .i64 0) [0]),m_ 42 [s_ 38,s_ 41] (.app 1 8 (.int .i64 0)),m_ 43 [s_ 31,s_ 33] (.iaddr 1),h_ [s_ 43,s_ 42] (.store 1)]) (.reg [o1 44 4 .mv,o1 45 6 (.faddr false 1 1),o1 46 45 (.load false 1),o2 47 44 46 (.iaddr 1),o1 48 47 (.load false 1),c2 49 48 (.int .i64 1) (.bin .add),o2 50 44 46 (.iaddr 1),n2 50 49 (.store 1)])) .skip)))) (.reg [c2 51 23 (.int .i64 1) (.bin .add),o1 23 51 .mv]))))))) (.seq (.reg [c1 7 .nilS .mv]) (.seq (.seq (.reg [o1 52 4 .mv,o1 53 52 (.len false),c1 54 (.int .i64 0) .mv]) (.block 2 (.loop (.seq (.reg [o2 55 54 53 (.bin .lss)]) (.seq (.cond (.slot 55) .skip (.exit 2)) (.seq (.block 3 (.seq (.reg [o1 56 54 .mv,o2 57 52 54 (.iaddr 1),o1 58 57 (.load false 1),o1 8 56 .mv,o1 9 58 .mv]) (.seq (.reg [o1 59 9 .mv,c2 60 59 (.int .i64 0) (.bin .eql)]) (.cond (.slot 60) (.reg [o1 61 7 .mv,o1 62 8 .mv,o1 63 62 (.bslice 1 1 (.int .i64 0) [0]),o2 64 61 63 (.app 1 8 (.int .i64 0)),o1 7 64 .mv]) .skip)))) (.reg [c2 65 54 (.int .i64 1) (.bin .add),o1 54 65 .mv]))))))) (.seq (.reg [c1 10 (.int .i64 0) .mv]) (.seq (.block 4 (.loop (.seq (.seq (.reg [o1 66 7 .mv,o1 67 66 (.len false),c2 68 67 (.int .i64 0) (.bin .gtr)]) (.cond (.slot 68) .skip (.exit 4))) (.seq (.block 5 (.seq (.reg [o1 71 7 .mv,c2 72 71 (.int .i64 0) (.iaddr 1),o1 73 72 (.load false 1),o1 11 73 .mv]) (.seq (.reg [o1 74 7 .mv,c2 75 74 (.int .i64 1) (.slice 1 true false false),o1 7 75 .mv]) (.seq (.reg [o1 76 3 .mv,o1 77 11 .mv,o2 78 76 77 (.iaddr 1),o1 79 78 (.load false 1),o1 80 79 (.len false),c1 81 (.int .i64 0) .mv]) (.block 6 (.loop (.seq (.reg [o2 82 81 80 (.bin .lss)]) (.seq (.cond (.slot 82) .skip (.exit 6)) (.seq (.block 7 (.seq (.reg [o2 83 79 81 (.iaddr 1),o1 84 83 (.load false 1),o1 13 84 .mv]) (.seq (.reg [o1 85 4 .mv,o1 86 13 .mv,o2 87 85 86 (.iaddr 1),o1 88 87 (.load false 1),c2 89 88 (.int .i64 1) (.bin .sub),o2 90 85 86 (.iaddr 1),n2 90 89 (.store 1)]) (.seq (.reg [o1 91 4 .mv,o1 92 13 .mv,o2 93 91 92 (.iaddr 1),o1 94 93 (.load false 1),c2 95 94 (.int .i64 0) (.bin .eql)]) (.cond (.slot 95) (.reg [o1 96 7 .mv,o1 97 13 .mv,o1 98 97 (.bslice 1 1 (.int .i64 0) [0]),o2 99 96 98 (.app 1 8 (.int .i64 0)),o1 7 99 .mv]) .skip))))) (.reg [c2 100 81 (.int .i64 1) (.bin .add),o1 81 100 .mv])))))))))) (.reg [o1 69 10 .mv,c2 70 69 (.int .i64 1) (.bin .add),o1 10 70 .mv]))))) (.seq (.reg [o1 101 10 .mv,o1 102 1 (.faddr false 2 1),o1 103 102 (.load false 1),o2 104 101 103 (.bin .lss),o1 2 104 .mv]) .ret)))))))))
theorem zli:z0j Tryz.prog 77 1=some ⟨105,1,[(.slot 2)],zbw⟩:=by kernel_rfl
def zbx:AC:=(.seq (.reg [o0 2 (.alloc (.agg [(.int .i64 0),(.int .i64 0),(.int .i64 0),(.int .i64 0)]) 4)]) (.seq (.reg [o1 3 0 .mv,c2 4 3 (.int .i64 21) (.build [(.int .i64 0),(.int .i64 0),(.int .i64 0),(.int .i64 0)] [(0,1),(1,1),(2,1),(3,1)] [0,2]),n2 2 4 (.store 4)]) .ret))
theorem zlj:z0j Tryz.prog 78 1=some ⟨5,1,[(.cell 2 true 4)],zbx⟩:=by kernel_rfl
def zby:AC:=(.seq (.reg [c1 2 .nilS .mv]) (.seq (.reg [o1 3 0 .mv,m_ 4 [k_ (.fn 80 []),s_ 3,k_ .nilS,k_ (.int .i64 0)] .call,o1 2 4 .mv]) .ret))
theorem zlk:z0j Tryz.prog 79 1=some ⟨5,1,[(.slot 2)],zby⟩:=by kernel_rfl
def zbz:AC:=(.seq (.reg [c1 6 .nilS .mv]) (.seq (.reg [c1 7 .nilS .mv]) (.seq (.reg [o1 15 0 .mv,o1 16 1 .mv,k2 17 96 15 16,o1 8 17 .mv]) (.seq (.seq (.reg [c1 9 (.int .i64 0) .mv]) (.block 0 (.loop (.seq (.seq (.reg [o1 18 9 .mv,o1 19 8 .mv,o1 20 19 (.len false),o2 21 18 20 (.bin .lss)]) (.cond (.slot 21) .skip (.exit 0))) (.seq (.block 1 (.seq (.dreg [o1 24 0 .mv,o1 25 8 .mv,o1 26 9 .mv,o2 27 25 26 (.iaddr 1),o1 28 27 (.load false 1),k2 29 97 24 28,o1 30 1 .mv,o1 31 8 .mv,o1 32 9 .mv,o2 33 31 32 (.iaddr 1),o1 34 33 (.load false 1),k2 35 97 30 34,o1 10 29 .mv,o1 11 35 .mv]) (.seq (.reg [o1 36 10 .mv,o1 37 36 .mv,g_ 38 37 false [s_ 11] .mv,m_ 39 [s_ 37,k_ (.bool true),s_ 38] .pick,o1 12 39 .mv]) (.seq (.seq (.reg [o1 40 2 .mv,c2 41 40 (.int .i64 1) (.bin .eql)]) (.cond (.slot 41) (.reg [o1 42 10 .mv,o1 43 42 .mv,g1 44 43 11 .mv,m_ 45 [s_ 43,s_ 44,k_ (.bool false)] .pick,o1 12 45 .mv]) .skip)) (.seq (.seq (.reg [o1 46 2 .mv,c2 47 46 (.int .i64 2) (.bin .eql)]) (.cond (.slot 47) (.reg [o1 48 10 .mv,o1 49 48 .mv,g1 50 49 11 .mv,g1 51 49 50 (.un .not),m_ 52 [s_ 49,s_ 51,k_ (.bool false)] .pick,o1 12 52 .mv]) .skip)) (.seq (.seq (.reg [o1 53 12 .mv,o1 54 53 (.un .not)]) (.cond (.slot 54) (.exit 1) .skip)) (.seq (.reg [c1 13 (.int .i64 1073741824) .mv]) (.seq (.seq (.reg [o1 55 9 .mv,c2 56 55 (.int .i64 1) (.bin .add),o1 57 8 .mv,o1 58 57 (.len false),o2 59 56 58 (.bin .lss)]) (.cond (.slot 59) (.reg [o1 60 8 .mv,o1 61 9 .mv,c2 62 61 (.int .i64 1) (.bin .add),o2 63 60 62 (.iaddr 1),o1 64 63 (.load false 1),c2 65 64 (.int .i64 1) (.bin .sub),o1 13 65 .mv]) .skip)) (.seq (.reg [o1 66 7 .mv,o1 67 66 (.len false),o1 14 67 .mv]) (.seq (.dreg [o1 68 14 .mv,c2 69 68 (.int .i64 0) (.bin .gtr),o1 70 69 .mv,g1 71 70 7 .mv,g1 72 70 14 .mv,g_ 73 70 true [s_ 72,k_ (.int .i64 1)] (.bin .sub),g2 74 70 71 73 (.iaddr 2),g1 75 70 74 (.faddr false 1 1),g1 76 70 75 (.load false 1),g1 77 70 8 .mv,g1 78 70 9 .mv,g2 79 70 77 78 (.iaddr 1),g1 80 70 79 (.load false 1),g_ 81 70 true [s_ 80,k_ (.int .i64 1)] (.bin .sub),g2 82 70 76 81 (.bin .eql),m_ 83 [s_ 70,s_ 82,k_ (.bool false)] .pick]) (.cond (.slot 83) (.reg [o1 84 7 .mv,o1 85 14 .mv,c2 86 85 (.int .i64 1) (.bin .sub),o1 87 13 .mv,o2 88 84 86 (.iaddr 2),o1 89 88 (.faddr false 1 1),n2 89 87 (.store 1)]) (.reg [o1 90 7 .mv,o1 91 8 .mv,o1 92 9 .mv,o2 93 91 92 (.iaddr 1),o1 94 93 (.load false 1),o1 95 13 .mv,o2 96 94 95 (.build [(.int .i64 0),(.int .i64 0)] [(0,1),(1,1)] [0,1]),o1 97 96 (.bslice 2 1 (.agg [(.int .i64 0),(.int .i64 0)]) [0]),o2 98 90 97 (.app 2 16 (.agg [(.int .i64 0),(.int .i64 0)])),o1 7 98 .mv])))))))))))) (.reg [o1 22 9 .mv,c2 23 22 (.int .i64 1) (.bin .add),o1 9 23 .mv])))))) (.seq (.reg [o1 99 7 .mv,o1 6 99 .mv]) .ret)))))
theorem zll:z0j Tryz.prog 80 3=some ⟨100,3,[(.slot 6)],zbz⟩:=by kernel_rfl
def z8r:AC:=(.seq (.reg [c1 2 .nilS .mv]) (.seq (.seq (.reg [o1 3 0 .mv,c2 4 3 (.int .i64 1) (.bin .eql)]) (.cond (.slot 4) (.seq (.reg [m_ 5 [k_ (.int .i64 0),k_ (.int .i64 255)] (.build [(.int .i64 0),(.int .i64 0)] [(0,1),(1,1)] [0,1]),o1 6 5 (.bslice 2 1 (.agg [(.int .i64 0),(.int .i64 0)]) [0]),o1 2 6 .mv]) .ret) .skip)) (.seq (.seq (.reg [o1 7 0 .mv,c2 8 7 (.int .i64 2) (.bin .eql)]) (.cond (.slot 8) (.seq (.reg [m_ 9 [k_ (.int .i64 0),k_ (.int .i64 55295)] (.build [(.int .i64 0),(.int .i64 0)] [(0,1),(1,1)] [0,1]),m_ 10 [k_ (.int .i64 57344),k_ (.int .i64 1114111)] (.build [(.int .i64 0),(.int .i64 0)] [(0,1),(1,1)] [0,1]),o2 11 9 10 (.bslice 2 2 (.agg [(.int .i64 0),(.int .i64 0)]) [0,1]),o1 2 11 .mv]) .ret) .skip)) (.seq (.reg [c1 2 .nilS .mv]) .ret))))
theorem zfs:z0j Tryz.prog 81 1=some ⟨12,1,[(.slot 2)],z8r⟩:=by kernel_rfl
def zc0:AC:=(.seq (.reg [o1 4 0 .box,c1 8 (.bool false) .mv]) (.seq (.seq (.reg [o1 19 4 (.load true 6),o1 20 1 .mv,o1 21 2 .mv,o1 22 3 .mv,o1 23 22 (.len false),m_ 24 [k_ (.fn 98 []),s_ 19,s_ 20,s_ 21,s_ 23] .call,o1 25 24 (.un .not)]) (.cond (.slot 25) (.seq (.reg [c1 8 (.bool false) .mv]) .ret) .skip)) (.seq (.reg [o1 27 4 (.load true 6),o1 28 1 .mv,o1 29 3 .mv,k3 30 99 27 28 29,o1 26 30 .mv,o1 31 26 (.extract 0),o1 32 26 (.extract 1),o1 9 31 .mv,o1 10 32 .mv]) (.seq (.seq (.reg [o1 33 10 .mv,o1 34 33 (.un .not)]) (.cond (.slot 34) (.seq (.reg [c1 8 (.bool false) .mv]) .ret) .skip)) (.seq (.seq (.reg [o1 35 2 .mv,c2 36 35 (.int .i64 2) (.bin .eql)]) (.cond (.slot 36) (.seq (.reg [o1 37 9 .mv,o1 38 2 .mv,k1 39 81 38,m_ 40 [k_ (.fn 80 []),s_ 37,s_ 39,k_ (.int .i64 2)] .call,o1 41 40 (.len false),c2 42 41 (.int .i64 0) (.bin .eql),o1 8 42 .mv]) .ret) .skip)) (.seq (.dreg [o1 43 4 (.faddr false 1 1),o1 44 43 (.load false 1),k1 45 100 44,o1 46 4 (.faddr false 2 1),o1 47 46 (.load false 1),k1 48 100 47,o1 49 4 (.faddr false 3 1),o1 50 49 (.load false 1),k1 51 100 50,o1 11 45 .mv,o1 12 48 .mv,o1 13 51 .mv]) (.seq (.seq (.reg [c1 14 (.int .i64 0) .mv]) (.block 0 (.loop (.seq (.seq (.reg [o1 52 14 .mv,o1 53 9 .mv,o1 54 53 (.len false),o2 55 52 54 (.bin .lss)]) (.cond (.slot 55) .skip (.exit 0))) (.seq (.block 1 (.seq (.dreg [o1 58 9 .mv,o1 59 14 .mv,o2 60 58 59 (.iaddr 2),o1 61 60 (.faddr false 0 1),o1 62 61 (.load false 1),o1 63 11 .mv,o2 64 62 63 (.bin .quo),o1 65 9 .mv,o1 66 14 .mv,o2 67 65 66 (.iaddr 2),o1 68 67 (.faddr false 1 1),o1 69 68 (.load false 1),o1 70 11 .mv,o2 71 69 70 (.bin .quo),o1 15 64 .mv,o1 16 71 .mv]) (.seq (.reg [o1 72 15 .mv,o1 17 72 .mv]) (.block 2 (.loop (.seq (.seq (.reg [o1 73 17 .mv,o1 74 16 .mv,o2 75 73 74 (.bin .leq)]) (.cond (.slot 75) .skip (.exit 2))) (.seq (.block 3 (.seq (.seq (.reg [o1 78 17 .mv,o1 79 15 .mv,o2 80 78 79 (.bin .sub),c2 81 80 (.int .i64 300) (.bin .gtr),o1 82 81 .mv,g1 83 82 12 .mv,g_ 84 82 true [s_ 83,k_ (.int .i64 300)] (.bin .gtr),m_ 85 [s_ 82,s_ 84,k_ (.bool false)] .pick]) (.cond (.slot 85) (.seq (.reg [o1 86 17 .mv,o1 87 15 .mv,o2 88 86 87 (.bin .sub),c2 89 88 (.int .i64 700) (.bin .gtr)]) (.cond (.slot 89) (.seq (.reg [c1 8 (.bool false) .mv]) .ret) .skip)) (.seq (.reg [o1 90 17 .mv,o1 91 15 .mv,o2 92 90 91 (.bin .sub),o1 93 12 .mv,o2 94 92 93 (.bin .gtr)]) (.cond (.slot 94) (.exit 2) .skip)))) (.seq (.dreg [o1 95 4 (.faddr false 0 1),o1 96 95 (.load false 1),o1 97 17 .mv,o1 98 12 .mv,o2 99 97 98 (.bin .rem),o1 100 13 .mv,o2 101 99 100 (.bin .mul),o2 102 96 101 (.bin .add),o1 18 102 .mv]) (.seq (.reg [o1 103 18 .mv,c2 104 103 (.int .i64 0) (.bin .lss),o1 105 104 .mv,g_ 106 105 false [s_ 18] .mv,g_ 107 105 false [s_ 106,k_ (.int .i64 255)] (.bin .gtr),m_ 108 [s_ 105,k_ (.bool true),s_ 107] .pick]) (.cond (.slot 108) (.seq (.reg [c1 8 (.bool false) .mv]) .ret) .skip))))) (.reg [o1 76 17 .mv,c2 77 76 (.int .i64 1) (.bin .add),o1 17 77 .mv])))))))) (.reg [o1 56 14 .mv,c2 57 56 (.int .i64 1) (.bin .add),o1 14 57 .mv])))))) (.seq (.reg [c1 8 (.bool true) .mv]) .ret))))))))
theorem zlm:z0j Tryz.prog 82 4=some ⟨109,4,[(.slot 8)],zc0⟩:=by kernel_rfl
def zc1:AC:=(.seq (.reg [o1 2 0 .box,c1 4 (.bool false) .mv]) (.seq (.reg [o1 5 2 (.faddr false 0 1),o1 6 5 (.load false 1),c2 7 6 (.int .i64 0) (.bin .geq),o1 8 7 .mv,g1 9 8 2 (.faddr false 0 1),g1 10 8 9 (.load false 1),g1 11 8 1 .mv,g2 12 8 10 11 (.bin .lss),m_ 13 [s_ 8,s_ 12,k_ (.bool false)] .pick,o1 14 13 .mv,g1 15 14 2 (.load true 4),g_ 16 14 true [k_ (.fn 101 []),s_ 15] .call,m_ 17 [s_ 14,s_ 16,k_ (.bool false)] .pick,o1 4 17 .mv]) .ret))
theorem zln:z0j Tryz.prog 86 2=some ⟨18,2,[(.slot 4)],zc1⟩:=by kernel_rfl
def zc2:AC:=(.seq (.reg [o1 2 0 .box,c1 4 (.int .i64 0) .mv,c1 5 (.bool false) .mv]) (.seq (.seq (.reg [o1 6 2 (.load true 4),k1 7 101 6,o1 8 7 (.un .not),o1 9 8 .mv,g_ 10 9 false [s_ 1] .mv,g_ 11 9 false [s_ 10,k_ (.int .i64 0)] (.bin .lss),m_ 12 [s_ 9,k_ (.bool true),s_ 11] .pick,o1 13 12 .mv,g_ 14 13 false [s_ 1] .mv,g_ 15 13 false [s_ 14,k_ (.int .i64 2097151)] (.bin .gtr),m_ 16 [s_ 13,k_ (.bool true),s_ 15] .pick]) (.cond (.slot 16) (.seq (.reg [c1 4 (.int .i64 0) .mv,c1 5 (.bool false) .mv]) .ret) .skip)) (.seq (.dreg [o1 17 1 .mv,o1 18 2 (.faddr false 1 1),o1 19 18 (.load false 1),o2 20 17 19 (.bin .shr),o1 21 2 (.faddr false 2 1),o1 22 21 (.load false 1),m_ 23 [k_ (.int .i64 1),s_ 22] (.bin .shl),c2 24 23 (.int .i64 1) (.bin .sub),o2 25 20 24 (.bin .and),o1 26 2 (.faddr false 3 1),o1 27 26 (.load false 1),o2 28 25 27 (.bin .shl),o1 4 28 .mv,c1 5 (.bool true) .mv]) .ret)))
theorem zlo:z0j Tryz.prog 87 2=some ⟨29,2,[(.slot 4),(.slot 5)],zc2⟩:=by kernel_rfl
def zc3:AC:=(.seq (.reg [o1 1 0 .box,o0 2 (.alloc (.agg [(.int .i64 0),(.int .i64 0),(.int .i64 0),(.int .i64 0)]) 4)]) (.seq (.reg [o1 3 1 (.faddr false 1 1),o1 4 3 (.load false 1),o1 5 1 (.faddr false 2 1),o1 6 5 (.load false 1),o1 7 1 (.faddr false 3 1),o1 8 7 (.load false 1),o3 9 4 6 8 (.build [(.int .i64 0),(.int .i64 0),(.int .i64 0),(.int .i64 0)] [(0,1),(1,1),(2,1),(3,1)] [1,2,3]),n2 2 9 (.store 4)]) .ret))
theorem zlp:z0j Tryz.prog 88 1=some ⟨10,1,[(.cell 2 true 4)],zc3⟩:=by kernel_rfl
def z7f:AC:=(.seq (.reg [c1 2 (.int .i64 0) .mv]) (.seq (.cond (.const (.bool false)) (.seq (.reg [o1 3 0 .mv,o1 4 3 (.conv .u32),k1 5 110 4,o1 2 5 .mv]) .ret) .skip) (.seq (.reg [o1 6 0 .mv,k1 7 111 6,o1 2 7 .mv]) .ret)))
theorem zdx:z0j Tryz.prog 90 1=some ⟨8,1,[(.slot 2)],z7f⟩:=by kernel_rfl
def zc4:AC:=(.seq (.reg [c1 2 (.bool false) .mv]) (.seq (.reg [c1 3 (.int .i64 (-1073741826)) .mv]) (.seq (.seq (.reg [o1 6 0 .mv,o1 7 6 (.len false),c1 8 (.int .i64 0) .mv]) (.block 0 (.loop (.seq (.reg [o2 9 8 7 (.bin .lss)]) (.seq (.cond (.slot 9) .skip (.exit 0)) (.seq (.block 1 (.seq (.reg [o2 10 6 8 (.iaddr 2),o1 11 10 (.load true 2),o0 5 (.alloc (.agg [(.int .i64 0),(.int .i64 0)]) 2),n2 5 11 (.store 2)]) (.seq (.seq (.reg [o1 12 5 (.faddr false 0 1),o1 13 12 (.load false 1),o1 14 5 (.faddr false 1 1),o1 15 14 (.load false 1),o2 16 13 15 (.bin .gtr),o1 17 16 .mv,g_ 18 17 false [s_ 5] (.faddr false 0 1),g_ 19 17 false [s_ 18] (.load false 1),g_ 20 17 false [s_ 19,k_ (.int .i64 (-1073741824))] (.bin .lss),m_ 21 [s_ 17,k_ (.bool true),s_ 20] .pick,o1 22 21 .mv,g_ 23 22 false [s_ 5] (.faddr false 1 1),g_ 24 22 false [s_ 23] (.load false 1),g_ 25 22 false [s_ 24,k_ (.int .i64 1073741824)] (.bin .gtr),m_ 26 [s_ 22,k_ (.bool true),s_ 25] .pick,o1 27 26 .mv,g_ 28 27 false [s_ 5] (.faddr false 0 1),g_ 29 27 false [s_ 28] (.load false 1),g_ 30 27 false [s_ 3] .mv,g_ 31 27 false [s_ 30,k_ (.int .i64 1)] (.bin .add),g_ 32 27 false [s_ 29,s_ 31] (.bin .leq),m_ 33 [s_ 27,k_ (.bool true),s_ 32] .pick]) (.cond (.slot 33) (.seq (.reg [c1 2 (.bool false) .mv]) .ret) .skip)) (.reg [o1 34 5 (.faddr false 1 1),o1 35 34 (.load false 1),o1 3 35 .mv])))) (.reg [c2 36 8 (.int .i64 1) (.bin .add),o1 8 36 .mv]))))))) (.seq (.reg [c1 2 (.bool true) .mv]) .ret))))
theorem zlq:z0j Tryz.prog 93 1=some ⟨37,1,[(.slot 2)],zc4⟩:=by kernel_rfl
def za1:AC:=(.seq (.reg [c1 4 (.bool false) .mv]) (.seq (.reg [o1 5 0 .mv,o1 6 1 .mv,k2 7 113 5 6,o1 8 7 (.len false),c2 9 8 (.int .i64 0) (.bin .eql),o1 4 9 .mv]) .ret))
theorem zio:z0j Tryz.prog 94 2=some ⟨10,2,[(.slot 4)],za1⟩:=by kernel_rfl
def zdy:AC:=(.seq (.reg [o1 4 0 .box,c1 8 (.bool false) .mv]) (.seq (.seq (.reg [o1 11 4 (.load true 6),o1 12 1 .mv,o1 13 2 .mv,o1 14 3 .mv,o1 15 14 (.len false),m_ 16 [k_ (.fn 114 []),s_ 11,s_ 12,s_ 13,s_ 15] .call,o1 17 16 (.un .not)]) (.cond (.slot 17) (.seq (.reg [c1 8 (.bool false) .mv]) .ret) .skip)) (.seq (.reg [o1 19 4 (.load true 6),o1 20 3 .mv,k2 21 115 19 20,o1 18 21 .mv,o1 22 18 (.extract 0),o1 23 18 (.extract 1),o1 9 22 .mv,o1 10 23 .mv]) (.seq (.reg [o1 24 10 .mv,o1 25 24 .mv,g1 26 25 9 .mv,g1 27 25 2 .mv,g_ 28 25 true [k_ (.fn 49 []),s_ 27] .call,g_ 29 25 true [k_ (.fn 94 []),s_ 26,s_ 28] .call,m_ 30 [s_ 25,s_ 29,k_ (.bool false)] .pick,o1 8 30 .mv]) .ret))))
theorem zns:z0j Tryz.prog 95 4=some ⟨31,4,[(.slot 8)],zdy⟩:=by kernel_rfl
def z7g:AC:=(.seq (.reg [c1 4 .nilS .mv]) (.seq (.reg [c1 9 (.int .i64 (-1073741824)) (.bslice 1 1 (.int .i64 0) [0]),o1 5 9 .mv]) (.seq (.seq (.reg [c1 6 (.int .i64 0) .mv]) (.block 0 (.loop (.seq (.seq (.reg [o1 10 6 .mv,c2 11 10 (.int .i64 2) (.bin .lss)]) (.cond (.slot 11) .skip (.exit 0))) (.seq (.block 1 (.seq (.reg [o1 14 0 .mv,o1 7 14 .mv]) (.seq (.seq (.reg [o1 15 6 .mv,c2 16 15 (.int .i64 1) (.bin .eql)]) (.cond (.slot 16) (.reg [o1 17 1 .mv,o1 7 17 .mv]) .skip)) (.seq (.reg [c1 8 (.int .i64 0) .mv]) (.block 2 (.loop (.seq (.seq (.reg [o1 18 8 .mv,o1 19 7 .mv,o1 20 19 (.len false),o2 21 18 20 (.bin .lss)]) (.cond (.slot 21) .skip (.exit 2))) (.seq (.block 3 (.seq (.seq (.reg [o1 24 7 .mv,o1 25 8 .mv,o2 26 24 25 (.iaddr 2),o1 27 26 (.faddr false 0 1),o1 28 27 (.load false 1),c2 29 28 (.int .i64 (-1073741824)) (.bin .gtr),o1 30 29 .mv,g1 31 30 7 .mv,g1 32 30 8 .mv,g2 33 30 31 32 (.iaddr 2),g1 34 30 33 (.faddr false 0 1),g1 35 30 34 (.load false 1),g_ 36 30 true [s_ 35,k_ (.int .i64 1073741824)] (.bin .leq),m_ 37 [s_ 30,s_ 36,k_ (.bool false)] .pick]) (.cond (.slot 37) (.reg [o1 38 5 .mv,o1 39 7 .mv,o1 40 8 .mv,o2 41 39 40 (.iaddr 2),o1 42 41 (.faddr false 0 1),o1 43 42 (.load false 1),k2 44 116 38 43,o1 5 44 .mv]) .skip)) (.seq (.reg [o1 45 7 .mv,o1 46 8 .mv,o2 47 45 46 (.iaddr 2),o1 48 47 (.faddr false 1 1),o1 49 48 (.load false 1),c2 50 49 (.int .i64 (-1073741824)) (.bin .geq),o1 51 50 .mv,g1 52 51 7 .mv,g1 53 51 8 .mv,g2 54 51 52 53 (.iaddr 2),g1 55 51 54 (.faddr false 1 1),g1 56 51 55 (.load false 1),g_ 57 51 true [s_ 56,k_ (.int .i64 1073741824)] (.bin .lss),m_ 58 [s_ 51,s_ 57,k_ (.bool false)] .pick]) (.cond (.slot 58) (.reg [o1 59 5 .mv,o1 60 7 .mv,o1 61 8 .mv,o2 62 60 61 (.iaddr 2),o1 63 62 (.faddr false 1 1),o1 64 63 (.load false 1),c2 65 64 (.int .i64 1) (.bin .add),k2 66 116 59 65,o1 5 66 .mv]) .skip)))) (.reg [o1 22 8 .mv,c2 23 22 (.int .i64 1) (.bin .add),o1 8 23 .mv]))))))))) (.reg [o1 12 6 .mv,c2 13 12 (.int .i64 1) (.bin .add),o1 6 13 .mv])))))) (.seq (.reg [o1 67 5 .mv,o1 4 67 .mv]) .ret))))
theorem zdz:z0j Tryz.prog 96 2=some ⟨68,2,[(.slot 4)],z7g⟩:=by kernel_rfl
def ze0:AC:=(.seq (.reg [c1 4 (.bool false) .mv]) (.seq (.seq (.reg [c1 5 (.int .i64 0) .mv]) (.block 0 (.loop (.seq (.seq (.reg [o1 6 5 .mv,o1 7 0 .mv,o1 8 7 (.len false),o2 9 6 8 (.bin .lss)]) (.cond (.slot 9) .skip (.exit 0))) (.seq (.block 1 (.seq (.reg [o1 12 0 .mv,o1 13 5 .mv,o2 14 12 13 (.iaddr 2),o1 15 14 (.faddr false 0 1),o1 16 15 (.load false 1),o1 17 1 .mv,o2 18 16 17 (.bin .leq),o1 19 18 .mv,g1 20 19 1 .mv,g1 21 19 0 .mv,g1 22 19 5 .mv,g2 23 19 21 22 (.iaddr 2),g1 24 19 23 (.faddr false 1 1),g1 25 19 24 (.load false 1),g2 26 19 20 25 (.bin .leq),m_ 27 [s_ 19,s_ 26,k_ (.bool false)] .pick,o1 28 27 .mv,g1 29 28 1 .mv,g_ 30 28 true [s_ 29,k_ (.int .i64 (-1073741824))] (.bin .geq),m_ 31 [s_ 28,s_ 30,k_ (.bool false)] .pick,o1 32 31 .mv,g1 33 32 1 .mv,g_ 34 32 true [s_ 33,k_ (.int .i64 1073741824)] (.bin .leq),m_ 35 [s_ 32,s_ 34,k_ (.bool false)] .pick]) (.cond (.slot 35) (.seq (.reg [c1 4 (.bool true) .mv]) .ret) .skip))) (.reg [o1 10 5 .mv,c2 11 10 (.int .i64 1) (.bin .add),o1 5 11 .mv])))))) (.seq (.reg [c1 4 (.bool false) .mv]) .ret)))
theorem znt:z0j Tryz.prog 97 2=some ⟨36,2,[(.slot 4)],ze0⟩:=by kernel_rfl
def za2:AC:=(.seq (.reg [o1 4 0 .box,c1 8 (.bool false) .mv]) (.seq (.seq (.reg [o1 10 1 .mv,c2 11 10 (.int .i64 1) (.bin .neq),o1 12 11 .mv,g1 13 12 1 .mv,g_ 14 12 true [s_ 13,k_ (.int .i64 2)] (.bin .neq),m_ 15 [s_ 12,s_ 14,k_ (.bool false)] .pick,o1 16 15 .mv,g_ 17 16 false [s_ 2] .mv,g_ 18 16 false [s_ 17,k_ (.int .i64 1)] (.bin .neq),g_ 19 16 false [s_ 18] .mv,g1 20 19 2 .mv,g_ 21 19 true [s_ 20,k_ (.int .i64 2)] (.bin .neq),g_ 22 16 false [s_ 19,s_ 21,k_ (.bool false)] .pick,m_ 23 [s_ 16,k_ (.bool true),s_ 22] .pick,o1 24 23 .mv,g_ 25 24 false [s_ 4] (.load true 6),g_ 26 24 false [k_ (.fn 117 []),s_ 25] .call,g_ 27 24 false [s_ 26] (.un .not),m_ 28 [s_ 24,k_ (.bool true),s_ 27] .pick]) (.cond (.slot 28) (.seq (.reg [c1 8 (.bool false) .mv]) .ret) .skip)) (.seq (.seq (.reg [c1 9 (.int .i64 0) .mv]) (.block 0 (.loop (.seq (.seq (.reg [o1 29 9 .mv,o1 30 4 (.faddr false 5 1),o1 31 30 (.load false 1),o1 32 31 (.len false),o2 33 29 32 (.bin .lss)]) (.cond (.slot 33) .skip (.exit 0))) (.seq (.block 1 (.seq (.reg [o1 36 4 (.faddr false 5 1),o1 37 36 (.load false 1),o1 38 9 .mv,o2 39 37 38 (.iaddr 4),o1 40 39 (.load true 4),o1 41 3 .mv,k2 42 118 40 41,o1 43 42 (.un .not),o1 44 43 .mv,g_ 45 44 false [s_ 1] .mv,g_ 46 44 false [s_ 45,k_ (.int .i64 2)] (.bin .eql),g_ 47 44 false [s_ 46] .mv,g1 48 47 9 .mv,g_ 49 47 true [s_ 48,k_ (.int .i64 0)] (.bin .gtr),g1 50 47 49 .mv,g_ 51 50 false [s_ 4] (.faddr false 5 1),g_ 52 50 false [s_ 51] (.load false 1),g_ 53 50 false [s_ 9] .mv,g_ 54 50 false [s_ 52,s_ 53] (.iaddr 4),g_ 55 50 false [s_ 54] (.load true 4),g_ 56 50 false [k_ (.fn 119 []),s_ 55] .call,g_ 57 50 false [s_ 56] (.un .not),g_ 58 47 true [s_ 50,k_ (.bool true),s_ 57] .pick,g_ 59 44 false [s_ 47,s_ 58,k_ (.bool false)] .pick,m_ 60 [s_ 44,k_ (.bool true),s_ 59] .pick]) (.cond (.slot 60) (.seq (.reg [c1 8 (.bool false) .mv]) .ret) .skip))) (.reg [o1 34 9 .mv,c2 35 34 (.int .i64 1) (.bin .add),o1 9 35 .mv])))))) (.seq (.reg [o1 61 2 .mv,c2 62 61 (.int .i64 1) (.bin .eql),o1 63 62 .mv,g_ 64 63 false [s_ 4] (.load true 6),g_ 65 63 false [k_ (.fn 120 []),s_ 64] .call,m_ 66 [s_ 63,k_ (.bool true),s_ 65] .pick,o1 8 66 .mv]) .ret))))
theorem ziq:z0j Tryz.prog 98 4=some ⟨67,4,[(.slot 8)],za2⟩:=by kernel_rfl
def za3:AC:=(.seq (.reg [o1 3 0 .box,c1 6 .nilS .mv,c1 7 (.bool false) .mv]) (.seq (.seq (.reg [o1 19 1 .mv,c2 20 19 (.int .i64 2) (.bin .eql),o1 21 20 .mv,g1 22 21 3 (.faddr false 5 1),g1 23 21 22 (.load false 1),g1 24 21 23 (.len false),g_ 25 21 true [s_ 24,k_ (.int .i64 1)] (.bin .eql),m_ 26 [s_ 21,s_ 25,k_ (.bool false)] .pick]) (.cond (.slot 26) (.seq (.dreg [o1 27 2 .mv,o1 28 3 (.faddr false 5 1),o1 29 28 (.load false 1),c2 30 29 (.int .i64 0) (.iaddr 4),o1 31 30 (.faddr false 0 1),o1 32 31 (.load false 1),o2 33 27 32 (.iaddr 1),o1 34 33 (.load false 1),k1 35 79 34,o1 36 3 (.faddr false 4 1),o1 37 36 (.load false 1),k2 38 121 35 37,o1 8 38 .mv]) (.seq (.dreg [o1 39 8 .mv,o1 40 8 .mv,c2 41 40 (.int .i64 0) (.iaddr 2),o1 42 41 (.faddr false 0 1),o1 43 42 (.load false 1),c2 44 43 (.int .i64 0) (.bin .geq),o1 45 44 .mv,g1 46 45 8 .mv,g1 47 45 8 .mv,g1 48 45 47 (.len false),g_ 49 45 true [s_ 48,k_ (.int .i64 1)] (.bin .sub),g2 50 45 46 49 (.iaddr 2),g1 51 45 50 (.faddr false 1 1),g1 52 45 51 (.load false 1),g_ 53 45 true [s_ 52,k_ (.int .i64 1114111)] (.bin .leq),m_ 54 [s_ 45,s_ 53,k_ (.bool false)] .pick,o1 6 39 .mv,o1 7 54 .mv]) .ret)) .skip)) (.seq (.reg [o1 55 3 (.faddr false 4 1),o1 56 55 (.load false 1),o1 57 56 (.bslice 1 1 (.int .i64 0) [0]),o1 9 57 .mv]) (.seq (.seq (.reg [c1 10 (.int .i64 0) .mv]) (.block 0 (.loop (.seq (.seq (.reg [o1 58 10 .mv,o1 59 2 .mv,o1 60 59 (.len false),o2 61 58 60 (.bin .lss)]) (.cond (.slot 61) .skip (.exit 0))) (.seq (.block 1 (.seq (.reg [c1 11 .nilS .mv]) (.seq (.reg [c1 12 (.bool false) .mv]) (.seq (.seq (.reg [c1 13 (.int .i64 0) .mv]) (.block 2 (.loop (.seq (.seq (.reg [o1 64 13 .mv,c2 65 64 (.int .i64 256) (.bin .lss),o1 66 65 .mv,g1 67 66 1 .mv,g_ 68 66 true [s_ 67,k_ (.int .i64 1)] (.bin .eql),m_ 69 [s_ 66,s_ 68,k_ (.bool false)] .pick]) (.cond (.slot 69) .skip (.exit 2))) (.seq (.block 3 (.seq (.seq (.reg [o1 72 2 .mv,o1 73 10 .mv,o2 74 72 73 (.iaddr 1),o1 75 74 (.load false 1),o1 76 13 .mv,k2 77 97 75 76,o1 78 77 (.un .not)]) (.cond (.slot 78) (.exit 3) .skip)) (.seq (.reg [c1 14 (.int .i64 0) .mv]) (.seq (.seq (.reg [c1 15 (.int .i64 0) .mv]) (.block 4 (.loop (.seq (.seq (.reg [o1 79 15 .mv,o1 80 3 (.faddr false 5 1),o1 81 80 (.load false 1),o1 82 81 (.len false),o2 83 79 82 (.bin .lss)]) (.cond (.slot 83) .skip (.exit 4))) (.seq (.block 5 (.seq (.reg [o1 86 3 (.faddr false 5 1),o1 87 86 (.load false 1),o1 88 15 .mv,o2 89 87 88 (.iaddr 4),o1 90 89 (.faddr false 0 1),o1 91 90 (.load false 1),o1 92 10 .mv,o2 93 91 92 (.bin .eql)]) (.cond (.slot 93) (.seq (.reg [o1 95 3 (.faddr false 5 1),o1 96 95 (.load false 1),o1 97 15 .mv,o2 98 96 97 (.iaddr 4),o1 99 98 (.load true 4),o1 100 13 .mv,k2 101 122 99 100,o1 94 101 .mv,o1 102 94 (.extract 0),o1 103 94 (.extract 1),o1 16 102 .mv,o1 17 103 .mv]) (.seq (.reg [o1 104 14 .mv,o1 105 16 .mv,o2 106 104 105 (.bin .add),o1 14 106 .mv]) (.reg [c1 12 (.bool true) .mv]))) .skip))) (.reg [o1 84 15 .mv,c2 85 84 (.int .i64 1) (.bin .add),o1 15 85 .mv])))))) (.reg [o1 107 11 .mv,o1 108 14 .mv,k2 109 123 107 108,o1 11 109 .mv]))))) (.reg [o1 70 13 .mv,c2 71 70 (.int .i64 1) (.bin .add),o1 13 71 .mv])))))) (.seq (.seq (.reg [o1 110 12 .mv,o1 111 110 (.un .not)]) (.cond (.slot 111) (.exit 1) .skip)) (.seq (.reg [c1 18 (.bool true) .mv]) (.seq (.reg [o1 113 9 .mv,o1 114 11 .mv,k2 115 124 113 114,o1 112 115 .mv,o1 116 112 (.extract 0),o1 117 112 (.extract 1),o1 9 116 .mv,o1 18 117 .mv]) (.seq (.reg [o1 118 18 .mv,o1 119 118 (.un .not)]) (.cond (.slot 119) (.seq (.reg [c1 6 .nilS .mv,c1 7 (.bool false) .mv]) .ret) .skip))))))))) (.reg [o1 62 10 .mv,c2 63 62 (.int .i64 1) (.bin .add),o1 10 63 .mv])))))) (.seq (.dreg [o1 120 9 .mv,k1 121 125 120,o1 122 9 .mv,c2 123 122 (.int .i64 0) (.iaddr 1),o1 124 123 (.load false 1),c2 125 124 (.int .i64 0) (.bin .geq),o1 126 125 .mv,g1 127 126 9 .mv,g1 128 126 9 .mv,g1 129 126 128 (.len false),g_ 130 126 true [s_ 129,k_ (.int .i64 1)] (.bin .sub),g2 131 126 127 130 (.iaddr 1),g1 132 126 131 (.load false 1),g_ 133 126 true [s_ 132,k_ (.int .i64 1114111)] (.bin .leq),m_ 134 [s_ 126,s_ 133,k_ (.bool false)] .pick,o1 6 121 .mv,o1 7 134 .mv]) .ret)))))
theorem zir:z0j Tryz.prog 99 3=some ⟨135,3,[(.slot 6),(.slot 7)],za3⟩:=by kernel_rfl
def ze1:AC:=(.seq (.reg [c1 2 (.int .i64 0) .mv]) (.seq (.reg [c1 3 (.int .i64 1) .mv]) (.seq (.seq (.reg [c1 4 (.int .i64 0) .mv]) (.block 0 (.loop (.seq (.seq (.reg [o1 5 4 .mv,o1 6 0 .mv,o2 7 5 6 (.bin .lss)]) (.cond (.slot 7) .skip (.exit 0))) (.seq (.block 1 (.reg [o1 10 3 .mv,m_ 11 [k_ (.int .i64 2),s_ 10] (.bin .mul),o1 3 11 .mv])) (.reg [o1 8 4 .mv,c2 9 8 (.int .i64 1) (.bin .add),o1 4 9 .mv])))))) (.seq (.reg [o1 12 3 .mv,o1 2 12 .mv]) .ret))))
theorem znu:z0j Tryz.prog 100 1=some ⟨13,1,[(.slot 2)],ze1⟩:=by kernel_rfl
def ze2:AC:=(.seq (.reg [o1 1 0 .box,c1 2 (.bool false) .mv]) (.seq (.reg [o1 3 1 (.faddr false 1 1),o1 4 3 (.load false 1),c2 5 4 (.int .i64 0) (.bin .geq),o1 6 5 .mv,g1 7 6 1 (.faddr false 1 1),g1 8 6 7 (.load false 1),g_ 9 6 true [s_ 8,k_ (.int .i64 21)] (.bin .lss),m_ 10 [s_ 6,s_ 9,k_ (.bool false)] .pick,o1 11 10 .mv,g1 12 11 1 (.faddr false 2 1),g1 13 11 12 (.load false 1),g_ 14 11 true [s_ 13,k_ (.int .i64 1)] (.bin .geq),m_ 15 [s_ 11,s_ 14,k_ (.bool false)] .pick,o1 16 15 .mv,g1 17 16 1 (.faddr false 2 1),g1 18 16 17 (.load false 1),g_ 19 16 true [s_ 18,k_ (.int .i64 21)] (.bin .leq),m_ 20 [s_ 16,s_ 19,k_ (.bool false)] .pick,o1 21 20 .mv,g1 22 21 1 (.faddr false 3 1),g1 23 21 22 (.load false 1),g_ 24 21 true [s_ 23,k_ (.int .i64 0)] (.bin .geq),m_ 25 [s_ 21,s_ 24,k_ (.bool false)] .pick,o1 26 25 .mv,g1 27 26 1 (.faddr false 3 1),g1 28 26 27 (.load false 1),g_ 29 26 true [s_ 28,k_ (.int .i64 21)] (.bin .lss),m_ 30 [s_ 26,s_ 29,k_ (.bool false)] .pick,o1 31 30 .mv,g1 32 31 1 (.faddr false 3 1),g1 33 31 32 (.load false 1),g_ 34 31 true [s_ 33,k_ (.int .i64 0)] (.bin .eql),g1 35 31 34 .mv,g_ 36 35 false [s_ 1] (.faddr false 2 1),g_ 37 35 false [s_ 36] (.load false 1),g_ 38 35 false [s_ 37,k_ (.int .i64 6)] (.bin .leq),g_ 39 31 true [s_ 35,k_ (.bool true),s_ 38] .pick,m_ 40 [s_ 31,s_ 39,k_ (.bool false)] .pick,o1 2 40 .mv]) .ret))
theorem znv:z0j Tryz.prog 101 1=some ⟨41,1,[(.slot 2)],ze2⟩:=by kernel_rfl
end Go.Proofs.YticodgjinajkpaaGreat
set_option maxRecDepth 100000
namespace Go.Proofs.YticodgjinajkpaaGreat
open Abs
def z6a:AC:=(.seq (.reg [c1 2 (.int .i64 0) .mv]) (.seq (.seq (.reg [o1 3 0 .mv,c2 4 3 (.int .u64 4294967296) (.bin .geq)]) (.cond (.slot 4) (.seq (.reg [o1 5 0 .mv,c2 6 5 (.int .u64 32) (.bin .shr),o1 0 6 .mv]) (.reg [c1 2 (.int .i64 32) .mv])) .skip)) (.seq (.seq (.reg [o1 7 0 .mv,c2 8 7 (.int .u64 65536) (.bin .geq)]) (.cond (.slot 8) (.seq (.reg [o1 9 0 .mv,c2 10 9 (.int .u64 16) (.bin .shr),o1 0 10 .mv]) (.reg [o1 11 2 .mv,c2 12 11 (.int .i64 16) (.bin .add),o1 2 12 .mv])) .skip)) (.seq (.seq (.reg [o1 13 0 .mv,c2 14 13 (.int .u64 256) (.bin .geq)]) (.cond (.slot 14) (.seq (.reg [o1 15 0 .mv,c2 16 15 (.int .u64 8) (.bin .shr),o1 0 16 .mv]) (.reg [o1 17 2 .mv,c2 18 17 (.int .i64 8) (.bin .add),o1 2 18 .mv])) .skip)) (.seq (.reg [o1 19 2 .mv,o1 20 0 .mv,o1 21 20 (.conv .u8),m_ 22 [k_ (.str [0,1,2,2,3,3,3,3,4,4,4,4,4,4,4,4,5,5,5,5,5,5,5,5,5,5,5,5,5,5,5,5,6,6,6,6,6,6,6,6,6,6,6,6,6,6,6,6,6,6,6,6,6,6,6,6,6,6,6,6,6,6,6,6,7,7,7,7,7,7,7,7,7,7,7,7,7,7,7,7,7,7,7,7,7,7,7,7,7,7,7,7,7,7,7,7,7,7,7,7,7,7,7,7,7,7,7,7,7,7,7,7,7,7,7,7,7,7,7,7,7,7,7,7,7,7,7,7,8,8,8,8,8,8,8,8,8,8,8,8,8,8,8,8,8,8,8,8,8,8,8,8,8,8,8,8,8,8,8,8,8,8,8,8,8,8,8,8,8,8,8,8,8,8,8,8,8,8,8,8,8,8,8,8,8,8,8,8,8,8,8,8,8,8,8,8,8,8,8,8,8,8,8,8,8,8,8,8,8,8,8,8,8,8,8,8,8,8,8,8,8,8,8,8,8,8,8,8,8,8,8,8,8,8,8,8,8,8,8,8,8,8,8,8,8,8,8,8,8,8,8,8,8,8,8,8]),s_ 21] .indexStr,o1 23 22 (.conv .i64),o2 24 19 23 (.bin .add),o1 2 24 .mv]) .ret)))))
theorem zb1:z0j Tryz.prog 111 1=some ⟨25,1,[(.slot 2)],z6a⟩:=by kernel_rfl
def zc5:AC:=(.seq (.reg [c1 4 .nilS .mv]) (.seq (.reg [c1 5 .nilS .mv]) (.seq (.reg [c1 6 (.int .i64 (-1073741824)) .mv]) (.seq (.seq (.reg [o1 9 1 .mv,k1 10 131 9,o1 11 10 (.len false),c1 12 (.int .i64 0) .mv]) (.block 0 (.loop (.seq (.reg [o2 13 12 11 (.bin .lss)]) (.seq (.cond (.slot 13) .skip (.exit 0)) (.seq (.block 1 (.seq (.reg [o2 14 10 12 (.iaddr 2),o1 15 14 (.load true 2),o0 8 (.alloc (.agg [(.int .i64 0),(.int .i64 0)]) 2),n2 8 15 (.store 2)]) (.seq (.reg [o1 16 5 .mv,o1 17 6 .mv,o1 18 8 (.faddr false 0 1),o1 19 18 (.load false 1),c2 20 19 (.int .i64 1) (.bin .sub),o2 21 17 20 (.build [(.int .i64 0),(.int .i64 0)] [(0,1),(1,1)] [0,1]),o1 22 21 (.bslice 2 1 (.agg [(.int .i64 0),(.int .i64 0)]) [0]),o2 23 16 22 (.app 2 16 (.agg [(.int .i64 0),(.int .i64 0)])),o1 5 23 .mv]) (.reg [o1 24 8 (.faddr false 1 1),o1 25 24 (.load false 1),c2 26 25 (.int .i64 1) (.bin .add),o1 6 26 .mv])))) (.reg [c2 27 12 (.int .i64 1) (.bin .add),o1 12 27 .mv]))))))) (.seq (.reg [o1 28 5 .mv,o1 29 6 .mv,c2 30 29 (.int .i64 1073741824) (.build [(.int .i64 0),(.int .i64 0)] [(0,1),(1,1)] [0,1]),o1 31 30 (.bslice 2 1 (.agg [(.int .i64 0),(.int .i64 0)]) [0]),o2 32 28 31 (.app 2 16 (.agg [(.int .i64 0),(.int .i64 0)])),o1 5 32 .mv]) (.seq (.reg [o1 33 0 .mv,o1 34 5 .mv,k2 35 132 33 34,o1 4 35 .mv]) .ret))))))
theorem zlr:z0j Tryz.prog 113 2=some ⟨36,2,[(.slot 4)],zc5⟩:=by kernel_rfl
def zc6:AC:=(.seq (.reg [o1 4 0 .box,c1 8 (.bool false) .mv]) (.seq (.seq (.reg [o1 11 1 .mv,k1 12 49 11,o1 13 12 (.len false),c2 14 13 (.int .i64 0) (.bin .eql),o1 15 14 .mv,g_ 16 15 false [s_ 2] .mv,g_ 17 15 false [k_ (.fn 49 []),s_ 16] .call,g_ 18 15 false [s_ 17] (.len false),g_ 19 15 false [s_ 18,k_ (.int .i64 0)] (.bin .eql),m_ 20 [s_ 15,k_ (.bool true),s_ 19] .pick,o1 21 20 .mv,g_ 22 21 false [s_ 4] (.load true 6),g_ 23 21 false [k_ (.fn 133 []),s_ 22] .call,g_ 24 21 false [s_ 23] (.un .not),m_ 25 [s_ 21,k_ (.bool true),s_ 24] .pick]) (.cond (.slot 25) (.seq (.reg [c1 8 (.bool false) .mv]) .ret) .skip)) (.seq (.seq (.reg [o1 26 4 (.faddr false 5 1),o1 27 26 (.load false 1),o1 28 27 (.len false),c1 29 (.int .i64 0) .mv]) (.block 0 (.loop (.seq (.reg [o2 30 29 28 (.bin .lss)]) (.seq (.cond (.slot 30) .skip (.exit 0)) (.seq (.block 1 (.seq (.reg [o2 31 27 29 (.iaddr 4),o1 32 31 (.load true 4),o0 10 (.alloc (.agg [(.int .i64 0),(.int .i64 0),(.int .i64 0),(.int .i64 0)]) 4),n2 10 32 (.store 4)]) (.seq (.dreg [o1 33 10 (.load true 4),o1 34 3 .mv,k2 35 86 33 34,o1 36 35 (.un .not),o1 37 36 .mv,g_ 38 37 false [s_ 1] .mv,g_ 39 37 false [s_ 38,k_ (.int .i64 2)] (.bin .eql),g_ 40 37 false [s_ 39] .mv,g1 41 40 10 (.load true 4),g1 42 40 10 (.faddr false 0 1),g1 43 40 42 (.load false 1),g_ 44 40 true [k_ (.fn 78 []),s_ 43] .call,g2 45 40 41 44 (.eqs true [1,1,1,1]),g_ 46 37 false [s_ 40,s_ 45,k_ (.bool false)] .pick,m_ 47 [s_ 37,k_ (.bool true),s_ 46] .pick]) (.cond (.slot 47) (.seq (.reg [c1 8 (.bool false) .mv]) .ret) .skip)))) (.reg [c2 48 29 (.int .i64 1) (.bin .add),o1 29 48 .mv]))))))) (.seq (.reg [o1 49 1 .mv,c2 50 49 (.int .i64 2) (.bin .neq),o1 51 50 .mv,g_ 52 51 false [s_ 4] (.faddr false 5 1),g_ 53 51 false [s_ 52] (.load false 1),g_ 54 51 false [s_ 53] (.len false),g_ 55 51 false [s_ 54,k_ (.int .i64 1)] (.bin .leq),m_ 56 [s_ 51,k_ (.bool true),s_ 55] .pick,o1 57 56 .mv,g1 58 57 2 .mv,g_ 59 57 true [s_ 58,k_ (.int .i64 2)] (.bin .neq),g1 60 57 59 .mv,g_ 61 60 false [s_ 4] (.load true 6),g_ 62 60 false [k_ (.fn 134 []),s_ 61] .call,g_ 63 57 true [s_ 60,k_ (.bool true),s_ 62] .pick,m_ 64 [s_ 57,s_ 63,k_ (.bool false)] .pick,o1 8 64 .mv]) .ret))))
theorem zls:z0j Tryz.prog 114 4=some ⟨65,4,[(.slot 8)],zc6⟩:=by kernel_rfl
def zc7:AC:=(.seq (.reg [o1 2 0 .box,c1 4 .nilS .mv,c1 5 (.bool false) .mv]) (.seq (.reg [o1 9 2 (.load true 6),o1 10 1 .mv,k2 11 135 9 10,o1 8 11 .mv,o1 12 8 (.extract 0),o1 13 8 (.extract 1),o1 6 12 .mv,o1 7 13 .mv]) (.seq (.seq (.reg [o1 14 7 .mv,o1 15 14 (.un .not)]) (.cond (.slot 15) (.seq (.reg [c1 4 .nilS .mv,c1 5 (.bool false) .mv]) .ret) .skip)) (.seq (.seq (.reg [o1 16 6 .mv,o1 17 16 (.len false),c2 18 17 (.int .i64 0) (.bin .eql)]) (.cond (.slot 18) (.seq (.reg [c1 4 .nilS .mv,c1 5 (.bool true) .mv]) .ret) .skip)) (.seq (.dreg [o1 19 2 (.load true 6),k1 20 88 19,o1 21 6 .mv,k2 22 137 20 21,o1 23 2 (.faddr false 0 1),o1 24 23 (.load false 1),k2 25 136 22 24,o1 4 25 .mv,c1 5 (.bool true) .mv]) .ret)))))
theorem zlt:z0j Tryz.prog 115 2=some ⟨26,2,[(.slot 4),(.slot 5)],zc7⟩:=by kernel_rfl
def ze3:AC:=(.seq (.reg [c1 4 .nilS .mv]) (.seq (.reg [o1 9 0 .mv,o1 10 9 (.len false),c1 5 (.int .i64 0) .mv,o1 6 10 .mv]) (.seq (.block 0 (.loop (.seq (.seq (.reg [o1 11 5 .mv,o1 12 6 .mv,o2 13 11 12 (.bin .lss)]) (.cond (.slot 13) .skip (.exit 0))) (.block 1 (.seq (.reg [o1 14 5 .mv,o1 15 6 .mv,o2 16 14 15 (.bin .add),c2 17 16 (.int .i64 2) (.bin .quo),o1 7 17 .mv]) (.seq (.reg [o1 18 0 .mv,o1 19 7 .mv,o2 20 18 19 (.iaddr 1),o1 21 20 (.load false 1),o1 22 1 .mv,o2 23 21 22 (.bin .lss)]) (.cond (.slot 23) (.reg [o1 24 7 .mv,c2 25 24 (.int .i64 1) (.bin .add),o1 5 25 .mv]) (.reg [o1 26 7 .mv,o1 6 26 .mv])))))))) (.seq (.seq (.reg [o1 27 5 .mv,o1 28 0 .mv,o1 29 28 (.len false),o2 30 27 29 (.bin .lss),o1 31 30 .mv,g1 32 31 0 .mv,g1 33 31 5 .mv,g2 34 31 32 33 (.iaddr 1),g1 35 31 34 (.load false 1),g1 36 31 1 .mv,g2 37 31 35 36 (.bin .eql),m_ 38 [s_ 31,s_ 37,k_ (.bool false)] .pick]) (.cond (.slot 38) (.seq (.reg [o1 39 0 .mv,o1 4 39 .mv]) .ret) .skip)) (.seq (.reg [o1 40 0 .mv,c1 41 (.int .i64 0) (.bslice 1 1 (.int .i64 0) [0]),o2 42 40 41 (.app 1 8 (.int .i64 0)),o1 0 42 .mv]) (.seq (.seq (.reg [o1 43 0 .mv,o1 44 43 (.len false),c2 45 44 (.int .i64 1) (.bin .sub),o1 8 45 .mv]) (.block 2 (.loop (.seq (.seq (.reg [o1 46 8 .mv,o1 47 5 .mv,o2 48 46 47 (.bin .gtr)]) (.cond (.slot 48) .skip (.exit 2))) (.seq (.block 3 (.reg [o1 51 0 .mv,o1 52 8 .mv,o1 53 0 .mv,o1 54 8 .mv,c2 55 54 (.int .i64 1) (.bin .sub),o2 56 53 55 (.iaddr 1),o1 57 56 (.load false 1),o2 58 51 52 (.iaddr 1),n2 58 57 (.store 1)])) (.reg [o1 49 8 .mv,c2 50 49 (.int .i64 1) (.bin .sub),o1 8 50 .mv])))))) (.seq (.reg [o1 59 0 .mv,o1 60 5 .mv,o1 61 1 .mv,o2 62 59 60 (.iaddr 1),n2 62 61 (.store 1)]) (.seq (.reg [o1 63 0 .mv,o1 4 63 .mv]) .ret))))))))
theorem znw:z0j Tryz.prog 116 2=some ⟨64,2,[(.slot 4)],ze3⟩:=by kernel_rfl
def z7h:AC:=(.seq (.reg [o1 1 0 .box,c1 2 (.bool false) .mv]) (.seq (.seq (.reg [o1 4 1 (.faddr false 0 1),o1 5 4 (.load false 1),k1 6 138 5,o1 7 6 (.un .not),o1 8 7 .mv,g_ 9 8 false [s_ 1] (.faddr false 4 1),g_ 10 8 false [s_ 9] (.load false 1),g_ 11 8 false [k_ (.fn 138 []),s_ 10] .call,g_ 12 8 false [s_ 11] (.un .not),m_ 13 [s_ 8,k_ (.bool true),s_ 12] .pick,o1 14 13 .mv,g_ 15 14 false [s_ 1] (.load true 6),g_ 16 14 false [k_ (.fn 140 []),s_ 15] .call,g_ 17 14 false [k_ (.fn 139 []),s_ 16] .call,g_ 18 14 false [s_ 17] (.un .not),m_ 19 [s_ 14,k_ (.bool true),s_ 18] .pick,o1 20 19 .mv,g_ 21 20 false [s_ 1] (.faddr false 5 1),g_ 22 20 false [s_ 21] (.load false 1),g_ 23 20 false [s_ 22] (.len false),g_ 24 20 false [s_ 23,k_ (.int .i64 4)] (.bin .gtr),m_ 25 [s_ 20,k_ (.bool true),s_ 24] .pick]) (.cond (.slot 25) (.seq (.reg [c1 2 (.bool false) .mv]) .ret) .skip)) (.seq (.seq (.reg [c1 3 (.int .i64 1) .mv]) (.block 0 (.loop (.seq (.seq (.reg [o1 26 3 .mv,o1 27 1 (.faddr false 5 1),o1 28 27 (.load false 1),o1 29 28 (.len false),o2 30 26 29 (.bin .lss)]) (.cond (.slot 30) .skip (.exit 0))) (.seq (.block 1 (.seq (.dreg [o1 33 1 (.faddr false 5 1),o1 34 33 (.load false 1),o1 35 3 .mv,o2 36 34 35 (.iaddr 4),o1 37 36 (.faddr false 3 1),o1 38 37 (.load false 1),o1 39 1 (.faddr false 5 1),o1 40 39 (.load false 1),o1 41 3 .mv,c2 42 41 (.int .i64 1) (.bin .sub),o2 43 40 42 (.iaddr 4),o1 44 43 (.faddr false 3 1),o1 45 44 (.load false 1),o2 46 38 45 (.bin .leq)]) (.cond (.slot 46) (.seq (.reg [c1 2 (.bool false) .mv]) .ret) .skip))) (.reg [o1 31 3 .mv,c2 32 31 (.int .i64 1) (.bin .add),o1 3 32 .mv])))))) (.seq (.reg [c1 2 (.bool true) .mv]) .ret))))
theorem ze4:z0j Tryz.prog 117 1=some ⟨47,1,[(.slot 2)],z7h⟩:=by kernel_rfl
def za4:AC:=(.seq (.reg [o1 2 0 .box,c1 4 (.bool false) .mv]) (.seq (.reg [o1 5 2 (.load true 4),k1 6 139 5,o1 7 6 .mv,g1 8 7 2 (.faddr false 0 1),g1 9 7 8 (.load false 1),g_ 10 7 true [s_ 9,k_ (.int .i64 0)] (.bin .geq),m_ 11 [s_ 7,s_ 10,k_ (.bool false)] .pick,o1 12 11 .mv,g1 13 12 2 (.faddr false 0 1),g1 14 12 13 (.load false 1),g1 15 12 1 .mv,g2 16 12 14 15 (.bin .lss),m_ 17 [s_ 12,s_ 16,k_ (.bool false)] .pick,o1 4 17 .mv]) .ret))
theorem zis:z0j Tryz.prog 118 2=some ⟨18,2,[(.slot 4)],za4⟩:=by kernel_rfl
def ze5:AC:=(.seq (.reg [o1 1 0 .box,c1 2 (.bool false) .mv]) (.seq (.reg [o1 3 1 (.faddr false 1 1),o1 4 3 (.load false 1),c2 5 4 (.int .i64 0) (.bin .eql),o1 6 5 .mv,g1 7 6 1 (.faddr false 2 1),g1 8 6 7 (.load false 1),g_ 9 6 true [s_ 8,k_ (.int .i64 21)] (.bin .eql),m_ 10 [s_ 6,s_ 9,k_ (.bool false)] .pick,o1 11 10 .mv,g1 12 11 1 (.faddr false 3 1),g1 13 11 12 (.load false 1),g_ 14 11 true [s_ 13,k_ (.int .i64 0)] (.bin .eql),m_ 15 [s_ 11,s_ 14,k_ (.bool false)] .pick,o1 2 15 .mv]) .ret))
theorem znx:z0j Tryz.prog 119 1=some ⟨16,1,[(.slot 2)],ze5⟩:=by kernel_rfl
def za5:AC:=(.seq (.reg [o1 1 0 .box,c1 2 (.bool false) .mv]) (.seq (.reg [o1 3 1 (.faddr false 0 1),o1 4 3 (.load false 1),c2 5 4 (.int .i64 0) (.bin .eql),o1 6 5 .mv,g1 7 6 1 (.load true 6),g_ 8 6 true [k_ (.fn 140 []),s_ 7] .call,g_ 9 6 true [k_ (.fn 119 []),s_ 8] .call,m_ 10 [s_ 6,s_ 9,k_ (.bool false)] .pick,o1 2 10 .mv]) .ret))
theorem zit:z0j Tryz.prog 120 1=some ⟨11,1,[(.slot 2)],za5⟩:=by kernel_rfl
def zc8:AC:=(.seq (.reg [c1 4 .nilS .mv]) (.seq (.seq (.reg [o1 8 1 .mv,c2 9 8 (.int .i64 2147483648) (.bin .gtr),o1 10 9 .mv,g_ 11 10 false [s_ 1] .mv,g_ 12 10 false [s_ 11,k_ (.int .i64 (-2147483648))] (.bin .lss),m_ 13 [s_ 10,k_ (.bool true),s_ 12] .pick]) (.cond (.slot 13) (.seq (.reg [c1 4 .nilS .mv]) .ret) .skip)) (.seq (.reg [o1 14 0 .mv,k1 15 79 14,o1 5 15 .mv]) (.seq (.reg [c1 6 .nilS .mv]) (.seq (.seq (.reg [c1 7 (.int .i64 0) .mv]) (.block 0 (.loop (.seq (.seq (.reg [o1 16 7 .mv,o1 17 5 .mv,o1 18 17 (.len false),o2 19 16 18 (.bin .lss)]) (.cond (.slot 19) .skip (.exit 0))) (.seq (.block 1 (.dtl [o1 22 6 .mv,o1 23 5 .mv,o1 24 7 .mv,o2 25 23 24 (.iaddr 2),o1 26 25 (.faddr false 0 1),o1 27 26 (.load false 1),o1 28 1 .mv,o2 29 27 28 (.bin .add),o1 30 5 .mv,o1 31 7 .mv,o2 32 30 31 (.iaddr 2),o1 33 32 (.faddr false 1 1),o1 34 33 (.load false 1),o1 35 1 .mv,o2 36 34 35 (.bin .add),o2 37 29 36 (.build [(.int .i64 0),(.int .i64 0)] [(0,1),(1,1)] [0,1]),o1 38 37 (.bslice 2 1 (.agg [(.int .i64 0),(.int .i64 0)]) [0])] [o2 39 22 38 (.app 2 16 (.agg [(.int .i64 0),(.int .i64 0)])),o1 6 39 .mv])) (.reg [o1 20 7 .mv,c2 21 20 (.int .i64 1) (.bin .add),o1 7 21 .mv])))))) (.seq (.reg [o1 40 6 .mv,k1 41 79 40,o1 4 41 .mv]) .ret))))))
theorem zlu:z0j Tryz.prog 121 2=some ⟨42,2,[(.slot 4)],zc8⟩:=by kernel_rfl
def za6:AC:=(.seq (.reg [o1 2 0 .box,c1 4 (.int .i64 0) .mv,c1 5 (.bool false) .mv]) (.seq (.seq (.reg [o1 6 2 (.load true 4),k1 7 139 6,o1 8 7 (.un .not),o1 9 8 .mv,g_ 10 9 false [s_ 1] .mv,g_ 11 9 false [s_ 10,k_ (.int .i64 0)] (.bin .lss),m_ 12 [s_ 9,k_ (.bool true),s_ 11] .pick,o1 13 12 .mv,g_ 14 13 false [s_ 1] .mv,g_ 15 13 false [s_ 14,k_ (.int .i64 2097152)] (.bin .geq),m_ 16 [s_ 13,k_ (.bool true),s_ 15] .pick]) (.cond (.slot 16) (.seq (.reg [c1 4 (.int .i64 0) .mv,c1 5 (.bool false) .mv]) .ret) .skip)) (.seq (.dreg [o1 17 1 .mv,o1 18 2 (.faddr false 1 1),o1 19 18 (.load false 1),k1 20 100 19,o2 21 17 20 (.bin .quo),o1 22 2 (.faddr false 2 1),o1 23 22 (.load false 1),k1 24 100 23,o2 25 21 24 (.bin .rem),o1 26 2 (.faddr false 3 1),o1 27 26 (.load false 1),k1 28 100 27,o2 29 25 28 (.bin .mul),o1 4 29 .mv,c1 5 (.bool true) .mv]) .ret)))
theorem ziu:z0j Tryz.prog 122 2=some ⟨30,2,[(.slot 4),(.slot 5)],za6⟩:=by kernel_rfl
def ze6:AC:=(.seq (.reg [c1 4 .nilS .mv]) (.seq (.reg [o1 9 0 .mv,o1 10 9 (.len false),c1 5 (.int .i64 0) .mv,o1 6 10 .mv]) (.seq (.block 0 (.loop (.seq (.seq (.reg [o1 11 5 .mv,o1 12 6 .mv,o2 13 11 12 (.bin .lss)]) (.cond (.slot 13) .skip (.exit 0))) (.block 1 (.seq (.reg [o1 14 5 .mv,o1 15 6 .mv,o2 16 14 15 (.bin .add),c2 17 16 (.int .i64 2) (.bin .quo),o1 7 17 .mv]) (.seq (.reg [o1 18 0 .mv,o1 19 7 .mv,o2 20 18 19 (.iaddr 1),o1 21 20 (.load false 1),o1 22 1 .mv,o2 23 21 22 (.bin .lss)]) (.cond (.slot 23) (.reg [o1 24 7 .mv,c2 25 24 (.int .i64 1) (.bin .add),o1 5 25 .mv]) (.reg [o1 26 7 .mv,o1 6 26 .mv])))))))) (.seq (.seq (.reg [o1 27 5 .mv,o1 28 0 .mv,o1 29 28 (.len false),o2 30 27 29 (.bin .lss),o1 31 30 .mv,g1 32 31 0 .mv,g1 33 31 5 .mv,g2 34 31 32 33 (.iaddr 1),g1 35 31 34 (.load false 1),g1 36 31 1 .mv,g2 37 31 35 36 (.bin .eql),m_ 38 [s_ 31,s_ 37,k_ (.bool false)] .pick]) (.cond (.slot 38) (.seq (.reg [o1 39 0 .mv,o1 4 39 .mv]) .ret) .skip)) (.seq (.reg [o1 40 0 .mv,c1 41 (.int .i64 0) (.bslice 1 1 (.int .i64 0) [0]),o2 42 40 41 (.app 1 8 (.int .i64 0)),o1 0 42 .mv]) (.seq (.seq (.reg [o1 43 0 .mv,o1 44 43 (.len false),c2 45 44 (.int .i64 1) (.bin .sub),o1 8 45 .mv]) (.block 2 (.loop (.seq (.seq (.reg [o1 46 8 .mv,o1 47 5 .mv,o2 48 46 47 (.bin .gtr)]) (.cond (.slot 48) .skip (.exit 2))) (.seq (.block 3 (.reg [o1 51 0 .mv,o1 52 8 .mv,o1 53 0 .mv,o1 54 8 .mv,c2 55 54 (.int .i64 1) (.bin .sub),o2 56 53 55 (.iaddr 1),o1 57 56 (.load false 1),o2 58 51 52 (.iaddr 1),n2 58 57 (.store 1)])) (.reg [o1 49 8 .mv,c2 50 49 (.int .i64 1) (.bin .sub),o1 8 50 .mv])))))) (.seq (.reg [o1 59 0 .mv,o1 60 5 .mv,o1 61 1 .mv,o2 62 59 60 (.iaddr 1),n2 62 61 (.store 1)]) (.seq (.reg [o1 63 0 .mv,o1 4 63 .mv]) .ret))))))))
theorem zny:z0j Tryz.prog 123 2=some ⟨64,2,[(.slot 4)],ze6⟩:=by kernel_rfl
def zc9:AC:=(.seq (.reg [c1 4 .nilS .mv,c1 5 (.bool false) .mv]) (.seq (.seq (.reg [o1 14 0 .mv,o1 15 14 (.len false),o1 16 1 .mv,o1 17 16 (.len false),o2 18 15 17 (.bin .mul),c2 19 18 (.int .i64 4000) (.bin .leq)]) (.cond (.slot 19) (.seq (.reg [c1 6 .nilS .mv]) (.seq (.seq (.reg [c1 7 (.int .i64 0) .mv]) (.block 0 (.loop (.seq (.seq (.reg [o1 20 7 .mv,o1 21 0 .mv,o1 22 21 (.len false),o2 23 20 22 (.bin .lss)]) (.cond (.slot 23) .skip (.exit 0))) (.seq (.block 1 (.seq (.reg [c1 8 (.int .i64 0) .mv]) (.block 2 (.loop (.seq (.seq (.reg [o1 26 8 .mv,o1 27 1 .mv,o1 28 27 (.len false),o2 29 26 28 (.bin .lss)]) (.cond (.slot 29) .skip (.exit 2))) (.seq (.block 3 (.seq (.seq (.dreg [o1 32 0 .mv,o1 33 7 .mv,o2 34 32 33 (.iaddr 1),o1 35 34 (.load false 1),o1 36 1 .mv,o1 37 8 .mv,o2 38 36 37 (.iaddr 1),o1 39 38 (.load false 1),o2 40 35 39 (.bin .add),c2 41 40 (.int .i64 1114111) (.bin .gtr)]) (.cond (.slot 41) (.seq (.reg [c1 4 .nilS .mv,c1 5 (.bool false) .mv]) .ret) .skip)) (.dtl [o1 42 6 .mv,o1 43 0 .mv,o1 44 7 .mv,o2 45 43 44 (.iaddr 1),o1 46 45 (.load false 1),o1 47 1 .mv,o1 48 8 .mv,o2 49 47 48 (.iaddr 1),o1 50 49 (.load false 1),o2 51 46 50 (.bin .add)] [k2 52 123 42 51,o1 6 52 .mv]))) (.reg [o1 30 8 .mv,c2 31 30 (.int .i64 1) (.bin .add),o1 8 31 .mv]))))))) (.reg [o1 24 7 .mv,c2 25 24 (.int .i64 1) (.bin .add),o1 7 25 .mv])))))) (.seq (.reg [o1 53 6 .mv,o1 4 53 .mv,c1 5 (.bool true) .mv]) .ret))) .skip)) (.seq (.reg [m_ 54 [k_ (.int .i64 2228223),k_ (.int .i64 2228223)] (.mkSlice 1 1 (.bool false)),o1 9 54 .mv]) (.seq (.seq (.reg [c1 10 (.int .i64 0) .mv]) (.block 4 (.loop (.seq (.seq (.reg [o1 55 10 .mv,o1 56 0 .mv,o1 57 56 (.len false),o2 58 55 57 (.bin .lss)]) (.cond (.slot 58) .skip (.exit 4))) (.seq (.block 5 (.seq (.reg [c1 11 (.int .i64 0) .mv]) (.block 6 (.loop (.seq (.seq (.reg [o1 61 11 .mv,o1 62 1 .mv,o1 63 62 (.len false),o2 64 61 63 (.bin .lss)]) (.cond (.slot 64) .skip (.exit 6))) (.seq (.block 7 (.seq (.seq (.dreg [o1 67 0 .mv,o1 68 10 .mv,o2 69 67 68 (.iaddr 1),o1 70 69 (.load false 1),o1 71 1 .mv,o1 72 11 .mv,o2 73 71 72 (.iaddr 1),o1 74 73 (.load false 1),o2 75 70 74 (.bin .add),c2 76 75 (.int .i64 1114111) (.bin .gtr)]) (.cond (.slot 76) (.seq (.reg [c1 4 .nilS .mv,c1 5 (.bool false) .mv]) .ret) .skip)) (.dtl [o1 77 9 .mv,o1 78 0 .mv,o1 79 10 .mv,o2 80 78 79 (.iaddr 1),o1 81 80 (.load false 1),o1 82 1 .mv,o1 83 11 .mv,o2 84 82 83 (.iaddr 1),o1 85 84 (.load false 1),o2 86 81 85 (.bin .add),c2 87 86 (.int .i64 1114111) (.bin .add),o2 88 77 87 (.iaddr 1)] [h_ [s_ 88,k_ (.bool true)] (.store 1)]))) (.reg [o1 65 11 .mv,c2 66 65 (.int .i64 1) (.bin .add),o1 11 66 .mv]))))))) (.reg [o1 59 10 .mv,c2 60 59 (.int .i64 1) (.bin .add),o1 10 60 .mv])))))) (.seq (.reg [c1 12 .nilS .mv]) (.seq (.seq (.reg [c1 13 (.int .i64 0) .mv]) (.block 8 (.loop (.seq (.seq (.reg [o1 89 13 .mv,o1 90 9 .mv,o1 91 90 (.len false),o2 92 89 91 (.bin .lss)]) (.cond (.slot 92) .skip (.exit 8))) (.seq (.block 9 (.seq (.reg [o1 95 9 .mv,o1 96 13 .mv,o2 97 95 96 (.iaddr 1),o1 98 97 (.load false 1)]) (.cond (.slot 98) (.reg [o1 99 12 .mv,o1 100 13 .mv,c2 101 100 (.int .i64 1114111) (.bin .sub),o1 102 101 (.bslice 1 1 (.int .i64 0) [0]),o2 103 99 102 (.app 1 8 (.int .i64 0)),o1 12 103 .mv]) .skip))) (.reg [o1 93 13 .mv,c2 94 93 (.int .i64 1) (.bin .add),o1 13 94 .mv])))))) (.seq (.reg [o1 104 12 .mv,o1 4 104 .mv,c1 5 (.bool true) .mv]) .ret)))))))
theorem zlv:z0j Tryz.prog 124 2=some ⟨105,2,[(.slot 4),(.slot 5)],zc9⟩:=by kernel_rfl
def za7:AC:=(.seq (.reg [c1 2 .nilS .mv]) (.seq (.reg [c1 3 .nilS .mv]) (.seq (.seq (.reg [c1 4 (.int .i64 0) .mv]) (.block 0 (.loop (.seq (.seq (.reg [o1 6 4 .mv,o1 7 0 .mv,o1 8 7 (.len false),o2 9 6 8 (.bin .lss)]) (.cond (.slot 9) .skip (.exit 0))) (.seq (.block 1 (.seq (.reg [o1 12 3 .mv,o1 13 12 (.len false),o1 5 13 .mv]) (.seq (.dreg [o1 14 5 .mv,c2 15 14 (.int .i64 0) (.bin .gtr),o1 16 15 .mv,g1 17 16 3 .mv,g1 18 16 5 .mv,g_ 19 16 true [s_ 18,k_ (.int .i64 1)] (.bin .sub),g2 20 16 17 19 (.iaddr 2),g1 21 16 20 (.faddr false 1 1),g1 22 16 21 (.load false 1),g1 23 16 0 .mv,g1 24 16 4 .mv,g2 25 16 23 24 (.iaddr 1),g1 26 16 25 (.load false 1),g_ 27 16 true [s_ 26,k_ (.int .i64 1)] (.bin .sub),g2 28 16 22 27 (.bin .eql),m_ 29 [s_ 16,s_ 28,k_ (.bool false)] .pick]) (.cond (.slot 29) (.reg [o1 30 3 .mv,o1 31 5 .mv,c2 32 31 (.int .i64 1) (.bin .sub),o1 33 0 .mv,o1 34 4 .mv,o2 35 33 34 (.iaddr 1),o1 36 35 (.load false 1),o2 37 30 32 (.iaddr 2),o1 38 37 (.faddr false 1 1),n2 38 36 (.store 1)]) (.dtl [o1 39 3 .mv,o1 40 0 .mv,o1 41 4 .mv,o2 42 40 41 (.iaddr 1),o1 43 42 (.load false 1),o1 44 0 .mv,o1 45 4 .mv,o2 46 44 45 (.iaddr 1),o1 47 46 (.load false 1),o2 48 43 47 (.build [(.int .i64 0),(.int .i64 0)] [(0,1),(1,1)] [0,1]),o1 49 48 (.bslice 2 1 (.agg [(.int .i64 0),(.int .i64 0)]) [0])] [o2 50 39 49 (.app 2 16 (.agg [(.int .i64 0),(.int .i64 0)])),o1 3 50 .mv]))))) (.reg [o1 10 4 .mv,c2 11 10 (.int .i64 1) (.bin .add),o1 4 11 .mv])))))) (.seq (.reg [o1 51 3 .mv,o1 2 51 .mv]) .ret))))
theorem ziv:z0j Tryz.prog 125 1=some ⟨52,1,[(.slot 2)],za7⟩:=by kernel_rfl
def ze7:AC:=(.seq (.reg [c1 2 .nilS .mv]) (.seq (.reg [o1 10 0 .mv,o1 11 10 (.len false),m_ 12 [k_ (.int .i64 0),s_ 11] (.mkSlice 2 16 (.agg [(.int .i64 0),(.int .i64 0)])),o1 3 12 .mv]) (.seq (.seq (.reg [o1 13 0 .mv,o1 14 13 (.len false),c1 15 (.int .i64 0) .mv]) (.block 0 (.loop (.seq (.reg [o2 16 15 14 (.bin .lss)]) (.seq (.cond (.slot 16) .skip (.exit 0)) (.seq (.block 1 (.seq (.reg [o2 17 13 15 (.iaddr 2),o1 18 17 (.load true 2),o0 5 (.alloc (.agg [(.int .i64 0),(.int .i64 0)]) 2),n2 5 18 (.store 2)]) (.seq (.reg [o1 19 5 (.faddr false 0 1),o1 20 19 (.load false 1),c2 21 20 (.int .i64 (-1073741824)) .max,o1 22 5 (.faddr false 1 1),o1 23 22 (.load false 1),c2 24 23 (.int .i64 1073741824) .min,o1 25 5 (.faddr false 0 1),n2 25 21 (.store 1),o1 26 5 (.faddr false 1 1),n2 26 24 (.store 1)]) (.seq (.reg [o1 27 5 (.faddr false 0 1),o1 28 27 (.load false 1),o1 29 5 (.faddr false 1 1),o1 30 29 (.load false 1),o2 31 28 30 (.bin .leq)]) (.cond (.slot 31) (.reg [o1 32 3 .mv,o1 33 5 (.load true 2),o1 34 33 (.bslice 2 1 (.agg [(.int .i64 0),(.int .i64 0)]) [0]),o2 35 32 34 (.app 2 16 (.agg [(.int .i64 0),(.int .i64 0)])),o1 3 35 .mv]) .skip))))) (.reg [c2 36 15 (.int .i64 1) (.bin .add),o1 15 36 .mv]))))))) (.seq (.reg [o1 37 3 .mv,m_ 38 [k_ (.fn 142 []),s_ 37,k_ (.fn 143 [])] .call]) (.seq (.reg [o1 39 3 .mv,c2 40 39 (.int .i64 0) (.slice 2 false true false),o1 6 40 .mv]) (.seq (.seq (.reg [o1 41 3 .mv,o1 42 41 (.len false),c1 43 (.int .i64 0) .mv]) (.block 2 (.loop (.seq (.reg [o2 44 43 42 (.bin .lss)]) (.seq (.cond (.slot 44) .skip (.exit 2)) (.seq (.block 3 (.seq (.reg [o2 45 41 43 (.iaddr 2),o1 46 45 (.load true 2),o0 8 (.alloc (.agg [(.int .i64 0),(.int .i64 0)]) 2),n2 8 46 (.store 2)]) (.seq (.seq (.reg [o1 47 6 .mv,o1 48 47 (.len false),o1 9 48 .mv]) (.seq (.dreg [o1 49 9 .mv,c2 50 49 (.int .i64 0) (.bin .gtr),o1 51 50 .mv,g1 52 51 8 (.faddr false 0 1),g1 53 51 52 (.load false 1),g1 54 51 6 .mv,g1 55 51 9 .mv,g_ 56 51 true [s_ 55,k_ (.int .i64 1)] (.bin .sub),g2 57 51 54 56 (.iaddr 2),g1 58 51 57 (.faddr false 1 1),g1 59 51 58 (.load false 1),g_ 60 51 true [s_ 59,k_ (.int .i64 1)] (.bin .add),g2 61 51 53 60 (.bin .leq),m_ 62 [s_ 51,s_ 61,k_ (.bool false)] .pick]) (.cond (.slot 62) (.seq (.dtl [o1 63 6 .mv,o1 64 9 .mv,c2 65 64 (.int .i64 1) (.bin .sub),o1 66 6 .mv,o1 67 9 .mv,c2 68 67 (.int .i64 1) (.bin .sub),o2 69 66 68 (.iaddr 2),o1 70 69 (.faddr false 1 1),o1 71 70 (.load false 1),o1 72 8 (.faddr false 1 1),o1 73 72 (.load false 1),o2 74 71 73 .max,o2 75 63 65 (.iaddr 2),o1 76 75 (.faddr false 1 1)] [n2 76 74 (.store 1)]) (.exit 3)) .skip))) (.reg [o1 77 6 .mv,o1 78 8 (.load true 2),o1 79 78 (.bslice 2 1 (.agg [(.int .i64 0),(.int .i64 0)]) [0]),o2 80 77 79 (.app 2 16 (.agg [(.int .i64 0),(.int .i64 0)])),o1 6 80 .mv])))) (.reg [c2 81 43 (.int .i64 1) (.bin .add),o1 43 81 .mv]))))))) (.seq (.reg [o1 82 6 .mv,o1 2 82 .mv]) .ret)))))))
theorem znz:z0j Tryz.prog 131 1=some ⟨83,1,[(.slot 2)],ze7⟩:=by kernel_rfl
def ze8:AC:=(.seq (.reg [c1 4 .nilS .mv]) (.seq (.reg [o1 7 0 .mv,k1 8 131 7,o1 9 1 .mv,k1 10 131 9,o1 0 8 .mv,o1 1 10 .mv]) (.seq (.reg [c1 5 .nilS .mv]) (.seq (.block 0 (.loop (.seq (.seq (.reg [o1 11 0 .mv,o1 12 11 (.len false),c2 13 12 (.int .i64 0) (.bin .gtr),o1 14 13 .mv,g1 15 14 1 .mv,g1 16 14 15 (.len false),g_ 17 14 true [s_ 16,k_ (.int .i64 0)] (.bin .gtr),m_ 18 [s_ 14,s_ 17,k_ (.bool false)] .pick]) (.cond (.slot 18) .skip (.exit 0))) (.block 1 (.seq (.greg [o1 19 0 .mv,c2 20 19 (.int .i64 0) (.iaddr 2),o1 21 20 (.faddr false 0 1),o1 22 21 (.load false 1),o1 23 1 .mv,c2 24 23 (.int .i64 0) (.iaddr 2),o1 25 24 (.faddr false 0 1),o1 26 25 (.load false 1),o2 27 22 26 .max,o1 28 0 .mv,c2 29 28 (.int .i64 0) (.iaddr 2),o1 30 29 (.faddr false 1 1),o1 31 30 (.load false 1),o1 32 1 .mv,c2 33 32 (.int .i64 0) (.iaddr 2),o1 34 33 (.faddr false 1 1),o1 35 34 (.load false 1),o2 36 31 35 .min,o2 37 27 36 (.build [(.int .i64 0),(.int .i64 0)] [(0,1),(1,1)] [0,1]),o0 6 (.alloc (.agg [(.int .i64 0),(.int .i64 0)]) 2),n2 6 37 (.store 2)]) (.seq (.seq (.reg [o1 38 6 (.faddr false 0 1),o1 39 38 (.load false 1),o1 40 6 (.faddr false 1 1),o1 41 40 (.load false 1),o2 42 39 41 (.bin .leq)]) (.cond (.slot 42) (.reg [o1 43 5 .mv,o1 44 6 (.load true 2),o1 45 44 (.bslice 2 1 (.agg [(.int .i64 0),(.int .i64 0)]) [0]),o2 46 43 45 (.app 2 16 (.agg [(.int .i64 0),(.int .i64 0)])),o1 5 46 .mv]) .skip)) (.seq (.dreg [o1 47 0 .mv,c2 48 47 (.int .i64 0) (.iaddr 2),o1 49 48 (.faddr false 1 1),o1 50 49 (.load false 1),o1 51 1 .mv,c2 52 51 (.int .i64 0) (.iaddr 2),o1 53 52 (.faddr false 1 1),o1 54 53 (.load false 1),o2 55 50 54 (.bin .lss)]) (.cond (.slot 55) (.reg [o1 56 0 .mv,c2 57 56 (.int .i64 1) (.slice 2 true false false),o1 0 57 .mv]) (.reg [o1 58 1 .mv,c2 59 58 (.int .i64 1) (.slice 2 true false false),o1 1 59 .mv]))))))))) (.seq (.reg [o1 60 5 .mv,o1 4 60 .mv]) .ret)))))
theorem zo0:z0j Tryz.prog 132 2=some ⟨61,2,[(.slot 4)],ze8⟩:=by kernel_rfl
def z8s:AC:=(.seq (.reg [o1 1 0 .box,c1 2 (.bool false) .mv]) (.seq (.reg [o1 3 1 (.faddr false 0 1),o1 4 3 (.load false 1),k1 5 145 4,o1 6 5 .mv,g1 7 6 1 (.faddr false 4 1),g1 8 6 7 (.load false 1),g_ 9 6 true [k_ (.fn 145 []),s_ 8] .call,m_ 10 [s_ 6,s_ 9,k_ (.bool false)] .pick,o1 11 10 .mv,g1 12 11 1 (.load true 6),g_ 13 11 true [k_ (.fn 88 []),s_ 12] .call,g_ 14 11 true [k_ (.fn 86 []),s_ 13,k_ (.int .i64 1)] .call,m_ 15 [s_ 11,s_ 14,k_ (.bool false)] .pick,o1 16 15 .mv,g1 17 16 1 (.faddr false 5 1),g1 18 16 17 (.load false 1),g_ 19 16 true [k_ (.fn 146 []),s_ 18] .call,m_ 20 [s_ 16,s_ 19,k_ (.bool false)] .pick,o1 2 20 .mv]) .ret))
theorem zft:z0j Tryz.prog 133 1=some ⟨21,1,[(.slot 2)],z8s⟩:=by kernel_rfl
def zca:AC:=(.seq (.reg [o1 1 0 .box,c1 2 (.bool false) .mv]) (.seq (.reg [o1 3 1 (.faddr false 0 1),o1 4 3 (.load false 1),c2 5 4 (.int .i64 0) (.bin .eql),o1 6 5 .mv,g1 7 6 1 (.load true 6),g_ 8 6 true [k_ (.fn 88 []),s_ 7] .call,g_ 9 6 true [k_ (.fn 78 []),k_ (.int .i64 0)] .call,g2 10 6 8 9 (.eqs false [1,1,1,1]),m_ 11 [s_ 6,s_ 10,k_ (.bool false)] .pick,o1 2 11 .mv]) .ret))
theorem zlw:z0j Tryz.prog 134 1=some ⟨12,1,[(.slot 2)],zca⟩:=by kernel_rfl
def zcb:AC:=(.seq (.reg [o1 2 0 .box,c1 4 .nilS .mv,c1 5 (.bool false) .mv]) (.seq (.seq (.reg [o1 12 1 .mv,o1 13 12 (.len false),c2 14 13 (.int .i64 4) (.bin .gtr),o1 15 14 .mv,g_ 16 15 false [s_ 2] (.load true 6),g_ 17 15 false [k_ (.fn 133 []),s_ 16] .call,g_ 18 15 false [s_ 17] (.un .not),m_ 19 [s_ 15,k_ (.bool true),s_ 18] .pick]) (.cond (.slot 19) (.seq (.reg [c1 4 .nilS .mv,c1 5 (.bool false) .mv]) .ret) .skip)) (.seq (.reg [c1 6 (.bool true) .mv]) (.seq (.reg [o1 20 1 .mv,o1 21 20 (.len false),o2 22 21 21 (.mkSlice 1 24 .nilS),o1 7 22 .mv]) (.seq (.seq (.reg [o1 23 1 .mv,o1 24 23 (.len false),c1 25 (.int .i64 0) .mv]) (.block 0 (.loop (.seq (.reg [o2 26 25 24 (.bin .lss)]) (.seq (.cond (.slot 26) .skip (.exit 0)) (.seq (.block 1 (.seq (.reg [o1 27 25 .mv,o2 28 23 25 (.iaddr 1),o1 29 28 (.load false 1),o1 8 27 .mv,o1 9 29 .mv]) (.seq (.reg [o1 30 7 .mv,o1 31 8 .mv,o1 32 9 .mv,k0 33 147,k2 34 132 32 33,o2 35 30 31 (.iaddr 1),n2 35 34 (.store 1)]) (.reg [o1 36 6 .mv,o1 37 36 .mv,g1 38 37 7 .mv,g1 39 37 8 .mv,g2 40 37 38 39 (.iaddr 1),g1 41 37 40 (.load false 1),g1 42 37 41 (.len false),g_ 43 37 true [s_ 42,k_ (.int .i64 0)] (.bin .gtr),m_ 44 [s_ 37,s_ 43,k_ (.bool false)] .pick,o1 6 44 .mv])))) (.reg [c2 45 25 (.int .i64 1) (.bin .add),o1 25 45 .mv]))))))) (.seq (.seq (.reg [o1 46 2 (.faddr false 5 1),o1 47 46 (.load false 1),o1 48 47 (.len false),c1 49 (.int .i64 0) .mv]) (.block 2 (.loop (.seq (.reg [o2 50 49 48 (.bin .lss)]) (.seq (.cond (.slot 50) .skip (.exit 2)) (.seq (.block 3 (.seq (.reg [o2 51 47 49 (.iaddr 4),o1 52 51 (.load true 4),o0 11 (.alloc (.agg [(.int .i64 0),(.int .i64 0),(.int .i64 0),(.int .i64 0)]) 4),n2 11 52 (.store 4)]) (.seq (.reg [o1 53 11 (.load true 4),o1 54 1 .mv,o1 55 54 (.len false),k2 56 86 53 55,o1 57 56 (.un .not)]) (.cond (.slot 57) (.seq (.reg [c1 4 .nilS .mv,c1 5 (.bool false) .mv]) .ret) .skip)))) (.reg [c2 58 49 (.int .i64 1) (.bin .add),o1 49 58 .mv]))))))) (.seq (.seq (.reg [o1 59 6 .mv,o1 60 59 (.un .not)]) (.cond (.slot 60) (.seq (.reg [c1 4 .nilS .mv,c1 5 (.bool true) .mv]) .ret) .skip)) (.seq (.reg [o1 61 2 (.load true 6),o1 62 7 .mv,k2 63 148 61 62,o1 64 63 (.extract 0),o1 65 63 (.extract 1),o1 4 64 .mv,o1 5 65 .mv]) .ret))))))))
theorem zlx:z0j Tryz.prog 135 2=some ⟨66,2,[(.slot 4),(.slot 5)],zcb⟩:=by kernel_rfl
def ze9:AC:=(.seq (.reg [c1 4 .nilS .mv]) (.seq (.seq (.reg [o1 7 1 .mv,c2 8 7 (.int .i64 (-2147483648)) (.bin .lss),o1 9 8 .mv,g_ 10 9 false [s_ 1] .mv,g_ 11 9 false [s_ 10,k_ (.int .i64 2147483648)] (.bin .gtr),m_ 12 [s_ 9,k_ (.bool true),s_ 11] .pick]) (.cond (.slot 12) (.seq (.reg [c1 4 .nilS .mv]) .ret) .skip)) (.seq (.reg [o1 13 0 .mv,k1 14 131 13,o1 5 14 .mv]) (.seq (.seq (.reg [o1 15 5 .mv,o1 16 15 (.len false),c1 17 (.int .i64 0) .mv]) (.block 0 (.loop (.seq (.reg [o2 18 17 16 (.bin .lss)]) (.seq (.cond (.slot 18) .skip (.exit 0)) (.seq (.block 1 (.seq (.reg [o1 19 17 .mv,o1 6 19 .mv]) (.seq (.reg [o1 20 5 .mv,o1 21 6 .mv,o2 22 20 21 (.iaddr 2),o1 23 22 (.faddr false 0 1),o1 24 23 (.load false 1),o1 25 1 .mv,o2 26 24 25 (.bin .add),o2 27 20 21 (.iaddr 2),o1 28 27 (.faddr false 0 1),n2 28 26 (.store 1)]) (.reg [o1 29 5 .mv,o1 30 6 .mv,o2 31 29 30 (.iaddr 2),o1 32 31 (.faddr false 1 1),o1 33 32 (.load false 1),o1 34 1 .mv,o2 35 33 34 (.bin .add),o2 36 29 30 (.iaddr 2),o1 37 36 (.faddr false 1 1),n2 37 35 (.store 1)])))) (.reg [c2 38 17 (.int .i64 1) (.bin .add),o1 17 38 .mv]))))))) (.seq (.reg [o1 39 5 .mv,k1 40 131 39,o1 4 40 .mv]) .ret)))))
theorem zo1:z0j Tryz.prog 136 2=some ⟨41,2,[(.slot 4)],ze9⟩:=by kernel_rfl
def z7i:AC:=(.seq (.reg [o1 2 0 .box,c1 4 .nilS .mv]) (.seq (.seq (.reg [o1 13 2 (.load true 4),k1 14 101 13,o1 15 14 (.un .not)]) (.cond (.slot 15) (.seq (.reg [c1 4 .nilS .mv]) .ret) .skip)) (.seq (.reg [o1 16 2 (.faddr false 2 1),o1 17 16 (.load false 1),m_ 18 [k_ (.int .i64 1),s_ 17] (.bin .shl),c2 19 18 (.int .i64 1) (.bin .sub),o1 5 19 .mv]) (.seq (.reg [c1 6 .nilS .mv]) (.seq (.seq (.reg [o1 20 1 .mv,m_ 21 [k_ (.int .i64 0),k_ (.int .i64 2097151)] (.build [(.int .i64 0),(.int .i64 0)] [(0,1),(1,1)] [0,1]),o1 22 21 (.bslice 2 1 (.agg [(.int .i64 0),(.int .i64 0)]) [0]),k2 23 132 20 22,o1 24 23 (.len false),c1 25 (.int .i64 0) .mv]) (.block 0 (.loop (.seq (.reg [o2 26 25 24 (.bin .lss)]) (.seq (.cond (.slot 26) .skip (.exit 0)) (.seq (.block 1 (.seq (.reg [o2 27 23 25 (.iaddr 2),o1 28 27 (.load true 2),o0 8 (.alloc (.agg [(.int .i64 0),(.int .i64 0)]) 2),n2 8 28 (.store 2)]) (.seq (.dreg [o1 29 8 (.faddr false 0 1),o1 30 29 (.load false 1),o1 31 2 (.faddr false 1 1),o1 32 31 (.load false 1),o2 33 30 32 (.bin .shr),o1 34 8 (.faddr false 1 1),o1 35 34 (.load false 1),o1 36 2 (.faddr false 1 1),o1 37 36 (.load false 1),o2 38 35 37 (.bin .shr),o1 9 33 .mv,o1 10 38 .mv]) (.seq (.seq (.reg [o1 39 10 .mv,o1 40 9 .mv,o2 41 39 40 (.bin .sub),o1 42 5 .mv,o2 43 41 42 (.bin .geq)]) (.cond (.slot 43) (.seq (.reg [o1 44 5 .mv,m_ 45 [k_ (.int .i64 0),s_ 44] (.build [(.int .i64 0),(.int .i64 0)] [(0,1),(1,1)] [0,1]),o1 46 45 (.bslice 2 1 (.agg [(.int .i64 0),(.int .i64 0)]) [0]),o1 6 46 .mv]) (.exit 0)) .skip)) (.seq (.reg [o1 47 9 .mv,o1 48 5 .mv,o2 49 47 48 (.bin .and),o1 50 10 .mv,o1 51 5 .mv,o2 52 50 51 (.bin .and),o2 53 49 52 (.bin .leq)]) (.cond (.slot 53) (.reg [o1 54 6 .mv,o1 55 9 .mv,o1 56 5 .mv,o2 57 55 56 (.bin .and),o1 58 10 .mv,o1 59 5 .mv,o2 60 58 59 (.bin .and),o2 61 57 60 (.build [(.int .i64 0),(.int .i64 0)] [(0,1),(1,1)] [0,1]),o1 62 61 (.bslice 2 1 (.agg [(.int .i64 0),(.int .i64 0)]) [0]),o2 63 54 62 (.app 2 16 (.agg [(.int .i64 0),(.int .i64 0)])),o1 6 63 .mv]) (.reg [o1 64 6 .mv,o1 65 10 .mv,o1 66 5 .mv,o2 67 65 66 (.bin .and),m_ 68 [k_ (.int .i64 0),s_ 67] (.build [(.int .i64 0),(.int .i64 0)] [(0,1),(1,1)] [0,1]),o1 69 9 .mv,o1 70 5 .mv,o2 71 69 70 (.bin .and),o1 72 5 .mv,o2 73 71 72 (.build [(.int .i64 0),(.int .i64 0)] [(0,1),(1,1)] [0,1]),o2 74 68 73 (.bslice 2 2 (.agg [(.int .i64 0),(.int .i64 0)]) [0,1]),o2 75 64 74 (.app 2 16 (.agg [(.int .i64 0),(.int .i64 0)])),o1 6 75 .mv]))))))) (.reg [c2 76 25 (.int .i64 1) (.bin .add),o1 25 76 .mv]))))))) (.seq (.reg [o1 77 6 .mv,k1 78 131 77,o1 6 78 .mv]) (.seq (.seq (.reg [o1 79 2 (.faddr false 3 1),o1 80 79 (.load false 1),c2 81 80 (.int .i64 0) (.bin .eql)]) (.cond (.slot 81) (.seq (.reg [o1 82 6 .mv,o1 4 82 .mv]) .ret) .skip)) (.seq (.reg [o0 11 (.alloc .nilS 1)]) (.seq (.seq (.reg [o1 83 6 .mv,k1 84 149 83]) (.block 2 (.rng (.slot 84) [85] (.reg [o1 12 85 .mv]) (.block 3 (.dtl [o1 86 11 (.load false 1),o1 87 12 .mv,o1 88 2 (.faddr false 3 1),o1 89 88 (.load false 1),o2 90 87 89 (.bin .shl),o1 91 12 .mv,o1 92 2 (.faddr false 3 1),o1 93 92 (.load false 1),o2 94 91 93 (.bin .shl),o2 95 90 94 (.build [(.int .i64 0),(.int .i64 0)] [(0,1),(1,1)] [0,1]),o1 96 95 (.bslice 2 1 (.agg [(.int .i64 0),(.int .i64 0)]) [0])] [o2 97 86 96 (.app 2 16 (.agg [(.int .i64 0),(.int .i64 0)])),n2 11 97 (.store 1)]))))) (.seq (.reg [o1 98 11 (.load false 1),k1 99 131 98,o1 4 99 .mv]) .ret))))))))))
theorem zcc:z0j Tryz.prog 137 2=some ⟨100,2,[(.slot 4)],z7i⟩:=by kernel_rfl
def za8:AC:=(.seq (.reg [c1 2 (.bool false) .mv]) (.seq (.reg [o1 3 0 .mv,m_ 4 [k_ (.int .i64 (-1114111)),s_ 3] (.bin .leq),o1 5 4 .mv,g1 6 5 0 .mv,g_ 7 5 true [s_ 6,k_ (.int .i64 1114111)] (.bin .leq),m_ 8 [s_ 5,s_ 7,k_ (.bool false)] .pick,o1 2 8 .mv]) .ret))
theorem ziw:z0j Tryz.prog 138 1=some ⟨9,1,[(.slot 2)],za8⟩:=by kernel_rfl
def zcd:AC:=(.seq (.reg [o1 1 0 .box,c1 2 (.bool false) .mv]) (.seq (.seq (.reg [o1 3 1 (.faddr false 1 1),o1 4 3 (.load false 1),c2 5 4 (.int .i64 0) (.bin .lss),o1 6 5 .mv,g_ 7 6 false [s_ 1] (.faddr false 1 1),g_ 8 6 false [s_ 7] (.load false 1),g_ 9 6 false [s_ 8,k_ (.int .i64 20)] (.bin .gtr),m_ 10 [s_ 6,k_ (.bool true),s_ 9] .pick,o1 11 10 .mv,g_ 12 11 false [s_ 1] (.faddr false 2 1),g_ 13 11 false [s_ 12] (.load false 1),g_ 14 11 false [s_ 13,k_ (.int .i64 1)] (.bin .lss),m_ 15 [s_ 11,k_ (.bool true),s_ 14] .pick,o1 16 15 .mv,g_ 17 16 false [s_ 1] (.faddr false 2 1),g_ 18 16 false [s_ 17] (.load false 1),g_ 19 16 false [s_ 18,k_ (.int .i64 21)] (.bin .gtr),m_ 20 [s_ 16,k_ (.bool true),s_ 19] .pick,o1 21 20 .mv,g_ 22 21 false [s_ 1] (.faddr false 3 1),g_ 23 21 false [s_ 22] (.load false 1),g_ 24 21 false [s_ 23,k_ (.int .i64 0)] (.bin .lss),m_ 25 [s_ 21,k_ (.bool true),s_ 24] .pick,o1 26 25 .mv,g_ 27 26 false [s_ 1] (.faddr false 3 1),g_ 28 26 false [s_ 27] (.load false 1),g_ 29 26 false [s_ 28,k_ (.int .i64 20)] (.bin .gtr),m_ 30 [s_ 26,k_ (.bool true),s_ 29] .pick]) (.cond (.slot 30) (.seq (.reg [c1 2 (.bool false) .mv]) .ret) .skip)) (.seq (.reg [o1 31 1 (.faddr false 3 1),o1 32 31 (.load false 1),c2 33 32 (.int .i64 0) (.bin .eql),o1 34 33 .mv,g_ 35 34 false [s_ 1] (.faddr false 2 1),g_ 36 34 false [s_ 35] (.load false 1),g_ 37 34 false [s_ 36,k_ (.int .i64 6)] (.bin .leq),m_ 38 [s_ 34,k_ (.bool true),s_ 37] .pick,o1 2 38 .mv]) .ret)))
theorem zly:z0j Tryz.prog 139 1=some ⟨39,1,[(.slot 2)],zcd⟩:=by kernel_rfl
def za9:AC:=(.seq (.reg [o1 1 0 .box,o0 2 (.alloc (.agg [(.int .i64 0),(.int .i64 0),(.int .i64 0),(.int .i64 0)]) 4)]) (.seq (.reg [o1 3 1 (.faddr false 1 1),o1 4 3 (.load false 1),o1 5 1 (.faddr false 2 1),o1 6 5 (.load false 1),o1 7 1 (.faddr false 3 1),o1 8 7 (.load false 1),o3 9 4 6 8 (.build [(.int .i64 0),(.int .i64 0),(.int .i64 0),(.int .i64 0)] [(0,1),(1,1),(2,1),(3,1)] [1,2,3]),n2 2 9 (.store 4)]) .ret))
theorem zix:z0j Tryz.prog 140 1=some ⟨10,1,[(.cell 2 true 4)],za9⟩:=by kernel_rfl
def z2o:AC:=(.seq (.reg [o1 5 0 .mv,o1 6 5 (.len false),o1 4 6 .mv]) (.reg [o1 7 0 .mv,o1 8 4 .mv,o1 9 4 .mv,o1 10 9 (.conv .u64),k1 11 90 10,o1 12 1 .mv,m_ 13 [k_ (.fn 150 []),s_ 7,k_ (.int .i64 0),s_ 8,s_ 11,s_ 12] .call]))
theorem z4d:z0j Tryz.prog 142 2=some ⟨14,2,[],z2o⟩:=by kernel_rfl
def zce:AC:=(.seq (.reg [c1 2 (.bool false) .mv]) (.seq (.reg [o1 3 0 .mv,c2 4 3 (.int .i64 (-1114111)) (.bin .geq),o1 5 4 .mv,g1 6 5 0 .mv,g_ 7 5 true [s_ 6,k_ (.int .i64 1114111)] (.bin .leq),m_ 8 [s_ 5,s_ 7,k_ (.bool false)] .pick,o1 2 8 .mv]) .ret))
theorem zlz:z0j Tryz.prog 145 1=some ⟨9,1,[(.slot 2)],zce⟩:=by kernel_rfl
def zaa:AC:=(.seq (.reg [c1 2 (.bool false) .mv]) (.seq (.seq (.reg [o1 5 0 .mv,o1 6 5 (.len false),c1 7 (.int .i64 0) .mv]) (.block 0 (.loop (.seq (.reg [o2 8 7 6 (.bin .lss)]) (.seq (.cond (.slot 8) .skip (.exit 0)) (.seq (.block 1 (.seq (.reg [o1 9 7 .mv,o2 10 5 7 (.iaddr 4),o1 11 10 (.load true 4),o0 4 (.alloc (.agg [(.int .i64 0),(.int .i64 0),(.int .i64 0),(.int .i64 0)]) 4),o1 3 9 .mv,n2 4 11 (.store 4)]) (.seq (.dreg [o1 12 3 .mv,c2 13 12 (.int .i64 0) (.bin .gtr),o1 14 13 .mv,g1 15 14 4 (.faddr false 3 1),g1 16 14 15 (.load false 1),g1 17 14 0 .mv,g1 18 14 3 .mv,g_ 19 14 true [s_ 18,k_ (.int .i64 1)] (.bin .sub),g2 20 14 17 19 (.iaddr 4),g1 21 14 20 (.faddr false 3 1),g1 22 14 21 (.load false 1),g2 23 14 16 22 (.bin .leq),m_ 24 [s_ 14,s_ 23,k_ (.bool false)] .pick]) (.cond (.slot 24) (.seq (.reg [c1 2 (.bool false) .mv]) .ret) .skip)))) (.reg [c2 25 7 (.int .i64 1) (.bin .add),o1 7 25 .mv]))))))) (.seq (.reg [o1 26 0 .mv,o1 27 26 (.len false),c2 28 27 (.int .i64 4) (.bin .leq),o1 2 28 .mv]) .ret)))
theorem ziy:z0j Tryz.prog 146 1=some ⟨29,1,[(.slot 2)],zaa⟩:=by kernel_rfl
def z8t:AC:=(.seq (.reg [c1 0 .nilS .mv]) (.seq (.reg [m_ 1 [k_ (.int .i64 0),k_ (.int .i64 1114111)] (.build [(.int .i64 0),(.int .i64 0)] [(0,1),(1,1)] [0,1]),o1 2 1 (.bslice 2 1 (.agg [(.int .i64 0),(.int .i64 0)]) [0]),o1 0 2 .mv]) .ret))
theorem zfu:z0j Tryz.prog 147 0=some ⟨3,0,[(.slot 0)],z8t⟩:=by kernel_rfl
def z0l:AC:=(.seq (.reg [o1 2 0 .box,c1 4 .nilS .mv,c1 5 (.bool false) .mv]) (.seq (.reg [o0 17 .mkMap,o1 6 17 .mv]) (.seq (.reg [c1 7 .nilS .mv]) (.seq (.seq (.reg [o1 18 2 (.faddr false 5 1),o1 19 18 (.load false 1),o1 20 19 (.len false),c1 21 (.int .i64 0) .mv]) (.block 0 (.loop (.seq (.reg [o2 22 21 20 (.bin .lss)]) (.seq (.cond (.slot 22) .skip (.exit 0)) (.seq (.block 1 (.seq (.reg [o2 23 19 21 (.iaddr 4),o1 24 23 (.load true 4),o0 9 (.alloc (.agg [(.int .i64 0),(.int .i64 0),(.int .i64 0),(.int .i64 0)]) 4),n2 9 24 (.store 4)]) (.seq (.seq (.reg [o1 25 6 .mv,o1 26 9 (.faddr false 0 1),o1 27 26 (.load false 1),o2 28 25 27 (.mapGet .nilS),o1 29 28 (.len false),c2 30 29 (.int .i64 0) (.bin .eql)]) (.cond (.slot 30) (.reg [o1 31 7 .mv,o1 32 9 (.faddr false 0 1),o1 33 32 (.load false 1),o1 34 33 (.bslice 1 1 (.int .i64 0) [0]),o2 35 31 34 (.app 1 8 (.int .i64 0)),o1 7 35 .mv]) .skip)) (.grx [false,true,true,false,true,true,false,true,false,false,false] [m_ 36 [s_ 6] .mv,m_ 37 [s_ 9] (.faddr false 0 1),m_ 38 [s_ 37] (.load false 1),m_ 39 [s_ 6] .mv,m_ 40 [s_ 9] (.faddr false 0 1),m_ 41 [s_ 40] (.load false 1),m_ 42 [s_ 39,s_ 41] (.mapGet .nilS),m_ 43 [s_ 9] (.load true 4),m_ 44 [s_ 43] (.bslice 4 1 (.agg [(.int .i64 0),(.int .i64 0),(.int .i64 0),(.int .i64 0)]) [0]),m_ 45 [s_ 42,s_ 44] (.app 4 32 (.agg [(.int .i64 0),(.int .i64 0),(.int .i64 0),(.int .i64 0)])),h_ [s_ 36,s_ 38,s_ 45] .mapSet])))) (.reg [c2 46 21 (.int .i64 1) (.bin .add),o1 21 46 .mv]))))))) (.seq (.reg [o1 47 2 (.faddr false 4 1),o1 48 47 (.load false 1),o1 49 2 (.faddr false 4 1),o1 50 49 (.load false 1),o2 51 48 50 (.build [(.int .i64 0),(.int .i64 0)] [(0,1),(1,1)] [0,1]),o1 52 51 (.bslice 2 1 (.agg [(.int .i64 0),(.int .i64 0)]) [0]),o1 10 52 .mv]) (.seq (.seq (.reg [o1 53 7 .mv,o1 54 53 (.len false),c1 55 (.int .i64 0) .mv]) (.block 2 (.loop (.seq (.reg [o2 56 55 54 (.bin .lss)]) (.seq (.cond (.slot 56) .skip (.exit 2)) (.seq (.block 3 (.seq (.reg [o2 57 53 55 (.iaddr 1),o1 58 57 (.load false 1),o1 12 58 .mv]) (.dreg [o1 59 10 .mv,o1 60 6 .mv,o1 61 12 .mv,o2 62 60 61 (.mapGet .nilS),o1 63 1 .mv,o1 64 12 .mv,o2 65 63 64 (.iaddr 1),o1 66 65 (.load false 1),k2 67 153 62 66,k2 68 152 59 67,o1 10 68 .mv]))) (.reg [c2 69 55 (.int .i64 1) (.bin .add),o1 55 69 .mv]))))))) (.seq (.reg [o1 71 10 .mv,k1 72 154 71,o1 70 72 .mv,o1 73 70 (.extract 0),o1 74 70 (.extract 1),o1 13 73 .mv,o1 14 74 .mv]) (.seq (.reg [o1 76 10 .mv,k1 77 155 76,o1 75 77 .mv,o1 78 75 (.extract 0),o1 79 75 (.extract 1),o1 15 78 .mv,o1 16 79 .mv]) (.seq (.reg [o1 80 10 .mv,o1 81 10 .mv,o1 82 81 (.len false),c2 83 82 (.int .i64 0) (.bin .gtr),o1 84 83 .mv,g1 85 84 13 .mv,g_ 86 84 true [s_ 85,k_ (.int .i64 0)] (.bin .geq),m_ 87 [s_ 84,s_ 86,k_ (.bool false)] .pick,o1 88 87 .mv,g1 89 88 15 .mv,g_ 90 88 true [s_ 89,k_ (.int .i64 1114111)] (.bin .leq),m_ 91 [s_ 88,s_ 90,k_ (.bool false)] .pick,o1 4 80 .mv,o1 5 91 .mv]) .ret)))))))))
theorem z0n:z0j Tryz.prog 148 2=some ⟨92,2,[(.slot 4),(.slot 5)],z0l⟩:=by kernel_rfl
def zea:AC:=(.seq (.reg [c1 2 .nilF .mv]) (.seq (.reg [o1 4 0 .mv,k1 5 131 4,o0 3 (.alloc .nilS 1),n2 3 5 (.store 1)]) (.seq (.reg [o1 6 3 (.mkFunc 156),o1 2 6 .mv]) .ret)))
theorem zo2:z0j Tryz.prog 149 1=some ⟨7,1,[(.slot 2)],zea⟩:=by kernel_rfl
def z38:AC:=(.seq (.reg [c1 10 (.bool true) .mv]) (.seq (.reg [c1 11 (.bool true) .mv]) (.block 0 (.loop (.block 1 (.seq (.reg [o1 21 2 .mv,o1 22 1 .mv,o2 23 21 22 (.bin .sub),o1 12 23 .mv]) (.seq (.seq (.reg [o1 24 12 .mv,c2 25 24 (.int .i64 12) (.bin .leq)]) (.cond (.slot 25) (.seq (.reg [o1 26 0 .mv,o1 27 1 .mv,o1 28 2 .mv,o1 29 4 .mv,m_ 30 [k_ (.fn 157 []),s_ 26,s_ 27,s_ 28,s_ 29] .call]) .ret) .skip)) (.seq (.seq (.reg [o1 31 3 .mv,c2 32 31 (.int .i64 0) (.bin .eql)]) (.cond (.slot 32) (.seq (.reg [o1 33 0 .mv,o1 34 1 .mv,o1 35 2 .mv,o1 36 4 .mv,m_ 37 [k_ (.fn 158 []),s_ 33,s_ 34,s_ 35,s_ 36] .call]) .ret) .skip)) (.seq (.seq (.reg [o1 38 10 .mv,o1 39 38 (.un .not)]) (.cond (.slot 39) (.seq (.reg [o1 40 0 .mv,o1 41 1 .mv,o1 42 2 .mv,o1 43 4 .mv,m_ 44 [k_ (.fn 159 []),s_ 40,s_ 41,s_ 42,s_ 43] .call]) (.reg [o1 45 3 .mv,c2 46 45 (.int .i64 1) (.bin .sub),o1 3 46 .mv])) .skip)) (.seq (.reg [o1 48 0 .mv,o1 49 1 .mv,o1 50 2 .mv,o1 51 4 .mv,m_ 52 [k_ (.fn 160 []),s_ 48,s_ 49,s_ 50,s_ 51] .call,o1 47 52 .mv,o1 53 47 (.extract 0),o1 54 47 (.extract 1),o1 13 53 .mv,o1 14 54 .mv]) (.seq (.seq (.reg [o1 55 14 .mv,c2 56 55 (.int .i64 2) (.bin .eql)]) (.cond (.slot 56) (.seq (.reg [o1 57 0 .mv,o1 58 1 .mv,o1 59 2 .mv,o1 60 4 .mv,m_ 61 [k_ (.fn 161 []),s_ 57,s_ 58,s_ 59,s_ 60] .call]) (.seq (.reg [o1 62 2 .mv,c2 63 62 (.int .i64 1) (.bin .sub),o1 64 13 .mv,o1 65 1 .mv,o2 66 64 65 (.bin .sub),o2 67 63 66 (.bin .sub),o1 13 67 .mv]) (.reg [c1 14 (.int .i64 1) .mv]))) .skip)) (.seq (.seq (.reg [o1 68 10 .mv,o1 69 68 .mv,g1 70 69 11 .mv,m_ 71 [s_ 69,s_ 70,k_ (.bool false)] .pick,o1 72 71 .mv,g1 73 72 14 .mv,g_ 74 72 true [s_ 73,k_ (.int .i64 1)] (.bin .eql),m_ 75 [s_ 72,s_ 74,k_ (.bool false)] .pick]) (.cond (.slot 75) (.seq (.reg [o1 76 0 .mv,o1 77 1 .mv,o1 78 2 .mv,o1 79 4 .mv,m_ 80 [k_ (.fn 162 []),s_ 76,s_ 77,s_ 78,s_ 79] .call]) (.cond (.slot 80) .ret .skip)) .skip)) (.seq (.seq (.dtl [o1 81 1 .mv,c2 82 81 (.int .i64 0) (.bin .gtr),o1 83 82 .mv,g1 84 83 4 .mv,g1 85 83 0 .mv,g1 86 83 1 .mv,g_ 87 83 true [s_ 86,k_ (.int .i64 1)] (.bin .sub),g2 88 83 85 87 (.iaddr 2),g1 89 83 88 (.load true 2),g1 90 83 0 .mv,g1 91 83 13 .mv,g2 92 83 90 91 (.iaddr 2),g1 93 83 92 (.load true 2)] [g_ 94 83 true [s_ 84,s_ 89,s_ 93] .call,g_ 95 83 true [s_ 94,k_ (.int .i64 0)] (.bin .lss),g1 96 83 95 (.un .not),m_ 97 [s_ 83,s_ 96,k_ (.bool false)] .pick]) (.cond (.slot 97) (.seq (.reg [o1 98 0 .mv,o1 99 1 .mv,o1 100 2 .mv,o1 101 13 .mv,o1 102 4 .mv,m_ 103 [k_ (.fn 163 []),s_ 98,s_ 99,s_ 100,s_ 101,s_ 102] .call,o1 15 103 .mv]) (.seq (.reg [o1 104 15 .mv,o1 1 104 .mv]) (.exit 1))) .skip)) (.seq (.reg [o1 106 0 .mv,o1 107 1 .mv,o1 108 2 .mv,o1 109 13 .mv,o1 110 4 .mv,m_ 111 [k_ (.fn 164 []),s_ 106,s_ 107,s_ 108,s_ 109,s_ 110] .call,o1 105 111 .mv,o1 112 105 (.extract 0),o1 113 105 (.extract 1),o1 16 112 .mv,o1 17 113 .mv]) (.seq (.reg [o1 114 17 .mv,o1 11 114 .mv]) (.seq (.reg [o1 115 16 .mv,o1 116 1 .mv,o2 117 115 116 (.bin .sub),o1 118 2 .mv,o1 119 16 .mv,o2 120 118 119 (.bin .sub),o1 18 117 .mv,o1 19 120 .mv]) (.seq (.reg [o1 121 12 .mv,c2 122 121 (.int .i64 8) (.bin .quo),o1 20 122 .mv]) (.seq (.reg [o1 123 18 .mv,o1 124 19 .mv,o2 125 123 124 (.bin .lss)]) (.cond (.slot 125) (.seq (.reg [o1 126 18 .mv,o1 127 20 .mv,o2 128 126 127 (.bin .geq),o1 10 128 .mv]) (.seq (.reg [o1 129 0 .mv,o1 130 1 .mv,o1 131 16 .mv,o1 132 3 .mv,o1 133 4 .mv,m_ 134 [k_ (.fn 150 []),s_ 129,s_ 130,s_ 131,s_ 132,s_ 133] .call]) (.reg [o1 135 16 .mv,c2 136 135 (.int .i64 1) (.bin .add),o1 1 136 .mv]))) (.seq (.reg [o1 137 19 .mv,o1 138 20 .mv,o2 139 137 138 (.bin .geq),o1 10 139 .mv]) (.seq (.reg [o1 140 0 .mv,o1 141 16 .mv,c2 142 141 (.int .i64 1) (.bin .add),o1 143 2 .mv,o1 144 3 .mv,o1 145 4 .mv,m_ 146 [k_ (.fn 150 []),s_ 140,s_ 142,s_ 143,s_ 144,s_ 145] .call]) (.reg [o1 147 16 .mv,o1 2 147 .mv]))))))))))))))))))))))
theorem z4q:z0j Tryz.prog 150 5=some ⟨148,5,[],z38⟩:=by kernel_rfl
def zeb:AC:=(.seq (.reg [c1 4 .nilS .mv]) (.seq (.reg [c1 5 .nilS .mv]) (.seq (.seq (.reg [o1 10 0 .mv,o1 11 10 (.len false),c1 12 (.int .i64 0) .mv]) (.block 0 (.loop (.seq (.reg [o2 13 12 11 (.bin .lss)]) (.seq (.cond (.slot 13) .skip (.exit 0)) (.seq (.block 1 (.seq (.reg [o2 14 10 12 (.iaddr 2),o1 15 14 (.load true 2),o0 7 (.alloc (.agg [(.int .i64 0),(.int .i64 0)]) 2),n2 7 15 (.store 2)]) (.seq (.seq (.reg [o1 16 1 .mv,o1 17 16 (.len false),c1 18 (.int .i64 0) .mv]) (.block 2 (.loop (.seq (.reg [o2 19 18 17 (.bin .lss)]) (.seq (.cond (.slot 19) .skip (.exit 2)) (.seq (.block 3 (.seq (.reg [o2 20 16 18 (.iaddr 2),o1 21 20 (.load true 2),o0 9 (.alloc (.agg [(.int .i64 0),(.int .i64 0)]) 2),n2 9 21 (.store 2)]) (.reg [o1 22 5 .mv,o1 23 7 (.faddr false 0 1),o1 24 23 (.load false 1),o1 25 9 (.faddr false 0 1),o1 26 25 (.load false 1),o2 27 24 26 (.bin .add),o1 28 7 (.faddr false 1 1),o1 29 28 (.load false 1),o1 30 9 (.faddr false 1 1),o1 31 30 (.load false 1),o2 32 29 31 (.bin .add),o2 33 27 32 (.build [(.int .i64 0),(.int .i64 0)] [(0,1),(1,1)] [0,1]),o1 34 33 (.bslice 2 1 (.agg [(.int .i64 0),(.int .i64 0)]) [0]),o2 35 22 34 (.app 2 16 (.agg [(.int .i64 0),(.int .i64 0)])),o1 5 35 .mv]))) (.reg [c2 36 18 (.int .i64 1) (.bin .add),o1 18 36 .mv]))))))) (.seq (.reg [o1 37 5 .mv,o1 38 37 (.len false),c2 39 38 (.int .i64 65536) (.bin .gtr)]) (.cond (.slot 39) (.reg [o1 40 5 .mv,k1 41 131 40,o1 5 41 .mv]) .skip))))) (.reg [c2 42 12 (.int .i64 1) (.bin .add),o1 12 42 .mv]))))))) (.seq (.reg [o1 43 5 .mv,k1 44 131 43,o1 4 44 .mv]) .ret))))
theorem zo3:z0j Tryz.prog 152 2=some ⟨45,2,[(.slot 4)],zeb⟩:=by kernel_rfl
def z7j:AC:=(.seq (.reg [o1 2 0 .box,c1 4 .nilS .mv]) (.seq (.seq (.reg [o1 13 2 (.load false 1),o1 14 13 (.len false),c2 15 14 (.int .i64 1) (.bin .eql)]) (.cond (.slot 15) (.seq (.reg [o1 16 2 (.load false 1),c2 17 16 (.int .i64 0) (.iaddr 4),o1 18 17 (.load true 4),o1 19 1 .mv,k2 20 137 18 19,o1 4 20 .mv]) .ret) .skip)) (.seq (.reg [o0 5 (.alloc .nilS 1)]) (.seq (.seq (.reg [o1 21 1 .mv,k1 22 149 21]) (.block 0 (.rng (.slot 22) [23] (.reg [o1 6 23 .mv]) (.block 1 (.seq (.reg [c1 7 (.int .i64 0) .mv]) (.seq (.seq (.reg [o1 24 2 (.load false 1),o1 25 24 (.len false),c1 26 (.int .i64 0) .mv]) (.block 2 (.loop (.seq (.reg [o2 27 26 25 (.bin .lss)]) (.seq (.cond (.slot 27) .skip (.exit 2)) (.seq (.block 3 (.seq (.reg [o2 28 24 26 (.iaddr 4),o1 29 28 (.load true 4),o0 9 (.alloc (.agg [(.int .i64 0),(.int .i64 0),(.int .i64 0),(.int .i64 0)]) 4),n2 9 29 (.store 4)]) (.seq (.reg [o1 31 9 (.load true 4),o1 32 6 .mv,k2 33 87 31 32,o1 30 33 .mv,o1 34 30 (.extract 0),o1 35 30 (.extract 1),o1 10 34 .mv,o1 11 35 .mv]) (.reg [o1 36 7 .mv,o1 37 10 .mv,o2 38 36 37 (.bin .add),o1 7 38 .mv])))) (.reg [c2 39 26 (.int .i64 1) (.bin .add),o1 26 39 .mv]))))))) (.seq (.reg [o1 40 5 (.load false 1),o1 41 40 (.len false),o1 12 41 .mv]) (.seq (.reg [o1 42 12 .mv,c2 43 42 (.int .i64 0) (.bin .gtr),o1 44 43 .mv,g1 45 44 5 (.load false 1),g1 46 44 12 .mv,g_ 47 44 true [s_ 46,k_ (.int .i64 1)] (.bin .sub),g2 48 44 45 47 (.iaddr 2),g1 49 44 48 (.faddr false 1 1),g1 50 44 49 (.load false 1),g1 51 44 7 .mv,g_ 52 44 true [s_ 51,k_ (.int .i64 1)] (.bin .sub),g2 53 44 50 52 (.bin .eql),m_ 54 [s_ 44,s_ 53,k_ (.bool false)] .pick]) (.cond (.slot 54) (.reg [o1 55 5 (.load false 1),o1 56 12 .mv,c2 57 56 (.int .i64 1) (.bin .sub),o1 58 7 .mv,o2 59 55 57 (.iaddr 2),o1 60 59 (.faddr false 1 1),n2 60 58 (.store 1)]) (.reg [o1 61 5 (.load false 1),o1 62 7 .mv,o1 63 7 .mv,o2 64 62 63 (.build [(.int .i64 0),(.int .i64 0)] [(0,1),(1,1)] [0,1]),o1 65 64 (.bslice 2 1 (.agg [(.int .i64 0),(.int .i64 0)]) [0]),o2 66 61 65 (.app 2 16 (.agg [(.int .i64 0),(.int .i64 0)])),n2 5 66 (.store 1)])))))))))) (.seq (.reg [o1 67 5 (.load false 1),k1 68 131 67,o1 4 68 .mv]) .ret)))))
theorem zec:z0j Tryz.prog 153 2=some ⟨69,2,[(.slot 4)],z7j⟩:=by kernel_rfl
def zcf:AC:=(.seq (.reg [c1 2 (.int .i64 0) .mv,c1 3 (.bool false) .mv]) (.seq (.reg [o1 5 0 .mv,k1 6 131 5,o1 4 6 .mv]) (.seq (.seq (.reg [o1 7 4 .mv,o1 8 7 (.len false),c2 9 8 (.int .i64 0) (.bin .eql)]) (.cond (.slot 9) (.seq (.reg [c1 2 (.int .i64 0) .mv,c1 3 (.bool false) .mv]) .ret) .skip)) (.seq (.reg [o1 10 4 .mv,c2 11 10 (.int .i64 0) (.iaddr 2),o1 12 11 (.faddr false 0 1),o1 13 12 (.load false 1),o1 2 13 .mv,c1 3 (.bool true) .mv]) .ret))))
theorem zm0:z0j Tryz.prog 154 1=some ⟨14,1,[(.slot 2),(.slot 3)],zcf⟩:=by kernel_rfl
def zed:AC:=(.seq (.reg [c1 2 (.int .i64 0) .mv,c1 3 (.bool false) .mv]) (.seq (.reg [o1 5 0 .mv,k1 6 131 5,o1 4 6 .mv]) (.seq (.seq (.reg [o1 7 4 .mv,o1 8 7 (.len false),c2 9 8 (.int .i64 0) (.bin .eql)]) (.cond (.slot 9) (.seq (.reg [c1 2 (.int .i64 0) .mv,c1 3 (.bool false) .mv]) .ret) .skip)) (.seq (.reg [o1 10 4 .mv,o1 11 4 .mv,o1 12 11 (.len false),c2 13 12 (.int .i64 1) (.bin .sub),o2 14 10 13 (.iaddr 2),o1 15 14 (.faddr false 1 1),o1 16 15 (.load false 1),o1 2 16 .mv,c1 3 (.bool true) .mv]) .ret))))
theorem zo4:z0j Tryz.prog 155 1=some ⟨17,1,[(.slot 2),(.slot 3)],zed⟩:=by kernel_rfl
def z6u:AC:=(.seq (.reg [o1 6 1 (.load false 1),o1 7 6 (.len false),c1 8 (.int .i64 0) .mv]) (.block 0 (.loop (.seq (.reg [o2 9 8 7 (.bin .lss)]) (.seq (.cond (.slot 9) .skip (.exit 0)) (.seq (.block 1 (.seq (.reg [o2 10 6 8 (.iaddr 2),o1 11 10 (.load true 2),o0 4 (.alloc (.agg [(.int .i64 0),(.int .i64 0)]) 2),n2 4 11 (.store 2)]) (.seq (.reg [o1 12 4 (.faddr false 0 1),o1 13 12 (.load false 1),o1 5 13 .mv]) (.block 2 (.loop (.seq (.seq (.reg [o1 14 5 .mv,o1 15 4 (.faddr false 1 1),o1 16 15 (.load false 1),o2 17 14 16 (.bin .leq)]) (.cond (.slot 17) .skip (.exit 2))) (.seq (.block 3 (.seq (.reg [o1 20 0 .mv,o1 21 5 .mv,o2 22 20 21 .call,o1 23 22 (.un .not)]) (.cond (.slot 23) .ret .skip))) (.reg [o1 18 5 .mv,c2 19 18 (.int .i64 1) (.bin .add),o1 5 19 .mv])))))))) (.reg [c2 24 8 (.int .i64 1) (.bin .add),o1 8 24 .mv])))))))
theorem ziz:z0j Tryz.prog 156 2=some ⟨25,2,[],z6u⟩:=by kernel_rfl
def z2e:AC:=(.seq (.reg [o1 10 1 .mv,c2 11 10 (.int .i64 1) (.bin .add),o1 8 11 .mv]) (.block 0 (.loop (.seq (.seq (.reg [o1 12 8 .mv,o1 13 2 .mv,o2 14 12 13 (.bin .lss)]) (.cond (.slot 14) .skip (.exit 0))) (.seq (.block 1 (.seq (.reg [o1 17 8 .mv,o1 9 17 .mv]) (.block 2 (.loop (.seq (.seq (.dtl [o1 18 9 .mv,o1 19 1 .mv,o2 20 18 19 (.bin .gtr),o1 21 20 .mv,g1 22 21 3 .mv,g1 23 21 0 .mv,g1 24 21 9 .mv,g2 25 21 23 24 (.iaddr 2),g1 26 21 25 (.load true 2),g1 27 21 0 .mv,g1 28 21 9 .mv,g_ 29 21 true [s_ 28,k_ (.int .i64 1)] (.bin .sub),g2 30 21 27 29 (.iaddr 2),g1 31 21 30 (.load true 2)] [g_ 32 21 true [s_ 22,s_ 26,s_ 31] .call,g_ 33 21 true [s_ 32,k_ (.int .i64 0)] (.bin .lss),m_ 34 [s_ 21,s_ 33,k_ (.bool false)] .pick]) (.cond (.slot 34) .skip (.exit 2))) (.seq (.block 3 (.greg [o1 37 0 .mv,o1 38 9 .mv,o1 39 0 .mv,o1 40 9 .mv,c2 41 40 (.int .i64 1) (.bin .sub),o1 42 0 .mv,o1 43 9 .mv,c2 44 43 (.int .i64 1) (.bin .sub),o2 45 42 44 (.iaddr 2),o1 46 45 (.load true 2),o1 47 0 .mv,o1 48 9 .mv,o2 49 47 48 (.iaddr 2),o1 50 49 (.load true 2),o2 51 37 38 (.iaddr 2),n2 51 46 (.store 2),o2 52 39 41 (.iaddr 2),n2 52 50 (.store 2)])) (.reg [o1 35 9 .mv,c2 36 35 (.int .i64 1) (.bin .sub),o1 9 36 .mv]))))))) (.reg [o1 15 8 .mv,c2 16 15 (.int .i64 1) (.bin .add),o1 8 16 .mv]))))))
theorem z3y:z0j Tryz.prog 157 4=some ⟨53,4,[],z2e⟩:=by kernel_rfl
end Go.Proofs.YticodgjinajkpaaGreat
set_option linter.unusedSimpArgs false
set_option linter.unusedVariables false
namespace Go.Proofs.YticodgjinajkpaaGreat
open Abs
theorem zab {P:Program} {f m np b:Nat} {xs:List AV} {l:List Grp} {K:AV→z02→Prop} {res:List ARes} {B:AC} (hf:z0j P f xs.length=some ⟨m,np,res,B⟩) (hb:b=l.length) (h:W P m b B (entry xs) (Abs.hl l) (Ret P res K)):z1d P f xs (Abs.hl l) K:=by
 subst hb
 exact zuy hf (W_T h)
theorem y7r (l:List Span):z1d Tryz.prog 157 [.ref 0 1 0 0,.int .i64 0,.int .i64 0,.fn 143 []] (Abs.hl [⟨2,1,true,l.map z1g⟩]) fun y H'=>y=.tup []∧H'=Abs.hl [⟨2,1,true,l.map z1g⟩]:=by
 refine zab (b:=1) z3y rfl ?_
 unfold z2e
 (repeat' (first|(simp (disch:=omega) only [push_cast,↓zz,seval])|(with_reducible first|refine And.intro ?_ ?_|(first|refine z01 ?_ ?_|refine z00 ?_ ?_)<;>intro hc<;>(try simp only [push_cast] at hc))|omega|with_reducible intro _))
 refine z0f (z0g (fun (_:Unit)=>True) (fun _=>0) (fun _=>[(0,.ref 0 1 0 0),(1,.int .i64 0),(2,.int .i64 0),(3,.fn 143 []),(8,.int .i64 1)])
   (fun _=>[⟨2,1,true,l.map z1g⟩]) (fun _ _=>[]) () trivial ?_ ?_)
 · (repeat' (first|(simp (disch:=omega) only [push_cast,↓zz,seval])|(with_reducible first|refine And.intro ?_ ?_|(first|refine z01 ?_ ?_|refine z00 ?_ ?_)<;>intro hc<;>(try simp only [push_cast] at hc))|omega|with_reducible intro _))
 rintro _ _
 refine W_T ?_
 (repeat' (first|(simp (disch:=omega) only [push_cast,↓zz,seval])|(with_reducible first|refine And.intro ?_ ?_|(first|refine z01 ?_ ?_|refine z00 ?_ ?_)<;>intro hc<;>(try simp only [push_cast] at hc))|omega|with_reducible intro _))
 all_goals trace_state
set_option maxRecDepth 100000 in
theorem len0:PC Tryz.prog 111 [.int .u64 0] (.int .i64 0):=by
 refine z0s zb1 ?_
 unfold z6a
 (repeat' (first|(simp (disch:=omega) only [push_cast,↓zz,seval])|(with_reducible first|refine And.intro ?_ ?_|(first|refine z01 ?_ ?_|refine z00 ?_ ?_)<;>intro hc<;>(try simp only [push_cast] at hc))|omega|with_reducible intro _))
 all_goals decide
theorem zt5:PC Tryz.prog 90 [.int .u64 0] (.int .i64 0):=by
 refine z0s zdx ?_
 unfold z7f
 (repeat' (first|(simp (disch:=omega) only [push_cast,↓zz,seval])|(with_reducible first|refine And.intro ?_ ?_|(first|refine z01 ?_ ?_|refine z00 ?_ ?_)<;>intro hc<;>(try simp only [push_cast] at hc))|((with_reducible first|refine eK len0 ?_|refine eQ len0 ?_|refine eG len0 ?_))|((with_reducible first|refine cK len0 ?_|refine cQ len0 ?_|refine cG len0 ?_);(simp (disch:=omega) only [push_cast,↓zz,seval]);(fail_if_success (with_reducible change False)))|omega|with_reducible intro _))
theorem pdq0 (l:List Span):z1d Tryz.prog 150 [.ref 0 1 0 0,.int .i64 0,.int .i64 0,.int .i64 0,.fn 143 []] (Abs.hl [⟨2,1,true,l.map z1g⟩]) fun y H'=>y=.tup []∧H'=Abs.hl [⟨2,1,true,l.map z1g⟩]:=by
 refine zab (b:=1) z4q rfl ?_
 unfold z38
 (repeat' (first|(simp (disch:=omega) only [push_cast,↓zz,seval])|(with_reducible first|refine And.intro ?_ ?_|(first|refine z01 ?_ ?_|refine z00 ?_ ?_)<;>intro hc<;>(try simp only [push_cast] at hc))|omega|with_reducible intro _))
 refine z0f (z0g (fun (_:Unit)=>True) (fun _=>0) (fun _=>[(0,.ref 0 1 0 0),(1,.int .i64 0),(2,.int .i64 0),(3,.int .i64 0),(4,.fn 143 []),(10,.bool true),(11,.bool true)])
   (fun _=>[⟨2,1,true,l.map z1g⟩]) (fun _ _=>[]) () trivial ?_ ?_)
 · (repeat' (first|(simp (disch:=omega) only [push_cast,↓zz,seval])|(with_reducible first|refine And.intro ?_ ?_|(first|refine z01 ?_ ?_|refine z00 ?_ ?_)<;>intro hc<;>(try simp only [push_cast] at hc))|omega|with_reducible intro _))
 rintro _ _
 refine W_T ?_
 (repeat' (first|(simp (disch:=omega) only [push_cast,↓zz,seval])|(with_reducible first|refine And.intro ?_ ?_|(first|refine z01 ?_ ?_|refine z00 ?_ ?_)<;>intro hc<;>(try simp only [push_cast] at hc))|omega|with_reducible intro _))
 refine z1d.mono (y7r l) ?_
 rintro y H' ⟨rfl,rfl⟩
 (repeat' (first|(simp (disch:=omega) only [push_cast,↓zz,seval])|(with_reducible first|refine And.intro ?_ ?_|(first|refine z01 ?_ ?_|refine z00 ?_ ?_)<;>intro hc<;>(try simp only [push_cast] at hc))|omega|with_reducible intro _))
 all_goals trace_state
theorem sort0 (l:List Span):z1d Tryz.prog 142 [.ref 0 1 0 0,.fn 143 []] (Abs.hl [⟨2,1,true,l.map z1g⟩]) fun y H'=>y=.tup []∧H'=Abs.hl [⟨2,1,true,l.map z1g⟩]:=by
 refine zab (b:=1) z4d rfl ?_
 unfold z2o
 (repeat' (first|(simp (disch:=omega) only [push_cast,↓zz,seval])|(with_reducible first|refine And.intro ?_ ?_|(first|refine z01 ?_ ?_|refine z00 ?_ ?_)<;>intro hc<;>(try simp only [push_cast] at hc))|((with_reducible first|refine eK zt5 ?_|refine eQ zt5 ?_|refine eG zt5 ?_))|((with_reducible first|refine cK zt5 ?_|refine cQ zt5 ?_|refine cG zt5 ?_);(simp (disch:=omega) only [push_cast,↓zz,seval]);(fail_if_success (with_reducible change False)))|omega|with_reducible intro _))
 refine z1d.mono (pdq0 l) ?_
 rintro y H' ⟨rfl,rfl⟩
 (repeat' (first|(simp (disch:=omega) only [push_cast,↓zz,seval])|(with_reducible first|refine And.intro ?_ ?_|(first|refine z01 ?_ ?_|refine z00 ?_ ?_)<;>intro hc<;>(try simp only [push_cast] at hc))|omega|with_reducible intro _))
 all_goals trace_state
def memL (l:List Span) (x:Int):Prop:=∃ s ∈ l,s.lo ≤ x∧x ≤ s.hi
theorem z0z (x:Int):¬ memL [] x:=fun ⟨s,hs,_⟩=>by cases hs
theorem z0e {s:Span} {l:List Span} {x:Int}:memL (s :: l) x ↔ (s.lo ≤ x∧x ≤ s.hi) ∨ memL l x:=by
 constructor
 · rintro ⟨t,ht,hx⟩
   rcases List.mem_cons.1 ht with rfl|ht
   · exact .inl hx
   · exact .inr ⟨t,ht,hx⟩
 · rintro (hx|⟨t,ht,hx⟩)
   · exact ⟨s,by simp,hx⟩
   · exact ⟨t,by simp [ht],hx⟩
theorem z3o {l m:List Span} {x:Int}:memL (l ++ m) x ↔ memL l x ∨ memL m x:=by
 constructor
 · rintro ⟨t,ht,hx⟩
   rcases List.mem_append.1 ht with ht|ht
   · exact .inl ⟨t,ht,hx⟩
   · exact .inr ⟨t,ht,hx⟩
 · rintro (⟨t,ht,hx⟩|⟨t,ht,hx⟩)
   · exact ⟨t,by simp [ht],hx⟩
   · exact ⟨t,by simp [ht],hx⟩
def Plain (l:List Span):Prop:=(∀ s ∈ l,s.lo ≤ s.hi)∧l.Pairwise fun s t=>s.hi + 1 < t.lo
theorem Plain.tail {s:Span} {l:List Span} (h:Plain (s :: l)):Plain l:=⟨fun t ht=>h.1 t (by simp [ht]),(List.pairwise_cons.1 h.2).2⟩
theorem Plain.head {s:Span} {l:List Span} (h:Plain (s :: l)):s.lo ≤ s.hi:=h.1 s (by simp)
theorem Plain.after {s:Span} {l:List Span} (h:Plain (s :: l)) {x:Int} (hx:memL l x):s.hi + 1 < x:=by
 obtain ⟨t,ht,h1,h2⟩:=hx
 have:=(List.pairwise_cons.1 h.2).1 t ht
 omega
theorem z5l:∀ {a b:List Span},Plain a→Plain b→(∀ x,memL a x ↔ memL b x)→a=b
 | [],[],_,_,_=>rfl
 | [],t :: b,_,hb,h=>absurd ((h t.lo).2 (z0e.2 (.inl ⟨Int.le_refl _,hb.head⟩))) (z0z _)
 | s :: a,[],ha,_,h=>absurd ((h s.lo).1 (z0e.2 (.inl ⟨Int.le_refl _,ha.head⟩))) (z0z _)
 | s :: a,t :: b,ha,hb,h=>by
   have hs:=ha.head
   have ht:=hb.head
   have key:∀ {s t:Span} {a b:List Span},Plain (s :: a)→Plain (t :: b)→(∀ x,memL (s :: a) x ↔ memL (t :: b) x)→t.lo ≤ s.lo:=fun {s t a b} ha hb h=>by
     rcases z0e.1 ((h s.lo).1 (z0e.2 (.inl ⟨Int.le_refl _,ha.head⟩))) with hh|hh
     · exact hh.1
     · have:=hb.after hh;have:=hb.head;omega
   have hlo:s.lo=t.lo:=Int.le_antisymm (key hb ha fun x=>(h x).symm) (key ha hb h)
   have key2:∀ {s t:Span} {a b:List Span},Plain (s :: a)→Plain (t :: b)→(∀ x,memL (s :: a) x ↔ memL (t :: b) x)→s.lo=t.lo→t.hi ≤ s.hi:=fun {s t a b} ha hb h e=>by
     have:=ha.head
     rcases Int.lt_or_le s.hi t.hi with hlt|hle
     · rcases z0e.1 ((h (s.hi + 1)).2 (z0e.2 (.inl ⟨by omega,by omega⟩))) with hh|hh
       · omega
       · have:=ha.after hh;omega
     · exact hle
   have hhi:s.hi=t.hi:=Int.le_antisymm (key2 hb ha (fun x=>(h x).symm) hlo.symm) (key2 ha hb h hlo)
   have hst:s=t:=by cases s;cases t;simp_all
   subst hst
   refine congrArg _ (z5l ha.tail hb.tail fun x=>⟨fun hx=>?_,fun hx=>?_⟩)
   · rcases z0e.1 ((h x).1 (z0e.2 (.inr hx))) with hh|hh
     · have:=ha.after hx;omega
     · exact hh
   · rcases z0e.1 ((h x).2 (z0e.2 (.inr hx))) with hh|hh
     · have:=hb.after hx;omega
     · exact hh
def z2x (out:List Span) (x:Span):List Span :=
 match out.getLast? with
 | some y=>if x.lo ≤ y.hi + 1 then out.dropLast ++ [⟨y.lo,max y.hi x.hi⟩] else out ++ [x]
 | none=>[x]
theorem z4v (x:Span):z2x [] x=[x]:=rfl
theorem z97 (out:List Span) (y x:Span):z2x (out ++ [y]) x=if x.lo ≤ y.hi + 1 then out ++ [⟨y.lo,max y.hi x.hi⟩] else out ++ [y] ++ [x]:=by
 simp [z2x]
theorem z3k (l:List Span):l=[] ∨ ∃ m y,l=m ++ [y]:=by
 rcases List.eq_nil_or_concat l with h|⟨m,y,h⟩
 · exact .inl h
 · exact .inr ⟨m,y,by simpa using h⟩
theorem z5f {m:List Span} {y:Span}:Plain (m ++ [y]) ↔ Plain m∧y.lo ≤ y.hi∧∀ s ∈ m,s.hi + 1 < y.lo:=by
 simp only [Plain,List.pairwise_append,List.mem_append,List.mem_singleton,List.pairwise_singleton,true_and,or_imp,forall_and,forall_eq]
 constructor
 · rintro ⟨⟨h1,h2⟩,h3,h4⟩;exact ⟨⟨h1,h3⟩,h2,h4⟩
 · rintro ⟨⟨h1,h3⟩,h2,h4⟩;exact ⟨⟨h1,h2⟩,h3,h4⟩
def Before (l:List Span) (x:Int):Prop:=∀ s ∈ l,s.lo ≤ x
theorem zo5 {out:List Span} {x:Span} (h:Plain out) (hx:x.lo ≤ x.hi) (hb:Before out x.lo):Plain (z2x out x)∧Before (z2x out x) x.lo∧∀ v,memL (z2x out x) v ↔ memL out v ∨ (x.lo ≤ v∧v ≤ x.hi):=by
 rcases z3k out with rfl|⟨m,y,rfl⟩
 · refine ⟨⟨by simp [z4v,hx],by simp [z4v]⟩,by simp [z4v,Before],fun v=>?_⟩
   rw [z4v,z0e]
   constructor
   · rintro (h|h)
     · exact .inr h
     · exact absurd h (z0z _)
   · rintro (h|h)
     · exact absurd h (z0z _)
     · exact .inl h
 · rw [z97]
   obtain ⟨h1,h2,h3⟩:=z5f.1 h
   have hy:y.lo ≤ x.lo:=hb y (by simp)
   split
   · rename_i hle
     refine ⟨z5f.2 ⟨h1,by simp only;omega,fun s hs=>h3 s hs⟩,?_,fun v=>?_⟩
     · intro s hs
       rcases List.mem_append.1 hs with hs|hs
       · exact hb s (by simp [hs])
       · simp only [List.mem_singleton] at hs;subst hs;exact hy
     · rw [z3o,z3o,z0e,z0e]
       simp only [z0z,or_false]
       constructor
       · rintro (h|h)
         · exact .inl (.inl h)
         · by_cases hv:v ≤ y.hi
           · exact .inl (.inr ⟨h.1,hv⟩)
           · exact .inr ⟨by omega,by omega⟩
       · rintro ((h|h)|h)
         · exact .inl h
         · exact .inr ⟨h.1,by omega⟩
         · exact .inr ⟨by omega,by omega⟩
   · rename_i hle
     refine ⟨z5f.2 ⟨h,hx,fun s hs=>?_⟩,?_,fun v=>?_⟩
     · rcases List.mem_append.1 hs with hs|hs
       · have:=h3 s hs;omega
       · simp only [List.mem_singleton] at hs;subst hs;omega
     · intro s hs
       rcases List.mem_append.1 hs with hs|hs
       · exact hb s hs
       · simp only [List.mem_singleton] at hs;subst hs;exact Int.le_refl _
     · rw [z3o,z0e]
       simp only [z0z,or_false]
theorem z6b:∀ (l out:List Span),Plain out→(∀ s ∈ l,s.lo ≤ s.hi)→l.Pairwise (fun a b=>a.lo ≤ b.lo)→(∀ s ∈ l,Before out s.lo)→Plain (l.foldl z2x out)∧∀ v,memL (l.foldl z2x out) v ↔ memL out v ∨ memL l v
 | [],out,h,_,_,_=>⟨h,fun v=>by simp only [List.foldl_nil,z0z,or_false]⟩
 | x :: l,out,h,h1,h2,h3=>by
   obtain ⟨p1,p2,p3⟩:=zo5 h (h1 x (by simp)) (h3 x (by simp))
   rw [List.pairwise_cons] at h2
   obtain ⟨q1,q2⟩:=z6b l (z2x out x) p1 (fun s hs=>h1 s (by simp [hs])) h2.2 (fun s hs t ht=>Int.le_trans (p2 t ht) (h2.1 s hs))
   refine ⟨q1,fun v=>?_⟩
   rw [List.foldl_cons,q2 v,p3 v,z0e,or_assoc]
theorem zt6 (out:List Span) (x:Span):(z2x out x).length ≤ out.length + 1:=by
 rcases z3k out with rfl|⟨m,y,rfl⟩
 · simp [z4v]
 · rw [z97];split<;>simp
theorem zj0:∀ (l out:List Span),(l.foldl z2x out).length ≤ out.length + l.length
 | [],out=>by simp
 | x :: l,out=>by
   have h1:=zj0 l (z2x out x)
   have h2:=zt6 out x
   simp only [List.foldl_cons,List.length_cons]
   omega
def z98 (s:Span):Span:=⟨max s.lo (-1073741824),min s.hi 1073741824⟩
def inN (l:List Span):List Span:=(l.map z98).filter fun s=>decide (s.lo ≤ s.hi)
theorem zxa {l:List Span} {x:Int}:memL (inN l) x ↔ memL l x∧-1073741824 ≤ x∧x ≤ 1073741824:=by
 constructor
 · rintro ⟨s,hs,h1,h2⟩
   simp only [inN,List.mem_filter,List.mem_map] at hs
   obtain ⟨⟨t,ht,rfl⟩,_⟩:=hs
   simp only [z98] at h1 h2
   exact ⟨⟨t,ht,by omega,by omega⟩,by omega,by omega⟩
 · rintro ⟨⟨t,ht,h1,h2⟩,h3,h4⟩
   refine ⟨z98 t,?_,by simp only [z98];omega,by simp only [z98];omega⟩
   simp only [inN,List.mem_filter,List.mem_map,decide_eq_true_eq]
   exact ⟨⟨t,ht,rfl⟩,by simp only [z98];omega⟩
theorem zqv {l:List Span}:∀ s ∈ inN l,s.lo ≤ s.hi:=fun s hs=>by
 simp only [inN,List.mem_filter,decide_eq_true_eq] at hs
 exact hs.2
theorem zee {l m:List Span} (h:l.Perm m) (x:Int):memL l x ↔ memL m x :=
 ⟨fun ⟨s,hs,hx⟩=>⟨s,h.mem_iff.1 hs,hx⟩,fun ⟨s,hs,hx⟩=>⟨s,h.mem_iff.2 hs,hx⟩⟩
def z0d (l:List Span):List Span:=((inN l).mergeSort fun a b=>decide (a.lo ≤ b.lo)).foldl z2x []
theorem y1t {l m:List Span} (hp:m.Perm (inN l)) (hs:m.Pairwise fun a b=>a.lo ≤ b.lo):m.foldl z2x []=z0d l:=by
 have hq:((inN l).mergeSort fun a b=>decide (a.lo ≤ b.lo)).Perm (inN l):=List.mergeSort_perm _ _
 have hs':((inN l).mergeSort fun a b=>decide (a.lo ≤ b.lo)).Pairwise fun a b=>a.lo ≤ b.lo:=by
   have:=List.pairwise_mergeSort (le:=fun a b:Span=>decide (a.lo ≤ b.lo)) (fun a b c h1 h2=>by simp at *;omega) (fun a b=>by simp;omega) (inN l)
   simpa using this
 obtain ⟨a1,a2⟩:=z6b m [] ⟨by simp,by simp⟩ (fun s h=>zqv s (hp.mem_iff.1 h)) hs (fun s _ t ht=>by cases ht)
 obtain ⟨b1,b2⟩:=z6b _ [] ⟨by simp,by simp⟩ (fun s h=>zqv s (hq.mem_iff.1 h)) hs' (fun s _ t ht=>by cases ht)
 refine z5l a1 b1 fun x=>?_
 rw [z0d,a2 x,b2 x,zee hp x,zee hq x]
theorem z0c (l:List Span):Plain (z0d l)∧∀ x,memL (z0d l) x ↔ memL l x∧-1073741824 ≤ x∧x ≤ 1073741824:=by
 have hq:((inN l).mergeSort fun a b=>decide (a.lo ≤ b.lo)).Perm (inN l):=List.mergeSort_perm _ _
 have hs':((inN l).mergeSort fun a b=>decide (a.lo ≤ b.lo)).Pairwise fun a b=>a.lo ≤ b.lo:=by
   have:=List.pairwise_mergeSort (le:=fun a b:Span=>decide (a.lo ≤ b.lo)) (fun a b c h1 h2=>by simp at *;omega) (fun a b=>by simp;omega) (inN l)
   simpa using this
 obtain ⟨b1,b2⟩:=z6b _ [] ⟨by simp,by simp⟩ (fun s h=>zqv s (hq.mem_iff.1 h)) hs' (fun s _ t ht=>by cases ht)
 refine ⟨b1,fun x=>?_⟩
 rw [z0d,b2 x,zee hq x,zxa]
 simp only [z0z,false_or]
theorem zo6 (l:List Span):(inN l).length ≤ l.length:=by
 have:=List.length_filter_le (fun s:Span=>decide (s.lo ≤ s.hi)) (l.map z98)
 simpa [inN] using this
theorem z3b (l:List Span):(z0d l).length ≤ l.length:=by
 have h1:=zj0 ((inN l).mergeSort fun a b=>decide (a.lo ≤ b.lo)) []
 have h2:=zo6 l
 rw [List.length_mergeSort] at h1
 simp only [List.length_nil] at h1
 rw [z0d]
 omega
end Go.Proofs.YticodgjinajkpaaGreat
namespace Go.Proofs.YticodgjinajkpaaGreat.Abs
section
variable {P:Program} {n b:Nat} {S:MS} {H:z02}
theorem put_defers (a:Act) (d:Option Nat) (v:Value):(a.put d v).defers=a.defers:=by cases d<;>rfl
theorem ybq (hS:SRel S H) {env:Env} {a:Act} (hF:FRel S n env a) {o:Oper} {q:AOp} {ops:Array Oper} (h:z1h P n ops o=some q) {K:AV→z02→Prop} (hst:z06 P q.k H (q.vals env) K)
   {N:Act→World→Prop} {Q:Exit→Act→World→Prop} (hN:∀ S' H' x a',Evo S S'→SRel S' H'→FRel S' n (env.put q.dst x) a'→a'.defers=a.defers→K x H'→N a' S'.w) (r:Option Nat) (m:Nat):o.wpIn (fen r) m P a S.w N Q:=by
 obtain ⟨h1,h2,h3,h4,_⟩:=z0y h
 have hargs:=z9l hF h2
 have hsem:o.semAt (fen r).round a.eval=execOp a.eval o:=Oper.semAt_eq _ _ _ fun c hc=>by rw [hc] at h1;cases h1
 rcases zg1 hS o h1 (ρ:=a.eval) hargs hst with ⟨v,S',x,H',hr,e,hS',hv,hK⟩|⟨f,cargs,hr,hc⟩
 · have hN':=fun v' (hv':VRel S' x v')=>hN S' H' x (a.put o.dst v') e hS' (by rw [h3];exact (hF.mono e).put h4 hv') (put_defers _ _ _) hK
   refine ⟨fun _ _=>trivial,?_⟩
   rw [hsem]
   rcases hr with hr|⟨hr,rfl⟩<;>rw [hr]
   · exact hN' v hv
   · exact hN' undef hv
 · refine ⟨fun _ _=>trivial,?_⟩
   rw [hsem,hr,Oper.uponIn_enter]
   refine ⟨fun h=>(by cases h),zd5 (hc.mono fun e w' hh=>?_)⟩
   obtain ⟨v,S',x,H',rfl,rfl,ev,hS',hv,hK⟩:=hh
   exact hN S' H' x (a.put o.dst v) ev hS' (by rw [h3];exact (hF.mono ev).put h4 hv) (put_defers _ _ _) hK
theorem z6c {ops:Array Oper} {Q:Exit→Act→World→Prop} {rd:Option Nat} {m:Nat} (tl:List Nat):∀ (l:List Oper) (l':List AOp) (k:Nat),(∀ j,j < l.length→l[j]? = ops[k + j]?)→l.mapM (z1h P n ops)=some l'→∀ {S:MS} {H:z02} {env:Env} {a:Act} {K:Env→z02→Prop},
   SRel S H→FRel S n env a→runK P l' env H K→(∀ S' H' env' a',Evo S S'→SRel S' H'→FRel S' n env' a'→a'.defers=a.defers→K env' H'→wpOpsIn (fen rd) m P ops Q tl a' S'.w)→wpOpsIn (fen rd) m P ops Q (List.range' k l.length ++ tl) a S.w
 | [],l',k,_,hm,S,H,env,a,K,hS,hF,hr,hQ=>by
   simp at hm
   subst hm
   exact hQ S H env a (.refl S) hS hF rfl hr
 | o :: l,l',k,hl,hm,S,H,env,a,K,hS,hF,hr,hQ=>by
   rw [List.mapM_cons] at hm
   simp only [Option.bind_eq_bind,Option.bind_eq_some_iff,Option.pure_def,Option.some.injEq] at hm
   obtain ⟨q,hq,r,hrr,rfl⟩:=hm
   have h0:ops[k]? = some o:=by simpa using (hl 0 (by simp)).symm
   have hl':∀ j,j < l.length→l[j]? = ops[k + 1 + j]? := fun j hj=>by have:=hl (j + 1) (by simp;omega);simpa [Nat.add_assoc,Nat.add_comm 1 j] using this
   have hg:=zd4 hq hF hr
   rw [show List.range' k (o :: l).length ++ tl=k :: (List.range' (k + 1) l.length ++ tl) from rfl]
   simp only [wpOpsIn,h0]
   cases hw:Region.wanted o (yielded ops a.tmps)
   · rw [hw] at hg
     simp only [Bool.false_eq_true,if_false] at hg ⊢
     obtain ⟨_,_,h3,h4,_⟩:=z0y hq
     exact ⟨fun _ _=>trivial,z6c tl l r (k + 1) hl' hrr hS (by rw [h3];exact hF.put h4 z75) hg (fun S' H' env' a' e hS' hF' hd=>hQ S' H' env' a' e hS' hF' (hd.trans (put_defers _ _ _)))⟩
   · rw [hw] at hg
     simp only [if_true] at hg ⊢
     refine ybq hS hF hq hg (fun S' H' x a' e hS' hF' hd hK=>?_) rd m
     exact z6c tl l r (k + 1) hl' hrr hS' hF' hK (fun S2 H2 env2 a2 e2 hS2 hF2 hd2 hK2=>hQ S2 H2 env2 a2 (e.trans e2) hS2 hF2 (hd2.trans hd) hK2)
end
structure Itr where
 P:Program
 l:Nat
 m:Nat
 rows:List (List AV)
 S0:MS
 J:Nat→(Nat→Prop)→World→Prop
 Jx:Nat→(Nat→Prop)→World→Prop
 cJ:Clo J
 cx:Clo Jx
 fact:∀ k O W,J k O W ∨ Jx k O W→(∀ b,S0.im b→¬ O b∧W.heap[b]? = S0.w.heap[b]?)∧(W.os=S0.w.os∧W.tape=S0.w.tape∧W.output=S0.w.output)∧S0.w.heap.size ≤ W.heap.size∧∀ b,O b→S0.w.heap.size ≤ b∧b < W.heap.size
 round:∀ k row O W,rows[k]? = some row→J k O W→YieldAt Fence.wide m P l (encI row) W fun e W'=>W.heap.size ≤ W'.heap.size∧(∀ b,O b→W'.heap[b]? = W.heap[b]?)∧(e=.returned (.bool true)∧J (k + 1) O W' ∨ e=.returned (.bool false)∧Jx (k + 1) O W')
namespace Itr
def at_ (I:Itr):Option Nat→(Nat→Prop)→World→Prop
 | some k,O,W=>I.J k O W
 | none,O,W=>∃ k,I.Jx k O W
structure Now (I:Itr) (s:Option Nat) (X:Nat→Prop) (S:MS) (H:z02):Prop where
 rel:SRel S H
 base:S.base ≤ S.w.heap.size
 keep:∀ b,X b→S.keep b
 im:∀ b,I.S0.im b→S.im b
 apart:∀ b,S.im b→I.S0.im b ∨ ¬ X b
 st:I.at_ s (fun b=>b < S.w.heap.size∧¬ X b∧¬ I.S0.im b) S.w
theorem Now.on {I:Itr} {s:Option Nat} {X:Nat→Prop} {S S':MS} {H H':z02} (h:I.Now s X S H) (e:Evo S S') (hr:SRel S' H'):I.Now s X S' H':=by
 have hX:∀ b,X b→b < S.w.heap.size:=fun b hb=>h.rel.im b (.inr (h.keep b hb))
 have hi0:∀ b,I.S0.im b→b < S.w.heap.size:=fun b hb=>h.rel.im b (.inl (h.im b hb))
 refine ⟨hr,by rw [e.base];exact Nat.le_trans h.base e.size,fun b hb=>e.keep b (h.keep b hb),fun b hb=>e.im b (h.im b hb),fun b hb=>?_,?_⟩
 · rcases e.fresh b hb with hh|hh
   · exact h.apart b hh
   · exact .inr fun hx=>hh (h.keep b hx)
 · have ho:(fun b=>b < S'.w.heap.size∧¬ X b∧¬ I.S0.im b)=fun b=>(b < S.w.heap.size∧¬ X b∧¬ I.S0.im b) ∨ (S.w.heap.size ≤ b∧b < S'.w.heap.size):=by
     funext b
     refine propext ⟨fun ⟨h1,h2,h3⟩=>?_,fun hh=>?_⟩
     · rcases Nat.lt_or_ge b S.w.heap.size with hl|hl
       · exact .inl ⟨hl,h2,h3⟩
       · exact .inr ⟨hl,h1⟩
     · rcases hh with ⟨h1,h2,h3⟩|⟨h1,h2⟩
       · exact ⟨Nat.lt_of_lt_of_le h1 e.size,h2,h3⟩
       · exact ⟨h2,fun hx=>by have:=hX b hx;omega,fun hx=>by have:=hi0 b hx;omega⟩
   rw [ho]
   have hk:∀ b,b < S.w.heap.size→¬ (b < S.w.heap.size∧¬ X b∧¬ I.S0.im b)→S'.w.heap[b]? = S.w.heap[b]? := fun b hb hn=>by
     by_cases hx:X b
     · exact e.kept b (.inr (h.keep b hx))
     · by_cases hi:I.S0.im b
       · exact e.kept b (.inl (h.im b hi))
       · exact absurd ⟨hb,hx,hi⟩ hn
   cases s with
   | some k=>exact I.cJ k _ _ _ h.st e.os e.tape e.output e.size hk
   | none=>obtain ⟨k,hj⟩:=h.st;exact ⟨k,I.cx k _ _ _ hj e.os e.tape e.output e.size hk⟩
theorem Now.round {I:Itr} {k:Nat} {X:Nat→Prop} {S:MS} {H:z02} (h:I.Now (some k) X S H) {W':World} {s':Option Nat} (hsz:S.w.heap.size ≤ W'.heap.size) (ho:∀ b,b < S.w.heap.size∧¬ X b∧¬ I.S0.im b→W'.heap[b]? = S.w.heap[b]?)
   (hi:∀ b,I.S0.im b→W'.heap[b]? = S.w.heap[b]?) (hst:I.at_ s' (fun b=>b < S.w.heap.size∧¬ X b∧¬ I.S0.im b) W') :
   ∃ S',S'.w=W'∧I.Now s' (fun b=>X b ∨ (S.w.heap.size ≤ b∧b < W'.heap.size)) S' H∧Evi S S':=by
 obtain ⟨S',hd⟩:∃ S':MS,S'={ S with w:=W',keep:=fun b=>S.keep b ∨ (S.w.heap.size ≤ b∧b < W'.heap.size) }:=⟨_,rfl⟩
 have hX:∀ b,X b→b < S.w.heap.size:=fun b hb=>h.rel.im b (.inr (h.keep b hb))
 have him:∀ b,S.im b→b < S.w.heap.size:=fun b hb=>h.rel.im b (.inl hb)
 have hi0:∀ b,I.S0.im b→b < S.w.heap.size:=fun b hb=>him b (h.im b hb)
 have hw:∀ b,S.im b→W'.heap[b]? = S.w.heap[b]? := fun b hb=>by
   by_cases h0:I.S0.im b
   · exact hi b h0
   · exact ho b ⟨him b hb,(h.apart b hb).resolve_left h0,h0⟩
 refine ⟨S',by rw [hd],⟨?_,?_,?_,?_,?_,?_⟩,?_⟩
 · subst hd
   exact h.rel.turn2 hw rfl rfl rfl rfl rfl rfl (fun b hb=>hb.imp id And.left) (fun b hb=>hb.elim (fun hh=>Nat.lt_of_lt_of_le (h.rel.im b (.inr hh)) hsz) And.right)
     (fun b hb hl=>ho b ⟨hl,fun hx=>hb (.inr (h.keep b hx)),fun hx=>hb (.inl (h.im b hx))⟩) hsz
 · subst hd;exact Nat.le_trans h.base hsz
 · subst hd;exact fun b hb=>hb.imp (h.keep b) id
 · subst hd;exact h.im
 · subst hd
   intro b hb
   rcases h.apart b hb with hh|hh
   · exact .inl hh
   · exact .inr fun hx=>hx.elim hh fun hx=>by have:=him b hb;omega
 · subst hd
   have e:(fun b=>b < W'.heap.size∧¬ (X b ∨ (S.w.heap.size ≤ b∧b < W'.heap.size))∧¬ I.S0.im b)=fun b=>b < S.w.heap.size∧¬ X b∧¬ I.S0.im b:=by
     funext b
     refine propext ⟨fun ⟨h1,h2,h3⟩=>⟨?_,fun hx=>h2 (.inl hx),h3⟩,fun ⟨h1,h2,h3⟩=>⟨by omega,fun hx=>hx.elim h2 (fun hh=>by omega),h3⟩⟩
     rcases Nat.lt_or_ge b S.w.heap.size with hl|hl
     · exact hl
     · exact absurd (.inr ⟨hl,h1⟩) h2
   show I.at_ s' _ W'
   rw [e]
   exact hst
 · subst hd
   exact Evi.of hw rfl rfl rfl rfl rfl rfl
end Itr
def zac (I:Itr) (n:Nat) (Q:Option Nat→Ex→Env→z02→Prop) (e:Exit) (a:Act) (w:World):Prop :=
 ∃ S' env H' x s X,S'.w=w∧I.Now s X S' H'∧FRel S' n env a∧a.defers=[]∧e=Ex.up x∧Q s x env H'
def TI (I:Itr) (n:Nat) (c:AC) (s:Option Nat) (env:Env) (H:z02) (Q:Option Nat→Ex→Env→z02→Prop):Prop :=
 ∀ code,z2v I.P n code=some c→∀ S a X,I.Now s X S H→FRel S n env a→a.defers=[]→code.wpIn (fen none) (I.m + 1) I.P (zac I n Q) a S.w
section
variable {I:Itr} {n:Nat} {s:Option Nat} {env:Env} {H:z02} {Q:Option Nat→Ex→Env→z02→Prop}
theorem y1u {F:Fence} {mm:Nat} {c:Code} {a:Act} {w:World} (h:c.wpIn F mm I.P (zac I n Q) a w):(Code.scope c).wpIn F mm I.P (zac I n Q) a w:=by
 refine z5k (wpIn_mono h fun e a w hh=>?_)
 obtain ⟨S2,env,H',y,s,X,h1,h2,h3,h4,h5,h6⟩:=hh
 subst h5
 cases y<;>exact ⟨S2,env,H',_,s,X,h1,h2,h3,h4,rfl,h6⟩
theorem zj1 {c:AC} (h:∀ code,z2v I.P n code=some c→(∀ d,code ≠ .scope d)→∀ S a X,I.Now s X S H→FRel S n env a→a.defers=[]→code.wpIn (fen none) (I.m + 1) I.P (zac I n Q) a S.w):TI I n c s env H Q:=by
 intro code
 induction code with
 | scope d ih=>exact fun hc S a X hN hF hd=>y1u (ih (by simpa [z2v] using hc) S a X hN hF hd)
 | skip=>exact fun hc=>h _ hc (by simp)
 | region=>exact fun hc=>h _ hc (by simp)
 | seq=>exact fun hc=>h _ hc (by simp)
 | cond=>exact fun hc=>h _ hc (by simp)
 | block=>exact fun hc=>h _ hc (by simp)
 | loop=>exact fun hc=>h _ hc (by simp)
 | rangeFunc=>exact fun hc=>h _ hc (by simp)
 | exit=>exact fun hc=>h _ hc (by simp)
 | label=>exact fun hc=>h _ hc (by simp)
 | goto=>exact fun hc=>h _ hc (by simp)
 | ret=>exact fun hc=>h _ hc (by simp)
 | refuse=>exact fun hc=>h _ hc (by simp)
theorem y7s (h:Q s .normal env H):TI I n .skip s env H Q:=zj1 fun code hc hs S a X hN hF hd=>by
 have hA:zac I n Q .normal a S.w:=⟨S,env,H,.normal,s,X,rfl,hN,hF,hd,rfl,h⟩
 cases code<;>simp only [z2v,reduceCtorEq,Option.some.injEq] at hc
 case skip=>exact wpIn_skip hA
 case label=>exact wpIn_label hA
 case region=>exact absurd hc z1y
 case seq=>split at hc<;>cases hc
 case cond=>split at hc<;>cases hc
 case block=>obtain ⟨_,_,h⟩:=Option.map_eq_some_iff.1 hc;cases h
 case loop=>obtain ⟨_,_,h⟩:=Option.map_eq_some_iff.1 hc;cases h
 case rangeFunc=>split at hc<;>cases hc
 case scope d=>exact absurd rfl (hs d)
theorem y7t {id:Nat} (h:Q s (.exit id) env H):TI I n (.exit id) s env H Q:=zj1 fun code hc hs S a X hN hF hd=>by
 cases code<;>simp only [z2v,reduceCtorEq,Option.some.injEq] at hc
 case exit k=>cases hc;exact wpIn_exit ⟨S,env,H,.exit id,s,X,rfl,hN,hF,hd,rfl,h⟩
 case region=>exact absurd hc z1y
 case seq=>split at hc<;>cases hc
 case cond=>split at hc<;>cases hc
 case block=>obtain ⟨_,_,h⟩:=Option.map_eq_some_iff.1 hc;cases h
 case loop=>obtain ⟨_,_,h⟩:=Option.map_eq_some_iff.1 hc;cases h
 case rangeFunc=>split at hc<;>cases hc
 case scope d=>exact absurd rfl (hs d)
theorem ybr (h:Q s .ret env H):TI I n .ret s env H Q:=zj1 fun code hc hs S a X hN hF hd=>by
 cases code<;>simp only [z2v,reduceCtorEq,Option.some.injEq] at hc
 case ret=>exact wpIn_ret ⟨S,env,H,.ret,s,X,rfl,hN,hF,hd,rfl,h⟩
 case region=>exact absurd hc z1y
 case seq=>split at hc<;>cases hc
 case cond=>split at hc<;>cases hc
 case block=>obtain ⟨_,_,h⟩:=Option.map_eq_some_iff.1 hc;cases h
 case loop=>obtain ⟨_,_,h⟩:=Option.map_eq_some_iff.1 hc;cases h
 case rangeFunc=>split at hc<;>cases hc
 case scope d=>exact absurd rfl (hs d)
def Ex.thenI (K:Option Nat→Env→z02→Prop) (Q:Option Nat→Ex→Env→z02→Prop):Option Nat→Ex→Env→z02→Prop
 | s,.normal,env,H=>K s env H
 | s,x,env,H=>Q s x env H
theorem z8u {x y:AC} (h:TI I n x s env H (Ex.thenI (fun s' env' H'=>TI I n y s' env' H' Q) Q)):TI I n (.seq x y) s env H Q:=zj1 fun code hc hs S a X hN hF hd=>by
 cases code<;>simp only [z2v,reduceCtorEq,Option.some.injEq] at hc
 case seq c d =>
   split at hc
   · rename_i x' y' hx hy
     cases hc
     refine wpIn_seq (wpIn_mono (h c hx S a X hN hF hd) fun e a' w' hh=>?_)
     obtain ⟨S2,env2,H2,z,s2,X2,rfl,hN2,hF2,hd2,rfl,hq⟩:=hh
     cases z with
     | normal=>exact hq d hy S2 a' X2 hN2 hF2 hd2
     | exit id=>exact ⟨S2,env2,H2,.exit id,s2,X2,rfl,hN2,hF2,hd2,rfl,hq⟩
     | ret=>exact ⟨S2,env2,H2,.ret,s2,X2,rfl,hN2,hF2,hd2,rfl,hq⟩
   · cases hc
 case region=>exact absurd hc z1y
 case cond=>split at hc<;>cases hc
 case block=>obtain ⟨_,_,h⟩:=Option.map_eq_some_iff.1 hc;cases h
 case loop=>obtain ⟨_,_,h⟩:=Option.map_eq_some_iff.1 hc;cases h
 case rangeFunc=>split at hc<;>cases hc
 case scope d=>exact absurd rfl (hs d)
theorem y7u {c:AArg} {x y:AC} {q:Bool} (hc:c.eval env=.bool q) (ht:q=true→TI I n x s env H Q) (hf:q=false→TI I n y s env H Q):TI I n (.cond c x y) s env H Q:=zj1 fun code hcc hs S a X hN hF hd=>by
 cases code<;>simp only [z2v,reduceCtorEq,Option.some.injEq] at hcc
 case cond z p q' =>
   split at hcc
   · rename_i z' p2 q2 hz hp hq
     cases hcc
     have hv:=zi4 hF hz
     rw [hc] at hv
     exact wpIn_cond_split (t:=q) hv (fun hbb=>ht hbb p hp S a X hN hF hd) (fun hbb=>hf hbb q' hq S a X hN hF hd)
   · cases hcc
 case region=>exact absurd hcc z1y
 case seq=>split at hcc<;>cases hcc
 case block=>obtain ⟨_,_,h⟩:=Option.map_eq_some_iff.1 hcc;cases h
 case loop=>obtain ⟨_,_,h⟩:=Option.map_eq_some_iff.1 hcc;cases h
 case rangeFunc=>split at hcc<;>cases hcc
 case scope d=>exact absurd rfl (hs d)
def Ex.inBlockI (id:Nat) (Q:Option Nat→Ex→Env→z02→Prop):Option Nat→Ex→Env→z02→Prop
 | s,.exit k,env,H=>if k=id then Q s .normal env H else Q s (.exit k) env H
 | s,x,env,H=>Q s x env H
theorem zad {id:Nat} {c:AC} (h:TI I n c s env H (Ex.inBlockI id Q)):TI I n (.block id c) s env H Q:=zj1 fun code hc hs S a X hN hF hd=>by
 cases code<;>simp only [z2v,reduceCtorEq,Option.some.injEq] at hc
 case block k d =>
   obtain ⟨x,hx,hh⟩:=Option.map_eq_some_iff.1 hc
   cases hh
   refine wpIn_block (wpIn_mono (h d hx S a X hN hF hd) fun e a' w' hh=>?_)
   obtain ⟨S2,env2,H2,z,s2,X2,h1,hN2,hF2,hd2,rfl,hq⟩:=hh
   cases z with
   | normal=>exact ⟨S2,env2,H2,.normal,s2,X2,h1,hN2,hF2,hd2,rfl,hq⟩
   | exit j =>
     simp only [Ex.up,Exit.inBlock]
     simp only [Ex.inBlockI] at hq
     split
     · rename_i hj;rw [if_pos hj] at hq;exact ⟨S2,env2,H2,.normal,s2,X2,h1,hN2,hF2,hd2,rfl,hq⟩
     · rename_i hj;rw [if_neg hj] at hq;exact ⟨S2,env2,H2,.exit j,s2,X2,h1,hN2,hF2,hd2,rfl,hq⟩
   | ret=>exact ⟨S2,env2,H2,.ret,s2,X2,h1,hN2,hF2,hd2,rfl,hq⟩
 case region=>exact absurd hc z1y
 case seq=>split at hc<;>cases hc
 case cond=>split at hc<;>cases hc
 case loop=>obtain ⟨_,_,h⟩:=Option.map_eq_some_iff.1 hc;cases h
 case rangeFunc=>split at hc<;>cases hc
 case scope d=>exact absurd rfl (hs d)
theorem zxb {σ:Type} (Inv:σ→Option Nat→Env→z02→Prop) (μ:σ→Nat) {c:AC} (s0:σ) (h0:Inv s0 s env H)
   (round:∀ t s env H,Inv t s env H→TI I n c s env H (Ex.thenI (fun s' env' H'=>∃ t',Inv t' s' env' H'∧μ t' < μ t) Q)):TI I n (.loop c) s env H Q:=zj1 fun code hc hs S a X hN hF hd=>by
 cases code<;>simp only [z2v,reduceCtorEq,Option.some.injEq] at hc
 case loop d =>
   obtain ⟨x,hx,hh⟩:=Option.map_eq_some_iff.1 hc
   cases hh
   refine wpIn_loop_ghost (fun k a w=>∃ S' t s env H X,S'.w=w∧I.Now s X S' H∧FRel S' n env a∧a.defers=[]∧Inv t s env H∧μ t=k) (μ s0) ⟨S,s0,s,env,H,X,rfl,hN,hF,hd,h0,rfl⟩ ?_
   rintro k a w ⟨S1,t,s1,env1,H1,X1,rfl,hN1,hF1,hd1,hI,rfl⟩
   refine wpIn_mono (round t s1 env1 H1 hI d hx S1 a X1 hN1 hF1 hd1) fun e a' w' hh=>?_
   obtain ⟨S2,env2,H2,z,s2,X2,rfl,hN2,hF2,hd2,rfl,hq⟩:=hh
   cases z with
   | normal =>
     obtain ⟨t',h1,h2⟩:=hq
     exact ⟨μ t',h2,S2,t',s2,env2,H2,X2,rfl,hN2,hF2,hd2,h1,rfl⟩
   | exit id=>exact ⟨S2,env2,H2,.exit id,s2,X2,rfl,hN2,hF2,hd2,rfl,hq⟩
   | ret=>exact ⟨S2,env2,H2,.ret,s2,X2,rfl,hN2,hF2,hd2,rfl,hq⟩
 case region=>exact absurd hc z1y
 case seq=>split at hc<;>cases hc
 case cond=>split at hc<;>cases hc
 case block=>obtain ⟨_,_,h⟩:=Option.map_eq_some_iff.1 hc;cases h
 case rangeFunc=>split at hc<;>cases hc
 case scope d=>exact absurd rfl (hs d)
theorem ybs {ops:List AOp} (h:runK I.P ops env H fun env' H'=>Q s .normal env' H'):TI I n (.reg ops) s env H Q:=zj1 fun code hc hs S a X hN hF hd=>by
 cases code<;>simp only [z2v,reduceCtorEq,Option.some.injEq] at hc
 case region id l draw =>
   split at hc
   · rename_i r hr
     obtain ⟨hd',rfl⟩:=z91 hc
     subst hd'
     refine wpIn_region ?_
     have:=z6c (ops:=l) (rd:=none) (m:=I.m + 1) (Q:=zac I n Q) [] l.toList ops 0 (by simp) hr hN.rel hF h (fun S' H' env' a' e hS' hF' hdd hK=>⟨S',env',H',.normal,s,X,rfl,hN.on e hS',hF',hdd.trans hd,rfl,hK⟩)
     rw [List.range_eq_range']
     simpa using this
   · cases hc
 case seq=>split at hc<;>cases hc
 case cond=>split at hc<;>cases hc
 case block=>obtain ⟨_,_,h⟩:=Option.map_eq_some_iff.1 hc;cases h
 case loop=>obtain ⟨_,_,h⟩:=Option.map_eq_some_iff.1 hc;cases h
 case rangeFunc=>split at hc<;>cases hc
 case scope d=>exact absurd rfl (hs d)
theorem zgr {α β:Type} {f:α→Option β}:∀ (p:List β) {l:List α} {y:β} {q:List β},l.mapM f=some (p ++ y :: q)→∃ l1 o l2,l=l1 ++ o :: l2∧l1.mapM f=some p∧f o=some y∧l2.mapM f=some q
 | [],l,y,q,h=>by
   cases l with
   | nil=>simp at h
   | cons o l =>
     rw [List.mapM_cons] at h
     simp only [Option.bind_eq_bind,Option.bind_eq_some_iff,Option.pure_def,Option.some.injEq,List.nil_append,List.cons.injEq] at h
     obtain ⟨y',hy,r,hr,rfl,rfl⟩:=h
     exact ⟨[],o,l,rfl,rfl,hy,hr⟩
 | z :: p,l,y,q,h=>by
   cases l with
   | nil=>simp at h
   | cons o l =>
     rw [List.mapM_cons] at h
     simp only [Option.bind_eq_bind,Option.bind_eq_some_iff,Option.pure_def,Option.some.injEq,List.cons_append,List.cons.injEq] at h
     obtain ⟨z',hz,r,hr,rfl,rfl⟩:=h
     obtain ⟨l1,o',l2,rfl,h1,h2,h3⟩:=zgr p hr
     exact ⟨o :: l1,o',l2,rfl,by rw [List.mapM_cons,hz,h1];rfl,h2,h3⟩
theorem zt7 {P:Program} {op:Op} (h:z4o P op=some .call):∃ g args argTypes,op=.call { callee:=.value g,args,argTypes }:=by
 cases op
 case call c =>
   obtain ⟨callee,args,argTypes⟩:=c
   cases callee<;>simp only [z4o,z4b,reduceCtorEq] at h
   case value g=>exact ⟨g,args,argTypes,rfl⟩
   case builtin b =>
     repeat' split at h
     all_goals first
       | (cases h;done)
       | (simp at h;done)
 all_goals simp only [z4o,reduceCtorEq] at h
 all_goals repeat' split at h
 all_goals first
   | contradiction
   | (cases h;done)
   | (obtain ⟨⟨_,_⟩,_,h⟩:=Option.map_eq_some_iff.1 h;cases h;done)
   | (obtain ⟨_,_,h⟩:=Option.map_eq_some_iff.1 h;cases h;done)
   | (simp at h;done)
def ybt (x:AV):Prop:=∀ S v,VRel S x v→v=valOf x
theorem zgs {S:MS}:∀ {xs:List AV} {vs:List Value},(∀ x ∈ xs,ybt x)→z04 S xs vs→vs=xs.map valOf
 | [],vs,_,h=>h
 | x :: xs,vs,hf,⟨v,r,hv,h1,h2⟩=>by
   rw [hv,hf x (by simp) S v h1,zgs (fun y hy=>hf y (by simp [hy])) h2]
   rfl
theorem y1v {pre post:List AOp} {y:AOp} {k:Nat} (hk:y.k=.call) (hg:y.guard=none)
   (h:runK I.P pre env H fun env1 H1=>∃ row,y.vals env1=.yld I.l :: row∧(∀ x ∈ row,ybt x)∧I.rows[k]? = some row ∧
     runK I.P post (env1.put y.dst (.bool true)) H1 (fun env2 H2=>Q (some (k + 1)) .normal env2 H2)∧runK I.P post (env1.put y.dst (.bool false)) H1 (fun env2 H2=>Q none .normal env2 H2)) :
   TI I n (.reg (pre ++ y :: post)) (some k) env H Q:=zj1 fun code hc hs S a X hN hF hd=>by
 cases code<;>simp only [z2v,reduceCtorEq,Option.some.injEq] at hc
 case region id l draw =>
   split at hc
   · rename_i r hr
     obtain ⟨hd',hrr⟩:=z91 hc
     subst hrr
     subst hd'
     refine wpIn_region ?_
     obtain ⟨l1,o,l2,hl,h1,h2,h3⟩:=zgr pre hr
     have hsz:l.size=l1.length + (l2.length + 1):=by rw [← Array.length_toList,hl];simp
     rw [List.range_eq_range',hsz,List.range'_append_1 |>.symm]
     have hat:∀ j:Nat,l[j]? = (l1 ++ o :: l2)[j]? := fun j=>by rw [← hl,Array.getElem?_toList]
     refine z6c (ops:=l) (rd:=none) (m:=I.m + 1) (Q:=zac I n Q) _ l1 pre 0 (fun j hj=>by rw [Nat.zero_add,hat,List.getElem?_append_left hj]) h1 hN.rel hF h (fun S1 H1 env1 a1 e1 hS1 hF1 hd1 hK=>?_)
     obtain ⟨row,hv,hfx,hrow,ht,hff⟩:=hK
     have hN1:=hN.on e1 hS1
     have ho:l[l1.length]? = some o:=by rw [hat];simp
     rw [show List.range' (0 + l1.length) (l2.length + 1)=l1.length :: List.range' (l1.length + 1) l2.length from by rw [Nat.zero_add];rfl]
     simp only [wpOpsIn,ho]
     obtain ⟨c1,c2,c3,c4,c5⟩:=z0y h2
     have hw:Region.wanted o (yielded l a1.tmps)=true:=by
       rcases c5 with ⟨g1,_⟩|⟨j,want,d,g1,g2,_⟩
       · simp [Region.wanted,g1]
       · rw [hg] at g2;cases g2
     rw [hw]
     simp only [if_true]
     have hargs:=z9l hF1 c2
     rw [show y.args.map (·.eval env1)=y.vals env1 from rfl,hv] at hargs
     rw [hk] at c1
     obtain ⟨g,args,argTypes,hop⟩:=zt7 c1
     obtain ⟨fn,tm,asg,bd,hy,hR⟩:=I.round k row _ _ hrow hN1.st
     have hrun:(o.semAt (fen none).round a1.eval).run I.P S1.w=.ok (.round I.l fn tm asg bd) S1.w:=by
       rw [show (fen none).round=none from rfl,Oper.semAt_none]
       rw [hop] at hargs
       have hargs':z04 S1 (.yld I.l :: row) (a1.eval g :: args.toList.map a1.eval):=by simpa [Op.operands,Call.operands] using hargs
       obtain ⟨v,vs,hvv,hv1,hv2⟩:=hargs'
       cases hvv
       have hvs:=zgs hfx hv2
       have hv1':a1.eval g=.func (.yield I.l) #[] #[]:=hv1
       have e:args.map a1.eval=encI row:=by apply Array.ext';simp [hvs]
       have hex:execOp a1.eval o=(do let d ← Deferred.ofValue (a1.eval g) (args.map a1.eval);invoke d.target d.args:Sem Next):=by
         cases o
         simp only at hop
         subst hop
         rfl
       rw [hex,e,hv1']
       simp only [Deferred.ofValue,Sem.run_bind,Sem.run_pure,Result.andThen_ok,invoke]
       simpa using hy
     refine ⟨fun _ _=>trivial,?_⟩
     rw [hrun,Oper.uponIn_round]
     refine ⟨fun h=>(by cases h),?_⟩
     refine RoundIn.mono (F:=fen none) (n:=I.m) hR fun e W' hh=>?_
     obtain ⟨hsz',ho',hcase⟩:=hh
     have hf0:=(I.fact k _ _ (.inl hN1.st)).1
     have hdef:a1.defers=[]:=hd1.trans hd
     have hgo:∀ (bv:Bool) (s':Option Nat),I.at_ s' (fun b=>b < S1.w.heap.size∧¬ X b∧¬ I.S0.im b) W'→(∀ b,I.S0.im b→W'.heap[b]? = I.S0.w.heap[b]?) →
         runK I.P post (env1.put y.dst (.bool bv)) H1 (fun env2 H2=>Q s' .normal env2 H2)→wpOpsIn (fen none) (I.m + 1) I.P l (zac I n Q) (List.range' (l1.length + 1) l2.length) (a1.put o.dst (.bool bv)) W':=fun bv s' hst him hrk=>by
       obtain ⟨S2,hw2,hN2,ev2⟩:=hN1.round hsz' ho' (fun b hb=>(him b hb).trans ((hf0 b hb).2).symm) hst
       have hF2:FRel S2 n env1 a1:=⟨hF1.size,by rw [hdef];exact Marks.nil hN2.base,fun i hi=>VRel.moni ev2 _ (hF1.val i hi)⟩
       have hF3:=hF2.put (dst:=y.dst) (by rw [c3];exact c4) (x:=.bool bv) (v:=.bool bv) rfl
       rw [c3] at hF3
       rw [c3] at hrk
       rw [← hw2]
       have:=z6c (ops:=l) (rd:=none) (m:=I.m + 1) (Q:=zac I n Q) [] l2 post (l1.length + 1) (fun j hj=>by rw [hat,List.getElem?_append_right (by omega),show l1.length + 1 + j - l1.length=j + 1 from by omega];rfl) h3 hN2.rel hF3 hrk
         (fun S' H' env' a' e hS' hF' hdd hK=>⟨S',env',H',.normal,s',_,rfl,hN2.on e hS',hF',hdd.trans ((put_defers _ _ _).trans hdef),rfl,hK⟩)
       simpa using this
     rcases hcase with ⟨rfl,hj⟩|⟨rfl,hj⟩
     · exact hgo true (some (k + 1)) hj (fun b hb=>((I.fact _ _ _ (.inl hj)).1 b hb).2) ht
     · exact hgo false none ⟨_,hj⟩ (fun b hb=>((I.fact _ _ _ (.inr hj)).1 b hb).2) hff
   · cases hc
 case seq=>split at hc<;>cases hc
 case cond=>split at hc<;>cases hc
 case block=>obtain ⟨_,_,h⟩:=Option.map_eq_some_iff.1 hc;cases h
 case loop=>obtain ⟨_,_,h⟩:=Option.map_eq_some_iff.1 hc;cases h
 case rangeFunc=>split at hc<;>cases hc
 case scope d=>exact absurd rfl (hs d)
theorem y7v {P:Program} {gf:Nat} {caps:List AV} {rows:List (List AV)} {fn:AFn} (hf:z0j P gf (caps.length + 1)=some fn)
   (h:∀ I:Itr,I.P=P→I.rows=rows→TI I fn.n fn.body (some 0) (entry (.yld I.l :: caps)) z02.nil (fun s x env H=>Ret P fn.res (fun _ _=>True) x env H∧(s=some rows.length ∨ s=none))):zq4 P gf caps rows:=by
 refine ⟨enters_of hf,fun m l S0 lb J Jx hS0 hx0 cJ cx hj fact round=>?_⟩
 obtain ⟨F,c,hF,hb,hn,hc,hr,hnp,_⟩:=z92 hf
 obtain ⟨S,hSd⟩:∃ S:MS,S={ S0 with base:=S0.w.heap.size,keep:=fun b=>b < S0.w.heap.size∧¬ S0.im b }:=⟨_,rfl⟩
 have ev0:Evi S0 S:=by subst hSd;exact Evi.of (fun _ _=>rfl) rfl rfl rfl rfl rfl rfl
 have hw0:S.w=S0.w:=by rw [hSd]
 have hS:SRel S z02.nil:=by
   subst hSd
   exact ⟨hS0.n,fun g hg=>absurd hg (Nat.not_lt_zero _),fun g _ hg=>absurd hg (Nat.not_lt_zero _),fun b hb=>hb.elim (fun h=>hS0.im b (.inl h)) And.left⟩
 have hx:z04 S caps lb:=z04.moni ev0 _ hx0
 have hlen:=hx.length
 let I:Itr:=⟨P,l,m,rows,S0,J,Jx,cJ,cx,fact,round⟩
 have hN:I.Now (some 0) (fun b=>b < S0.w.heap.size∧¬ S0.im b) S z02.nil:=by
   refine ⟨hS,by rw [hSd];exact Nat.le_refl _,fun b hb=>by rw [hSd];exact hb,fun b hb=>by rw [hSd];exact hb,fun b hb=>.inl (by rw [hSd] at hb;exact hb),?_⟩
   have e:(fun b=>b < S.w.heap.size∧¬ (b < S0.w.heap.size∧¬ S0.im b)∧¬ I.S0.im b)=fun _=>False:=by
     funext b
     refine propext ⟨fun ⟨h1,h2,h3⟩=>h2 ⟨by rw [hw0] at h1;exact h1,h3⟩,False.elim⟩
   rw [e,hw0]
   exact hj
 refine callsIn_of_wp_marks (F:=Fence.wide) (n:=m + 1) hF hb trivial ?_
 have hfr:FRel S fn.n (entry (.yld l :: caps)) { tmps:=(#[Value.func (.yield l) #[] #[]] ++ lb.toArray) ++ Array.replicate (F.ntmps - (#[Value.func (.yield l) #[] #[]] ++ lb.toArray).size) undef,defers:=[] }:=by
   have hx':z04 S (.yld l :: caps) (.func (.yield l) #[] #[] :: lb):=⟨_,_,rfl,rfl,hx⟩
   refine ⟨by simp;omega,Marks.nil hN.base,fun i hi=>?_⟩
   by_cases hlt:i < (AV.yld l :: caps).length
   · obtain ⟨v,hv,hr⟩:=hx'.get (List.getElem?_eq_getElem hlt)
     have e1:entry (.yld l :: caps) i=(AV.yld l :: caps)[i]:=by simp [entry,List.getD,List.getElem?_eq_getElem hlt]
     have e2:((#[Value.func (.yield l) #[] #[]] ++ lb.toArray) ++ Array.replicate (F.ntmps - (#[Value.func (.yield l) #[] #[]] ++ lb.toArray).size) undef).getD i undef=v:=by
       have hsz:i < (#[Value.func (.yield l) #[] #[]] ++ lb.toArray).size:=by simp at hlt ⊢;omega
       rw [Array.getD_eq_getD_getElem?,Array.getElem?_append_left hsz]
       have:(#[Value.func (.yield l) #[] #[]] ++ lb.toArray)[i]? = (Value.func (.yield l) #[] #[] :: lb)[i]? := by simp
       rw [this,hv];rfl
     rw [e1,e2]
     exact hr
   · have e1:entry (.yld l :: caps) i=.any:=by simp [entry,List.getD,List.getElem?_eq_none (Nat.le_of_not_lt hlt)]
     rw [e1]
     trivial
 rw [← hw0]
 refine wpIn_mono (h I rfl rfl c hc S _ _ hN hfr rfl) fun e a w' hh=>?_
 obtain ⟨S2,env2,H2,z,s2,X2,rfl,hN2,hF2,hd2,rfl,⟨hq,hres⟩,hst⟩:=hh
 have fin:LeavesInM Fence.wide (m + 1) P F a.tmps (fun e W'=>(∃ v,e=.returned v)∧((∃ O,J rows.length O W') ∨ ∃ k O,Jx k O W')) a.defers .returning S2.w:=by
   rw [hd2]
   refine z7a [] S2.w List.nodup_nil (fun D hd=>by cases hd) ?_
   obtain ⟨vs,ys,h1,h2,h3⟩:=z81 hN2.rel hF2 hr hres
   refine ⟨if h:vs.toArray.size=1 then vs.toArray[0] else .tuple vs.toArray,?_,⟨_,rfl⟩,?_⟩
   · have e:results F a.tmps=(do let vs ← F.results.mapM (zgb a.tmps);pure (if h:vs.size=1 then vs[0] else .tuple vs)):=by
       unfold results
       congr
     rw [e,Array.mapM_eq_mapM_toList]
     show Sem.run P _ S2.w=_
     simp only [Sem.run_bind,Sem.run_map,h1,Result.andThen_ok,Sem.run_pure]
     rfl
   · have:=hN2.st
     rcases hst with rfl|rfl
     · exact .inl ⟨_,this⟩
     · obtain ⟨k,hk⟩:=this;exact .inr ⟨k,_,hk⟩
 cases z with
 | normal=>exact fin
 | exit id=>exact hq.elim
 | ret=>exact fin
end
end Go.Proofs.YticodgjinajkpaaGreat.Abs
namespace Go.Proofs.YticodgjinajkpaaGreat
open Abs
def domL (s:Int):List Span:=if s=1 then [⟨0,255⟩] else if s=2 then [⟨0,55295⟩,⟨57344,1114111⟩] else []
theorem z5g (a:Int):PC Tryz.prog 78 [.int .i64 a] (z1v ⟨a,0,21,0⟩):=by
 refine z0s zlj ?_
 unfold zbx
 (repeat' (first|(simp (disch:=omega) only [push_cast,↓zz,seval])|(with_reducible first|refine And.intro ?_ ?_|(first|refine z01 ?_ ?_|refine z00 ?_ ?_)<;>intro hc<;>(try simp only [push_cast] at hc))|omega|with_reducible intro _))
def z2s (p:Part):Bool:=decide (0 ≤ p.drop∧p.drop < 21∧1 ≤ p.take∧p.take ≤ 21∧0 ≤ p.up∧p.up < 21∧(p.up=0 ∨ p.take ≤ 6))
theorem z6d (p:Part):PC Tryz.prog 101 [z1v p] (.bool (z2s p)):=by
 refine z0s znv ?_
 unfold ze2
 (repeat' (first|(simp (disch:=omega) only [push_cast,↓zz,seval])|(with_reducible first|refine And.intro ?_ ?_|(first|refine z01 ?_ ?_|refine z00 ?_ ?_)<;>intro hc<;>(try simp only [push_cast] at hc))|omega|with_reducible intro _))
 all_goals (unfold z2s;first|(refine zkn ?_;omega)|(refine zko ?_;omega)|(refine zau ?_;omega))
theorem z85 (p:Part):PC Tryz.prog 139 [z1v p] (.bool (z2s p)):=by
 refine z0s zly ?_
 unfold zcd
 (repeat' (first|(simp (disch:=omega) only [push_cast,↓zz,seval])|(with_reducible first|refine And.intro ?_ ?_|(first|refine z01 ?_ ?_|refine z00 ?_ ?_)<;>intro hc<;>(try simp only [push_cast] at hc))|omega|with_reducible intro _))
 all_goals (unfold z2s;first|(refine zkn ?_;omega)|(refine zko ?_;omega)|(refine zau ?_;omega))
def z2y (p:Part) (n:Int):Bool:=decide (0 ≤ p.at_∧p.at_ < n) && z2s p
theorem z86 (p:Part) (n:Int):PC Tryz.prog 86 [z1v p,.int .i64 n] (.bool (z2y p n)):=by
 refine z0s zln ?_
 unfold zc1
 (repeat' (first|(simp (disch:=omega) only [push_cast,↓zz,seval])|(with_reducible first|refine And.intro ?_ ?_|(first|refine z01 ?_ ?_|refine z00 ?_ ?_)<;>intro hc<;>(try simp only [push_cast] at hc))|(have q_:=z6d p;(with_reducible first|refine eK q_ ?_|refine eQ q_ ?_|refine eG q_ ?_);clear q_)|(have q_:=z6d p;(with_reducible first|refine cK q_ ?_|refine cQ q_ ?_|refine cG q_ ?_);clear q_;(simp (disch:=omega) only [push_cast,↓zz,seval]);(fail_if_success (with_reducible change False)))|omega|with_reducible intro _))
 all_goals (simp [z2y, *]<;>omega)
theorem zef (p:Part) (n:Int):PC Tryz.prog 118 [z1v p,.int .i64 n] (.bool (z2y p n)):=by
 refine z0s zis ?_
 unfold za4
 (repeat' (first|(simp (disch:=omega) only [push_cast,↓zz,seval])|(with_reducible first|refine And.intro ?_ ?_|(first|refine z01 ?_ ?_|refine z00 ?_ ?_)<;>intro hc<;>(try simp only [push_cast] at hc))|(have q_:=z85 p;(with_reducible first|refine eK q_ ?_|refine eQ q_ ?_|refine eG q_ ?_);clear q_)|(have q_:=z85 p;(with_reducible first|refine cK q_ ?_|refine cQ q_ ?_|refine cG q_ ?_);clear q_;(simp (disch:=omega) only [push_cast,↓zz,seval]);(fail_if_success (with_reducible change False)))|omega|with_reducible intro _))
 all_goals (simp [z2y, *]<;>omega)
theorem ybu (i:Nat) (h:i ≤ 40):(1:Int) ≤ 2 ^ i∧(2:Int) ^ i ≤ 1099511627776 :=
 ⟨Int.pow_pos (by decide),by have:=Nat.pow_le_pow_right (n:=2) (by decide) h;have e:((2 ^ i:Nat):Int)=2 ^ i:=(by simp);rw [← e];omega⟩
theorem z6v (n:Int) (h:0 ≤ n∧n ≤ 40):PC Tryz.prog 100 [.int .i64 n] (.int .i64 (2 ^ n.toNat)):=by
 refine z0s znu ?_
 unfold ze1
 (repeat' (first|(simp (disch:=omega) only [push_cast,↓zz,seval])|(with_reducible first|refine And.intro ?_ ?_|(first|refine z01 ?_ ?_|refine z00 ?_ ?_)<;>intro hc<;>(try simp only [push_cast] at hc))|omega|with_reducible intro _))
 refine z0f (z0g (fun (i:Nat)=>(i:Int) ≤ n) (fun i=>n.toNat - i) (fun i=>[(0,.int .i64 n),(3,.int .i64 (2 ^ i)),(4,.int .i64 i)]) (fun _=>[]) (fun _ _=>[]) 0 (by omega) ?_ ?_)
 · (repeat' (first|(simp (disch:=omega) only [push_cast,↓zz,seval])|(with_reducible first|refine And.intro ?_ ?_|(first|refine z01 ?_ ?_|refine z00 ?_ ?_)<;>intro hc<;>(try simp only [push_cast] at hc))|omega|with_reducible intro _))
 intro i hi
 refine W_T ?_
 have hp:=ybu (i + 1)
 rw [Int.pow_succ] at hp
 (repeat' (first|(simp (disch:=omega) only [push_cast,↓zz,seval])|(with_reducible first|refine And.intro ?_ ?_|(first|refine z01 ?_ ?_|refine z00 ?_ ?_)<;>intro hc<;>(try simp only [push_cast] at hc))|omega|with_reducible intro _))
 · refine ⟨i + 1,?_⟩
   have hp:=hp (by omega)
   (repeat' (first|(simp (disch:=omega) only [push_cast,↓zz,seval,Int.pow_succ])|(with_reducible first|refine And.intro ?_ ?_|(first|refine z01 ?_ ?_|refine z00 ?_ ?_)<;>intro hc<;>(try simp only [push_cast] at hc))|omega|with_reducible intro _))
 · obtain rfl:n=i:=by omega
   rfl
def valP (p:Part) (x:Int):Int:=x / 2 ^ p.drop.toNat % 2 ^ p.take.toNat * 2 ^ p.up.toNat
def valB (p:Part) (x:Int):Bool:=z2s p && decide (0 ≤ x∧x ≤ 2097151)
def val1 (p:Part) (x:Int):Int:=if valB p x then valP p x else 0
abbrev valV (p:Part) (x:Int):AV:=.tup [.int .i64 (val1 p x),.bool (valB p x)]
theorem z3h {p:Part}:z2s p=true ↔ (0 ≤ p.drop∧p.drop < 21∧1 ≤ p.take∧p.take ≤ 21∧0 ≤ p.up∧p.up < 21∧(p.up=0 ∨ p.take ≤ 6)):=by simp [z2s]
theorem z6e (d:Nat) (h:d ≤ 21):(1:Int) ≤ 2 ^ d∧(2:Int) ^ d ≤ 2097152 :=
 ⟨Int.pow_pos (by decide),by have:=Nat.pow_le_pow_right (n:=2) (by decide) h;have e:((2 ^ d:Nat):Int)=2 ^ d:=(by simp);rw [← e];omega⟩
theorem y1w {p:Part} {x:Int} (hb:z2s p=true) (hx:0 ≤ x∧x ≤ 2097151) :
   IntKind.i64.wrap (z8i .and .i64 (x.fdiv (2 ^ min p.drop.toNat IntKind.i64.bits)) (IntKind.i64.wrap (IntKind.i64.wrap (1 * 2 ^ min p.take.toNat IntKind.i64.bits) - 1)) * 2 ^ min p.up.toNat IntKind.i64.bits)=valP p x:=by
 rw [z3h] at hb
 have e1:min p.drop.toNat IntKind.i64.bits=p.drop.toNat:=Nat.min_eq_left (by show _ ≤ 64;omega)
 have e2:min p.take.toNat IntKind.i64.bits=p.take.toNat:=Nat.min_eq_left (by show _ ≤ 64;omega)
 have e3:min p.up.toNat IntKind.i64.bits=p.up.toNat:=Nat.min_eq_left (by show _ ≤ 64;omega)
 rw [e1,e2,e3]
 have hd:=z6e p.drop.toNat (by omega)
 have ht:=z6e p.take.toNat (by omega)
 have hu:=z6e p.up.toNat (by omega)
 rw [Int.one_mul,IntWalk.i64_in (2 ^ p.take.toNat) (by omega),IntWalk.i64_in (2 ^ p.take.toNat - 1) (by omega),zv7 _ _ (by omega)]
 have q0:0 ≤ x / 2 ^ p.drop.toNat:=Int.ediv_nonneg hx.1 (by omega)
 have q1:x / 2 ^ p.drop.toNat ≤ x:=Int.ediv_le_self _ hx.1
 have m0:=Int.emod_nonneg (x / 2 ^ p.drop.toNat) (b:=2 ^ p.take.toNat) (by omega)
 have m1:=Int.emod_lt_of_pos (x / 2 ^ p.drop.toNat) (b:=2 ^ p.take.toNat) (by omega)
 rw [zv8 p.take.toNat ⟨q0,by show _ < (2:Int) ^ 64;omega⟩ (by show _ ≤ 64;omega) (IntWalk.i64_in _ (by omega))]
 refine IntWalk.i64_in _ ?_
 have:x / 2 ^ p.drop.toNat % 2 ^ p.take.toNat * 2 ^ p.up.toNat ≤ 2097152 * 2097152:=Int.mul_le_mul (by omega) (by omega) (by omega) (by omega)
 have:0 ≤ x / 2 ^ p.drop.toNat % 2 ^ p.take.toNat * 2 ^ p.up.toNat:=Int.mul_nonneg (by omega) (by omega)
 omega
theorem zb2 {p:Part} {x:Int} (hb:z2s p=true) (hx:0 ≤ x∧x ≤ 2097151):valB p x=true∧val1 p x=valP p x:=by
 have:valB p x=true:=by simp only [valB,hb,Bool.true_and,decide_eq_true_eq];exact hx
 exact ⟨this,by rw [val1,this];rfl⟩
theorem ybv {p:Part} {x:Int} (h:z2s p=false ∨ x < 0 ∨ 2097151 < x):valB p x=false∧val1 p x=0:=by
 have:valB p x=false:=by
   simp only [valB,Bool.and_eq_false_iff,decide_eq_false_iff_not]
   rcases h with h|h
   · exact .inl h
   · exact .inr (by omega)
 exact ⟨this,by rw [val1,this];rfl⟩
theorem y7w {p:Part} {x:Int} (hb:z2s p=true) (hx:0 ≤ x∧x ≤ 2097151):IntKind.i64.wrap ((IntKind.i64.wrap (x.tdiv (2 ^ p.drop.toNat))).tmod (2 ^ p.take.toNat) * 2 ^ p.up.toNat)=valP p x:=by
 rw [z3h] at hb
 have hd:=z6e p.drop.toNat (by omega)
 have ht:=z6e p.take.toNat (by omega)
 have hu:=z6e p.up.toNat (by omega)
 have q0:0 ≤ x / 2 ^ p.drop.toNat:=Int.ediv_nonneg hx.1 (by omega)
 have q1:x / 2 ^ p.drop.toNat ≤ x:=Int.ediv_le_self _ hx.1
 have m0:=Int.emod_nonneg (x / 2 ^ p.drop.toNat) (b:=2 ^ p.take.toNat) (by omega)
 have m1:=Int.emod_lt_of_pos (x / 2 ^ p.drop.toNat) (b:=2 ^ p.take.toNat) (by omega)
 rw [IntWalk.i64_quo _ _ (by omega),IntWalk.rem_in _ _ q0]
 refine IntWalk.i64_in _ ?_
 have:x / 2 ^ p.drop.toNat % 2 ^ p.take.toNat * 2 ^ p.up.toNat ≤ 2097152 * 2097152:=Int.mul_le_mul (by omega) (by omega) (by omega) (by omega)
 have:0 ≤ x / 2 ^ p.drop.toNat % 2 ^ p.take.toNat * 2 ^ p.up.toNat:=Int.mul_nonneg (by omega) (by omega)
 omega
theorem zj2 {p:Part} {x:Int} (h:z2s p=false ∨ x < 0 ∨ 2097151 < x):valV p x=.tup [.int .i64 0,.bool false]:=by
 obtain ⟨h1,h2⟩:=ybv h
 simp only [valV,h1,h2]
theorem zo7 {p:Part} {x:Int} (hb:z2s p=true) (hx:0 ≤ x∧x ≤ 2097151):valV p x=.tup [.int .i64 (valP p x),.bool true]:=by
 obtain ⟨h1,h2⟩:=zb2 hb hx
 simp only [valV,h1,h2]
theorem zt8 (p:Part) (x:Int):PC Tryz.prog 87 [z1v p,.int .i64 x] (valV p x):=by
 refine z0s zlo ?_
 unfold zc2
 (repeat' (first|(simp (disch:=omega) only [push_cast,↓zz,seval])|(with_reducible first|refine And.intro ?_ ?_|(first|refine z01 ?_ ?_|refine z00 ?_ ?_)<;>intro hc<;>(try simp only [push_cast] at hc))|(have q_:=z6d p;(with_reducible first|refine eK q_ ?_|refine eQ q_ ?_|refine eG q_ ?_);clear q_)|(have q_:=z6d p;(with_reducible first|refine cK q_ ?_|refine cQ q_ ?_|refine cG q_ ?_);clear q_;(simp (disch:=omega) only [push_cast,↓zz,seval]);(fail_if_success (with_reducible change False)))|omega|with_reducible intro _))
 all_goals first|(have hb:=z3h.1 ‹z2s p=true›;omega)|(rw [zj2 (.inl ‹_›)];(repeat' (first|(simp (disch:=omega) only [push_cast,↓zz,seval,z1i])|omega|(with_reducible refine And.intro ?_ ?_)));done)|(rw [zj2 (.inr (by omega))];(repeat' (first|(simp (disch:=omega) only [push_cast,↓zz,seval,z1i])|omega|(with_reducible refine And.intro ?_ ?_)));done)|(rw [zo7 ‹_› (by omega)];(repeat' (first|(simp (disch:=omega) only [push_cast,↓zz,seval,z1i])|omega|(with_reducible refine And.intro ?_ ?_)));exact y1w ‹_› (by omega))
theorem zo8 (p:Part) (x:Int):PC Tryz.prog 122 [z1v p,.int .i64 x] (valV p x):=by
 refine z0s ziu ?_
 unfold za6
 (repeat' (first|(simp (disch:=omega) only [push_cast,↓zz,seval])|(with_reducible first|refine And.intro ?_ ?_|(first|refine z01 ?_ ?_|refine z00 ?_ ?_)<;>intro hc<;>(try simp only [push_cast] at hc))|(have q_:=z85 p;(with_reducible first|refine eK q_ ?_|refine eQ q_ ?_|refine eG q_ ?_);clear q_)|(have q_:=z6v p.drop (by have hb:=z3h.1 ‹z2s p=true›;omega);(with_reducible first|refine eK q_ ?_|refine eQ q_ ?_|refine eG q_ ?_);clear q_)|(have q_:=z6v p.take (by have hb:=z3h.1 ‹z2s p=true›;omega);(with_reducible first|refine eK q_ ?_|refine eQ q_ ?_|refine eG q_ ?_);clear q_)|(have q_:=z6v p.up (by have hb:=z3h.1 ‹z2s p=true›;omega);(with_reducible first|refine eK q_ ?_|refine eQ q_ ?_|refine eG q_ ?_);clear q_)|(have q_:=z85 p;(with_reducible first|refine cK q_ ?_|refine cQ q_ ?_|refine cG q_ ?_);clear q_;(simp (disch:=omega) only [push_cast,↓zz,seval]);(fail_if_success (with_reducible change False)))|(have q_:=z6v p.drop (by have hb:=z3h.1 ‹z2s p=true›;omega);(with_reducible first|refine cK q_ ?_|refine cQ q_ ?_|refine cG q_ ?_);clear q_;(simp (disch:=omega) only [push_cast,↓zz,seval]);(fail_if_success (with_reducible change False)))|(have q_:=z6v p.take (by have hb:=z3h.1 ‹z2s p=true›;omega);(with_reducible first|refine cK q_ ?_|refine cQ q_ ?_|refine cG q_ ?_);clear q_;(simp (disch:=omega) only [push_cast,↓zz,seval]);(fail_if_success (with_reducible change False)))|(have q_:=z6v p.up (by have hb:=z3h.1 ‹z2s p=true›;omega);(with_reducible first|refine cK q_ ?_|refine cQ q_ ?_|refine cG q_ ?_);clear q_;(simp (disch:=omega) only [push_cast,↓zz,seval]);(fail_if_success (with_reducible change False)))|omega|with_reducible intro _))
 all_goals first|(rw [zj2 (.inl ‹_›)];(repeat' (first|(simp (disch:=omega) only [push_cast,↓zz,seval,z1i])|omega|(with_reducible refine And.intro ?_ ?_)));done)|(rw [zj2 (.inr (by omega))];(repeat' (first|(simp (disch:=omega) only [push_cast,↓zz,seval,z1i])|omega|(with_reducible refine And.intro ?_ ?_)));done)|(have hp:=z6e p.drop.toNat (by have hb:=z3h.1 ‹z2s p=true›;omega);omega)|(have hp:=z6e p.take.toNat (by have hb:=z3h.1 ‹z2s p=true›;omega);omega)|(rw [zo7 ‹_› (by omega)];(repeat' (first|(simp (disch:=omega) only [push_cast,↓zz,seval,z1i])|omega|(with_reducible refine And.intro ?_ ?_)));exact y7w ‹_› (by omega))
theorem z3i (s:Int):PC Tryz.prog 49 [.int .i64 s] (z03 (domL s)):=by
 refine z0s zik ?_
 unfold z9x
 (repeat' (first|(simp (disch:=omega) only [push_cast,↓zz,seval])|(with_reducible first|refine And.intro ?_ ?_|(first|refine z01 ?_ ?_|refine z00 ?_ ?_)<;>intro hc<;>(try simp only [push_cast] at hc))|omega|with_reducible intro _))
 all_goals (simp only [domL, *];rfl)
end Go.Proofs.YticodgjinajkpaaGreat
