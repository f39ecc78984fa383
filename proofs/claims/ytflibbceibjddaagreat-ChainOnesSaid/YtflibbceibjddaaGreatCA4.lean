/-
  Parts of the proof that the law holds whatever the input; without conditions.
-/
import Derived.Test.YtflibbceibjddaaGreatProg
import Derived.KernelRfl
import Derived.LoopNIn
import Derived.Test.YtflibbceibjddaaGreatCA2
import Derived.Test.YtflibbceibjddaaGreatCA3
set_option linter.unusedSimpArgs false
set_option linter.unusedVariables false
set_option linter.unusedSectionVars false
set_option maxRecDepth 100000
namespace Go.Proofs.YtflibbceibjddaaGreat
open Abs
def Jw:AC:=a6 (dt (ns_ 6) 7) (sr_ [bk 22,au 23 22,fj 24 23,a8 25 24,i1_ 26 25,au 27 22,fj 28 27,dx 28 26] (bq [bk 29,au 30 29,fj 31 30,a8 32 31,dv 33 32 65536] 33 (dt (ns_ 6) 7))) (cl [fk 34,fk 35,bk 36,au 37 36,ei 38 37,a8 39 38,cf 40,bp 41 39 40,a8 42 41,ek 43 35 42,o2 44 34 43 (de [nI_ 0,nI_ 0] [(0,1),(1,1)] 0 1),fw 45 44 2 1 [nI_ 0,nI_ 0] [0],v_ 8 45] (bq [v_ 46 8,bk 47,au 48 47,d9 49 48,a8 50 49,k2 51 220 46 50,eo 52 51] 52 [ns_ 6,bt_ 7]) (bq [v_ 53 8,bk 54,au 55 54,d9 56 55,a8 57 56,k2 58 116 53 57,v_ 59 58,g7 60 59 1,g7 61 59 0,bj 62 59 61 .nilCheck,bj 63 59 62 f2_,bj 64 59 63 ld,bj 65 59 64 ln,ae 66 59 (ct 60 65) beq_,fm 67 59 66] 67 [bk 68,cf 69,k2 70 221 68 69,o1 71 70 (fx 1 [0]),v_ 6 71,bt_ 7]) (.seq (.dreg [bk 72,au 73 72,cr 74 73,a8 75 74,bk 76,au 77 76,cu 78 77,a8 79 78,cf 80,bp 81 79 80,a8 82 81,bp 83 75 82,a8 84 83,v_ 9 84]) (.seq (aq [cf 85,bk 86,au 87 86,cu 88 87,a8 89 88,b8 90 89,e8 91 90 1,o2 92 85 91 beq_,v_ 93 92,cm 94 93 0,g1 95 93 94 .nilCheck,g1 96 93 95 f3_,ep 97 93 96,cm 98 93 1,g2 99 93 97 98 a1_,ep 100 93 99,g1 101 93 100 ln,eu 102 93 101 1 beq_,df 103 93 102] 103 (.seq (ew [bk 104,au 105 104,o1 106 105 f3_,a8 107 106,cf 108,bp 109 107 108,a8 110 109,am 111 110 0 a4_,cg 112 111 4,v_ 113 9,bk 114,au 115 114,d9 116 115,a8 117 116,fk 118,o1 119 118 (.un .neg),k2 120 115 117 119] (bn (k3 121 193 112 113 120) 9 121) (bq (dh (v_ 122 9) 123 122 (dv 124 123 0)) 124 [v_ 125 9,o1 126 125 (fx 1 [0]),o1 127 126 (fx 1 [0]),v_ 6 127,bt_ 7])) (a7 [ns_ 6,bt_ 7]))) (a6 [bk 129,cf 130,k2 131 222 129 130,v_ 128 131,az 132 128 0,az 133 128 1,v_ 10 132,v_ 11 133] (bq (g6 134 11 (eo 135 134)) 135 (dt (ns_ 6) 7)) (ez (d5 12) (d5 13) (db (g9 14) (dp (dm (ga 136) 137 136 138) 0 139 138 137 139 0 1 [fp 140 136 138,cg 141 140 2,bt 16 [nI_ 0,.nilS] 2,ay 16 141 2] (cl [bk 143,cf 144,i1_ 145 144,fk 146,d9 147 16,a8 148 147,ek 149 146 148,k3 150 197 143 145 149,v_ 142 150,az 151 142 0,az 152 142 1,v_ 17 151,v_ 18 152] (bq [v_ 153 18,eo 154 153,v_ 155 154,g7 156 155 12,bj 157 155 156 ln,ae 158 155 (cn 157 4096) bgt_,fm 159 155 158] 159 (dt (ns_ 6) 7)) (aq [v_ 160 17,b8 161 160,dv 162 161 0,v_ 163 162,cm 164 163 17,cm 165 163 13,e9 166 163 [d7 223,s_ 164,s_ 165],df 167 163 166] 167 (.seq (ba (fv 168 14 19 168) 2 (fe [v_ 169 19,v_ 170 12,b8 171 170,be 172 169 171] (ex_ 172 2) (av 3 (.dtl [v_ 175 12,v_ 176 19,bp 177 175 176,a8 178 177,v_ 179 12,v_ 180 19,bp 181 179 180,a8 182 181,am 183 182 0 a1_,a8 184 183,cr 185 16,a8 186 185,k2 187 224 184 186,am 188 178 0 a1_] [dx 188 187]) (ey 173 19 (i1_ 174 173) 19 174)))) (.exit 1))) (sr_ [v_ 189 12,b8 190 189,v_ 191 17,v_ 14 190,v_ 13 191] (dp (dm (v_ 192 17) 193 192 194) 4 195 194 193 195 4 5 (cj (bp 196 192 194) (a8 197 196) 21 197) (.reg [v_ 198 12,cr 199 16,a8 200 199,o1 201 200 (fx 1 [0]),v_ 202 21,o2 203 201 202 (.app 1 24 .nilS),o1 204 203 (fx 1 [0]),o2 205 198 204 (.app 1 24 .nilS),v_ 12 205]) 206 194 194 206))) 207 138 138 207) [v_ 208 12,v_ 6 208,bt_ 7]))))))
theorem N0:Bm Tryz.prog 197 3=some ⟨209,3,[(.slot 6),(.slot 7)],Jw⟩:=by kernel_rfl
def Dd:AC:=db (d5 2) (bq [bk 3,c2 4 3 .nilS (.eqn false)] 4 (d5 2)) (fh (o0 5 (bh 2 0 [nI_ 0,nI_ 0] [])) (bk 6) (o2 7 5 6 (co 2 16 [nI_ 0,nI_ 0])) 2 7)
theorem Ei:Bm Tryz.prog 198 1=some ⟨8,1,[(.slot 2)],Dd⟩:=by kernel_rfl
def Ov:AC:=d4 (cy 2) [bk 3,am 4 3 (-1114111) bge_,g8 5,cm 6 5 0,eu 7 5 6 1114111 ble_,df 8 5 7,v_ 2 8]
theorem VH:Bm Tryz.prog 199 1=some ⟨9,1,[(.slot 2)],Ov⟩:=by kernel_rfl
def EC:AC:=db (g9 4) (dp (dm (bk 6) 7 6 8) 0 9 8 7 9 0 1 (fv 10 8 5 10) (bq [cf 11,bk 12,dw 13,bp 14 12 13,a8 15 14,o2 16 11 15 .call] 16 (bn (dw 17) 4 17)) 18 8 8 18) [ef 4 (-1)]
theorem G3:Bm Tryz.prog 200 2=some ⟨19,2,[(.slot 4)],EC⟩:=by kernel_rfl
def MG:AC:=db (cy 2) (cq (dm (bk 5) 6 5 7) 0 8 7 6 8 0 (av 1 (a6 [v_ 9 7,o2 10 5 7 a4_,cg 11 10 4,bt 4 [nI_ 0,nI_ 0,nI_ 0,nI_ 0] 4,v_ 3 9,ay 4 11 4] (.dreg [v_ 12 3,dv 13 12 0,v_ 14 13,g1 15 14 4 f3_,ep 16 14 15,cm 17 14 0,cm 18 14 3,eu 19 14 18 1 bsu_,g2 20 14 17 19 a4_,g1 21 14 20 f3_,ep 22 14 21,g2 23 14 16 22 ble_,df 24 14 23]) (aj 24 (a7 (cy 2)))) (bo 25 7 7 25))) (fh (bk 26) (b8 27 26) (am 28 27 4 ble_) 2 28)
theorem TO:Bm Tryz.prog 206 1=some ⟨29,1,[(.slot 2)],MG⟩:=by kernel_rfl
def L1:AC:=d4 (d5 0) (cj (m_ 1 [b9 0,b9 1114111] (de [nI_ 0,nI_ 0] [(0,1),(1,1)] 0 1)) (fw 2 1 2 1 [nI_ 0,nI_ 0] [0]) 0 2)
theorem Rz:Bm Tryz.prog 207 0=some ⟨3,0,[(.slot 0)],L1⟩:=by kernel_rfl
def MH:AC:=ez [fy 2,ns_ 4,bf_ 5] (bn (o0 17 .mkMap) 6 17) (a6 (d5 7) (cq [fj 18 2,a8 19 18,b8 20 19,z_ 21] 0 22 21 20 22 0 (av 1 (a6 [o2 23 19 21 a4_,cg 24 23 4,bt 9 [nI_ 0,nI_ 0,nI_ 0,nI_ 0] 4,ay 9 24 4] (fo [v_ 25 6,d9 26 9,a8 27 26,o2 28 25 27 (.mapGet .nilS),b8 29 28,dz 30 29 0] 30 [v_ 31 7,d9 32 9,a8 33 32,o1 34 33 (dc 1 (nI_ 0) [0]),o2 35 31 34 (.app 1 8 (nI_ 0)),v_ 7 35]) (.grx [false,true,true,false,true,true,false,true,false,false,false] [f8 36 6,ak 37 9 f0_,d6 38 37,f8 39 6,ak 40 9 f0_,d6 41 40,dy 42 39 41 (.mapGet .nilS),ak 43 9 (ap 4),ak 44 43 (bh 4 1 [nI_ 0,nI_ 0,nI_ 0,nI_ 0] [0]),dy 45 42 44 (co 4 32 [nI_ 0,nI_ 0,nI_ 0,nI_ 0]),h_ (c8 36 (s_ 38) (s_ 45)) .mapSet])) (bo 46 21 21 46))) (a6 [ei 47 2,a8 48 47,ei 49 2,a8 50 49,o2 51 48 50 (de [nI_ 0,nI_ 0] [(0,1),(1,1)] 0 1),fw 52 51 2 1 [nI_ 0,nI_ 0] [0],v_ 10 52] (dp (dm (v_ 53 7) 54 53 55) 2 56 55 54 56 2 3 (cj (bp 57 53 55) (a8 58 57) 12 58) (.dtl [ga 59,v_ 60 6,v_ 61 12,o2 62 60 61 (.mapGet .nilS),cf 63,v_ 64 12,bp 65 63 64,a8 66 65,k2 67 230 62 66] (bn (k2 68 229 59 67) 10 68)) 69 55 55 69) (sr_ [ga 71,k1 72 231 71,v_ 70 72,az 73 70 0,az 74 70 1,v_ 13 73,v_ 14 74] (d4 [ga 76,k1 77 196 76,v_ 75 77,az 78 75 0,az 79 75 1,v_ 15 78,v_ 16 79] [ga 80,ga 81,b8 82 81,dv 83 82 0,v_ 84 83,cm 85 84 13,eu 86 84 85 0 bge_,df 87 84 86,v_ 88 87,cm 89 88 15,eu 90 88 89 1114111 ble_,df 91 88 90,v_ 4 80,v_ 5 91]))))
theorem TP:Bm Tryz.prog 208 2=some ⟨92,2,[(.slot 4),(.slot 5)],MH⟩:=by kernel_rfl
def Qh:AC:=sr_ [c1 2 .nilF .mv] (d4 [bk 4,k1 5 144 4,aw 3 .nilS 1,dx 3 5] (bn (o1 6 3 (.mkFunc 232)) 2 6))
theorem Ys:Bm Tryz.prog 209 1=some ⟨7,1,[(.slot 2)],Qh⟩:=by kernel_rfl
def ED:AC:=ba (cj (cf 10) (i1_ 11 10) 8 11) 0 (fe [v_ 12 8,fk 13,be 14 12 13] (ex_ 14 0) (av 1 (ba (fv 17 8 9 17) 2 (.seq (ew [v_ 18 9,cf 19,o2 20 18 19 bgt_,v_ 21 20,cm 22 21 3,cm 23 21 0,cm 24 21 9,g2 25 21 23 24 a2_,g1 26 21 25 (ap 2),cm 27 21 0,cm 28 21 9,eu 29 21 28 1 bsu_,g2 30 21 27 29 a2_,g1 31 21 30 (ap 2)] [e9 32 21 (c8 22 (s_ 26) (s_ 31)),eu 33 21 32 0 bls_,df 34 21 33] (ex_ 34 2)) (av 3 (.greg [bk 37,v_ 38 9,bk 39,v_ 40 9,e8 41 40 1,bk 42,v_ 43 9,e8 44 43 1,fp 45 42 44,cg 46 45 2,bk 47,v_ 48 9,fp 49 47 48,cg 50 49 2,fp 51 37 38,ay 51 46 2,fp 52 39 41,ay 52 50 2]) (ey 35 9 (e8 36 35 1) 9 36)))) (ey 15 8 (i1_ 16 15) 8 16)))
theorem G4:Bm Tryz.prog 210 4=some ⟨53,4,[],ED⟩:=by kernel_rfl
def Ow:AC:=sr_ [fy 2,ci 3 1,ns_ 4] (a6 [cu 8 2,a8 9 8,m_ 10 (fq (b9 1) 9) (.bin .shl),e8 11 10 1,m_ 12 (fq (b9 0) 11) (de [nI_ 0,nI_ 0] [(0,1),(1,1)] 0 1),fw 13 12 2 1 [nI_ 0,nI_ 0] [0],v_ 5 13] (bq [o1 14 2 f3_,a8 15 14,dz 16 15 0] 16 (fh (a8 17 3) (dw 18) (k2 19 172 17 18) 4 19)) (db [aw 6 .nilS 1] (sr_ [dw 20,k1 21 209 20] (.block 0 (.rng (.slot 21) [22] (.reg [v_ 7 22]) (.block 1 (ew [a8 23 3,v_ 24 7,o1 25 2 f3_,a8 26 25,da 27 24 26 .shl] [k2 28 101 23 27] (aj 28 (.reg [a8 29 6,v_ 30 7,v_ 31 7,o2 32 30 31 (de [nI_ 0,nI_ 0] [(0,1),(1,1)] 0 1),fw 33 32 2 1 [nI_ 0,nI_ 0] [0],o2 34 29 33 (co 2 16 [nI_ 0,nI_ 0]),dx 6 34]))))))) (cj (a8 35 6) (k1 36 144 35) 4 36)))
theorem VI:Bm Tryz.prog 218 2=some ⟨37,2,[(.slot 4)],Ow⟩:=by kernel_rfl
def Dw:AC:=ba (fh (a8 4 1) (b8 5 4) (e8 6 5 1) 3 6) 0 (fe (g6 7 3 (am 8 7 0 bge_)) (ex_ 8 0) (av 1 (aq [bk 11,v_ 12 3,a8 13 1,v_ 14 3,o2 15 13 14 a4_,cg 16 15 4,o3 17 11 12 16 .call,eo 18 17] 18 .ret) (ey 9 3 (e8 10 9 1) 3 10)))
theorem GA:Bm Tryz.prog 219 2=some ⟨19,2,[],Dw⟩:=by kernel_rfl
def Ox:AC:=d4 (cy 4) [bk 5,cf 6,k2 7 172 5 6,b8 8 7,dv 9 8 0,v_ 4 9]
theorem VJ:Bm Tryz.prog 220 2=some ⟨10,2,[(.slot 4)],Ox⟩:=by kernel_rfl
def Jy:AC:=sr_ (d5 4) (db (d5 5) (dp [bk 8,au 9 8,cu 10 9,a8 11 10,cf 12,o2 13 11 12 (ed 1 true false),b8 14 13,z_ 15] 0 16 15 14 16 0 1 (cj (bp 17 13 15) (a8 18 17) 7 18) (.reg [dw 19,bk 20,au 21 20,cr 22 21,a8 23 22,v_ 24 7,bp 25 23 24,a8 26 25,o1 27 26 (fx 1 [0]),o2 28 19 27 (.app 1 24 .nilS),v_ 5 28]) 29 15 15 29) (bn (dw 30) 4 30))
theorem N1:Bm Tryz.prog 221 2=some ⟨31,2,[(.slot 4)],Jy⟩:=by kernel_rfl
def HX:AC:=cl [fy 2,ci 3 1,aw 4 .nilS 1,aw 5 bF_ 1] (.greg [a8 21 2,au 22 21,cr 23 22,a8 24 23,a8 25 2,au 26 25,cu 27 26,a8 28 27,a8 29 3,bp 30 28 29,a8 31 30,bp 32 24 31,a8 33 32,aw 6 .nilS 1,dx 6 33]) (.seq (.greg [a8 34 2,au 35 34,o1 36 35 f3_,a8 37 36,a8 38 3,bp 39 37 38,a8 40 39,aw 7 .nilS 1,dx 7 40]) (aq (dh (a8 41 7) 42 41 (dz 43 42 1)) 43 (ew [a8 44 7,am 45 44 0 a4_,cg 46 45 4,a8 47 6] (bn (k2 48 189 46 47) 8 48) (.seq (bq [v_ 49 8,k1 50 236 49,dv 51 50 4096] 51 [h_ (bm 4 (k_ .nilS)) st,h_ (bm 5 ck) st]) (db [aw 9 .nilS 1] (sr_ (g6 52 8 (k1 53 209 52)) (.block 0 (.rng (.slot 53) [54] (.reg [v_ 10 54]) (.block 1 (.dtl [a8 55 9,ga 56,a8 57 7,am 58 57 0 a4_,cg 59 58 4,a8 60 6,ga 61,ga 62,o2 63 61 62 (de [nI_ 0,nI_ 0] [(0,1),(1,1)] 0 1),fw 64 63 2 1 [nI_ 0,nI_ 0] [0],k3 65 193 59 60 64,o2 66 56 65 (de [nI_ 0,.nilS] [(0,1),(1,1)] 0 1),fw 67 66 2 1 [nI_ 0,.nilS] [0]] [o2 68 55 67 (co 2 32 [nI_ 0,.nilS]),dx 9 68]))))) [a8 69 9,dx 4 69,h_ (bm 5 d8) st]))))) (a6 [o0 70 .mkMap,aw 11 .any 1,dx 11 70] (sr_ [a8 71 6,k1 72 209 71] (.block 2 (.rng (.slot 72) [73] (.reg [v_ 12 73]) (.block 3 (cl (g9 13) (.seq (.dreg [a8 74 2,au 75 74,o1 76 75 f3_,a8 77 76,a8 78 3,bp 79 77 78,a8 80 79,b8 81 80,z_ 82]) (aa 4 (bl (cp 83 82 81) 83 4 (cw 5 [o2 84 80 82 a4_,cg 85 84 4,bt 15 [nI_ 0,nI_ 0,nI_ 0,nI_ 0] 4,ay 15 85 4] (dq [cg 87 15 4,v_ 88 12,k2 89 136 87 88,v_ 86 89,az 90 86 0,az 91 86 1,v_ 16 90,v_ 17 91] (fh (v_ 92 13) (v_ 93 16) (ek 94 92 93) 13 94)) 95 82 82 95)))) (.grx [true,false,true,false,false,false,false,false,false,false,false] [d6 96 11,f8 97 13,d6 98 11,f8 99 13,dy 100 98 99 (.mapGet .nilS),f8 101 12,f8 102 12,dy 103 101 102 (de [nI_ 0,nI_ 0] [(0,1),(1,1)] 0 1),ak 104 103 (bh 2 1 [nI_ 0,nI_ 0] [0]),dy 105 100 104 (co 2 16 [nI_ 0,nI_ 0]),h_ (c8 96 (s_ 97) (s_ 105)) .mapSet]) (bq [a8 106 11,o1 107 106 .lenM,dv 108 107 4096] 108 [h_ (bm 4 (k_ .nilS)) st,h_ (bm 5 ck) st])))))) (a6 (d5 18) (cd [a8 109 11,o1 110 109 .rangeM] 6 [o1 111 110 .nextM,az 112 111 0] 112 6 (.block 7 (dq [o1 113 110 .entryM,az 114 113 0,az 115 113 1,v_ 19 114,v_ 20 115] [v_ 116 18,v_ 117 19,v_ 118 20,k1 119 144 118,o2 120 117 119 (de [nI_ 0,.nilS] [(0,1),(1,1)] 0 1),fw 121 120 2 1 [nI_ 0,.nilS] [0],o2 122 116 121 (co 2 32 [nI_ 0,.nilS]),v_ 18 122]))) (d4 (g6 123 18 (ce 124 [d7 237,s_ 123,d7 238])) [v_ 125 18,dx 4 125,h_ (bm 5 d8) st])))
theorem HZ:Bm Tryz.prog 222 2=some ⟨126,2,[(.cell 4 false 1),(.cell 5 false 1)],HX⟩:=by kernel_rfl
def Qi:AC:=d4 (cy 4) (fh (bk 5) (cf 6) (ce 7 [d7 239,s_ 5,s_ 6,d7 240]) 4 7)
theorem Yt:Bm Tryz.prog 223 2=some ⟨8,2,[(.slot 4)],Qi⟩:=by kernel_rfl
def Oy:AC:=d4 (d5 4) [bk 5,cf 6,o2 7 5 6 (fx 2 [0,1]),k1 8 244 7,k1 9 144 8,v_ 4 9]
theorem VK:Bm Tryz.prog 224 2=some ⟨10,2,[(.slot 4)],Oy⟩:=by kernel_rfl
def Qj:AC:=sr_ (d5 4) (db (d5 5) (cq (dm (bk 10) 11 10 12) 0 13 12 11 13 0 (av 1 (a6 [fp 14 10 12,cg 15 14 2,bt 7 [nI_ 0,nI_ 0] 2,ay 7 15 2] (dp (dm (cf 16) 17 16 18) 2 19 18 17 19 2 3 [fp 20 16 18,cg 21 20 2,bt 9 [nI_ 0,nI_ 0] 2,ay 9 21 2] (.reg [dw 22,d9 23 7,a8 24 23,d9 25 9,a8 26 25,ek 27 24 26,cr 28 7,a8 29 28,cr 30 9,a8 31 30,ek 32 29 31,o2 33 27 32 (de [nI_ 0,nI_ 0] [(0,1),(1,1)] 0 1),fw 34 33 2 1 [nI_ 0,nI_ 0] [0],o2 35 22 34 (co 2 16 [nI_ 0,nI_ 0]),v_ 5 35]) 36 18 18 36) (fo (dh (dw 37) 38 37 (dv 39 38 65536)) 39 (cj (dw 40) (k1 41 144 40) 5 41))) (bo 42 12 12 42))) (cj (dw 43) (k1 44 144 43) 4 44))
theorem Yu:Bm Tryz.prog 229 2=some ⟨45,2,[(.slot 4)],Qj⟩:=by kernel_rfl
def Kt:AC:=a6 [fy 2,ns_ 4] (bq (dh (a8 13 2) 14 13 (dz 15 14 1)) 15 [a8 16 2,am 17 16 0 a4_,cg 18 17 4,cf 19,k2 20 189 18 19,v_ 4 20]) (db [aw 5 .nilS 1] (sr_ [cf 21,k1 22 209 21] (.block 0 (.rng (.slot 22) [23] (.reg [v_ 6 23]) (.block 1 (a6 (g9 7) (dp (dm (a8 24 2) 25 24 26) 2 27 26 25 27 2 3 [o2 28 24 26 a4_,cg 29 28 4,bt 9 [nI_ 0,nI_ 0,nI_ 0,nI_ 0] 4,ay 9 29 4] (dq [cg 31 9 4,v_ 32 6,k2 33 136 31 32,v_ 30 33,az 34 30 0,az 35 30 1,v_ 10 34,v_ 11 35] (fh (v_ 36 7) (ga 37) (ek 38 36 37) 7 38)) 39 26 26 39) (ez (cj (a8 40 5) (b8 41 40) 12 41) [v_ 42 12,dv 43 42 0,v_ 44 43,ep 45 44 5,cm 46 44 12,eu 47 44 46 1 bsu_,g2 48 44 45 47 a2_,g1 49 44 48 f1_,ep 50 44 49,cm 51 44 7,eu 52 44 51 1 bsu_,g2 53 44 50 52 beq_,df 54 44 53] (i_ 54 (.reg [a8 55 5,v_ 56 12,e8 57 56 1,v_ 58 7,fp 59 55 57,cr 60 59,dx 60 58]) (.reg [a8 61 5,v_ 62 7,v_ 63 7,o2 64 62 63 (de [nI_ 0,nI_ 0] [(0,1),(1,1)] 0 1),fw 65 64 2 1 [nI_ 0,nI_ 0] [0],o2 66 61 65 (co 2 16 [nI_ 0,nI_ 0]),dx 5 66])))))))) (cj (a8 67 5) (k1 68 144 67) 4 68))
theorem Qk:Bm Tryz.prog 230 2=some ⟨69,2,[(.slot 4)],Kt⟩:=by kernel_rfl
def Oz:AC:=sr_ (dt (z_ 2) 3) (db (cj (bk 5) (k1 6 144 5) 4 6) (bq (dh (g8 7) 8 7 (dz 9 8 0)) 9 (dt (z_ 2) 3)) [g8 10,am 11 10 0 a2_,d9 12 11,a8 13 12,v_ 2 13,bt_ 3])
theorem VL:Bm Tryz.prog 231 1=some ⟨14,1,[(.slot 2),(.slot 3)],Oz⟩:=by kernel_rfl
def JP:AC:=dp (dm (a8 6 1) 7 6 8) 0 9 8 7 9 0 1 [fp 10 6 8,cg 11 10 2,bt 4 [nI_ 0,nI_ 0] 2,ay 4 11 2] (ba (cj (d9 12 4) (a8 13 12) 5 13) 2 (fe [dw 14,cr 15 4,a8 16 15,o2 17 14 16 ble_] (ex_ 17 2) (av 3 (aq [bk 20,dw 21,o2 22 20 21 .call,eo 23 22] 23 .ret) (cj (dw 18) (i1_ 19 18) 5 19)))) 24 8 8 24
theorem TQ:Bm Tryz.prog 232 2=some ⟨25,2,[],JP⟩:=by kernel_rfl
def O0:AC:=sr_ (g9 2) (db (g9 3) (dp [bk 6,k1 7 144 6,b8 8 7,z_ 9] 0 10 9 8 10 0 1 [fp 11 7 9,cg 12 11 2,bt 5 [nI_ 0,nI_ 0] 2,ay 5 12 2] (.reg [v_ 13 3,cr 14 5,a8 15 14,d9 16 5,a8 17 16,fu 18 15 17,i1_ 19 18,ek 20 13 19,v_ 3 20]) 21 9 9 21) (fv 22 3 2 22))
theorem VM:Bm Tryz.prog 236 1=some ⟨23,1,[(.slot 2)],O0⟩:=by kernel_rfl
def Hq:AC:=d4 [fy 2,ci 3 1,z_ 4] [d9 5 2,a8 6 5,d9 7 3,a8 8 7,fu 9 6 8,v_ 4 9]
theorem Kd:Bm Tryz.prog 238 2=some ⟨10,2,[(.slot 4)],Hq⟩:=by kernel_rfl
def CC:AC:=cl (cy 6) (g0 [bk 10,b8 11 10,cf 12,b8 13 12,o2 14 11 13 bne_] 14 6) (dp (dm (bk 15) 16 15 17) 0 18 17 16 18 0 1 [v_ 19 17,bp 20 15 17,a8 21 20,v_ 7 19,v_ 8 21] (sr_ [cf 22,v_ 23 7,bp 24 22 23,a8 25 24,v_ 9 25] (g0 [fk 26,v_ 27 8,v_ 28 9,o3 29 26 27 28 .call,eo 30 29] 30 6)) 31 17 17 31) (a7 [bt_ 6])
theorem E5:Bm Tryz.prog 239 3=some ⟨32,3,[(.slot 6)],CC⟩:=by kernel_rfl
def MI:AC:=d4 (cy 4) (fh (bk 5) (cf 6) (ce 7 [d7 241,s_ 5,s_ 6,d7 242]) 4 7)
theorem TR:Bm Tryz.prog 240 2=some ⟨8,2,[(.slot 4)],MI⟩:=by kernel_rfl
def CJ:AC:=cl (cy 6) (g0 [bk 10,b8 11 10,cf 12,b8 13 12,o2 14 11 13 bne_] 14 6) (dp (dm (bk 15) 16 15 17) 0 18 17 16 18 0 1 [v_ 19 17,bp 20 15 17,a8 21 20,v_ 7 19,v_ 8 21] (sr_ [cf 22,v_ 23 7,bp 24 22 23,a8 25 24,v_ 9 25] (g0 [fk 26,v_ 27 8,v_ 28 9,o3 29 26 27 28 .call,eo 30 29] 30 6)) 31 17 17 31) (a7 [bt_ 6])
theorem E7:Bm Tryz.prog 241 3=some ⟨32,3,[(.slot 6)],CJ⟩:=by kernel_rfl
def Ku:AC:=d4 (cy 4) (fh (bk 5) (cf 6) (k2 7 243 5 6) 4 7)
theorem Ql:Bm Tryz.prog 242 2=some ⟨8,2,[(.slot 4)],Ku⟩:=by kernel_rfl
def FA:AC:=cl (cy 4) (g0 [bk 6,b8 7 6,cf 8,b8 9 8,o2 10 7 9 bne_] 10 4) (cq (dm (bk 11) 12 11 13) 0 14 13 12 14 0 (av 1 (a6 (fv 15 13 5 15) (.dreg [bk 16,dw 17,fp 18 16 17,cg 19 18 2,cf 20,dw 21,fp 22 20 21,cg 23 22 2,o2 24 19 23 (.eqs true [1,1])]) (aj 24 (a7 (cy 4)))) (bo 25 13 13 25))) (a7 [bt_ 4])
theorem Ho:Bm Tryz.prog 243 2=some ⟨26,2,[(.slot 4)],FA⟩:=by kernel_rfl
def DZ:AC:=sr_ (d5 2) (a6 (g9 3) (dp (dm (bk 9) 10 9 11) 0 12 11 10 12 0 1 (cj (bp 13 9 11) (a8 14 13) 5 14) (sr_ [v_ 15 3,dw 16,b8 17 16,ek 18 15 17,v_ 3 18] (fo (g6 19 3 (am 20 19 0 bls_)) 20 [c1 21 (.str [108,101,110,32,111,117,116,32,111,102,32,114,97,110,103,101]) .no,h_ (ai 21) .no])) 22 11 11 22) (db (ey 23 3 (ce 24 [d7 248,k_ .nilS,s_ 23]) 6 24) (dp (dm (bk 25) 26 25 27) 2 28 27 26 28 2 3 (cj (bp 29 25 27) (a8 30 29) 8 30) (.reg (fh (v_ 31 6) (v_ 32 8) (o2 33 31 32 (co 2 16 [nI_ 0,nI_ 0])) 6 33)) 34 27 27 34) (fv 35 6 2 35)))
theorem F0:Bm Tryz.prog 244 1=some ⟨36,1,[(.slot 2)],DZ⟩:=by kernel_rfl
def Eu:AC:=cl (d5 4) (fo [cf 5,am 6 5 0 bls_] 6 [c1 7 (.str [99,97,110,110,111,116,32,98,101,32,110,101,103,97,116,105,118,101]) .no,h_ (ai 7) .no]) (sr_ [cf 8,bk 9,o1 10 9 .cap,bk 11,b8 12 11,fu 13 10 12,fu 14 8 13,v_ 1 14] (fo [cf 15,dv 16 15 0] 16 [bk 17,bk 18,o1 19 18 .cap,o2 20 17 19 (ed 2 false true),cf 21,o2 22 20 21 (.appZ 2 16 (.agg [nI_ 0,nI_ 0])),bk 23,b8 24 23,o2 25 22 24 (ed 2 false true),v_ 0 25])) (a7 (bn (bk 26) 4 26))
theorem FL:Bm Tryz.prog 248 2=some ⟨27,2,[(.slot 4)],Eu⟩:=by kernel_rfl
open Abs O1 O2 O3
theorem Gh{P:Program}{f m np b:Nat}{xs:List AV}{l:List Grp}{K:AV->A4->Prop}{res:List ARes}{B:AC}(hf:Bm P f xs.length=some ⟨m,np,res,B⟩)(hb:b=l.length)(h:W P m b B (entry xs) (Abs.hl l) (Ret P res K)):B9 P f xs (Abs.hl l) K:=by
 subst hb;exact IK hf (W_T h)
theorem zo6(l:List Span):B9 Tryz.prog 210 [.ref 0 1 0 0,.int .i64 0,.int .i64 0,.fn 170 []] (Abs.hl [⟨2,1,true,l.map Ce⟩]) λy H'=>y=.tup []/\H'=Abs.hl [⟨2,1,true,l.map Ce⟩]:=by
 refine Gh (b:=1) G4 rfl ?_;unfold ED;refine ywA ?_
 refine Ba (B7 (λ(_:Unit)=>True) (λ_=>0) (λ_=>[(0,.ref 0 1 0 0),(1,.int .i64 0),(2,.int .i64 0),(3,.fn 170 []),(8,.int .i64 1)])
  (λ_=>[⟨2,1,true,l.map Ce⟩]) (λ_ _=>[]) () trivial ?_ ?_)
 ·exact gwA
 rintro _ _;refine W_T ?_;exact gwA
set_option maxRecDepth 100000 in
theorem len0:PC Tryz.prog 165 [.int .u64 0] (.int .i64 0):=by
 refine Cd Ny ?_;unfold Jv;exact gwA
 all_goals decide
theorem zt7:PC Tryz.prog 139 [.int .u64 0] (.int .i64 0):=by
 refine Cd Qa ?_;unfold Kr;have e_:=len0;exact gwC
theorem pdq0(l:List Span):B9 Tryz.prog 190 [.ref 0 1 0 0,.int .i64 0,.int .i64 0,.int .i64 0,.fn 170 []] (Abs.hl [⟨2,1,true,l.map Ce⟩]) λy H'=>y=.tup []/\H'=Abs.hl [⟨2,1,true,l.map Ce⟩]:=by
 refine Gh (b:=1) Hn rfl ?_;unfold F9;refine ywA ?_
 refine Ba (B7 (λ(_:Unit)=>True) (λ_=>0) (λ_=>[(0,.ref 0 1 0 0),(1,.int .i64 0),(2,.int .i64 0),(3,.int .i64 0),(4,.fn 170 []),(10,.bool true),(11,.bool true)])
  (λ_=>[⟨2,1,true,l.map Ce⟩]) (λ_ _=>[]) () trivial ?_ ?_)
 ·exact gwA
 rintro _ _;refine W_T ?_;refine ywA ?_;refine B9.mono (zo6 l) ?_;rintro y H' ⟨rfl,rfl⟩;exact gwA
theorem sort0(l:List Span):B9 Tryz.prog 169 [.ref 0 1 0 0,.fn 170 []] (Abs.hl [⟨2,1,true,l.map Ce⟩]) λy H'=>y=.tup []/\H'=Abs.hl [⟨2,1,true,l.map Ce⟩]:=by
 refine Gh (b:=1) GO rfl ?_;unfold Fb;have e_:=zt7;refine ywC ?_;clear e_;refine B9.mono (pdq0 l) ?_;rintro y H' ⟨rfl,rfl⟩;exact gwA
def memL(l:List Span)(x:Int):Prop:=∃s∈l,s.lo<=x/\x<=s.hi
theorem BQ(x:Int):¬memL [] x:=λ⟨s,hs,_⟩=>by cases hs
theorem Bs{s:Span}{l:List Span}{x:Int}:memL (s::l) x↔(s.lo<=x/\x<=s.hi)\/memL l x:=by
 constructor
 ·rintro⟨t,ht,hx⟩
  rcases Af.1 ht with rfl|ht
  ·exact .inl hx
  ·exact .inr ⟨t,ht,hx⟩
 ·rintro (hx|⟨t,ht,hx⟩)
  ·exact⟨s,oc,hx⟩
  ·exact⟨t,by simp[ht],hx⟩
theorem FX{l m:List Span}{x:Int}:memL (l++m) x↔memL l x\/memL m x:=by
 constructor
 ·rintro⟨t,ht,hx⟩
  rcases Av.1 ht with ht|ht
  ·exact .inl ⟨t,ht,hx⟩
  ·exact .inr ⟨t,ht,hx⟩
 ·rintro (⟨t,ht,hx⟩|⟨t,ht,hx⟩)
  ·exact⟨t,by simp[ht],hx⟩
  ·exact⟨t,by simp[ht],hx⟩
def Plain(l:List Span):Prop:=(∀s∈l,s.lo<=s.hi)/\l.Pairwise λs t=>s.hi+1<t.lo
theorem Plain.tail{s:Span}{l:List Span}(h:Plain (s::l)):Plain l:=⟨λt ht=>h.1 t (by simp[ht]),(AH.1 h.2).2⟩
theorem Plain.head{s:Span}{l:List Span}(h:Plain (s::l)):s.lo<=s.hi:=h.1 s oc
theorem Plain.after{s:Span}{l:List Span}(h:Plain (s::l)){x:Int}(hx:memL l x):s.hi+1<x:=by
 obtain⟨t,ht,h1,h2⟩:=hx;have:=(AH.1 h.2).1 t ht;omega
theorem Jz:∀{a b:List Span},Plain a->Plain b->(∀x,memL a x↔memL b x)->a=b
 |[],[],_,_,_=>rfl
 |[],t::b,_,hb,h=>absurd ((h t.lo).2 (Bs.2 (.inl ⟨AE _,hb.head⟩))) (BQ _)
 |s::a,[],ha,_,h=>absurd ((h s.lo).1 (Bs.2 (.inl ⟨AE _,ha.head⟩))) (BQ _)
 |s::a,t::b,ha,hb,h=>by
  have hs:=ha.head;have ht:=hb.head
  have key:∀{s t:Span}{a b:List Span},Plain (s::a)->Plain (t::b)->(∀x,memL (s::a) x↔memL (t::b) x)->t.lo<=s.lo:=λ{s t a b} ha hb h=>by
   rcases Bs.1 ((h s.lo).1 (Bs.2 (.inl ⟨AE _,ha.head⟩))) with hh|hh
   ·exact hh.1
   ·have:=hb.after hh;have:=hb.head;omega
  have hlo:s.lo=t.lo:=Int.le_antisymm (key hb ha λx=>(h x).symm) (key ha hb h)
  have key2:∀{s t:Span}{a b:List Span},Plain (s::a)->Plain (t::b)->(∀x,memL (s::a) x↔memL (t::b) x)->s.lo=t.lo->t.hi<=s.hi:=λ{s t a b} ha hb h e=>by
   have:=ha.head;rcases Ee s.hi t.hi with hlt|hle
   ·rcases Bs.1 ((h (s.hi+1)).2 (Bs.2 (.inl ⟨om,om⟩))) with hh|hh
    ·omega
    ·have:=ha.after hh;omega
   ·exact hle
  have hhi:s.hi=t.hi:=Int.le_antisymm (key2 hb ha (λx=>(h x).symm) hlo.symm) (key2 ha hb h hlo);have hst:s=t:=by cases s;cases t;simp_all
  subst hst;refine Bt _ (Jz ha.tail hb.tail λx=>⟨λhx=>?_,λhx=>?_⟩)
  ·rcases Bs.1 ((h x).1 (Bs.2 (.inr hx))) with hh|hh
   ·have:=ha.after hx;omega
   ·exact hh
  ·rcases Bs.1 ((h x).2 (Bs.2 (.inr hx))) with hh|hh
   ·have:=hb.after hx;omega
   ·exact hh
def F1(out:List Span)(x:Span):List Span :=
 match out.getLast? with
 |some y=>if x.lo<=y.hi+1 then out.dropLast++[⟨y.lo,max y.hi x.hi⟩] else out++[x]
 |none=>[x]
theorem Hz(x:Span):F1 [] x=[x]:=rfl
theorem LX(out:List Span)(y x:Span):F1 (out++[y]) x=if x.lo<=y.hi+1 then out++[⟨y.lo,max y.hi x.hi⟩] else out++[y]++[x]:=by
 simp[F1]
theorem H0(l:List Span):l=[]\/∃m y,l=m++[y]:=by
 rcases List.eq_nil_or_concat l with h|⟨m,y,h⟩
 ·exact .inl h
 ·exact .inr ⟨m,y,by simpa using h⟩
theorem Ip{m:List Span}{y:Span}:Plain (m++[y])↔Plain m/\y.lo<=y.hi/\∀s∈m,s.hi+1<y.lo:=by
 simp only[Plain,DI,Av,Am,EX,Dz,or_imp,forall_and,Cr];constructor
 ·rintro⟨⟨h1,h2⟩,h3,h4⟩;exact⟨⟨h1,h3⟩,h2,h4⟩
 ·rintro⟨⟨h1,h3⟩,h2,h4⟩;exact⟨⟨h1,h2⟩,h3,h4⟩
def Before(l:List Span)(x:Int):Prop:=∀s∈l,s.lo<=x
theorem Yv{out:List Span}{x:Span}(h:Plain out)(hx:x.lo<=x.hi)(hb:Before out x.lo):Plain (F1 out x)/\Before (F1 out x) x.lo/\∀v,memL (F1 out x) v↔memL out v\/(x.lo<=v/\v<=x.hi):=by
 rcases H0 out with rfl|⟨m,y,rfl⟩
 ·refine⟨⟨by simp[Hz,hx],by simp[Hz]⟩,by simp[Hz,Before],λv=>?_⟩
  rw[Hz,Bs];constructor
  ·rintro (h|h)
   ·exact .inr h
   ·exact absurd h (BQ _)
  ·rintro (h|h)
   ·exact absurd h (BQ _)
   ·exact .inl h
 ·rw[LX]
  obtain⟨h1,h2,h3⟩:=Ip.1 h;have hy:y.lo<=x.lo:=hb y oc;split
  ·rename_i hle
   refine⟨Ip.2 ⟨h1,by simp only;omega,λs hs=>h3 s hs⟩,?_,λv=>?_⟩
   ·intro s hs
    rcases Av.1 hs with hs|hs
    ·exact hb s (by simp[hs])
    ·simp only[Am] at hs;subst hs;exact hy
   ·rw[FX,FX,Bs,Bs]
    simp only[BQ,A7];constructor
    ·rintro (h|h)
     ·exact .inl (.inl h)
     ·by_cases hv:v<=y.hi
      ·exact .inl (.inr ⟨h.1,hv⟩)
      ·exact .inr ⟨om,om⟩
    ·rintro ((h|h)|h)
     ·exact .inl h
     ·exact .inr ⟨h.1,om⟩
     ·exact .inr ⟨om,om⟩
  ·rename_i hle
   refine⟨Ip.2 ⟨h,hx,λs hs=>?_⟩,?_,λv=>?_⟩
   ·rcases Av.1 hs with hs|hs
    ·have:=h3 s hs;omega
    ·simp only[Am] at hs;subst hs;omega
   ·intro s hs
    rcases Av.1 hs with hs|hs
    ·exact hb s hs
    ·simp only[Am] at hs;subst hs;exact AE _
   ·rw[FX,Bs]
    simp only[BQ,A7]
theorem J0:∀(l out:List Span),Plain out->(∀s∈l,s.lo<=s.hi)->l.Pairwise (λa b=>a.lo<=b.lo)->(∀s∈l,Before out s.lo)->Plain (l.foldl F1 out)/\∀v,memL (l.foldl F1 out) v↔memL out v\/memL l v
 |[],out,h,_,_,_=>⟨h,λv=>by simp only[List.foldl_nil,BQ,A7]⟩
 |x::l,out,h,h1,h2,h3=>by
  obtain⟨p1,p2,p3⟩:=Yv h (h1 x oc) (h3 x oc);rw[AH] at h2;obtain⟨q1,q2⟩:=J0 l (F1 out x) p1 (λs hs=>h1 s (by simp[hs])) h2.2 (λs hs t ht=>Int.le_trans (p2 t ht) (h2.1 s hs));refine⟨q1,λv=>?_⟩;rw[List.foldl_cons,q2 v,p3 v,Bs,or_assoc]
theorem z4p(out:List Span)(x:Span):(F1 out x).length<=out.length+1:=by
 rcases H0 out with rfl|⟨m,y,rfl⟩
 ·simp[Hz]
 ·rw[LX];split<;>simp
theorem TS:∀(l out:List Span),(l.foldl F1 out).length<=out.length+l.length
 |[],out=>by simp
 |x::l,out=>by
  have h1:=TS l (F1 out x);have h2:=z4p out x;simp only[List.foldl_cons,List.length_cons];omega
def LY(s:Span):Span:=⟨max s.lo (-1073741824),min s.hi 1073741824⟩
def inN(l:List Span):List Span:=(l.map LY).filter λs=>decide (s.lo<=s.hi)
theorem z9e{l:List Span}{x:Int}:memL (inN l) x↔memL l x/\-1073741824<=x/\x<=1073741824:=by
 constructor
 ·rintro⟨s,hs,h1,h2⟩
  simp only[inN,AW,Al] at hs;obtain⟨⟨t,ht,rfl⟩,_⟩:=hs;simp only[LY] at h1 h2;exact⟨⟨t,ht,om,om⟩,om,om⟩
 ·rintro⟨⟨t,ht,h1,h2⟩,h3,h4⟩
  refine⟨LY t,?_,by simp only[LY];omega,by simp only[LY];omega⟩;simp only[inN,AW,Al,Ah];exact⟨⟨t,ht,rfl⟩,by simp only[LY];omega⟩
theorem ZR{l:List Span}:∀s∈inN l,s.lo<=s.hi:=λs hs=>by
 simp only[inN,AW,Ah] at hs;exact hs.2
theorem Qm{l m:List Span}(h:l.Perm m)(x:Int):memL l x↔memL m x :=
 ⟨λ⟨s,hs,hx⟩=>⟨s,h.mem_iff.1 hs,hx⟩,λ⟨s,hs,hx⟩=>⟨s,h.mem_iff.2 hs,hx⟩⟩
def AR(l:List Span):List Span:=((inN l).mergeSort λa b=>decide (a.lo<=b.lo)).foldl F1 []
theorem zg5{l m:List Span}(hp:m.Perm (inN l))(hs:m.Pairwise λa b=>a.lo<=b.lo):m.foldl F1 []=AR l:=by
 have hq:((inN l).mergeSort λa b=>decide (a.lo<=b.lo)).Perm (inN l):=List.mergeSort_perm _ _
 have hs':((inN l).mergeSort λa b=>decide (a.lo<=b.lo)).Pairwise λa b=>a.lo<=b.lo:=by
  have:=List.pairwise_mergeSort (le:=λa b:Span=>decide (a.lo<=b.lo)) (λa b c h1 h2=>by simp at *;omega) (λa b=>by simp;omega) (inN l);simpa using this
 obtain⟨a1,a2⟩:=J0 m [] ⟨oc,oc⟩ (λs h=>ZR s (hp.mem_iff.1 h)) hs (λs _ t ht=>by cases ht);obtain⟨b1,b2⟩:=J0 _ [] ⟨oc,oc⟩ (λs h=>ZR s (hq.mem_iff.1 h)) hs' (λs _ t ht=>by cases ht);refine Jz a1 b1 λx=>?_;rw[AR,a2 x,b2 x,Qm hp x,Qm hq x]
theorem Bo(l:List Span):Plain (AR l)/\∀x,memL (AR l) x↔memL l x/\-1073741824<=x/\x<=1073741824:=by
 have hq:((inN l).mergeSort λa b=>decide (a.lo<=b.lo)).Perm (inN l):=List.mergeSort_perm _ _
 have hs':((inN l).mergeSort λa b=>decide (a.lo<=b.lo)).Pairwise λa b=>a.lo<=b.lo:=by
  have:=List.pairwise_mergeSort (le:=λa b:Span=>decide (a.lo<=b.lo)) (λa b c h1 h2=>by simp at *;omega) (λa b=>by simp;omega) (inN l);simpa using this
 obtain⟨b1,b2⟩:=J0 _ [] ⟨oc,oc⟩ (λs h=>ZR s (hq.mem_iff.1 h)) hs' (λs _ t ht=>by cases ht);refine⟨b1,λx=>?_⟩;rw[AR,b2 x,Qm hq x,z9e];simp only[BQ,BC]
theorem Yw(l:List Span):(inN l).length<=l.length:=by
 have:=Bg (λs:Span=>decide (s.lo<=s.hi)) (l.map LY);simpa [inN] using this
theorem En(l:List Span):(AR l).length<=l.length:=by
 have h1:=TS ((inN l).mergeSort λa b=>decide (a.lo<=b.lo)) [];have h2:=Yw l;rw[List.length_mergeSort] at h1;simp only[List.length_nil] at h1;rw[AR];omega
end Go.Proofs.YtflibbceibjddaaGreat
namespace Go.Proofs.YtflibbceibjddaaGreat.Abs
mutual
def valOf:AV->Value
 |.int k a=>.int k a
 |.bool b=>.bool b
 |.agg xs=>.agg (zjz xs).toArray
 |_=>undef
def zjz:List AV->List Value
 |[]=>[]
 |x::xs=>valOf x::zjz xs
end
def Flat(x:AV):Prop:=∀S:MS,VRel S x (valOf x)
abbrev encI(r:List AV):Array Value:=(r.map valOf).toArray
def Clo(J:Nat->(Nat->Prop)->World->Prop):Prop :=
 ∀k O W W',J k O W->W'.os=W.os->LB W' W->W'.output=W.output->W.heap.size<=W'.heap.size ->
  (∀b,b<W.heap.size->¬O b->W'.heap[b]? = W.heap[b]?)->J k (λb=>O b\/(W.heap.size<=b/\b<W'.heap.size)) W'
def Qn(P:Program)(gf:Nat)(caps:List AV)(rows:List (List AV)):Prop :=
 Enters P gf/\∀(m l:Nat)(S:MS)(lb:List Value)(J Jx:Nat->(Nat->Prop)->World->Prop),
  SRel S A4.nil->AB S caps lb->Clo J->Clo Jx->J 0 (λ_=>False) S.w ->
  (∀k O W,J k O W\/Jx k O W->(∀b,S.im b->¬O b/\W.heap[b]? = S.w.heap[b]?)/\(W.os=S.w.os/\LB W S.w/\W.output=S.w.output)/\S.w.heap.size<=W.heap.size/\∀b,O b->S.w.heap.size<=b/\b<W.heap.size) ->
  (∀k row O W,rows[k]? = some row->J k O W->YieldAt Fence.wide m P l (encI row) W λe W'=>W.heap.size<=W'.heap.size/\(∀b,O b->W'.heap[b]? = W.heap[b]?)/\(e=.returned (.bool true)/\J (k+1) O W'\/e=.returned (.bool false)/\Jx (k+1) O W')) ->
  CallsIn Fence.wide (m+1) P gf (#[.func (.yield l) #[] #[]]++lb.toArray) S.w λe W'=>(∃v,e=.returned v)/\((∃O,J rows.length O W')\/∃k O,Jx k O W')
def setL:Env->List Nat->List AV->Env
 |env,p::ps,x::r=>setL (env.put (some p) x) ps r
 |env,_,_=>env
section
variable {P:Program}{n b:Nat}{env:Env}{H:A4}{Q:Ex->Env->A4->Prop}
theorem SRel.turn2{S S':MS}{H:A4}(h:SRel S H)(hw:∀b,S.im b->S'.w.heap[b]? = S.w.heap[b]?)(hi:S'.im=S.im)(hn:S'.n=S.n)(hc:S'.cur=S.cur)(hp:S'.place=S.place)(hcap:S'.cap=S.cap)(hwid:S'.wid=S.wid)
 (hk:∀b,S'.keep b->S.keep b\/S.w.heap.size<=b) (hkb:∀b,S'.keep b->b<S'.w.heap.size) (hg:∀b,¬(S.im b\/S.keep b)->b<S.w.heap.size->S'.w.heap[b]? = S.w.heap[b]?) (hsz:S.w.heap.size<=S'.w.heap.size):SRel S' H:=by
 have ev:=Evi.of hw hi hn hc hp hcap hwid;refine⟨hn.trans h.n,λg hgn=>?_,λg g' h1 h2 h3 h4 h5=>?_,λb hb=>?_⟩
 ·have hG:=h.grp g hgn
  have hni:¬(S.im (S.place g)\/S.keep (S.place g))->S.place g<S.w.heap.size->¬(S'.im (S'.place g)\/S'.keep (S'.place g)):=λhn hlt hh=>by
   rw[hi,hp] at hh;rcases hh with hh|hh
   ·exact hn (.inl hh)
   ·rcases hk _ hh with hh|hh
    ·exact hn (.inr hh)
    ·omega
  refine⟨by rw[hc];exact hG.ver,by rw[hwid];exact hG.wid,λhw0 hc0=>?_,λhw0=>by rw[hcap];exact hG.len hw0,λhw0 he=>by rw[hcap];exact hG.full hw0 he,λhw0 he=>?_⟩
  ·rw[hcap] at hc0 ⊢
   obtain⟨⟨cells,T,vs,a1,a2,a3,a4⟩,a5⟩:=hG.live hw0 hc0;exact⟨⟨cells,T,vs,by rw[hp,hg _ a5 (hG.lt hw0 hc0)];exact a1,a2,AB.moni ev _ a3,a4⟩,hni a5 (hG.lt hw0 hc0)⟩
  ·obtain⟨⟨o,a1,a0,a2⟩,a5⟩:=hG.mlive hw0 he
   exact⟨⟨o,by rw[hp,hg _ a5 (hG.mlt hw0 he)];exact a1,a0,AB.moni ev _ a2⟩,hni a5 (hG.mlt hw0 he)⟩
 ·rw[hp]
  rw[hcap] at h4 h5;exact h.apart g g' h1 h2 h3 h4 h5
 ·rcases hb with hb|hb
  ·rw[hi] at hb;exact AO (h.im b (.inl hb)) hsz
  ·exact hkb b hb
theorem ZS{S:MS}{ds:List Deferred}(hd:Marks S ds):∀{ps:List Nat}{row:List AV}{env:Env}{tmps:Array Value}{ds':List Deferred},FRel S n env { tmps:=tmps,defers:=ds' }->(∀p∈ps,p<n)->(∀x∈row,Flat x) ->
 FRel S n (setL env ps row) { tmps:=(ps.zip (row.map valOf)).foldl (λt (p,v)=>t.setIfInBounds p v) tmps,defers:=ds }
 |[],row,env,tmps,_,hF,_,_=>by
  rw[show setL env [] row=env from by cases row<;>rfl];exact⟨hF.size,hd,hF.val⟩
 |p::ps,[],env,tmps,_,hF,_,_=>⟨hF.size,hd,hF.val⟩
 |p::ps,x::row,env,tmps,ds',hF,hp,hx=>by
  have:=hF.put (dst:=some p) (by simpa using hp p oc) (x:=x) (v:=valOf x) (hx x oc S);exact ZS hd (ps:=ps) (row:=row) this (λq hq=>hp q (by simp[hq])) (λy hy=>hx y (by simp[hy]))
def codeOf:Ex->Code
 |.normal=>.skip
 |.exit id=>.exit id
 |.ret=>.ret
structure Lo(S:MS)(rec:LoopState->Option Code->Loop)(W1:Nat)(st:LoopState)(pe:Option Code)(O:Nat->Prop)(S':MS)(H':A4):Prop where
 evo:Evo S S'
 rel:SRel S' H'
 own:∀b,O b->S'.keep b/\¬S'.im b/\W1<=b/\b<S'.w.heap.size
 size:W1<=S'.w.heap.size
 loop:S'.w.heap[S.w.heap.size+1]? = some (.loop (rec st pe))
 defd:S'.w.heap[S.w.heap.size]? = some (.deferred (some []))
 k1:S'.keep S.w.heap.size/\¬S'.im S.w.heap.size
 k2:S'.keep (S.w.heap.size+1)/\¬S'.im (S.w.heap.size+1)
theorem Lo.clo{S S':MS}{rec:LoopState->Option Code->Loop}{st:LoopState}{pe:Option Code}{O:Nat->Prop}{H':A4}(hS:∀b,S.im b\/S.keep b->b<S.w.heap.size)(h:Lo S rec (S.w.heap.size+2) st pe O S' H'){W':World}
 (h1:W'.os=S'.w.os) (h2:LB W' S'.w) (h3:W'.output=S'.w.output) (h4:S'.w.heap.size<=W'.heap.size) (h5:∀b,b<S'.w.heap.size->¬O b->W'.heap[b]? = S'.w.heap[b]?) :
 ∃S'':MS,S''.w=W'/\Lo S rec (S.w.heap.size+2) st pe (λb=>O b\/(S'.w.heap.size<=b/\b<W'.heap.size)) S'' H':=by
 obtain⟨S'',hd⟩:∃S'':MS,S''={ S' with w:=W',keep:=λb=>S'.keep b\/(S'.w.heap.size<=b/\b<W'.heap.size) }:=⟨_,rfl⟩;have him:∀b,S'.im b->b<S'.w.heap.size:=λb hb=>h.rel.im b (.inl hb);have hio:∀b,S'.im b->¬O b:=λb hb ho=>(h.own b ho).2.1 hb;have hlt:∀b,S.im b\/S.keep b->¬O b:=λb hb ho=>by have:=(h.own b ho).2.2.1;have:=hS b hb;omega
 have hsz:=h.size;refine⟨S'',by rw[hd],?_⟩
 have hrel:SRel S'' H':=by
  subst hd
  exact h.rel.turn2 (λb hb=>h5 b (him b hb) (hio b hb)) rfl rfl rfl rfl rfl rfl (λb hb=>hb.imp id And.left) (λb hb=>hb.elim (λhh=>AO (h.rel.im b (.inr hh)) h4) And.right)
   (λb hb hl=>h5 b hl (λho=>hb (.inr (h.own b ho).1))) h4
 have hevo:Evo S S'':=by
  have e:=h.evo;subst hd;refine⟨e.base,h1.trans e.os,h2.trans e.tape,h3.trans e.output,Bl e.size h4,λb hb=>?_,e.im,λb hb=>.inl (e.keep b hb),e.fresh,e.n,e.cur,e.same⟩;exact (h5 b (AO (hS b hb) e.size) (hlt b hb)).trans (e.kept b hb)
 have hw:S''.w=W':=by rw[hd]
 have hkeep:S''.keep=λb=>S'.keep b\/(S'.w.heap.size<=b/\b<W'.heap.size):=by rw[hd]
 have himm:S''.im=S'.im:=by rw[hd]
 have hnO:∀b,b<S.w.heap.size+2->¬O b:=λb hb ho=>by have:=(h.own b ho).2.2.1;omega
 refine⟨hevo,hrel,λb hb=>?_,by rw[hw];omega,?_,?_,?_,?_⟩
 ·rw[hkeep,himm,hw]
  rcases hb with hb|⟨hb1,hb2⟩
  ·obtain⟨q1,q2,q3,q4⟩:=h.own b hb
   exact⟨.inl q1,q2,q3,om⟩
  ·exact⟨.inr ⟨hb1,hb2⟩,λhi=>by have:=him b hi;omega,om,hb2⟩
 ·rw[hw,h5 _ om (hnO _ om)];exact h.loop
 ·rw[hw,h5 _ om (hnO _ om)];exact h.defd
 ·rw[hkeep,himm];exact⟨.inl h.k1.1,h.k1.2⟩
 ·rw[hkeep,himm];exact⟨.inl h.k2.1,h.k2.2⟩
theorem Lo.turn{S S':MS}{rec:LoopState->Option Code->Loop}{st:LoopState}{pe:Option Code}{O:Nat->Prop}{H':A4}(hS:∀b,S.im b\/S.keep b->b<S.w.heap.size)(h:Lo S rec (S.w.heap.size+2) st pe O S' H')(st':LoopState)(pe':Option Code):
 ∃S'':MS,S''.w=S'.w.putObj (S.w.heap.size+1) (.loop (rec st' pe'))/\Lo S rec (S.w.heap.size+2) st' pe' O S'' H'/\Evi S' S''/\S''.n=S'.n/\S''.base=S'.base/\S''.keep=S'.keep/\S''.im=S'.im:=by
 obtain⟨S'',hd⟩:∃S'':MS,S''={ S' with w:=S'.w.putObj (S.w.heap.size+1) (.loop (rec st' pe')) }:=⟨_,rfl⟩;have hne:∀b,S'.im b->b≠S.w.heap.size+1:=λb hb hh=>h.k2.2 (hh ▸ hb);have hsz:=h.size;have hw:S''.w=S'.w.putObj (S.w.heap.size+1) (.loop (rec st' pe')):=by rw[hd]
 refine⟨S'',hw,⟨?_,?_,λb hb=>?_,by rw[hw,World.putObj_size];exact hsz,?_,?_,?_,?_⟩,?_,by rw[hd],by rw[hd],by rw[hd],by rw[hd]⟩
 ·have e:=h.evo
  subst hd;refine⟨e.base,e.os,e.tape,e.output,by show _<=(World.putObj _ _ _).heap.size;rw[World.putObj_size];exact e.size,λb hb=>?_,e.im,e.keep,e.fresh,e.n,e.cur,e.same⟩;show (World.putObj _ _ _).heap[b]? = _;rw[World.putObj_heap_other (by have:=hS b hb;omega)];exact e.kept b hb
 ·subst hd
  refine h.rel.turn (λb hb=>World.putObj_heap_other (hne b hb)) rfl rfl rfl rfl rfl rfl (λ_ h=>h) (λb hb _=>World.putObj_heap_other λhh=>hb (.inr (hh ▸ h.k2.1))) (by show _<=(World.putObj _ _ _).heap.size;rw[World.putObj_size];exact Ab _)
 ·obtain⟨q1,q2,q3,q4⟩:=h.own b hb
  rw[hd];exact⟨q1,q2,q3,by show _<(World.putObj _ _ _).heap.size;rw[World.putObj_size];exact q4⟩
 ·rw[hw];exact World.putObj_heap_same om
 ·rw[hw,World.putObj_heap_other om];exact h.defd
 ·rw[hd];exact h.k1
 ·rw[hd];exact h.k2
 ·subst hd
  exact Evi.of (λb hb=>World.putObj_heap_other (hne b hb)) rfl rfl rfl rfl rfl rfl
theorem Lo.on{S S' S2:MS}{rec:LoopState->Option Code->Loop}{W1:Nat}{st:LoopState}{pe:Option Code}{O:Nat->Prop}{H' H2:A4}(h:Lo S rec W1 st pe O S' H')(e:BEvo S.n S' S2)(hr:SRel S2 H2):Lo S rec W1 st pe O S2 H2/\∀b,O b->S2.w.heap[b]? = S'.w.heap[b]? := by
 have hk:∀b,S'.keep b->¬S'.im b->S2.keep b/\¬S2.im b/\S2.w.heap[b]? = S'.w.heap[b]? := λb h1 h2=>⟨e.keep b h1,λhi=>(e.fresh b hi).elim h2 (λhh=>hh h1),e.kept b (.inr h1)⟩;refine⟨⟨((h.evo.down (Ab _)).trans e).up,hr,λb hb=>?_,Bl h.size e.size,?_,?_,?_,?_⟩,λb hb=>?_⟩
 ·obtain⟨q1,q2,q3,q4⟩:=h.own b hb
  obtain⟨r1,r2,_⟩:=hk b q1 q2;exact⟨r1,r2,q3,AO q4 e.size⟩
 ·rw[(hk _ h.k2.1 h.k2.2).2.2];exact h.loop
 ·rw[(hk _ h.k1.1 h.k1.2).2.2];exact h.defd
 ·obtain⟨r1,r2,_⟩:=hk _ h.k1.1 h.k1.2;exact⟨r1,r2⟩
 ·obtain⟨r1,r2,_⟩:=hk _ h.k2.1 h.k2.2;exact⟨r1,r2⟩
 ·obtain⟨q1,q2,_,_⟩:=h.own b hb
  exact (hk b q1 q2).2.2
theorem zt8{f:AArg}{ps:List Nat}{asg body:AC}{gf:Nat}{caps:List AV}(hf:f.eval env=.fn gf caps)(hpure:AJ caps=true)(hfr1:asg.free=true)(hfr2:body.free=true){rows:List (List AV)}(hit:Qn P gf caps rows)(hfl:∀r∈rows,∀x∈r,Flat x)
 (hps:∀r∈rows,r.length=ps.length) (hpn:∀p∈ps,p<n) (Inv:Nat->A4->Prop) (Qx:Ex->A4->Prop) (h0:Inv 0 H) (hn:∀k H',Inv k H'->H.n<=H'.n)
 (round:∀k row H1,rows[k]? = some row->Inv k H1->T P n H.n asg (setL env ps row) H1 (λx env1 H2=>x=.normal/\T P n H.n body env1 H2 (λx _ H3=>(x=.normal/\Inv (k+1) H3)\/(x≠.normal/\Qx x H3))))
 (done:∀H1,Inv rows.length H1->Q .normal env H1) (out:∀x H1,Qx x H1->Q x env H1):T P n b (.rng f ps asg body) env H Q:=T_of λrd mm hrd code hc hs S a hb hS hF=>by
 obtain rfl:rd=none:=by
  rcases hrd with h|h
  ·cases h
  ·exact h
 cases code<;>simp only[Fy,reduceCtorEq,Aq] at hc
 case rangeFunc g pps asgc bodyc =>
  split at hc
  ·rename_i z x y hz hx hy
   cases hc;have hSim:=hS.im;have hv:=Tz hF hz;rw[hf] at hv;obtain⟨lb,hgv,hlb⟩:=hv;obtain⟨hent,hit⟩:=hit;have hFn:S.n=H.n:=hS.n;refine wpIn_rangeFunc (F:=fen none) λfn _=>?_;obtain⟨rec,hrec⟩:∃rec:LoopState->Option Code->Loop,rec=λst pe=>{ state:=st,pending:=pe,fn,tmps:=a.tmps,params:=pps,assign:=asgc,body:=bodyc,defers:=S.w.heap.size }:=⟨_,rfl⟩;obtain⟨W1,hW1⟩:∃W1,(S.w.alloc (.deferred (some []))).alloc (.loop (rec .ready none))=W1:=⟨_,rfl⟩;have hW1s:W1.heap.size=S.w.heap.size+2:=by rw[<-hW1,size_alloc,size_alloc]
   have hW1o:∀b,b<S.w.heap.size->W1.heap[b]? = S.w.heap[b]? := λb hb=>by
    rw[<-hW1,heap_alloc_lt _ _ _ (by rw[size_alloc];omega),heap_alloc_lt _ _ _ hb]
   have hL1:W1.heap[S.w.heap.size+1]? = some (.loop (rec .ready none)):=by
    rw[<-hW1];have:=heap_alloc_new (S.w.alloc (.deferred (some []))) (.loop (rec .ready none));rwa [size_alloc] at this
   have hK1:W1.heap[S.w.heap.size]? = some (.deferred (some [])):=by
    rw[<-hW1,heap_alloc_lt _ _ _ (by rw[size_alloc];omega)];exact heap_alloc_new _ _
   -- the state at the loop's beginning
   obtain⟨S1,hS1d⟩:∃S1:MS,S1={ S with w:=W1,keep:=λb=>S.keep b\/b=S.w.heap.size\/b=S.w.heap.size+1 }:=⟨_,rfl⟩;have hw1:S1.w=W1:=by rw[hS1d]
   have hlo:Lo S rec (S.w.heap.size+2) .ready none (λ_=>False) S1 H:=by
    refine⟨?_,?_,λb hb=>hb.elim,by rw[hw1,hW1s];exact Ab _,by rw[hw1];exact hL1,by rw[hw1];exact hK1,?_,?_⟩
    ·subst hS1d hW1
     exact⟨rfl,rfl,⟨rfl,Ab _⟩,rfl,by rw[hW1s];omega,λb hb=>hW1o b (hSim b hb),λ_ h=>h,λ_ h=>.inl h,λ_ h=>.inl h,Ab _,λ_ _=>Ab _,λ_ _ _=>⟨rfl,rfl,rfl⟩⟩
    ·subst hS1d
     exact hS.turn2 (λb hb=>hW1o b (hSim b (.inl hb))) rfl rfl rfl rfl rfl rfl (λb hb=>hb.imp id (λh=>by omega)) (λb hb=>by
      show b<W1.heap.size;rw[hW1s];rcases hb with hb|hb
      ·have:=hSim b (.inr hb);omega
      ·omega) (λb _ hl=>hW1o b hl) (by show _<=W1.heap.size;rw[hW1s];omega)
    ·rw[hS1d];exact⟨.inr (.inl rfl),λhi=>by have:=hSim _ (.inl hi);omega⟩
    ·rw[hS1d];exact⟨.inr (.inr rfl),λhi=>by have:=hSim _ (.inl hi);omega⟩
   obtain⟨Sit,hSid⟩:∃Sit:MS,Sit={ S1 with n:=0,keep:=λ_=>False }:=⟨_,rfl⟩
   have hSit:SRel Sit A4.nil:=by
    subst hSid;exact⟨rfl,λg hg=>absurd hg (AZ _),λg _ hg=>absurd hg (AZ _),λb hb=>hlo.rel.im b (hb.imp id False.elim)⟩
   have hlb':AB Sit caps lb:=by
    have:=AB.mono hlo.evo _ hlb;subst hSid;exact AB.of_pure (S:=S1) (S':={ S1 with n:=0,keep:=λ_=>False }) rfl (λ_ h=>h) hpure this
   have hwit:Sit.w=W1:=by rw[hSid];exact hw1
   have himit:Sit.im=S.im:=by rw[hSid,hS1d]
   refine⟨S.w.heap.size+1,[mark S.w.heap.size],W1,{ target:=.fn (.func gf) lb.toArray,args:=#[.func (.yield (S.w.heap.size+1)) #[] #[]] },W1,gf,#[.func (.yield (S.w.heap.size+1)) #[] #[]]++lb.toArray,W1,?_,?_,λ_ _=>trivial,?_,λh=>(by cases h),?_⟩
   ·rw[<-hW1,hrec];exact run_enterLoop_outer _ _ _ _ _
   ·simp only[rangeCall,resolve,hgv]
    simp[go_sem,Act.eval]
   ·simpa [invoke,go_sem] using hent (Value.func (.yield (S.w.heap.size+1)) #[] #[]::lb).toArray W1
   -- the iterator
   have hcall:=hit (mm+1) (S.w.heap.size+1) Sit lb
    (λk O W=>∃S' H',S'.w=W/\Lo S rec (S.w.heap.size+2) .ready none O S' H'/\Inv k H')
    (λk O W=>∃x S' H',S'.w=W/\Lo S rec (S.w.heap.size+2) .done (some (codeOf x)) O S' H'/\x≠.normal/\Qx x H')
    hSit hlb'
    (λk O W W' ⟨S',H',hw,hl,hi⟩ h1 h2 h3 h4 h5=>by
     subst hw;obtain⟨S'',hw',hl'⟩:=hl.clo hSim h1 h2 h3 h4 h5
     exact⟨S'',H',hw',hl',hi⟩)
    (λk O W W' ⟨x,S',H',hw,hl,hi⟩ h1 h2 h3 h4 h5=>by
     subst hw;obtain⟨S'',hw',hl'⟩:=hl.clo hSim h1 h2 h3 h4 h5
     exact⟨x,S'',H',hw',hl',hi⟩)
    ⟨S1,H,by rw[hwit,hw1],hlo,h0⟩
    (λk O W hJ=>by
     have hW1e:W1.os=S.w.os/\(W1.tape=S.w.tape/\W1.drawn=S.w.drawn)/\W1.output=S.w.output:=by rw[<-hW1];exact⟨rfl,⟨rfl,rfl⟩,rfl⟩
     have key:∀{st:LoopState}{pe:Option Code}{S':MS}{H':A4},Lo S rec (S.w.heap.size+2) st pe O S' H'->(∀b,Sit.im b->¬O b/\S'.w.heap[b]? = Sit.w.heap[b]?)/\(S'.w.os=Sit.w.os/\LB S'.w Sit.w/\S'.w.output=Sit.w.output)/\Sit.w.heap.size<=S'.w.heap.size/\∀b,O b->Sit.w.heap.size<=b/\b<S'.w.heap.size:=λhl=>by
      refine⟨λb hb=>?_,⟨by rw[hwit,hW1e.1];exact hl.evo.os,⟨by rw[hwit,hW1e.2.1.1];exact hl.evo.tape.1,by rw[hwit,hW1e.2.1.2];exact hl.evo.tape.2⟩,by rw[hwit,hW1e.2.2];exact hl.evo.output⟩,by rw[hwit,hW1s];exact hl.size,λb hb=>?_⟩
      ·rw[himit] at hb
       refine⟨λho=>by have:=(hl.own b ho).2.2.1;have:=hSim b (.inl hb);omega,?_⟩;rw[hwit,hW1o b (hSim b (.inl hb))];exact hl.evo.kept b (.inl hb)
      ·obtain⟨_,_,q3,q4⟩:=hl.own b hb
       rw[hwit,hW1s];exact⟨q3,q4⟩
     rcases hJ with⟨S',H',hw,hl,_⟩|⟨x,S',H',hw,hl,_,_⟩
     ·subst hw;exact key hl
     ·subst hw;exact key hl)
    (λk row O W hrow ⟨S',H',hw,hl,hi⟩=>by
     subst hw
     have hlen:(encI row).size=(rec .ready none).params.size:=by
      rw[hrec];have:=hps row (CX hrow);simp[this]
     refine⟨_,_,_,_,run_yield hl.loop hlen,?_⟩;have hrf:rec .ready none={ state:=.ready,pending:=none,fn,tmps:=a.tmps,params:=pps,assign:=asgc,body:=bodyc,defers:=S.w.heap.size }:=by rw[hrec]
     rw[hrf];refine roundIn_of_wpIn (F:=Fence.wide) trivial ?_;have hF':FRel S' n env a:=hF.mono hl.evo;have hFr:=ZS (n:=n) (Marks.nil hF'.defers.1) (ps:=pps.toList) (row:=row) (env:=env) (tmps:=a.tmps) (ds':=a.defers) hF' hpn (hfl row (CX hrow));have hTa':=(round k row H' hrow hi) (some (S.w.heap.size+1)) (mm+1) (.inl hfr1) asgc hx S' _ (by rw[hl.rel.n];exact hn k H' hi) hl.rel hFr
     have hzip:(pps.zip (encI row)).foldl (λt (p,v)=>t.setIfInBounds p v) a.tmps=(pps.toList.zip (row.map valOf)).foldl (λt (p,v)=>t.setIfInBounds p v) a.tmps:=by
      rw[<-Array.foldl_toList];simp
     rw[hzip];refine wpIn_mono hTa' λe a1 w1 hh=>?_;obtain⟨S2,env1,H2,x1,rfl,e2,hS2,hF2,rfl,rfl,hbody⟩:=hh;have hsz2:=hl.size;obtain⟨hl2,ho2⟩:=hl.on (by rw[hFn];exact e2) hS2;obtain⟨S3,hw3,hl3,ev3,hn3,hb3,hk3,hi3⟩:=hl2.turn hSim .busy none;have hbr:=run_beginRound (P:=P) hl2.loop (by rw[hrec]);have hrb:({ rec .ready none with state:=.busy }:Loop)=rec .busy none:=by rw[hrec]
     rw[hrb] at hbr;refine⟨_,hbr,?_⟩;rw[<-hw3]
     have hMs:Marks S3 a1.defers:=by
      obtain⟨q0,Ds,q1,q2,q3⟩:=hF2.defers;refine⟨by rw[hb3,hw3,World.putObj_size];exact q0,Ds,q1,q2,λD hD=>?_⟩;obtain⟨r1,r2,r3,r4⟩:=q3 D hD;refine⟨by rw[hb3];exact r1,by rw[hk3];exact r2,by rw[hi3];exact r3,?_⟩;rw[hw3,World.putObj_heap_other,r4];intro hDl;rw[hDl,hl2.loop] at r4;cases r4
     have hF3:FRel S3 n env1 a1:=⟨hF2.size,hMs,λi hi=>VRel.moni ev3 _ (hF2.val i hi)⟩;have hTb:=hbody (some (S.w.heap.size+1)) (mm+1) (.inl hfr2) bodyc hy S3 a1 (by rw[<-hFn];exact hl3.evo.n) hl3.rel hF3;refine wpIn_mono hTb λe a4 w4 hh=>?_;obtain⟨S4,env4,H4,x4,rfl,e4,hS4,hF4,rfl,hx4⟩:=hh;obtain⟨hl4,ho4⟩:=hl3.on (by rw[hFn];exact e4) hS4
     have hob:∀b,O b->S4.w.heap[b]? = S'.w.heap[b]? := λb hb=>by
      have hne:b≠S.w.heap.size+1:=by have:=(hl.own b hb).2.2.1;omega
      rw[ho4 b hb,hw3,World.putObj_heap_other hne,ho2 b hb]
     have hput:∀(o:Obj) b,O b->(S4.w.putObj (S.w.heap.size+1) o).heap[b]? = S'.w.heap[b]? := λo b hb=>by
      have hne:b≠S.w.heap.size+1:=by have:=(hl.own b hb).2.2.1;omega
      rw[World.putObj_heap_other hne,hob b hb]
     have hend:=λj=>run_endRound (P:=P) j hl4.loop
     have hgrow:∀o:Obj,S'.w.heap.size<=(S4.w.putObj (S.w.heap.size+1) o).heap.size:=λo=>by
      have g1:=e2.size;have g2:=e4.size;rw[hw3,World.putObj_size] at g2;rw[World.putObj_size];omega
     have hr1:({ rec .busy none with state:=.ready,pending:=none }:Loop)=rec .ready none:=by rw[hrec]
     have hr2:∀c,({ rec .busy none with state:=.done,pending:=some c }:Loop)=rec .done (some c):=λc=>by rw[hrec]
     rcases hx4 with⟨rfl,hinv⟩|⟨hxn,hqx⟩
     ·obtain⟨S5,hw5,hl5,_⟩:=hl4.turn hSim .ready none
      have:=hend none;simp only[Option.isNone_none,Br,hr1] at this;exact⟨_,_,this,hgrow _,hput _,.inl ⟨rfl,S5,H4,hw5,hl5,hinv⟩⟩
     ·obtain⟨S5,hw5,hl5,_⟩:=hl4.turn hSim .done (some (codeOf x4))
      have:=hend (some (codeOf x4));simp only[Option.isNone_some,A8,Bq,hr2] at this;cases x4 with
      |normal=>exact absurd rfl hxn
      |exit id=>exact⟨_,_,this,hgrow _,hput _,.inr ⟨rfl,.exit id,S5,H4,hw5,hl5,hxn,hqx⟩⟩
      |ret=>exact⟨_,_,this,hgrow _,hput _,.inr ⟨rfl,.ret,S5,H4,hw5,hl5,hxn,hqx⟩⟩)
   rw[hwit] at hcall
   have hmk:∀(S':MS)(H':A4),Evo S S'->SRel S' H'->S'.keep S.w.heap.size/\¬S'.im S.w.heap.size->S'.w.heap[S.w.heap.size]? = some (.deferred (some []))->FRel S' n env { a with defers:=[mark S.w.heap.size]++a.defers }:=λS' H' ev _ hk hd=>by
    have hF':=hF.mono ev;refine⟨hF'.size,?_,hF'.val⟩;obtain⟨q0,Ds,q1,q2,q3⟩:=hF'.defers;obtain⟨_,Ds',p1,_,p3⟩:=hF.defers
    have hDs:Ds'=Ds:=by
     rw[q1] at p1
     have hinj:∀{l l':List Nat},l.map mark=l'.map mark->l=l':=by
      intro l
      induction l with
      |nil=>intro l' h;cases l' with
       |nil=>rfl
       |cons=>simp at h
      |cons x l ih=>intro l' h;cases l' with
       |nil=>simp at h
       |cons y l' =>
        simp only[AD,EW,mark,Deferred.mk.injEq,GV,Target.collected.injEq] at h;rw[h.1,ih h.2]
     exact (hinj p1).symm
    subst hDs;refine⟨q0,S.w.heap.size::Ds',by rw[q1];rfl,Cc.2 ⟨λhm=>by have:=hSim _ (.inr (p3 _ hm).2.1);omega,q2⟩,λD hD=>?_⟩;rcases Af.1 hD with rfl|hD
    ·exact⟨by rw[ev.base];exact hF.defers.1,hk.1,hk.2,hd⟩
    ·exact q3 D hD
   refine CallsIn.mono (callsIn_wide.2 (callsIn_wide.1 hcall)) λe w3 hh=>?_;obtain⟨⟨v,rfl⟩,hh⟩:=hh;rcases hh with⟨O,S',H',rfl,hl,hinv⟩|⟨k,O,x,S',H',rfl,hl,hxn,hqx⟩
   ·obtain⟨S5,hw5,hl5,_⟩:=hl.turn hSim .exhausted none
    have:=run_endLoop (P:=P) hl.loop (by rw[hrec];intro hh;cases hh);have hr1:({ rec .ready none with state:=.exhausted }:Loop)=rec .exhausted none:=by rw[hrec]
    rw[hr1] at this;have hpn':(rec .ready none).pending=none:=by rw[hrec]
    rw[hpn'] at this;exact⟨_,_,this,S5,env,H',.normal,hw5,hl5.evo.down hb,hl5.rel,hmk S5 H' hl5.evo hl5.rel hl5.k1 hl5.defd,rfl,done H' hinv⟩
   ·obtain⟨S5,hw5,hl5,_⟩:=hl.turn hSim .exhausted (some (codeOf x))
    have:=run_endLoop (P:=P) hl.loop (by rw[hrec];intro hh;cases hh);have hr1:({ rec .done (some (codeOf x)) with state:=.exhausted }:Loop)=rec .exhausted (some (codeOf x)):=by rw[hrec]
    rw[hr1] at this;have hpn':(rec .done (some (codeOf x))).pending=some (codeOf x):=by rw[hrec]
    rw[hpn'] at this;refine⟨_,_,this,?_⟩
    have hAft:After S n b Q (Ex.up x) { a with defers:=[mark S.w.heap.size]++a.defers } (S'.w.putObj (S.w.heap.size+1) (.loop (rec .exhausted (some (codeOf x))))) :=
     ⟨S5,env,H',x,hw5,hl5.evo.down hb,hl5.rel,hmk S5 H' hl5.evo hl5.rel hl5.k1 hl5.defd,rfl,out x H' hqx⟩
    cases x with
    |normal=>exact absurd rfl hxn
    |exit id=>exact wpIn_exit hAft
    |ret=>exact wpIn_ret hAft
  ·cases hc
 case region=>exact absurd hc Eb
 case seq=>split at hc<;>cases hc
 case cond=>split at hc<;>cases hc
 case block=>obtain⟨_,_,h⟩:=Ag.1 hc;cases h
 case loop=>obtain⟨_,_,h⟩:=Ag.1 hc;cases h
 case scope d=>exact absurd rfl (hs d)
end
section
variable {P:Program}{n b:Nat}{env:Env}{H:A4}{Q:Ex->Env->A4->Prop}
theorem ZT{a:Act}:∀(ws:List Nat){S:MS}{l:List Grp},(∀w∈ws,0<w)->SRel S (hl l)->FRel S n env a->∃S',S'.w=S.w/\Evo S S'/\SRel S' (hl (l++ws.map Jo))/\FRel S' n env a
 |[],S,l,_,hS,hF=>⟨S,rfl,.refl S,by simpa using hS,hF⟩
 |w::ws,S,l,hw,hS,hF=>by
  have h1:=hS.virt w (hw w oc);rw[Gl] at h1;obtain⟨S',e1,e2,e3,e4⟩:=ZT ws (S:=S.virt w) (l:=l++[Jo w]) (λw' h'=>hw w' (by simp[h'])) h1 ⟨hF.size,hF.defers.mono (Evo.virt _),λj hj=>VRel.mono (Evo.virt _) _ (hF.val j hj)⟩;exact⟨S',e1,(Evo.virt _).trans e2,by simpa using e3,e4⟩
theorem zg6{srcs:List Src}{live:List (Nat × AV)}{heap:List Grp}{S:MS}{a:Act}(hh:Head b env H srcs live heap)(hbS:b<=S.n)(hS:SRel S H)(hF:FRel S n env a):
 ∃S',S'.w=S.w/\BEvo b S S'/\SRel S' (hl heap)/\FRel S' n (BO live) a:=by
 obtain⟨hb,hh⟩:=hh;have hgn:H.groups.length=H.n:=by simp[A4.groups]
 have hS1:SRel S (hl H.groups):=hS.congr hgn (λg hg=>by
  show H.groups.getD g default=_
  simp[A4.groups,List.getD,hg])
 obtain⟨S2,e1,e2,e3,e4⟩:=ZT (GM H.n srcs).2 (KW hh.1) hS1 hF;replace hh:=hh.2;generalize hl1:H.groups++(GM H.n srcs).2.map Jo=l1 at *;obtain⟨h1,h2,h3,h4⟩:=hh;have hb1:b<=l1.length:=by rw[<-hl1,Ai];omega
 have hbS2:b<=S2.n:=Bl hbS e2.n;obtain⟨k1,k2⟩:=PF (ks:=(GM H.n srcs).1) hb1;have hev:=KV (ks:=(GM H.n srcs).1) e3 hbS2;have hrel:=(Nr (ks:=(GM H.n srcs).1) 6 e3 hb1 (λk hk=>OX h1 k hk) (JL h2)).congr k1 k2;have hF3:FRel (S2.repack b (hl l1) (GM H.n srcs).1) n (λi=>rnV b (hl l1) (GM H.n srcs).1 6 (env i)) a:=⟨e4.size,e4.defers.of hev.base hev.size hev.keep hev.fresh (λb hb=>hev.kept b (.inr hb)),λj hj=>z49 e3 6 (e4.val j hj)⟩;exact⟨S2.repack b (hl l1) (GM H.n srcs).1,e1,(e2.down hbS).trans hev,Jn hrel h4,⟨hF3.size,hF3.defers,PG hrel hF3 h3⟩⟩
theorem zt9{c:AC}{Q':Ex->Env->A4->Prop}(h:T P n b c env H Q')(hq:∀x env' H',Q' x env' H'->∃srcs live heap,Head b env' H' srcs live heap/\Q x (BO live) (hl heap)):T P n b c env H Q :=
 λrd mm hrd code hc S a hb hS hF=>wpIn_mono (h rd mm hrd code hc S a hb hS hF) λe a w hh=>by
  obtain⟨S',env',H',x,e1,e2,e3,e4,e5,e6⟩:=hh;obtain⟨srcs,live,heap,k1,k2⟩:=hq _ _ _ e6;obtain⟨S2,q1,q2,q3,q4⟩:=zg6 k1 e2.n e3 e4;exact⟨S2,_,_,x,q1.trans e1,e2.trans q2,q3,q4,e5,k2⟩
theorem Sf{σ:Type}(Fact:Nat->σ->Prop)(live:List (Nat × AV))(heap:σ->List Grp)(srcs:List Src)(N:Nat){f:AArg}{ps:List Nat}{asg body:AC}{gf:Nat}{caps:List AV}{rows:List (List AV)}(s0:σ)
 (hit:Qn P gf caps rows) (he:Head b env H srcs live (heap s0)) (hN:∀s,(heap s).length=N) (hf:f.eval (BO live)=.fn gf caps) (hpure:AJ caps=true) (hfr1:asg.free=true) (hfr2:body.free=true)
 (hfl:∀r∈rows,∀x∈r,Flat x) (hps:∀r∈rows,r.length=ps.length) (hpn:∀p∈ps,p<n) (h0:Fact 0 s0)
 (round:∀k row s,rows[k]? = some row->Fact k s->T P n N asg (setL (BO live) ps row) (hl (heap s)) (λx env1 H2=>x=.normal/\T P n N body env1 H2 (Ex.then (λenv3 H3=>∃s',Head N env3 H3 [] [] (heap s')/\Fact (k+1) s') (λ_ _ _=>False))))
 (done:∀s,Fact rows.length s->Q .normal (BO live) (hl (heap s))):T P n b (.rng f ps asg body) env H Q:=by
 refine PH he ?_;refine zt8 hf hpure hfr1 hfr2 hit hfl hps hpn (λk H'=>∃s,H'=hl (heap s)/\Fact k s) (λ_ _=>False) ⟨s0,rfl,h0⟩ (λk H' hh=>?_) (λk row H1 hrow hh=>?_) (λH1 hh=>?_) (λ_ _ hh=>hh.elim)
 ·obtain⟨s,rfl,_⟩:=hh
  show (heap s0).length<=(heap s).length;exact Ef (by rw[hN,hN])
 ·obtain⟨s,rfl,hs⟩:=hh
  have hn0:(hl (heap s0)).n=N:=hN s0;rw[hn0];refine T.mono (round k row s hrow hs) λx env1 H2 hh=>⟨hh.1,?_⟩;refine zt9 hh.2 λx env3 H3 hq=>?_;cases x with
  |normal =>
   obtain⟨s',q1,q2⟩:=hq;exact⟨[],[],heap s',q1,.inl ⟨rfl,s',rfl,q2⟩⟩
  |exit id=>exact hq.elim
  |ret=>exact hq.elim
 ·obtain⟨s,rfl,hs⟩:=hh
  exact done s hs
theorem Kv{f:AArg}{ps:List Nat}{asg body:AC}(h:T P n b (.rng f ps asg body) env H Q):@Lr ⟨T P n b (.rng f ps asg body) env H Q⟩:=h
end
mutual
def ren(σ:Nat->Nat):AV->AV
 |.any=>.any
 |.bool b=>.bool b
 |.int k n=>.int k n
 |.str s=>.str s
 |.nilS=>.nilS
 |.nul=>.nul
 |.emp=>.emp
 |.lst w xs=>.lst w xs
 |.full w xs=>.full w xs
 |.map g v=>.map (σ g) v
 |.ref g v o n=>.ref (σ g) v o n
 |.cptr x=>.cptr x
 |.ptr g v i o=>.ptr (σ g) v i o
 |.nilP=>.nilP
 |.agg cs=>.agg (renL σ cs)
 |.tup cs=>.tup (renL σ cs)
 |.fn f cs=>.fn f (renL σ cs)
 |.nilF=>.nilF
 |.yld l=>.yld l
def renL(σ:Nat->Nat):List AV->List AV
 |[]=>[]
 |x::xs=>ren σ x::renL σ xs
end
mutual
def ltV(m:Nat):AV->Prop
 |.map g _|.ref g _ _ _|.ptr g _ _ _=>g<m
 |.agg cs|.tup cs|.fn _ cs=>ltL m cs
 |.any|.bool _|.int ..|.str _|.nilS|.nul|.emp|.lst ..|.full ..|.cptr _|.nilP|.nilF|.yld _=>True
def ltL(m:Nat):List AV->Prop
 |[]=>True
 |x::xs=>ltV m x/\ltL m xs
end
def renG(σ:Nat->Nat)(G:Grp):Grp:=⟨G.w,G.ver,G.exact,renL σ G.xs⟩
mutual
theorem zk0{A B:MS}{σ:Nat->Nat}(hw:B.w=A.w)(hi:∀b,A.im b->B.im b)(hg:∀g,g<A.n->σ g<B.n/\B.cur (σ g)=A.cur g/\B.place (σ g)=A.place g/\B.cap (σ g)=A.cap g/\B.wid (σ g)=A.wid g):∀(x:AV){v:Value},VRel A x v->VRel B (ren σ x) v
 |.any,_,_=>trivial
 |.bool _,_,h=>h
 |.int _ _,_,h=>h
 |.str _,_,h=>h
 |.nilS,_,h=>h
 |.nul,_,h=>h
 |.emp,_,h=>h
 |.nilP,_,h=>h
 |.nilF,_,h=>h
 |.yld _,_,h=>h
 |.lst wd xs,v,h=>by
  obtain⟨hp,h0,a,cap,vs,hv,hc,hl,hr⟩:=h;refine⟨hp,h0,a,cap,vs,hv,hc,AB.of_pure hw hi hp hl,λhne=>?_⟩;obtain⟨b,o,ha,hb,hrow⟩:=hr hne;exact⟨b,o,ha,hi b hb,by rw[hw];exact hrow⟩
 |.full wd xs,v,h=>by
  obtain⟨hp,h0,a,vs,hv,hc,hl,hr⟩:=h;refine⟨hp,h0,a,vs,hv,hc,AB.of_pure hw hi hp hl,λhne=>?_⟩;obtain⟨b,o,ha,hb,hrow⟩:=hr hne;exact⟨b,o,ha,hi b hb,by rw[hw];exact hrow⟩
 |.cptr x,v,h=>by
  obtain⟨hp,b,o,u,hv,hb,hx,hl⟩:=h;exact⟨hp,b,o,u,hv,hi b hb,VRel.of_pure hw hi hp hx,by rw[hw];exact hl⟩
 |.map g vn,v,h=>by
  obtain⟨hs,hgn,hc,hv⟩:=h;obtain⟨k1,k2,k3,k4,k5⟩:=hg g hgn;exact⟨hs,k1,by rw[k2];exact hc,λh'=>by rw[k3];exact hv (by rw[<-k2];exact h')⟩
 |.ref g vn off len,v,h=>by
  obtain⟨hs,hgn,hc,hv⟩:=h;obtain⟨k1,k2,k3,k4,k5⟩:=hg g hgn;exact⟨hs,k1,by rw[k2];exact hc,λh'=>by rw[k3,k4,k5];exact hv (by rw[<-k2];exact h')⟩
 |.ptr g vn i o,v,h=>by
  obtain⟨hs,hgn,hc,hv⟩:=h;obtain⟨k1,k2,k3,k4,k5⟩:=hg g hgn;exact⟨hs,k1,by rw[k2];exact hc,λh'=>by rw[k3,k5];exact hv (by rw[<-k2];exact h')⟩
 |.agg cs,v,h=>by obtain⟨vs,hv,h⟩:=h;exact⟨vs,hv,N2 hw hi hg cs h⟩
 |.tup cs,v,h=>by obtain⟨vs,hv,h⟩:=h;exact⟨vs,hv,N2 hw hi hg cs h⟩
 |.fn f cs,v,h=>by obtain⟨vs,hv,h⟩:=h;exact⟨vs,hv,N2 hw hi hg cs h⟩
theorem N2{A B:MS}{σ:Nat->Nat}(hw:B.w=A.w)(hi:∀b,A.im b->B.im b)(hg:∀g,g<A.n->σ g<B.n/\B.cur (σ g)=A.cur g/\B.place (σ g)=A.place g/\B.cap (σ g)=A.cap g/\B.wid (σ g)=A.wid g):∀(xs:List AV){vs:List Value},AB A xs vs->AB B (renL σ xs) vs
 |[],_,h=>h
 |x::xs,_,h=>by
  obtain⟨v,r,hv,h1,h2⟩:=h;exact⟨v,r,hv,zk0 hw hi hg x h1,N2 hw hi hg xs h2⟩
end
mutual
theorem OY{A B:MS}{σ:Nat->Nat}{m:Nat}(hw:A.w=B.w)(hi:∀b,B.im b->A.im b)(hg:∀g,g<m->g<A.n/\B.cur (σ g)=A.cur g/\B.place (σ g)=A.place g/\B.cap (σ g)=A.cap g/\B.wid (σ g)=A.wid g):∀(x:AV){v:Value},ltV m x->VRel B (ren σ x) v->VRel A x v
 |.any,_,_,_=>trivial
 |.bool _,_,_,h=>h
 |.int _ _,_,_,h=>h
 |.str _,_,_,h=>h
 |.nilS,_,_,h=>h
 |.nul,_,_,h=>h
 |.emp,_,_,h=>h
 |.nilP,_,_,h=>h
 |.nilF,_,_,h=>h
 |.yld _,_,_,h=>h
 |.lst wd xs,v,_,h=>by
  obtain⟨hp,h0,a,cap,vs,hv,hc,hl,hr⟩:=h;refine⟨hp,h0,a,cap,vs,hv,hc,AB.of_pure hw hi hp hl,λhne=>?_⟩;obtain⟨b,o,ha,hb,hrow⟩:=hr hne;exact⟨b,o,ha,hi b hb,by rw[hw];exact hrow⟩
 |.full wd xs,v,_,h=>by
  obtain⟨hp,h0,a,vs,hv,hc,hl,hr⟩:=h;refine⟨hp,h0,a,vs,hv,hc,AB.of_pure hw hi hp hl,λhne=>?_⟩;obtain⟨b,o,ha,hb,hrow⟩:=hr hne;exact⟨b,o,ha,hi b hb,by rw[hw];exact hrow⟩
 |.cptr x,v,_,h=>by
  obtain⟨hp,b,o,u,hv,hb,hx,hl⟩:=h;exact⟨hp,b,o,u,hv,hi b hb,VRel.of_pure hw hi hp hx,by rw[hw];exact hl⟩
 |.map g vn,v,hm,h=>by
  obtain⟨hs,hgn,hc,hv⟩:=h;obtain⟨k1,k2,k3,k4,k5⟩:=hg g hm;exact⟨hs,k1,by rw[<-k2];exact hc,λh'=>by rw[<-k3];exact hv (by rw[k2];exact h')⟩
 |.ref g vn off len,v,hm,h=>by
  obtain⟨hs,hgn,hc,hv⟩:=h;obtain⟨k1,k2,k3,k4,k5⟩:=hg g hm;exact⟨hs,k1,by rw[<-k2];exact hc,λh'=>by rw[<-k3,<-k4,<-k5];exact hv (by rw[k2];exact h')⟩
 |.ptr g vn i o,v,hm,h=>by
  obtain⟨hs,hgn,hc,hv⟩:=h;obtain⟨k1,k2,k3,k4,k5⟩:=hg g hm;exact⟨hs,k1,by rw[<-k2];exact hc,λh'=>by rw[<-k3,<-k5];exact hv (by rw[k2];exact h')⟩
 |.agg cs,v,hm,h=>by obtain⟨vs,hv,h⟩:=h;exact⟨vs,hv,Hj hw hi hg cs hm h⟩
 |.tup cs,v,hm,h=>by obtain⟨vs,hv,h⟩:=h;exact⟨vs,hv,Hj hw hi hg cs hm h⟩
 |.fn f cs,v,hm,h=>by obtain⟨vs,hv,h⟩:=h;exact⟨vs,hv,Hj hw hi hg cs hm h⟩
theorem Hj{A B:MS}{σ:Nat->Nat}{m:Nat}(hw:A.w=B.w)(hi:∀b,B.im b->A.im b)(hg:∀g,g<m->g<A.n/\B.cur (σ g)=A.cur g/\B.place (σ g)=A.place g/\B.cap (σ g)=A.cap g/\B.wid (σ g)=A.wid g):∀(xs:List AV){vs:List Value},ltL m xs->AB B (renL σ xs) vs->AB A xs vs
 |[],_,_,h=>h
 |x::xs,_,hm,h=>by
  obtain⟨v,r,hv,h1,h2⟩:=h;exact⟨v,r,hv,OY hw hi hg x hm.1 h1,Hj hw hi hg xs hm.2 h2⟩
end
theorem JQ{σ:Nat->Nat}:∀xs:List AV,(renL σ xs).length=xs.length
 |[]=>rfl
 |x::xs=>by simp[renL,JQ xs]
def sg(ks:List Nat)(N i:Nat):Nat:=if i<ks.length then ks.getD i 0 else N+(i-ks.length)
def iv(ks:List Nat)(N g:Nat):Nat:=if g<N then ks.idxOf g else ks.length+(g-N)
def setG:List Nat->List Grp->List Grp->List Grp
 |[],r,l=>l++r
 |_::_,[],l=>l
 |k::ks,G::r,l=>setG ks r (l.set k G)
theorem ZU:∀{ks:List Nat}{r l:List Grp},ks.length<=r.length->(setG ks r l).length=l.length+(r.length-ks.length)
 |[],r,l,_=>by simp[setG]
 |k::ks,[],l,h=>by simp at h
 |k::ks,G::r,l,h=>by
  rw[setG,ZU (by simpa using h)];simp
theorem N3:∀{ks:List Nat}{r l:List Grp}{g:Nat},g<l.length->g∉ks->(setG ks r l).getD g default=l.getD g default
 |[],r,l,g,hg,_=>by simp[setG,List.getD,A9 hg]
 |k::ks,[],l,g,_,_=>rfl
 |k::ks,G::r,l,g,hg,hk=>by
  simp only[Af,Ch] at hk;rw[setG,N3 (by simpa using hg) hk.2];simp[List.getD,CW (λh=>hk.1 h.symm)]
theorem z9f:∀{ks:List Nat}{r l:List Grp}{i:Nat},ks.Nodup->(∀k∈ks,k<l.length)->i<r.length->(setG ks r l).getD (sg ks l.length i) default=r.getD i default
 |[],r,l,i,_,_,hi=>by
  simp only[setG,sg,List.length_nil,AZ,Bq,Nat.sub_zero,List.getD];rw[AG om,Nat.add_sub_cancel_left]
 |k::ks,[],l,i,_,_,hi=>by simp at hi
 |k::ks,G::r,l,0,hn,hk,_=>by
  rw[Cc] at hn;have h1:k<l.length:=hk k oc;have e:sg (k::ks) l.length 0=k:=by simp[sg]
  rw[e,setG,N3 (by simpa using h1) hn.1];simp[List.getD,Fj h1]
 |k::ks,G::r,l,i+1,hn,hk,hi=>by
  rw[Cc] at hn;have e:sg (k::ks) l.length (i+1)=sg ks (l.set k G).length i:=by simp[sg]
  rw[e,setG,z9f hn.2 (λk' h'=>by simpa using hk k' (by simp[h'])) (by simpa using hi)];simp
theorem sg_lt{ks:List Nat}{N i n:Nat}(hk:∀k∈ks,k<N)(hi:i<n)(hm:ks.length<=n):sg ks N i<N+(n-ks.length):=by
 unfold sg;split
 ·rename_i h
  have:ks.getD i 0∈ks:=by rw[Ak,Ar h];exact BM h
  have:=hk _ this;omega
 ·omega
theorem zo7{ks:List Nat}{N i:Nat}(hn:ks.Nodup)(hk:∀k∈ks,k<N):iv ks N (sg ks N i)=i:=by
 unfold sg;split
 ·rename_i h
  have hmem:ks.getD i 0∈ks:=by rw[Ak,Ar h];exact BM h
  rw[iv,Ae (hk _ hmem),Ak,Ar h];exact hn.idxOf_getElem i h
 ·rw[iv,Ad om];omega
theorem z9g{ks:List Nat}{N g:Nat}(hg:g∈ks):∃i,i<ks.length/\sg ks N i=g:=by
 obtain⟨i,hi,he⟩:=Bw hg;exact⟨i,hi,by rw[sg,Ae hi,Ak,Ar hi];exact he⟩
theorem zg7{ks:List Nat}{N g n:Nat}(hm:ks.length<=n)(hg:g<N+(n-ks.length))(h:¬(g<N/\g∉ks)):∃i,i<n/\sg ks N i=g:=by
 by_cases hgN:g<N
 ·have hmem:g∈ks:=by
   by_cases hh:g∈ks
   ·exact hh
   ·exact absurd ⟨hgN,hh⟩ h
  obtain⟨i,hi,he⟩:=z9g (N:=N) hmem;exact⟨i,om,he⟩
 ·exact⟨ks.length+(g-N),om,by rw[sg,Ad om];omega⟩
theorem O4{σ:Nat->Nat}{l:List Grp}{i:Nat}(h:i<l.length):(l.map (renG σ)).getD i default=renG σ (l.getD i default):=by
 simp[List.getD,Ar h]
theorem VN{P:Program}{f:Nat}{xs0 xs:List AV}{l0 l:List Grp}{K0 K:AV->A4->Prop}(ks:List Nat)(h:B9 P f xs0 (hl l0) K0)(hxs:renL (sg ks l.length) xs0=xs)
 (hl0:l0.map (renG (sg ks l.length))=ks.map (λk=>l.getD k default)) (hn:ks.Nodup) (hk:∀k∈ks,k<l.length) (hlt:ltL ks.length xs0) (hltG:∀G∈l0,ltL ks.length G.xs)
 (hK:∀y H',K0 y H'->∃l',H'=hl l'/\ks.length<=l'.length/\K (ren (sg ks l.length) y) (hl (setG ks (l'.map (renG (sg ks l.length))) l))):B9 P f xs (hl l) K:=by
 refine⟨h.1,λS cargs hS hx=>?_⟩;have hm:l0.length=ks.length:=by simpa using Bt List.length hl0
 have hSn:S.n=l.length:=hS.n;have hinj:∀i j,sg ks l.length i=sg ks l.length j->i=j:=λi j e=>by rw[<-zo7 (i:=i) hn hk,e,zo7 hn hk]
 have hin:∀i,i<ks.length->sg ks l.length i<l.length/\sg ks l.length i∈ks:=λi hi=>by
  have e:sg ks l.length i=ks[i]:=by rw[sg,Ae hi,Ak,Ar hi];rfl
  rw[e];exact⟨hk _ (BM hi),BM hi⟩
 have hat:∀i,i<ks.length->l.getD (sg ks l.length i) default=renG (sg ks l.length) (l0.getD i default):=λi hi=>by
  rw[<-O4 om,hl0,sg,Ae hi];simp[List.getD,Ar hi]
 have hG:∀i,i<ks.length->GRel S (renG (sg ks l.length) (l0.getD i default)) (sg ks l.length i):=λi hi=>by
  have:=hS.grp (sg ks l.length i) (hin i hi).1
  rwa [Da,hat i hi] at this
 obtain⟨O,hO⟩:∃O:Nat->Prop,∀b,O b↔∃g,g<l.length/\g∉ks/\(l.getD g default).has (S.cap g)/\S.place g=b:=⟨_,λ_=>Iff.rfl⟩
 have hOfree:∀b,O b->¬(S.im b\/S.keep b):=λb hb=>by
  obtain⟨g,h1,h2,h3,rfl⟩:=(hO b).1 hb;exact (hS.grp g h1).has_ni (by rw[Da];exact h3)
 obtain⟨S0,hS0d⟩:∃S0:MS,S0={ S with keep:=λb=>S.keep b\/O b,n:=ks.length,place:=λi=>S.place (sg ks l.length i),cur:=λi=>S.cur (sg ks l.length i),cap:=λi=>S.cap (sg ks l.length i),wid:=λi=>S.wid (sg ks l.length i) }:=⟨_,rfl⟩
 have hdn:∀g,g<ks.length->g<S0.n/\S.cur (sg ks l.length g)=S0.cur g/\S.place (sg ks l.length g)=S0.place g/\S.cap (sg ks l.length g)=S0.cap g/\S.wid (sg ks l.length g)=S0.wid g:=λg hg=>by
  subst hS0d;exact⟨hg,rfl,rfl,rfl,rfl⟩
 have hw0:S0.w=S.w:=by subst hS0d;rfl
 have hi0:∀b,S.im b->S0.im b:=λb hb=>by subst hS0d;exact hb
 have hrel0:SRel S0 (hl l0):=by
  refine⟨by subst hS0d;exact hm.symm,λi hi=>?_,λi j hi hj hne h1 h2=>?_,λb hb=>?_⟩
  ·have hi':i<ks.length:=by rw[<-hm];exact hi
   have hg:=hG i hi';have hmem:l0.getD i default∈l0:=by rw[Ak,Ar (show i<l0.length from hi)];exact BM _
   have hlg:=hltG _ hmem;rw[Da]
   have hnO:(l0.getD i default).has (S.cap (sg ks l.length i))->¬O (S.place (sg ks l.length i)):=λhh ho=>by
    obtain⟨g,a1,a2,a3,a4⟩:=(hO _).1 ho;exact hS.apart g (sg ks l.length i) a1 (hin i hi').1 (λe=>a2 (e ▸ (hin i hi').2)) (by rw[Da];exact a3) (by rw[Da,hat i hi'];exact hh) a4
   refine⟨by subst hS0d;exact hg.ver,by subst hS0d;exact hg.wid,λhw hc=>?_,λhw=>by have:=hg.len hw;subst hS0d;simpa [renG,JQ] using this,λhw he=>by have:=hg.full hw he;subst hS0d;simpa [renG,JQ] using this,λhw he=>?_⟩
   ·have hc':0<S.cap (sg ks l.length i):=by subst hS0d;exact hc
    obtain⟨⟨cells,T,vs,b1,b2,b3,b4⟩,ni⟩:=hg.live hw hc';refine⟨⟨cells,T,vs,by subst hS0d;exact b1,by subst hS0d;exact b2,Hj hw0 hi0 hdn _ hlg b3,b4⟩,λhh=>?_⟩;have hno:=hnO (.inl ⟨hw,hc'⟩);subst hS0d;exact hh.elim (λhh=>ni (.inl hh)) (λhh=>hh.elim (λhh=>ni (.inr hh)) hno)
   ·obtain⟨⟨o,b1,a0,b2⟩,ni⟩:=hg.mlive hw he
    refine⟨⟨o,by subst hS0d;exact b1,a0,Hj hw0 hi0 hdn _ hlg b2⟩,λhh=>?_⟩;have hno:=hnO (.inr ⟨hw,he⟩);subst hS0d;exact hh.elim (λhh=>ni (.inl hh)) (λhh=>hh.elim (λhh=>ni (.inr hh)) hno)
  ·have hi':i<ks.length:=by rw[<-hm];exact hi
   have hj':j<ks.length:=by rw[<-hm];exact hj
   rw[Da] at h1 h2;have:=hS.apart (sg ks l.length i) (sg ks l.length j) (hin i hi').1 (hin j hj').1 (λe=>hne (hinj _ _ e)) (by rw[Da,hat i hi'];subst hS0d;exact h1) (by rw[Da,hat j hj'];subst hS0d;exact h2);subst hS0d;exact this
  ·subst hS0d
   rcases hb with hb|hb|hb
   ·exact hS.im b (.inl hb)
   ·exact hS.im b (.inr hb)
   ·obtain⟨g,a1,a2,a3,rfl⟩:=(hO _).1 hb
    exact (hS.grp g a1).has_lt (by rw[Da];exact a3)
 have hx0:AB S0 xs0 cargs:=Hj hw0 hi0 hdn xs0 hlt (by rw[hxs];exact hx);have hsz:S0.w.heap=S.w.heap:=by rw[hw0]
 have hcall:=h.2 S0 cargs hrel0 hx0;rw[hw0] at hcall;refine hcall.mono λe w' hh=>?_;obtain⟨v,S1,y,H',he,hw1,ev,hS1,hv,hk0⟩:=hh;obtain⟨l',rfl,hml,hK'⟩:=hK y H' hk0;have hn1:S1.n=l'.length:=hS1.n
 have hnot:∀i,¬(sg ks l.length i<l.length/\sg ks l.length i∉ks):=λi hh=>by
  by_cases hi:i<ks.length
  ·exact hh.2 (hin i hi).2
  ·have:sg ks l.length i=l.length+(i-ks.length):=by rw[sg,Ad hi]
   omega
 obtain⟨S',hS'd⟩:∃S':MS,S'={ w:=S1.w,im:=S1.im,keep:=λb=>S1.keep b/\¬O b,n:=l.length+(l'.length-ks.length),place:=λg=>if g<l.length/\g∉ks then S.place g else S1.place (iv ks l.length g),cur:=λg=>if g<l.length/\g∉ks then S.cur g else S1.cur (iv ks l.length g),cap:=λg=>if g<l.length/\g∉ks then S.cap g else S1.cap (iv ks l.length g),wid:=λg=>if g<l.length/\g∉ks then S.wid g else S1.wid (iv ks l.length g),base:=S1.base }:=⟨_,rfl⟩
 have hoth:∀g,g<l.length->g∉ks->S'.place g=S.place g/\S'.cur g=S.cur g/\S'.cap g=S.cap g/\S'.wid g=S.wid g:=λg h1 h2=>by
  subst hS'd;exact⟨Ae ⟨h1,h2⟩,Ae ⟨h1,h2⟩,Ae ⟨h1,h2⟩,Ae ⟨h1,h2⟩⟩
 have hour:∀i,S'.place (sg ks l.length i)=S1.place i/\S'.cur (sg ks l.length i)=S1.cur i/\S'.cap (sg ks l.length i)=S1.cap i/\S'.wid (sg ks l.length i)=S1.wid i:=λi=>by
  subst hS'd;refine⟨?_,?_,?_,?_⟩<;>simp only[Ad (hnot i),zo7 hn hk]
 have hn':S'.n=l.length+(l'.length-ks.length):=by subst hS'd;rfl
 have hwS':S'.w=S1.w:=by subst hS'd;rfl
 have hup:∀g,g<S1.n->sg ks l.length g<S'.n/\S'.cur (sg ks l.length g)=S1.cur g/\S'.place (sg ks l.length g)=S1.place g/\S'.cap (sg ks l.length g)=S1.cap g/\S'.wid (sg ks l.length g)=S1.wid g:=λg hg=>by
  obtain⟨a1,a2,a3,a4⟩:=hour g;exact⟨by rw[hn'];exact sg_lt hk om hml,a2,a1,a3,a4⟩
 have hiS':∀b,S1.im b->S'.im b:=λb hb=>by subst hS'd;exact hb
 have hkS0:∀b,O b->S0.keep b:=λb hb=>by subst hS0d;exact .inr hb
 have hn0:S0.n=ks.length:=by subst hS0d;rfl
 have hevo:Evo S S':=by
  refine⟨?_,?_,?_,?_,?_,λb hb=>?_,λb hb=>?_,λb hb=>?_,λb hb=>?_,?_,λg hg=>?_,λg hg he=>?_⟩
  ·have:=ev.base;subst hS'd;subst hS0d;exact this
  ·have:=ev.os;rw[hw0] at this;rw[hwS'];exact this
  ·have:=ev.tape;rw[hw0] at this;rw[hwS'];exact this
  ·have:=ev.output;rw[hw0] at this;rw[hwS'];exact this
  ·have:=ev.size;rw[hw0] at this;rw[hwS'];exact this
  ·have:=ev.kept b (by subst hS0d;exact hb.imp id .inl);rw[hw0] at this;rw[hwS'];exact this
  ·exact hiS' b (ev.im b (hi0 b hb))
  ·have h1:=ev.keep b (by subst hS0d;exact .inl hb)
   subst hS'd;exact⟨h1,λho=>hOfree b ho (.inr hb)⟩
  ·have h1:=ev.fresh b (by subst hS'd;exact hb)
   subst hS0d;exact h1.imp id λhh h2=>hh (.inl h2)
  ·rw[hn',hSn];omega
  ·rw[hSn] at hg
   by_cases hmem:g∈ks
   ·obtain⟨i,hi,rfl⟩:=z9g (N:=l.length) hmem
    rw[(hour i).2.1];have:=ev.cur i (by rw[hn0];exact hi);subst hS0d;exact this
   ·rw[(hoth g hg hmem).2.1];exact Ab _
  ·rw[hSn] at hg
   by_cases hmem:g∈ks
   ·obtain⟨i,hi,rfl⟩:=z9g (N:=l.length) hmem
    obtain⟨a1,a2,a3,a4⟩:=hour i;rw[a1,a3,a4];rw[a2] at he;have:=ev.same i (by rw[hn0];exact hi) (by subst hS0d;exact he);subst hS0d;exact this
   ·obtain⟨a1,a2,a3,a4⟩:=hoth g hg hmem
    exact⟨a1,a3,a4⟩
 have hlen:(setG ks (l'.map (renG (sg ks l.length))) l).length=l.length+(l'.length-ks.length):=by rw[ZU (by simpa using hml)];simp
 have hatO:∀g,g<l.length->g∉ks->(setG ks (l'.map (renG (sg ks l.length))) l).getD g default=l.getD g default:=λg h1 h2=>N3 h1 h2
 have hatI:∀i,i<l'.length->(setG ks (l'.map (renG (sg ks l.length))) l).getD (sg ks l.length i) default=renG (sg ks l.length) (l'.getD i default):=λi hi=>by
  rw[z9f hn hk (by simpa using hi),O4 hi]
 have hrel':SRel S' (hl (setG ks (l'.map (renG (sg ks l.length))) l)):=by
  have hcov:∀g,g<(setG ks (l'.map (renG (sg ks l.length))) l).length->(g<l.length/\g∉ks)\/∃i,i<l'.length/\sg ks l.length i=g:=λg hg=>by
   by_cases hh:g<l.length/\g∉ks
   ·exact .inl hh
   ·exact .inr (zg7 hml (by rw[<-hlen];exact hg) hh)
  have hfree1:∀i,i<l'.length->(l'.getD i default).has (S1.cap i)->¬S1.keep (S1.place i):=λi hi hh hkk=>(hS1.grp i hi).has_ni (by rw[Da];exact hh) (.inr hkk);refine⟨by rw[hn'];exact hlen.symm,λg hg=>?_,λg g' hg hg' hne h1 h2=>?_,λb hb=>?_⟩
  ·rcases hcov g hg with⟨h1,h2⟩|⟨i,hi,rfl⟩
   ·have hr:=hS.grp g h1
    obtain⟨a1,a2,a3,a4⟩:=hoth g h1 h2;rw[Da] at hr ⊢;rw[hatO g h1 h2]
    have hblk:(l.getD g default).has (S.cap g)->S'.w.heap[S.place g]? = S.w.heap[S.place g]? := λhh=>by
     have:=ev.kept (S.place g) (.inr (hkS0 _ ((hO _).2 ⟨g,h1,h2,hh,rfl⟩)));rw[hw0] at this;rw[hwS'];exact this
    have hnik:(l.getD g default).has (S.cap g)->¬(S'.im (S.place g)\/S'.keep (S.place g)):=λhh hik=>by
     have ho:O (S.place g):=(hO _).2 ⟨g,h1,h2,hh,rfl⟩;rcases hik with hik|hik
     ·rcases ev.fresh (S.place g) (by subst hS'd;exact hik) with h3|h3
      ·exact hOfree _ ho (.inl (by subst hS0d;exact h3))
      ·exact h3 (hkS0 _ ho)
     ·subst hS'd;exact hik.2 ho
    refine⟨by rw[a2];exact hr.ver,by rw[a4];exact hr.wid,λhw hc=>?_,λhw=>by rw[a3];exact hr.len hw,λhw he=>by rw[a3];exact hr.full hw he,λhw he=>?_⟩
    ·rw[a3] at hc
     obtain⟨⟨cells,T,vs,b1,b2,b3,b4⟩,ni⟩:=hr.live hw hc;rw[a1,a3];exact⟨⟨cells,T,vs,by rw[hblk (.inl ⟨hw,hc⟩)];exact b1,b2,b3.mono hevo,b4⟩,hnik (.inl ⟨hw,hc⟩)⟩
    ·obtain⟨⟨o,b1,a0,b2⟩,ni⟩:=hr.mlive hw he
     rw[a1];exact⟨⟨o,by rw[hblk (.inr ⟨hw,he⟩)];exact b1,a0,b2.mono hevo⟩,hnik (.inr ⟨hw,he⟩)⟩
   ·have hr:=hS1.grp i hi
    obtain⟨a1,a2,a3,a4⟩:=hour i;rw[Da] at hr ⊢;rw[hatI i hi]
    have hnik:¬(S1.im (S1.place i)\/S1.keep (S1.place i))->¬(S'.im (S1.place i)\/S'.keep (S1.place i)):=λhh hik=>by
     subst hS'd;exact hh (hik.imp id λh3=>h3.1)
    refine⟨by rw[a2];exact hr.ver,by rw[a4];exact hr.wid,λhw hc=>?_,λhw=>by rw[a3];have:=hr.len hw;simpa [renG,JQ] using this,λhw he=>by rw[a3];have:=hr.full hw he;simpa [renG,JQ] using this,λhw he=>?_⟩
    ·rw[a3] at hc
     obtain⟨⟨cells,T,vs,b1,b2,b3,b4⟩,ni⟩:=hr.live hw hc;rw[a1,a3];exact⟨⟨cells,T,vs,by rw[hwS'];exact b1,b2,N2 hwS' hiS' hup _ b3,b4⟩,hnik ni⟩
    ·obtain⟨⟨o,b1,a0,b2⟩,ni⟩:=hr.mlive hw he
     rw[a1];exact⟨⟨o,by rw[hwS'];exact b1,a0,N2 hwS' hiS' hup _ b2⟩,hnik ni⟩
  ·have hmix:∀g i,g<l.length->g∉ks->i<l'.length->(l.getD g default).has (S.cap g)->(l'.getD i default).has (S1.cap i)->S.place g≠S1.place i:=λg i b1 b2 b3 b4 b5 e=>by
    have h3:=ev.keep _ (hkS0 _ ((hO _).2 ⟨g,b1,b2,b4,rfl⟩));rw[e] at h3;exact hfree1 i b3 b5 h3
   rw[Da] at h1 h2;rcases hcov g hg with⟨c1,c2⟩|⟨i,hi,rfl⟩<;>rcases hcov g' hg' with⟨d1,d2⟩|⟨j,hj,rfl⟩
   ·rw[hatO g c1 c2,(hoth g c1 c2).2.2.1] at h1
    rw[hatO g' d1 d2,(hoth g' d1 d2).2.2.1] at h2;rw[(hoth g c1 c2).1,(hoth g' d1 d2).1];exact hS.apart g g' c1 d1 hne (by rw[Da];exact h1) (by rw[Da];exact h2)
   ·rw[hatO g c1 c2,(hoth g c1 c2).2.2.1] at h1
    rw[hatI j hj,(hour j).2.2.1] at h2;rw[(hoth g c1 c2).1,(hour j).1];exact hmix g j c1 c2 hj h1 h2
   ·rw[hatI i hi,(hour i).2.2.1] at h1
    rw[hatO g' d1 d2,(hoth g' d1 d2).2.2.1] at h2;rw[(hoth g' d1 d2).1,(hour i).1];exact λe=>hmix g' i d1 d2 hi h2 h1 e.symm
   ·rw[hatI i hi,(hour i).2.2.1] at h1
    rw[hatI j hj,(hour j).2.2.1] at h2;rw[(hour i).1,(hour j).1];exact hS1.apart i j hi hj (λe=>hne (by rw[e])) (by rw[Da];exact h1) (by rw[Da];exact h2)
  ·rw[hwS']
   refine hS1.im b ?_;subst hS'd;exact hb.imp id λh3=>h3.1
 exact⟨v,S',_,_,he,by rw[hwS'];exact hw1,hevo,hrel',zk0 hwS' hiS' hup y hv,hK'⟩
mutual
theorem zg8(σ:Nat->Nat):∀(x:AV),x.pure=true->ren σ x=x
 |.any,_=>rfl
 |.bool _,_=>rfl
 |.int _ _,_=>rfl
 |.str _,_=>rfl
 |.nilS,_=>rfl
 |.nul,_=>rfl
 |.emp,_=>rfl
 |.lst _ _,_=>rfl
 |.full _ _,_=>rfl
 |.cptr _,_=>rfl
 |.nilP,_=>rfl
 |.nilF,_=>rfl
 |.yld _,_=>rfl
 |.map _ _,h=>by cases h
 |.ref _ _ _ _,h=>by cases h
 |.ptr _ _ _ _,h=>by cases h
 |.agg cs,h=>by rw[ren,I6 σ cs h]
 |.tup cs,h=>by rw[ren,I6 σ cs h]
 |.fn f cs,h=>by rw[ren,I6 σ cs h]
theorem I6(σ:Nat->Nat):∀(xs:List AV),AJ xs=true->renL σ xs=xs
 |[],_=>rfl
 |x::xs,h=>by
  simp only[AJ,Ac] at h;rw[renL,zg8 σ x h.1,I6 σ xs h.2]
end
mutual
theorem AL(m:Nat):∀(x:AV),x.pure=true->ltV m x
 |.any,_=>trivial
 |.bool _,_=>trivial
 |.int _ _,_=>trivial
 |.str _,_=>trivial
 |.nilS,_=>trivial
 |.nul,_=>trivial
 |.emp,_=>trivial
 |.lst _ _,_=>trivial
 |.full _ _,_=>trivial
 |.cptr _,_=>trivial
 |.nilP,_=>trivial
 |.nilF,_=>trivial
 |.yld _,_=>trivial
 |.map _ _,h=>by cases h
 |.ref _ _ _ _,h=>by cases h
 |.ptr _ _ _ _,h=>by cases h
 |.agg cs,h=>BU m cs h
 |.tup cs,h=>BU m cs h
 |.fn f cs,h=>BU m cs h
theorem BU(m:Nat):∀(xs:List AV),AJ xs=true->ltL m xs
 |[],_=>trivial
 |x::xs,h=>by
  simp only[AJ,Ac] at h;exact⟨AL m x h.1,BU m xs h.2⟩
end
def renM(σ:Nat->Nat)(xs:List AV):List AV:=renL σ xs
def ltM(m:Nat)(xs:List AV):Prop:=ltL m xs
section
variable {ks:List Nat}{N i m g k v o n w f:Nat}{x:AV}{xs cs:List AV}{e:Bool}{G:Grp}{r l:List Grp}
theorem zo8:renL (sg ks N) xs=bif AJ xs then xs else renM (sg ks N) xs:=by
 cases h:AJ xs
 ·rfl
 ·exact I6 _ xs h
theorem zta:ltL m xs=ifB (AJ xs) (ltM m xs):=propext ⟨λh=>.inr h,λh=>h.elim (BU m xs) id⟩
theorem zg9:renM (sg ks N) []=[]:=rfl
theorem z9h:renM (sg ks N) (x::xs)=ren (sg ks N) x::renM (sg ks N) xs:=rfl
theorem zo9:ltM m []=True:=rfl
theorem zga:ltM m (x::xs)=(ltV m x/\ltM m xs):=rfl
theorem ztb:ren (sg ks N) .any=.any:=rfl
theorem zoa{b:Bool}:ren (sg ks N) (.bool b)=.bool b:=rfl
theorem ztc{q:IntKind}{z:Int}:ren (sg ks N) (.int q z)=.int q z:=rfl
theorem ztd{s:List UInt8}:ren (sg ks N) (.str s)=.str s:=rfl
theorem zob:ren (sg ks N) .nilS=.nilS:=rfl
theorem zte:ren (sg ks N) .nul=.nul:=rfl
theorem ztf:ren (sg ks N) .emp=.emp:=rfl
theorem zoc:ren (sg ks N) .nilP=.nilP:=rfl
theorem zod:ren (sg ks N) .nilF=.nilF:=rfl
theorem ztg:ren (sg ks N) (.lst w xs)=.lst w xs:=rfl
theorem zoe:ren (sg ks N) (.full w xs)=.full w xs:=rfl
theorem zof:ren (sg ks N) (.cptr x)=.cptr x:=rfl
theorem zth:ren (sg ks N) (.ref g v o n)=.ref (sg ks N g) v o n:=rfl
theorem zti:ren (sg ks N) (.ptr g v i o)=.ptr (sg ks N g) v i o:=rfl
theorem ztj:ren (sg ks N) (.map g v)=.map (sg ks N g) v:=rfl
theorem ztk:ren (sg ks N) (.agg cs)=.agg (renL (sg ks N) cs):=rfl
theorem ztl:ren (sg ks N) (.tup cs)=.tup (renL (sg ks N) cs):=rfl
theorem re_fn:ren (sg ks N) (.fn f cs)=.fn f (renL (sg ks N) cs):=rfl
theorem ztm:ltV m .any=True:=rfl
theorem zog{b:Bool}:ltV m (.bool b)=True:=rfl
theorem ztn{q:IntKind}{z:Int}:ltV m (.int q z)=True:=rfl
theorem zto{s:List UInt8}:ltV m (.str s)=True:=rfl
theorem zoh:ltV m .nilS=True:=rfl
theorem ztp:ltV m .nul=True:=rfl
theorem ztq:ltV m .emp=True:=rfl
theorem zoi:ltV m .nilP=True:=rfl
theorem zoj:ltV m .nilF=True:=rfl
theorem ztr:ltV m (.lst w xs)=True:=rfl
theorem zok:ltV m (.full w xs)=True:=rfl
theorem zol:ltV m (.cptr x)=True:=rfl
theorem zts:ltV m (.ref g v o n)=(g<m):=rfl
theorem ztt:ltV m (.ptr g v i o)=(g<m):=rfl
theorem ztu:ltV m (.map g v)=(g<m):=rfl
theorem ztv:ltV m (.agg cs)=ltL m cs:=rfl
theorem ztw:ltV m (.tup cs)=ltL m cs:=rfl
theorem lv_fn:ltV m (.fn f cs)=ltL m cs:=rfl
theorem sg_eq:sg ks N i=if i<ks.length then ks.getD i 0 else N+(i-ks.length):=rfl
theorem reG{σ:Nat->Nat}:renG σ ⟨w,v,e,xs⟩=⟨w,v,e,renL σ xs⟩:=rfl
theorem ztx:setG [] r l=l++r:=rfl
theorem z9i:setG (k::ks) (G::r) l=setG ks r (l.set k G):=rfl
end
attribute [push_cast] zo8 zta zg9 z9h zo9 zga ztb zoa ztc ztd zob zte ztf zoc zod ztg zoe zof zth zti ztj ztk ztl re_fn
attribute [push_cast] ztm zog ztn zto zoh ztp ztq zoi zoj ztr zok zol zts ztt ztu ztv ztw lv_fn sg_eq reG ztx z9i List.set_cons_zero List.set_cons_succ List.getD_cons_zero List.getD_cons_succ
theorem z9j{P:Program}{f:Nat}{xs0 xs:List AV}{l0 l:List Grp}{K0 K:AV->A4->Prop}(ks:List Nat)(h:B9 P f xs0 (hl l0) K0)(hn:ks.Nodup)(hk:∀k∈ks,k<l.length)(hxs:renL (sg ks l.length) xs0=xs)
 (hl0:l0.map (renG (sg ks l.length))=ks.map (λk=>l.getD k default)) (hlt:ltL ks.length xs0) (hltG:∀G∈l0,ltL ks.length G.xs)
 (hK:∀y H',K0 y H'->∃l',H'=hl l'/\ks.length<=l'.length/\@nx (ren (sg ks l.length) y) (hl (setG ks (l'.map (renG (sg ks l.length))) l)) ⟨K⟩):@Rs P f xs (hl l) ⟨K⟩ :=
 VN ks h hxs hl0 hn hk hlt hltG hK
theorem at_c{P:Program}{f:Nat}{xs0 xs:List AV}{l0 l:List Grp}{K0 K:AV->A4->Prop}(ks:List Nat)(h:B9 P f xs0 (hl l0) K0)(hn:ks.Nodup)(hk:∀k∈ks,k<l.length)
 (hs:renL (sg ks l.length) xs0=xs/\l0.map (renG (sg ks l.length))=ks.map (λk=>l.getD k default)/\ltL ks.length xs0/\∀G∈l0,ltL ks.length G.xs)
 (hK:∀y H',K0 y H'->∃l',H'=hl l'/\ks.length<=l'.length/\@nx (ren (sg ks l.length) y) (hl (setG ks (l'.map (renG (sg ks l.length))) l)) ⟨K⟩):@Rs P f xs (hl l) ⟨K⟩ :=
 z9j ks h hn hk hs.1 hs.2.1 hs.2.2.1 hs.2.2.2 hK
section
variable {P:Program}{n b:Nat}{env:Env}{H:A4}
theorem Sg{S:MS}{l2:List Grp}{H1:A4}{ks:List Nat}{val:Nat->Value}(hS:SRel S (hl l2))(hF:∀i,VRel S (rnV b H1 ks 6 (env i)) (val i)):∀{live:List (Nat × AV)},NY l2 H1 b ks env live->∀i,VRel S (BO live i) (val i)
 |[],_,i=>trivial
 |(t,y)::r,h,i=>by
  show VRel S (if i=t then y else BO r i) _;split
  ·rename_i hit
   subst hit;exact Vv (.inl hS) _ h.1 (hF i)
  ·exact Sg hS hF h.2 i
theorem TU:∀(ws:List Nat){S:MS}{l:List Grp}{val:Nat->Value},(∀w∈ws,0<w)->SRel S (hl l)->(∀i,VRel S (env i) (val i))->∃S',S'.w=S.w/\Evo S S'/\SRel S' (hl (l++ws.map Jo))/\∀i,VRel S' (env i) (val i)
 |[],S,l,val,_,hS,hF=>⟨S,rfl,.refl S,by simpa using hS,hF⟩
 |w::ws,S,l,val,hw,hS,hF=>by
  have h1:=hS.virt w (hw w oc);rw[Gl] at h1;obtain⟨S',e1,e2,e3,e4⟩:=TU ws (S:=S.virt w) (l:=l++[Jo w]) (λw' h'=>hw w' (by simp[h'])) h1 (λj=>VRel.mono (Evo.virt _) _ (hF j));exact⟨S',e1,(Evo.virt _).trans e2,by simpa using e3,e4⟩
theorem zgb{srcs:List Src}{live:List (Nat × AV)}{heap:List Grp}{S:MS}{val:Nat->Value}(hh:Head b env H srcs live heap)(hbS:b<=S.n)(hS:SRel S H)(hF:∀i,VRel S (env i) (val i)):
 ∃S',S'.w=S.w/\BEvo b S S'/\SRel S' (hl heap)/\∀i,VRel S' (BO live i) (val i):=by
 obtain⟨hb,hh⟩:=hh;have hgn:H.groups.length=H.n:=by simp[A4.groups]
 have hS1:SRel S (hl H.groups):=hS.congr hgn (λg hg=>by
  show H.groups.getD g default=_
  simp[A4.groups,List.getD,hg])
 obtain⟨S2,e1,e2,e3,e4⟩:=TU (GM H.n srcs).2 (KW hh.1) hS1 hF;replace hh:=hh.2;generalize hl1:H.groups++(GM H.n srcs).2.map Jo=l1 at *;obtain⟨h1,h2,h3,h4⟩:=hh;have hb1:b<=l1.length:=by rw[<-hl1,Ai];omega
 have hbS2:b<=S2.n:=Bl hbS e2.n;obtain⟨k1,k2⟩:=PF (ks:=(GM H.n srcs).1) hb1;have hev:=KV (ks:=(GM H.n srcs).1) e3 hbS2;have hrel:=(Nr (ks:=(GM H.n srcs).1) 6 e3 hb1 (λk hk=>OX h1 k hk) (JL h2)).congr k1 k2;exact⟨S2.repack b (hl l1) (GM H.n srcs).1,e1,(e2.down hbS).trans hev,Jn hrel h4,Sg hrel (λj=>z49 e3 6 (e4 j)) h3⟩
def Drop(b:Nat)(y:AV)(H:A4)[K:HK]:Prop:=∃srcs y' heap,Head b (BO [(0,y)]) H srcs [(0,y')] heap/\K.f y' (hl heap)
theorem VO{y:AV}{K:AV->A4->Prop}(srcs:List Src)(y':AV)(heap:List Grp)(h1:Head b (BO [(0,y)]) H srcs [(0,y')] heap)(h2:K y' (hl heap)):@Drop b y H ⟨K⟩:=⟨srcs,y',heap,h1,h2⟩
theorem Qo{f:Nat}{xs:List AV}{l:List Grp}{K:AV->A4->Prop}(h:B9 P f xs (hl l) (λy H'=>@Drop l.length y H' ⟨K⟩)):B9 P f xs (hl l) K :=
 ⟨h.1,λS cargs hS hx=>(h.2 S cargs hS hx).mono λe w' hh=>by
  obtain⟨v,S1,y,H',he,hw,ev,hS1,hv,srcs,y',heap,h1,h2⟩:=hh;have hn:S.n=l.length:=hS.n
  obtain⟨S2,q1,q2,q3,q4⟩:=zgb (S:=S1) (val:=λi=>if i=0 then v else undef) h1 (by rw[<-hn];exact ev.n) hS1 (λi=>by
   show VRel S1 (if i=0 then y else .any) _;split
   ·exact hv
   ·trivial)
  have hb:=(ev.down (b:=l.length) om).trans q2
  exact⟨v,S2,y',_,he,q1.trans hw,⟨hb.base,hb.os,hb.tape,hb.output,hb.size,hb.kept,hb.im,hb.keep,hb.fresh,by rw[hn];exact hb.n,λg hg=>hb.cur g om,λg hg=>hb.same g om⟩,q3,q4 0,h2⟩⟩
theorem ZV{f m np b:Nat}{xs:List AV}{l:List Grp}{K:AV->A4->Prop}{res:List ARes}{B:AC}(hf:Bm P f xs.length=some ⟨m,np,res,B⟩)(hb:b=l.length)(h:W P m b B (entry xs) (hl l) (Ret P res λy H'=>@Drop b y H' ⟨K⟩)):B9 P f xs (hl l) K:=by
 subst hb;exact Qo (IK hf (W_T h))
end
theorem zgc(env:Env):setL env [] []=env:=rfl
theorem z9k(env:Env)(p:Nat)(ps:List Nat)(x:AV)(r:List AV):setL env (p::ps) (x::r)=setL (env.put (some p) x) ps r:=rfl
attribute [push_cast] zgc z9k
section
variable {P:Program}{n b:Nat}{S:MS}{H:A4}
theorem put_defers(a:Act)(d:Option Nat)(v:Value):(a.put d v).defers=a.defers:=by cases d<;>rfl
theorem zty(hS:SRel S H){env:Env}{a:Act}(hF:FRel S n env a){o:Oper}{q:AOp}{ops:Array Oper}(h:CL P n ops o=some q){K:AV->A4->Prop}(hst:AI P q.k H (q.vals env) K)
 {N:Act->World->Prop} {Q:Exit->Act->World->Prop} (hN:∀S' H' x a',Evo S S'->SRel S' H'->FRel S' n (env.put q.dst x) a'->a'.defers=a.defers->K x H'->N a' S'.w) (r:Option Nat) (m:Nat):o.wpIn (fen r) m P a S.w N Q:=by
 obtain⟨h1,h2,h3,h4,_⟩:=Cp h;have hargs:=KS hF h2;have h1':=JG h1 λe=>by rw[e] at hst;simp[AI] at hst
 have hsem:o.semAt (fen r).round a.eval=execOp a.eval o:=Oper.semAt_eq _ _ _ λc hc=>by rw[hc] at h1';cases h1'
 rcases RB hS o h1 (ρ:=a.eval) hargs hst with⟨v,S',x,H',hr,e,hS',hv,hK⟩|⟨f,cargs,hr,hc⟩
 ·have hN':=λv' (hv':VRel S' x v')=>hN S' H' x (a.put o.dst v') e hS' (by rw[h3];exact (hF.mono e).put h4 hv') (put_defers _ _ _) hK
  refine⟨λ_ _=>trivial,?_⟩;rw[hsem];rcases hr with hr|⟨hr,rfl⟩<;>rw[hr]
  ·exact hN' v hv
  ·exact hN' undef hv
 ·refine⟨λ_ _=>trivial,?_⟩
  rw[hsem,hr,Oper.uponIn_enter];refine⟨λh=>(by cases h),Py (hc.mono λe w' hh=>?_)⟩;obtain⟨v,S',x,H',rfl,rfl,ev,hS',hv,hK⟩:=hh;exact hN S' H' x (a.put o.dst v) ev hS' (by rw[h3];exact (hF.mono ev).put h4 hv) (put_defers _ _ _) hK
theorem J1{ops:Array Oper}{Q:Exit->Act->World->Prop}{rd:Option Nat}{m:Nat}(tl:List Nat):∀(l:List Oper)(l':List AOp)(k:Nat),(∀j,j<l.length->l[j]? = ops[k+j]?)->l.mapM (CL P n ops)=some l'->∀{S:MS}{H:A4}{env:Env}{a:Act}{K:Env->A4->Prop},
 SRel S H->FRel S n env a->runK P l' env H K->(∀S' H' env' a',Evo S S'->SRel S' H'->FRel S' n env' a'->a'.defers=a.defers->K env' H'->wpOpsIn (fen rd) m P ops Q tl a' S'.w)->wpOpsIn (fen rd) m P ops Q (List.range' k l.length++tl) a S.w
 |[],l',k,_,hm,S,H,env,a,K,hS,hF,hr,hQ=>by
  simp at hm;subst hm;exact hQ S H env a (.refl S) hS hF rfl hr
 |o::l,l',k,hl,hm,S,H,env,a,K,hS,hF,hr,hQ=>by
  rw[Cb] at hm;simp only[Option.bind_eq_bind,BA,Option.pure_def,Aq] at hm;obtain⟨q,hq,r,hrr,rfl⟩:=hm;have h0:ops[k]? = some o:=by simpa using (hl 0 oc).symm
  have hl':∀j,j<l.length->l[j]? = ops[k+1+j]? := λj hj=>by have:=hl (j+1) (by simp;omega);simpa [Bu,BX 1 j] using this
  have hg:=Px hq hF hr;rw[show List.range' k (o::l).length++tl=k::(List.range' (k+1) l.length++tl) from rfl];simp only[wpOpsIn,h0];cases hw:Region.wanted o (yielded ops a.tmps)
  ·rw[hw] at hg
   simp only[A8,Bq] at hg ⊢;obtain⟨_,_,h3,h4,_⟩:=Cp hq;exact⟨λ_ _=>trivial,J1 tl l r (k+1) hl' hrr hS (by rw[h3];exact hF.put h4 Kl) hg (λS' H' env' a' e hS' hF' hd=>hQ S' H' env' a' e hS' hF' (hd.trans (put_defers _ _ _)))⟩
  ·rw[hw] at hg
   simp only[Br] at hg ⊢;refine zty hS hF hq hg (λS' H' x a' e hS' hF' hd hK=>?_) rd m;exact J1 tl l r (k+1) hl' hrr hS' hF' hK (λS2 H2 env2 a2 e2 hS2 hF2 hd2 hK2=>hQ S2 H2 env2 a2 (e.trans e2) hS2 hF2 (hd2.trans hd) hK2)
end
structure Itr where
 P:Program
 l:Nat
 m:Nat
 rows:List (List AV)
 S0:MS
 J:Nat->(Nat->Prop)->World->Prop
 Jx:Nat->(Nat->Prop)->World->Prop
 cJ:Clo J
 cx:Clo Jx
 fact:∀k O W,J k O W\/Jx k O W->(∀b,S0.im b->¬O b/\W.heap[b]? = S0.w.heap[b]?)/\(W.os=S0.w.os/\LB W S0.w/\W.output=S0.w.output)/\S0.w.heap.size<=W.heap.size/\∀b,O b->S0.w.heap.size<=b/\b<W.heap.size
 round:∀k row O W,rows[k]? = some row->J k O W->YieldAt Fence.wide m P l (encI row) W λe W'=>W.heap.size<=W'.heap.size/\(∀b,O b->W'.heap[b]? = W.heap[b]?)/\(e=.returned (.bool true)/\J (k+1) O W'\/e=.returned (.bool false)/\Jx (k+1) O W')
namespace Itr
def at_(I:Itr):Option Nat->(Nat->Prop)->World->Prop
 |some k,O,W=>I.J k O W
 |none,O,W=>∃k,I.Jx k O W
structure Now(I:Itr)(s:Option Nat)(X:Nat->Prop)(S:MS)(H:A4):Prop where
 rel:SRel S H
 base:S.base<=S.w.heap.size
 keep:∀b,X b->S.keep b
 im:∀b,I.S0.im b->S.im b
 apart:∀b,S.im b->I.S0.im b\/¬X b
 st:I.at_ s (λb=>b<S.w.heap.size/\¬X b/\¬I.S0.im b) S.w
theorem Now.on{I:Itr}{s:Option Nat}{X:Nat->Prop}{S S':MS}{H H':A4}(h:I.Now s X S H)(e:Evo S S')(hr:SRel S' H'):I.Now s X S' H':=by
 have hX:∀b,X b->b<S.w.heap.size:=λb hb=>h.rel.im b (.inr (h.keep b hb));have hi0:∀b,I.S0.im b->b<S.w.heap.size:=λb hb=>h.rel.im b (.inl (h.im b hb));refine⟨hr,by rw[e.base];exact Bl h.base e.size,λb hb=>e.keep b (h.keep b hb),λb hb=>e.im b (h.im b hb),λb hb=>?_,?_⟩
 ·rcases e.fresh b hb with hh|hh
  ·exact h.apart b hh
  ·exact .inr λhx=>hh (h.keep b hx)
 ·have ho:(λb=>b<S'.w.heap.size/\¬X b/\¬I.S0.im b)=λb=>(b<S.w.heap.size/\¬X b/\¬I.S0.im b)\/(S.w.heap.size<=b/\b<S'.w.heap.size):=by
   funext b;refine propext ⟨λ⟨h1,h2,h3⟩=>?_,λhh=>?_⟩
   ·rcases Aj b S.w.heap.size with hl|hl
    ·exact .inl ⟨hl,h2,h3⟩
    ·exact .inr ⟨hl,h1⟩
   ·rcases hh with⟨h1,h2,h3⟩|⟨h1,h2⟩
    ·exact⟨AO h1 e.size,h2,h3⟩
    ·exact⟨h2,λhx=>by have:=hX b hx;omega,λhx=>by have:=hi0 b hx;omega⟩
  rw[ho]
  have hk:∀b,b<S.w.heap.size->¬(b<S.w.heap.size/\¬X b/\¬I.S0.im b)->S'.w.heap[b]? = S.w.heap[b]? := λb hb hn=>by
   by_cases hx:X b
   ·exact e.kept b (.inr (h.keep b hx))
   ·by_cases hi:I.S0.im b
    ·exact e.kept b (.inl (h.im b hi))
    ·exact absurd ⟨hb,hx,hi⟩ hn
  cases s with
  |some k=>exact I.cJ k _ _ _ h.st e.os e.tape e.output e.size hk
  |none=>obtain⟨k,hj⟩:=h.st;exact⟨k,I.cx k _ _ _ hj e.os e.tape e.output e.size hk⟩
theorem Now.round{I:Itr}{k:Nat}{X:Nat->Prop}{S:MS}{H:A4}(h:I.Now (some k) X S H){W':World}{s':Option Nat}(hsz:S.w.heap.size<=W'.heap.size)(ho:∀b,b<S.w.heap.size/\¬X b/\¬I.S0.im b->W'.heap[b]? = S.w.heap[b]?)
 (hi:∀b,I.S0.im b->W'.heap[b]? = S.w.heap[b]?) (hst:I.at_ s' (λb=>b<S.w.heap.size/\¬X b/\¬I.S0.im b) W') :
 ∃S',S'.w=W'/\I.Now s' (λb=>X b\/(S.w.heap.size<=b/\b<W'.heap.size)) S' H/\Evi S S':=by
 obtain⟨S',hd⟩:∃S':MS,S'={ S with w:=W',keep:=λb=>S.keep b\/(S.w.heap.size<=b/\b<W'.heap.size) }:=⟨_,rfl⟩;have hX:∀b,X b->b<S.w.heap.size:=λb hb=>h.rel.im b (.inr (h.keep b hb));have him:∀b,S.im b->b<S.w.heap.size:=λb hb=>h.rel.im b (.inl hb);have hi0:∀b,I.S0.im b->b<S.w.heap.size:=λb hb=>him b (h.im b hb)
 have hw:∀b,S.im b->W'.heap[b]? = S.w.heap[b]? := λb hb=>by
  by_cases h0:I.S0.im b
  ·exact hi b h0
  ·exact ho b ⟨him b hb,(h.apart b hb).resolve_left h0,h0⟩
 refine⟨S',by rw[hd],⟨?_,?_,?_,?_,?_,?_⟩,?_⟩
 ·subst hd
  exact h.rel.turn2 hw rfl rfl rfl rfl rfl rfl (λb hb=>hb.imp id And.left) (λb hb=>hb.elim (λhh=>AO (h.rel.im b (.inr hh)) hsz) And.right)
   (λb hb hl=>ho b ⟨hl,λhx=>hb (.inr (h.keep b hx)),λhx=>hb (.inl (h.im b hx))⟩) hsz
 ·subst hd;exact Bl h.base hsz
 ·subst hd;exact λb hb=>hb.imp (h.keep b) id
 ·subst hd;exact h.im
 ·subst hd
  intro b hb;rcases h.apart b hb with hh|hh
  ·exact .inl hh
  ·exact .inr λhx=>hx.elim hh λhx=>by have:=him b hb;omega
 ·subst hd
  have e:(λb=>b<W'.heap.size/\¬(X b\/(S.w.heap.size<=b/\b<W'.heap.size))/\¬I.S0.im b)=λb=>b<S.w.heap.size/\¬X b/\¬I.S0.im b:=by
   funext b;refine propext ⟨λ⟨h1,h2,h3⟩=>⟨?_,λhx=>h2 (.inl hx),h3⟩,λ⟨h1,h2,h3⟩=>⟨om,λhx=>hx.elim h2 (λhh=>by omega),h3⟩⟩;rcases Aj b S.w.heap.size with hl|hl
   ·exact hl
   ·exact absurd (.inr ⟨hl,h1⟩) h2
  show I.at_ s' _ W';rw[e];exact hst
 ·subst hd
  exact Evi.of hw rfl rfl rfl rfl rfl rfl
end Itr
def MJ(I:Itr)(n:Nat)(Q:Option Nat->Ex->Env->A4->Prop)(e:Exit)(a:Act)(w:World):Prop :=
 ∃S' env H' x s X,S'.w=w/\I.Now s X S' H'/\FRel S' n env a/\a.defers=[]/\e=Ex.up x/\Q s x env H'
def TI(I:Itr)(n:Nat)(c:AC)(s:Option Nat)(env:Env)(H:A4)(Q:Option Nat->Ex->Env->A4->Prop):Prop :=
 ∀code,Fy I.P n code=some c->∀S a X,I.Now s X S H->FRel S n env a->a.defers=[]->code.wpIn (fen none) (I.m+1) I.P (MJ I n Q) a S.w
section
variable {I:Itr}{n:Nat}{s:Option Nat}{env:Env}{H:A4}{Q:Option Nat->Ex->Env->A4->Prop}
theorem zgd{F:Fence}{mm:Nat}{c:Code}{a:Act}{w:World}(h:c.wpIn F mm I.P (MJ I n Q) a w):(Code.scope c).wpIn F mm I.P (MJ I n Q) a w:=by
 refine I3 (wpIn_mono h λe a w hh=>?_);obtain⟨S2,env,H',y,s,X,h1,h2,h3,h4,h5,h6⟩:=hh;subst h5;cases y<;>exact⟨S2,env,H',_,s,X,h1,h2,h3,h4,rfl,h6⟩
theorem TV{c:AC}(h:∀code,Fy I.P n code=some c->(∀d,code≠.scope d)->∀S a X,I.Now s X S H->FRel S n env a->a.defers=[]->code.wpIn (fen none) (I.m+1) I.P (MJ I n Q) a S.w):TI I n c s env H Q:=by
 intro code
 induction code with
 |scope d ih=>exact λhc S a X hN hF hd=>zgd (ih (by simpa [Fy] using hc) S a X hN hF hd)
 |skip=>exact λhc=>h _ hc oc
 |region=>exact λhc=>h _ hc oc
 |seq=>exact λhc=>h _ hc oc
 |cond=>exact λhc=>h _ hc oc
 |block=>exact λhc=>h _ hc oc
 |loop=>exact λhc=>h _ hc oc
 |rangeFunc=>exact λhc=>h _ hc oc
 |exit=>exact λhc=>h _ hc oc
 |label=>exact λhc=>h _ hc oc
 |goto=>exact λhc=>h _ hc oc
 |ret=>exact λhc=>h _ hc oc
 |refuse=>exact λhc=>h _ hc oc
theorem zom(h:Q s .normal env H):TI I n .skip s env H Q:=TV λcode hc hs S a X hN hF hd=>by
 have hA:MJ I n Q .normal a S.w:=⟨S,env,H,.normal,s,X,rfl,hN,hF,hd,rfl,h⟩;cases code<;>simp only[Fy,reduceCtorEq,Aq] at hc
 case skip=>exact wpIn_skip hA
 case label=>exact wpIn_label hA
 case region=>exact absurd hc Eb
 case seq=>split at hc<;>cases hc
 case cond=>split at hc<;>cases hc
 case block=>obtain⟨_,_,h⟩:=Ag.1 hc;cases h
 case loop=>obtain⟨_,_,h⟩:=Ag.1 hc;cases h
 case rangeFunc=>split at hc<;>cases hc
 case scope d=>exact absurd rfl (hs d)
theorem zon{id:Nat}(h:Q s (.exit id) env H):TI I n (.exit id) s env H Q:=TV λcode hc hs S a X hN hF hd=>by
 cases code<;>simp only[Fy,reduceCtorEq,Aq] at hc
 case exit k=>cases hc;exact wpIn_exit ⟨S,env,H,.exit id,s,X,rfl,hN,hF,hd,rfl,h⟩
 case region=>exact absurd hc Eb
 case seq=>split at hc<;>cases hc
 case cond=>split at hc<;>cases hc
 case block=>obtain⟨_,_,h⟩:=Ag.1 hc;cases h
 case loop=>obtain⟨_,_,h⟩:=Ag.1 hc;cases h
 case rangeFunc=>split at hc<;>cases hc
 case scope d=>exact absurd rfl (hs d)
theorem ztz(h:Q s .ret env H):TI I n .ret s env H Q:=TV λcode hc hs S a X hN hF hd=>by
 cases code<;>simp only[Fy,reduceCtorEq,Aq] at hc
 case ret=>exact wpIn_ret ⟨S,env,H,.ret,s,X,rfl,hN,hF,hd,rfl,h⟩
 case region=>exact absurd hc Eb
 case seq=>split at hc<;>cases hc
 case cond=>split at hc<;>cases hc
 case block=>obtain⟨_,_,h⟩:=Ag.1 hc;cases h
 case loop=>obtain⟨_,_,h⟩:=Ag.1 hc;cases h
 case rangeFunc=>split at hc<;>cases hc
 case scope d=>exact absurd rfl (hs d)
def Ex.thenI(K:Option Nat->Env->A4->Prop)(Q:Option Nat->Ex->Env->A4->Prop):Option Nat->Ex->Env->A4->Prop
 |s,.normal,env,H=>K s env H
 |s,x,env,H=>Q s x env H
theorem Hr{x y:AC}(h:TI I n x s env H (Ex.thenI (λs' env' H'=>TI I n y s' env' H' Q) Q)):TI I n (.seq x y) s env H Q:=TV λcode hc hs S a X hN hF hd=>by
 cases code<;>simp only[Fy,reduceCtorEq,Aq] at hc
 case seq c d =>
  split at hc
  ·rename_i x' y' hx hy
   cases hc;refine wpIn_seq (wpIn_mono (h c hx S a X hN hF hd) λe a' w' hh=>?_);obtain⟨S2,env2,H2,z,s2,X2,rfl,hN2,hF2,hd2,rfl,hq⟩:=hh;cases z with
   |normal=>exact hq d hy S2 a' X2 hN2 hF2 hd2
   |exit id=>exact⟨S2,env2,H2,.exit id,s2,X2,rfl,hN2,hF2,hd2,rfl,hq⟩
   |ret=>exact⟨S2,env2,H2,.ret,s2,X2,rfl,hN2,hF2,hd2,rfl,hq⟩
  ·cases hc
 case region=>exact absurd hc Eb
 case cond=>split at hc<;>cases hc
 case block=>obtain⟨_,_,h⟩:=Ag.1 hc;cases h
 case loop=>obtain⟨_,_,h⟩:=Ag.1 hc;cases h
 case rangeFunc=>split at hc<;>cases hc
 case scope d=>exact absurd rfl (hs d)
theorem zoo{c:AArg}{x y:AC}{q:Bool}(hc:c.eval env=.bool q)(ht:q=true->TI I n x s env H Q)(hf:q=false->TI I n y s env H Q):TI I n (.cond c x y) s env H Q:=TV λcode hcc hs S a X hN hF hd=>by
 cases code<;>simp only[Fy,reduceCtorEq,Aq] at hcc
 case cond z p q' =>
  split at hcc
  ·rename_i z' p2 q2 hz hp hq
   cases hcc;have hv:=Tz hF hz;rw[hc] at hv;exact wpIn_cond_split (t:=q) hv (λhbb=>ht hbb p hp S a X hN hF hd) (λhbb=>hf hbb q' hq S a X hN hF hd)
  ·cases hcc
 case region=>exact absurd hcc Eb
 case seq=>split at hcc<;>cases hcc
 case block=>obtain⟨_,_,h⟩:=Ag.1 hcc;cases h
 case loop=>obtain⟨_,_,h⟩:=Ag.1 hcc;cases h
 case rangeFunc=>split at hcc<;>cases hcc
 case scope d=>exact absurd rfl (hs d)
def Ex.inBlockI(id:Nat)(Q:Option Nat->Ex->Env->A4->Prop):Option Nat->Ex->Env->A4->Prop
 |s,.exit k,env,H=>if k=id then Q s .normal env H else Q s (.exit k) env H
 |s,x,env,H=>Q s x env H
theorem Ig{id:Nat}{c:AC}(h:TI I n c s env H (Ex.inBlockI id Q)):TI I n (.block id c) s env H Q:=TV λcode hc hs S a X hN hF hd=>by
 cases code<;>simp only[Fy,reduceCtorEq,Aq] at hc
 case block k d =>
  obtain⟨x,hx,hh⟩:=Ag.1 hc;cases hh;refine wpIn_block (wpIn_mono (h d hx S a X hN hF hd) λe a' w' hh=>?_);obtain⟨S2,env2,H2,z,s2,X2,h1,hN2,hF2,hd2,rfl,hq⟩:=hh;cases z with
  |normal=>exact⟨S2,env2,H2,.normal,s2,X2,h1,hN2,hF2,hd2,rfl,hq⟩
  |exit j =>
   simp only[Ex.up,Exit.inBlock];simp only[Ex.inBlockI] at hq;split
   ·rename_i hj;rw[Ae hj] at hq;exact⟨S2,env2,H2,.normal,s2,X2,h1,hN2,hF2,hd2,rfl,hq⟩
   ·rename_i hj;rw[Ad hj] at hq;exact⟨S2,env2,H2,.exit j,s2,X2,h1,hN2,hF2,hd2,rfl,hq⟩
  |ret=>exact⟨S2,env2,H2,.ret,s2,X2,h1,hN2,hF2,hd2,rfl,hq⟩
 case region=>exact absurd hc Eb
 case seq=>split at hc<;>cases hc
 case cond=>split at hc<;>cases hc
 case loop=>obtain⟨_,_,h⟩:=Ag.1 hc;cases h
 case rangeFunc=>split at hc<;>cases hc
 case scope d=>exact absurd rfl (hs d)
theorem TW{σ:Type}(Inv:σ->Option Nat->Env->A4->Prop)(μ:σ->Nat){c:AC}(s0:σ)(h0:Inv s0 s env H)
 (round:∀t s env H,Inv t s env H->TI I n c s env H (Ex.thenI (λs' env' H'=>∃t',Inv t' s' env' H'/\μ t'<μ t) Q)):TI I n (.loop c) s env H Q:=TV λcode hc hs S a X hN hF hd=>by
 cases code<;>simp only[Fy,reduceCtorEq,Aq] at hc
 case loop d =>
  obtain⟨x,hx,hh⟩:=Ag.1 hc;cases hh;refine wpIn_loop_ghost (λk a w=>∃S' t s env H X,S'.w=w/\I.Now s X S' H/\FRel S' n env a/\a.defers=[]/\Inv t s env H/\μ t=k) (μ s0) ⟨S,s0,s,env,H,X,rfl,hN,hF,hd,h0,rfl⟩ ?_;rintro k a w ⟨S1,t,s1,env1,H1,X1,rfl,hN1,hF1,hd1,hI,rfl⟩;refine wpIn_mono (round t s1 env1 H1 hI d hx S1 a X1 hN1 hF1 hd1) λe a' w' hh=>?_;obtain⟨S2,env2,H2,z,s2,X2,rfl,hN2,hF2,hd2,rfl,hq⟩:=hh;cases z with
  |normal =>
   obtain⟨t',h1,h2⟩:=hq;exact⟨μ t',h2,S2,t',s2,env2,H2,X2,rfl,hN2,hF2,hd2,h1,rfl⟩
  |exit id=>exact⟨S2,env2,H2,.exit id,s2,X2,rfl,hN2,hF2,hd2,rfl,hq⟩
  |ret=>exact⟨S2,env2,H2,.ret,s2,X2,rfl,hN2,hF2,hd2,rfl,hq⟩
 case region=>exact absurd hc Eb
 case seq=>split at hc<;>cases hc
 case cond=>split at hc<;>cases hc
 case block=>obtain⟨_,_,h⟩:=Ag.1 hc;cases h
 case rangeFunc=>split at hc<;>cases hc
 case scope d=>exact absurd rfl (hs d)
theorem zu0{ops:List AOp}(h:runK I.P ops env H λenv' H'=>Q s .normal env' H'):TI I n (.reg ops) s env H Q:=TV λcode hc hs S a X hN hF hd=>by
 cases code<;>simp only[Fy,reduceCtorEq,Aq] at hc
 case region id l draw =>
  split at hc
  ·rename_i r hr
   obtain⟨hd',rfl⟩:=LL hc;subst hd';refine wpIn_region ?_;have:=J1 (ops:=l) (rd:=none) (m:=I.m+1) (Q:=MJ I n Q) [] l.toList ops 0 oc hr hN.rel hF h (λS' H' env' a' e hS' hF' hdd hK=>⟨S',env',H',.normal,s,X,rfl,hN.on e hS',hF',hdd.trans hd,rfl,hK⟩);rw[FE];simpa using this
  ·cases hc
 case seq=>split at hc<;>cases hc
 case cond=>split at hc<;>cases hc
 case block=>obtain⟨_,_,h⟩:=Ag.1 hc;cases h
 case loop=>obtain⟨_,_,h⟩:=Ag.1 hc;cases h
 case rangeFunc=>split at hc<;>cases hc
 case scope d=>exact absurd rfl (hs d)
theorem Si{α β:Type}{f:α->Option β}:∀(p:List β){l:List α}{y:β}{q:List β},l.mapM f=some (p++y::q)->∃l1 o l2,l=l1++o::l2/\l1.mapM f=some p/\f o=some y/\l2.mapM f=some q
 |[],l,y,q,h=>by
  cases l with
  |nil=>simp at h
  |cons o l =>
   rw[Cb] at h;simp only[Option.bind_eq_bind,BA,Option.pure_def,Aq,List.nil_append,EW] at h;obtain⟨y',hy,r,hr,rfl,rfl⟩:=h;exact⟨[],o,l,rfl,rfl,hy,hr⟩
 |z::p,l,y,q,h=>by
  cases l with
  |nil=>simp at h
  |cons o l =>
   rw[Cb] at h;simp only[Option.bind_eq_bind,BA,Option.pure_def,Aq,List.cons_append,EW] at h;obtain⟨z',hz,r,hr,rfl,rfl⟩:=h;obtain⟨l1,o',l2,rfl,h1,h2,h3⟩:=Si p hr;exact⟨o::l1,o',l2,rfl,by rw[Cb,hz,h1];rfl,h2,h3⟩
theorem z4q{P:Program}{op:Op}(h:Dk P op=some .call):∃g args argTypes,op=.call { callee:=.value g,args,argTypes }:=by
 replace h:=JG h oc;cases op
 case call c =>
  obtain⟨callee,args,argTypes⟩:=c;cases callee<;>simp only[Fx,FS,reduceCtorEq] at h
  case value g=>exact⟨g,args,argTypes,rfl⟩
  case builtin b =>
   repeat' split at h
   all_goals first
    |(cases h;done)
    |(simp at h;done)
 all_goals simp only[Fx,reduceCtorEq] at h
 all_goals repeat' split at h
 all_goals first
  |contradiction
  |(cases h;done)
  |(obtain⟨⟨_,_⟩,_,h⟩:=Ag.1 h;cases h;done)
  |(obtain⟨_,_,h⟩:=Ag.1 h;cases h;done)
  |(simp at h;done)
def zu1(x:AV):Prop:=∀S v,VRel S x v->v=valOf x
theorem Sj{S:MS}:∀{xs:List AV}{vs:List Value},(∀x∈xs,zu1 x)->AB S xs vs->vs=xs.map valOf
 |[],vs,_,h=>h
 |x::xs,vs,hf,⟨v,r,hv,h1,h2⟩=>by
  rw[hv,hf x oc S v h1,Sj (λy hy=>hf y (by simp[hy])) h2];rfl
theorem TX{pre post:List AOp}{y:AOp}{k:Nat}(hk:y.k=.call)(hg:y.guard=none)
 (h:runK I.P pre env H λenv1 H1=>∃row,y.vals env1=.yld I.l::row/\(∀x∈row,zu1 x)/\I.rows[k]? = some row /\
  runK I.P post (env1.put y.dst (.bool true)) H1 (λenv2 H2=>Q (some (k+1)) .normal env2 H2)/\runK I.P post (env1.put y.dst (.bool false)) H1 (λenv2 H2=>Q none .normal env2 H2)) :
 TI I n (.reg (pre++y::post)) (some k) env H Q:=TV λcode hc hs S a X hN hF hd=>by
 cases code<;>simp only[Fy,reduceCtorEq,Aq] at hc
 case region id l draw =>
  split at hc
  ·rename_i r hr
   obtain⟨hd',hrr⟩:=LL hc;subst hrr;subst hd';refine wpIn_region ?_;obtain⟨l1,o,l2,hl,h1,h2,h3⟩:=Si pre hr;have hsz:l.size=l1.length+(l2.length+1):=by rw[<-Array.length_toList,hl];simp
   rw[FE,hsz,List.range'_append_1 |>.symm];have hat:∀j:Nat,l[j]? = (l1++o::l2)[j]? := λj=>by rw[<-hl,D2]
   refine J1 (ops:=l) (rd:=none) (m:=I.m+1) (Q:=MJ I n Q) _ l1 pre 0 (λj hj=>by rw[AY,hat,A9 hj]) h1 hN.rel hF h (λS1 H1 env1 a1 e1 hS1 hF1 hd1 hK=>?_);obtain⟨row,hv,hfx,hrow,ht,hff⟩:=hK;have hN1:=hN.on e1 hS1;have ho:l[l1.length]? = some o:=by rw[hat];simp
   rw[show List.range' (0+l1.length) (l2.length+1)=l1.length::List.range' (l1.length+1) l2.length from by rw[AY];rfl];simp only[wpOpsIn,ho];obtain⟨c1,c2,c3,c4,c5⟩:=Cp h2
   have hw:Region.wanted o (yielded l a1.tmps)=true:=by
    rcases c5 with⟨g1,_⟩|⟨j,want,d,g1,g2,_⟩
    ·simp[Region.wanted,g1]
    ·rw[hg] at g2;cases g2
   rw[hw];simp only[Br];have hargs:=KS hF1 c2;rw[show y.args.map (·.eval env1)=y.vals env1 from rfl,hv] at hargs
   rw[hk] at c1;obtain⟨g,args,argTypes,hop⟩:=z4q c1;obtain⟨fn,tm,asg,bd,hy,hR⟩:=I.round k row _ _ hrow hN1.st
   have hrun:(o.semAt (fen none).round a1.eval).run I.P S1.w=.ok (.round I.l fn tm asg bd) S1.w:=by
    rw[show (fen none).round=none from rfl,Oper.semAt_none];rw[hop] at hargs;have hargs':AB S1 (.yld I.l::row) (a1.eval g::args.toList.map a1.eval):=by simpa [Op.operands,Call.operands] using hargs
    obtain⟨v,vs,hvv,hv1,hv2⟩:=hargs';cases hvv;have hvs:=Sj hfx hv2;have hv1':a1.eval g=.func (.yield I.l) #[] #[]:=hv1;have e:args.map a1.eval=encI row:=by apply F3;simp[hvs]
    have hex:execOp a1.eval o=(do let d <-Deferred.ofValue (a1.eval g) (args.map a1.eval);invoke d.target d.args:Sem Next):=by
     cases o;simp only at hop;subst hop;rfl
    rw[hex,e,hv1'];simp only[Deferred.ofValue,Sem.run_bind,Sem.run_pure,Result.andThen_ok,invoke];simpa using hy
   refine⟨λ_ _=>trivial,?_⟩;rw[hrun,Oper.uponIn_round];refine⟨λh=>(by cases h),?_⟩;refine RoundIn.mono (F:=fen none) (n:=I.m) hR λe W' hh=>?_;obtain⟨hsz',ho',hcase⟩:=hh;have hf0:=(I.fact k _ _ (.inl hN1.st)).1;have hdef:a1.defers=[]:=hd1.trans hd
   have hgo:∀(bv:Bool)(s':Option Nat),I.at_ s' (λb=>b<S1.w.heap.size/\¬X b/\¬I.S0.im b) W'->(∀b,I.S0.im b->W'.heap[b]? = I.S0.w.heap[b]?) ->
    runK I.P post (env1.put y.dst (.bool bv)) H1 (λenv2 H2=>Q s' .normal env2 H2)->wpOpsIn (fen none) (I.m+1) I.P l (MJ I n Q) (List.range' (l1.length+1) l2.length) (a1.put o.dst (.bool bv)) W':=λbv s' hst him hrk=>by
    obtain⟨S2,hw2,hN2,ev2⟩:=hN1.round hsz' ho' (λb hb=>(him b hb).trans ((hf0 b hb).2).symm) hst;have hF2:FRel S2 n env1 a1:=⟨hF1.size,by rw[hdef];exact Marks.nil hN2.base,λi hi=>VRel.moni ev2 _ (hF1.val i hi)⟩;have hF3:=hF2.put (dst:=y.dst) (by rw[c3];exact c4) (x:=.bool bv) (v:=.bool bv) rfl;rw[c3] at hF3;rw[c3] at hrk;rw[<-hw2]
    have:=J1 (ops:=l) (rd:=none) (m:=I.m+1) (Q:=MJ I n Q) [] l2 post (l1.length+1) (λj hj=>by rw[hat,AG om,show l1.length+1+j-l1.length=j+1 from by omega];rfl) h3 hN2.rel hF3 hrk
     (λS' H' env' a' e hS' hF' hdd hK=>⟨S',env',H',.normal,s',_,rfl,hN2.on e hS',hF',hdd.trans ((put_defers _ _ _).trans hdef),rfl,hK⟩)
    simpa using this
   rcases hcase with⟨rfl,hj⟩|⟨rfl,hj⟩
   ·exact hgo true (some (k+1)) hj (λb hb=>((I.fact _ _ _ (.inl hj)).1 b hb).2) ht
   ·exact hgo false none ⟨_,hj⟩ (λb hb=>((I.fact _ _ _ (.inr hj)).1 b hb).2) hff
  ·cases hc
 case seq=>split at hc<;>cases hc
 case cond=>split at hc<;>cases hc
 case block=>obtain⟨_,_,h⟩:=Ag.1 hc;cases h
 case loop=>obtain⟨_,_,h⟩:=Ag.1 hc;cases h
 case rangeFunc=>split at hc<;>cases hc
 case scope d=>exact absurd rfl (hs d)
theorem Yx{P:Program}{gf:Nat}{caps:List AV}{rows:List (List AV)}{fn:AFn}(hf:Bm P gf (caps.length+1)=some fn)
 (h:∀I:Itr,I.P=P->I.rows=rows->TI I fn.n fn.body (some 0) (entry (.yld I.l::caps)) A4.nil (λs x env H=>Ret P fn.res (λ_ _=>True) x env H/\(s=some rows.length\/s=none))):Qn P gf caps rows:=by
 refine⟨enters_of hf,λm l S0 lb J Jx hS0 hx0 cJ cx hj fact round=>?_⟩;obtain⟨F,c,hF,hb,hn,hc,hr,hnp,_⟩:=LM hf;obtain⟨S,hSd⟩:∃S:MS,S={ S0 with base:=S0.w.heap.size,keep:=λb=>b<S0.w.heap.size/\¬S0.im b }:=⟨_,rfl⟩;have ev0:Evi S0 S:=by subst hSd;exact Evi.of (λ_ _=>rfl) rfl rfl rfl rfl rfl rfl
 have hw0:S.w=S0.w:=by rw[hSd]
 have hS:SRel S A4.nil:=by
  subst hSd;exact⟨hS0.n,λg hg=>absurd hg (AZ _),λg _ hg=>absurd hg (AZ _),λb hb=>hb.elim (λh=>hS0.im b (.inl h)) And.left⟩
 have hx:AB S caps lb:=AB.moni ev0 _ hx0;have hlen:=hx.length
 let I:Itr:=⟨P,l,m,rows,S0,J,Jx,cJ,cx,fact,round⟩
 have hN:I.Now (some 0) (λb=>b<S0.w.heap.size/\¬S0.im b) S A4.nil:=by
  refine⟨hS,by rw[hSd];exact Ab _,λb hb=>by rw[hSd];exact hb,λb hb=>by rw[hSd];exact hb,λb hb=>.inl (by rw[hSd] at hb;exact hb),?_⟩
  have e:(λb=>b<S.w.heap.size/\¬(b<S0.w.heap.size/\¬S0.im b)/\¬I.S0.im b)=λ_=>False:=by
   funext b;refine propext ⟨λ⟨h1,h2,h3⟩=>h2 ⟨by rw[hw0] at h1;exact h1,h3⟩,False.elim⟩
  rw[e,hw0];exact hj
 refine callsIn_of_wp_marks (F:=Fence.wide) (n:=m+1) hF hb trivial ?_
 have hfr:FRel S fn.n (entry (.yld l::caps)) { tmps:=(#[Value.func (.yield l) #[] #[]]++lb.toArray)++Array.replicate (F.ntmps-(#[Value.func (.yield l) #[] #[]]++lb.toArray).size) undef,defers:=[] }:=by
  have hx':AB S (.yld l::caps) (.func (.yield l) #[] #[]::lb):=⟨_,_,rfl,rfl,hx⟩;refine⟨by simp;omega,Marks.nil hN.base,λi hi=>?_⟩;by_cases hlt:i<(AV.yld l::caps).length
  ·obtain⟨v,hv,hr⟩:=hx'.get (Ar hlt)
   have e1:entry (.yld l::caps) i=(AV.yld l::caps)[i]:=by simp[entry,List.getD,Ar hlt]
   have e2:((#[Value.func (.yield l) #[] #[]]++lb.toArray)++Array.replicate (F.ntmps-(#[Value.func (.yield l) #[] #[]]++lb.toArray).size) undef).getD i undef=v:=by
    have hsz:i<(#[Value.func (.yield l) #[] #[]]++lb.toArray).size:=by simp at hlt ⊢;omega
    rw[Eo,B2 hsz];have:(#[Value.func (.yield l) #[] #[]]++lb.toArray)[i]? = (Value.func (.yield l) #[] #[]::lb)[i]? := by simp
    rw[this,hv];rfl
   rw[e1,e2];exact hr
  ·have e1:entry (.yld l::caps) i=.any:=by simp[entry,List.getD,BE (G9 hlt)]
   rw[e1];trivial
 rw[<-hw0];refine wpIn_mono (h I rfl rfl c hc S _ _ hN hfr rfl) λe a w' hh=>?_;obtain⟨S2,env2,H2,z,s2,X2,rfl,hN2,hF2,hd2,rfl,⟨hq,hres⟩,hst⟩:=hh
 have fin:LeavesInM Fence.wide (m+1) P F a.tmps (λe W'=>(∃v,e=.returned v)/\((∃O,J rows.length O W')\/∃k O,Jx k O W')) a.defers .returning S2.w:=by
  rw[hd2];refine Ko [] S2.w Cm (λD hd=>by cases hd) ?_;obtain⟨vs,ys,h1,h2,h3⟩:=KU hN2.rel hF2 hr hres;refine⟨if h:vs.toArray.size=1 then vs.toArray[0] else .tuple vs.toArray,?_,⟨_,rfl⟩,?_⟩
  ·have e:results F a.tmps=(do let vs <-F.results.mapM (RN a.tmps);pure (if h:vs.size=1 then vs[0] else .tuple vs)):=by
    unfold results;congr
   rw[e,EF];show Sem.run P _ S2.w=_;simp only[Sem.run_bind,Sem.run_map,h1,Result.andThen_ok,Sem.run_pure];rfl
  ·have:=hN2.st
   rcases hst with rfl|rfl
   ·exact .inl ⟨_,this⟩
   ·obtain⟨k,hk⟩:=this;exact .inr ⟨k,_,hk⟩
 cases z with
 |normal=>exact fin
 |exit id=>exact hq.elim
 |ret=>exact fin
end
end Go.Proofs.YtflibbceibjddaaGreat.Abs
namespace Go.Proofs.YtflibbceibjddaaGreat
open Abs O1 O2 O3
def domL(s:Int):List Span:=if s=1 then [⟨0,255⟩] else if s=2 then [⟨0,55295⟩,⟨57344,1114111⟩] else []
theorem Iq(a:Int):PC Tryz.prog 129 [.int .i64 a] (Dp ⟨a,0,21,0⟩):=by
 refine Cd V5 ?_;unfold Of;exact gwA
def EJ(p:Part):Bool:=decide (0<=p.drop/\p.drop<21/\1<=p.take/\p.take<=21/\0<=p.up/\p.up<21/\(p.up=0\/p.take<=6))
theorem I7(p:Part):PC Tryz.prog 155 [Dp p] (.bool (EJ p)):=by
 refine Cd Ym ?_;unfold Qd;(with_reducible repeat'(first|simp(disch:=omega)only[push_cast,↓zz,seval]|refine sp_ ?_ ?_<;>try(intro hc;push_cast at hc)|omega|intro _))
 all_goals (unfold EJ;first|(refine ZL ?_;omega)|(refine ZM ?_;omega)|(refine P6 ?_;omega))
def EP(p:Part)(n:Int):Bool:=decide (0<=p.at_/\p.at_<n)&&EJ p
theorem H5(p:Part)(n:Int):PC Tryz.prog 135 [Dp p,.int .i64 n] (.bool (EP p n)):=by
 refine Cd V7 ?_;unfold Og;(with_reducible repeat'(first|simp(disch:=omega)only[push_cast,↓zz,seval]|refine sp_ ?_ ?_<;>try(intro hc;push_cast at hc)|(have q_:=I7 p;refine ee q_ ?_;clear q_)|(have q_:=I7 p;refine cc q_ ?_;clear q_;simp(disch:=omega)only[push_cast,↓zz,seval];fail_if_success change False)|omega|intro _))
 all_goals (simp[EP, *]<;>omega)
def valP(p:Part)(x:Int):Int:=x / 2 ^ p.drop.toNat % 2 ^ p.take.toNat * 2 ^ p.up.toNat
def valB(p:Part)(x:Int):Bool:=EJ p&&decide (0<=x/\x<=2097151)
def val1(p:Part)(x:Int):Int:=if valB p x then valP p x else 0
abbrev valV(p:Part)(x:Int):AV:=.tup [.int .i64 (val1 p x),.bool (valB p x)]
theorem Ih{p:Part}:EJ p=true↔(0<=p.drop/\p.drop<21/\1<=p.take/\p.take<=21/\0<=p.up/\p.up<21/\(p.up=0\/p.take<=6)):=by simp[EJ]
theorem Ke(d:Nat)(h:d<=21):(1:Int)<=2 ^ d/\(2:Int) ^ d<=2097152 :=
 ⟨E1 ox,by have:=C8 (n:=2) ox h;have e:((2 ^ d:Nat):Int)=2 ^ d:=oc;rw[<-e];omega⟩
theorem zge{p:Part}{x:Int}(hb:EJ p=true)(hx:0<=x/\x<=2097151):
 IntKind.i64.wrap (JF .and .i64 (x.fdiv (2 ^ min p.drop.toNat IntKind.i64.bits)) (IntKind.i64.wrap (IntKind.i64.wrap (1 * 2 ^ min p.take.toNat IntKind.i64.bits)-1)) * 2 ^ min p.up.toNat IntKind.i64.bits)=valP p x:=by
 rw[Ih] at hb;have e1:min p.drop.toNat IntKind.i64.bits=p.drop.toNat:=Dj (by show _<=64;omega);have e2:min p.take.toNat IntKind.i64.bits=p.take.toNat:=Dj (by show _<=64;omega);have e3:min p.up.toNat IntKind.i64.bits=p.up.toNat:=Dj (by show _<=64;omega);rw[e1,e2,e3];have hd:=Ke p.drop.toNat om;have ht:=Ke p.take.toNat om;have hu:=Ke p.up.toNat om;rw[Int.one_mul,IntWalk.i64_in (2 ^ p.take.toNat) om,IntWalk.i64_in (2 ^ p.take.toNat-1) om,z7u _ _ om];have q0:0<=x / 2 ^ p.drop.toNat:=GK hx.1 om;have q1:x / 2 ^ p.drop.toNat<=x:=Int.ediv_le_self _ hx.1;have m0:=BR (x / 2 ^ p.drop.toNat) (b:=2 ^ p.take.toNat) om;have m1:=BF (x / 2 ^ p.drop.toNat) (b:=2 ^ p.take.toNat) om;rw[z7v p.take.toNat ⟨q0,by show _<(2:Int) ^ 64;omega⟩ (by show _<=64;omega) (IntWalk.i64_in _ om)];refine IntWalk.i64_in _ ?_;have:x / 2 ^ p.drop.toNat % 2 ^ p.take.toNat * 2 ^ p.up.toNat<=2097152 * 2097152:=Fv om om om om;have:0<=x / 2 ^ p.drop.toNat % 2 ^ p.take.toNat * 2 ^ p.up.toNat:=DU om om;omega
theorem TY{p:Part}{x:Int}(hb:EJ p=true)(hx:0<=x/\x<=2097151):valB p x=true/\val1 p x=valP p x:=by
 have:valB p x=true:=by simp only[valB,hb,Bj,Ah];exact hx
 exact⟨this,by rw[val1,this];rfl⟩
theorem zu2{p:Part}{x:Int}(h:EJ p=false\/x<0\/2097151<x):valB p x=false/\val1 p x=0:=by
 have:valB p x=false:=by
  simp only[valB,Bool.and_eq_false_iff,BB];rcases h with h|h
  ·exact .inl h
  ·exact .inr om
 exact⟨this,by rw[val1,this];rfl⟩
theorem z9l{p:Part}{x:Int}(h:EJ p=false\/x<0\/2097151<x):valV p x=.tup [.int .i64 0,.bool false]:=by
 obtain⟨h1,h2⟩:=zu2 h;simp only[valV,h1,h2]
theorem zop{p:Part}{x:Int}(hb:EJ p=true)(hx:0<=x/\x<=2097151):valV p x=.tup [.int .i64 (valP p x),.bool true]:=by
 obtain⟨h1,h2⟩:=TY hb hx;simp only[valV,h1,h2]
theorem Ir(p:Part)(x:Int):PC Tryz.prog 136 [Dp p,.int .i64 x] (valV p x):=by
 refine Cd V8 ?_;unfold Oh;(with_reducible repeat'(first|simp(disch:=omega)only[push_cast,↓zz,seval]|refine sp_ ?_ ?_<;>try(intro hc;push_cast at hc)|(have q_:=I7 p;refine ee q_ ?_;clear q_)|(have q_:=I7 p;refine cc q_ ?_;clear q_;simp(disch:=omega)only[push_cast,↓zz,seval];fail_if_success change False)|omega|intro _))
 all_goals first|(have hb:=Ih.1 ‹EJ p=true›;omega)|(rw[z9l (.inl ‹_›)];(repeat'(first|(simp(disch:=omega)only[push_cast,↓zz,seval,GX])|omega|(with_reducible refine Aa ?_ ?_)));done)|(rw[z9l (.inr om)];(repeat'(first|(simp(disch:=omega)only[push_cast,↓zz,seval,GX])|omega|(with_reducible refine Aa ?_ ?_)));done)|(rw[zop ‹_› om];(repeat'(first|(simp(disch:=omega)only[push_cast,↓zz,seval,GX])|omega|(with_reducible refine Aa ?_ ?_)));exact zge ‹_› om)
theorem Gp(s:Int):PC Tryz.prog 83 [.int .i64 s] (AA (domL s)):=by
 refine Cd TH ?_;unfold M7;(with_reducible repeat'(first|simp(disch:=omega)only[push_cast,↓zz,seval]|refine sp_ ?_ ?_<;>try(intro hc;push_cast at hc)|omega|intro _))
 all_goals (simp only[domL, *];rfl)
abbrev Term.outer(t:Term):Part:=⟨0,t.drop,t.take,t.up⟩
theorem H6(t:Term):PC Tryz.prog 137 [C9 t] (Dp t.outer):=by
 refine Cd V9 ?_;unfold Oi;exact gwA
def L3(t:Term):Bool:=decide (t.base=0/\t.drop=0/\t.take=21/\t.up=0)
def Kw(p:Part):Bool:=decide (p.drop=0/\p.take=21/\p.up=0)
theorem It(t:Term):PC Tryz.prog 187 [C9 t] (.bool (L3 t)):=by
 refine Cd VF ?_;unfold Oq;(with_reducible repeat'(first|simp(disch:=omega)only[push_cast,↓zz,seval]|refine sp_ ?_ ?_<;>try(intro hc;push_cast at hc)|(have q_:=H6 t;refine ee q_ ?_;clear q_)|(have q_:=Iq 0;refine ee q_ ?_;clear q_)|(have q_:=H6 t;refine cc q_ ?_;clear q_;simp(disch:=omega)only[push_cast,↓zz,seval];fail_if_success change False)|(have q_:=Iq 0;refine cc q_ ?_;clear q_;simp(disch:=omega)only[push_cast,↓zz,seval];fail_if_success change False)|omega|intro _))
 all_goals (simp[L3,Kw,Term.outer, *])
def Gq(x:Int):Bool:=decide (-1114111<=x/\x<=1114111)
theorem EE(x:Int):PC Tryz.prog 199 [.int .i64 x] (.bool (Gq x)):=by
 refine Cd VH ?_;unfold Ov;(with_reducible repeat'(first|simp(disch:=omega)only[push_cast,↓zz,seval]|refine sp_ ?_ ?_<;>try(intro hc;push_cast at hc)|omega|intro _))
 all_goals (unfold Gq;first|(refine ZL ?_;omega)|(refine ZM ?_;omega)|(refine P6 ?_;omega))
def Ka:List Part->Bool
 |p::q::l=>decide (p.up<q.up)&&Ka (q::l)
 |_=>true
theorem MK:∀{l:List Part}{i:Nat},i+1<l.length->Ka (l.drop i)=(decide ((nth l i).up<(nth l (i+1)).up)&&Ka (l.drop (i+1)))
 |[],i,h=>by simp at h
 |[p],i,h=>by simp at h
 |p::q::l,0,_=>rfl
 |p::q::l,i+1,h=>by
  exact MK (l:=q::l) (i:=i) (by simpa using h)
theorem VP{l:List Part}{i:Nat}(h:l.length<=i+1):Ka (l.drop i)=true:=by
 match hl:l.drop i with
 |[]=>rfl
 |[p]=>rfl
 |p::q::r=>have:=Bt List.length hl;simp at this;omega
theorem Qp(l:List Part)(hl:l.length<1000000000000):PC Tryz.prog 206 [Cu l] (.bool (Ka l&&decide (l.length<=4))):=by
 refine Cd TO ?_;unfold MG;refine ywA ?_;refine Ba (B7 (λ(i:Nat)=>i<=l.length/\Ka l=Ka (l.drop (i-1))) (λi=>l.length-i) (λi=>[(0,Cu l),(5,Cu l),(6,.int .i64 l.length),(7,.int .i64 i)]) (λ_=>[]) (λ_ _=>[]) 0 oc ?_ ?_)
 ·exact gwA
 rintro i ⟨hi,hr⟩;refine W_T ?_;(with_reducible repeat'(first|simp(disch:=omega)only[push_cast,↓zz,seval]|refine sp_ ?_ ?_<;>try(intro hc;push_cast at hc)|omega|intro _))
 ·rename_i h1 h2
  rw[hr,MK (i:=i-1) om,show i-1+1=i by omega];have:¬(nth l (i-1)).up<(nth l i).up:=om
  simp[this]
 ·refine⟨i+1,?_⟩
  refine ywA ?_;rw[hr,MK (i:=i-1) om,show i-1+1=i by omega];have:(nth l (i-1)).up<(nth l i).up:=om
  simp[this]
 ·refine⟨i+1,?_⟩
  refine ywA ?_;obtain rfl:i=0:=om
  exact hr
 ·rw[hr,VP (i:=i-1) om,Bj]
  exact P6 om
def DN(t:Term):Bool:=Gq t.base&&Gq t.sum&&EJ t.outer&&(Ka t.parts&&decide (t.parts.length<=4))
theorem Yy(t:Term):EP t.outer 1=EJ t.outer:=by simp[EP]
theorem LZ(t:Term):PC Tryz.prog 135 [Dp t.outer,.int .i64 1] (.bool (EJ t.outer)):=by rw[<-Yy];exact H5 t.outer 1
theorem Kx(t:Term)(hl:t.parts.length<1000000000000):PC Tryz.prog 186 [C9 t] (.bool (DN t)):=by
 refine Cd Ry ?_;unfold Lz;(with_reducible repeat'(first|simp(disch:=omega)only[push_cast,↓zz,seval]|refine sp_ ?_ ?_<;>try(intro hc;push_cast at hc)|(have q_:=EE t.base;refine ee q_ ?_;clear q_)|(have q_:=EE t.sum;refine ee q_ ?_;clear q_)|(have q_:=H6 t;refine ee q_ ?_;clear q_)|(have q_:=LZ t;refine ee q_ ?_;clear q_)|(have q_:=Qp t.parts hl;refine ee q_ ?_;clear q_)|(have q_:=EE t.base;refine cc q_ ?_;clear q_;simp(disch:=omega)only[push_cast,↓zz,seval];fail_if_success change False)|(have q_:=EE t.sum;refine cc q_ ?_;clear q_;simp(disch:=omega)only[push_cast,↓zz,seval];fail_if_success change False)|(have q_:=H6 t;refine cc q_ ?_;clear q_;simp(disch:=omega)only[push_cast,↓zz,seval];fail_if_success change False)|(have q_:=LZ t;refine cc q_ ?_;clear q_;simp(disch:=omega)only[push_cast,↓zz,seval];fail_if_success change False)|(have q_:=Qp t.parts hl;refine cc q_ ?_;clear q_;simp(disch:=omega)only[push_cast,↓zz,seval];fail_if_success change False)|omega|intro _))
 all_goals (simp[DN, *])
def VQ(s:Int):Bool:=decide (s=1\/s=2)
def HT(i n:Int)(l:List Part):Bool:=l.all λp=>EP p n&&(decide (i≠2)||Kw p)
def J2(t:Term)(i o n:Int):Bool:=VQ i&&VQ o&&DN t&&HT i n t.parts&&(decide (i≠2)||decide (t.parts.length<=1))&&(decide (o≠2)||L3 t)
theorem TZ(s:Int):decide (((domL s).length:Int)=0)=!VQ s:=by
 unfold domL VQ;split
 ·subst_vars;decide
 ·split
  ·subst_vars;decide
  ·simp[*]
theorem zu3(l:List Part):(l.length<=1)=((l.length:Int)<=1):=by simp only[eq_iff_iff];omega
theorem z4r(t:Term)(i o n:Int)(hl:t.parts.length<1000000000000):PC Tryz.prog 167 [C9 t,.int .i64 i,.int .i64 o,.int .i64 n] (.bool (J2 t i o n)):=by
 refine Cd VD ?_;unfold On;(with_reducible repeat'(first|simp(disch:=omega)only[push_cast,↓zz,seval,TZ]|refine sp_ ?_ ?_<;>try(intro hc;push_cast at hc)|(have q_:=Gp i;refine ee q_ ?_;clear q_)|(have q_:=Gp o;refine ee q_ ?_;clear q_)|(have q_:=Kx t hl;refine ee q_ ?_;clear q_)|(have q_:=Gp i;refine cc q_ ?_;clear q_;simp(disch:=omega)only[push_cast,↓zz,seval,TZ];fail_if_success change False)|(have q_:=Gp o;refine cc q_ ?_;clear q_;simp(disch:=omega)only[push_cast,↓zz,seval,TZ];fail_if_success change False)|(have q_:=Kx t hl;refine cc q_ ?_;clear q_;simp(disch:=omega)only[push_cast,↓zz,seval,TZ];fail_if_success change False)|omega|intro _))
 ·simp[J2, *]
 ·have hn:J2 t i o n=(HT i n t.parts&&(decide (i≠2)||decide ((t.parts.length:Int)<=1))&&(decide (o≠2)||L3 t)):=by simp[J2,zu3, *]
  rw[hn];refine Ba (B7 (λ(k:Nat)=>k<=t.parts.length/\HT i n t.parts=HT i n (t.parts.drop k)) (λk=>t.parts.length-k) (λk=>[(1,.int .i64 i),(2,.int .i64 o),(3,.int .i64 n),(4,.ptr 0 1 0 0),(27,Cu t.parts),(28,.int .i64 t.parts.length),(29,.int .i64 k)]) (λ_=>[⟨6,1,true,[C9 t]⟩]) (λenv _=>[D4 0 (env 4)]) 0 oc ?_ ?_)
  ·exact gwA
  rintro k ⟨hi,hr⟩;refine W_T ?_;(with_reducible repeat'(first|simp(disch:=omega)only[push_cast,↓zz,seval]|refine sp_ ?_ ?_<;>try(intro hc;push_cast at hc)|(have q_:=H5 (nth t.parts k) n;refine ee q_ ?_;clear q_)|(have q_:=Iq (nth t.parts k).at_;refine ee q_ ?_;clear q_)|(have q_:=It t;refine ee q_ ?_;clear q_)|(have q_:=H5 (nth t.parts k) n;refine cc q_ ?_;clear q_;simp(disch:=omega)only[push_cast,↓zz,seval];fail_if_success change False)|(have q_:=Iq (nth t.parts k).at_;refine cc q_ ?_;clear q_;simp(disch:=omega)only[push_cast,↓zz,seval];fail_if_success change False)|(have q_:=It t;refine cc q_ ?_;clear q_;simp(disch:=omega)only[push_cast,↓zz,seval];fail_if_success change False)|omega|intro _))
  all_goals (first|(refine⟨k+1,?_⟩;(with_reducible repeat'(first|simp(disch:=omega)only[push_cast,↓zz,seval]|refine sp_ ?_ ?_<;>try(intro hc;push_cast at hc)|omega|intro _));(try (first|(rw[hr,drop_at om];simp[HT,Kw, *];done)|(rw[hr,Ao om];simp[HT,Kw, *];done)|(simp[HT,Kw, *];done)));done)|(first|(rw[hr,drop_at om];simp[HT,Kw, *];done)|(rw[hr,Ao om];simp[HT,Kw, *];done)|(simp[HT,Kw, *];done)))
 all_goals (simp[J2, *])
theorem Ma(l:List Part)(hl:l.length<=1000000000000):PC Tryz.prog 147 [Cu l] (Cu l):=by
 by_cases h0:l=[]
 ·subst h0
  refine z97 ?_ ?_
  ·refine Cd Eg ?_
   unfold Db;exact gwA
  ·refine Cd Eg ?_
   unfold Db;exact gwA
 ·refine Cd Eg ?_
  unfold Db;have f_:=h0;exact gwB
def sumP(w:List Int):List Part->Int->Option Int
 |[],a=>some a
 |p::l,a=>if EP p w.length then sumP w l (IntKind.i64.wrap (a+val1 p (nth w p.at_.toNat))) else none
def symB(x:Int):Bool:=decide (0<=x/\x<=1114111)
def Ga(t:Term)(w:List Int):Option Int :=
 if w.all symB then
  match sumP w t.parts t.sum with
  |some x=>if valB t.outer x&&decide (x<=1114111) then some (IntKind.i64.wrap (t.base+valP t.outer x)) else none
  |none=>none
 else none
abbrev optV(o:Option Int):AV:=.tup [.int .i64 (o.getD 0),.bool o.isSome]
theorem zu4{w:List Int}{l:List Part}{k:Nat}{a:Int}(h:k<l.length):sumP w (l.drop k) a=if EP (nth l k) w.length then sumP w (l.drop (k+1)) (IntKind.i64.wrap (a+val1 (nth l k) (nth w (nth l k).at_.toNat))) else none:=by
 rw[drop_at h,sumP]
theorem JR{p:Part}{n:Int}(h:EP p n=true):0<=p.at_/\p.at_<n:=by
 simp only[EP,Ac,Ah] at h;exact h.1
theorem z9m{w:List Int}{k:Nat}(h:k<w.length):(w.drop k).all symB=(symB (nth w k)&&(w.drop (k+1)).all symB):=by rw[drop_at h,List.all_cons]
theorem z4s(t:Term)(w:List Int)(hl:t.parts.length<=1000000000000)(hw:w.length<=1000000000000)(h32:∀x∈w,-2147483648<=x/\x<=2147483647):PC Tryz.prog 100 [C9 t,Bp w] (optV (Ga t w)):=by
 refine Cd V2 ?_;unfold Oc;refine ywA ?_;refine Ba (B7 (λ(k:Nat)=>k<=w.length/\w.all symB=(w.drop k).all symB) (λk=>w.length-k) (λk=>[(1,Bp w),(2,.ptr 0 1 0 0),(15,Bp w),(16,.int .i64 w.length),(17,.int .i64 k)]) (λ_=>[⟨6,1,true,[C9 t]⟩]) (λenv _=>[D4 0 (env 2)]) 0 oc ?_ ?_)
 ·exact gwA
 rintro k ⟨hk,hr⟩;refine W_T ?_;(with_reducible repeat'(first|simp(disch:=omega)only[push_cast,↓zz,seval]|refine sp_ ?_ ?_<;>try(intro hc;push_cast at hc)|omega|intro _))
 ·have e:Ga t w=none:=by
   rw[z9m om] at hr;have:symB (nth w k)=false:=by simp[symB];omega
   simp[Ga,hr,this]
  rw[e];(repeat'(first|(simp(disch:=omega)only[push_cast,↓zz,seval,GX])|omega|(with_reducible refine Aa ?_ ?_)))
 ·refine⟨k+1,?_⟩
  refine ywA ?_;rw[hr,z9m om];have:symB (nth w k)=true:=by simp[symB];omega
  simp[this]
 ·have e:Ga t w=none:=by
   rw[z9m om] at hr;have:symB (nth w k)=false:=by simp[symB];omega
   simp[Ga,hr,this]
  rw[e];(repeat'(first|(simp(disch:=omega)only[push_cast,↓zz,seval,GX])|omega|(with_reducible refine Aa ?_ ?_)))
 ·have hall:w.all symB=true:=by rw[hr,Ao om];rfl
  clear hr;have hw32:∀j,j<w.length->IntKind.i64.wrap (nth w j)=nth w j:=λj hj=>by have:=h32 _ (Bi hj);exact IntWalk.i64_in _ om
  refine Ba (B7 (λ(s:Nat × Int)=>s.1<=t.parts.length/\sumP w t.parts t.sum=sumP w (t.parts.drop s.1) s.2) (λs=>t.parts.length-s.1) (λs=>[(1,Bp w),(2,.ptr 0 1 0 0),(8,.int .i64 s.2),(31,Cu t.parts),(32,.int .i64 t.parts.length),(33,.int .i64 s.1)]) (λ_=>[⟨6,1,true,[C9 t]⟩]) (λenv _=>[D4 0 (env 2)]) (0,t.sum) oc ?_ ?_)
  ·exact gwA
  rintro⟨k,a⟩ ⟨hk,hr2⟩;simp only at hk hr2;refine W_T ?_;(with_reducible repeat'(first|simp(disch:=omega)only[push_cast,↓zz,seval,hw32]|apply Aa|refine sp_ ?_ ?_<;>intro hc<;>push_cast at hc<;>(try have hk:=JR hc)|(have q_:=H5 (nth t.parts k) w.length;refine ee q_ ?_;clear q_)|(have q_:=Ir (nth t.parts k) (nth w (nth t.parts k).at_.toNat);refine ee q_ ?_;clear q_)|(have q_:=H6 t;refine ee q_ ?_;clear q_)|(have q_:=Ir t.outer a;refine ee q_ ?_;clear q_)|(have q_:=H5 (nth t.parts k) w.length;refine cc q_ ?_;clear q_;simp(disch:=omega)only[push_cast,↓zz,seval,hw32];fail_if_success change False)|(have q_:=Ir (nth t.parts k) (nth w (nth t.parts k).at_.toNat);refine cc q_ ?_;clear q_;simp(disch:=omega)only[push_cast,↓zz,seval,hw32];fail_if_success change False)|(have q_:=H6 t;refine cc q_ ?_;clear q_;simp(disch:=omega)only[push_cast,↓zz,seval,hw32];fail_if_success change False)|(have q_:=Ir t.outer a;refine cc q_ ?_;clear q_;simp(disch:=omega)only[push_cast,↓zz,seval,hw32];fail_if_success change False)|omega|intro _))
  all_goals first
   |(rw[zu4 om] at hr2
     first
     |(have e:Ga t w=none:=by simp[Ga, *]
       rw[e];(repeat'(first|(simp(disch:=omega)only[push_cast,↓zz,seval,GX])|omega|(with_reducible refine Aa ?_ ?_)));done)
     |(refine⟨(k+1,IntKind.i64.wrap (a+val1 (nth t.parts k) (nth w (nth t.parts k).at_.toNat))),?_⟩
       refine ywA ?_
       rw[hr2];simp[‹EP (nth t.parts k) w.length=true›];done))
   |(rw[Ao om] at hr2
     (have hs:sumP w t.parts t.sum=some a:=hr2)
     (have hv:Ga t w=if valB t.outer a&&decide (a<=1114111) then some (IntKind.i64.wrap (t.base+valP t.outer a)) else none:=by simp only[Ga,hall,hs,Br])
     first
     |(rw[hv,Ad (by simp only[Ac,Ah,not_and];intro h;first|omega|(rw[‹valB t.outer a=false›] at h;cases h))];(repeat'(first|(simp(disch:=omega)only[push_cast,↓zz,seval,GX])|omega|(with_reducible refine Aa ?_ ?_)));done)
     |((have hv1:val1 t.outer a=valP t.outer a:=by simp only[val1,‹valB t.outer a=true›,Br])
       rw[hv,Ae (by simp only[Ac,Ah];exact⟨‹_›,om⟩),hv1];(repeat'(first|(simp(disch:=omega)only[push_cast,↓zz,seval,GX])|omega|(with_reducible refine Aa ?_ ?_)));done))
def zu5:Term:=⟨0,0,0,0,0,[]⟩
def zk1(p:Part):Bool:=decide (p.at_=0)&&(decide (p.drop=0)&&(decide (p.take=21)&&decide (p.up=0)))
def putT(u t:Term):Option Term :=
 if (u.parts.length:Int)=0 then some u
 else if 1<(u.parts.length:Int) then none
 else if zk1 (nth u.parts 0)=false then none
 else if Gq u.sum=false then none
 else if L3 t=true then (if Gq t.sum=false then none else if Gq (u.sum+t.sum)=false then none else some ⟨u.base,u.drop,u.take,u.up,u.sum+t.sum,t.parts⟩)
 else if L3 u=false then none
 else if Gq t.base=false then none
 else if Gq (u.sum+t.base)=false then none
 else some ⟨u.sum+t.base,t.drop,t.take,t.up,t.sum,t.parts⟩
abbrev optT(o:Option Term):AV:=.tup [C9 (o.getD zu5),.bool o.isSome]
theorem Qq{x:Int}:Gq x=true ↔ -1114111<=x/\x<=1114111:=by simp[Gq]
theorem GH{x:Int}(h:Gq x=true):-1114111<=x/\x<=1114111:=Qq.1 h
set_option maxHeartbeats 1000000 in
theorem zgf(u t:Term)(hl:t.parts.length<=1000000000000):PC Tryz.prog 175 [C9 u,C9 t] (optT (putT u t)):=by
 refine Cd z4o ?_;unfold Sd;(with_reducible repeat'(first|simp(disch:=omega)only[push_cast,↓zz,seval]|apply Aa|refine sp_ ?_ ?_<;>intro hc<;>push_cast at hc<;>(try have hk:=GH hc)|(have q_:=Iq 0;refine ee q_ ?_;clear q_)|(have q_:=EE u.sum;refine ee q_ ?_;clear q_)|(have q_:=It t;refine ee q_ ?_;clear q_)|(have q_:=It u;refine ee q_ ?_;clear q_)|(have q_:=EE t.sum;refine ee q_ ?_;clear q_)|(have q_:=EE t.base;refine ee q_ ?_;clear q_)|(have q_:=EE (u.sum+t.sum);refine ee q_ ?_;clear q_)|(have q_:=EE (u.sum+t.base);refine ee q_ ?_;clear q_)|(have q_:=Ma t.parts hl;refine ee q_ ?_;clear q_)|(have q_:=Iq 0;refine cc q_ ?_;clear q_;simp(disch:=omega)only[push_cast,↓zz,seval];fail_if_success change False)|(have q_:=EE u.sum;refine cc q_ ?_;clear q_;simp(disch:=omega)only[push_cast,↓zz,seval];fail_if_success change False)|(have q_:=It t;refine cc q_ ?_;clear q_;simp(disch:=omega)only[push_cast,↓zz,seval];fail_if_success change False)|(have q_:=It u;refine cc q_ ?_;clear q_;simp(disch:=omega)only[push_cast,↓zz,seval];fail_if_success change False)|(have q_:=EE t.sum;refine cc q_ ?_;clear q_;simp(disch:=omega)only[push_cast,↓zz,seval];fail_if_success change False)|(have q_:=EE t.base;refine cc q_ ?_;clear q_;simp(disch:=omega)only[push_cast,↓zz,seval];fail_if_success change False)|(have q_:=EE (u.sum+t.sum);refine cc q_ ?_;clear q_;simp(disch:=omega)only[push_cast,↓zz,seval];fail_if_success change False)|(have q_:=EE (u.sum+t.base);refine cc q_ ?_;clear q_;simp(disch:=omega)only[push_cast,↓zz,seval];fail_if_success change False)|(have q_:=Ma t.parts hl;refine cc q_ ?_;clear q_;simp(disch:=omega)only[push_cast,↓zz,seval];fail_if_success change False)|omega|intro _))
 all_goals first
  |(exfalso;simp_all only[A8,Bool.true_eq_false];done)
  |((with_reducible apply zt6);(focus (simp only[putT,zk1,optT,zu5, *,↓reduceIte,reduceCtorEq,Bool.true_eq_false,A8,Option.getD_some,Option.getD_none,Option.isSome_some,Option.isSome_none];exact rfl));(repeat'(first|(simp(disch:=omega)only[push_cast,↓zz,seval,GX])|omega|(with_reducible refine Aa ?_ ?_)));done)
  |((have h0:u.parts=[]:=Az om);((with_reducible apply zt6);(focus (simp only[putT,optT,List.length_nil,Int.cast_ofNat_Int, *,↓reduceIte,reduceCtorEq,Bool.true_eq_false,A8,Option.getD_some,Option.getD_none,Option.isSome_some,Option.isSome_none];exact rfl));(repeat'(first|(simp(disch:=omega)only[push_cast,↓zz,seval,GX])|omega|(with_reducible refine Aa ?_ ?_)));done))
  
abbrev wr(n:Int):Int:=IntKind.i64.wrap n
theorem z9n(n:Int):wr n=(n+9223372036854775808) % 18446744073709551616-9223372036854775808:=by
 show IntKind.i64.wrap n=_;rw[IntWalk.i64_left];unfold RowKit.wrap64;rfl
theorem zoq{n:Int}(h:-9223372036854775808<=n/\n<=9223372036854775807):wr n=n:=by rw[z9n];omega
theorem wr_wr(a b:Int):wr (wr a+b)=wr (a+b):=by rw[z9n,z9n a,z9n (a+b)];omega
theorem wr_bd(a:Int):-9223372036854775808<=wr a/\wr a<=9223372036854775807:=by rw[z9n];omega
def totP(w:List Int):List Part->Int
 |[]=>0
 |p::l=>val1 p (nth w p.at_.toNat)+totP w l
def N4(w:List Int)(l:List Part):Bool:=l.all λp=>EP p w.length
theorem z9o(w:List Int):∀(l:List Part)(a:Int),wr a=a->sumP w l a=if N4 w l then some (wr (a+totP w l)) else none
 |[],a,h=>by simp[sumP,N4,totP,h]
 |p::l,a,h=>by
  rw[sumP];cases hp:EP p w.length
  ·simp[N4,hp]
  ·have ih:=z9o w l (wr (a+val1 p (nth w p.at_.toNat))) (by rw[zoq (wr_bd _)])
   rw[Ae rfl];have e:wr (wr (a+val1 p (nth w p.at_.toNat))+totP w l)=wr (a+totP w (p::l)):=by rw[wr_wr,totP];congr 1;omega
   rw[e] at ih;simp only[N4,List.all_cons,hp,Bj] at ih ⊢;exact ih
theorem z9p{p:Part}{x:Int}(h:Kw p=true)(hx:0<=x/\x<=2097151):EJ p=true/\valB p x=true/\valP p x=x:=by
 simp only[Kw,Ah] at h;obtain⟨h1,h2,h3⟩:=h;have hb:EJ p=true:=by simp[EJ,h1,h2,h3]
 refine⟨hb,(TY hb hx).1,?_⟩;rw[valP,h1,h2,h3];show x / 2 ^ 0 % 2 ^ 21 * 2 ^ 0=x;omega
end Go.Proofs.YtflibbceibjddaaGreat
namespace Go.Proofs.YtflibbceibjddaaGreat
open Abs O1 O2 O3 Go.RowKit
abbrev shI:Sh:=.int .i64
abbrev z9q:Sh:=.sl true [shI,shI]
abbrev Ua:Sh:=.sl false [z9q]
abbrev z9r:Sh:=.sl true [shI,shI,shI,shI]
abbrev z9s:List Sh:=[shI,shI,shI,shI,shI,z9r]
abbrev Yz:Sh:=.sl true z9s
abbrev z9t:List Sh:=[shI,shI,Ua,shI,Yz]
abbrev ZW:List Sh:=[shI,Ua,Yz]
abbrev z9u:List Sh:=[shI,shI,shI,shI,.sl true z9t,.sl true ZW]
theorem N5{α:Type}{agg:Bool}{fs:List Sh}{x:AV}(f:α->AV)(Q:α->Prop)(hp:∀l:List α,AJ (l.map f)=true)(hpos:0<fs.length)
 (he:∀cs,IsL fs cs->∃a,AV.le (if agg then .agg cs else cs.headD .any) (f a)/\Q a) (h:Is (.sl agg fs) x):∃l:List α,AV.le x (.lst fs.length (l.map f))/\l.length<=maxLen/\∀a∈l,Q a:=by
 rcases h with rfl|⟨xs,rfl,hl,hx⟩
 ·exact⟨[],AV.le_nilS hpos,Ap _,λ_ h=>by cases h⟩
 ·have key:∀xs:List AV,(∀y∈xs,∃cs,y=(if agg then AV.agg cs else cs.headD .any)/\IsL fs cs)->∃l:List α,l.length=xs.length/\leL xs (l.map f)/\∀a∈l,Q a:=by
   intro xs
   induction xs with
   |nil=>intro _;exact⟨[],rfl,Hy,λ_ h=>by cases h⟩
   |cons y r ih =>
    intro hy;obtain⟨l,h1,h2,h3⟩:=ih λz hz=>hy z (List.mem_cons_of_mem _ hz);obtain⟨cs,rfl,hcs⟩:=hy y (List.mem_cons_self ..);obtain⟨a,h4,h5⟩:=he cs hcs;refine⟨a::l,by simp[h1],BY h4 h2,λb hb=>?_⟩;rcases Af.1 hb with rfl|hb
    ·exact h5
    ·exact h3 b hb
  obtain⟨l,h1,h2,h3⟩:=key xs hx;exact⟨l,AV.le_lst (by simp[h1]) (hp l) h2,by rw[h1];exact hl,h3⟩
def i64s(l:List Int):Prop:=∀n∈l,(Lit.int .i64 n).wf=true
def Qs(s:Span):Prop:=i64s [s.lo,s.hi]
theorem zgg{x:AV}(h:Is z9q x):∃l:List Span,AV.le x (AA l)/\l.length<=maxLen/\∀s∈l,Qs s :=
 N5 Ce Qs Cs ox (λcs h=>by
  obtain⟨_,_,rfl,⟨a,rfl,ha⟩,_,_,rfl,⟨b,rfl,hb⟩,rfl⟩:=h
  exact⟨⟨a,b⟩,AV.le_refl _,by simp[Qs,i64s,ha,hb]⟩) h
theorem VR{x:AV}(h:Is Ua x):∃l:List (List Span),AV.le x (AQ l)/\l.length<=maxLen/\∀g∈l,g.length<=maxLen/\∀s∈g,Qs s :=
 N5 AA (λg=>g.length<=maxLen/\∀s∈g,Qs s) B0 ox (λcs h=>by
  obtain⟨c,_,rfl,hc,_⟩:=h;obtain⟨l,h1,h2,h3⟩:=zgg hc
  exact⟨l,h1,h2,h3⟩) h
def ZX(p:Part):Prop:=i64s [p.at_,p.drop,p.take,p.up]
theorem zgh{x:AV}(h:Is z9r x):∃l:List Part,AV.le x (Cu l)/\l.length<=maxLen/\∀s∈l,ZX s :=
 N5 Dp ZX Cx ox (λcs h=>by
  obtain⟨_,_,rfl,⟨a,rfl,ha⟩,_,_,rfl,⟨b,rfl,hb⟩,_,_,rfl,⟨c,rfl,hc⟩,_,_,rfl,⟨d,rfl,hd⟩,rfl⟩:=h
  exact⟨⟨a,b,c,d⟩,AV.le_refl _,by simp[ZX,i64s,ha,hb,hc,hd]⟩) h
def ZY(t:Term):Prop:=i64s [t.base,t.drop,t.take,t.up,t.sum]/\t.parts.length<=maxLen/\∀p∈t.parts,ZX p
theorem zgi{cs:List AV}(h:IsL z9s cs):∃t:Term,AV.le (.agg cs) (C9 t)/\ZY t:=by
 obtain⟨_,_,rfl,⟨a,rfl,ha⟩,_,_,rfl,⟨b,rfl,hb⟩,_,_,rfl,⟨c,rfl,hc⟩,_,_,rfl,⟨d,rfl,hd⟩,_,_,rfl,⟨e,rfl,he⟩,x,_,rfl,hx,rfl⟩:=h;obtain⟨l,h1,h2,h3⟩:=zgh hx;exact⟨⟨a,b,c,d,e,l⟩,AV.le_agg (BY (AV.le_refl _) (BY (AV.le_refl _) (BY (AV.le_refl _) (BY (AV.le_refl _) (BY (AV.le_refl _) (BY h1 Hy)))))),by simp[i64s,ha,hb,hc,hd,he],h2,h3⟩
theorem ZZ{x:AV}(h:Is Yz x):∃l:List Term,AV.le x (C5 l)/\l.length<=maxLen/\∀t∈l,ZY t :=
 N5 C9 ZY Cy ox (λcs h=>by simpa using zgi h) h
def z00(g:List (List Span)):Prop:=g.length<=maxLen/\∀l∈g,l.length<=maxLen/\∀s∈l,Qs s
def z9v(l:List Term):Prop:=l.length<=maxLen/\∀t∈l,ZY t
def z9w(r:Rule):Prop:=i64s [r.from_,r.to_,r.eat]/\z00 r.guards/\z9v r.out
def Y0(f:DO):Prop:=i64s [f.from_]/\z00 f.guards/\z9v f.out
theorem zor{cs:List AV}(h:IsL z9t cs):∃r:Rule,AV.le (.agg cs) (DD r)/\z9w r:=by
 obtain⟨_,_,rfl,⟨a,rfl,ha⟩,_,_,rfl,⟨b,rfl,hb⟩,x,_,rfl,hx,_,_,rfl,⟨c,rfl,hc⟩,y,_,rfl,hy,rfl⟩:=h;obtain⟨g,g1,g2,g3⟩:=VR hx;obtain⟨o,o1,o2,o3⟩:=ZZ hy;exact⟨⟨a,b,g,c,o⟩,AV.le_agg (BY (AV.le_refl _) (BY (AV.le_refl _) (BY g1 (BY (AV.le_refl _) (BY o1 Hy))))),by simp[i64s,ha,hb,hc],⟨g2,g3⟩,o2,o3⟩
theorem zgj{cs:List AV}(h:IsL ZW cs):∃r:DO,AV.le (.agg cs) (CY r)/\Y0 r:=by
 obtain⟨_,_,rfl,⟨a,rfl,ha⟩,x,_,rfl,hx,y,_,rfl,hy,rfl⟩:=h;obtain⟨g,g1,g2,g3⟩:=VR hx;obtain⟨o,o1,o2,o3⟩:=ZZ hy;exact⟨⟨a,g,o⟩,AV.le_agg (BY (AV.le_refl _) (BY g1 (BY o1 Hy))),by simp[i64s,ha],⟨g2,g3⟩,o2,o3⟩
def zu6(d:Desc):Prop:=i64s [d.in_,d.out,d.states,d.start]/\(d.rules.length<=maxLen/\∀r∈d.rules,z9w r)/\d.finals.length<=maxLen/\∀f∈d.finals,Y0 f
theorem zos{x:AV}(h:IsP (.rcd z9u) x):∃d:Desc,AV.le x (C6 d)/\zu6 d:=by
 obtain⟨_,rfl,_,_,rfl,⟨a,rfl,ha⟩,_,_,rfl,⟨b,rfl,hb⟩,_,_,rfl,⟨c,rfl,hc⟩,_,_,rfl,⟨e,rfl,he⟩,x,_,rfl,hx,y,_,rfl,hy,rfl⟩:=h;obtain⟨r,r1,r2,r3⟩:=N5 DD z9w BJ ox (λcs h=>by simpa using zor h) hx;obtain⟨f,f1,f2,f3⟩:=N5 CY Y0 BD ox (λcs h=>by simpa using zgj h) hy;exact⟨⟨a,b,c,e,r,f⟩,AV.le_agg (BY (AV.le_refl _) (BY (AV.le_refl _) (BY (AV.le_refl _) (BY (AV.le_refl _) (BY r1 (BY f1 Hy)))))),by simp[i64s,ha,hb,hc,he],⟨r2,r3⟩,f2,f3⟩
theorem zgk{o:Option Int}(h:o.isSome=true):o=some (o.getD 0):=by cases o<;>simp_all
end Go.Proofs.YtflibbceibjddaaGreat
namespace Go.Proofs.YtflibbceibjddaaGreat.Abs
section
variable {P:Program}{n b:Nat}{Q:Ex->Env->A4->Prop}
def Sk(P:Program)(n b:Nat)(c:AC)(Q:Ex->Env->A4->Prop):Nat->Env->A4->Prop
 |0,_,_=>False
 |m+1,env,H=>T P n b c env H (Ex.then (Sk P n b c Q m) Q)
theorem VS{c:AC}{d:Code}(hd:Fy P n d=some c){rd:Option Nat}{mm:Nat}(hrd:c.free=true\/rd=none){S0:MS}:∀(m:Nat)(env:Env)(H:A4)(S:MS)(a:Act),BEvo b S0 S->SRel S H->FRel S n env a->Sk P n b c Q m env H ->
 Code.roundsIn (fen rd) mm P d (After S0 n b Q) m a S.w
 |0,_,_,_,_,_,_,_,h=>h.elim
 |m+1,env,H,S,a,e0,hS,hF,h=>by
  rw[Code.roundsIn];refine wpIn_mono (h rd mm hrd d hd S a e0.n hS hF) λe a' w' hh=>?_;obtain⟨S2,env2,H2,z,rfl,e2,hS2,hF2,rfl,hq⟩:=hh;cases z with
  |normal=>exact VS hd hrd m env2 H2 S2 a' (e0.trans e2) hS2 hF2 hq
  |exit id=>exact⟨S2,env2,H2,.exit id,rfl,e0.trans e2,hS2,hF2,rfl,hq⟩
  |ret=>exact⟨S2,env2,H2,.ret,rfl,e0.trans e2,hS2,hF2,rfl,hq⟩
theorem zgl{c:AC}{env:Env}{H:A4}(m:Nat)(h:Sk P n b c Q m env H):T P n b (.loop c) env H Q:=T_of λrd mm hrd code hc hs S a hb hS hF=>by
 cases code<;>simp only[Fy,reduceCtorEq,Aq] at hc
 case loop d =>
  obtain⟨x,hx,hh⟩:=Ag.1 hc;cases hh;exact wpIn_loop_rounds m (VS hx hrd m env H S a (.refl hb) hS hF h)
 case region=>exact absurd hc Eb
 case seq=>split at hc<;>cases hc
 case cond=>split at hc<;>cases hc
 case block=>obtain⟨_,_,h⟩:=Ag.1 hc;cases h
 case rangeFunc=>split at hc<;>cases hc
 case scope d=>exact absurd rfl (hs d)
theorem VT{c:AC}{env:Env}{H:A4}(m:Nat)(h:W P n b c env H (Ex.then (Sk P n b c Q m) Q)):@Lr ⟨T P n b (.loop c) env H Q⟩:=zgl (m+1) (W_T h)
theorem Y1{c:AC}{env:Env}{H:A4}{m:Nat}(h:W P n b c env H (Ex.then (Sk P n b c Q m) Q)):Sk P n b c Q (m+1) env H:=W_T h
end
theorem z01{S:MS}:∀{xs ys:List AV}{vs:List Value},AB S (xs++ys) vs->∃v1 v2,vs=v1++v2/\AB S xs v1
 |[],ys,vs,h=>⟨[],vs,rfl,rfl⟩
 |x::xs,ys,vs,h=>by
  obtain⟨v,r,rfl,h1,h2⟩:=h;obtain⟨v1,v2,rfl,h3⟩:=z01 (xs:=xs) (ys:=ys) h2;exact⟨v::v1,v2,rfl,v,v1,rfl,h1,h3⟩
theorem z4t{S:MS}{w v:Nat}{ex:Bool}{xs ys:List AV}(hw:0<w)(hS:SRel S (hl [⟨w,v,ex,xs++ys⟩])):SRel S (hl [⟨w,v,false,xs⟩]):=by
 have h0:GRel S ⟨w,v,ex,xs++ys⟩ 0:=hS.grp 0 (by show 0<1;omega)
 have hg:GRel S ⟨w,v,false,xs⟩ 0:=by
  refine⟨h0.ver,h0.wid,λ_ hc=>?_,λ_=>?_,λ_ h=>(by cases h),λh=>?_⟩
  ·obtain⟨⟨cells,TT,vs,a1,a2,a3,a4⟩,a5⟩:=h0.live hw hc
   obtain⟨v1,v2,rfl,h1⟩:=z01 a3;refine⟨⟨cells,TT,v1,a1,a2,h1,λi u hu=>a4 i u ?_⟩,a5⟩;obtain⟨hl1,_⟩:=Bh.1 hu;rw[A9 hl1];exact hu
  ·have:=h0.len hw
   simp only[Ai] at this;show xs.length<=_;omega
  ·simp only at h;omega
 refine⟨hS.n,λg hg'=>?_,λg g' a c hne=>?_,hS.im⟩
 ·have hz:g<1:=hg'
  obtain rfl:g=0:=om
  exact hg
 ·have a':g<1:=a
  have c':g'<1:=c;omega
theorem VU{P:Program}{f:Nat}{args:List AV}{H:A4}{w v:Nat}{ex:Bool}{xs:List AV}{y0:AV}(hw:0<w)(h:B9 P f args H λy H'=>∃ys,y=y0/\H'=hl [⟨w,v,ex,xs++ys⟩]):B9 P f args H λy H'=>y=y0/\H'=hl [⟨w,v,false,xs⟩] :=
 ⟨h.1,λS cargs hS hx=>(h.2 S cargs hS hx).mono λe w' hh=>by
  obtain⟨v,S1,y,H',he,hw',ev,hS1,hv,ys,rfl,rfl⟩:=hh
  exact⟨v,S1,_,_,he,hw',ev,z4t hw hS1,hv,rfl,rfl⟩⟩
theorem zot{P:Program}{f:Nat}{xs ys:List AV}{l:List Grp}{K:AV->A4->Prop}(h1:okA 4 ((hl l).only (Dl xs)) xs)(h2:leSL [] (frA 4 ((hl l).only (Dl xs)) xs) ys)(h3:@Rs P f ys (hl (Ec 0 (Dl xs) l)) ⟨K⟩):@Rs P f xs (hl l) ⟨K⟩ :=
 RO 4 (Dl xs) (PL h1) (Jl (LP h2) h3)
def Cw(i:Nat)(ks:List Nat):List Grp->List Grp->Prop
 |[],_=>True
 |_::_,[]=>False
 |G::l,G'::l'=>(i∈ks\/G=G')/\Cw (i+1) ks l l'
theorem Cw.of{ks:List Nat}:∀{i:Nat}{l l':List Grp},Cw i ks l l'->l.length<=l'.length/\∀g,i+g∉ks->g<l.length->l'.getD g default=l.getD g default
 |_,[],_,_=>⟨oc,λg _ h=>absurd h oc⟩
 |_,_::_,[],h=>h.elim
 |i,G::l,G'::l',h=>by
  obtain⟨h1,h2⟩:=Cw.of h.2;refine⟨by simpa using h1,λg hg hl=>?_⟩;cases g with
  |zero =>
   rcases h.1 with h3|h3
   ·exact absurd h3 hg
   ·simp[h3]
  |succ g =>
   have:=h2 g (by rwa [show i+1+g=i+(g+1) by omega]) (by simpa using hl);simpa using this
def effB(ks:List Nat):AK->List Grp->List Grp->Prop
 |.app ..,l,l'=>Cw 0 ks l l'
 |.mkMap,l,l'=>Cw 0 ks l l'
 |.mapSet,l,l'=>Cw 0 ks l l'
 |_,_,_=>True
theorem z9x{ks:List Nat}{k:AK}{l l':List Grp}(h:effB ks k l l')(h2:k.eff=some 2):l.length<=l'.length/\∀g,g∉ks->g<l.length->l'.getD g default=l.getD g default:=by
 have key:Cw 0 ks l l':=by cases k<;>first|exact h|(simp[AK.eff] at h2)
 obtain⟨a,c⟩:=key.of;exact⟨a,λg hg=>c g (by simpa using hg)⟩
def xk(P:Program)(ks:List Nat):List Bool->List AOp->Env->List Grp->(Env->List Grp->Prop)->Prop
 |_,[],env,l,K=>K env l
 |fl,⟨dst,args,none,k⟩::r,env,l,K=>(fl.headD false=true->BW (·∉ks) (args.map (·.eval env)))/\@opG P k l (args.map (·.eval env)) ⟨λx l'=>effB ks k l l'/\xk P ks fl.tail r (env.put dst x) l' K⟩
 |fl,⟨dst,args,some (d,want),k⟩::r,env,l,K=>@GC (env d) want
  ⟨(fl.headD false=true->BW (·∉ks) (args.map (·.eval (env.put (some d) (.bool want)))))/\@opG P k l (args.map (·.eval (env.put (some d) (.bool want)))) ⟨λx l'=>effB ks k l l'/\xk P ks fl.tail r ((env.put (some d) (.bool want)).put dst x) l' K⟩⟩
  ⟨xk P ks fl.tail r ((env.put (some d) (.bool (!want))).put dst (.tup [])) l K⟩ ⟨xk P ks fl.tail r (env.put dst (.tup [])) l K⟩
theorem Qt(P:Program)(ks:List Nat):∀(L:List AOp)(fl:List Bool)(env:Env)(l:List Grp){K:Env->List Grp->Prop},xk P ks fl L env l K->runX P ks fl L env l K
 |[],_,_,_,_,h=>h
 |⟨dst,args,none,k⟩::r,fl,env,l,K,h=>by
  obtain⟨h0,h'⟩:=h;have:=Nq h';simp only[runX,I2,AOp.vals,Br];split at this
  ·rename_i he
   rw[Ae he];obtain⟨x,h1,h2⟩:=this;exact⟨h0,x,h1,Qt P ks r _ _ _ h2.2⟩
  ·rename_i he
   rw[Ad he];obtain⟨x,l',b1,b2,b3⟩:=this;exact⟨x,l',b1,b2,z9x b3.1,h0,Qt P ks r _ _ _ b3.2⟩
 |⟨dst,args,some (d,want),k⟩::r,fl,env,l,K,h=>by
  have h':I1 (env d) want ((fl.headD false=true->BW (·∉ks) (args.map (·.eval (env.put (some d) (.bool want)))))/\@opG P k l (args.map (·.eval (env.put (some d) (.bool want)))) ⟨λx l'=>effB ks k l l'/\xk P ks fl.tail r ((env.put (some d) (.bool want)).put dst x) l' K⟩)
   (xk P ks fl.tail r ((env.put (some d) (.bool (!want))).put dst (.tup [])) l K) (xk P ks fl.tail r (env.put dst (.tup [])) l K):=h
  simp only[runX,I2,AOp.vals,Br,A8,Bq];refine LN (λh1=>?_) (λh1=>Qt P ks r _ _ _ h1) (λh1=>Qt P ks r _ _ _ h1) h';obtain⟨h0,h1⟩:=h1;have:=Nq h1;split at this
  ·rename_i he
   obtain⟨x,h1,h2⟩:=this;rw[Ae he];exact⟨h0,x,h1,Qt P ks r _ _ _ h2.2⟩
  ·rename_i he
   rw[Ad he];obtain⟨x,l',b1,b2,b3⟩:=this;exact⟨x,l',b1,b2,z9x b3.1,h0,Qt P ks r _ _ _ b3.2⟩
section
variable {P:Program}{n b:Nat}{Q:Ex->Env->A4->Prop}{ks:List Nat}{env:Env}{l:List Grp}{K:Env->List Grp->Prop}{fl:List Bool}{r:List AOp}{dst:Option Nat}{args:List AArg}{k:AK}
theorem Gr{L:List AOp}(ks:List Nat)(h:xk P ks fl L env l λenv' l'=>Q .normal env' (hl l')):@Lr ⟨T P n b (.grx fl L) env (hl l) Q⟩:=T_grx ks (Qt P ks L fl env l h)
theorem O5{x:AV}{w:Bool}{p p2 q s:HP}(h:p.p=p2.p):@GC x w p q s=@GC x w p2 q s:=by cases p;cases p2;cases h;rfl
theorem xk1:xk P ks fl [] env l K=K env l:=by cases fl<;>rfl
theorem xk2:xk P ks (false::fl) (⟨dst,args,none,k⟩::r) env l K=@opG P k l (args.map (·.eval env)) ⟨λx l'=>effB ks k l l'/\xk P ks fl r (env.put dst x) l' K⟩:=propext ⟨λh=>h.2,λh=>⟨λh0=>(by cases h0),h⟩⟩
theorem xk3:xk P ks (true::fl) (⟨dst,args,none,k⟩::r) env l K=(BW (·∉ks) (args.map (·.eval env))/\@opG P k l (args.map (·.eval env)) ⟨λx l'=>effB ks k l l'/\xk P ks fl r (env.put dst x) l' K⟩):=propext ⟨λh=>⟨h.1 rfl,h.2⟩,λh=>⟨λ_=>h.1,h.2⟩⟩
theorem xk4{d:Nat}{want:Bool}:xk P ks (false::fl) (⟨dst,args,some (d,want),k⟩::r) env l K=@GC (env d) want
 ⟨@opG P k l (args.map (·.eval (env.put (some d) (.bool want)))) ⟨λx l'=>effB ks k l l'/\xk P ks fl r ((env.put (some d) (.bool want)).put dst x) l' K⟩⟩
 ⟨xk P ks fl r ((env.put (some d) (.bool (!want))).put dst (.tup [])) l K⟩ ⟨xk P ks fl r (env.put dst (.tup [])) l K⟩:=O5 (propext ⟨λh=>h.2,λh=>⟨λh0=>(by cases h0),h⟩⟩)
theorem xk5{d:Nat}{want:Bool}:xk P ks (true::fl) (⟨dst,args,some (d,want),k⟩::r) env l K=@GC (env d) want
 ⟨BW (·∉ks) (args.map (·.eval (env.put (some d) (.bool want))))/\@opG P k l (args.map (·.eval (env.put (some d) (.bool want)))) ⟨λx l'=>effB ks k l l'/\xk P ks fl r ((env.put (some d) (.bool want)).put dst x) l' K⟩⟩
 ⟨xk P ks fl r ((env.put (some d) (.bool (!want))).put dst (.tup [])) l K⟩ ⟨xk P ks fl r (env.put dst (.tup [])) l K⟩:=O5 (propext ⟨λh=>⟨h.1 rfl,h.2⟩,λh=>⟨λ_=>h.1,h.2⟩⟩)
variable {l2:List Grp}
theorem xk6{w s:Nat}{z:AV}:effB ks (.app w s z) l l2=Cw 0 ks l l2:=rfl
theorem xk7:effB ks .mapSet l l2=Cw 0 ks l l2:=rfl
theorem xk8:effB ks .mkMap l l2=Cw 0 ks l l2:=rfl
theorem zu7  : effB ks (.mv ) l l2=True:=rfl
theorem z9y  : effB ks (.pick ) l l2=True:=rfl
theorem z02{a0:AV}{a1:Nat}:effB ks (.alloc a0 a1) l l2=True:=rfl
theorem zk2  : effB ks (.box ) l l2=True:=rfl
theorem z03{a0:List AV}{a1:List (Nat × Nat)}{a2:List Nat}:effB ks (.build a0 a1 a2) l l2=True:=rfl
theorem VV{a0:Nat}{a1:Nat}{a2:AV}{a3:List Nat}:effB ks (.bslice a0 a1 a2 a3) l l2=True:=rfl
theorem z9z{a0:Bool}{a1:Nat}:effB ks (.load a0 a1) l l2=True:=rfl
theorem z04{a0:Nat}:effB ks (.store a0) l l2=True:=rfl
theorem Qu  : effB ks (.nilCheck ) l l2=True:=rfl
theorem zk3{a0:BinOp}:effB ks (.bin a0) l l2=True:=rfl
theorem zk4{a0:Bool}:effB ks (.eqb a0) l l2=True:=rfl
theorem zk5{a0:Bool}{a1:List Nat}:effB ks (.eqs a0 a1) l l2=True:=rfl
theorem zk6{a0:Bool}:effB ks (.eqn a0) l l2=True:=rfl
theorem zu8{a0:UnOp}:effB ks (.un a0) l l2=True:=rfl
theorem za0{a0:IntKind}:effB ks (.conv a0) l l2=True:=rfl
theorem z05  : effB ks (.toStr ) l l2=True:=rfl
theorem VW  : effB ks (.runStr ) l l2=True:=rfl
theorem z06{a0:Nat}{a1:Bool}{a2:Bool}{a3:Bool}:effB ks (.slice a0 a1 a2 a3) l l2=True:=rfl
theorem z07{a0:Bool}{a1:Nat}{a2:Nat}:effB ks (.faddr a0 a1 a2) l l2=True:=rfl
theorem z08{a0:Bool}{a1:Nat}{a2:Nat}:effB ks (.field a0 a1 a2) l l2=True:=rfl
theorem z09{a0:Nat}:effB ks (.iaddr a0) l l2=True:=rfl
theorem VX{a0:Nat}{a1:Nat}{a2:Bool}:effB ks (.iaddrA a0 a1 a2) l l2=True:=rfl
theorem z0a{a0:Nat}{a1:Nat}{a2:Bool}:effB ks (.index a0 a1 a2) l l2=True:=rfl
theorem Qv  : effB ks (.indexStr ) l l2=True:=rfl
theorem Sl{a0:Nat}:effB ks (.extract a0) l l2=True:=rfl
theorem zk7{a0:Bool}:effB ks (.len a0) l l2=True:=rfl
theorem zk8  : effB ks (.max ) l l2=True:=rfl
theorem zk9  : effB ks (.min ) l l2=True:=rfl
theorem Sm{a0:Nat}{a1:Nat}{a2:AV}:effB ks (.mkSlice a0 a1 a2) l l2=True:=rfl
theorem VY{a0:Nat}:effB ks (.mkFunc a0) l l2=True:=rfl
theorem VZ{a0:AV}:effB ks (.mapGet a0) l l2=True:=rfl
theorem za1  : effB ks (.call ) l l2=True:=rfl
theorem sb1{i:Nat}:Cw i ks [] l=True:=rfl
theorem sb2{i:Nat}{G G2:Grp}:Cw i ks (G::l) (G2::l2)=((i∈ks\/G=G2)/\Cw (i+1) ks l l2):=rfl
end
theorem xx:type_of% (Aa @xk1 <| Aa @xk2 <| Aa @xk3 <| Aa @xk4 <| Aa @xk5 <| Aa @xk6 <| Aa @xk7 <| Aa @xk8 <| Aa @zu7 <| Aa @z9y <| Aa @z02 <| Aa @zk2 <| Aa @z03 <| Aa @VV <| Aa @z9z <| Aa @z04 <| Aa @Qu <| Aa @zk3 <| Aa @zk4 <| Aa @zk5 <| Aa @zk6 <| Aa @zu8 <| Aa @za0 <| Aa @z05 <| Aa @VW <| Aa @z06 <| Aa @z07 <| Aa @z08 <| Aa @z09 <| Aa @VX <| Aa @z0a <| Aa @Qv <| Aa @Sl <| Aa @zk7 <| Aa @zk8 <| Aa @zk9 <| Aa @Sm <| Aa @VY <| Aa @VZ <| Aa @za1 <| Aa @sb1 <| @sb2):=Aa @xk1 <| Aa @xk2 <| Aa @xk3 <| Aa @xk4 <| Aa @xk5 <| Aa @xk6 <| Aa @xk7 <| Aa @xk8 <| Aa @zu7 <| Aa @z9y <| Aa @z02 <| Aa @zk2 <| Aa @z03 <| Aa @VV <| Aa @z9z <| Aa @z04 <| Aa @Qu <| Aa @zk3 <| Aa @zk4 <| Aa @zk5 <| Aa @zk6 <| Aa @zu8 <| Aa @za0 <| Aa @z05 <| Aa @VW <| Aa @z06 <| Aa @z07 <| Aa @z08 <| Aa @z09 <| Aa @VX <| Aa @z0a <| Aa @Qv <| Aa @Sl <| Aa @zk7 <| Aa @zk8 <| Aa @zk9 <| Aa @Sm <| Aa @VY <| Aa @VZ <| Aa @za1 <| Aa @sb1 <| @sb2
theorem zgm{P:Program}{l:List Grp}{xs:List AV}{K:AV->List Grp->Prop}:@opG P .mapSet l xs ⟨K⟩=@opK P .mapSet (hl l) xs ⟨λx H'=>∀l',H'=hl l'->K x l'⟩:=(z4k rfl rfl).trans (by simp only[AK.appOk,Tp,Dz])
attribute [push_cast] zfy zgm
def effY(ks ks2:List Nat):AK->List Grp->List Grp->Prop
 |.app ..,l,l'=>Cw 0 ks l l'/\(l'.length=l.length\/l.length∈ks/\l'.length=l.length+1)
 |.mkMap,l,l'=>Cw 0 ks l l'
 |.mapSet,l,l'=>Cw 0 ks l l'
 |.store _,l,l'=>Cw 0 ks2 l l'/\l'.length=l.length
 |_,_,_=>True
theorem N6{ks ks2:List Nat}{k:AK}{l l':List Grp}(h:effY ks ks2 k l l'):(k.eff=some 2->l.length<=l'.length/\∀g,g∉ks->g<l.length->l'.getD g default=l.getD g default)/\(k.eff=some 1->∀g,g∉ks2->g<l.length->l'.getD g default=l.getD g default)/\(k.grows=true->∀g,g∉ks->g<l'.length->g<l.length):=by
 refine⟨λh2=>?_,λh2=>?_,λh2 g hg hlt=>?_⟩
 ·have key:Cw 0 ks l l':=by cases k<;>first|exact h|exact h.1|(simp[AK.eff] at h2)
  obtain⟨a,c⟩:=key.of;exact⟨a,λg hg=>c g (by simpa using hg)⟩
 ·have key:Cw 0 ks2 l l':=by cases k<;>first|exact h.1|(simp[AK.eff] at h2)
  exact λg hg=>key.of.2 g (by simpa using hg)
 ·cases k<;>first|(cases h2;done)|skip
  rcases h.2 with h3|⟨h3,h4⟩
  ·omega
  ·rcases Aj g l.length with h5|h5
   ·exact h5
   ·exact absurd ((show g=l.length by omega) ▸ h3) hg
def fcY:Bool->Prop->Prop
 |true,p=>p
 |false,_=>True
theorem O6{f:Bool}{p:Prop}(h:fcY f p)(hf:f=true):p:=by subst hf;exact h
class KM where
 f:Int->Int->Prop
def twoI(x y:AV)[K:KM]:Prop:=match x,y with
 |.int _ a,.int _ b=>K.f a b
 |_,_=>False
structure KL where
 f:Grp->AV->Prop
def zou(k:AK)(xs:List AV)(g:Nat)(K:KL):Prop:=match k,xs with
 |.alloc z w,[]=>K.f ⟨w,2,true,[z]⟩ (.ptr g 2 0 0)
 |.box,[y]=>GB y.cells=true/\0<y.cells.length/\K.f ⟨y.cells.length,2,true,[y]⟩ (.ptr g 2 0 0)
 |.mkSlice w bytes z,[a,b]=>@twoI a b ⟨λl c=>0<=l/\l<=c/\c * bytes<=140737488355328/\K.f ⟨w,2,true,List.replicate c.toNat z⟩ (.ref g 2 0 l.toNat)⟩
 |_,_=>False
theorem zgn{k:AK}{xs:List AV}{g:Nat}{K:KL}(h:zou k xs g K):∃G x,XI k xs g G x/\K.f G x:=by
 unfold zou at h;split at h
 ·exact⟨_,_,⟨rfl,rfl⟩,h⟩
 ·exact⟨_,_,⟨h.1,h.2.1,rfl,rfl⟩,h.2.2⟩
 ·rename_i a b
  cases a<;>cases b<;>try exact h.elim
  obtain⟨h1,h2,h3,h4⟩:=h;exact⟨_,_,⟨h1,h2,h3,rfl,rfl⟩,h4⟩
 ·exact h.elim
def gsOk:List (Option Nat)->List AOp->Bool
 |_,[]=>true
 |gs,o::r=>(match gs.headD none with|some _=>o.guard.isNone&&o.k.laid|none=>!o.k.laid)&&gsOk gs.tail r
def xy(P:Program)(ks ks2:List Nat):List (Option Nat)->List Bool->List AOp->Env->List Grp->(Env->List Grp->Prop)->Prop
 |_,_,[],env,l,K=>K env l
 |gs,fl,⟨dst,args,none,k⟩::r,env,l,K=>match gs.headD none with
  |some g=>zou k (args.map (·.eval env)) g ⟨λG x=>g<l.length/\(hl l).at_ g=⟨G.w,1,true,[]⟩/\g∈ks/\∀l',(hl l).set g G=hl l'->xy P ks ks2 gs.tail fl.tail.tail r (env.put dst x) l' K⟩
  |none=>(fcY (fl.headD false) (BW (·∉ks) (args.map (·.eval env)))/\fcY (fl.tail.headD false) (BW (·∉ks2) (args.map (·.eval env))))/\@opG P k l (args.map (·.eval env)) ⟨λx l'=>effY ks ks2 k l l'/\xy P ks ks2 gs.tail fl.tail.tail r (env.put dst x) l' K⟩
 |gs,fl,⟨dst,args,some (d,want),k⟩::r,env,l,K=>@GC (env d) want
  ⟨(fcY (fl.headD false) (BW (·∉ks) (args.map (·.eval (env.put (some d) (.bool want)))))/\fcY (fl.tail.headD false) (BW (·∉ks2) (args.map (·.eval (env.put (some d) (.bool want))))))/\@opG P k l (args.map (·.eval (env.put (some d) (.bool want)))) ⟨λx l'=>effY ks ks2 k l l'/\xy P ks ks2 gs.tail fl.tail.tail r ((env.put (some d) (.bool want)).put dst x) l' K⟩⟩
  ⟨xy P ks ks2 gs.tail fl.tail.tail r ((env.put (some d) (.bool (!want))).put dst (.tup [])) l K⟩ ⟨xy P ks ks2 gs.tail fl.tail.tail r (env.put dst (.tup [])) l K⟩
theorem ML(P:Program)(ks ks2:List Nat):∀(L:List AOp)(gs:List (Option Nat))(fl:List Bool)(env:Env)(l:List Grp){K:Env->List Grp->Prop},gsOk gs L=true->xy P ks ks2 gs fl L env l K->runY P (ks,ks2) fl L env l K
 |[],_,_,_,_,_,_,h=>by simpa only[xy,runY] using h
 |⟨dst,args,none,k⟩::r,gs,fl,env,l,K,hg,h=>by
  simp only[gsOk,Ac] at hg;simp only[xy] at h;simp only[runY,I2,AOp.vals,Br];cases hh:gs.headD none with
  |some g =>
   rw[hh] at h hg;have hla:k.laid=true:=by simpa using hg.1
   obtain⟨G,x,hG,h1,h2,h3,h4⟩:=zgn h;rw[Ae hla];exact⟨_,_,⟨g,G,hG,h1,h2,h3,rfl⟩,ML P ks ks2 r _ _ _ _ hg.2 (h4 _ (IJ _ _ _ h1))⟩
  |none =>
   rw[hh] at h hg;have hl:k.laid=false:=by simpa using hg.1
   rw[Ad (by rw[hl];simp)];obtain⟨h0,h'⟩:=h;have:=Nq h';split at this
   ·rename_i he
    rw[Ae he];obtain⟨x,h1,h2⟩:=this;exact⟨⟨O6 h0.1,O6 h0.2⟩,x,h1,ML P ks ks2 r _ _ _ _ hg.2 h2.2⟩
   ·rename_i he
    rw[Ad he];obtain⟨x,l',b1,b2,b3⟩:=this;exact⟨x,l',b1,b2,(N6 b3.1).1,(N6 b3.1).2.1,(N6 b3.1).2.2,⟨O6 h0.1,O6 h0.2⟩,ML P ks ks2 r _ _ _ _ hg.2 b3.2⟩
 |⟨dst,args,some (d,want),k⟩::r,gs,fl,env,l,K,hg,h=>by
  simp only[gsOk,Ac] at hg
  have hl:k.laid=false:=by
   cases hh:gs.headD none with
   |some g=>rw[hh] at hg;simp at hg
   |none=>rw[hh] at hg;simpa using hg.1
  have h':I1 (env d) want ((fcY (fl.headD false) (BW (·∉ks) (args.map (·.eval (env.put (some d) (.bool want)))))/\fcY (fl.tail.headD false) (BW (·∉ks2) (args.map (·.eval (env.put (some d) (.bool want))))))/\@opG P k l (args.map (·.eval (env.put (some d) (.bool want)))) ⟨λx l'=>effY ks ks2 k l l'/\xy P ks ks2 gs.tail fl.tail.tail r ((env.put (some d) (.bool want)).put dst x) l' K⟩)
   (xy P ks ks2 gs.tail fl.tail.tail r ((env.put (some d) (.bool (!want))).put dst (.tup [])) l K) (xy P ks ks2 gs.tail fl.tail.tail r (env.put dst (.tup [])) l K):=h
  simp only[runY,I2,AOp.vals,Br,A8,Bq];refine LN (λh1=>?_) (λh1=>ML P ks ks2 r _ _ _ _ hg.2 h1) (λh1=>ML P ks ks2 r _ _ _ _ hg.2 h1) h';rw[Ad (by rw[hl];simp)];obtain⟨h0,h1⟩:=h1;have:=Nq h1;split at this
  ·rename_i he
   obtain⟨x,h1,h2⟩:=this;rw[Ae he];exact⟨⟨O6 h0.1,O6 h0.2⟩,x,h1,ML P ks ks2 r _ _ _ _ hg.2 h2.2⟩
  ·rename_i he
   rw[Ad he];obtain⟨x,l',b1,b2,b3⟩:=this;exact⟨x,l',b1,b2,(N6 b3.1).1,(N6 b3.1).2.1,(N6 b3.1).2.2,⟨O6 h0.1,O6 h0.2⟩,ML P ks ks2 r _ _ _ _ hg.2 b3.2⟩
section
variable {P:Program}{n b:Nat}{Q:Ex->Env->A4->Prop}{ks ks2:List Nat}{gs:List (Option Nat)}{g:Nat}{env:Env}{l:List Grp}{K:Env->List Grp->Prop}{f f2:Bool}{fl:List Bool}{r:List AOp}{dst:Option Nat}{args:List AArg}{k:AK}
theorem za2{L:List AOp}(ks:List Nat)(ws:List Nat)(gs:List (Option Nat))(hw:∀w∈ws,0<w)(hg:gsOk gs L=true)(h:xy P ks ks gs fl L env (l++ws.map Jo) λenv' l'=>Q .normal env' (hl l')):@Lr ⟨T P n b (.gry fl L) env (hl l) Q⟩:=TB ws hw (zju (ks,ks) (ML P ks ks L gs fl env _ hg h))
theorem zgo{L:List AOp}(ks ks2:List Nat)(ws:List Nat)(gs:List (Option Nat))(hw:∀w∈ws,0<w)(hg:gsOk gs L=true)(h:xy P ks ks2 gs fl L env (l++ws.map Jo) λenv' l'=>Q .normal env' (hl l')):@Lr ⟨T P n b (.gry fl L) env (hl l) Q⟩:=TB ws hw (zju (ks,ks2) (ML P ks ks2 L gs fl env _ hg h))
theorem xy1:xy P ks ks2 gs fl [] env l K=K env l:=by simp only[xy]
theorem xy2:xy P ks ks2 (none::gs) (f::f2::fl) (⟨dst,args,none,k⟩::r) env l K=((fcY f (BW (·∉ks) (args.map (·.eval env)))/\fcY f2 (BW (·∉ks2) (args.map (·.eval env))))/\@opG P k l (args.map (·.eval env)) ⟨λx l'=>effY ks ks2 k l l'/\xy P ks ks2 gs fl r (env.put dst x) l' K⟩):=by simp only[xy];rfl
theorem xy4{d:Nat}{want:Bool}:xy P ks ks2 (none::gs) (f::f2::fl) (⟨dst,args,some (d,want),k⟩::r) env l K=@GC (env d) want
 ⟨(fcY f (BW (·∉ks) (args.map (·.eval (env.put (some d) (.bool want)))))/\fcY f2 (BW (·∉ks2) (args.map (·.eval (env.put (some d) (.bool want))))))/\@opG P k l (args.map (·.eval (env.put (some d) (.bool want)))) ⟨λx l'=>effY ks ks2 k l l'/\xy P ks ks2 gs fl r ((env.put (some d) (.bool want)).put dst x) l' K⟩⟩
 ⟨xy P ks ks2 gs fl r ((env.put (some d) (.bool (!want))).put dst (.tup [])) l K⟩ ⟨xy P ks ks2 gs fl r (env.put dst (.tup [])) l K⟩:=by simp only[xy];rfl
theorem zu9{p:Prop}:fcY true p=p:=rfl
theorem zua{p:Prop}:fcY false p=True:=rfl
theorem xy6{z:AV}{w:Nat}:xy P ks ks2 (some g::gs) (f::f2::fl) (⟨dst,[],none,.alloc z w⟩::r) env l K=(g<l.length/\(hl l).at_ g=⟨w,1,true,[]⟩/\g∈ks/\∀l',(hl l).set g ⟨w,2,true,[z]⟩=hl l'->xy P ks ks2 gs fl r (env.put dst (.ptr g 2 0 0)) l' K):=by simp only[xy];rfl
theorem xy6b{a:AArg}:xy P ks ks2 (some g::gs) (f::f2::fl) (⟨dst,[a],none,.box⟩::r) env l K=(GB (a.eval env).cells=true/\0<(a.eval env).cells.length/\g<l.length/\(hl l).at_ g=⟨(a.eval env).cells.length,1,true,[]⟩/\g∈ks/\∀l',(hl l).set g ⟨(a.eval env).cells.length,2,true,[a.eval env]⟩=hl l'->xy P ks ks2 gs fl r (env.put dst (.ptr g 2 0 0)) l' K):=by simp only[xy];rfl
theorem xy6m{a a':AArg}{w m:Nat}{z:AV}:xy P ks ks2 (some g::gs) (f::f2::fl) (⟨dst,[a,a'],none,.mkSlice w m z⟩::r) env l K=@twoI (a.eval env) (a'.eval env) ⟨λi c=>0<=i/\i<=c/\c * m<=140737488355328/\g<l.length/\(hl l).at_ g=⟨w,1,true,[]⟩/\g∈ks/\∀l',(hl l).set g ⟨w,2,true,List.replicate c.toNat z⟩=hl l'->xy P ks ks2 gs fl r (env.put dst (.ref g 2 0 i.toNat)) l' K⟩:=by simp only[xy];rfl
theorem z0b{k k':IntKind}{a c:Int}{K:Int->Int->Prop}:@twoI (.int k a) (.int k' c) ⟨K⟩=K a c:=rfl
theorem xy7:xy P ks ks2 [] fl (⟨dst,args,none,k⟩::r) env l K=xy P ks ks2 [none] fl (⟨dst,args,none,k⟩::r) env l K:=by simp only[xy];rfl
theorem xy8{d:Nat}{want:Bool}:xy P ks ks2 [] fl (⟨dst,args,some (d,want),k⟩::r) env l K=xy P ks ks2 [none] fl (⟨dst,args,some (d,want),k⟩::r) env l K:=by simp only[xy];rfl
variable {l2:List Grp}
theorem zka{w s:Nat}{z:AV}:effY ks ks2 (.app w s z) l l2=(Cw 0 ks l l2/\(l2.length=l.length\/l.length∈ks/\l2.length=l.length+1)):=rfl
theorem Wa:effY ks ks2 .mapSet l l2=Cw 0 ks l l2:=rfl
theorem z0c:effY ks ks2 .mkMap l l2=Cw 0 ks l l2:=rfl
theorem z0d{s:Nat}:effY ks ks2 (.store s) l l2=(Cw 0 ks2 l l2/\l2.length=l.length):=rfl
theorem zub  : effY ks ks2 (.mv ) l l2=True:=rfl
theorem za3  : effY ks ks2 (.pick ) l l2=True:=rfl
theorem z0e{a0:AV}{a1:Nat}:effY ks ks2 (.alloc a0 a1) l l2=True:=rfl
theorem zkb  : effY ks ks2 (.box ) l l2=True:=rfl
theorem z0f{a0:List AV}{a1:List (Nat × Nat)}{a2:List Nat}:effY ks ks2 (.build a0 a1 a2) l l2=True:=rfl
theorem Wb{a0:Nat}{a1:Nat}{a2:AV}{a3:List Nat}:effY ks ks2 (.bslice a0 a1 a2 a3) l l2=True:=rfl
theorem za4{a0:Bool}{a1:Nat}:effY ks ks2 (.load a0 a1) l l2=True:=rfl
theorem Qw  : effY ks ks2 (.nilCheck ) l l2=True:=rfl
theorem zkc{a0:BinOp}:effY ks ks2 (.bin a0) l l2=True:=rfl
theorem zkd{a0:Bool}:effY ks ks2 (.eqb a0) l l2=True:=rfl
theorem zke{a0:Bool}{a1:List Nat}:effY ks ks2 (.eqs a0 a1) l l2=True:=rfl
theorem zkf{a0:Bool}:effY ks ks2 (.eqn a0) l l2=True:=rfl
theorem zuc{a0:UnOp}:effY ks ks2 (.un a0) l l2=True:=rfl
theorem za5{a0:IntKind}:effY ks ks2 (.conv a0) l l2=True:=rfl
theorem z0g  : effY ks ks2 (.toStr ) l l2=True:=rfl
theorem Wc  : effY ks ks2 (.runStr ) l l2=True:=rfl
theorem z0h{a0:Nat}{a1:Bool}{a2:Bool}{a3:Bool}:effY ks ks2 (.slice a0 a1 a2 a3) l l2=True:=rfl
theorem z0i{a0:Bool}{a1:Nat}{a2:Nat}:effY ks ks2 (.faddr a0 a1 a2) l l2=True:=rfl
theorem z0j{a0:Bool}{a1:Nat}{a2:Nat}:effY ks ks2 (.field a0 a1 a2) l l2=True:=rfl
theorem z0k{a0:Nat}:effY ks ks2 (.iaddr a0) l l2=True:=rfl
theorem We{a0:Nat}{a1:Nat}{a2:Bool}:effY ks ks2 (.iaddrA a0 a1 a2) l l2=True:=rfl
theorem z0l{a0:Nat}{a1:Nat}{a2:Bool}:effY ks ks2 (.index a0 a1 a2) l l2=True:=rfl
theorem Qy  : effY ks ks2 (.indexStr ) l l2=True:=rfl
theorem Sn{a0:Nat}:effY ks ks2 (.extract a0) l l2=True:=rfl
theorem zkg{a0:Bool}:effY ks ks2 (.len a0) l l2=True:=rfl
theorem zkh  : effY ks ks2 (.max ) l l2=True:=rfl
theorem zki  : effY ks ks2 (.min ) l l2=True:=rfl
theorem So{a0:Nat}{a1:Nat}{a2:AV}:effY ks ks2 (.mkSlice a0 a1 a2) l l2=True:=rfl
theorem Wg{a0:Nat}:effY ks ks2 (.mkFunc a0) l l2=True:=rfl
theorem Wh{a0:AV}:effY ks ks2 (.mapGet a0) l l2=True:=rfl
theorem za6  : effY ks ks2 (.call ) l l2=True:=rfl
end
theorem yy:type_of% (Aa @xy1 <| Aa @xy2 <| Aa @xy4 <| Aa @zu9 <| Aa @zua <| Aa @Dz <| Aa @GV <| Aa @xy6 <| Aa @xy6b <| Aa @xy6m <| Aa @z0b <| Aa @xy7 <| Aa @xy8 <| Aa @zka <| Aa @Wa <| Aa @z0c <| Aa @z0d <| Aa @zub <| Aa @za3 <| Aa @z0e <| Aa @zkb <| Aa @z0f <| Aa @Wb <| Aa @za4 <| Aa @Qw <| Aa @zkc <| Aa @zkd <| Aa @zke <| Aa @zkf <| Aa @zuc <| Aa @za5 <| Aa @z0g <| Aa @Wc <| Aa @z0h <| Aa @z0i <| Aa @z0j <| Aa @z0k <| Aa @We <| Aa @z0l <| Aa @Qy <| Aa @Sn <| Aa @zkg <| Aa @zkh <| Aa @zki <| Aa @So <| Aa @Wg <| Aa @Wh <| Aa @za6 <| Aa @sb1 <| @sb2):=Aa @xy1 <| Aa @xy2 <| Aa @xy4 <| Aa @zu9 <| Aa @zua <| Aa @Dz <| Aa @GV <| Aa @xy6 <| Aa @xy6b <| Aa @xy6m <| Aa @z0b <| Aa @xy7 <| Aa @xy8 <| Aa @zka <| Aa @Wa <| Aa @z0c <| Aa @z0d <| Aa @zub <| Aa @za3 <| Aa @z0e <| Aa @zkb <| Aa @z0f <| Aa @Wb <| Aa @za4 <| Aa @Qw <| Aa @zkc <| Aa @zkd <| Aa @zke <| Aa @zkf <| Aa @zuc <| Aa @za5 <| Aa @z0g <| Aa @Wc <| Aa @z0h <| Aa @z0i <| Aa @z0j <| Aa @z0k <| Aa @We <| Aa @z0l <| Aa @Qy <| Aa @Sn <| Aa @zkg <| Aa @zkh <| Aa @zki <| Aa @So <| Aa @Wg <| Aa @Wh <| Aa @za6 <| Aa @sb1 <| @sb2
def Ent(n b:Nat)(env:Env)(H:A4)(env':Env)(H':A4):Prop:=∀(S:MS)(val:Nat->Value),b<=S.n->SRel S H->(∀i,i<n->VRel S (env i) (val i)) ->
 ∃S',S'.w=S.w/\BEvo b S S'/\SRel S' H'/\∀i,i<n->VRel S' (env' i) (val i)
section
variable {P:Program}{n b:Nat}{env env':Env}{H H':A4}{Q:Ex->Env->A4->Prop}
theorem Ent.refl:Ent n b env H env H:=λS val hb hS hv=>⟨S,rfl,.refl hb,hS,hv⟩
theorem Ent.trans{env2:Env}{H2:A4}(h1:Ent n b env H env' H')(h2:Ent n b env' H' env2 H2):Ent n b env H env2 H2:=λS val hb hS hv=>by
 obtain⟨S1,a1,a2,a3,a4⟩:=h1 S val hb hS hv;obtain⟨S2,c1,c2,c3,c4⟩:=h2 S1 val a2.n a3 a4;exact⟨S2,c1.trans a1,a2.trans c2,c3,c4⟩
theorem I8{c:AC}(he:Ent n b env H env' H')(h:T P n b c env' H' Q):T P n b c env H Q:=by
 intro rd mm hrd code hc S a hbS hS hF;obtain⟨S',hw,hev,hS',hv⟩:=he S (λi=>a.tmps.getD i undef) hbS hS hF.val;have:=h rd mm hrd code hc S' a hev.n hS' ⟨hF.size,hF.defers.of hev.base hev.size hev.keep hev.fresh (λb hb=>hev.kept b (.inr hb)),hv⟩;rw[hw] at this;exact wpIn_mono this λe a w hh=>hh.trans hev
theorem D6{σ:Type}(Fact:σ->Prop)(μ:σ->Nat)(envs:σ->Env)(heap:σ->A4){c:AC}(s0:σ)(h0:Fact s0)(he:Ent n b env H (envs s0) (heap s0))
 (round:∀s,Fact s->T P n b c (envs s) (heap s) (Ex.then (λenv' H'=>∃s',Ent n b env' H' (envs s') (heap s')/\Fact s'/\μ s'<μ s) Q)):T P n b (.loop c) env H Q:=by
 refine zjv (λs env H=>Fact s/\Ent n b env H (envs s) (heap s)) μ s0 ⟨h0,he⟩ λs env H hI=>?_;refine I8 hI.2 (T.mono (round s hI.1) λx env' H' hh=>?_);cases x with
 |normal=>obtain⟨s',k1,k2,k3⟩:=hh;exact⟨s',⟨k2,k1⟩,k3⟩
 |exit id=>exact hh
 |ret=>exact hh
theorem Ea(live:List (Nat × AV))(h:∀p∈live,env p.1=p.2):Ent n b env H (BO live) H:=λS val hb hS hv=>by
 refine⟨S,rfl,.refl hb,hS,λi hi=>?_⟩
 have key:∀(l:List (Nat × AV)),(∀p∈l,env p.1=p.2)->VRel S (BO l i) (val i):=λl=>by
  induction l with
  |nil=>exact λ_=>trivial
  |cons p l ih =>
   intro hp;obtain⟨t,y⟩:=p;show VRel S (if i=t then y else BO l i) _;split
   ·rename_i hit
    subst hit;have e:env i=y:=hp (i,y) oc;rw[<-e];exact hv i hi
   ·exact ih λp hp'=>hp p (by simp[hp'])
 exact key live h
mutual
theorem Ub:∀x:AV,ren (λg=>g) x=x
 |.any|.bool _|.int _ _|.str _|.nilS|.nul|.emp|.nilP|.nilF|.yld _|.lst _ _|.full _ _|.cptr _|.map _ _|.ref _ _ _ _|.ptr _ _ _ _=>rfl
 |.agg cs=>by rw[ren,Ky cs]
 |.tup cs=>by rw[ren,Ky cs]
 |.fn f cs=>by rw[ren,Ky cs]
theorem Ky:∀xs:List AV,renL (λg=>g) xs=xs
 |[]=>rfl
 |x::xs=>by rw[renL,Ub x,Ky xs]
end
theorem I9{l gar:List Grp}(hb:b<=l.length)(hcl:∀G∈l,ltL l.length G.xs)(hlive:∀i,i<n->ltV l.length (env i)):Ent n b env (hl (l++gar)) env (hl l):=λS val hbS hS hv=>by
 have hn:S.n=l.length+gar.length:=by rw[<-Ai];exact hS.n
 have hat:∀g,g<l.length->(hl (l++gar)).at_ g=(hl l).at_ g:=λg hg=>by
  rw[Da,Da];simp[List.getD,A9 hg]
 let S':MS:={ S with n:=l.length }
 have hdown:∀(x:AV){v:Value},ltV l.length x->VRel S x v->VRel S' x v:=λx v hx h=>by
  rw[<-Ub x] at h;exact OY (A:=S') (B:=S) (σ:=λg=>g) (m:=l.length) rfl (λb hb=>hb) (λg hg=>⟨hg,rfl,rfl,rfl,rfl⟩) x hx h
 have hdownL:∀(xs:List AV){vs:List Value},ltL l.length xs->AB S xs vs->AB S' xs vs:=λxs vs hx h=>by
  rw[<-Ky xs] at h;exact Hj (A:=S') (B:=S) (σ:=λg=>g) (m:=l.length) rfl (λb hb=>hb) (λg hg=>⟨hg,rfl,rfl,rfl,rfl⟩) xs hx h
 refine⟨S',rfl,⟨rfl,rfl,⟨rfl,Ab _⟩,rfl,Ab _,λ_ _=>rfl,λ_ h=>h,λ_ h=>h,λ_ h=>.inl h,hb,λ_ _=>Ab _,λ_ _ _=>⟨rfl,rfl,rfl⟩⟩,⟨rfl,λg hg=>?_,λg g' hg hg' hne hw hw'=>?_,hS.im⟩,λi hi=>hdown _ (hlive i hi) (hv i hi)⟩
 ·have hg':g<l.length:=hg
  have hG:=hS.grp g (by show g<(l++gar).length;rw[Ai];omega);rw[hat g hg'] at hG;have hm:(hl l).at_ g∈l:=by rw[Da,Ak,Ar hg'];exact BM _
  have hc:=hcl _ hm;refine⟨hG.ver,hG.wid,λhw hcap=>?_,hG.len,hG.full,λhw he=>?_⟩
  ·obtain⟨⟨cells,TT,vs,a1,a2,a3,a4⟩,a5⟩:=hG.live hw hcap
   exact⟨⟨cells,TT,vs,a1,a2,hdownL _ hc a3,a4⟩,a5⟩
  ·obtain⟨⟨o,a1,a0,a2⟩,a5⟩:=hG.mlive hw he
   exact⟨⟨o,a1,a0,hdownL _ hc a2⟩,a5⟩
 ·have hg1:g<l.length:=hg
  have hg2:g'<l.length:=hg';rw[<-hat g hg1] at hw;rw[<-hat g' hg2] at hw';exact hS.apart g g' (by show g<(l++gar).length;rw[Ai];omega) (by show g'<(l++gar).length;rw[Ai];omega) hne hw hw'
theorem Hk{l:List Grp}(ws:List Nat)(hw:∀w∈ws,0<w):Ent n b env (hl l) env (hl (l++ws.map Jo)):=λS val hbS hS hv=>by
 obtain⟨S',e1,e2,e3,e4⟩:=TU ws (env:=λi=>if i<n then env i else .any) (val:=val) hw hS (λi=>by
  show VRel S (if i<n then env i else .any) _;split
  ·exact hv i (by assumption)
  ·trivial)
 refine⟨S',e1,e2.down hbS,e3,λi hi=>?_⟩;have:=e4 i;simp only[Ae hi] at this;exact this
theorem GY{l l':List Grp}(h:IM l l l')(hv:∀i,i<n->leS l (env i) (env' i)):Ent n b env (hl l) env' (hl l'):=λS val hbS hS hval =>
 ⟨S,rfl,.refl hbS,Jn hS h,λi hi=>Vv (.inl hS) _ (hv i hi) (hval i hi)⟩
theorem Qz(i d:Nat)(ks:List Nat)(hok:DX d (H.only ks) (env i)):Ent n b env H (env.put (some i) (frzV d (H.only ks) (env i))) (H.kill ks):=λS val hbS hS hv=>by
 refine⟨S.kill H ks,rfl,(Ic ks hS).down hbS,M2 ks hS,λj hj=>?_⟩;show VRel _ (if j=i then _ else _) _;split
 ·rename_i hji
  subst hji;exact OV ks hS d hok (hv j hj)
 ·exact VRel.mono (Ic ks hS) _ (hv j hj)
theorem zov{c:AC}(he:Ent n b env H env' H')(h:@Lr ⟨T P n b c env' H' Q⟩):@Lr ⟨T P n b c env H Q⟩:=I8 he h
end
end Go.Proofs.YtflibbceibjddaaGreat.Abs
namespace Go.Proofs.YtflibbceibjddaaGreat
open Abs O1 O2 O3
def DL(r:Rule):Bool:=decide ((r.guards.length:Int)=0)
def toD(l:List Rule)(i:Nat):List Int:=(l.filter λr=>DL r&&decide (r.from_=i)).map (·.to_)
def inD(l:List Rule)(j:Nat):Int:=((l.filter λr=>DL r&&decide (r.to_=j)).length:Int)
def cntE(l:List Rule)(P:List Int)(j:Nat):Int:=((l.filter λr=>DL r&&(decide (r.to_=j)&&!decide (r.from_∈P))).length:Int)
theorem Uc(l:List Rule)(j:Nat):cntE l [] j=inD l j:=by simp[cntE,inD]
theorem zow(l:List Rule)(P:List Int)(j:Nat):0<=cntE l P j:=by simp only[cntE];omega
theorem zox(l:List Rule)(P:List Int)(j:Nat):cntE l P j<=cntE l [] j:=by
 simp only[cntE]
 have:(l.filter λr=>DL r&&(decide (r.to_=j)&&!decide (r.from_∈P))).length<=(l.filter λr=>DL r&&(decide (r.to_=j)&&!decide (r.from_∈([]:List Int)))).length:=by
  induction l with
  |nil=>simp
  |cons r l ih =>
   simp only[BV];cases DL r<;>cases decide (r.to_=(j:Int))<;>cases decide (r.from_∈P)<;>simp at ih ⊢<;>omega
 omega
theorem Ud{s j:Nat}{P:List Int}(hs:(s:Int)∉P):∀l:List Rule,cntE l (P++[(s:Int)]) j+((toD l s).count (j:Int):Int)=cntE l P j
 |[]=>by simp[cntE,toD]
 |r::l=>by
  have ih:=Ud (j:=j) hs l;simp only[cntE,toD,BV] at ih ⊢;cases he:DL r
  ·simpa using ih
  ·simp only[Bj]
   by_cases ht:r.to_=j
   ·by_cases hf:r.from_=s
    ·have h1:r.from_∈P++[(s:Int)]:=by simp[hf]
     have h2:r.from_∉P:=by rw[hf];exact hs
     simp only[ht,hf] at h1 h2 ⊢;simp only[DW,h1,h2,C7,Gz,Gf,E8,Gy,Br,A8,Bq,List.length_cons,AD,List.count_cons_self,ht]
     push_cast
     omega
    ·have h1:(r.from_∈P++[(s:Int)])↔r.from_∈P:=by simp[hf]
     by_cases h2:r.from_∈P
     ·simp only[ht,hf,h1,h2,DW,C7,Gz,E8,A8,Bq]
      exact ih
     ·simp only[ht,hf,h1,h2,DW,C7,Gf,Gy,Br,A8,Bq,List.length_cons]
      push_cast
      omega
   ·by_cases hf:r.from_=s
    ·simp only[ht,hf,C7,DW,B4,A8,Bq,Br,AD]
     rw[List.count_cons_of_ne ht];exact ih
    ·simp only[ht,hf,C7,B4,A8,Bq]
     exact ih
theorem KY:∀{a b:List Int},a.Nodup->(∀x∈a,x∈b)->a.length<=b.length
 |[],b,_,_=>Ap _
 |x::a,b,hn,h=>by
  obtain⟨h1,h2⟩:=Cc.1 hn;have hx:=h x oc;have:=KY (a:=a) (b:=b.erase x) h2 λy hy=>(List.mem_erase_of_ne (λ(e:y=x)=>h1 (by rw[<-e];exact hy))).2 (h y (by simp[hy]));rw[List.length_erase_of_mem hx] at this;have:=Ej hx;simp only[List.length_cons];omega
def idsN(n:Nat):List Int:=(List.range n).map λ(i:Nat)=>(i:Int)
theorem za7(n:Nat):(idsN n).Nodup:=by
 rw[idsN,Dy,DJ];exact (Dy.1 (EL)).imp λh e=>h om
theorem Q0{n:Nat}{x:Int}:x∈idsN n↔0<=x/\x<n:=by
 simp only[idsN,Al,AF];constructor
 ·rintro⟨i,hi,rfl⟩;omega
 ·rintro⟨h1,h2⟩;exact⟨x.toNat,om,om⟩
def z0m(l:List Rule)(n:Nat)(C:Int->Prop):Prop:=∀j,C j->(0<=j/\j<n)/\∃r∈l,DL r=true/\r.to_=j/\C r.from_
def cycP(l:List Rule)(n:Nat):Prop:=∃C,z0m l n C/\∃j,C j
structure KInv(l:List Rule)(n:Nat)(D:List Int)(I:Nat->Int):Prop where
 nodup:D.Nodup
 range:∀x∈D,0<=x/\x<n
 zero:∀j,j<n->((j:Int)∈D↔I j=0)
 apart:∀C,z0m l n C->∀x∈D,¬C x
theorem KInv.len{l:List Rule}{n:Nat}{D:List Int}{I:Nat->Int}(h:KInv l n D I):D.length<=n:=by
 have:=KY h.nodup λx hx=>Q0.2 (h.range x hx);simpa [idsN] using this
def Mb(f:Nat->Int)(k:Nat):List Int:=((List.range k).filter λj=>decide (f j=0)).map λ(j:Nat)=>(j:Int)
theorem z4u(f:Nat->Int)(k:Nat):Mb f (k+1)=if f k=0 then Mb f k++[(k:Int)] else Mb f k:=by
 rw[Mb,Dh,BZ,Aw];split
 ·rename_i h;simp[Mb,h]
 ·rename_i h;simp[Mb,h]
theorem za8(f:Nat->Int)(k:Nat):(Mb f k).length<=k:=by
 have:=Bg (λj=>decide (f j=0)) (List.range k);simpa [Mb] using this
theorem zoy{l:List Rule}{r:Rule}{j:Nat}(hr:r∈l)(he:DL r=true)(ht:r.to_=j):0<inD l j:=by
 have:0<(l.filter λr=>DL r&&decide (r.to_=j)).length:=Ej (AW.2 ⟨hr,by simp[he,ht]⟩);simp only[inD];omega
theorem zgp{l:List Rule}{P:List Int}{r:Rule}{j:Nat}(hr:r∈l)(he:DL r=true)(ht:r.to_=j)(hf:r.from_∉P):0<cntE l P j:=by
 have:0<(l.filter λr=>DL r&&(decide (r.to_=j)&&!decide (r.from_∈P))).length:=Ej (AW.2 ⟨hr,by simp[he,ht,hf]⟩);simp only[cntE];omega
theorem z4v(l:List Rule)(n:Nat):KInv l n (Mb (inD l) n) (cntE l []) where
 nodup:=by
  rw[Mb,Dy,DJ];exact ((Dy.1 (EL)).filter _).imp λh e=>h om
 range x hx:=by
  obtain⟨i,hi,rfl⟩:=Al.1 hx;have:=(AW.1 hi).1;simp at this;omega
 zero j hj:=by
  rw[Uc];simp only[Mb,Al,AW,AF,Ah];constructor
  ·rintro⟨i,⟨h1,h2⟩,e⟩
   obtain rfl:i=j:=om
   exact h2
  ·intro h;exact⟨j,⟨hj,h⟩,rfl⟩
 apart C hC x hx hCx:=by
  obtain⟨i,hi,rfl⟩:=Al.1 hx;have h0:=(AW.1 hi).2;simp only[Ah] at h0;obtain⟨_,r,hr,he,ht,_⟩:=hC _ hCx;have:=zoy hr he ht;omega
def Hd(l:List Rule)(P:List Int)(s m:Nat)(j:Nat):Int:=cntE l P j-(((toD l s).take m).count (j:Int):Int)
theorem Sp(l:List Rule)(P:List Int)(s:Nat):Hd l P s 0=cntE l P:=by funext j;simp[Hd]
theorem za9{l:List Rule}{P:List Int}{s:Nat}(hs:(s:Int)∉P):Hd l P s (toD l s).length=cntE l (P++[(s:Int)]):=by
 funext j;have:=Ud (j:=j) hs l;rw[Hd,As];omega
theorem z0n{l:List Rule}{P:List Int}{s m j:Nat}(hs:(s:Int)∉P):cntE l (P++[(s:Int)]) j<=Hd l P s m j:=by
 have h1:=Ud (j:=j) hs l;have h2:=(Gi m (toD l s)).count_le (j:Int);rw[Hd];omega
theorem N7{l:List Rule}{P:List Int}{s m t:Nat}(hm:m<(toD l s).length)(ht:nth (toD l s) m=t):Hd l P s (m+1)=λj=>if j=t then Hd l P s m t-1 else Hd l P s m j:=by
 funext j;rw[Hd,take_at hm,List.count_append,ht];by_cases e:j=t
 ·subst e;simp[Hd];omega
 ·have h0:List.count (j:Int) [(t:Int)]=0:=List.count_eq_zero.2 (by simp;omega)
  rw[Ad e,h0,Hd];omega
theorem Wi{l:List Rule}{P:List Int}{s m t:Nat}(hs:(s:Int)∉P)(hm:m<(toD l s).length)(ht:nth (toD l s) m=t):0<Hd l P s m t:=by
 have h1:=z0n (l:=l) (m:=m+1) (j:=t) hs;have h2:=zow l (P++[(s:Int)]) t;rw[N7 hm ht] at h1;simp only[Br] at h1;omega
theorem zaa{l:List Rule}{n:Nat}{P td:List Int}{s m t:Nat}(hs:(s:Int)∉P)(hm:m<(toD l s).length)(ht:nth (toD l s) m=t)(htn:t<n)(h:KInv l n (P++[(s:Int)]++td) (Hd l P s m)):
 KInv l n (P++[(s:Int)]++if Hd l P s m t-1=0 then td++[(t:Int)] else td) (Hd l P s (m+1)):=by
 have hp:=Wi hs hm ht
 have hno:(t:Int)∉P++[(s:Int)]++td:=λhh=>by
  have:=(h.zero t htn).1 hh;omega
 have hst:=N7 (P:=P) hm ht;split
 ·rename_i h0
  rw[<-A3];refine⟨Dg.2 ⟨h.nodup,oc,λa ha b hb=>?_⟩,λx hx=>?_,λj hj=>?_,λC hC x hx hCx=>?_⟩
  ·simp only[Am] at hb
   subst hb;exact λe=>hno (e ▸ ha)
  ·rcases Av.1 hx with hx|hx
   ·exact h.range x hx
   ·simp only[Am] at hx;omega
  ·rw[hst,Av,Am]
   by_cases e:j=t
   ·subst e;simp[h0]
   ·simp only[Ad e]
    rw[<-h.zero j hj];exact⟨λhh=>hh.elim id λhh=>absurd hh om,.inl⟩
  ·rcases Av.1 hx with hx|hx
   ·exact h.apart C hC x hx hCx
   ·simp only[Am] at hx
    subst hx;obtain⟨_,r,hr,he,hrt,hrf⟩:=hC _ hCx;have hf:r.from_∉P++[(s:Int)]:=λhh=>h.apart C hC _ (Av.2 (.inl hh)) hrf;have h1:=zgp hr he hrt hf;have h2:=z0n (l:=l) (m:=m+1) (j:=t) hs;rw[hst] at h2;simp only[Br] at h2;omega
 ·rename_i h0
  refine⟨h.nodup,h.range,λj hj=>?_,h.apart⟩;rw[hst];by_cases e:j=t
  ·subst e;simp only[Br];exact⟨λhh=>absurd hh hno,λhh=>absurd hh h0⟩
  ·simp only[Ad e];exact h.zero j hj
theorem zab{l:List Rule}{n:Nat}{P:List Int}(hl:∀r∈l,0<=r.from_/\r.from_<n)(h:KInv l n P (cntE l P)):P.length<n↔cycP l n:=by
 constructor
 ·intro hlt
  refine⟨λj=>(0<=j/\j<n)/\j∉P,λj hj=>⟨hj.1,?_⟩,?_⟩
  ·have h0:cntE l P j.toNat≠0:=λh0=>hj.2 (by
    have:=(h.zero j.toNat om).2 h0
    rwa [show ((j.toNat:Nat):Int)=j by omega] at this)
   have:0<(l.filter λr=>DL r&&(decide (r.to_=(j.toNat:Nat))&&!decide (r.from_∈P))).length:=by
    simp only[cntE] at h0;omega
   obtain⟨r,hr⟩:=List.exists_mem_of_length_pos this;obtain⟨h1,h2⟩:=AW.1 hr;simp only[Ac,Ah,Cj,BB] at h2;exact⟨r,h1,h2.1,by rw[h2.2.1];omega,hl r h1,h2.2.2⟩
  ·refine B5 λhno=>?_
   have:=KY (za7 n) λx hx=>B5 λhp=>hno ⟨x,Q0.1 hx,hp⟩;simp[idsN] at this;omega
 ·rintro⟨C,hC,j,hj⟩
  have hr:=(hC j hj).1;have hjP:j∉P:=λhh=>h.apart C hC j hh hj
  have:=KY (a:=j::P) (b:=idsN n) (Cc.2 ⟨hjP,h.nodup⟩) λx hx=>by
   rcases Af.1 hx with rfl|hx
   ·exact Q0.2 hr
   ·exact Q0.2 (h.range x hx)
  simp[idsN] at this;omega
def onF(l:List Rule)(on:Nat->Bool)(j:Nat):Bool:=l.any λr=>DL r&&(on r.from_.toNat&&decide (r.to_=j))
def onK(l:List Rule):Nat->Nat->Bool
 |0=>λ_=>true
 |k+1=>onF l (onK l k)
def z4w(l:List Rule)(on:Nat->Bool):Bool:=l.any λr=>DL r&&on r.from_.toNat
def cycR(l:List Rule)(n:Nat):Bool:=(List.range (n+1)).all λk=>z4w l (onK l k)
theorem zgq{l:List Rule}{p q:Nat->Bool}(h:∀j,p j=true->q j=true)(j:Nat):onF l p j=true->onF l q j=true:=by
 simp only[onF,Ct,Ac,Ah];rintro⟨r,hr,h1,h2,h3⟩;exact⟨r,hr,h1,h _ h2,h3⟩
theorem Ue(l:List Rule):∀(k j:Nat),onK l (k+1) j=true->onK l k j=true
 |0,j,_=>rfl
 |k+1,j,h=>zgq (λj=>Ue l k j) j h
theorem filter_lt{p q:Nat->Bool}(h:∀j,p j=true->q j=true):∀{l:List Nat}{x:Nat},x∈l->q x=true->p x=false->(l.filter p).length<(l.filter q).length
 |[],_,hx,_,_=>by cases hx
 |y::l,x,hx,hq,hp=>by
  have hle:∀l:List Nat,(l.filter p).length<=(l.filter q).length:=λl=>by
   induction l with
   |nil=>simp
   |cons a l ih =>
    simp only[BV];have:=h a;cases hpa:p a<;>cases hqa:q a<;>simp_all<;>omega
  simp only[BV];rcases Af.1 hx with rfl|hx
  ·have:=hle l
   simp only[hp,hq,A8,Bq,Br,List.length_cons];omega
  ·have ih:=filter_lt h hx hq hp
   have:=h y;cases hpa:p y<;>cases hqa:q y<;>simp_all<;>omega
theorem zgr{l:List Rule}{n:Nat}(hl:∀r∈l,(0<=r.from_/\r.from_<n)/\0<=r.to_/\r.to_<n):cycR l n=true↔cycP l n:=by
 rw[cycR,AP];constructor
 ·intro h
  have hex:∃k,k<=n/\∀j,j<n->onK l k j=true->onK l (k+1) j=true:=by
   refine B5 λhno=>?_
   have hstep:∀k,k<=n->∃j,j<n/\onK l k j=true/\onK l (k+1) j=false:=λk hk=>B5 λhc=>hno ⟨k,hk,λj hj h1=>by
    cases h2:onK l (k+1) j
    ·exact absurd ⟨j,hj,h1,h2⟩ hc
    ·rfl⟩
   have key:∀k,k<=n+1->((List.range n).filter (onK l k)).length+k<=n:=λk=>by
    induction k with
    |zero =>
     intro _;have:=Bg (onK l 0) (List.range n);simpa using this
    |succ k ih =>
     intro hk;obtain⟨j,hj,h1,h2⟩:=hstep k om;have:=filter_lt (λj=>Ue l k j) (AF.2 hj) h1 h2;have:=ih om;omega
   have:=key (n+1) (Ab _);omega
  obtain⟨k,hk,hs⟩:=hex;refine⟨λj=>0<=j/\j<n/\onK l k j.toNat=true,λj hj=>⟨⟨hj.1,hj.2.1⟩,?_⟩,?_⟩
  ·have h1:=hs j.toNat om hj.2.2
   simp only[onK,onF,Ct,Ac,Ah] at h1;obtain⟨r,hr,he,hf,ht⟩:=h1;have hb:=hl r hr;exact⟨r,hr,he,om,om,om,hf⟩
  ·have h1:=h k (by simp;omega)
   simp only[z4w,Ct,Ac] at h1;obtain⟨r,hr,_,hf⟩:=h1;have hb:=hl r hr;exact⟨r.from_,om,om,hf⟩
 ·rintro⟨C,hC,j,hj⟩ k _
  have key:∀k i,C i->onK l k i.toNat=true:=λk=>by
   induction k with
   |zero=>exact λ_ _=>rfl
   |succ k ih =>
    intro i hi;obtain⟨h1,r,hr,he,ht,hf⟩:=hC i hi;simp only[onK,onF,Ct,Ac,Ah];exact⟨r,hr,he,ih _ hf,om⟩
  obtain⟨_,r,hr,he,_,hf⟩:=hC j hj;simp only[z4w,Ct,Ac];exact⟨r,hr,he,key k _ hf⟩
end Go.Proofs.YtflibbceibjddaaGreat
namespace Go.Proofs.YtflibbceibjddaaGreat.Abs
theorem z4x{n b:Nat}{env:Env}{l l':List Grp}{g w v d:Nat}{ex:Bool}{x:AV}(ks:List Nat)(hw:0<w)(hlt:g<l.length)(hg:l.getD g default=⟨w,v,ex,[x]⟩)(hk:g∉ks)
 (hok:DX d ((hl l).only ks) x) (hl':(Ec 0 ks l).set g ⟨w,v,ex,[frzV d ((hl l).only ks) x]⟩=l'):Ent n b env (hl l) env (hl l'):=λS val hb hS hv=>by
 subst hl';have hS1:=M2 ks hS;have he:=Ic ks hS;refine⟨S.kill (hl l) ks,rfl,he.down hb,?_,λi hi=>VRel.mono he _ (hv i hi)⟩;have hlk:g<(Ec 0 ks l).length:=by rw[Gm];exact hlt
 have hat0:∀j,j<l.length->((hl l).kill ks).at_ j=(Ec 0 ks l).getD j default:=λj hj=>by
  rw[IL 0 ks l j hj,AY];rfl
 have hn:(hl ((Ec 0 ks l).set g ⟨w,v,ex,[frzV d ((hl l).only ks) x]⟩)).n=((hl l).kill ks).n:=by simp[hl,A4.kill,Gm]
 have hlen:((hl l).kill ks).n=l.length:=rfl
 have hat:∀j,j<l.length->(hl ((Ec 0 ks l).set g ⟨w,v,ex,[frzV d ((hl l).only ks) x]⟩)).at_ j=if j=g then ⟨w,v,ex,[frzV d ((hl l).only ks) x]⟩ else ((hl l).kill ks).at_ j:=λj hj=>by
  rw[Da];by_cases e:j=g
  ·subst e;rw[Ae rfl];exact JJ _ hlk
  ·rw[Ad e,hat0 j hj];exact GW _ (Du e)
 have hgk:((hl l).kill ks).at_ g=⟨w,v,ex,[x]⟩:=by
  show (if g∈ks then _ else _)=_;rw[Ad hk,Da,hg]
 have h1:GRel (S.kill (hl l) ks) ⟨w,v,ex,[x]⟩ g:=by have:=hS1.grp g (by rw[hlen];exact hlt);rwa [hgk] at this
 have h0:GRel S ⟨w,v,ex,[x]⟩ g:=by have:=hS.grp g hlt;rwa [Da,hg] at this
 have hG:GRel (S.kill (hl l) ks) ⟨w,v,ex,[frzV d ((hl l).only ks) x]⟩ g:=by
  refine⟨h1.ver,h1.wid,λ_ hc=>?_,λhh=>h1.len hh,λhh he=>h1.full hh he,λhh=>by simp only at hh;omega⟩;obtain⟨⟨cells,TT,vs,a1,a2,a3,a4⟩,_⟩:=h0.live hw hc;refine⟨⟨cells,TT,vs,a1,a2,?_,a4⟩,(h1.live hw hc).2⟩;obtain⟨u,r,rfl,hu,hr⟩:=a3;exact⟨u,r,rfl,OV ks hS d hok hu,hr.mono he⟩
 have hhas:∀j,j<l.length->((hl ((Ec 0 ks l).set g ⟨w,v,ex,[frzV d ((hl l).only ks) x]⟩)).at_ j).has ((S.kill (hl l) ks).cap j)->(((hl l).kill ks).at_ j).has ((S.kill (hl l) ks).cap j):=λj hj h=>by
  rw[hat j hj] at h;by_cases e:j=g
  ·subst e;rw[Ae rfl] at h;rw[hgk];exact h
  ·rw[Ad e] at h;exact h
 refine⟨hS1.n.trans hn.symm,λj hj=>?_,λj j' a c hne p q=>hS1.apart j j' (by rwa [hn] at a) (by rwa [hn] at c) hne (hhas j (by rwa [hn] at a) p) (hhas j' (by rwa [hn] at c) q),hS1.im⟩;rw[hn] at hj;rw[hat j hj];by_cases e:j=g
 ·subst e;rw[Ae rfl];exact hG
 ·rw[Ad e];exact hS1.grp j hj
mutual
theorem zkj{m:Nat}{σ:Nat->Nat}(h:∀g,g<m->σ g=g):∀x:AV,ltV m x->ren σ x=x
 |.any,_|.bool _,_|.int _ _,_|.str _,_|.nilS,_|.nul,_|.emp,_|.nilP,_|.nilF,_|.yld _,_|.lst _ _,_|.full _ _,_|.cptr _,_=>rfl
 |.map g v,hx=>by rw[ren,h g hx]
 |.ref g v o n,hx=>by rw[ren,h g hx]
 |.ptr g v i o,hx=>by rw[ren,h g hx]
 |.agg cs,hx=>by rw[ren,N8 h cs hx]
 |.tup cs,hx=>by rw[ren,N8 h cs hx]
 |.fn f cs,hx=>by rw[ren,N8 h cs hx]
theorem N8{m:Nat}{σ:Nat->Nat}(h:∀g,g<m->σ g=g):∀xs:List AV,ltL m xs->renL σ xs=xs
 |[],_=>rfl
 |x::xs,hx=>by rw[renL,zkj h x hx.1,N8 h xs hx.2]
end
theorem zgs{m N g:Nat}(h:g<m):sg (List.range m) N g=g:=by
 unfold sg;rw[Ae (by simpa using h)];simp[List.getD,h]
theorem zac{m:Nat}{σ:Nat->Nat}(h:∀g,g<m->σ g=g){G:Grp}(hG:ltL m G.xs):renG σ G=G:=by
 cases G with
 |mk w v e xs=>rw[reG,N8 h xs hG]
theorem Sq:∀(r extra pre:List Grp)(l:List Grp),l.length=r.length->setG ((List.range r.length).map (·+pre.length)) r (pre++l++extra)=pre++r++extra
 |[],extra,pre,l,h=>by
  have:l=[]:=Az (by simpa using h);subst this;simp[setG]
 |G::r,extra,pre,[],h=>by simp at h
 |G::r,extra,pre,a::l,h=>by
  rw[List.length_cons,List.range_succ_eq_map,AD,BP,z9i];have e1:(pre++a::l++extra).set (0+pre.length) G=(pre++[G])++l++extra:=oc
  have e2:(List.range r.length).map ((λx=>x+pre.length) ∘ Nat.succ)=(List.range r.length).map (·+(pre++[G]).length):=A6 λi _=>by simp;omega
  rw[e1,e2,Sq r extra (pre++[G]) l (by simpa using h)];simp
theorem zad{P:Program}{f:Nat}{xs:List AV}{l0 extra:List Grp}{K0 K:AV->A4->Prop}(h:B9 P f xs (hl l0) K0)(hlt:ltL l0.length xs)(hltG:∀G∈l0,ltL l0.length G.xs)
 (hK:∀y H',K0 y H'->∃l',H'=hl l'/\l'.length=l0.length/\ltV l0.length y/\(∀G∈l',ltL l0.length G.xs)/\@nx y (hl (l'++extra)) ⟨K⟩):@Rs P f xs (hl (l0++extra)) ⟨K⟩:=by
 have hs:∀g,g<l0.length->sg (List.range l0.length) (l0++extra).length g=g:=λg hg=>zgs hg;have hll:(List.range l0.length).length=l0.length:=oc
 refine z9j (List.range l0.length) h EL (λk hk=>by simp at hk ⊢;omega) (N8 hs xs hlt) ?_ (by rw[hll];exact hlt) (by rw[hll];exact hltG) ?_
 ·refine BL oc λi h1 h2=>?_
  have hi:i<l0.length:=by simpa using h1
  simp only[Dt,D1];rw[zac hs (hltG _ (BM hi))];simp[List.getD,A9 hi,hi]
 ·intro y H' hy
  obtain⟨l',rfl,h1,h2,h3,h4⟩:=hK y H' hy;refine⟨l',rfl,by rw[hll,h1];exact Ab _,?_⟩;rw[zkj hs y h2];have e1:l'.map (renG (sg (List.range l0.length) (l0++extra).length))=l':=(A6 λG hG=>zac hs (h3 G hG)).trans (DV _);rw[e1];have e2:=Sq l' extra [] l0 h1.symm;simp only[List.length_nil,Nat.add_zero,List.map_id',List.nil_append,h1] at e2;rw[e2];exact h4
open Go.RowKit Go.ChangeShapes Go.WideShapes
inductive Wj(fs:List Sh):List AV->Prop where
 |leaf (cs:List AV):IsL fs cs->Wj fs (cs++[.nilS])
 |node (cs:List AV) (xs:List (List AV)):IsL fs cs->xs.length<=maxLen->(∀y∈xs,Wj fs y)->Wj fs (cs++[.lst (fs.length+1) (xs.map .agg)])
theorem Wj.len{fs:List Sh}{cs:List AV}(h:Wj fs cs):cs.length=fs.length+1:=by
 cases h with
 |leaf cs h=>simp[TC h]
 |node cs xs h=>simp[TC h]
section
variable {H:Type}{enc:TypeId × Value->H}{P:Program}{w:World}{base:Nat}{spare:Nat->Bool}{held:Bool}
inductive PShT where
 |p (s:PSh)
 |tree (fs:List Sh)
end
end Go.Proofs.YtflibbceibjddaaGreat.Abs
namespace Go.Proofs.YtflibbceibjddaaGreat
open Abs O1 O2 O3 Go.RowKit
inductive Rec where
 |mk (kind:Int) (set:List Span) (by_:Int) (read write:List Int) (l:List Rec)
namespace Rec
instance:Inhabited Rec:=⟨.mk 0 [] 0 [] [] []⟩
theorem ind{P:Rec->Prop}(h:∀k s b r w l,(∀n∈l,P n)->P (.mk k s b r w l))(n:Rec):P n :=
 Rec.rec (motive_1:=P) (motive_2:=λl=>∀n∈l,P n) (λk s b r w l ih=>h k s b r w l ih) (λn hn=>by cases hn)
  (λn l hn hl m hm=>by
   rcases Af.1 hm with rfl|hm
   ·exact hn
   ·exact hl m hm) n
end Rec
def zae(l:List Int):Prop:=l.length<=maxLen/\∀v∈l,-2147483648<=v/\v<=2147483647
inductive zud:Rec->Prop where
 |mk {k:Int} {s:List Span} {b:Int} {r w:List Int} {l:List Rec}:i64s [k,b]->(s.length<=maxLen/\∀x∈s,Qs x)->zae r->zae w->l.length<=maxLen->(∀n∈l,zud n)->zud (.mk k s b r w l)
end Go.Proofs.YtflibbceibjddaaGreat
