/-
  Parts of the proof that the law holds whatever the input; without conditions.
-/
import Derived.Shelf.SlSortCmp.WholeK
import Derived.Shelf.SlicesG.Cmp
import Derived.Shelf.Small.Bits
import Derived.Ground.SlsfProg
import Derived.Ground.SlgcProg
import Derived.Ground.NamesProg
import Derived.Test.YtbcjoeadpjfcfaaGreatProg
import Derived.Test.YtbcjoeadpjfcfaaGreatRQ3
import Derived.Test.YtbcjoeadpjfcfaaGreatRQ4
import Derived.Test.YtbcjoeadpjfcfaaGreatRQ5
set_option linter.unusedSimpArgs false
set_option linter.unusedVariables false
set_option linter.unusedSectionVars false
namespace Go.Proofs
open Go.Shelf
def Tryz.sortSp_ren:Go.Shelf.Ren:=⟨fun|6=>190|15=>139|14=>198|28=>162|29=>163|20=>205|21=>206|22=>207|23=>208|24=>209|25=>210|26=>211|27=>212|46=>213|47=>177|48=>178|49=>214|50=>215|57=>216|n=>n,fun|22=>79|24=>78|25=>228|3=>3|39=>187|0=>0|53=>205|55=>207|4=>4|46=>199|45=>198|50=>32|5=>5|9=>9|66=>216|70=>220|76=>224|77=>84|n=>n,fun|n=>n⟩
theorem Tryz.sortSp:Go.Proofs.SlLaysF0.n6 Tryz.prog Tryz.sortSp_ren:={
 mixed:=by kernel_rfl
 f6:=⟨Tryz.f190.name,by decide,Tryz.func190.trans (congrArg some (by kernel_rfl))⟩
 f14:=⟨Tryz.f198.name,by decide,Tryz.func198.trans (congrArg some (by kernel_rfl))⟩
 f15:=Tryz.func139.trans (congrArg some (by kernel_rfl))
 f20:=⟨Tryz.f205.name,by decide,Tryz.func205.trans (congrArg some (by kernel_rfl))⟩
 f21:=⟨Tryz.f206.name,by decide,Tryz.func206.trans (congrArg some (by kernel_rfl))⟩
 f22:=⟨Tryz.f207.name,by decide,Tryz.func207.trans (congrArg some (by kernel_rfl))⟩
 f23:=⟨Tryz.f208.name,by decide,Tryz.func208.trans (congrArg some (by kernel_rfl))⟩
 f24:=⟨Tryz.f209.name,by decide,Tryz.func209.trans (congrArg some (by kernel_rfl))⟩
 f25:=⟨Tryz.f210.name,by decide,Tryz.func210.trans (congrArg some (by kernel_rfl))⟩
 f26:=⟨Tryz.f211.name,by decide,Tryz.func211.trans (congrArg some (by kernel_rfl))⟩
 f27:=⟨Tryz.f212.name,by decide,Tryz.func212.trans (congrArg some (by kernel_rfl))⟩
 f28:=Tryz.func162.trans (congrArg some (by kernel_rfl))
 f29:=Tryz.func163.trans (congrArg some (by kernel_rfl))
 f46:=⟨Tryz.f213.name,by decide,Tryz.func213.trans (congrArg some (by kernel_rfl))⟩
 f47:=Tryz.func177.trans (congrArg some (by kernel_rfl))
 f48:=Tryz.func178.trans (congrArg some (by kernel_rfl))
 f49:=⟨Tryz.f214.name,by decide,Tryz.func214.trans (congrArg some (by kernel_rfl))⟩
 f50:=⟨Tryz.f215.name,by decide,Tryz.func215.trans (congrArg some (by kernel_rfl))⟩
 f57:=⟨Tryz.f216.name,by decide,Tryz.func216.trans (congrArg some (by kernel_rfl))⟩
 t0:=Tryz.underlying0
 a0:=Tryz.isAgg0
 z0:=Tryz.sizeOf0
 v0:=Tryz.zeroValue0
 t3:=Tryz.underlying3
 a3:=Tryz.isAgg3
 z3:=Tryz.sizeOf3
 v3:=Tryz.zeroValue3
 t4:=Tryz.underlying4
 a4:=Tryz.isAgg4
 z4:=Tryz.sizeOf4
 v4:=Tryz.zeroValue4
 t5:=Tryz.underlying5
 a5:=Tryz.isAgg5
 z5:=Tryz.sizeOf5
 v5:=Tryz.zeroValue5
 t9:=Tryz.underlying9
 a9:=Tryz.isAgg9
 z9:=Tryz.sizeOf9
 v9:=Tryz.zeroValue9
 t22:=Tryz.underlying79
 a22:=Tryz.isAgg79
 z22:=Tryz.sizeOf79
 v22:=Tryz.zeroValue79
 t25:=Tryz.underlying228
 a25:=Tryz.isAgg228
 z25:=Tryz.sizeOf228
 v25:=Tryz.zeroValue228
 t39:=Tryz.underlying187
 a39:=Tryz.isAgg187
 z39:=Tryz.sizeOf187
 v39:=Tryz.zeroValue187
 t45:=Tryz.underlying198
 a45:=Tryz.isAgg198
 z45:=Tryz.sizeOf198
 v45:=Tryz.zeroValue198
 t46:=Tryz.underlying199
 a46:=Tryz.isAgg199
 z46:=Tryz.sizeOf199
 v46:=Tryz.zeroValue199
 t50:=Tryz.underlying32
 a50:=Tryz.isAgg32
 z50:=Tryz.sizeOf32
 v50:=Tryz.zeroValue32
 t53:=Tryz.underlying205
 a53:=Tryz.isAgg205
 z53:=Tryz.sizeOf205
 v53:=Tryz.zeroValue205
 t55:=Tryz.underlying207
 a55:=Tryz.isAgg207
 z55:=Tryz.sizeOf207
 v55:=Tryz.zeroValue207
 t66:=Tryz.underlying216
 a66:=Tryz.isAgg216
 z66:=Tryz.sizeOf216
 v66:=Tryz.zeroValue216
 t70:=Tryz.underlying220
 a70:=Tryz.isAgg220
 z70:=Tryz.sizeOf220
 v70:=Tryz.zeroValue220
 t76:=Tryz.underlying224
 a76:=Tryz.isAgg224
 z76:=Tryz.sizeOf224
 v76:=Tryz.zeroValue224
 t77:=Tryz.underlying84
 a77:=Tryz.isAgg84
 z77:=Tryz.sizeOf84
 v77:=Tryz.zeroValue84 }
def Tryz.cmpSp_ren:Go.Shelf.Ren:=⟨fun|5=>192|7=>199|n=>n,fun|22=>3|3=>3|4=>4|n=>n,fun|n=>n⟩
theorem Tryz.cmpSp:Go.Proofs.SlLaysC2.n5 Tryz.prog Tryz.cmpSp_ren:={
 mixed:=by kernel_rfl
 f5:=⟨Tryz.f192.name,by decide,Tryz.func192.trans (congrArg some (by kernel_rfl))⟩
 f7:=⟨Tryz.f199.name,by decide,Tryz.func199.trans (congrArg some (by kernel_rfl))⟩
 t3:=Tryz.underlying3
 a3:=Tryz.isAgg3
 z3:=Tryz.sizeOf3
 v3:=Tryz.zeroValue3
 t4:=Tryz.underlying4
 a4:=Tryz.isAgg4
 z4:=Tryz.sizeOf4
 v4:=Tryz.zeroValue4
 t22:=Tryz.underlying3
 a22:=Tryz.isAgg3
 z22:=Tryz.sizeOf3
 v22:=Tryz.zeroValue3 }
end Go.Proofs
namespace Go.Proofs.YtbcjoeadpjfcfaaGreat
open Abs O1 O2 O3 Go.Shelf Go.RowKit Go.Lib Go.Sort
def OU(x:Span):List Value:=[.int .i64 x.lo,.int .i64 x.hi]
def Vf(x y:Span):Int:=Lib.compareInt x.lo y.lo
theorem ltLo(x y:Span):ltOf Vf x y=decide (x.lo<y.lo):=by
 unfold ltOf Vf Lib.compareInt;by_cases h1:x.lo<y.lo
 ·simp[h1]
 ·by_cases h2:y.lo<x.lo<;>simp[h1,h2]
theorem swoLo:SWO (ltOf Vf) where
 irrefl x:=by rw[ltLo];simp
 trans x y z h1 h2:=by rw[ltLo] at *;simp at *;omega
 ntrans x y z h1 h2:=by rw[ltLo] at *;simp at *;omega
set_option maxHeartbeats 1000000 in
theorem z0k(x y:Span)(W:World):Calls Tryz.prog 191 #[.agg #[.int .i64 x.lo,.int .i64 x.hi],.agg #[.int .i64 y.lo,.int .i64 y.hi]] W λe w'=>e=.returned (.int .i64 (Vf x y))/\∃q os',w'=grow (W.drewN q) os':=by
 have hcon:=λW'=>AnyG.cmp_Compare_int Tryz.cmpSp x.lo y.lo W';change ∀W',Calls Tryz.prog 192 _ _ _ at hcon;unfold Vf;generalize Lib.compareInt x.lo y.lo=r at hcon ⊢
 go_enter Tryz.func191,Tryz.ntmps191
 go_wp2_with (go_at_call 192;refine (hcon _).mono ?_;rintro e w' ⟨rfl,rfl⟩)
 go_ret
 exact⟨rfl,0,_,by rw[alloc_eq_grow,alloc_eq_grow,grow_grow];rfl⟩
theorem z0l(blk off size:Nat)(w:World):CmpLays Tryz.prog 191 #[] OU 2 Vf blk off size w :=
 λ_ _ _ _ x y=>z0k x y _
theorem zo7:∀w,(isAgg (Tryz.sortSp_ren.t 24)).run Tryz.prog w=.ok true w:=Tryz.isAgg78
theorem zjp:∀w,(Go.sizeOf (Tryz.sortSp_ren.t 24)).run Tryz.prog w=.ok 2 w:=Tryz.sizeOf78
theorem AA.split{S:MS}:∀{xs ys:List AV}{vs:List Value},AA S (xs++ys) vs->∃v1 v2,vs=v1++v2/\AA S xs v1/\AA S ys v2
 |[],ys,vs,h=>⟨[],vs,rfl,rfl,h⟩
 |x::xs,ys,vs,⟨v,r,hv,h1,h2⟩=>by
  obtain⟨v1,v2,rfl,h3,h4⟩:=AA.split h2;exact⟨v::v1,v2,by rw[hv];rfl,⟨v,v1,rfl,h1,h3⟩,h4⟩
abbrev HM(x:Span):Value:=.agg #[.int .i64 x.lo,.int .i64 x.hi]
theorem QM{S:MS}:∀{l:List Span}{vs:List Value},AA S (l.map C8) vs->vs=l.map HM
 |[],vs,h=>h
 |x::l,vs,⟨v,r,hv,h1,h2⟩=>by
  obtain⟨ws,rfl,a,r1,rfl,rfl,c,r2,rfl,rfl,rfl⟩:=h1;rw[hv,QM h2];rfl
theorem QN{S:MS}:∀(l:List Span),AA S (l.map C8) (l.map HM)
 |[]=>rfl
 |x::l=>⟨_,_,rfl,⟨_,rfl,_,_,rfl,rfl,_,_,rfl,rfl,rfl⟩,QN l⟩
theorem RA(d:Array Span)(i j:Nat)(hi:i<d.size)(hj:j<2):(flatK OU 2 d)[i * 2+j]! = (OU d[i]!)[j]! := by
 rw[get_flatK _ _ _ _ (by omega),show (i * 2+j) / 2=i from by omega,show (i * 2+j) % 2=j from by omega]
theorem zc8{w:World}{b:Nat}{cells:Array Value}{T:TypeId}{l:List Span}(hb:w.heap[b]? = some (.cells cells T (0,0))){vr:List Value}(hf:GA cells 2 (l.map HM++vr)):HoldsK OU 2 w b 0 l.toArray:=by
 intro j hj;rw[size_flatK,BS] at hj;have hi:j / 2<l.length:=by omega
 have he:(l.map HM++vr)[j / 2]? = some (HM l[j / 2]):=by rw[A8 (by simpa using hi)];simp[hi]
 obtain⟨_,_,h3⟩:=hf _ _ he;have h4:=h3 (j % 2) (by omega);rw[show j / 2 * 2+j % 2=j from by omega] at h4;have h5:=RA l.toArray (j / 2) (j % 2) (by simpa using hi) (by omega);rw[show j / 2 * 2+j % 2=j from by omega] at h5;refine⟨?_,?_⟩
 ·simp only[World.cell?,hb,Ba,Option.isSome_none,Au,AZ,h4,id,h5]
  have hg:l.toArray[j / 2]! = l[j / 2]:=by simp[hi]
  rw[hg];rcases Nat.mod_two_eq_zero_or_one j with h|h<;>rw[h]<;>simp[HM,Value.cells,OU]
 ·simp[World.frozen?,hb]
theorem zjq{w:World}{b n:Nat}{cells:Array Value}{T:TypeId}{d:Array Span}{os:Array Obj}(hb:w.heap[b]? = some (.cells cells T (0,0)))(hsz:d.size * 2<=cells.size){v0 vr:List Value}(h0:v0.length=d.size)(hf:GA cells 2 (v0++vr)):
 ∃cells',(sortWorldK OU 2 w b 0 n d os).heap[b]? = some (.cells cells' T (0,0))/\cells'.size=cells.size/\GA cells' 2 (d.toList.map HM++vr):=by
 have hlt:b<w.heap.size:=(Be.1 hb).1;refine⟨putCells id 0 (flatK OU 2 d) cells,?_,by simp[putCells],λi v hv=>?_⟩
 ·show ((w.heap.modify b _)++os)[b]? = _
  rw[BG (by rw[CY];exact hlt),D7,Ae rfl,hb];rfl
 ·rcases Ah i d.size with hid|hid
  case inr =>
   rw[AB (by simpa using hid)] at hv;obtain⟨g1,g2,g3⟩:=hf i v (by rw[AB (by omega),h0];simpa using hv);refine⟨g1,g2,λj hj=>?_⟩;rw[<-g3 j hj,putCells,EF];cases hc:cells[i * 2+j]? with
   |none=>rfl
   |some c =>
    simp only[Option.map_some,Aw,E6,Ba,size_flatK];rw[Ac (by omega)]
  rw[A8 (by simpa using hid),DF] at hv;obtain⟨x,hx,rfl⟩:=Ag.1 hv;have hi:i<d.size:=by have:=(Bi.1 hx).1;simpa using this
  refine⟨rfl,λc hc=>?_,λj hj=>?_⟩
  ·simp[HM,Value.cells] at hc
   rcases hc with rfl|rfl<;>rfl
  ·have h5:=RA d i j hi hj
   have hlt2:i * 2+j<cells.size:=by omega
   have hd:d[i]! = x:=by
    rw[EG] at hx;rw[getElem!_pos d i hi];exact (Be.1 hx).2
   rw[putCells,EF,Eb hlt2];simp only[Option.map_some,Aw,E6,Ba,size_flatK,Nat.sub_zero];rw[Ae (by omega),h5,hd];rcases (by omega:j=0\/j=1) with rfl|rfl<;>simp[HM,Value.cells,OU]
def LB(l:List Span):Prop:=l.Pairwise λa b=>a.lo<=b.lo
theorem z60{d:Array Span}(h:SortedIn (ltOf Vf) 0 d.size d):LB d.toList:=by
 rw[LB,BW];intro i j hi hj hij;have hi':i<d.size:=by simpa using hi
 have hj':j<d.size:=by simpa using hj
 have:=h i j (Aw _) hij hj';rw[ltLo,getElem!_pos d j hj',getElem!_pos d i hi'] at this;simp at this;simpa using this
theorem zjr{H:Ax}{g ver:Nat}{ex:Bool}{l:List Span}{rest:List AV}(hg:g<H.n)(hG:H.at_ g=⟨2,ver,ex,l.map C8++rest⟩)(h1:l≠[])(hl:l.length<4611686018427387904):
 BB Tryz.prog 190 [.ref g ver 0 l.length,.fn 191 []] H λy H'=>y=.tup []/\∃l':List Span,l'.Perm l/\LB l'/\H'=H.set g ⟨2,ver,ex,l'.map C8++rest⟩:=by
 have eg:∀args w,(callFunc 191 args).run Tryz.prog w=.ok (.enter 191 args) w:=enters_of Tryz.func191 (by kernel_rfl) rfl;refine⟨enters_of Tryz.func190 (by kernel_rfl) rfl,λS cargs hS hx=>?_⟩;obtain⟨v1,r1,rfl,⟨_,hgn,_,hv1⟩,v2,r2,rfl,⟨lb,rfl,rfl⟩,rfl⟩:=hx;have hgr:=hS.grp g hg;rw[hG] at hgr;obtain⟨a,cap',rfl,hcase⟩:=hv1 hgr.ver;have hpos:0<l.length:=by cases l;exact absurd rfl h1;simp
 obtain⟨rfl,rfl,hcap⟩:=hcase.resolve_right (λh=>by omega);have hlen:l.length+rest.length<=S.cap g:=by have:=hgr.len (show 0<2 by decide);simpa using this
 obtain⟨⟨cells,T,vs,b1,b2,b3,b4⟩,hni⟩:=hgr.live (show 0<2 by decide) (by omega);obtain⟨vs1,vr,hvv,b31,b32⟩:=AA.split b3;have hvs:=QM b31;subst hvs;subst hvv;have b2':cells.size=S.cap g * 2:=b2;have hblk:S.place g<S.w.heap.size:=(Be.1 b1).1;have hcon:=AnyQ.slices_SortFunc Tryz.sortSp 2 zo7 zjp OU (λ_=>rfl) (λx v hv=>by simp[OU] at hv;rcases hv with rfl|rfl<;>rfl) Vf swoLo 191 #[] (S.place g) 0 (S.cap g-0) l.toArray S.w eg (z0l _ _ _ _) (zc8 b1 b4) hblk (by simpa using hl);change Calls Tryz.prog 190 _ _ _ at hcon;rw[BS] at hcon;rw[Dp];refine hcon.mono λe w' ⟨he,d',n,os,hp,hs,hw'⟩=>?_;subst he hw';obtain⟨q1,q2,q3⟩:=hp;have q1:d'.size=l.length:=by simpa using q1
 have hperm:d'.toList.Perm l:=by
  rw[DN,DN] at q3;simpa [List.extract,q1,Al (show d'.toList.length<=l.length by simp[q1])] using q3
 rw[<-q1] at hs;obtain⟨cells',c1,c2,c3⟩:=zjq (n:=n) (d:=d') (os:=os) b1 (by omega) (v0:=l.map HM) (by simp[q1]) b4
 have hh:=hS.moved hg (by rw[hG];exact (show 0<2 by decide)) (sortWorldK OU 2 S.w (S.place g) 0 n d' os) (S.place g) (S.cap g) ⟨2,ver,ex,d'.toList.map C8++rest⟩ rfl ⟨rfl,EO _ _⟩ rfl
  (by show _<=((S.w.heap.modify _ _)++os).size;rw[F6,CY];omega)
  (λb hb hlt=>by
   show ((S.w.heap.modify _ _)++os)[b]? = _
   rw[BG (by rw[CY];exact hlt),D7,Ac (λhh=>hb ⟨by omega,hh.symm⟩)])
  (.inl ⟨by omega,rfl⟩) (λ_=>⟨cells',T,_,c1,by rw[c2];exact b2',(QN _).append b32,c3⟩) (by simpa [q1] using hlen)
  (λhx=>by have:=hgr.full (show 0<2 by decide) hx;simp at this;simp[q1];exact this) (show 0<2 by decide) (by rw[hgr.ver];exact Af _) (λ_=>⟨rfl,rfl,by rw[hgr.wid]⟩)
 exact⟨_,_,.tup [],_,rfl,rfl,hh.1,hh.2,⟨[],rfl,rfl⟩,rfl,d'.toList,hperm,z60 hs,rfl⟩
theorem zc9{l:List Span}{k:Nat}(h:k<l.length):inN (l.take (k+1))=inN (l.take k)++(if (K9 (nth l k)).lo<=(K9 (nth l k)).hi then [K9 (nth l k)] else []):=by
 rw[take_at h,inN,inN,Az,Cg];congr 1;simp only[Bj,Bt,Ci,List.filter_nil,Ad]
theorem zca(m r:List Span)(hm:m.length<4611686018427387904):BB Tryz.prog 190 [.ref 0 1 0 m.length,.fn 191 []] (Abs.hl [⟨2,1,true,(m++r).map C8⟩]) λy H'=>y=.tup []/\∃m':List Span,m'.Perm m/\LB m'/\H'=Abs.hl [⟨2,1,true,(m'++r).map C8⟩]:=by
 by_cases h:m=[]
 ·subst h
  refine (sort0 r).mono ?_;rintro y H' ⟨rfl,rfl⟩;exact⟨rfl,[],List.Perm.refl _,List.Pairwise.nil,rfl⟩
 ·refine (zjr (H:=Abs.hl [⟨2,1,true,(m++r).map C8⟩]) (g:=0) (ver:=1) (ex:=true) (l:=m) (rest:=r.map C8) (by show 0<1;decide) (by rw[<-Az];rfl) h hm).mono ?_
  rintro y H' ⟨rfl,m',h1,h2,rfl⟩;refine⟨rfl,m',h1,h2,?_⟩;rw[H6 _ _ _ (by show 0<1;decide),<-Az];rfl
abbrev zcb:Span:=⟨0,0⟩
def OV(m:List Span)(n:Nat):List Span:=m++List.replicate (n-m.length) zcb
theorem z61{m:List Span}{n:Nat}(h:m.length<=n):(OV m n).length=n:=by simp[OV];omega
theorem z62{m:List Span}{n:Nat}(h:m.length<n)(s:Span):(OV m n).take m.length++[s]++(OV m n).drop (m.length+1)=OV (m++[s]) n:=by
 simp only[OV];rw[CC (Af _),A3,List.drop_append,Aj (by omega),List.nil_append,show m.length+1-m.length=1 from by omega,List.drop_replicate];simp only[An,List.length_singleton,Nat.sub_sub]
def mixS(out s:List Span):List Span:=out++s.drop out.length
theorem zcc{out s:List Span}(h:out.length<=s.length):(mixS out s).length=s.length:=by simp[mixS];omega
theorem zcd{out s:List Span}(h:out.length<s.length)(x:Span):(mixS out s).take out.length++[x]++(mixS out s).drop (out.length+1)=mixS (out++[x]) s:=by
 simp only[mixS];rw[CC (Af _),A3,List.drop_append,Aj (by omega),List.nil_append,show out.length+1-out.length=1 from by omega,E5];simp
theorem zjs{out s:List Span}{j:Nat}(h1:out.length<=j):nth (mixS out s) j=nth s j:=by
 simp only[nth,mixS,Ap];rw[AB h1,BU,show out.length+(j-out.length)=j from by omega]
theorem z63{mm s:List Span}{y:Span}:nth (mixS (mm++[y]) s) mm.length=y:=by
 simp[nth,mixS,Ap]
theorem YE(s:List Span):mixS [] s=s:=by simp[mixS]
theorem zce{mm s:List Span}{y z:Span}:((mixS (mm++[y]) s).map C8).set mm.length (C8 z)=(mixS (mm++[z]) s).map C8:=by
 simp[mixS]
theorem WQ{l m:List Span}(hp:m.Perm (inN l))(hs:LB m)(j:Nat):∀s∈(m.take j).foldl EB [],-1073741824<=s.lo/\s.lo<=s.hi/\s.hi<=1073741824:=by
 have hok:∀s∈m,s.lo<=s.hi:=λs h=>Y5 s (hp.mem_iff.1 h);obtain⟨a1,a2⟩:=Ih (m.take j) [] ⟨by simp,by simp⟩ (λs h=>hok s (By h)) (EH (F7 j m) hs) (λs _ t ht=>by cases ht);intro s hsm;have hle:=a1.1 s hsm
 have key:∀v,memL ((m.take j).foldl EB []) v->-1073741824<=v/\v<=1073741824:=λv hv=>by
  rcases (a2 v).1 hv with h|⟨t,ht,h1,h2⟩
  ·exact absurd h (Ch _)
  ·exact (z5f.1 ⟨t,hp.mem_iff.1 (By ht),h1,h2⟩).2
 have k1:=key s.lo ⟨s,hsm,Bg _,hle⟩;have k2:=key s.hi ⟨s,hsm,hle,Bg _⟩;omega
theorem Mt(l:List Span)(hl:l.length<=1000000000000):BB Tryz.prog 181 [Bn l] (Abs.hl []) λy H'=>∃rest:List Span,y=.ref 0 1 0 (Bq l).length/\H'=Abs.hl [⟨2,1,true,(Bq l++rest).map C8⟩]:=by
 refine Yi (b:=0) W9 rfl ?_;unfold OI;(with_reducible repeat'(first|simp (disch:=omega) only[push_cast,↓zz,seval]|apply Aa|refine sp_ ?_ ?_<;>intro hc<;>push_cast at hc|omega|intro _))
 refine AQ (AX (λ(k:Nat)=>k<=l.length) (λk=>l.length-k) (λk=>[(3,.ref 0 1 0 (inN (l.take k)).length),(13,Bn l),(14,.int .i64 l.length),(15,.int .i64 k)])
  (λk=>[⟨2,1,true,(OV (inN (l.take k)) l.length).map C8⟩]) (λenv _=>[Cf 2 (env 3)]) 0 (by simp) ?_ ?_)
 ·have h0:(List.replicate l.length (AV.agg [AV.int IntKind.i64 0,AV.int IntKind.i64 0]))=(OV [] l.length).map C8:=by simp[OV]
  have h1:inN ([]:List Span)=[]:=rfl;(with_reducible repeat'(first|simp (disch:=omega) only[push_cast,↓zz,seval,h0,h1,Dn]|apply Aa|refine sp_ ?_ ?_<;>intro hc<;>push_cast at hc|omega|intro _))
 intro k hk;have hlen:(inN (l.take k)).length<=k:=by have:=WI (l.take k);simp at this;omega
 have hr:=z61 (m:=inN (l.take k)) (n:=l.length) (by omega);rcases Ah k l.length with hkl|hkl
 ·have hE:((OV (inN (l.take k)) l.length).map C8).isEmpty=false:=by
   cases hq:OV (inN (l.take k)) l.length with
   |nil=>rw[hq] at hr;simp at hr;omega
   |cons _ _=>rfl
  have ht:=zc9 hkl;refine W_T ?_;(with_reducible repeat'(first|simp (disch:=omega) only[push_cast,↓zz,seval,hr,hE]|apply Aa|refine sp_ ?_ ?_<;>intro hc<;>push_cast at hc|omega|intro _))
  ·rw[Ae (show (K9 (nth l k)).lo<=(K9 (nth l k)).hi from hc)] at ht
   refine⟨k+1,⟨⟨by rw[ht];simp,by simp⟩,?_⟩,by omega,by omega⟩;rw[ht,<-z62 (show (inN (l.take k)).length<l.length by omega) (K9 (nth l k))];simp only[Az,Bj,Bt,Av,List.singleton_append];exact Bc _ _
  ·rw[Ac (show ¬(K9 (nth l k)).lo<=(K9 (nth l k)).hi from hc),A5] at ht
   refine⟨k+1,⟨⟨by rw[ht],by simp⟩,?_⟩,by omega,by omega⟩;rw[ht];exact Bc _ _
 ·obtain rfl:k=l.length:=by omega
  refine W_T ?_;(with_reducible repeat'(first|simp (disch:=omega) only[push_cast,↓zz,seval,hr]|apply Aa|refine sp_ ?_ ?_<;>intro hc<;>push_cast at hc|omega|intro _));rw[A3] at *;refine BB.mono (zca (inN l) (List.replicate (l.length-(inN l).length) zcb) (by omega)) ?_;rintro y H' ⟨rfl,m',hp,hs,rfl⟩;have hpl:=hp.length_eq;have hrl:(List.replicate (l.length-(inN l).length) zcb).length<=l.length:=by simp
  generalize List.replicate (l.length-(inN l).length) zcb=rest at *;rw[<-zbx hp hs,<-hpl];have hml:m'.length<=1000000000000:=by have:=WI l;omega
  (with_reducible repeat'(first|simp (disch:=omega) only[push_cast,↓zz,seval]|apply Aa|refine sp_ ?_ ?_<;>intro hc<;>push_cast at hc|omega|intro _));have hfl:∀j,((m'.take j).foldl EB []).length<=j:=λj=>by have:=S8 (m'.take j) [];simp at this;omega
  have hmr:∀j,j<=m'.length->(mixS ((m'.take j).foldl EB []) (m'++rest)).length=m'.length+rest.length:=λj hj=>by rw[zcc (by have:=hfl j;simp;omega)];simp
  refine AQ (AX (λ(j:Nat)=>j<=m'.length) (λj=>m'.length-j) (λj=>[(6,.ref 0 1 0 ((m'.take j).foldl EB []).length),(41,.ref 0 1 0 m'.length),(42,.int .i64 m'.length),(43,.int .i64 j)])
   (λj=>[⟨2,1,true,(mixS ((m'.take j).foldl EB []) (m'++rest)).map C8⟩]) (λenv _=>[Cf 2 (env 6)]) 0 (by simp) ?_ ?_)
  ·(with_reducible repeat'(first|simp (disch:=omega) only[push_cast,↓zz,seval,YE,Dn,List.foldl_nil]|apply Aa|refine sp_ ?_ ?_<;>intro hc<;>push_cast at hc|omega|intro _))
  intro j hj;have hlj:=hmr j hj;have hfj:=hfl j;rcases Ah j m'.length with hjm|hjm
  ·have hstep:(m'.take (j+1)).foldl EB []=EB ((m'.take j).foldl EB []) (nth m' j):=by rw[take_at hjm,Co];rfl
   have hat:=zjs (s:=m'++rest) hfj;have hat2:nth (m'++rest) j=nth m' j:=by simp[nth,Ap,A8 hjm]
   rw[hat2] at hat;have hbd:=WQ hp hs j
   have hE:((mixS ((m'.take j).foldl EB []) (m'++rest)).map C8).isEmpty=false:=by
    cases hq:mixS ((m'.take j).foldl EB []) (m'++rest) with
    |nil=>rw[hq] at hlj;simp at hlj;omega
    |cons _ _=>rfl
   generalize (m'.take j).foldl EB []=out at *;rcases Fy out with rfl|⟨mm,y,rfl⟩
   ·refine W_T ?_
    (with_reducible repeat'(first|simp (disch:=omega) only[push_cast,↓zz,seval,hlj,hat,hE]|apply Aa|refine sp_ ?_ ?_<;>intro hc<;>push_cast at hc|omega|intro _));refine⟨j+1,⟨⟨by rw[hstep];simp[GG],by simp⟩,?_⟩,by omega,by omega⟩;rw[hstep,GG,YE];exact Bc _ _
   ·rw[K8] at hstep
    have hmm:mm.length+1<=j:=by simpa using hfj
    have hw:IntKind.i64.wrap (mm.length:Int)=mm.length:=IntWalk.i64_in _ (by omega);have hy:=hbd y (by simp);have hwy:IntKind.i64.wrap (y.hi+1)=y.hi+1:=IntWalk.i64_in _ (by omega);have hset:=zce (mm:=mm) (s:=m'++rest) (y:=y) (z:=⟨y.lo,max y.hi (nth m' j).hi⟩);refine W_T ?_;(with_reducible repeat'(first|simp (disch:=omega) only[push_cast,↓zz,seval,hlj,hat,z63,hE,hw,hwy,hset,Dn]|apply Aa|refine sp_ ?_ ?_<;>intro hc<;>push_cast at hc|omega|intro _))
    ·rw[Ae hc] at hstep
     refine⟨j+1,⟨⟨by rw[hstep];simp,by simp⟩,?_⟩,by omega,by omega⟩;rw[hstep];exact Bc _ _
    ·rw[Ac hc] at hstep
     refine⟨j+1,⟨⟨by rw[hstep];simp,by simp⟩,?_⟩,by omega,by omega⟩;rw[hstep,<-zcd (show (mm++[y]).length<(m'++rest).length by simp;omega) (nth m' j)];simp only[Az,Bj,Bt,Av,List.singleton_append,An,List.length_singleton];exact Bc _ _
  ·obtain rfl:j=m'.length:=by omega
   rw[A3] at *;refine W_T ?_;(with_reducible repeat'(first|simp (disch:=omega) only[push_cast,↓zz,seval,hlj]|apply Aa|refine sp_ ?_ ?_<;>intro hc<;>push_cast at hc|omega|intro _));refine Uo [.grp 0] (.ref 0 1 0 (m'.foldl EB []).length) [⟨2,1,true,(m'.foldl EB []++(m'++rest).drop (m'.foldl EB []).length).map C8⟩] ?_ ⟨_,rfl,rfl⟩;(with_reducible repeat'(first|simp (disch:=omega) only[push_cast,↓zz,seval]|apply Aa|refine sp_ ?_ ?_<;>intro hc<;>push_cast at hc|omega|intro _))
   all_goals (rw[<-Az];exact Bc _ _)
theorem Dj(l:List Span)(hl:l.length<=1000000000000):PC Tryz.prog 181 [Bn l] (Bn (Bq l)):=by
 have h:BB Tryz.prog 181 [Bn l] (Abs.hl []) λy H'=>y=Bn (Bq l)/\H'=Abs.hl []:=by
  refine Of ((Mt l hl).mono ?_);rintro y H' ⟨rest,rfl,rfl⟩;refine Uo [] (Bn (Bq l)) [] ?_ ⟨rfl,rfl⟩;have ht:List.take (Bq l).length ((Bq l).map C8++rest.map C8)=(Bq l).map C8:=D2 (by simp);have hn:(Bq l).length<=(Bq l).length+rest.length:=by omega
  (with_reducible repeat'(first|simp (disch:=omega) only[push_cast,↓zz,seval,ht,hn]|apply Aa|refine sp_ ?_ ?_<;>intro hc<;>push_cast at hc|omega|intro _))
 rw[PC,Ug];exact h
def Hc(x y:Span):Span:=⟨max x.lo y.lo,min x.hi y.hi⟩
def Gk:List Span->List Span->List Span
 |x::a,y::b=>(if (Hc x y).lo<=(Hc x y).hi then [Hc x y] else [])++if x.hi<y.hi then Gk a (y::b) else Gk (x::a) b
 |_,_=>[]
termination_by a b=>a.length+b.length
theorem HN(b:List Span):Gk [] b=[]:=by rw[Gk];simp
theorem Hv(a:List Span):Gk a []=[]:=by cases a<;>rw[Gk]<;>simp
theorem Mu(x y:Span)(a b:List Span):Gk (x::a) (y::b)=(if (Hc x y).lo<=(Hc x y).hi then [Hc x y] else [])++if x.hi<y.hi then Gk a (y::b) else Gk (x::a) b:=by rw[Gk]
theorem OW(a b:List Span)(la:a.length<=1000000000000)(lb:b.length<=1000000000000):PC Tryz.prog 182 [Bn a,Bn b] (Bn (Gk (Bq a) (Bq b))):=by
 refine BA WA ?_;unfold OJ;(with_reducible repeat'(first|simp (disch:=omega) only[push_cast,↓zz,seval]|apply Aa|refine sp_ ?_ ?_<;>intro hc<;>push_cast at hc|(have q_:=Dj a la;refine ee q_ ?_;clear q_)|(have q_:=Dj b lb;refine ee q_ ?_;clear q_)|(have q_:=Dj a la;refine cc q_ ?_;clear q_;(simp(disch:=omega)only[push_cast,↓zz,seval]);(fail_if_success change False))|(have q_:=Dj b lb;refine cc q_ ?_;clear q_;(simp(disch:=omega)only[push_cast,↓zz,seval]);(fail_if_success change False))|omega|intro _));have ha:=EY a;have hb:=EY b;generalize Bq a=a0 at *;generalize Bq b=b0 at *
 refine AQ (AX (λ(s:List Span × List Span × List Span)=>Gk a0 b0=s.2.2++Gk s.1 s.2.1/\s.1.length+s.2.1.length+s.2.2.length<=a0.length+b0.length) (λs=>s.1.length+s.2.1.length)
  (λs=>[(0,Bn s.1),(1,Bn s.2.1),(5,.ref 0 1 0 s.2.2.length)]) (λs=>[⟨2,1,false,s.2.2.map C8⟩]) (λenv _=>[Cf 2 (env 5)]) (a0,b0,[]) (by simp) ?_ ?_)
 ·(with_reducible repeat'(first|simp (disch:=omega) only[push_cast,↓zz,seval]|apply Aa|refine sp_ ?_ ?_<;>intro hc<;>push_cast at hc|omega|intro _))
 rintro⟨a',b',out⟩ ⟨h1,h2⟩;simp only at h1 h2;cases a' with
 |nil =>
  rw[HN,A5] at h1;rw[h1];refine W_T ?_;(with_reducible repeat'(first|simp (disch:=omega) only[push_cast,↓zz,seval]|apply Aa|refine sp_ ?_ ?_<;>intro hc<;>push_cast at hc|omega|intro _))
 |cons x a' =>
  cases b' with
  |nil =>
   rw[Hv,A5] at h1;rw[h1];refine W_T ?_;(with_reducible repeat'(first|simp (disch:=omega) only[push_cast,↓zz,seval]|apply Aa|refine sp_ ?_ ?_<;>intro hc<;>push_cast at hc|omega|intro _))
  |cons y b' =>
   rw[Mu] at h1;simp only[List.length_cons] at h2;refine W_T ?_;(with_reducible repeat'(first|simp (disch:=omega) only[push_cast,↓zz,seval,Bn,C8]|apply Aa|refine sp_ ?_ ?_<;>intro hc<;>push_cast at hc|omega|intro _))
   ·rw[Ae (show (Hc x y).lo<=(Hc x y).hi from ‹max x.lo y.lo<=min x.hi y.hi›),Ae hc] at h1
    refine⟨(a',y::b',out++[Hc x y]),⟨⟨rfl,rfl,by simp⟩,?_⟩,⟨by simp[h1],by first|(simp;done)|(simp;omega)⟩,by simp⟩;rw[Az];exact Bc _ _
   ·rw[Ae (show (Hc x y).lo<=(Hc x y).hi from ‹max x.lo y.lo<=min x.hi y.hi›),Ac hc] at h1
    refine⟨(x::a',b',out++[Hc x y]),⟨⟨rfl,rfl,by simp⟩,?_⟩,⟨by simp[h1],by first|(simp;done)|(simp;omega)⟩,by first|(simp;done)|(simp;omega)⟩;rw[Az];exact Bc _ _
   ·rw[Ac (show ¬(Hc x y).lo<=(Hc x y).hi from ‹¬max x.lo y.lo<=min x.hi y.hi›),Ae hc,List.nil_append] at h1
    refine⟨(a',y::b',out),⟨⟨rfl,rfl,rfl⟩,Bc _ _⟩,⟨h1,by first|(simp;done)|(simp;omega)⟩,by simp⟩
   ·rw[Ac (show ¬(Hc x y).lo<=(Hc x y).hi from ‹¬max x.lo y.lo<=min x.hi y.hi›),Ac hc,List.nil_append] at h1
    refine⟨(x::a',b',out),⟨⟨rfl,rfl,rfl⟩,Bc _ _⟩,⟨h1,by first|(simp;done)|(simp;omega)⟩,by first|(simp;done)|(simp;omega)⟩
theorem Jr:∀(a b:List Span),Plain a->Plain b->Plain (Gk a b)/\∀v,memL (Gk a b) v↔memL a v/\memL b v
 |[],b,_,_=>by
  rw[HN];exact⟨⟨by simp,by simp⟩,λv=>by simp only[Ch,false_and]⟩
 |x::a,[],_,_=>by
  rw[Hv];exact⟨⟨by simp,by simp⟩,λv=>by simp only[Ch,and_false]⟩
 |x::a,y::b,ha,hb=>by
  have hx:=ha.head;have hy:=hb.head;rw[Mu]
  -- what the rest has,begins behind what ends first
  have key:∀{r:List Span},Plain r->(∀v,memL r v->min x.hi y.hi+1<v)->Plain ((if (Hc x y).lo<=(Hc x y).hi then [Hc x y] else [])++r)/\∀v,memL ((if (Hc x y).lo<=(Hc x y).hi then [Hc x y] else [])++r) v↔((x.lo<=v/\v<=x.hi)/\(y.lo<=v/\v<=y.hi))\/memL r v:=by
   intro r hr hv;split
   ·rename_i hle
    refine⟨⟨?_,?_⟩,λv=>?_⟩
    ·intro s hs
     rcases Am.1 hs with hs|hs
     ·simp only[Ao] at hs;subst hs;exact hle
     ·exact hr.1 s hs
    ·rw[List.singleton_append,A9]
     exact⟨λt ht=>hv t.lo ⟨t,ht,Bg _,hr.1 t ht⟩,hr.2⟩
    ·rw[List.singleton_append,Bw]
     simp only[Hc];constructor
     ·rintro (h|h)
      ·exact .inl (by omega)
      ·exact .inr h
     ·rintro (h|h)
      ·exact .inl (by omega)
      ·exact .inr h
   ·rename_i hle
    simp only[Hc] at hle;rw[List.nil_append];refine⟨hr,λv=>⟨.inr,λh=>h.resolve_left λh=>by omega⟩⟩
  by_cases hlt:x.hi<y.hi
  ·rw[Ae hlt]
   obtain⟨p1,p2⟩:=Jr a (y::b) ha.tail hb;obtain⟨q1,q2⟩:=key p1 λv hv=>by have:=ha.after ((p2 v).1 hv).1;omega
   refine⟨q1,λv=>?_⟩;rw[q2 v,p2 v,Bw,Bw];constructor
   ·rintro (⟨h1,h2⟩|⟨h1,h2⟩)
    ·exact⟨.inl h1,.inl h2⟩
    ·exact⟨.inr h1,h2⟩
   ·rintro⟨h1|h1,h2⟩
    ·rcases h2 with h2|h2
     ·exact .inl ⟨h1,h2⟩
     ·have:=hb.after h2;omega
    ·exact .inr ⟨h1,h2⟩
  ·rw[Ac hlt]
   obtain⟨p1,p2⟩:=Jr (x::a) b ha hb.tail;obtain⟨q1,q2⟩:=key p1 λv hv=>by have:=hb.after ((p2 v).1 hv).2;omega
   refine⟨q1,λv=>?_⟩;rw[q2 v,p2 v,Bw,Bw];constructor
   ·rintro (⟨h1,h2⟩|⟨h1,h2⟩)
    ·exact⟨.inl h1,.inl h2⟩
    ·exact⟨h1,.inr h2⟩
   ·rintro⟨h1,h2|h2⟩
    ·rcases h1 with h1|h1
     ·exact .inl ⟨h1,h2⟩
     ·have:=ha.after h1;omega
    ·exact .inr ⟨h1,h2⟩
termination_by a b=>a.length+b.length
theorem ED(l:List Span):∀s∈Bq l,-1073741824<=s.lo/\s.lo<=s.hi/\s.hi<=1073741824:=by
 obtain⟨h1,h2⟩:=Bo l;intro s hs;have hle:=h1.1 s hs;have k1:=((h2 s.lo).1 ⟨s,hs,Bg _,hle⟩).2;have k2:=((h2 s.hi).1 ⟨s,hs,hle,Bg _⟩).2;omega
def Mv:Int->List Span->List Span
 |f,[]=>[⟨f,1073741824⟩]
 |f,x::l=>⟨f,x.lo-1⟩::Mv (x.hi+1) l
theorem Vg:∀(l:List Span)(f:Int),(Mv f l).length=l.length+1
 |[],f=>rfl
 |x::l,f=>by rw[Mv,List.length_cons,Vg l];rfl
theorem Vh:∀(l:List Span)(f:Int),Plain l->(∀s∈l,f<=s.lo/\s.hi<=1073741824)->∀v,memL (Mv f l) v↔f<=v/\v<=1073741824/\¬memL l v
 |[],f,_,_,v=>by
  rw[Mv,Bw];simp only[Ch,AH,B4,and_true]
 |x::l,f,h,hb,v=>by
  have hx:=h.head;have hxb:=hb x (by simp);rw[Mv,Bw,Vh l (x.hi+1) h.tail (λs hs=>⟨by have:=(A9.1 h.2).1 s hs;omega,(hb s (by simp[hs])).2⟩) v,Bw];have ha:memL l v->x.hi+1<v:=λhv=>h.after hv;dsimp only;constructor
  ·rintro (h1|⟨h1,h2,h3⟩)
   ·exact⟨h1.1,by omega,λhh=>hh.elim (λhh=>by omega) (λhh=>by have:=ha hh;omega)⟩
   ·exact⟨by omega,h2,λhh=>hh.elim (λhh=>by omega) h3⟩
  ·rintro⟨h1,h2,h3⟩
   rcases Ed v x.lo with hlt|hge
   ·exact .inl ⟨h1,by omega⟩
   ·refine .inr ⟨?_,h2,λhh=>h3 (.inr hh)⟩
    rcases Ed x.hi v with hlt2|hge2
    ·omega
    ·exact absurd (.inl ⟨hge,hge2⟩) h3
def FZ(a b:List Span):List Span:=Gk (Bq a) (Bq (Mv (-1073741824) (Bq b)))
theorem QO(a b:List Span):Plain (FZ a b)/\∀v,memL (FZ a b) v↔memL a v/\(-1073741824<=v/\v<=1073741824)/\¬memL b v:=by
 obtain⟨a1,a2⟩:=Bo a;obtain⟨b1,b2⟩:=Bo b;obtain⟨g1,g2⟩:=Bo (Mv (-1073741824) (Bq b));obtain⟨m1,m2⟩:=Jr _ _ a1 g1;refine⟨m1,λv=>?_⟩;rw[FZ,m2 v,a2 v,g2 v,Vh _ _ b1 (λs hs=>by have:=ED b s hs;omega) v,b2 v];constructor
 ·rintro⟨⟨h1,h2⟩,⟨h3,h4,h5⟩,h6⟩
  exact⟨h1,h2,λh=>h5 ⟨h,h2⟩⟩
 ·rintro⟨h1,h2,h3⟩
  exact⟨⟨h1,h2⟩,⟨h2.1,h2.2,λh=>h3 h.1⟩,h2⟩
theorem QP(a b:List Span)(la:a.length<=100000000000)(lb:b.length<=100000000000):PC Tryz.prog 165 [Bn a,Bn b] (Bn (FZ a b)):=by
 refine BA UQ ?_;unfold MW;(with_reducible repeat'(first|simp (disch:=omega) only[push_cast,↓zz,seval]|apply Aa|refine sp_ ?_ ?_<;>intro hc<;>push_cast at hc|(have q_:=Dj b (by omega);refine ee q_ ?_;clear q_)|(have q_:=Dj b (by omega);refine cc q_ ?_;clear q_;(simp(disch:=omega)only[push_cast,↓zz,seval]);(fail_if_success change False))|omega|intro _));have hb:=EY b;have hbd:=ED b;have hgl:=Vg (Bq b) (-1073741824);have hmeet:=OW a (Mv (-1073741824) (Bq b)) (by omega) (by omega);rw[<-FZ] at hmeet;generalize Bq b=b0 at *
 refine AQ (AX (λ(s:Nat × Int × List Span)=>s.1<=b0.length/\s.2.2.length=s.1/\(-1073741824<=s.2.1/\s.2.1<=1073741825)/\Mv (-1073741824) b0=s.2.2++Mv s.2.1 (b0.drop s.1)) (λs=>b0.length-s.1)
  (λs=>[(0,Bn a),(5,.ref 0 1 0 s.2.2.length),(6,.int .i64 s.2.1),(10,Bn b0),(11,.int .i64 b0.length),(12,.int .i64 s.1)]) (λs=>[⟨2,1,false,s.2.2.map C8⟩]) (λenv _=>[Cf 2 (env 5)]) (0,-1073741824,[]) (by simp) ?_ ?_)
 ·(with_reducible repeat'(first|simp (disch:=omega) only[push_cast,↓zz,seval]|apply Aa|refine sp_ ?_ ?_<;>intro hc<;>push_cast at hc|omega|intro _))
 rintro⟨k,f,out⟩ ⟨h1,h2,h3,h4⟩;simp only at h1 h2 h3 h4;rcases Ah k b0.length with hk|hk
 ·have hx:=hbd _ (AL hk)
  rw[drop_at hk,Mv] at h4;have w1:IntKind.i64.wrap ((nth b0 k).lo-1)=(nth b0 k).lo-1:=IntWalk.i64_in _ (by omega);have w2:IntKind.i64.wrap ((nth b0 k).hi+1)=(nth b0 k).hi+1:=IntWalk.i64_in _ (by omega);refine W_T ?_;(with_reducible repeat'(first|simp (disch:=omega) only[push_cast,↓zz,seval,w1,w2]|apply Aa|refine sp_ ?_ ?_<;>intro hc<;>push_cast at hc|omega|intro _));refine⟨(k+1,(nth b0 k).hi+1,out++[⟨f,(nth b0 k).lo-1⟩]),⟨⟨by simp,rfl,by simp⟩,?_⟩,⟨by omega,by simp[h2],by simp only;omega,by simp[h4]⟩,by omega⟩;rw[Az];exact Bc _ _
 ·obtain rfl:k=b0.length:=by omega
  rw[Aj (Af _),Mv] at h4;rw[h4] at hmeet
  have htk:List.take (out.length+1) (out.map C8++[AV.agg [.int .i64 f,.int .i64 1073741824]])=(out++[(⟨f,1073741824⟩:Span)]).map C8:=by
   rw[Al (by simp),Az];rfl
  refine W_T ?_;(with_reducible repeat'(first|simp (disch:=omega) only[push_cast,↓zz,seval,Bn,E8,htk,Dn]|apply Aa|refine sp_ ?_ ?_<;>intro hc<;>push_cast at hc|refine ee hmeet ?_|(refine cc hmeet ?_;(simp(disch:=omega)only[push_cast,↓zz,seval,Bn,E8,htk,Dn]);(fail_if_success change False))|omega|intro _))
  all_goals trace_state
theorem OX(a b:List Span)(la:a.length<=100000000000)(lb:b.length<=100000000000):PC Tryz.prog 146 [Bn a,Bn b] (.bool (decide (FZ a b=[]))):=by
 refine BA Ss ?_;unfold Lx;(with_reducible repeat'(first|simp (disch:=omega) only[push_cast,↓zz,seval]|apply Aa|refine sp_ ?_ ?_<;>intro hc<;>push_cast at hc|(have q_:=QP a b la lb;refine ee q_ ?_;clear q_)|(have q_:=QP a b la lb;refine cc q_ ?_;clear q_;(simp(disch:=omega)only[push_cast,↓zz,seval]);(fail_if_success change False))|omega|intro _))
 all_goals (rw[BC];exact⟨λh=>Ay (by omega),λh=>by rw[h];rfl⟩)
theorem TI_w{I:Itr}{n:Nat}{s:Option Nat}{env:Env}{H:Ax}{Q:Option Nat->Ex->Env->Ax->Prop}{ops:List AOp}{P:Program}(hP:I.P=P)(h:W P n 0 (.reg ops) env H (Q s)):TI I n (.reg ops) s env H Q:=zo2 (by
 rw[hP];rw[W] at h
 first|exact h|rwa [Md] at h|(simpa only[Md] using h))
theorem WR{I:Itr}{n:Nat}{s:Option Nat}{env:Env}{H:Ax}{Q Q':Option Nat->Ex->Env->Ax->Prop}{c:AC}(h:TI I n c s env H Q)(hq:∀s x e H,Q s x e H->Q' s x e H):TI I n c s env H Q' :=
 λcode hc S a X hN hF hd=>wpIn_mono (h code hc S a X hN hF hd) λe a w hh=>by
  obtain⟨S',env',H',x,s',X',h1,h2,h3,h4,h5,h6⟩:=hh;exact⟨S',env',H',x,s',X',h1,h2,h3,h4,h5,hq _ _ _ _ h6⟩
def LC:AC->Bool
 |.skip|.reg _|.exit _|.ret=>true
 |.seq x y=>LC x&&LC y
 |.cond _ x y=>LC x&&LC y
 |.block _ c=>LC c
 |_=>false
theorem TI_W{I:Itr}{n:Nat}{P:Program}(hP:I.P=P):∀{c:AC}{s:Option Nat}{env:Env}{H:Ax}{Q:Ex->Env->Ax->Prop},LC c=true->W P n 0 c env H Q->TI I n c s env H (λs' x e H'=>s'=s/\Q x e H')
 |.skip,s,env,H,Q,_,h=>zjg ⟨rfl,h⟩
 |.exit id,s,env,H,Q,_,h=>zjh ⟨rfl,h⟩
 |.ret,s,env,H,Q,_,h=>zo1 ⟨rfl,h⟩
 |.reg ops,s,env,H,Q,_,h=>TI_w (Q:=λs' x e H'=>s'=s/\Q x e H') hP (by
  have h':wk P ops env H _:=h;show wk P ops env H (λe H'=>s=s/\Q .normal e H');have e:(λ(e:Env) (H':Ax)=>s=s/\Q .normal e H')=λe H'=>Q .normal e H':=by funext e H';simp
  rw[e]
  exact h')
 |.seq x y,s,env,H,Q,hc,h=>by
  simp only[LC,Ab] at hc;refine HA (WR (TI_W hP (c:=x) hc.1 h) λs' z e H' hh=>?_);obtain⟨rfl,hh⟩:=hh;cases z with
  |normal=>exact TI_W hP (c:=y) hc.2 hh
  |exit id=>exact⟨rfl,hh⟩
  |ret=>exact⟨rfl,hh⟩
 |.cond c x y,s,env,H,Q,hc,h=>by
  simp only[LC,Ab] at hc;have h':Wh (c.eval env) (W P n 0 x env H Q) (W P n 0 y env H Q):=h;unfold Wh at h';split at h'
  ·rename_i q hq;exact zji hq (λhb=>TI_W hP hc.1 (h'.1 hb)) (λhb=>TI_W hP hc.2 (h'.2 hb))
  ·exact h'.elim
 |.block id c,s,env,H,Q,hc,h=>by
  refine IB (WR (TI_W hP (c:=c) hc h) λs' z e H' hh=>?_);obtain⟨rfl,hh⟩:=hh;cases z with
  |normal=>exact⟨rfl,hh⟩
  |ret=>exact⟨rfl,hh⟩
  |exit k =>
   simp only[Ex.inBlock,Ex.inBlockI] at hh ⊢;split<;>rename_i hk
   ·rw[Ae hk] at hh;exact⟨trivial,hh⟩
   ·rw[Ac hk] at hh;exact⟨trivial,hh⟩
theorem TI_v{I:Itr}{n:Nat}{P:Program}{c:AC}{s:Option Nat}{env:Env}{H:Ax}{Q:Option Nat->Ex->Env->Ax->Prop}(hP:I.P=P)(hc:LC c=true)(h:W P n 0 c env H (Q s)):TI I n c s env H Q :=
 WR (TI_W hP hc h) λs' x e H' hh=>by
  obtain⟨rfl,hh⟩:=hh;exact hh
theorem Vi:∀(live:List (Nat × AV))(i:Nat),EI live i=.any\/(i,EI live i)∈live:=by
 intro live i
 induction live with
 |nil=>exact .inl rfl
 |cons p l ih =>
  obtain⟨t,x⟩:=p;show (if i=t then x else EI l i)=.any\/(i,if i=t then x else EI l i)∈(t,x)::l;split
  ·rename_i h;subst h;exact .inr (by simp)
  ·rcases ih with h|h
   ·exact .inl h
   ·exact .inr (by simp[h])
theorem zo8{I:Itr}{n:Nat}{s:Option Nat}{env:Env}{H:Ax}{Q:Option Nat->Ex->Env->Ax->Prop}{c:AC}{live:List (Nat × AV)}(hl:∀p∈live,env p.1=p.2)(h:TI I n c s (EI live) H Q):TI I n c s env H Q :=
 λcode hc S a X hN hF hd=>h code hc S a X hN ⟨hF.size,hF.defers,λi hi=>by
  rcases Vi live i with he|he
  ·rw[he];trivial
  ·have:=hl _ he
   simp only at this;rw[<-this]
   exact hF.val i hi⟩ hd
theorem z64{I:Itr}{n:Nat}{s:Option Nat}{env:Env}{H:Ax}{Q:Option Nat->Ex->Env->Ax->Prop}{c:AC}{live:List (Nat × AV)}(hl:∀p∈live,env p.1=p.2/\p.2.pure=true)(h:TI I n c s (EI live) (Abs.hl []) Q):TI I n c s env H Q :=
 λcode hc S a X hN hF hd=>by
  have hN':I.Now s X { S with n:=0 } (Abs.hl []):=⟨⟨rfl,λg hg=>absurd hg (AP _),λg _ hg=>absurd hg (AP _),hN.rel.im⟩,hN.base,hN.keep,hN.im,hN.apart,hN.st⟩;refine h code hc { S with n:=0 } a X hN' ⟨hF.size,by rw[hd];exact Marks.nil hN.base,λi hi=>?_⟩ hd;rcases Vi live i with he|he
  ·rw[he];trivial
  ·obtain⟨h1,h2⟩:=hl _ he
   simp only at h1 h2;have hv:=hF.val i hi;rw[h1] at hv;exact VRel.of_pure (S:=S) (S':={ S with n:=0 }) rfl (λ_ h=>h) h2 hv
def SO(lo:Int)(n:Nat):List Int:=(List.range n).map λ(i:Nat)=>lo+(i:Int)
def FK(l:List Span):List Int:=l.flatMap λs=>SO s.lo (s.hi+1-s.lo).toNat
theorem OY(l:List Span)(hl:l.length<=1000000000000)(hb:∀s∈l,-1073741824<=s.lo/\s.lo<=s.hi/\s.hi<=1073741824):Um Tryz.prog 204 [.cptr (Bn l)] ((FK l).map λx=>[.int .i64 x]):=by
 refine z5g S7 λI hP hr=>?_;show TI I 25 IA _ _ _ _;unfold IA;refine HA (TI_v hP (by rfl) ?_);(with_reducible repeat'(first|simp (disch:=omega) only[push_cast,↓zz,seval]|apply Aa|refine sp_ ?_ ?_<;>intro hc<;>push_cast at hc|omega|intro _));refine (IB (WJ (λ(t:Nat) s env H=>t<=l.length/\s=some (FK (l.take t)).length/\∀p∈[(0,AV.yld I.l),(6,Bn l),(7,AV.int .i64 l.length),(8,AV.int .i64 t)],env p.1=p.2) (λt=>l.length-t) 0 ?_ ?_):TI I 25 _ _ _ _ _)
 ·refine⟨Aw _,by simp[FK],?_⟩
  simp only[Ai,As,AH,BD,Cy];exact⟨rfl,rfl,rfl,rfl⟩
 rintro t s env H ⟨ht,rfl,hlv⟩;refine z64 (live:=[(0,AV.yld I.l),(6,Bn l),(7,AV.int .i64 l.length),(8,AV.int .i64 t)]) (λp hp=>⟨hlv p hp,?_⟩) ?_
 ·simp only[Ai,As,AH] at hp
  rcases hp with rfl|rfl|rfl|rfl<;>first|rfl|exact Dn l
 refine HA (TI_v hP (by rfl) ?_);(with_reducible repeat'(first|simp (disch:=omega) only[push_cast,↓zz,seval]|apply Aa|refine sp_ ?_ ?_<;>intro hc<;>push_cast at hc|omega|intro _));refine (HA ?_:TI I 25 _ _ _ _ _);refine TI_v hP (by rfl) ?_;(with_reducible repeat'(first|simp (disch:=omega) only[push_cast,↓zz,seval]|apply Aa|refine sp_ ?_ ?_<;>intro hc<;>push_cast at hc|omega|intro _))
 ·refine (HA (IB (HA ?_)):TI I 25 _ _ _ _ _)
  refine TI_v hP (by rfl) ?_;(with_reducible repeat'(first|simp (disch:=omega) only[push_cast,↓zz,seval]|apply Aa|refine sp_ ?_ ?_<;>intro hc<;>push_cast at hc|omega|intro _));refine (HA ?_:TI I 25 _ _ _ _ _);refine TI_v hP (by rfl) ?_;(with_reducible repeat'(first|simp (disch:=omega) only[push_cast,↓zz,seval]|apply Aa|refine sp_ ?_ ?_<;>intro hc<;>push_cast at hc|omega|intro _));have hs:=hb _ (AL (l:=l) (i:=t) (by omega))
  have hrow:∀i:Nat,(nth l t).lo+i<=(nth l t).hi->I.rows[(FK (l.take t)).length+i]? = some [AV.int .i64 ((nth l t).lo+i)]:=λi hi=>by
   have e:FK l=FK (l.take t)++(SO (nth l t).lo ((nth l t).hi+1-(nth l t).lo).toNat++FK (l.drop (t+1))):=by
    conv=>lhs;rw[<-C6 t l,drop_at (show t<l.length by omega)]
    simp[FK]
   rw[hr,e,DF,AB (by omega),Nat.add_sub_cancel_left,A8 (by simp[SO];omega)];simp only[SO,DF];rw[List.getElem?_range (by omega)];rfl
  have hend:(FK (l.take (t+1))).length=(FK (l.take t)).length+((nth l t).hi+1-(nth l t).lo).toNat:=by
   rw[take_at (show t<l.length by omega)];simp[FK,SO]
  refine (IB (WJ (λ(i:Nat) s env H=>(nth l t).lo+i<=(nth l t).hi+1/\s=some ((FK (l.take t)).length+i)/\H=Abs.hl [⟨2,1,true,[C8 (nth l t)]⟩]/\∀p∈[(0,AV.yld I.l),(4,AV.ptr 0 1 0 0),(5,AV.int .i64 ((nth l t).lo+i)),(6,Bn l),(7,AV.int .i64 l.length),(8,AV.int .i64 t)],env p.1=p.2) (λi=>((nth l t).hi+1-(nth l t).lo).toNat-i) 0 ?_ ?_):TI I 25 _ _ _ _ _)
  ·refine⟨by omega,by simp,rfl,?_⟩
   simp only[Ai,As,AH,BD,Cy];refine⟨rfl,rfl,?_,rfl,rfl,rfl⟩;show AV.int .i64 (nth l t).lo=AV.int .i64 ((nth l t).lo+(0:Nat));simp
  rintro i s env H ⟨hi,rfl,rfl,hlv2⟩;refine zo8 (live:=[(0,AV.yld I.l),(4,AV.ptr 0 1 0 0),(5,AV.int .i64 ((nth l t).lo+i)),(6,Bn l),(7,AV.int .i64 l.length),(8,AV.int .i64 t)]) hlv2 ?_;refine HA ?_;refine TI_v hP (by rfl) ?_;(with_reducible repeat'(first|simp (disch:=omega) only[push_cast,↓zz,seval]|apply Aa|refine sp_ ?_ ?_<;>intro hc<;>push_cast at hc|omega|intro _))
  ·refine (HA (IB (HA ?_)):TI I 25 _ _ _ _ _)
   refine Y6 (pre:=[_,_]) (post:=[_]) rfl rfl ?_;refine⟨[AV.int .i64 ((nth l t).lo+i)],rfl,?_,hrow i hc,?_,?_⟩
   ·intro x hx
    simp only[Ao] at hx;subst hx;exact λS v hv=>hv
   ·rw[hP,<-Md]
    (with_reducible repeat'(first|simp (disch:=omega) only[push_cast,↓zz,seval]|apply Aa|refine sp_ ?_ ?_<;>intro hc<;>push_cast at hc|omega|intro _));refine (TI_v hP ?q1 ?_:TI I 25 _ _ _ _ _)
    case q1=>rfl
    (with_reducible repeat'(first|simp (disch:=omega) only[push_cast,↓zz,seval]|apply Aa|refine sp_ ?_ ?_<;>intro hc<;>push_cast at hc|omega|intro _));refine (TI_v hP ?q2 ?_:TI I 25 _ _ _ _ _)
    case q2=>rfl
    (with_reducible repeat'(first|simp (disch:=omega) only[push_cast,↓zz,seval]|apply Aa|refine sp_ ?_ ?_<;>intro hc<;>push_cast at hc|omega|intro _));refine⟨i+1,⟨by omega,by rw[Br],rfl,rfl,rfl,?_,rfl,rfl,rfl⟩,by omega⟩;show AV.int .i64 ((nth l t).lo+(i:Int)+1)=AV.int .i64 ((nth l t).lo+((i+1:Nat):Int))
    all_goals first|rfl|(rw[AV.int.injEq];exact⟨rfl,by omega⟩)
   ·rw[hP,<-Md]
    (with_reducible repeat'(first|simp (disch:=omega) only[push_cast,↓zz,seval]|apply Aa|refine sp_ ?_ ?_<;>intro hc<;>push_cast at hc|omega|intro _));refine (TI_v hP ?q3 ?_:TI I 25 _ _ _ _ _)
    case q3=>rfl
    (with_reducible repeat'(first|simp (disch:=omega) only[push_cast,↓zz,seval]|apply Aa|refine sp_ ?_ ?_<;>intro hc<;>push_cast at hc|omega|intro _));exact⟨trivial,.inr rfl⟩
  ·refine (TI_v hP ?q4 ?_:TI I 25 _ _ _ _ _)
   case q4=>rfl
   (with_reducible repeat'(first|simp (disch:=omega) only[push_cast,↓zz,seval]|apply Aa|refine sp_ ?_ ?_<;>intro hc<;>push_cast at hc|omega|intro _));refine⟨t+1,⟨by omega,?_,rfl,rfl,rfl,?_⟩,by omega⟩
   ·first|(rw[hend];congr 2;omega)|trace_state
   all_goals first|rfl|(rw[AV.int.injEq];exact⟨rfl,by omega⟩)
 ·refine⟨trivial,.inl ?_⟩
  rw[Al (by omega)]
theorem OZ(l:List Span)(hl:l.length<=1000000000000):PC Tryz.prog 197 [Bn l] (.fn 204 [.cptr (Bn (Bq l))]):=by
 refine BA WC ?_;unfold OL;(with_reducible repeat'(first|simp (disch:=omega) only[push_cast,↓zz,seval]|apply Aa|refine sp_ ?_ ?_<;>intro hc<;>push_cast at hc|(have q_:=Dj l hl;refine ee q_ ?_;clear q_)|(have q_:=Dj l hl;refine cc q_ ?_;clear q_;(simp(disch:=omega)only[push_cast,↓zz,seval]);(fail_if_success change False))|omega|intro _))
 all_goals trace_state
def hasI(l:List Span)(x:Int):Bool:=decide (-1073741824<=x/\x<=1073741824)&&l.any λp=>decide (p.lo<=x/\x<=p.hi)
theorem SP{α:Type}[Inhabited α]{f:α->Bool}{l:List α}{k:Nat}(h:k<l.length):(l.drop k).any f=(f (nth l k)||(l.drop (k+1)).any f):=by rw[drop_at h,List.any_cons]
theorem z0m{l:List Span}{x:Int}(h:-1073741824<=x/\x<=1073741824):hasI l x=l.any λp=>decide (p.lo<=x/\x<=p.hi):=by simp[hasI,h]
theorem zcf(l:List Span)(x:Int)(hl:l.length<=9223372036854775807):PC Tryz.prog 104 [Bn l,.int .i64 x] (.bool (hasI l x)):=by
 refine BA z0c ?_;unfold QD;(with_reducible repeat'(first|simp (disch:=omega) only[push_cast,↓zz,seval]|apply Aa|refine sp_ ?_ ?_<;>intro hc<;>push_cast at hc|omega|intro _))
 all_goals first|(rw[BN];simp[hasI];omega;done)|skip
 rw[z0m (by omega)];refine AQ (AX (λ(i:Nat)=>i<=l.length/\(l.any λp=>decide (p.lo<=x/\x<=p.hi))=(l.drop i).any λp=>decide (p.lo<=x/\x<=p.hi)) (λi=>l.length-i) (λi=>[(1,.int .i64 x),(13,Bn l),(14,.int .i64 l.length),(15,.int .i64 i)]) (λ_=>[]) (λ_ _=>[]) 0 (by simp) ?_ ?_)
 ·(with_reducible repeat'(first|simp (disch:=omega) only[push_cast,↓zz,seval]|apply Aa|refine sp_ ?_ ?_<;>intro hc<;>push_cast at hc|omega|intro _))
 rintro i ⟨hi,ht⟩;refine W_T ?_;(with_reducible repeat'(first|simp (disch:=omega) only[push_cast,↓zz,seval]|apply Aa|refine sp_ ?_ ?_<;>intro hc<;>push_cast at hc|omega|intro _))
 ·rw[ht,SP (by omega)];simp[*]
 ·exact⟨i+1,by simp,⟨by omega,by rw[ht,SP (by omega)];simp[*]⟩,by omega⟩
 ·exact⟨i+1,by simp,⟨by omega,by rw[ht,SP (by omega)];simp[*]⟩,by omega⟩
 ·rw[ht,Aj (by omega)];rfl
theorem LD(l:List Span)(x:Int)(hl:l.length<=9223372036854775807):PC Tryz.prog 110 [Bn l,.int .i64 x] (.bool (hasI l x)):=by
 refine BA Wz ?_;unfold O4;(with_reducible repeat'(first|simp (disch:=omega) only[push_cast,↓zz,seval]|apply Aa|refine sp_ ?_ ?_<;>intro hc<;>push_cast at hc|omega|intro _));refine AQ (AX (λ(i:Nat)=>i<=l.length/\hasI l x=hasI (l.drop i) x) (λi=>l.length-i) (λi=>[(0,Bn l),(1,.int .i64 x),(5,.int .i64 i)]) (λ_=>[]) (λ_ _=>[]) 0 (by simp) ?_ ?_)
 ·(with_reducible repeat'(first|simp (disch:=omega) only[push_cast,↓zz,seval]|apply Aa|refine sp_ ?_ ?_<;>intro hc<;>push_cast at hc|omega|intro _))
 rintro i ⟨hi,ht⟩;rcases Ah i l.length with hil|hil
 ·have hat:hasI (l.drop i) x=(decide ((nth l i).lo<=x/\x<=(nth l i).hi/\-1073741824<=x/\x<=1073741824)||hasI (l.drop (i+1)) x):=by
   rw[drop_at hil];simp only[hasI,List.any_cons];by_cases h1:-1073741824<=x/\x<=1073741824
   ·simp[h1]
   ·first|(simp[h1];done)|(simp[h1];omega)
  rw[ht,hat];refine W_T ?_;(with_reducible repeat'(first|simp (disch:=omega) only[push_cast,↓zz,seval]|apply Aa|refine sp_ ?_ ?_<;>intro hc<;>push_cast at hc|omega|intro _))
  all_goals first
   |(rw[A7 (by omega)];rfl)
   |exact⟨i+1,by simp,⟨by omega,by rw[AM (by omega)];rfl⟩,by omega⟩
 ·rw[ht,Aj hil]
  refine W_T ?_;(with_reducible repeat'(first|simp (disch:=omega) only[push_cast,↓zz,seval]|apply Aa|refine sp_ ?_ ?_<;>intro hc<;>push_cast at hc|omega|intro _))
  all_goals simp[hasI]
abbrev intV(x:Int):AV:=.int .i64 x
theorem GI(l:List Int):A6 (l.map intV)=true:=FH (λ_=>rfl) l
def C1(l:List Int):Prop:=l.Pairwise λa b=>a<b
structure Place(l:List Int)(x:Int)(lo hi:Nat):Prop where
 le:lo<=hi
 top:hi<=l.length
 lt:∀j,j<lo->nth l j<x
 ge:∀j,hi<=j->j<l.length->x<=nth l j
theorem LF{l:List Int}(h:C1 l){i j:Nat}(hij:i<j)(hj:j<l.length):nth l i<nth l j:=by
 have:=BW.1 h i j (by omega) hj hij;simpa [nth,Ap,Ak hj,Ak (show i<l.length by omega)] using this
theorem QQ{l:List Int}{x:Int}{lo hi:Nat}(hr:C1 l)(h:Place l x lo hi)(hlt:lo<hi):
 (nth l ((lo+hi) / 2)<x->Place l x ((lo+hi) / 2+1) hi)/\(¬nth l ((lo+hi) / 2)<x->Place l x lo ((lo+hi) / 2)):=by
 have h1:=h.top;refine⟨λhx=>⟨by omega,h1,λj hj=>?_,h.ge⟩,λhx=>⟨by omega,by omega,h.lt,λj hj hjl=>?_⟩⟩
 ·rcases Ah j ((lo+hi) / 2) with hh|hh
  ·have:=LF hr hh (by omega);omega
  ·obtain rfl:j=(lo+hi) / 2:=by omega
   exact hx
 ·rcases Ah ((lo+hi) / 2) j with hh|hh
  ·have:=LF hr hh hjl;omega
  ·obtain rfl:j=(lo+hi) / 2:=by omega
   omega
def gapL(l:List Int)(i:Nat)(y:Int):List Int:=l.take i++y::l.drop i
theorem YF{l:List Int}{i:Nat}{y:Int}(h:i<=l.length):(gapL l i y).length=l.length+1:=by simp[gapL];omega
theorem N2{l:List Int}{i:Nat}{y z:Int}(h:i<=l.length):((gapL l i y).map intV).set i (intV z)=(gapL l i z).map intV:=by
 rw[<-List.map_set];congr 1;simp only[gapL];rw[DD _ _ (by rw[BR];omega),show i-(l.take i).length=0 from by simp;omega];rfl
theorem Vj{l:List Int}{i:Nat}(h:i<l.length):gapL l (i+1) (nth l i)=gapL l i (nth l i):=by
 simp only[gapL];rw[take_at h,drop_at h];simp
theorem z65{l:List Int}{i:Nat}{y:Int}(h:i<l.length):nth (gapL l (i+1) y) i=nth l i:=by
 simp only[gapL,nth,Ap];rw[A8 (by simp;omega),BV,Ae (by omega)]
theorem YG(l:List Int)(y:Int):gapL l l.length y=l++[y]:=by simp[gapL]
theorem zcg(v:Nat)(l:List Int)(x:Int)(hr:C1 l)(hl:l.length<=1000000000000){K:AV->Ax->Prop}(p:Nat)(hp:Place l x p p)
 (hyes:p<l.length->nth l p=x->K (.ref 0 v 0 l.length) (Abs.hl [⟨1,v,false,l.map intV⟩]))
 (hno:(p<l.length->nth l p≠x)->K (.ref 0 (v+1) 0 (l.length+1)) (Abs.hl [⟨1,v+1,false,(l.take p++x::l.drop p).map intV⟩])) :
 BB Tryz.prog 168 [.ref 0 v 0 l.length,.int .i64 x] (Abs.hl [⟨1,v,false,l.map intV⟩]) K:=by
 refine Gz (b:=1) W6 rfl ?_;unfold OE;(with_reducible repeat'(first|simp (disch:=omega) only[push_cast,↓zz,seval]|apply Aa|refine sp_ ?_ ?_<;>intro hc<;>push_cast at hc|omega|intro _))
 refine AQ (AX (λ(s:Nat × Nat)=>Place l x s.1 s.2) (λs=>s.2-s.1) (λs=>[(0,.ref 0 v 0 l.length),(1,.int .i64 x),(5,.int .i64 s.1),(6,.int .i64 s.2)])
  (λ_=>[⟨1,v,false,l.map intV⟩]) (λ_ _=>[]) (0,l.length) ⟨by simp,by simp,by simp,by intro j h1 h2;simp at h1;omega⟩ ?_ ?_)
 ·(with_reducible repeat'(first|simp (disch:=omega) only[push_cast,↓zz,seval]|apply Aa|refine sp_ ?_ ?_<;>intro hc<;>push_cast at hc|omega|intro _))
 rintro⟨lo,hi⟩ hpl;have hle:=hpl.le;have htop:=hpl.top;simp only at hle htop;rcases Ah lo hi with hlh|hlh
 ·obtain⟨s1,s2⟩:=QQ hr hpl hlh
  have hm:(lo+hi) / 2<l.length:=by omega
  have hw:IntKind.i64.wrap (((lo:Int)+(hi:Int)).tdiv 2)=(((lo+hi) / 2:Nat):Int):=by
   rw[Int.tdiv_eq_ediv_of_nonneg (by omega),show ((lo:Int)+hi) / 2=(((lo+hi) / 2:Nat):Int) by omega];exact IntWalk.i64_in _ (by omega)
  refine W_T ?_;(with_reducible repeat'(first|simp (disch:=omega) only[push_cast,↓zz,seval,hw]|apply Aa|refine sp_ ?_ ?_<;>intro hc<;>push_cast at hc|omega|intro _))
  all_goals rw[show (((lo:Int)+hi) / 2).toNat=(lo+hi) / 2 by omega] at hc
  ·exact⟨((lo+hi) / 2+1,hi),⟨by simp only;omega,rfl⟩,s1 hc,by simp only;omega⟩
  ·exact⟨(lo,(lo+hi) / 2),⟨rfl,by simp only;omega⟩,s2 hc,by simp only;omega⟩
 ·have hlp:lo=p/\hi=p:=by
   have e:lo=hi:=by omega
   subst e;rcases DI lo p with h|h|h
   ·have:=hp.lt lo h;have:=hpl.ge lo (Af _) (by have:=hp.top;omega);omega
   ·exact⟨h,h⟩
   ·have:=hpl.lt p h;have:=hp.ge p (Af _) (by omega);omega
  obtain⟨rfl,rfl⟩:=hlp;refine W_T ?_;(with_reducible repeat'(first|simp (disch:=omega) only[push_cast,↓zz,seval]|apply Aa|refine sp_ ?_ ?_<;>intro hc<;>push_cast at hc|omega|intro _))
  ·exact hyes (by omega) hc
  all_goals
   have hn:=hno (by first|exact λ_=>hc|exact λh=>absurd h (by omega))
   refine AQ (AX (λ(s:Nat × Int)=>hi<=s.1/\s.1<=l.length) (λs=>s.1) (λs=>[(0,.ref 0 (v+1) 0 (l.length+1)),(1,.int .i64 x),(5,.int .i64 hi),(8,.int .i64 s.1)])
    (λs=>[⟨1,v+1,false,(gapL l s.1 s.2).map intV⟩]) (λ_ _=>[]) (l.length,0) ⟨by simp only;omega,by simp⟩ ?_ ?_)
   ·(with_reducible repeat'(first|simp (disch:=omega) only[push_cast,↓zz,seval,YG]|apply Aa|refine sp_ ?_ ?_<;>intro hc<;>push_cast at hc|omega|intro _))
   rintro⟨i,y⟩ ⟨h1,h2⟩;simp only at h1 h2;have hgl:=YF (y:=y) h2;refine W_T ?_;rcases Ah hi i with hlt|hge
   ·obtain⟨i,rfl⟩:∃k,i=k+1:=⟨i-1,by omega⟩
    have hs:=N2 (y:=y) (z:=nth l i) h2;have ha:=z65 (y:=y) (show i<l.length by omega);rw[Vj (by omega)] at hs;(with_reducible repeat'(first|simp (disch:=omega) only[push_cast,↓zz,seval,hgl,hs,ha,GI]|apply Aa|refine sp_ ?_ ?_<;>intro hc<;>push_cast at hc|omega|intro _))
    all_goals exact⟨(i,nth l i),⟨rfl,Bc _ _⟩,⟨by simp only;omega,by simp only;omega⟩,by simp only;omega⟩
   ·obtain rfl:i=hi:=by omega
    have hs:=N2 (y:=y) (z:=x) h2;(with_reducible repeat'(first|simp (disch:=omega) only[push_cast,↓zz,seval,hgl,hs]|apply Aa|refine sp_ ?_ ?_<;>intro hc<;>push_cast at hc|omega|intro _));exact hn
def putI(l:List Int)(x:Int):List Int:=if x∈l then l else l.takeWhile (λy=>decide (y<x))++x::l.dropWhile (λy=>decide (y<x))
theorem SQ{l:List Int}{x y:Int}:y∈putI l x↔y=x\/y∈l:=by
 unfold putI;split
 ·rename_i h
  constructor
  ·exact .inr
  ·rintro (rfl|h')
   ·exact h
   ·exact h'
 ·rw[Am,Ai]
  conv=>rhs;rw[<-Cx (p:=λy=>decide (y<x)) (l:=l),Am]
  constructor
  ·rintro (h|h|h)
   ·exact .inr (.inl h)
   ·exact .inl h
   ·exact .inr (.inr h)
  ·rintro (h|h|h)
   ·exact .inr (.inl h)
   ·exact .inl h
   ·exact .inr (.inr h)
def lowI(l:List Int)(x:Int):Nat:=(l.takeWhile λy=>decide (y<x)).length
theorem SR(l:List Int)(x:Int):l.take (lowI l x)=l.takeWhile (λy=>decide (y<x))/\l.drop (lowI l x)=l.dropWhile (λy=>decide (y<x)):=by
 have key:∀(u v:List Int),u++v=l->l.take u.length=u/\l.drop u.length=v:=λu v h=>by subst h;exact⟨List.take_left,List.drop_left⟩
 exact key _ _ (Cx (p:=λy=>decide (y<x)) (l:=l))
theorem Ip{l:List Int}(hr:C1 l)(x:Int):Place l x (lowI l x) (lowI l x):=by
 induction l with
 |nil=>exact⟨Af _,by simp[lowI],λj hj=>by simp[lowI] at hj,λj _ hj=>by simp at hj⟩
 |cons a l ih =>
  have hr':C1 l:=(A9.1 hr).2;have hall:=(A9.1 hr).1;by_cases ha:a<x
  ·have e:lowI (a::l) x=lowI l x+1:=by simp[lowI,ha]
   have hp:=ih hr';rw[e];refine⟨Af _,by have:=hp.top;simp;omega,λj hj=>?_,λj hj hjl=>?_⟩
   ·cases j with
    |zero=>simpa [nth] using ha
    |succ j=>have:=hp.lt j (by omega);simpa [nth] using this
   ·cases j with
    |zero=>omega
    |succ j=>have:=hp.ge j (by omega) (by simpa using hjl);simpa [nth] using this
  ·have e:lowI (a::l) x=0:=by simp[lowI,ha]
   rw[e];refine⟨Af _,by simp,λj hj=>by omega,λj hj hjl=>?_⟩;cases j with
   |zero=>simp[nth];omega
   |succ j =>
    have hj2:j<l.length:=by simpa using hjl
    have:=hall _ (AL hj2);have h3:nth (a::l) (j+1)=nth l j:=by simp[nth]
    rw[h3];omega
theorem SS{l:List Int}(hr:C1 l)(x:Int):x∈l↔lowI l x<l.length/\nth l (lowI l x)=x:=by
 have hp:=Ip hr x;constructor
 ·intro hx
  obtain⟨j,hj,he⟩:=Bm hx;have hn:nth l j=x:=by simp[nth,Ap,Ak hj,he]
  have h1:lowI l x<=j:=by
   rcases Ah j (lowI l x) with h|h
   ·have:=hp.lt j h;omega
   ·exact h
  refine⟨by omega,?_⟩;rcases Ah (lowI l x) j with h|h
  ·have:=LF hr h hj
   have:=hp.ge (lowI l x) (Af _) (by omega);omega
  ·rw[show lowI l x=j by omega];exact hn
 ·rintro⟨h,he⟩
  rw[<-he];exact AL h
theorem Hw{l:List Int}(hr:C1 l)(x:Int):C1 (putI l x):=by
 unfold putI;split
 ·exact hr
 ·rename_i hx
  have hp:=Ip hr x;obtain⟨e1,e2⟩:=SR l x;rw[<-e1,<-e2];have ht:C1 (l.take (lowI l x)):=EH (F7 _ _) hr;have hd:C1 (l.drop (lowI l x)):=EH (List.drop_sublist _ _) hr
  have k1:∀y∈l.take (lowI l x),y<x:=λy hy=>by
   obtain⟨j,hj,he⟩:=Bm hy;rw[List.getElem_take] at he;have hj':j<lowI l x:=by simp at hj;omega
   have hjl:j<l.length:=by simp at hj;omega
   have hn:nth l j=y:=by simp[nth,Ap,Ak hjl,he]
   have:=hp.lt j hj';omega
  have k2:∀y∈l.drop (lowI l x),x<y:=λy hy=>by
   obtain⟨j,hj,he⟩:=Bm hy;rw[List.getElem_drop] at he;have hj':lowI l x+j<l.length:=by simp at hj;omega
   have hn:nth l (lowI l x+j)=y:=by simp[nth,Ap,Ak hj',he]
   have:=hp.ge (lowI l x+j) (by omega) hj';have hne:y≠x:=λh=>hx (h ▸ BJ hy);omega
  rw[C1,DU,A9];refine⟨ht,⟨k2,hd⟩,λa ha b hb=>?_⟩;rcases Ai.1 hb with rfl|hb
  ·exact k1 a ha
  ·have:=k1 a ha;have:=k2 b hb;omega
theorem LG(v:Nat)(l:List Int)(x:Int)(hr:C1 l)(hl:l.length<=1000000000000):
 BB Tryz.prog 168 [.ref 0 v 0 l.length,.int .i64 x] (Abs.hl [⟨1,v,false,l.map intV⟩]) λy H'=>∃v',y=.ref 0 v' 0 (putI l x).length/\H'=Abs.hl [⟨1,v',false,(putI l x).map intV⟩]:=by
 obtain⟨e1,e2⟩:=SR l x;refine zcg v l x hr hl (lowI l x) (Ip hr x) (λh1 h2=>?_) (λh=>?_)
 ·rw[putI,Ae ((SS hr x).2 ⟨h1,h2⟩)]
  exact⟨v,rfl,rfl⟩
 ·rw[putI,Ac (λhx=>by obtain⟨h1,h2⟩:=(SS hr x).1 hx;exact h h1 h2),<-e1,<-e2]
  refine⟨v+1,?_,rfl⟩;congr 1;have:=(Ip hr x).top;simp;omega
def Vk(l:List Int)(s:Span):List Int:=if -1073741824<s.lo/\s.lo<=1073741824 then putI l s.lo else l
def Vl(l:List Int)(s:Span):List Int:=if -1073741824<=s.hi/\s.hi<1073741824 then putI l (s.hi+1) else l
def addB(l:List Int)(s:Span):List Int:=Vl (Vk l s) s
def Fu(a b:List Span):List Int:=b.foldl addB (a.foldl addB [-1073741824])
theorem N3(l:List Int)(x:Int):(putI l x).length<=l.length+1:=by
 unfold putI;split
 ·omega
 ·have h:=DJ List.length (Cx (p:=λy=>decide (y<x)) (l:=l))
  simp only[An] at h;simp only[An,List.length_cons];omega
theorem zch{l:List Int}(h:C1 l)(s:Span):C1 (Vk l s)/\(Vk l s).length<=l.length+1:=by
 unfold Vk;split
 ·exact⟨Hw h _,N3 _ _⟩
 ·exact⟨h,by omega⟩
theorem zci{l:List Int}(h:C1 l)(s:Span):C1 (Vl l s)/\(Vl l s).length<=l.length+1:=by
 unfold Vl;split
 ·exact⟨Hw h _,N3 _ _⟩
 ·exact⟨h,by omega⟩
theorem zjt{l:List Int}(h:C1 l)(s:Span):C1 (addB l s)/\(addB l s).length<=l.length+2:=by
 obtain⟨h1,h2⟩:=zch h s;obtain⟨h3,h4⟩:=zci h1 s;exact⟨h3,by unfold addB;omega⟩
theorem KC:∀(s:List Span){l:List Int},C1 l->C1 (s.foldl addB l)/\(s.foldl addB l).length<=l.length+2 * s.length
 |[],l,h=>⟨h,by simp⟩
 |x::s,l,h=>by
  obtain⟨h1,h2⟩:=zjt h x;obtain⟨h3,h4⟩:=KC s h1;exact⟨h3,by simp only[List.foldl_cons,List.length_cons];omega⟩
theorem LH(a b:List Span)(la:a.length<=10000000000)(lb:b.length<=10000000000):PC Tryz.prog 149 [Bn a,Bn b] (G3 (Fu a b)):=by
 refine BA OA ?_;unfold Jl;have r0:C1 [-1073741824]:=by simp[C1]
 (with_reducible repeat'(first|simp (disch:=omega) only[push_cast,↓zz,seval]|apply Aa|refine sp_ ?_ ?_<;>intro hc<;>push_cast at hc|omega|intro _))
 refine AQ (AX (λ(s:Nat × List Int)=>s.1=0/\s.2=[-1073741824]\/s.1=1/\s.2=a.foldl addB [-1073741824]\/s.1=2/\s.2=Fu a b) (λs=>2-s.1)
  (λs=>[(0,Bn a),(1,Bn b),(5,.ref 0 1 0 s.2.length),(6,.int .i64 s.1)]) (λs=>[⟨1,1,false,s.2.map intV⟩]) (λenv _=>[Cf 1 (env 5)]) (0,[-1073741824]) (by simp) ?_ ?_)
 ·(with_reducible repeat'(first|simp (disch:=omega) only[push_cast,↓zz,seval]|apply Aa|refine sp_ ?_ ?_<;>intro hc<;>push_cast at hc|omega|intro _))
 -- one list's numbers
 have inner:∀(s:List Span)(l0:List Int),s.length<=10000000000->C1 l0->l0.length<=100000000000->∀j,j<=s.length->C1 ((s.take j).foldl addB l0)/\((s.take j).foldl addB l0).length<=400000000000:=λs l0 hs hr hl j hj=>by
  obtain⟨h1,h2⟩:=KC (s.take j) hr;exact⟨h1,by rw[BR] at h2;omega⟩
 have r1:=KC a r0;rintro⟨k,l⟩ hk;rcases hk with⟨h1,h2⟩|⟨h1,h2⟩|⟨h1,h2⟩
 all_goals
  simp only at h1 h2;subst h1 h2
 ·have hin:=inner a [-1073741824] la r0 (by simp)
  refine W_T ?_;(with_reducible repeat'(first|simp (disch:=omega) only[push_cast,↓zz,seval]|apply Aa|refine sp_ ?_ ?_<;>intro hc<;>push_cast at hc|omega|intro _))
  refine AQ (AX (λ(j:Nat)=>j<=a.length) (λj=>a.length-j) (λj=>[(0,Bn a),(1,Bn b),(5,.ref 0 1 0 ((a.take j).foldl addB [-1073741824]).length),(6,.int .i64 0),(7,Bn a),(8,.int .i64 j)])
   (λj=>[⟨1,1,false,((a.take j).foldl addB [-1073741824]).map intV⟩]) (λenv _=>[Cf 1 (env 5)]) 0 (by simp) ?_ ?_)
  ·(with_reducible repeat'(first|simp (disch:=omega) only[push_cast,↓zz,seval,GI,List.foldl_nil,List.length_singleton]|apply Aa|refine sp_ ?_ ?_<;>intro hc<;>push_cast at hc|omega|intro _))
   all_goals exact Bc _ _
  intro j hj;obtain⟨g1,g2⟩:=hin j hj;rcases Ah j a.length with hja|hja
  ·have hst:(a.take (j+1)).foldl addB [-1073741824]=addB ((a.take j).foldl addB [-1073741824]) (nth a j):=by rw[take_at hja,Co];rfl
   generalize (a.take j).foldl addB [-1073741824]=m at *;refine W_T ?_;(with_reducible repeat'(first|simp (disch:=omega) only[push_cast,↓zz,seval]|apply Aa|refine sp_ ?_ ?_<;>intro hc<;>push_cast at hc|omega|intro _))
   all_goals try (refine BB.mono (LG 1 m _ g1 (by omega)) ?_;rintro y H' ⟨v',rfl,rfl⟩;(with_reducible repeat'(first|simp (disch:=omega) only[push_cast,↓zz,seval]|apply Aa|refine sp_ ?_ ?_<;>intro hc<;>push_cast at hc|omega|intro _)))
   all_goals try (refine BB.mono (LG v' (putI m _) _ (Hw g1 _) (by have:=N3 m (nth a j).lo;omega)) ?_;rintro y H' ⟨v'',rfl,rfl⟩;(with_reducible repeat'(first|simp (disch:=omega) only[push_cast,↓zz,seval]|apply Aa|refine sp_ ?_ ?_<;>intro hc<;>push_cast at hc|omega|intro _)))
   all_goals
    refine⟨j+1,⟨⟨?_,by simp⟩,?_⟩,by omega,by omega⟩
    all_goals (rw[hst];unfold addB Vk Vl;(repeat' split)<;>first|rfl|exact Bc _ _|(exfalso;omega))
  ·obtain rfl:j=a.length:=by omega
   rw[A3] at *;refine W_T ?_;(with_reducible repeat'(first|simp (disch:=omega) only[push_cast,↓zz,seval]|apply Aa|refine sp_ ?_ ?_<;>intro hc<;>push_cast at hc|omega|intro _));refine⟨(0+1,a.foldl addB [-1073741824]),⟨⟨rfl,by simp⟩,Bc _ _⟩,?_,by simp only;omega⟩;exact .inr (.inl ⟨rfl,rfl⟩)
 ·have hin:=inner b (a.foldl addB [-1073741824]) lb r1.1 (by have:=r1.2;simp at this;omega)
  refine W_T ?_;(with_reducible repeat'(first|simp (disch:=omega) only[push_cast,↓zz,seval]|apply Aa|refine sp_ ?_ ?_<;>intro hc<;>push_cast at hc|omega|intro _))
  refine AQ (AX (λ(j:Nat)=>j<=b.length) (λj=>b.length-j) (λj=>[(0,Bn a),(1,Bn b),(5,.ref 0 1 0 ((b.take j).foldl addB (a.foldl addB [-1073741824])).length),(6,.int .i64 1),(7,Bn b),(8,.int .i64 j)])
   (λj=>[⟨1,1,false,((b.take j).foldl addB (a.foldl addB [-1073741824])).map intV⟩]) (λenv _=>[Cf 1 (env 5)]) 0 (by simp) ?_ ?_)
  ·(with_reducible repeat'(first|simp (disch:=omega) only[push_cast,↓zz,seval,GI,List.foldl_nil,List.length_singleton]|apply Aa|refine sp_ ?_ ?_<;>intro hc<;>push_cast at hc|omega|intro _))
   all_goals exact Bc _ _
  intro j hj;obtain⟨g1,g2⟩:=hin j hj;rcases Ah j b.length with hja|hja
  ·have hst:(b.take (j+1)).foldl addB (a.foldl addB [-1073741824])=addB ((b.take j).foldl addB (a.foldl addB [-1073741824])) (nth b j):=by rw[take_at hja,Co];rfl
   generalize (b.take j).foldl addB (a.foldl addB [-1073741824])=m at *;refine W_T ?_;(with_reducible repeat'(first|simp (disch:=omega) only[push_cast,↓zz,seval]|apply Aa|refine sp_ ?_ ?_<;>intro hc<;>push_cast at hc|omega|intro _))
   all_goals try (refine BB.mono (LG 1 m _ g1 (by omega)) ?_;rintro y H' ⟨v',rfl,rfl⟩;(with_reducible repeat'(first|simp (disch:=omega) only[push_cast,↓zz,seval]|apply Aa|refine sp_ ?_ ?_<;>intro hc<;>push_cast at hc|omega|intro _)))
   all_goals try (refine BB.mono (LG v' (putI m _) _ (Hw g1 _) (by have:=N3 m (nth b j).lo;omega)) ?_;rintro y H' ⟨v'',rfl,rfl⟩;(with_reducible repeat'(first|simp (disch:=omega) only[push_cast,↓zz,seval]|apply Aa|refine sp_ ?_ ?_<;>intro hc<;>push_cast at hc|omega|intro _)))
   all_goals
    refine⟨j+1,⟨⟨?_,by simp⟩,?_⟩,by omega,by omega⟩
    all_goals (rw[hst];unfold addB Vk Vl;(repeat' split)<;>first|rfl|exact Bc _ _|(exfalso;omega))
  ·obtain rfl:j=b.length:=by omega
   rw[A3] at *;refine W_T ?_;(with_reducible repeat'(first|simp (disch:=omega) only[push_cast,↓zz,seval]|apply Aa|refine sp_ ?_ ?_<;>intro hc<;>push_cast at hc|omega|intro _));refine⟨(1+1,b.foldl addB (a.foldl addB [-1073741824])),⟨⟨rfl,by simp⟩,Bc _ _⟩,?_,by simp only;omega⟩;exact .inr (.inr ⟨rfl,rfl⟩)
 ·have r2:=inner b (a.foldl addB [-1073741824]) lb r1.1 (by have:=r1.2;simp at this;omega) b.length (Af _)
  rw[A3] at r2;have r3:=r2.2;refine W_T ?_;(with_reducible repeat'(first|simp (disch:=omega) only[push_cast,↓zz,seval,GI]|apply Aa|refine sp_ ?_ ?_<;>intro hc<;>push_cast at hc|omega|intro _))
  all_goals trace_state
theorem z67{l:List Int}{s:Span}{y:Int}:y∈Vk l s↔y∈l\/(y=s.lo/\-1073741824<s.lo/\s.lo<=1073741824):=by
 unfold Vk;split
 ·rename_i h;rw[SQ];constructor
  ·rintro (h1|h1)
   ·exact .inr ⟨h1,h⟩
   ·exact .inl h1
  ·rintro (h1|h1)
   ·exact .inr h1
   ·exact .inl h1.1
 ·rename_i h;exact⟨.inl,λh1=>h1.resolve_right λh2=>h h2.2⟩
theorem z68{l:List Int}{s:Span}{y:Int}:y∈Vl l s↔y∈l\/(y=s.hi+1/\-1073741824<=s.hi/\s.hi<1073741824):=by
 unfold Vl;split
 ·rename_i h;rw[SQ];constructor
  ·rintro (h1|h1)
   ·exact .inr ⟨h1,h⟩
   ·exact .inl h1
  ·rintro (h1|h1)
   ·exact .inr h1
   ·exact .inl h1.1
 ·rename_i h;exact⟨.inl,λh1=>h1.resolve_right λh2=>h h2.2⟩
def QR(s:Span)(y:Int):Prop:=(y=s.lo/\-1073741824<s.lo/\s.lo<=1073741824)\/(y=s.hi+1/\-1073741824<=s.hi/\s.hi<1073741824)
theorem Pa:∀(s:List Span){l:List Int}{y:Int},y∈s.foldl addB l↔y∈l\/∃t∈s,QR t y
 |[],l,y=>by simp
 |x::s,l,y=>by
  rw[List.foldl_cons,Pa s,addB,z68,z67];constructor
  ·rintro (((h|h)|h)|⟨t,ht,h⟩)
   ·exact .inl h
   ·exact .inr ⟨x,by simp,.inl h⟩
   ·exact .inr ⟨x,by simp,.inr h⟩
   ·exact .inr ⟨t,by simp[ht],h⟩
  ·rintro (h|⟨t,ht,h⟩)
   ·exact .inl (.inl (.inl h))
   ·rcases Ai.1 ht with rfl|ht
    ·rcases h with h|h
     ·exact .inl (.inl (.inr h))
     ·exact .inl (.inr h)
    ·exact .inr ⟨t,ht,h⟩
theorem IE{a b:List Span}{y:Int}:y∈Fu a b↔y=-1073741824\/(∃t∈a,QR t y)\/∃t∈b,QR t y:=by
 rw[Fu,Pa,Pa,Ao,or_assoc]
theorem HO(a b:List Span):C1 (Fu a b):=(KC b (KC a (by simp[C1])).1).1
theorem Pb{s:Span}{y:Int}(h:QR s y):-1073741824<y/\y<=1073741824:=by
 unfold QR at h;omega
theorem HR{a b:List Span}:∀y∈Fu a b,-1073741824<=y/\y<=1073741824:=λy hy=>by
 rcases IE.1 hy with rfl|⟨t,_,h⟩|⟨t,_,h⟩
 ·omega
 ·have:=Pb h;omega
 ·have:=Pb h;omega
theorem Vm(a b:List Span):∃r,Fu a b=-1073741824::r:=by
 have h1:(-1073741824:Int)∈Fu a b:=IE.2 (.inl rfl);have h2:=HO a b;have h3:=HR (a:=a) (b:=b);cases hb:Fu a b with
 |nil=>rw[hb] at h1;cases h1
 |cons x r =>
  rw[hb] at h1 h2 h3;rcases Ai.1 h1 with h|h
  ·exact⟨r,by rw[h]⟩
  ·have:=(A9.1 h2).1 _ h
   have:=h3 x (by simp);omega
theorem Hd{l:List Span}{x:Int}:hasI l x=true ↔ -1073741824<=x/\x<=1073741824/\memL l x:=by
 simp only[hasI,Ab,Ad,B8,memL,and_assoc]
theorem QS{s:List Span}{x v:Int}(hx:-1073741824<=x)(hxv:x<=v)(hv:v<=1073741824)(h:∀t∈s,∀y,QR t y->y<=x\/v<y):hasI s v=hasI s x:=by
 rw[BN,Hd,Hd]
 have key:memL s v↔memL s x:=by
  constructor
  ·rintro⟨t,ht,h1,h2⟩
   refine⟨t,ht,?_,by omega⟩;rcases Ed x t.lo with hlt|hle
   ·have:=h t ht t.lo (.inl ⟨rfl,by omega,by omega⟩);omega
   ·exact hle
  ·rintro⟨t,ht,h1,h2⟩
   refine⟨t,ht,by omega,?_⟩;rcases Ed t.hi v with hlt|hle
   ·have:=h t ht (t.hi+1) (.inr ⟨rfl,by omega,by omega⟩);omega
   ·exact hle
 rw[key];constructor
 ·rintro⟨_,_,h⟩;exact⟨hx,by omega,h⟩
 ·rintro⟨_,_,h⟩;exact⟨by omega,hv,h⟩
def addS(out:List Span)(s:Span):List Span :=
 match out.getLast? with
 |some y=>if y.hi=s.lo-1 then out.dropLast++[⟨y.lo,s.hi⟩] else out++[s]
 |none=>[s]
theorem He(x:Span):addS [] x=[x]:=rfl
theorem Iq(out:List Span)(y x:Span):addS (out++[y]) x=if y.hi=x.lo-1 then out++[⟨y.lo,x.hi⟩] else out++[y]++[x]:=by
 simp[addS]
theorem zcj(out:List Span)(x:Span):(addS out x).length<=out.length+1:=by
 rcases Fy out with rfl|⟨m,y,rfl⟩
 ·simp[He]
 ·rw[Iq];split<;>simp
def WS(l:List Span)(f:Int):Prop:=∀s∈l,s.hi<f
theorem QT{out:List Span}{x:Span}(h:Plain out)(hx:x.lo<=x.hi)(hb:WS out x.lo):Plain (addS out x)/\WS (addS out x) (x.hi+1)/\∀v,memL (addS out x) v↔memL out v\/(x.lo<=v/\v<=x.hi):=by
 rcases Fy out with rfl|⟨m,y,rfl⟩
 ·refine⟨⟨by simp[He,hx],by simp[He]⟩,by simp[He,WS];omega,λv=>?_⟩
  rw[He,Bw];constructor
  ·rintro (h|h)
   ·exact .inr h
   ·exact absurd h (Ch _)
  ·rintro (h|h)
   ·exact absurd h (Ch _)
   ·exact .inl h
 ·rw[Iq]
  obtain⟨h1,h2,h3⟩:=Hg.1 h;have hy:y.hi<x.lo:=hb y (by simp);have hm:∀s∈m,s.hi<x.lo:=λs hs=>hb s (by simp[hs]);split
  ·rename_i he
   refine⟨Hg.2 ⟨h1,by simp only;omega,λs hs=>h3 s hs⟩,?_,λv=>?_⟩
   ·intro s hs
    rcases Am.1 hs with hs|hs
    ·have:=hm s hs;omega
    ·simp only[Ao] at hs;subst hs;simp only;omega
   ·rw[F2,F2,Bw,Bw]
    simp only[Ch,AH];constructor
    ·rintro (h|h)
     ·exact .inl (.inl h)
     ·by_cases hv:v<=y.hi
      ·exact .inl (.inr ⟨h.1,hv⟩)
      ·exact .inr ⟨by omega,by omega⟩
    ·rintro ((h|h)|h)
     ·exact .inl h
     ·exact .inr ⟨h.1,by omega⟩
     ·exact .inr ⟨by omega,by omega⟩
  ·rename_i he
   refine⟨Hg.2 ⟨h,hx,λs hs=>?_⟩,?_,λv=>?_⟩
   ·rcases Am.1 hs with hs|hs
    ·have:=h3 s hs;omega
    ·simp only[Ao] at hs;subst hs;omega
   ·intro s hs
    rcases Am.1 hs with hs|hs
    ·have:=hb s hs;omega
    ·simp only[Ao] at hs;subst hs;omega
   ·rw[F2,Bw]
    simp only[Ch,AH]
def toI:List Int->Int
 |[]=>1073741824
 |y::_=>y-1
def Mw(p:Int->Bool):List Int->List Span->List Span
 |[],out=>out
 |x::r,out=>Mw p r (if p x then addS out ⟨x,toI r⟩ else out)
def zck(p:Int->Bool):List Int->Prop
 |[]=>True
 |x::r=>(∀v,x<=v->v<=toI r->p v=p x)/\zck p r
theorem QU{l:List Span}{f g:Int}(h:WS l f)(hg:f<=g):WS l g:=λs hs=>by have:=h s hs;omega
theorem Pd(p:Int->Bool):∀(l:List Int)(out:List Span)(f:Int),C1 l->(∀x∈l,x<=1073741824)->(f=toI l+1)->zck p l->Plain out->WS out f ->
 Plain (Mw p l out)/\∀v,memL (Mw p l out) v↔memL out v\/(f<=v/\v<=1073741824/\p v=true)
 |[],out,f,_,_,hf,_,ho,_=>⟨ho,λv=>by
  simp only[toI] at hf
  exact⟨.inl,λh=>h.resolve_right λh=>by omega⟩⟩
 |x::r,out,f,hr,hm,hf,hs,ho,ha=>by
  have hx:=hm x (by simp);have hfx:f=x:=by rw[hf,toI];omega
  subst hfx
  have hto:f<=toI r:=by
   cases r with
   |nil=>simpa [toI] using hx
   |cons y r=>have:=(A9.1 hr).1 y (by simp);simp only[toI];omega
  have hr':C1 r:=(A9.1 hr).2;rw[Mw];by_cases hp:p f=true
  ·rw[Ae hp]
   obtain⟨a1,a2,a3⟩:=QT (x:=⟨f,toI r⟩) ho hto ha;obtain⟨b1,b2⟩:=Pd p r _ (toI r+1) hr' (λy hy=>hm y (by simp[hy])) rfl hs.2 a1 a2;refine⟨b1,λv=>?_⟩;rw[b2 v,a3 v];constructor
   ·rintro ((h|h)|h)
    ·exact .inl h
    ·refine .inr ⟨h.1,?_,by rw[hs.1 v h.1 h.2];exact hp⟩
     have:toI r<=1073741824:=by
      cases r with
      |nil=>simp[toI]
      |cons y r=>have:=hm y (by simp);simp only[toI];omega
     have:=h.2;simp only at this;omega
    ·exact .inr ⟨by omega,h.2⟩
   ·rintro (h|h)
    ·exact .inl (.inl h)
    ·rcases Ed (toI r) v with hlt|hle
     ·exact .inr ⟨by omega,h.2⟩
     ·exact .inl (.inr ⟨h.1,hle⟩)
  ·rw[Ac hp]
   obtain⟨b1,b2⟩:=Pd p r out (toI r+1) hr' (λy hy=>hm y (by simp[hy])) rfl hs.2 ho (QU ha (by omega));refine⟨b1,λv=>?_⟩;rw[b2 v];constructor
   ·rintro (h|h)
    ·exact .inl h
    ·exact .inr ⟨by omega,h.2⟩
   ·rintro (h|h)
    ·exact .inl h
    ·rcases Ed (toI r) v with hlt|hle
     ·exact .inr ⟨by omega,h.2⟩
     ·exact absurd ((hs.1 v h.1 hle).symm.trans h.2.2) hp
theorem zfj{p:Int->Bool}:∀(l pre:List Int),C1 (pre++l)->(∀x∈l,-1073741824<=x/\x<=1073741824)->(∀x v,-1073741824<=x->x<=v->v<=1073741824->(∀y∈pre++l,y<=x\/v<y)->p v=p x)->zck p l
 |[],_,_,_,_=>trivial
 |x::r,pre,hr,hm,h=>by
  refine⟨λv h1 h2=>?_,zfj r (pre++[x]) (by simpa using hr) (λy hy=>hm y (by simp[hy])) (by simpa using h)⟩;obtain⟨p1,p2,p3⟩:=DU.1 hr;have hx:=hm x (by simp)
  have hto:toI r<=1073741824:=by
   cases r with
   |nil=>simp[toI]
   |cons y r=>have:=hm y (by simp);simp only[toI];omega
  refine h x v hx.1 h1 (by omega) λy hy=>?_;rcases Am.1 hy with hy|hy
  ·exact .inl (Int.le_of_lt (p3 y hy x (by simp)))
  ·rcases Ai.1 hy with rfl|hy
   ·exact .inl (Bg _)
   ·right
    cases r with
    |nil=>cases hy
    |cons z r =>
     simp only[toI] at h2;rcases Ai.1 hy with rfl|hy
     ·omega
     ·have:=(A9.1 (A9.1 p2).2).1 y hy;omega
def howB(h:Int)(x y:Bool):Bool:=if h=2 then x&&!y else if h=1 then x&&y else x||y
def SU(a b:List Span)(h:Int):List Span:=Mw (λv=>howB h (hasI a v) (hasI b v)) (Fu a b) []
theorem JL(a b:List Span)(h:Int):Plain (SU a b h)/\∀v,memL (SU a b h) v ↔ -1073741824<=v/\v<=1073741824/\howB h (hasI a v) (hasI b v)=true:=by
 obtain⟨r,hr⟩:=Vm a b;have hbo:=HR (a:=a) (b:=b);have hri:=HO a b
 have hseg:zck (λv=>howB h (hasI a v) (hasI b v)) (Fu a b):=zfj _ [] hri hbo λx v h1 h2 h3 h4=>by
  simp only[List.nil_append] at h4;have e1:hasI a v=hasI a x:=QS h1 h2 h3 λt ht y hy=>h4 y (IE.2 (.inr (.inl ⟨t,ht,hy⟩)));have e2:hasI b v=hasI b x:=QS h1 h2 h3 λt ht y hy=>h4 y (IE.2 (.inr (.inr ⟨t,ht,hy⟩)));simp only[e1,e2]
 obtain⟨k1,k2⟩:=Pd _ (Fu a b) [] (-1073741824) hri (λx hx=>(hbo x hx).2) (by rw[hr];simp[toI]) hseg ⟨by simp,by simp⟩ (λs hs=>by cases hs);refine⟨k1,λv=>?_⟩;rw[SU,k2 v];simp only[Ch,Cp]
theorem z0n(l:List Span):SU l [] 0=Bq l:=by
 obtain⟨a1,a2⟩:=JL l [] 0;obtain⟨b1,b2⟩:=Bo l;refine Hs a1 b1 λv=>?_;rw[a2 v,b2 v];have:hasI [] v=false:=by simp[hasI]
 simp only[howB,this,Dz];rw[Ac (by decide),Ac (by decide),Hd];constructor
 ·rintro⟨h1,h2,_,_,h3⟩;exact⟨h3,h1,h2⟩
 ·rintro⟨h3,h1,h2⟩;exact⟨h1,h2,h1,h2,h3⟩
theorem z0o(a b:List Span):SU a b 1=Gk (Bq a) (Bq b):=by
 obtain⟨a1,a2⟩:=JL a b 1;obtain⟨p1,p2⟩:=Bo a;obtain⟨q1,q2⟩:=Bo b;obtain⟨b1,b2⟩:=Jr _ _ p1 q1;refine Hs a1 b1 λv=>?_;rw[a2 v,b2 v,p2 v,q2 v];simp only[howB];rw[Ac (by decide),Ae trivial,Ab,Hd,Hd];constructor
 ·rintro⟨h1,h2,⟨_,_,h3⟩,_,_,h4⟩;exact⟨⟨h3,h1,h2⟩,h4,h1,h2⟩
 ·rintro⟨⟨h3,h1,h2⟩,h4,_,_⟩;exact⟨h1,h2,⟨h1,h2,h3⟩,h1,h2,h4⟩
theorem QV(a b:List Span):SU a b 2=FZ a b:=by
 obtain⟨a1,a2⟩:=JL a b 2;obtain⟨b1,b2⟩:=QO a b;refine Hs a1 b1 λv=>?_;rw[a2 v,b2 v];simp only[howB];rw[Ae trivial,Ab,Hd,Cb,<-Bool.not_eq_true,Hd];constructor
 ·rintro⟨h1,h2,⟨_,_,h3⟩,h4⟩;exact⟨h3,⟨h1,h2⟩,λh=>h4 ⟨h1,h2,h⟩⟩
 ·rintro⟨h3,⟨h1,h2⟩,h4⟩;exact⟨h1,h2,⟨h1,h2,h3⟩,λh=>h4 h.2.2⟩
theorem Js{α:Type}{f:α->AV}{m:List α}{y z:α}:((m++[y]).map f).set m.length (f z)=(m++[z]).map f:=by simp
theorem SV{α:Type}[Inhabited α]{m:List α}{y:α}:nth (m++[y]) m.length=y:=by simp[nth,Ap]
theorem zo9{l:List Int}{i:Nat}(h:i<l.length):toI (l.drop (i+1))=if i+1<l.length then nth l (i+1)-1 else 1073741824:=by
 split
 ·rename_i h1;rw[drop_at h1];rfl
 ·rename_i h1;rw[Aj (by omega)];rfl
set_option maxHeartbeats 4000000 in
theorem Mx(a b:List Span)(h:Int)(la:a.length<=10000000000)(lb:b.length<=10000000000):PC Tryz.prog 129 [Bn a,Bn b,.int .i64 h] (Bn (SU a b h)):=by
 refine BA UI ?_;unfold MN;(with_reducible repeat'(first|simp (disch:=omega) only[push_cast,↓zz,seval]|apply Aa|refine sp_ ?_ ?_<;>intro hc<;>push_cast at hc|(have q_:=LH a b la lb;refine ee q_ ?_;clear q_)|(have q_:=LH a b la lb;refine cc q_ ?_;clear q_;(simp(disch:=omega)only[push_cast,↓zz,seval]);(fail_if_success change False))|omega|intro _));have hri:=HO a b;have hbo:=HR (a:=a) (b:=b)
 have hlen:(Fu a b).length<=100000000000:=by
  have h1:=KC a (l:=[-1073741824]) (by simp[C1]);have h2:=KC b h1.1;have h3:=h1.2;have h4:=h2.2;simp only[List.length_singleton] at h3;unfold Fu;omega
 rw[SU];generalize Fu a b=l at *;have hp:∀v,(λv=>howB h (hasI a v) (hasI b v)) v=howB h (hasI a v) (hasI b v):=λ_=>rfl;generalize (λv=>howB h (hasI a v) (hasI b v))=p at *
 refine AQ (AX (λ(s:Nat × List Span)=>s.1<=l.length/\s.2.length<=s.1/\(∀t∈s.2,-1073741824<=t.hi/\t.hi<=1073741824)/\Mw p l []=Mw p (l.drop s.1) s.2) (λs=>l.length-s.1)
  (λs=>[(0,Bn a),(1,Bn b),(2,.int .i64 h),(7,.ref 0 1 0 s.2.length),(8,G3 l),(9,.int .i64 s.1)]) (λs=>[⟨2,1,false,s.2.map C8⟩]) (λenv _=>[Cf 2 (env 7)]) (0,[]) (by simp) ?_ ?_)
 ·(with_reducible repeat'(first|simp (disch:=omega) only[push_cast,↓zz,seval,GI]|apply Aa|refine sp_ ?_ ?_<;>intro hc<;>push_cast at hc|omega|intro _))
 rintro⟨i,out⟩ ⟨h1,h2,h3,h4⟩;simp only at h1 h2 h3 h4;rcases Ah i l.length with hi|hi
 ·rw[drop_at hi,Mw,zo9 hi,hp] at h4
  have hx:=hbo _ (AL hi);have hA:=LD a (nth l i) (by omega);have hB:=LD b (nth l i) (by omega);have q2:h=2->howB h (hasI a (nth l i)) (hasI b (nth l i))=(hasI a (nth l i)&&!hasI b (nth l i)):=λe=>by rw[howB,Ae e]
  have q1:¬h=2->h=1->howB h (hasI a (nth l i)) (hasI b (nth l i))=(hasI a (nth l i)&&hasI b (nth l i)):=λe1 e2=>by rw[howB,Ac e1,Ae e2]
  have q0:¬h=2->¬h=1->howB h (hasI a (nth l i)) (hasI b (nth l i))=(hasI a (nth l i)||hasI b (nth l i)):=λe1 e2=>by rw[howB,Ac e1,Ac e2]
  generalize howB h (hasI a (nth l i)) (hasI b (nth l i))=q at *;generalize hasI a (nth l i)=x at *;generalize hasI b (nth l i)=y at *
  have hto:(if i+1<l.length then nth l (i+1)-1 else 1073741824)<=1073741824/\-1073741824<=(if i+1<l.length then nth l (i+1)-1 else 1073741824):=by
   split
   ·rename_i h5;have h6:=hbo _ (AL h5);have h7:=LF hri (Nat.lt_succ_self i) h5;simp only[Nat.succ_eq_add_one] at h7;omega
   ·omega
  have hw1:∀v,-1073741824<=v/\v<=1073741824->IntKind.i64.wrap (v-1)=v-1:=λv hv=>IntWalk.i64_in _ (by omega);have hw2:=hw1 _ hx;have hw3:i+1<l.length->IntKind.i64.wrap (nth l (i+1)-1)=nth l (i+1)-1:=λh5=>hw1 _ (hbo _ (AL h5))
  have hlast:∀(m:List Span)(z:Span),m++[z]=out->out.length=m.length+1/\nth out m.length=z/\IntKind.i64.wrap (m.length:Int)=m.length/\(∀e:Int,(out.map C8).set m.length (.agg [.int .i64 z.lo,.int .i64 e])=(m++[(⟨z.lo,e⟩:Span)]).map C8):=λm z e=>by
   subst e;exact⟨by simp,SV,IntWalk.i64_in _ (by simp at h2;omega),λe=>Js (f:=C8) (z:=⟨z.lo,e⟩)⟩
  have hends:∀(H:List Grp)(out':List Span)(n:Nat)(xs:List AV),n=out'.length->leSL H xs (out'.map C8)->out'.length<=i+1->(∀t∈out',-1073741824<=t.hi/\t.hi<=1073741824)->Mw p l []=Mw p (l.drop (i+1)) out' ->
   ∃s':Nat × List Span,((n=s'.2.length/\(i:Int)+1=s'.1)/\leSL H xs (s'.2.map C8))/\(s'.1<=l.length/\s'.2.length<=s'.1/\(∀t∈s'.2,-1073741824<=t.hi/\t.hi<=1073741824)/\Mw p l []=Mw p (l.drop s'.1) s'.2)/\l.length-s'.1<l.length-i :=
   λH out' n xs k1 k2 k3 k4 k5=>⟨(i+1,out'),⟨⟨k1,by simp⟩,k2⟩,⟨by simp only;omega,k3,k4,k5⟩,by simp only;omega⟩
  obtain⟨c1,c2,d1,d2,hcase⟩:∃c1 c2,decide (h=1)=c1/\decide (h=2)=c2/\((c1=false/\c2=true/\q=(x&&!y))\/(c1=true/\c2=false/\q=(x&&y))\/(c1=false/\c2=false/\q=(x||y))):=by
   by_cases e2:h=2
   ·exact⟨false,true,by rw[e2];rfl,by rw[e2];rfl,.inl ⟨rfl,rfl,q2 e2⟩⟩
   ·by_cases e1:h=1
    ·exact⟨true,false,by rw[e1];rfl,by rw[e1];rfl,.inr (.inl ⟨rfl,rfl,q1 e2 e1⟩)⟩
    ·exact⟨false,false,by simp[e1],by simp[e2],.inr (.inr ⟨rfl,rfl,q0 e2 e1⟩)⟩
  clear q0 q1 q2;rcases Fy out with rfl|⟨m,z,hout⟩
  ·clear hlast
   rcases hcase with⟨rfl,rfl,rfl⟩|⟨rfl,rfl,rfl⟩|⟨rfl,rfl,rfl⟩
   all_goals
    cases x<;>cases y
    all_goals
     refine W_T ?_;(with_reducible repeat'(first|simp (disch:=omega) only[push_cast,↓zz,seval,hw2,d1,d2]|apply Aa|refine sp_ ?_ ?_<;>intro hc<;>push_cast at hc|refine ee hA ?_|refine ee hB ?_|((first|refine cc hA ?_|refine cc hB ?_);(simp(disch:=omega)only[push_cast,↓zz,seval,hw2,d1,d2]);(fail_if_success change False))|omega|intro _))
    all_goals first
     |exact⟨(i+1,[]),⟨⟨rfl,by simp⟩,rfl⟩,⟨by simp only;omega,by simp,by simp,h4⟩,by simp only;omega⟩
     |(rw[Ae (show i+1<l.length by omega)] at h4 hto
       exact hends _ [⟨nth l i,nth l (i+1)-1⟩] _ _ rfl (Bc _ _) (by simp) (by simp;omega) h4)
     |(rw[Ac (show ¬i+1<l.length by omega)] at h4
       exact hends _ [⟨nth l i,1073741824⟩] _ _ rfl (Bc _ _) (by simp) (by simp) h4)
  ·obtain⟨l1,l2,l3,l4⟩:=hlast m z hout.symm
   have hz:=h3 z (by rw[hout];simp);have h3':∀t∈m,-1073741824<=t.hi/\t.hi<=1073741824:=λt ht=>h3 t (by rw[hout];simp[ht]);have hadd:∀e:Int,addS out ⟨nth l i,e⟩=if z.hi=nth l i-1 then m++[⟨z.lo,e⟩] else out++[⟨nth l i,e⟩]:=λe=>by rw[hout,Iq]
   rw[hadd] at h4;clear hout hadd hlast;rcases hcase with⟨rfl,rfl,rfl⟩|⟨rfl,rfl,rfl⟩|⟨rfl,rfl,rfl⟩
   all_goals
    cases x<;>cases y
    all_goals
     refine W_T ?_;(with_reducible repeat'(first|simp (disch:=omega) only[push_cast,↓zz,seval,hw2,d1,d2,l1,l2,l3,l4]|apply Aa|refine sp_ ?_ ?_<;>intro hc<;>push_cast at hc|refine ee hA ?_|refine ee hB ?_|((first|refine cc hA ?_|refine cc hB ?_);(simp(disch:=omega)only[push_cast,↓zz,seval,hw2,d1,d2,l1,l2,l3,l4]);(fail_if_success change False))|omega|intro _))
    all_goals first
     |exact hends _ out _ _ (by omega) (Bc _ _) (by omega) h3 h4
     |(rw[Ae (show i+1<l.length by omega),Ae (show z.hi=nth l i-1 by omega)] at h4
       rw[Ae (show i+1<l.length by omega)] at hto
       exact hends _ (m++[⟨z.lo,nth l (i+1)-1⟩]) _ _ (by simp) (by rw[Az];exact Bc _ _) (by simp;omega) (λt ht=>by rcases Am.1 ht with ht|ht;exact h3' t ht;simp only[Ao] at ht;subst ht;exact⟨hto.2,hto.1⟩) h4)
     |(rw[Ae (show i+1<l.length by omega),Ac (show ¬z.hi=nth l i-1 by omega)] at h4
       rw[Ae (show i+1<l.length by omega)] at hto
       exact hends _ (out++[⟨nth l i,nth l (i+1)-1⟩]) _ _ (by simp[l1]) (by rw[Az];exact Bc _ _) (by simp;omega) (λt ht=>by rcases Am.1 ht with ht|ht;exact h3 t ht;simp only[Ao] at ht;subst ht;exact⟨hto.2,hto.1⟩) h4)
     |(rw[Ac (show ¬i+1<l.length by omega),Ae (show z.hi=nth l i-1 by omega)] at h4
       rw[Ac (show ¬i+1<l.length by omega)] at hto
       exact hends _ (m++[⟨z.lo,1073741824⟩]) _ _ (by simp) (by rw[Az];exact Bc _ _) (by simp;omega) (λt ht=>by rcases Am.1 ht with ht|ht;exact h3' t ht;simp only[Ao] at ht;subst ht;exact⟨hto.2,hto.1⟩) h4)
     |(rw[Ac (show ¬i+1<l.length by omega),Ac (show ¬z.hi=nth l i-1 by omega)] at h4
       rw[Ac (show ¬i+1<l.length by omega)] at hto
       exact hends _ (out++[⟨nth l i,1073741824⟩]) _ _ (by simp[l1]) (by rw[Az];exact Bc _ _) (by simp;omega) (λt ht=>by rcases Am.1 ht with ht|ht;exact h3 t ht;simp only[Ao] at ht;subst ht;exact⟨hto.2,hto.1⟩) h4)
 ·rw[Aj hi,Mw] at h4
  rw[h4];refine W_T ?_;(with_reducible repeat'(first|simp (disch:=omega) only[push_cast,↓zz,seval]|apply Aa|refine sp_ ?_ ?_<;>intro hc<;>push_cast at hc|omega|intro _))
  all_goals trace_state
theorem JM(l:List Span)(hl:l.length<=10000000000):PC Tryz.prog 128 [Bn l] (Bn (Bq l)):=by
 have h:=Mx l [] 0 hl (by simp);rw[z0n] at h;have h2:PC Tryz.prog 129 [Bn l,.nilS,.int .i64 0] (Bn (Bq l)):=Jb h (Bp (AV.le_refl _) (Bp (AV.le_nilS (by decide)) (Bp (AV.le_refl _) Fo)));refine BA UH ?_;unfold MM;(with_reducible repeat'(first|simp (disch:=omega) only[push_cast,↓zz,seval]|apply Aa|refine sp_ ?_ ?_<;>intro hc<;>push_cast at hc|refine ee h2 ?_|(refine cc h2 ?_;(simp(disch:=omega)only[push_cast,↓zz,seval]);(fail_if_success change False))|omega|intro _))
 all_goals trace_state
theorem Vn{l m:List Span}{k:Nat}(h1:k<l.length)(h2:k<m.length):decide (l.drop k=m.drop k)=(decide (nth l k=nth m k)&&decide (l.drop (k+1)=m.drop (k+1))):=by
 rw[drop_at h1,drop_at h2];simp
theorem WT(p q:Span):(decide (p.lo=q.lo)&&decide (p.hi=q.hi))=decide (p=q):=by
 cases p;cases q;simp
theorem z0p(a b:List Span)(hl:a.length<=1000000000000):PC Tryz.prog 98 [Bn a,Bn b] (.bool (decide (a=b))):=by
 refine BA UB ?_;unfold MG;(with_reducible repeat'(first|simp (disch:=omega) only[push_cast,↓zz,seval]|apply Aa|refine sp_ ?_ ?_<;>intro hc<;>push_cast at hc|omega|intro _))
 ·have:a≠b:=by intro h;subst h;first|omega|simp_all
  simp[this]
 refine AQ (AX (λ(k:Nat)=>k<=a.length/\decide (a=b)=decide (a.drop k=b.drop k)) (λk=>a.length-k)
  (λk=>[(0,Bn a),(1,Bn b),(5,.int .i64 k)]) (λs=>[]) (λenv _=>[]) 0 (by simp) ?_ ?_)
 ·(with_reducible repeat'(first|simp (disch:=omega) only[push_cast,↓zz,seval]|apply Aa|refine sp_ ?_ ?_<;>intro hc<;>push_cast at hc|omega|intro _))
 rintro k ⟨hk,hr⟩;refine W_T ?_;(with_reducible repeat'(first|simp (disch:=omega) only[push_cast,↓zz,seval,WT]|apply Aa|refine sp_ ?_ ?_<;>intro hc<;>push_cast at hc|omega|intro _))
 ·rw[hr,Vn (by omega) (by omega)];simp[*]
 ·refine⟨k+1,?_⟩
  (with_reducible repeat'(first|simp (disch:=omega) only[push_cast,↓zz,seval]|apply Aa|refine sp_ ?_ ?_<;>intro hc<;>push_cast at hc|omega|intro _));rw[hr,Vn (by omega) (by omega)];simp[*]
 ·rw[hr,Aj (by omega),Aj (by omega)];simp
def symI(l:List Span):List Span:=SU l [⟨0,1114111⟩] 1
theorem QW(s:Span)(l:List Span):FK (s::l)=SO s.lo (s.hi+1-s.lo).toNat++FK l:=rfl
theorem zcl(x:Int):hasI [⟨0,1114111⟩] x=decide (0<=x/\x<=1114111):=by
 simp only[hasI,List.any_cons,List.any_nil,Dz];by_cases h:0<=x/\x<=1114111
 ·simp[h];omega
 ·simp[h]
theorem Jt(l:List Span):Plain (symI l)/\∀v,memL (symI l) v↔(0<=v/\v<=1114111)/\memL l v:=by
 obtain⟨h1,h2⟩:=JL l [⟨0,1114111⟩] 1;refine⟨h1,λv=>?_⟩;rw[symI,h2 v,zcl];simp only[howB];rw[Ac (by decide),Ae trivial,Ab,Hd,Ad];constructor
 ·rintro⟨a,b,⟨_,_,c⟩,d⟩;exact⟨d,c⟩
 ·rintro⟨d,c⟩;exact⟨by omega,by omega,⟨by omega,by omega,c⟩,d⟩
def Syms(l:List Span):Prop:=Plain l/\∀s∈l,0<=s.lo/\s.lo<=s.hi/\s.hi<=1114111
theorem WU{l:List Span}(h1:Plain l)(h2:∀v,memL l v->0<=v/\v<=1114111):Syms l :=
 ⟨h1,λs hs=>by
  have hle:=h1.1 s hs;have:=h2 s.lo ⟨s,hs,Bg _,hle⟩;have:=h2 s.hi ⟨s,hs,hle,Bg _⟩
  omega⟩
theorem Vo(l:List Span):Syms (symI l):=WU (Jt l).1 λv hv=>(((Jt l).2 v).1 hv).1
theorem YH:∀{l:List Span}{f:Nat},Plain l->(∀s∈l,(f:Int)<=s.lo/\s.hi<=1114111)->f<=1114112->l.length+f<=1114112
 |[],f,_,_,hf=>by simpa using hf
 |s::l,f,h,hb,hf=>by
  have h1:=hb s (by simp);have h2:=h.head
  have:=YH (l:=l) (f:=(s.hi+1).toNat) h.tail (λt ht=>by
   have:=(A9.1 h.2).1 t ht;have:=hb t (by simp[ht])
   omega) (by omega)
  simp only[List.length_cons];omega
theorem Syms.len{l:List Span}(h:Syms l):l.length<=1114112:=by
 have:=YH (f:=0) h.1 (λs hs=>by have:=h.2 s hs;simp only[Int.ofNat_zero];omega) (by omega);omega
theorem Vp:PC Tryz.prog 195 [] (Bn [⟨0,1114111⟩]):=by
 refine BA PY ?_;unfold Kk;(with_reducible repeat'(first|simp (disch:=omega) only[push_cast,↓zz,seval]|apply Aa|refine sp_ ?_ ?_<;>intro hc<;>push_cast at hc|omega|intro _))
def Vq(l:List Span):Option Int:=match l with
 |[]=>none
 |s::_=>some s.lo
def WW(l:List Span):Option Int:=l.getLast?.map (·.hi)
abbrev optI(o:Option Int):AV:=.tup [.int .i64 (o.getD 0),.bool o.isSome]
theorem z0q(l:List Span)(hl:l.length<=1000000000000):PC Tryz.prog 202 [Bn l] (optI (Vq (Bq l))):=by
 refine BA UY ?_;unfold Nh;(with_reducible repeat'(first|simp (disch:=omega) only[push_cast,↓zz,seval]|apply Aa|refine sp_ ?_ ?_<;>intro hc<;>push_cast at hc|(have q_:=Dj l hl;refine ee q_ ?_;clear q_)|(have q_:=Dj l hl;refine cc q_ ?_;clear q_;(simp(disch:=omega)only[push_cast,↓zz,seval]);(fail_if_success change False))|omega|intro _))
 ·have h0:Bq l=[]:=Ay (by omega)
  rw[h0];(repeat'(first|(simp(disch:=omega)only[push_cast,↓zz,seval,Dq,Vq,Option.getD_none,Option.isSome_none])|omega|(with_reducible refine Aa ?_ ?_)))
 ·cases hn:Bq l with
  |nil=>exact absurd (by rw[hn];rfl) hc
  |cons s r =>
   (repeat'(first|(simp(disch:=omega)only[push_cast,↓zz,seval,Dq,Vq,Option.getD_some,Option.isSome_some])|omega|(with_reducible refine Aa ?_ ?_)))
   all_goals simp[nth]
theorem z69(l:List Span)(hl:l.length<=1000000000000):PC Tryz.prog 203 [Bn l] (optI (WW (Bq l))):=by
 refine BA WG ?_;unfold OO;have hn:=EY l;(with_reducible repeat'(first|simp (disch:=omega) only[push_cast,↓zz,seval]|apply Aa|refine sp_ ?_ ?_<;>intro hc<;>push_cast at hc|(have q_:=Dj l hl;refine ee q_ ?_;clear q_)|(have q_:=Dj l hl;refine cc q_ ?_;clear q_;(simp(disch:=omega)only[push_cast,↓zz,seval]);(fail_if_success change False))|omega|intro _))
 ·have h0:Bq l=[]:=Ay (by omega)
  rw[h0];(repeat'(first|(simp(disch:=omega)only[push_cast,↓zz,seval,Dq,WW,List.getLast?_nil,Option.map_none,Option.getD_none,Option.isSome_none])|omega|(with_reducible refine Aa ?_ ?_)))
 ·rcases Fy (Bq l) with h0|⟨m,z,h0⟩
  ·exact absurd (by rw[h0];rfl) hc
  ·have e:((Bq l).length:Int)-1=(m.length:Int):=by rw[h0];simp
   have e2:nth (Bq l) m.length=z:=by rw[h0];simp[nth,Ap]
   rw[show WW (Bq l)=some z.hi by rw[h0];simp[WW]];(repeat'(first|(simp(disch:=omega)only[push_cast,↓zz,seval,Dq,Option.getD_some,Option.isSome_some,e,e2])|omega|(with_reducible refine Aa ?_ ?_)))
   all_goals (rw[show (Bq l).length-1=m.length by rw[h0];simp];rw[e2])
def F3(d:Int)(s:Span):Span:=⟨s.lo+d,s.hi+d⟩
def Fz(l:List Span)(d:Int):List Span:=if d < -2147483648\/2147483648<d then [] else Bq ((Bq l).map (F3 d))
def midM(d:Int)(l rest:List Span)(k:Nat):List Span:=(l.take k).map (F3 d)++(l.drop k++rest)
theorem z6a(d:Int)(l rest:List Span):midM d l rest 0=l++rest:=by simp[midM]
theorem zcm(d:Int)(l rest:List Span):midM d l rest l.length=l.map (F3 d)++rest:=by simp[midM]
theorem zcn(d:Int)(l rest:List Span)(k:Nat)(h:k<=l.length):(midM d l rest k).length=l.length+rest.length:=by simp[midM];omega
theorem zju{d:Int}{l rest:List Span}{k:Nat}(h:k<l.length):nth (midM d l rest k) k=nth l k:=by
 rw[midM,drop_at h,nth,Ap,AB (by simp;omega)];simp[show min k l.length=k by omega]
theorem zco{d:Int}{l rest:List Span}{k:Nat}(h:k<l.length):((midM d l rest k).map C8).set k (C8 ⟨(nth l k).lo+d,(nth l k).hi+d⟩)=(midM d l rest (k+1)).map C8:=by
 rw[midM,midM,take_at h,drop_at h,<-List.map_set];congr 1;rw[DD _ _ (by simp;omega),show k-(List.map (F3 d) (List.take k l)).length=0 by simp;omega];simp[F3]
theorem z6b(l:List Span)(d:Int)(hl:l.length<=1000000000000):PC Tryz.prog 186 [Bn l,.int .i64 d] (Bn (Fz l d)):=by
 refine BA WB ?_;unfold OK;have hw:IntKind.i64.wrap d=IntKind.i64.wrap d:=rfl;have hz:(d < -2147483648\/2147483648<d)->Fz l d=[]:=λh=>by rw[Fz,Ae h]
 (with_reducible repeat'(first|simp (disch:=omega) only[push_cast,↓zz,seval]|apply Aa|refine sp_ ?_ ?_<;>intro hc<;>push_cast at hc|omega|intro _))
 all_goals first|exact hz (by omega)|skip
 ·refine Un (l:=[]) [] (Mt l hl) (by rfl) rfl (by simp) (by simp) (by simp[ltL,ltV]) (by simp) ?_
  rintro y H' ⟨rest,rfl,rfl⟩;refine⟨_,rfl,by simp,?_⟩;have hn:=EY l;have hbd:=ED l;have hmv:Fz l d=Bq ((Bq l).map (F3 d)):=by rw[Fz,Ac (by omega)]
  rw[hmv];generalize Bq l=m at *;(with_reducible repeat'(first|simp (disch:=omega) only[push_cast,↓zz,seval]|apply Aa|refine sp_ ?_ ?_<;>intro hc<;>push_cast at hc|omega|intro _));refine AQ (AX (λ(k:Nat)=>k<=m.length) (λk=>m.length-k) (λk=>[(1,.int .i64 d),(5,.ref 0 1 0 m.length),(16,.int .i64 m.length),(17,.int .i64 k)]) (λk=>[⟨2,1,true,(midM d m rest k).map C8⟩]) (λenv _=>[Cf 2 (env 5)]) 0 (by simp) ?_ ?_)
  ·(with_reducible repeat'(first|simp (disch:=omega) only[push_cast,↓zz,seval,z6a]|apply Aa|refine sp_ ?_ ?_<;>intro hc<;>push_cast at hc|omega|intro _))
  intro k hk;have hlen:=zcn d m rest k hk;rcases Ah k m.length with hkm|hkm
  ·have ha:=zju (d:=d) (rest:=rest) hkm
   have hs:=zco (d:=d) (rest:=rest) hkm;have hx:=hbd _ (AL hkm)
   have hgs:∀v,(((midM d m rest k).map C8).set k v).getD k .any=v:=λv=>by
    rw[Ap,Ew (by simp[hlen];omega)];rfl
   refine W_T ?_;(with_reducible repeat'(first|simp (disch:=omega) only[push_cast,↓zz,seval,hlen,ha,hgs,List.set_set,hs]|apply Aa|refine sp_ ?_ ?_<;>intro hc<;>push_cast at hc|omega|intro _));exact⟨k+1,⟨by simp,Bc _ _⟩,by omega,by omega⟩
  ·obtain rfl:k=m.length:=by omega
   rw[zcm];have ht:List.take m.length ((m.map (F3 d)).map C8++rest.map C8)=(m.map (F3 d)).map C8:=D2 (by simp);have hmm:=Dj (m.map (F3 d)) (by simp;omega);refine W_T ?_;(with_reducible repeat'(first|simp (disch:=omega) only[push_cast,↓zz,seval,ht,E8]|apply Aa|refine sp_ ?_ ?_<;>intro hc<;>push_cast at hc|refine ee hmm ?_|(refine cc hmm ?_;(simp(disch:=omega)only[push_cast,↓zz,seval,ht,E8]);(fail_if_success change False))|omega|intro _))
   all_goals trace_state
theorem Pe(l:List Int):∀r∈l.map (λx=>[AV.int .i64 x]),∀x∈r,Flat x:=λr hr x hx=>by
 obtain⟨y,_,rfl⟩:=Ar.1 hr;simp only[Ao] at hx;subst hx;exact λS=>rfl
theorem SX(l:List Int):∀r∈l.map (λx=>[AV.int .i64 x]),r.length=1:=λr hr=>by
 obtain⟨y,_,rfl⟩:=Ar.1 hr;rfl
theorem z6c{l:List Int}{k:Nat}{row:List AV}(h:(l.map λx=>[AV.int .i64 x])[k]? = some row):k<l.length/\row=[.int .i64 (nth l k)]:=by
 obtain⟨hk,he⟩:=Bi.1 h;have hk':k<l.length:=by simpa using hk
 refine⟨hk',?_⟩;rw[<-he];simp[nth,Ap,Ak hk']
theorem YI:∀{l:List Span}{f:Nat},Plain l->(∀s∈l,(f:Int)<=s.lo/\s.hi<=1114111)->f<=1114112->(FK l).length+f<=1114112
 |[],f,_,_,hf=>by simpa [FK] using hf
 |s::l,f,h,hb,hf=>by
  have h1:=hb s (by simp);have h2:=h.head
  have:=YI (l:=l) (f:=(s.hi+1).toNat) h.tail (λt ht=>by
   have:=(A9.1 h.2).1 t ht;have:=hb t (by simp[ht])
   omega) (by omega)
  rw[QW,An];simp only[SO,Bh,CG];omega
theorem Syms.nums{l:List Span}(h:Syms l):(FK l).length<=1114112:=by
 have:=YI (f:=0) h.1 (λs hs=>by have:=h.2 s hs;simp only[Int.ofNat_zero];omega) (by omega);omega
theorem IF:∀{l:List Span}{x:Int},x∈FK l↔memL l x
 |[],x=>by simp[FK,memL]
 |s::l,x=>by
  rw[QW,Am,Bw,IF]
  have:x∈SO s.lo (s.hi+1-s.lo).toNat↔s.lo<=x/\x<=s.hi:=by
   simp only[SO,Ar,Bf];constructor
   ·rintro⟨i,h1,rfl⟩;omega
   ·intro h;exact⟨(x-s.lo).toNat,by omega,by omega⟩
  rw[this]
theorem Syms.mem{l:List Span}(h:Syms l){x:Int}(hx:memL l x):0<=x/\x<=1114111:=by
 obtain⟨s,hs,h1,h2⟩:=hx;have:=h.2 s hs;omega
abbrev oneS(x:Int):Span:=⟨x,x⟩
def allS(n:Nat):List Span:=[⟨0,2 ^ n-1⟩]
theorem LI{l:List Span}(h:Plain l)(hb:∀s∈l,-1073741824<=s.lo/\s.hi<=1073741824):Bq l=l:=by
 obtain⟨h1,h2⟩:=Bo l;refine Hs h1 h λx=>?_;rw[h2 x];constructor
 ·exact λhh=>hh.1
 ·rintro⟨s,hs,k1,k2⟩
  have:=hb s hs;exact⟨⟨s,hs,k1,k2⟩,by omega,by omega⟩
theorem WX{x:Int}{n:Nat}(hn:n<=21)(hx:0<=x/\x<=4194304):IntKind.i64.wrap (x * 2 ^ min n IntKind.i64.bits)=x * 2 ^ n:=by
 rw[show min n IntKind.i64.bits=n from D3 (show n<=64 by omega)];have h:=Il n hn;have h1:x * 2 ^ n<=4194304 * 2097152:=E4 hx.2 h.2 (by omega) (by omega);have h2:0<=x * 2 ^ n:=DO hx.1 (by omega);exact IntWalk.i64_in _ (by omega)
def imgS(d t:Nat)(s:Span):List Span :=
 if s.lo / 2 ^ d % 2 ^ t<=s.hi / 2 ^ d % 2 ^ t then [⟨s.lo / 2 ^ d % 2 ^ t,s.hi / 2 ^ d % 2 ^ t⟩] else [⟨0,s.hi / 2 ^ d % 2 ^ t⟩,⟨s.lo / 2 ^ d % 2 ^ t,2 ^ t-1⟩]
def imgF(d t:Nat):List Span->List Span->List Span
 |[],out=>out
 |s::l,out=>if 2 ^ t-1<=s.hi / 2 ^ d-s.lo / 2 ^ d then allS t else imgF d t l (out++imgS d t s)
def topS:List Span:=[⟨0,2097151⟩]
def imgL(p:Part)(s:List Span):List Span :=
 if EK p=false then [] else
  if p.up=0 then Bq (imgF p.drop.toNat p.take.toNat (Gk (Bq s) (Bq topS)) []) else
   Bq ((FK (Bq (Bq (imgF p.drop.toNat p.take.toNat (Gk (Bq s) (Bq topS)) [])))).map λx=>oneS (x * 2 ^ p.up.toNat))
theorem SY:∀(a b:List Span),(Gk a b).length<=a.length+b.length
 |[],b=>by rw[HN];simp
 |x::a,[]=>by rw[Hv];simp
 |x::a,y::b=>by
  rw[Mu];have h1:=SY a (y::b);have h2:=SY (x::a) b;simp only[An,List.length_cons] at *;split<;>split<;>simp<;>omega
termination_by a b=>a.length+b.length
theorem YJ(s:List Span):Plain (Gk (Bq s) (Bq topS))/\(∀t∈Gk (Bq s) (Bq topS),0<=t.lo/\t.lo<=t.hi/\t.hi<=2097151)/\∀v,memL (Gk (Bq s) (Bq topS)) v↔memL s v/\0<=v/\v<=2097151:=by
 obtain⟨p1,p2⟩:=Bo s;obtain⟨q1,q2⟩:=Bo topS;obtain⟨b1,b2⟩:=Jr _ _ p1 q1
 have key:∀v,memL (Gk (Bq s) (Bq topS)) v↔memL s v/\0<=v/\v<=2097151:=λv=>by
  rw[b2 v,p2 v,q2 v,topS,Bw];simp only[Ch,AH];constructor
  ·rintro⟨⟨h1,_⟩,h2,_⟩;exact⟨h1,h2⟩
  ·rintro⟨h1,h2⟩;exact⟨⟨h1,by omega⟩,h2,by omega⟩
 refine⟨b1,λt ht=>?_,key⟩;have hle:=b1.1 t ht;have k1:=((key t.lo).1 ⟨t,ht,Bg _,hle⟩).2;have k2:=((key t.hi).1 ⟨t,ht,hle,Bg _⟩).2;omega
theorem zcp{x:Int}{t:Nat}(ht:t<=21)(hx:0<=x/\x<=2097151):JX .and .i64 x (2 ^ t-1)=x % 2 ^ t:=by
 have h:=Il t ht;have m0:=B1 x (b:=2 ^ t) (by omega);have m1:=Bu x (b:=2 ^ t) (by omega);exact z3a t ⟨hx.1,by show _<(2:Int) ^ 64;omega⟩ (by show _<=64;omega) (IntWalk.i64_in _ (by omega))
theorem zjv{x:Int}{d:Nat}(hd:d<=21):x.fdiv (2 ^ min d IntKind.i64.bits)=x / 2 ^ d:=by
 rw[show min d IntKind.i64.bits=d from D3 (show d<=64 by omega)];have:=Il d hd;exact z38 _ _ (by omega)
theorem z6d{x:Int}{d:Nat}(hd:d<=21)(hx:0<=x/\x<=2097151):0<=x / 2 ^ d/\x / 2 ^ d<=2097151:=by
 have:=Il d hd;have q0:0<=x / 2 ^ d:=Ej hx.1 (by omega);have q1:x / 2 ^ d<=x:=Int.ediv_le_self _ hx.1;omega
theorem QX(p:Part)(s:List Span)(hs:s.length<=10000000000):PC Tryz.prog 187 [F4 p,Bn s] (Bn (imgL p s)):=by
 have hM:=OW s topS (by omega) (by simp[topS]);obtain⟨mp,mb,mm⟩:=YJ s
 have hml:(Gk (Bq s) (Bq topS)).length<=10000000001:=by
  have h1:=SY (Bq s) (Bq topS);have h2:=EY s;have h3:=EY topS;have h4:topS.length=1:=rfl;omega
 cases hb:EK p with
 |false =>
  have hB:=Ik p;rw[hb] at hB;refine BA Nf ?_;unfold Jn;(with_reducible repeat'(first|simp (disch:=omega) only[push_cast,↓zz,seval]|apply Aa|refine sp_ ?_ ?_<;>intro hc<;>push_cast at hc|refine ee hB ?_|(refine cc hB ?_;(simp(disch:=omega)only[push_cast,↓zz,seval]);(fail_if_success change False))|omega|intro _))
  all_goals (rw[imgL,Ae hb])
 |true =>
 have hB:=Ik p;rw[hb] at hB;have hbi:=Ft.1 hb;have ht:=Il p.take.toNat (by omega);have hw1:IntKind.i64.wrap (1 * 2 ^ min p.take.toNat IntKind.i64.bits)=2 ^ p.take.toNat:=by rw[WX (by omega) (by omega)];omega
 have hw2:IntKind.i64.wrap (2 ^ p.take.toNat-1)=2 ^ p.take.toNat-1:=IntWalk.i64_in _ (by omega);refine BA Nf ?_;unfold Jn;(with_reducible repeat'(first|simp (disch:=omega) only[push_cast,↓zz,seval,hw1,hw2,topS,Bn,C8,Bj,Bt,E8]|apply Aa|refine sp_ ?_ ?_<;>intro hc<;>push_cast at hc|refine ee hB ?_|refine ee hM ?_|((first|refine cc hB ?_|refine cc hM ?_);(simp(disch:=omega)only[push_cast,↓zz,seval,hw1,hw2,topS,Bn,C8,Bj,Bt,E8]);(fail_if_success change False))|omega|intro _));have hI:imgL p s=if p.up=0 then Bq (imgF p.drop.toNat p.take.toNat (Gk (Bq s) (Bq topS)) []) else Bq ((FK (Bq (Bq (imgF p.drop.toNat p.take.toNat (Gk (Bq s) (Bq topS)) [])))).map λx=>oneS (x * 2 ^ p.up.toNat)):=by rw[imgL,Ac (by simp[hb])]
 have hTS:[(⟨0,2097151⟩:Span)]=topS:=rfl;rw[hTS,hI];generalize Gk (Bq s) (Bq topS)=m at *;have hd:=Il p.drop.toNat (by omega)
 have hsh:∀x:Int,0<=x/\x<=2097151->x.fdiv (2 ^ min p.drop.toNat IntKind.i64.bits)=x / 2 ^ p.drop.toNat/\(0<=x / 2 ^ p.drop.toNat/\x / 2 ^ p.drop.toNat<=2097151)/\JX .and .i64 (x / 2 ^ p.drop.toNat) (2 ^ p.take.toNat-1)=x / 2 ^ p.drop.toNat % 2 ^ p.take.toNat:=λx hx =>
  ⟨zjv (by omega),z6d (by omega) hx,zcp (by omega) (z6d (by omega) hx)⟩
 refine AQ (AX (λ(s:Nat × List Span)=>s.1<=m.length/\s.2.length<=2 * s.1/\(∀t∈s.2,0<=t.lo/\t.hi<=2 ^ p.take.toNat-1)/\imgF p.drop.toNat p.take.toNat m []=imgF p.drop.toNat p.take.toNat (m.drop s.1) s.2) (λs=>m.length-s.1)
  (λs=>[(2,.ptr 0 1 0 0),(5,.int .i64 (2 ^ p.take.toNat-1)),(6,.ref 1 1 0 s.2.length),(23,Bn m),(24,.int .i64 m.length),(25,.int .i64 s.1)]) (λs=>[⟨4,1,true,[F4 p]⟩,⟨2,1,false,s.2.map C8⟩]) (λenv _=>[Cf 4 (env 2),Cf 2 (env 6)]) (0,[]) ⟨by simp,by simp,by simp,by simp⟩ ?_ ?_)
 ·(with_reducible repeat'(first|simp (disch:=omega) only[push_cast,↓zz,seval]|apply Aa|refine sp_ ?_ ?_<;>intro hc<;>push_cast at hc|omega|intro _))
 rintro⟨k,out⟩ ⟨h1,h2,h2b,h3⟩;simp only at h1 h2 h2b h3;rcases Ah k m.length with hk|hk
 ·have hx:=mb _ (AL hk)
  rw[drop_at hk,imgF,imgS] at h3;obtain⟨a1,a2,a3⟩:=hsh (nth m k).lo (by omega);obtain⟨b1,b2,b3⟩:=hsh (nth m k).hi (by omega);generalize (nth m k).lo / 2 ^ p.drop.toNat=u at *;generalize (nth m k).hi / 2 ^ p.drop.toNat=v at *;have hbk:2 ^ p.take.toNat-1<=v-u->imgF p.drop.toNat p.take.toNat m []=allS p.take.toNat:=λh=>by rw[h3,Ae h]
  have hN:=Dj (allS p.take.toNat) (by simp[allS]);have hEa:=OZ (Bq (allS p.take.toNat)) (by have:=EY (allS p.take.toNat);simp[allS] at this;simp[allS];omega);refine W_T ?_;(with_reducible repeat'(first|simp (disch:=omega) only[push_cast,↓zz,seval,a1,a3,b1,b3,allS,Bn,C8,Bj,Bt,E8]|apply Aa|refine sp_ ?_ ?_<;>intro hc<;>push_cast at hc|refine ee hN ?_|refine ee hEa ?_|((first|refine cc hN ?_|refine cc hEa ?_);(simp(disch:=omega)only[push_cast,↓zz,seval,a1,a3,b1,b3,allS,Bn,C8,Bj,Bt,E8]);(fail_if_success change False))|omega|intro _))
  ·rw[hbk (by assumption),Ae (by assumption)];rfl
  ·rw[hbk (by assumption),Ac (by assumption)]
   have hal:allS p.take.toNat=[⟨0,2 ^ p.take.toNat-1⟩]:=rfl;rw[hal];have h2c:∀t∈[(⟨0,2 ^ p.take.toNat-1⟩:Span)],0<=t.lo/\t.hi<=2 ^ p.take.toNat-1:=by simp
   have hu:p.take<=6:=by omega
   have h64:(2:Int) ^ p.take.toNat<=64:=by
    have e:=BK (n:=2) (by decide) (show p.take.toNat<=6 by omega);have e2:((2 ^ p.take.toNat:Nat):Int)=2 ^ p.take.toNat:=by simp
    omega
   have hmm:∀v,memL (Bq [⟨0,2 ^ p.take.toNat-1⟩]) v->0<=v/\v<=2 ^ p.take.toNat-1:=λv hv=>by
    obtain⟨t,ht1,ht2,ht3⟩:=(((Bo _).2 v).1 hv).1;have:=h2c t ht1;omega
   have hsy:Syms (Bq [⟨0,2 ^ p.take.toNat-1⟩]):=WU (Bo _).1 λv hv=>by have:=hmm v hv;omega
   have hNN:Bq (Bq [⟨0,2 ^ p.take.toNat-1⟩])=Bq [⟨0,2 ^ p.take.toNat-1⟩]:=LI (Bo _).1 λs hs=>by have:=hsy.2 s hs;omega
   rw[hNN];have hit:=OY (Bq [⟨0,2 ^ p.take.toNat-1⟩]) (by have:=hsy.len;omega) (by intro s hs;have:=hsy.2 s hs;omega);have hln:=hsy.nums;have hmem:∀k,k<(FK (Bq [⟨0,2 ^ p.take.toNat-1⟩])).length->0<=nth (FK (Bq [⟨0,2 ^ p.take.toNat-1⟩])) k/\nth (FK (Bq [⟨0,2 ^ p.take.toNat-1⟩])) k<=63:=λk hk=>by have:=hmm _ (IF.1 (AL hk));omega
   generalize Bq [⟨0,2 ^ p.take.toNat-1⟩]=M at *;generalize FK M=l at *
   refine RV (Yg (σ:=Nat × List Span) (λk s=>s.2=(l.take k).map (λx=>oneS (x * 2 ^ p.up.toNat))/\s.2.length<=k) [(2,.ptr 0 1 0 0),(11,.ptr 1 1 0 0),(84,.fn 204 [.cptr (Bn M)])] (λs=>[⟨4,1,true,[F4 p]⟩,⟨1,1,true,[.ref 2 s.1 0 s.2.length]⟩,⟨2,s.1,false,s.2.map C8⟩])
    [.grp 0,.grp 4,.virt 2] 3 (1,[]) hit ?_ (λ_=>rfl) rfl ?_ rfl rfl (Pe _) (SX _) (by simp) ⟨by simp,by simp⟩ ?_ ?_)
   ·(with_reducible repeat'(first|simp (disch:=omega) only[push_cast,↓zz,seval,hNN]|apply Aa|refine sp_ ?_ ?_<;>intro hc<;>push_cast at hc|omega|intro _))
   ·(with_reducible repeat'(first|simp (disch:=omega) only[push_cast,↓zz,seval]|apply Aa|refine sp_ ?_ ?_<;>intro hc<;>push_cast at hc|omega|intro _))
   ·rintro k row ⟨v,o⟩ hrow ⟨h1,h2⟩
    simp only at h1 h2;obtain⟨hk,rfl⟩:=z6c hrow;have hxb:=hmem k hk;have hw3:=WX (x:=nth l k) (n:=p.up.toNat) (by omega) (by omega)
    have hstep:(l.take (k+1)).map (λx=>oneS (x * 2 ^ p.up.toNat))=o++[oneS (nth l k * 2 ^ p.up.toNat)]:=by
     rw[take_at hk,Az,<-h1];rfl
    generalize nth l k=x at *;refine W_T ?_;(with_reducible repeat'(first|simp (disch:=omega) only[push_cast,↓zz,seval]|apply Aa|refine sp_ ?_ ?_<;>intro hc<;>push_cast at hc|omega|intro _));refine W_T ?_;(with_reducible repeat'(first|simp (disch:=omega) only[push_cast,↓zz,seval,hw3]|apply Aa|refine sp_ ?_ ?_<;>intro hc<;>push_cast at hc|omega|intro _));exact⟨(v+1,o++[oneS (x * 2 ^ p.up.toNat)]),⟨⟨rfl,by simp⟩,rfl,by rw[Az];exact Bc _ _⟩,hstep.symm,by simp;omega⟩
   ·rintro⟨v,o⟩ ⟨h1,h2⟩
    simp only[Bh] at h1 h2;rw[A3] at h1;rw[<-h1];have hN2:=Dj o (by omega);(with_reducible repeat'(first|simp (disch:=omega) only[push_cast,↓zz,seval,E8]|apply Aa|refine sp_ ?_ ?_<;>intro hc<;>push_cast at hc|refine ee hN2 ?_|(refine cc hN2 ?_;(simp(disch:=omega)only[push_cast,↓zz,seval,E8]);(fail_if_success change False))|omega|intro _))
  all_goals rw[Ac (by assumption)] at h3
  ·rw[Ae (by assumption)] at h3
   exact⟨(k+1,out++[⟨u % 2 ^ p.take.toNat,v % 2 ^ p.take.toNat⟩]),⟨⟨by simp,by simp⟩,by rw[Az];exact Bc _ _⟩,⟨by simp only;omega,by simp;omega,λt ht=>by
    rcases Am.1 ht with ht|ht
    ·exact h2b t ht
    ·simp only[Ao] at ht
     subst ht;have m0:=B1 u (b:=2 ^ p.take.toNat) (by omega);have m1:=Bu v (b:=2 ^ p.take.toNat) (by omega)
     exact⟨m0,by simp only;omega⟩,h3⟩,by simp only;omega⟩
  ·rw[Ac (by assumption)] at h3
   exact⟨(k+1,out++[⟨0,v % 2 ^ p.take.toNat⟩,⟨u % 2 ^ p.take.toNat,2 ^ p.take.toNat-1⟩]),⟨⟨by simp,by simp⟩,by rw[Az];exact Bc _ _⟩,⟨by simp only;omega,by simp;omega,λt ht=>by
    rcases Am.1 ht with ht|ht
    ·exact h2b t ht
    ·have m0:=B1 u (b:=2 ^ p.take.toNat) (by omega)
     have m1:=Bu v (b:=2 ^ p.take.toNat) (by omega);simp only[Ai,As,AH] at ht;rcases ht with rfl|rfl
     ·exact⟨Bg _,by simp only;omega⟩
     ·exact⟨m0,Bg _⟩,h3⟩,by simp only;omega⟩
 ·rw[Aj hk,imgF] at h3
  rw[h3];have hN:=Dj out (by omega);have hEa:=OZ (Bq out) (by have:=EY out;omega);refine W_T ?_;(with_reducible repeat'(first|simp (disch:=omega) only[push_cast,↓zz,seval]|apply Aa|refine sp_ ?_ ?_<;>intro hc<;>push_cast at hc|refine ee hN ?_|refine ee hEa ?_|((first|refine cc hN ?_|refine cc hEa ?_);(simp(disch:=omega)only[push_cast,↓zz,seval]);(fail_if_success change False))|omega|intro _))
  ·rw[Ae (by assumption)]
  ·rw[Ac (by assumption)]
   have hu:p.take<=6:=by omega
   have h64:(2:Int) ^ p.take.toNat<=64:=by
    have e:=BK (n:=2) (by decide) (show p.take.toNat<=6 by omega);have e2:((2 ^ p.take.toNat:Nat):Int)=2 ^ p.take.toNat:=by simp
    omega
   have hmm:∀v,memL (Bq out) v->0<=v/\v<=2 ^ p.take.toNat-1:=λv hv=>by
    obtain⟨t,ht1,ht2,ht3⟩:=(((Bo _).2 v).1 hv).1;have:=h2b t ht1;omega
   have hsy:Syms (Bq out):=WU (Bo _).1 λv hv=>by have:=hmm v hv;omega
   have hNN:Bq (Bq out)=Bq out:=LI (Bo _).1 λs hs=>by have:=hsy.2 s hs;omega
   rw[hNN];have hit:=OY (Bq out) (by have:=hsy.len;omega) (by intro s hs;have:=hsy.2 s hs;omega);have hln:=hsy.nums;have hmem:∀k,k<(FK (Bq out)).length->0<=nth (FK (Bq out)) k/\nth (FK (Bq out)) k<=63:=λk hk=>by have:=hmm _ (IF.1 (AL hk));omega
   generalize Bq out=M at *;generalize FK M=l at *
   refine RV (Yg (σ:=Nat × List Span) (λk s=>s.2=(l.take k).map (λx=>oneS (x * 2 ^ p.up.toNat))/\s.2.length<=k) [(2,.ptr 0 1 0 0),(11,.ptr 1 1 0 0),(84,.fn 204 [.cptr (Bn M)])] (λs=>[⟨4,1,true,[F4 p]⟩,⟨1,1,true,[.ref 2 s.1 0 s.2.length]⟩,⟨2,s.1,false,s.2.map C8⟩])
    [.grp 0,.grp 2,.virt 2] 3 (1,[]) hit ?_ (λ_=>rfl) rfl ?_ rfl rfl (Pe _) (SX _) (by simp) ⟨by simp,by simp⟩ ?_ ?_)
   ·(with_reducible repeat'(first|simp (disch:=omega) only[push_cast,↓zz,seval,hNN]|apply Aa|refine sp_ ?_ ?_<;>intro hc<;>push_cast at hc|omega|intro _))
   ·(with_reducible repeat'(first|simp (disch:=omega) only[push_cast,↓zz,seval]|apply Aa|refine sp_ ?_ ?_<;>intro hc<;>push_cast at hc|omega|intro _))
   ·rintro k row ⟨v,o⟩ hrow ⟨h1,h2⟩
    simp only at h1 h2;obtain⟨hk,rfl⟩:=z6c hrow;have hxb:=hmem k hk;have hw3:=WX (x:=nth l k) (n:=p.up.toNat) (by omega) (by omega)
    have hstep:(l.take (k+1)).map (λx=>oneS (x * 2 ^ p.up.toNat))=o++[oneS (nth l k * 2 ^ p.up.toNat)]:=by
     rw[take_at hk,Az,<-h1];rfl
    generalize nth l k=x at *;refine W_T ?_;(with_reducible repeat'(first|simp (disch:=omega) only[push_cast,↓zz,seval]|apply Aa|refine sp_ ?_ ?_<;>intro hc<;>push_cast at hc|omega|intro _));refine W_T ?_;(with_reducible repeat'(first|simp (disch:=omega) only[push_cast,↓zz,seval,hw3]|apply Aa|refine sp_ ?_ ?_<;>intro hc<;>push_cast at hc|omega|intro _));exact⟨(v+1,o++[oneS (x * 2 ^ p.up.toNat)]),⟨⟨rfl,by simp⟩,rfl,by rw[Az];exact Bc _ _⟩,hstep.symm,by simp;omega⟩
   ·rintro⟨v,o⟩ ⟨h1,h2⟩
    simp only[Bh] at h1 h2;rw[A3] at h1;rw[<-h1];have hN2:=Dj o (by omega);(with_reducible repeat'(first|simp (disch:=omega) only[push_cast,↓zz,seval,E8]|apply Aa|refine sp_ ?_ ?_<;>intro hc<;>push_cast at hc|refine ee hN2 ?_|(refine cc hN2 ?_;(simp(disch:=omega)only[push_cast,↓zz,seval,E8]);(fail_if_success change False))|omega|intro _))
    all_goals trace_state
def Low(n:Nat)(l:List Span):Prop:=Plain l/\∀s∈l,0<=s.lo/\s.lo<=s.hi/\s.hi<=2 ^ n-1
theorem z6e:∀{l:List Span}{f N:Nat},Plain l->(∀s∈l,(f:Int)<=s.lo/\s.hi<N)->f<=N->l.length+f<=N
 |[],f,N,_,_,hf=>by simpa using hf
 |s::l,f,N,h,hb,hf=>by
  have h1:=hb s (by simp);have h2:=h.head
  have:=z6e (l:=l) (f:=(s.hi+1).toNat) (N:=N) h.tail (λt ht=>by
   have:=(A9.1 h.2).1 t ht;have:=hb t (by simp[ht])
   omega) (by omega)
  simp only[List.length_cons];omega
theorem Low.len{n:Nat}{l:List Span}(h:Low n l):(l.length:Int)<=2 ^ n:=by
 have e:((2 ^ n:Nat):Int)=2 ^ n:=by simp
 have:=z6e (f:=0) (N:=2 ^ n) h.1 (λs hs=>by have:=h.2 s hs;simp only[Int.ofNat_zero];omega) (Aw _);omega
theorem YK{α:Type}{f:α->List Span}:∀{l:List α}{v:Int},memL (l.flatMap f) v↔∃x∈l,memL (f x) v
 |[],v=>by simp[memL]
 |x::l,v=>by
  rw[CZ,F2,YK];constructor
  ·rintro (h|⟨y,hy,h⟩)
   ·exact⟨x,by simp,h⟩
   ·exact⟨y,by simp[hy],h⟩
  ·rintro⟨y,hy,h⟩
   rcases Ai.1 hy with rfl|hy
   ·exact .inl h
   ·exact .inr ⟨y,hy,h⟩
theorem SZ{l:List Span}{d:Int}(hd:-2147483648<=d/\d<=2147483648){v:Int}:memL (Fz l d) v↔(memL l (v-d)/\-1073741824<=v-d/\v-d<=1073741824)/\-1073741824<=v/\v<=1073741824:=by
 obtain⟨p1,p2⟩:=Bo l;obtain⟨q1,q2⟩:=Bo ((Bq l).map (F3 d));rw[Fz,Ac (by omega),q2 v,<-p2 (v-d)]
 have:memL ((Bq l).map (F3 d)) v↔memL (Bq l) (v-d):=by
  constructor
  ·rintro⟨s,hs,h1,h2⟩
   obtain⟨t,ht,rfl⟩:=Ar.1 hs;exact⟨t,ht,by simp only[F3] at h1;omega,by simp only[F3] at h2;omega⟩
  ·rintro⟨t,ht,h1,h2⟩
   exact⟨F3 d t,Ar.2 ⟨t,ht,rfl⟩,by simp only[F3];omega,by simp only[F3];omega⟩
 rw[this]
theorem Gn{p:Part}{x:Int}(hb:EK p=true)(hx:0<=x/\x<=2097151):0<=valP p x/\valP p x<=66060288:=by
 have hbi:=Ft.1 hb;have ht:=Il p.take.toNat (by omega);have hu:=Il p.up.toNat (by omega);have m0:=B1 (x / 2 ^ p.drop.toNat) (b:=2 ^ p.take.toNat) (by omega);have m1:=Bu (x / 2 ^ p.drop.toNat) (b:=2 ^ p.take.toNat) (by omega);have hq:=z6d (d:=p.drop.toNat) (by omega) hx
 have m2:x / 2 ^ p.drop.toNat % 2 ^ p.take.toNat<=x / 2 ^ p.drop.toNat:=by
  have h1:=Int.emod_add_mul_ediv (x / 2 ^ p.drop.toNat) (2 ^ p.take.toNat);have h2:0<=2 ^ p.take.toNat * (x / 2 ^ p.drop.toNat / 2 ^ p.take.toNat):=DO (by omega) (Ej hq.1 (by omega));omega
 rw[valP];refine⟨DO m0 (by omega),?_⟩;rcases hbi.2.2.2.2.2.2 with h0|h6
 ·rw[h0,show (2:Int) ^ (0:Int).toNat=1 by decide,Gu];omega
 ·have e:=BK (n:=2) (by decide) (show p.take.toNat<=6 by omega)
  have e2:((2 ^ p.take.toNat:Nat):Int)=2 ^ p.take.toNat:=by simp
  have e3:=BK (n:=2) (by decide) (show p.up.toNat<=20 by omega);have e4:((2 ^ p.up.toNat:Nat):Int)=2 ^ p.up.toNat:=by simp
  have:x / 2 ^ p.drop.toNat % 2 ^ p.take.toNat * 2 ^ p.up.toNat<=63 * 1048576:=E4 (by omega) (by omega) (by omega) (by omega);omega
theorem zcq(s:List Span):Gk (Bq s) (Bq [⟨0,1114111⟩])=symI s:=by rw[symI,z0o]
theorem zcr(l:List Span)(d:Int):(Fz l d).length<=l.length:=by
 unfold Fz;split
 ·simp
 ·have h1:=EY ((Bq l).map (F3 d))
  have h2:=EY l;simp only[Bh] at h1;omega
def sumS(x y:Span):Span:=⟨x.lo+y.lo,x.hi+y.hi⟩
def WY(a b:List Span):List Span:=a.flatMap λx=>b.map (sumS x)
def Vr(a b:List Span):List Span:=Bq (WY a b)
theorem z0r(x:Span)(a b:List Span):WY (x::a) b=b.map (sumS x)++WY a b:=rfl
theorem z0s{l m:List Span}(h:∀v,-1073741824<=v/\v<=1073741824->(memL l v↔memL m v)):Bq l=Bq m:=by
 obtain⟨p1,p2⟩:=Bo l;obtain⟨q1,q2⟩:=Bo m;refine Hs p1 q1 λv=>?_;rw[p2,q2];constructor
 ·rintro⟨h1,h2,h3⟩;exact⟨(h v ⟨h2,h3⟩).1 h1,h2,h3⟩
 ·rintro⟨h1,h2,h3⟩;exact⟨(h v ⟨h2,h3⟩).2 h1,h2,h3⟩
theorem z6f{l m:List Span}:Bq (Bq l++m)=Bq (l++m):=z0s λv hv=>by
 rw[F2,F2,(Bo l).2 v];constructor
 ·rintro (⟨h,_⟩|h)
  ·exact .inl h
  ·exact .inr h
 ·rintro (h|h)
  ·exact .inl ⟨h,hv⟩
  ·exact .inr h
theorem Vs:∀{l:List Span}{f:Nat},Plain l->(∀s∈l,(f:Int)-1073741824<=s.lo/\s.hi<=1073741824)->f<=2147483649->l.length+f<=2147483649
 |[],f,_,_,hf=>by simpa using hf
 |s::l,f,h,hb,hf=>by
  have h1:=hb s (by simp);have h2:=h.head
  have:=Vs (l:=l) (f:=(s.hi+1073741825).toNat) h.tail (λt ht=>by
   have:=(A9.1 h.2).1 t ht;have:=hb t (by simp[ht])
   omega) (by omega)
  simp only[List.length_cons];omega
theorem IG(l:List Span):(Bq l).length<=2147483649:=by
 have:=Vs (f:=0) (Bo l).1 (λs hs=>by have:=ED l s hs;simp only[Int.ofNat_zero];omega) (by omega);omega
def Bd(l:List Span):Prop:=∀s∈l,(-1099511627776<=s.lo/\s.lo<=1099511627776)/\-1099511627776<=s.hi/\s.hi<=1099511627776
theorem z0t(l:List Span)(hl:l.length<=1000000000000):BB Tryz.prog 181 [Bn l] (Abs.hl []) λy H'=>y=.ref 0 1 0 (Bq l).length/\H'=Abs.hl [⟨2,1,false,(Bq l).map C8⟩] :=
 Ur (by omega) ((Mt l hl).mono λy H' ⟨rest,h1,h2⟩=>⟨rest.map C8,h1,by rw[h2,Az]⟩)
theorem z6g(a b:List Span)(la:a.length<=3000000000)(lb:b.length<=3000000000)(ha:Bd a)(hb:Bd b):PC Tryz.prog 200 [Bn a,Bn b] (Bn (Vr a b)):=by
 refine BA WE ?_;unfold OM;(with_reducible repeat'(first|simp (disch:=omega) only[push_cast,↓zz,seval]|apply Aa|refine sp_ ?_ ?_<;>intro hc<;>push_cast at hc|omega|intro _))
 refine AQ (AX (λ(s:Nat × List Span)=>s.1<=a.length/\s.2.length<=2147483649/\Vr a b=Bq (s.2++WY (a.drop s.1) b)) (λs=>a.length-s.1)
  (λs=>[(1,Bn b),(5,.ref 0 1 0 s.2.length),(10,Bn a),(11,.int .i64 a.length),(12,.int .i64 s.1)]) (λs=>[⟨2,1,false,s.2.map C8⟩]) (λenv _=>[Cf 2 (env 5)]) (0,[]) ⟨by simp,by simp,by simp[Vr]⟩ ?_ ?_)
 ·(with_reducible repeat'(first|simp (disch:=omega) only[push_cast,↓zz,seval]|apply Aa|refine sp_ ?_ ?_<;>intro hc<;>push_cast at hc|omega|intro _))
 rintro⟨k,out⟩ ⟨h1,h2,h3⟩;simp only at h1 h2 h3;rcases Ah k a.length with hk|hk
 ·rw[drop_at hk,z0r,<-Av] at h3
  have hx:=ha _ (AL hk);generalize hxe:nth a k=x at *;refine W_T ?_;(with_reducible repeat'(first|simp (disch:=omega) only[push_cast,↓zz,seval,hxe]|apply Aa|refine sp_ ?_ ?_<;>intro hc<;>push_cast at hc|omega|intro _))
  refine AQ (AX (λ(s:Nat × List Span)=>s.1<=b.length/\s.2=out++(b.take s.1).map (sumS x)/\s.2.length=out.length+s.1) (λs=>b.length-s.1)
   (λs=>[(1,Bn b),(5,.ref 0 1 0 s.2.length),(7,.ptr 1 1 0 0),(10,Bn a),(11,.int .i64 a.length),(12,.int .i64 k),(16,Bn b),(17,.int .i64 b.length),(18,.int .i64 s.1)]) (λs=>[⟨2,1,false,s.2.map C8⟩,⟨2,1,true,[C8 x]⟩]) (λenv _=>[Cf 2 (env 5),Cf 2 (env 7)]) (0,out) ⟨by simp,by simp,by simp⟩ ?_ ?_)
  ·(with_reducible repeat'(first|simp (disch:=omega) only[push_cast,↓zz,seval]|apply Aa|refine sp_ ?_ ?_<;>intro hc<;>push_cast at hc|omega|intro _))
  rintro⟨j,o⟩ ⟨g1,g2,g3⟩;simp only at g1 g2 g3;rcases Ah j b.length with hj|hj
  ·have hy:=hb _ (AL hj)
   have hstep:out++(b.take (j+1)).map (sumS x)=o++[sumS x (nth b j)]:=by rw[take_at hj,Az,<-Av,<-g2];rfl
   generalize hye:nth b j=y at *;have hw1:IntKind.i64.wrap (x.lo+y.lo)=x.lo+y.lo:=IntWalk.i64_in _ (by omega);have hw2:IntKind.i64.wrap (x.hi+y.hi)=x.hi+y.hi:=IntWalk.i64_in _ (by omega);clear g2;refine W_T ?_;(with_reducible repeat'(first|simp (disch:=omega) only[push_cast,↓zz,seval,hye,hw1,hw2]|apply Aa|refine sp_ ?_ ?_<;>intro hc<;>push_cast at hc|omega|intro _));refine⟨(j+1,o++[sumS x y]),?_⟩;(with_reducible repeat'(first|simp (disch:=omega) only[push_cast,↓zz,seval,sumS,hstep]|apply Aa|refine sp_ ?_ ?_<;>intro hc<;>push_cast at hc|omega|intro _))
  ·obtain rfl:j=b.length:=by omega
   rw[A3] at g2;rw[<-g2] at h3;clear g2;have hno:=IG o;have hap:=@z6f o (WY (a.drop (k+1)) b);refine W_T ?_;(with_reducible repeat'(first|simp (disch:=omega) only[push_cast,↓zz,seval]|apply Aa|refine sp_ ?_ ?_<;>intro hc<;>push_cast at hc|omega|intro _))
   ·(refine zjc (ys:=[Bn o]) ?_ ?_ ?_<;>(simp(disch:=omega)only[push_cast,↓zz,seval]))
    (refine GU [] (z0t o (by omega)) (by decide) (by simp) (by (simp(disch:=omega)only[push_cast,↓zz,seval])) (by (simp(disch:=omega)only[push_cast,↓zz,seval])) (by (simp(disch:=omega)only[push_cast,↓zz,seval])) (by (simp(disch:=omega)only[push_cast,↓zz,seval,Ai,As,AH,BD,Cy,BH])) ?_)
    rintro y H' ⟨rfl,rfl⟩;refine⟨_,rfl,by simp,?_⟩;(with_reducible repeat'(first|simp (disch:=omega) only[push_cast,↓zz,seval]|apply Aa|refine sp_ ?_ ?_<;>intro hc<;>push_cast at hc|omega|intro _));refine⟨(k+1,Bq o),?_⟩;(with_reducible repeat'(first|simp (disch:=omega) only[push_cast,↓zz,seval,hap]|apply Aa|refine sp_ ?_ ?_<;>intro hc<;>push_cast at hc|omega|intro _))
   ·refine⟨(k+1,o),?_⟩
    (with_reducible repeat'(first|simp (disch:=omega) only[push_cast,↓zz,seval]|apply Aa|refine sp_ ?_ ?_<;>intro hc<;>push_cast at hc|omega|intro _))
 ·rw[Aj hk,show WY [] b=[] from rfl,A5] at h3
  have hN:=Dj out (by omega);refine W_T ?_;(with_reducible repeat'(first|simp (disch:=omega) only[push_cast,↓zz,seval,h3,E8]|apply Aa|refine sp_ ?_ ?_<;>intro hc<;>push_cast at hc|refine ee hN ?_|(refine cc hN ?_;(simp(disch:=omega)only[push_cast,↓zz,seval,h3,E8]);(fail_if_success change False))|omega|intro _))
  all_goals trace_state
def totV(l:List Part)(x:Int):Int:=(l.map λp=>valP p x).sum
theorem Ta(x:Int):totV [] x=0:=rfl
theorem Vt(l:List Part)(p:Part)(x:Int):totV (l++[p]) x=totV l x+valP p x:=by simp[totV]
theorem Ju{x:Int}(hx:0<=x/\x<=2097151):∀{l:List Part},(∀p∈l,EK p=true)->0<=totV l x/\totV l x<=l.length * 66060288
 |[],_=>by simp[totV]
 |p::l,h=>by
  have h1:=Gn (h p (by simp)) hx;have h2:=Ju hx (l:=l) λq hq=>h q (by simp[hq]);have e:totV (p::l) x=valP p x+totV l x:=by simp[totV]
  rw[e,List.length_cons]
  push_cast
  omega
def togF(l:List Part)(out:List Span)(x:Int):List Span:=addS out ⟨totV l x,totV l x⟩
def togL(l:List Part)(s:List Span):List Span :=
 if l.length=1 then imgL (nth l 0) s else Bq ((FK (Bq s)).foldl (togF l) [])
theorem Tb(l:List Part)(s:List Span)(hl:l.length<=1000)(hb:∀p∈l,EK p=true)(hs:s.length<=10000000000)(hsy:Syms (Bq s)):
 PC Tryz.prog 201 [G7 l,Bn s] (Bn (togL l s)):=by
 have hln:=hsy.nums;have hls:=hsy.len;have hmem:∀k,k<(FK (Bq s)).length->0<=nth (FK (Bq s)) k/\nth (FK (Bq s)) k<=1114111:=λk hk=>hsy.mem (IF.1 (AL hk));have hit:=OY (Bq s) (by omega) (ED s);have hI:=QX (nth l 0) s hs;have hE:=OZ s (by omega);refine BA ON ?_;unfold Jo;(with_reducible repeat'(first|simp (disch:=omega) only[push_cast,↓zz,seval]|apply Aa|refine sp_ ?_ ?_<;>intro hc<;>push_cast at hc|refine ee hI ?_|refine ee hE ?_|((first|refine cc hI ?_|refine cc hE ?_);(simp(disch:=omega)only[push_cast,↓zz,seval]);(fail_if_success change False))|omega|intro _))
 ·rw[togL,Ae (by omega)]
 rw[togL,Ac (by omega)];generalize hlne:FK (Bq s)=m at *
 refine RV (Yg (σ:=Nat × List Span) (λk s=>s.2=(m.take k).foldl (togF l) []/\s.2.length<=k) [(2,.ptr 0 1 0 0),(5,.ptr 1 1 0 0),(22,.fn 204 [.cptr (Bn (Bq s))])] (λs=>[⟨1,1,true,[G7 l]⟩,⟨1,1,true,[.ref 2 s.1 0 s.2.length]⟩,⟨2,s.1,false,s.2.map C8⟩])
  [.grp 0,.grp 1,.virt 2] 3 (1,[]) hit ?_ (λ_=>rfl) rfl ?_ rfl rfl (Pe _) (SX _) (by simp) ⟨by simp,by simp⟩ ?_ ?_)
 ·(with_reducible repeat'(first|simp (disch:=omega) only[push_cast,↓zz,seval]|apply Aa|refine sp_ ?_ ?_<;>intro hc<;>push_cast at hc|omega|intro _))
 ·(with_reducible repeat'(first|simp (disch:=omega) only[push_cast,↓zz,seval]|apply Aa|refine sp_ ?_ ?_<;>intro hc<;>push_cast at hc|omega|intro _))
 ·rintro k row ⟨v,out⟩ hrow ⟨h1,h2⟩
  simp only at h1 h2;obtain⟨hk,rfl⟩:=z6c hrow;have hxb:=hmem k hk;have hstep:(m.take (k+1)).foldl (togF l) []=togF l out (nth m k):=by rw[take_at hk,Co,<-h1];rfl
  generalize nth m k=x at *;refine W_T ?_;(with_reducible repeat'(first|simp (disch:=omega) only[push_cast,↓zz,seval]|apply Aa|refine sp_ ?_ ?_<;>intro hc<;>push_cast at hc|omega|intro _));refine W_T ?_;(with_reducible repeat'(first|simp (disch:=omega) only[push_cast,↓zz,seval]|apply Aa|refine sp_ ?_ ?_<;>intro hc<;>push_cast at hc|omega|intro _))
  refine AQ (AX (λ(j:Nat)=>j<=l.length) (λj=>l.length-j)
   (λj=>[(2,.ptr 0 1 0 0),(5,.ptr 1 1 0 0),(6,.int .i64 x),(7,.int .i64 (totV (l.take j) x)),(24,G7 l),(25,.int .i64 l.length),(26,.int .i64 j)]) (λ_=>[⟨1,1,true,[G7 l]⟩,⟨1,1,true,[.ref 2 v 0 out.length]⟩,⟨2,v,false,out.map C8⟩]) (λ_ _=>[]) 0 (by simp) ?_ ?_)
  ·(with_reducible repeat'(first|simp (disch:=omega) only[push_cast,↓zz,seval,Ta]|apply Aa|refine sp_ ?_ ?_<;>intro hc<;>push_cast at hc|omega|intro _))
  intro j hj;rcases Ah j l.length with hjl|hjl
  ·have hp:=hb _ (AL hjl)
   have hV:=Im (nth l j) x
   have e1:val1 (nth l j) x=valP (nth l j) x:=by
    have hvb:valB (nth l j) x=true:=by simp[valB,hp];omega
    simp[val1,hvb]
   rw[valV,e1] at hV;have t1:=Ju (x:=x) (by omega) (l:=l.take j) λq hq=>hb q (By hq);have t2:=Gn hp (x:=x) (by omega);have hlt:(l.take j).length=j:=by simp;omega
   rw[hlt] at t1;have hw:IntKind.i64.wrap (totV (l.take j) x+valP (nth l j) x)=totV (l.take j) x+valP (nth l j) x:=IntWalk.i64_in _ (by omega);have hn:totV (l.take (j+1)) x=totV (l.take j) x+valP (nth l j) x:=by rw[take_at hjl,Vt]
   refine W_T ?_;(with_reducible repeat'(first|simp (disch:=omega) only[push_cast,↓zz,seval,hw]|apply Aa|refine sp_ ?_ ?_<;>intro hc<;>push_cast at hc|refine ee hV ?_|(refine cc hV ?_;(simp(disch:=omega)only[push_cast,↓zz,seval,hw]);(fail_if_success change False))|omega|intro _))
   all_goals exact⟨j+1,⟨hn.symm,by push_cast⟩,by omega,by omega⟩
  ·obtain rfl:j=l.length:=by omega
   rw[A3];have t1:=Ju (x:=x) (by omega) (l:=l) hb;rw[togF] at hstep;generalize totV l x=n at *;have hwn:IntKind.i64.wrap (n-1)=n-1:=IntWalk.i64_in _ (by omega);rcases Fy out with rfl|⟨mm,z,hout⟩
   ·refine W_T ?_
    (with_reducible repeat'(first|simp (disch:=omega) only[push_cast,↓zz,seval,hwn]|apply Aa|refine sp_ ?_ ?_<;>intro hc<;>push_cast at hc|omega|intro _))
    all_goals
     refine⟨(v+1,[⟨n,n⟩]),?_⟩;rw[He] at hstep;(with_reducible repeat'(first|simp (disch:=omega) only[push_cast,↓zz,seval,hstep]|apply Aa|refine sp_ ?_ ?_<;>intro hc<;>push_cast at hc|omega|intro _))
   ·have l1:out.length=mm.length+1:=by rw[hout];simp
    have l2:nth out mm.length=z:=by rw[hout];exact SV
    have l3:IntKind.i64.wrap (mm.length:Int)=mm.length:=IntWalk.i64_in _ (by omega);have l4:(out.map C8).set mm.length (.agg [.int .i64 z.lo,.int .i64 n])=(mm++[(⟨z.lo,n⟩:Span)]).map C8:=by rw[hout];exact Js (f:=C8) (z:=⟨z.lo,n⟩)
    have hadd:addS out ⟨n,n⟩=if z.hi=n-1 then mm++[⟨z.lo,n⟩] else out++[⟨n,n⟩]:=by rw[hout,Iq]
    rw[hadd] at hstep;clear hadd hout;refine W_T ?_;(with_reducible repeat'(first|simp (disch:=omega) only[push_cast,↓zz,seval,l1,l2,l3,l4,hwn]|apply Aa|refine sp_ ?_ ?_<;>intro hc<;>push_cast at hc|omega|intro _))
    ·rw[Ae (by assumption)] at hstep
     refine⟨(v,mm++[⟨z.lo,n⟩]),?_⟩;(with_reducible repeat'(first|simp (disch:=omega) only[push_cast,↓zz,seval,hstep]|apply Aa|refine sp_ ?_ ?_<;>intro hc<;>push_cast at hc|omega|intro _))
    ·rw[Ac (by assumption)] at hstep
     refine⟨(v+1,out++[⟨n,n⟩]),?_⟩;(with_reducible repeat'(first|simp (disch:=omega) only[push_cast,↓zz,seval,hstep,l1]|apply Aa|refine sp_ ?_ ?_<;>intro hc<;>push_cast at hc|omega|intro _))
 ·rintro⟨v,out⟩ ⟨h1,h2⟩
  simp only[Bh] at h1 h2;rw[A3] at h1;rw[<-h1];have hN:=Dj out (by omega);(with_reducible repeat'(first|simp (disch:=omega) only[push_cast,↓zz,seval,E8]|apply Aa|refine sp_ ?_ ?_<;>intro hc<;>push_cast at hc|refine ee hN ?_|(refine cc hN ?_;(simp(disch:=omega)only[push_cast,↓zz,seval,E8]);(fail_if_success change False))|omega|intro _))
  all_goals trace_state
def F0(pl:List Int)(p:Part):List Int:=if p.at_∈pl then pl else pl++[p.at_]
def FC(l:List Part):List Int:=l.foldl F0 []
def atL(l:List Part)(a:Int):List Part:=l.filter λp=>decide (p.at_=a)
def Jv(l:List Part)(sets:List (List Span))(out:List Span)(a:Int):List Span:=Vr out (togL (atL l a) (nth sets a.toNat))
def IU(t:Term)(sets:List (List Span)):List Span:=(FC t.parts).foldl (Jv t.parts sets) [⟨t.sum,t.sum⟩]
def PZ(l:List Span):Bool:=decide (0<(l.length:Int))&&(decide (0<=(Vq (Bq l)).getD 0)&&decide ((WW (Bq l)).getD 0<=1114111))
def Acc(l:List Span):Prop:=Bd l/\l.length<=2147483649
theorem Pf(l:List Span):Acc (Bq l):=by
 refine⟨λs hs=>?_,IG l⟩;have:=ED l s hs;omega
theorem Tc(a b:List Span):Acc (Vr a b):=Pf _
theorem Td(p:Part)(s:List Span):Acc (imgL p s):=by
 unfold imgL
 repeat' split
 all_goals first|exact Pf _|exact⟨λs hs=>(by cases hs),by simp⟩
theorem YL(l:List Part)(s:List Span):Acc (togL l s):=by
 unfold togL;split
 ·exact Td _ _
 ·exact Pf _
theorem z6h{x:Int}(h:Hu x=true):Acc [⟨x,x⟩]:=by
 refine⟨λs hs=>?_,by simp⟩;have:=GK h;simp only[Ao] at hs;subst hs;simp only;omega
structure QZ(l:List Part)(sets:List (List Span)):Prop where
 parts:∀p∈l,EC p sets.length=true
 syms:∀s∈sets,Syms s
 many:sets.length<=1000
theorem Vu{s:List Span}(h:Syms s):Bq s=s:=LI h.1 λt ht=>by have:=h.2 t ht;omega
theorem WZ{l:List Part}{sets:List (List Span)}{out:List Span}{a:Int}(hS:QZ l sets)(hA:Acc out)(ha:0<=a/\a<sets.length)(hl:l.length<=4):
 PC Tryz.prog 201 [G7 (atL l a),Bn (nth sets a.toNat)] (Bn (togL (atL l a) (nth sets a.toNat)))/\PC Tryz.prog 200 [Bn out,Bn (togL (atL l a) (nth sets a.toNat))] (Bn (Jv l sets out a))/\Acc (Jv l sets out a):=by
 have hm:nth sets a.toNat∈sets:=AL (by omega);have hs:=hS.syms _ hm;refine⟨Tb _ _ (Bb (Bz _ _) (by omega)) (λp hp=>?_) (by have:=hs.len;omega) (by rw[Vu hs];exact hs),z6g _ _ (by have:=hA.2;omega) (by have:=(YL (atL l a) (nth sets a.toNat)).2;omega) hA.1 (YL _ _).1,Tc _ _⟩;have:=hS.parts p ((AW.1 hp).1);simp only[EC,Ab] at this;exact this.2
theorem T_cut{σ:Type}{P:Program}{n b:Nat}{env:Env}{H:Ax}{Q:Ex->Env->Ax->Prop}(live:σ->List (Nat × AV))(heap:σ->List Grp)(srcs:Env->Ax->List Src){x y:AC}
 (h1:T P n b x env H (Ex.then (λenv' H'=>∃s',Head b env' H' (srcs env' H') (live s') (heap s')) Q)) (h2:∀s,T P n b y (EI (live s)) (hl (heap s)) Q):T P n b (.seq x y) env H Q:=Ub (T.mono h1 λx env' H' hh=>by
 cases x with
 |normal=>obtain⟨s',k⟩:=hh;exact Qv k (h2 s')
 |exit id=>exact hh
 |ret=>exact hh)
theorem pc_tt{P:Program}{f m np:Nat}{xs:List AV}{y:AV}{res:List ARes}{B:AC}(hf:AS P f xs.length=some ⟨m,np,res,B⟩)(h:T P m 0 B (entry xs) (Abs.hl []) (Ret P res λz H=>Dv 4 H z/\ansW (frzV 4 H z) y)):PC P f xs y:=by
 refine zgh hf 4 ?_;rw[Ug];exact T.mono h λx env H hh=>RP (λz H hh=>⟨hh.1,z42 hh.2⟩) hh
theorem em2(a b:Int):(a=b/\True)\/(¬a=b/\¬b=a):=by
 rcases Classical.em (a=b) with h|h
 ·exact .inl ⟨h,trivial⟩
 ·exact .inr ⟨h,λq=>h q.symm⟩
def mpO(l:List Part)(pl:List Int):List AV:=pl.flatMap λa=>[.int .i64 a,G7 (atL l a)]
theorem YM{l:List Part}{z:AV}{a:Int}:∀{pl:List Int},a∈pl->IS z a (mpO l pl)=some (G7 (atL l a))
 |[],h=>by cases h
 |b::pl,h=>by
  rw[show mpO l (b::pl)=.int .i64 b::G7 (atL l b)::mpO l pl from rfl,Qr];split
  ·rename_i e;rw[e]
  ·rename_i e;exact YM ((Ai.1 h).resolve_left λq=>e q.symm)
theorem YN(l:List Part):∀pl:List Int,A6 (mpO l pl)=true
 |[]=>rfl
 |b::pl=>by
  rw[show mpO l (b::pl)=[.int .i64 b,G7 (atL l b)]++mpO l pl from rfl,KZ,YN l pl];simp[A6,AV.pure,GF]
theorem Ra{a:Int}:∀{l:List Part}{pl:List Int},a∈l.foldl F0 pl->a∈pl\/∃p∈l,p.at_=a
 |[],_,h=>.inl h
 |p::l,pl,h=>by
  rcases Ra (l:=l) h with h|⟨q,h1,h2⟩
  ·unfold F0 at h
   split at h
   ·exact .inl h
   ·rcases Am.1 h with h|h
    ·exact .inl h
    ·exact .inr ⟨p,by simp,(Ao.1 h).symm⟩
  ·exact .inr ⟨q,by simp[h1],h2⟩
theorem Rb:∀(l:List Part)(pl:List Int),(l.foldl F0 pl).length<=pl.length+l.length
 |[],_=>Af _
 |p::l,pl=>by
  have h:=Rb l (F0 pl p);have k:(F0 pl p).length<=pl.length+1:=by unfold F0;split<;>simp
  show (l.foldl F0 (F0 pl p)).length<=_;rw[List.length_cons];omega
theorem YO{l:List Part}{sets:List (List Span)}:∀(q:List Int){out:List Span},Acc out->Acc (q.foldl (Jv l sets) out)
 |[],_,h=>h
 |_::q,_,_=>YO q (Tc _ _)
set_option maxHeartbeats 2000000 in
theorem Xa(t:Term)(sets:List (List Span))(hl:t.parts.length<=4)(hs:Hu t.sum=true)(hS:QZ t.parts sets):
 PC Tryz.prog 196 [F5 t,Cv sets] (.tup [Bn (IU t sets),.bool (PZ (IU t sets))]):=by
 obtain⟨bs,dr,tk,up,sm,l⟩:=t;simp only at hl hs hS;have hg:=Bs sets;have A0:=z6h hs
 have hb:∀a∈FC l,0<=a/\a<sets.length:=λa h=>by
  rcases Ra h with h|⟨p,hp,rfl⟩
  ·cases h
  ·exact HB (hS.parts p hp)
 have hmp:∀a∈FC l,IS .nilS a (mpO l (FC l))=some (G7 (atL l a)):=λa h=>YM h;have hpu:=YN l (FC l);have hpn:(FC l).length<=4:=Bb (Rb l []) (by simpa using hl);have hv:IU ⟨bs,dr,tk,up,sm,l⟩ sets=(FC l).foldl (Jv l sets) [⟨sm,sm⟩]:=rfl;rw[hv];obtain⟨pl,hpl⟩:∃pl,FC l=pl:=⟨_,rfl⟩;obtain⟨mp,hme⟩:∃mp,mpO l (FC l)=mp:=⟨_,rfl⟩;rw[hme] at hmp hpu;rw[hpl] at hb hmp hme hpn ⊢;clear hv;refine pc_tt S6 ?_;unfold L6;refine Ub (W_T ?_);(with_reducible repeat'(first|simp (disch:=omega) only[push_cast,↓zz,seval]|apply Aa|refine sp_ ?_ ?_<;>intro hc<;>push_cast at hc|omega|intro _));refine Ub (W_T ?_);(with_reducible repeat'(first|simp (disch:=omega) only[push_cast,↓zz,seval]|apply Aa|refine sp_ ?_ ?_<;>intro hc<;>push_cast at hc|omega|intro _));refine Ub (W_T ?_);(with_reducible repeat'(first|simp (disch:=omega) only[push_cast,↓zz,seval]|apply Aa|refine sp_ ?_ ?_<;>intro hc<;>push_cast at hc|omega|intro _));refine T_cut (σ:=Unit) (λ_=>[(1,Cv sets),(2,.ptr 0 1 0 0),(6,.map 1 1),(7,.lst 1 (pl.map (AV.int .i64)))]) (λ_=>[⟨6,1,true,[F5 ⟨bs,dr,tk,up,sm,l⟩]⟩,⟨0,1,true,mp⟩]) (λenv _=>[Cf 6 (env 2),Cf 1 (env 6)]) (W_T ?_) ?_
 ·clear hmp hpu hpn hb hS A0 hs
  rcases l with _|⟨⟨a0,d0,t0,u0⟩,_|⟨⟨a1,d1,t1,u1⟩,_|⟨⟨a2,d2,t2,u2⟩,_|⟨⟨a3,d3,t3,u3⟩,_|⟨p4,l⟩⟩⟩⟩⟩
  case cons.cons.cons.cons.cons=>simp at hl
  all_goals first|(refine (em2 a0 a1).elim (λq=>?_) λn01=>?_;obtain⟨rfl,n01⟩:=q)|(have n01:=trivial)
  all_goals first|(refine (em2 a0 a2).elim (λq=>?_) λn02=>?_;obtain⟨rfl,n02⟩:=q)|(have n02:=trivial)
  all_goals first|(refine (em2 a1 a2).elim (λq=>?_) λn12=>?_;obtain⟨rfl,n12⟩:=q)|(have n12:=trivial)
  all_goals first|(refine (em2 a0 a3).elim (λq=>?_) λn03=>?_;obtain⟨rfl,n03⟩:=q)|(have n03:=trivial)
  all_goals first|(refine (em2 a1 a3).elim (λq=>?_) λn13=>?_;obtain⟨rfl,n13⟩:=q)|(have n13:=trivial)
  all_goals first|(refine (em2 a2 a3).elim (λq=>?_) λn23=>?_;obtain⟨rfl,n23⟩:=q)|(have n23:=trivial)
  all_goals
   simp[FC,F0,n01,n02,n12,n03,n13,n23] at hpl;subst hpl;simp[mpO,atL,n01,n02,n12,n03,n13,n23] at hme;subst hme
  all_goals (with_reducible repeat'(first|simp (disch:=omega) only[push_cast,↓zz,seval]|apply Aa|refine sp_ ?_ ?_<;>intro hc<;>push_cast at hc|omega|intro _))
  all_goals refine Uq 6 ?_
  all_goals (with_reducible repeat'(first|simp (disch:=omega) only[push_cast,↓zz,seval,xx,Ai,As,AH,Cp,Dl,B4,D5,D4,IS,setM,n01,n02,n12,n03,n13,n23]|apply Aa|refine sp_ ?_ ?_<;>intro hc<;>push_cast at hc|refine Wr ?_|((first|(refine Jd [1] ?_;(simp(disch:=omega)only[push_cast,↓zz,seval,xx,Ai,As,AH,Cp,Dl,B4,D5,D4,Grp.mk.injEq,IS,setM,n01,n02,n12,n03,n13,n23]);fail_if_success change False)|(refine Jd [1,5] ?_;(simp(disch:=omega)only[push_cast,↓zz,seval,xx,Ai,As,AH,Cp,Dl,B4,D5,D4,Grp.mk.injEq,IS,setM,n01,n02,n12,n03,n13,n23]);fail_if_success change False)|(refine Jd [1,8] ?_;(simp(disch:=omega)only[push_cast,↓zz,seval,xx,Ai,As,AH,Cp,Dl,B4,D5,D4,Grp.mk.injEq,IS,setM,n01,n02,n12,n03,n13,n23]);fail_if_success change False)|(refine Jd [1,9] ?_;(simp(disch:=omega)only[push_cast,↓zz,seval,xx,Ai,As,AH,Cp,Dl,B4,D5,D4,Grp.mk.injEq,IS,setM,n01,n02,n12,n03,n13,n23]);fail_if_success change False)|(refine Jd [1,11] ?_;(simp(disch:=omega)only[push_cast,↓zz,seval,xx,Ai,As,AH,Cp,Dl,B4,D5,D4,Grp.mk.injEq,IS,setM,n01,n02,n12,n03,n13,n23]);fail_if_success change False)))|omega|intro _))
  all_goals exact⟨(),trivial⟩
 rintro _;have hpp:=AE .i64 pl;refine W_T ?_;(with_reducible repeat'(first|simp (disch:=omega) only[push_cast,↓zz,seval]|apply Aa|refine sp_ ?_ ?_<;>intro hc<;>push_cast at hc|omega|intro _))
 refine AQ (AX (λ(j:Nat)=>j<=pl.length) (λj=>pl.length-j)
  (λj=>[(1,Cv sets),(6,.map 0 1),(10,Bn ((pl.take j).foldl (Jv l sets) [⟨sm,sm⟩])),(53,.lst 1 (pl.map (AV.int .i64))),(54,.int .i64 pl.length),(55,.int .i64 j)])
  (λ_=>[⟨0,1,true,mp⟩]) (λenv _=>[Cf 1 (env 6)]) 0 (Aw _) ?_ ?_)
 ·(with_reducible repeat'(first|simp (disch:=omega) only[push_cast,↓zz,seval,hpu,List.foldl_nil,Bj,Bt]|apply Aa|refine sp_ ?_ ?_<;>intro hc<;>push_cast at hc|omega|intro _))
 intro j hj;have A1:=YO (l:=l) (sets:=sets) (pl.take j) A0;rcases Ah j pl.length with h|h
 ·have hm:=AL h
  have hf:=hmp _ hm;have hbd:=hb _ hm;obtain⟨T1,P1,_⟩:=WZ (a:=nth pl j) hS A1 hbd hl;have hst:(pl.take (j+1)).foldl (Jv l sets) [⟨sm,sm⟩]=Jv l sets ((pl.take j).foldl (Jv l sets) [⟨sm,sm⟩]) (nth pl j):=by rw[take_at h,Co];rfl
  refine W_T ?_;generalize (pl.take j).foldl (Jv l sets) [⟨sm,sm⟩]=o at *;(with_reducible repeat'(first|simp (disch:=omega) only[push_cast,↓zz,seval,hf,hg,hpu]|apply Aa|refine sp_ ?_ ?_<;>intro hc<;>push_cast at hc|refine ee T1 ?_|refine ee P1 ?_|((first|refine cc T1 ?_|refine cc P1 ?_);(simp(disch:=omega)only[push_cast,↓zz,seval,hf,hg,hpu]);(fail_if_success change False))|omega|intro _))
  all_goals
   refine⟨j+1,?_⟩;(with_reducible repeat'(first|simp (disch:=omega) only[push_cast,↓zz,seval,hst,hpu]|apply Aa|refine sp_ ?_ ?_<;>intro hc<;>push_cast at hc|omega|intro _))
 obtain rfl:j=pl.length:=by omega
 rw[A3] at A1;have htk:pl.take pl.length=pl:=A3;rw[htk];generalize pl.foldl (Jv l sets) [⟨sm,sm⟩]=o at *;have hF:=z0q o (by have:=A1.2;omega);have hL:=z69 o (by have:=A1.2;omega);refine W_T ?_;(with_reducible repeat'(first|simp (disch:=omega) only[push_cast,↓zz,seval,PZ]|apply Aa|refine sp_ ?_ ?_<;>intro hc<;>push_cast at hc|refine ee hF ?_|refine ee hL ?_|((first|refine cc hF ?_|refine cc hL ?_);(simp(disch:=omega)only[push_cast,↓zz,seval,PZ]);(fail_if_success change False))|omega|intro _))
 all_goals ((try simp only[*,Df,Cl,AF,AI]);(repeat'(first|(simp(disch:=omega)only[push_cast,↓zz,seval,Dq])|omega|(with_reducible refine Aa ?_ ?_))))
def midG(gs:List (List Span))(k:Nat):List (List Span):=(gs.take k).map symI++List.replicate (gs.length-k) []
theorem YP{gs:List (List Span)}{k:Nat}(h:k<=gs.length):(midG gs k).length=gs.length:=by simp[midG];omega
theorem zcs(gs:List (List Span)):midG gs gs.length=gs.map symI:=by simp[midG]
theorem zct{gs:List (List Span)}{k:Nat}(h:k<gs.length):((midG gs k).map Bn).set k (Bn (symI (nth gs k)))=(midG gs (k+1)).map Bn:=by
 have e:gs.length-k=(gs.length-(k+1))+1:=by omega
 rw[midG,midG,take_at h,e,List.replicate_succ,Az,DD _ _ (by simp;omega)];simp[show min k gs.length=k by omega]
theorem zjw{gs:List (List Span)}{k:Nat}(h:k<gs.length):nth (midG gs (k+1)) k=symI (nth gs k):=by
 rw[midG,take_at h,nth,Ap,Az,Av,AB (by simp;omega)];simp[show min k gs.length=k by omega]
theorem zcu(n:Nat):A6 (List.replicate n AV.nilS)=true:=by
 induction n with
 |zero=>rfl
 |succ n ih=>simp[List.replicate_succ,A6,AV.pure,ih]
theorem zcv(l:List Grp)(gs:List (List Span)):leSL l (List.replicate gs.length .nilS) ((midG gs 0).map Bn):=by
 simp only[midG,List.take_zero,Bt,List.nil_append,Nat.sub_zero,Du];generalize gs.length=n
 induction n with
 |zero=>rfl
 |succ n ih=>exact⟨⟨by decide,rfl⟩,ih⟩
def My(gs:List (List Span))(k:Nat):Bool:=(gs.take k).all λg=>decide (0<((symI g).length:Int))
theorem zcw{gs:List (List Span)}{k:Nat}(h:k<gs.length):My gs (k+1)=(My gs k&&decide (0<((symI (nth gs k)).length:Int))):=by
 rw[My,take_at h,List.all_append];simp[My]
def prtB(t:Term)(n:Int):Bool:=t.parts.all λp=>EC p n
def FM(t:Term)(gs:List (List Span)):List Span × Bool :=
 if 4<gs.length\/CQ t=false then ([],false) else if prtB t gs.length=false then ([],false) else
  if My gs gs.length=false then ([],true) else (IU t (gs.map symI),PZ (IU t (gs.map symI)))
theorem zoa{l:List Part}{n:Int}{k:Nat}(h:k<l.length):(l.drop k).all (λp=>EC p n)=(EC (nth l k) n&&(l.drop (k+1)).all λp=>EC p n):=by rw[drop_at h,List.all_cons]
theorem JN{t:Term}{gs:List (List Span)}(h:prtB t gs.length=true)(hg:gs.length<=4):QZ t.parts (gs.map symI) where
 parts p hp:=by
  rw[Bh];exact AJ.1 h p hp
 syms s hs:=by
  obtain⟨g,_,rfl⟩:=Ar.1 hs;exact Vo g
 many:=by simp;omega
theorem z0u(t:Term)(gs:List (List Span))(ht:t.parts.length<1000000000000)(hg:∀g∈gs,g.length<=1000000)(hl:gs.length<=9223372036854775807):
 PC Tryz.prog 185 [F5 t,Cv gs] (.tup [Bn (FM t gs).1,.bool (FM t gs).2]):=by
 have hP:=Bs gs;have hN:=Jq t ht;have hY:=Vp;refine BA UW ?_;unfold Nc;by_cases h1:4<gs.length\/CQ t=false
 ·rw[FM,Ae h1]
  (with_reducible repeat'(first|simp (disch:=omega) only[push_cast,↓zz,seval]|apply Aa|refine sp_ ?_ ?_<;>intro hc<;>push_cast at hc|refine ee hN ?_|(refine cc hN ?_;(simp(disch:=omega)only[push_cast,↓zz,seval]);(fail_if_success change False))|omega|intro _))
  all_goals first
   |((repeat'(first|(simp(disch:=omega)only[push_cast,↓zz,seval,Dq])|omega|(with_reducible refine Aa ?_ ?_)));done)
   |(exfalso;rcases h1 with h1|h1<;>first|omega|simp_all)
 have h4:gs.length<=4:=by omega
 have hn:CQ t=true:=by simpa using (Dl.1 h1).2
 (with_reducible repeat'(first|simp (disch:=omega) only[push_cast,↓zz,seval,hn]|apply Aa|refine sp_ ?_ ?_<;>intro hc<;>push_cast at hc|refine ee hN ?_|(refine cc hN ?_;(simp(disch:=omega)only[push_cast,↓zz,seval,hn]);(fail_if_success change False))|omega|intro _))
 refine AQ (AX (λ(k:Nat)=>k<=gs.length) (λk=>gs.length-k)
  (λk=>[(1,Cv gs),(2,.ptr 0 1 0 0),(6,.bool (My gs k)),(7,.ref 1 1 0 gs.length),(23,Cv gs),(24,.int .i64 gs.length),(25,.int .i64 k)]) (λk=>[⟨6,1,true,[F5 t]⟩,⟨1,1,true,(midG gs k).map Bn⟩]) (λenv _=>[Cf 1 (env 2),Cf 1 (env 7)]) 0 (by simp) ?_ ?_)
 ·have e:=zcv
  have hr:A6 (List.replicate gs.length AV.nilS)=true:=zcu gs.length;have hs0:My gs 0=true:=rfl;(with_reducible repeat'(first|simp (disch:=omega) only[push_cast,↓zz,seval,hs0,hP,hr]|apply Aa|refine sp_ ?_ ?_<;>intro hc<;>push_cast at hc|omega|intro _))
  all_goals exact e _ gs
 intro k hk;have hml:=YP hk;have hpm:=Bs (midG gs k);rcases Ah k gs.length with hkl|hkl
 ·have hM:=OW (nth gs k) [⟨0,1114111⟩] (by have:=hg _ (AL hkl);omega) (by simp)
  rw[zcq] at hM;have e1:=zct hkl;have e2:=zjw hkl;have e3:=zcw hkl;have hpm2:=Bs (midG gs (k+1));have hml2:=YP (gs:=gs) (k:=k+1) (by omega);refine W_T ?_;(with_reducible repeat'(first|simp (disch:=omega) only[push_cast,↓zz,seval,hP,hpm,hpm2,hml,hml2,e1,e2]|apply Aa|refine sp_ ?_ ?_<;>intro hc<;>push_cast at hc|refine ee hY ?_|refine ee hM ?_|((first|refine cc hY ?_|refine cc hM ?_);(simp(disch:=omega)only[push_cast,↓zz,seval,hP,hpm,hpm2,hml,hml2,e1,e2]);(fail_if_success change False))|omega|intro _))
  all_goals
   refine⟨k+1,?_⟩;(with_reducible repeat'(first|simp (disch:=omega) only[push_cast,↓zz,seval,e3]|apply Aa|refine sp_ ?_ ?_<;>intro hc<;>push_cast at hc|omega|intro _))
  all_goals (simp only[*,AF,AI])
 ·obtain rfl:k=gs.length:=by omega
  rw[zcs] at *;refine W_T ?_;(with_reducible repeat'(first|simp (disch:=omega) only[push_cast,↓zz,seval,hP,hpm]|apply Aa|refine sp_ ?_ ?_<;>intro hc<;>push_cast at hc|omega|intro _))
  refine AQ (AX (λ(k:Nat)=>k<=t.parts.length/\prtB t gs.length=(t.parts.drop k).all λp=>EC p gs.length) (λk=>t.parts.length-k)
   (λk=>[(1,Cv gs),(2,.ptr 0 1 0 0),(6,.bool (My gs gs.length)),(7,Cv (gs.map symI)),(47,G7 t.parts),(48,.int .i64 t.parts.length),(49,.int .i64 k)]) (λk=>[⟨6,1,true,[F5 t]⟩]) (λenv _=>[Cf 1 (env 2)]) 0 ⟨by simp,rfl⟩ ?_ ?_)
  ·have et:List.take gs.length (gs.map symI)=gs.map symI:=Al (by simp)
   (with_reducible repeat'(first|simp (disch:=omega) only[push_cast,↓zz,seval,hP,hpm,et]|apply Aa|refine sp_ ?_ ?_<;>intro hc<;>push_cast at hc|omega|intro _))
  rintro k ⟨k1,k2⟩;rcases Ah k t.parts.length with hkp|hkp
  ·have hR:=Hh (nth t.parts k) gs.length
   rw[zoa hkp] at k2;refine W_T ?_;(with_reducible repeat'(first|simp (disch:=omega) only[push_cast,↓zz,seval,hP,hpm]|apply Aa|refine sp_ ?_ ?_<;>intro hc<;>push_cast at hc|refine ee hR ?_|(refine cc hR ?_;(simp(disch:=omega)only[push_cast,↓zz,seval,hP,hpm]);(fail_if_success change False))|omega|intro _))
   ·have hp:prtB t gs.length=false:=by rw[k2];simp[*]
    rw[FM,Ac h1,Ae hp];(repeat'(first|(simp(disch:=omega)only[push_cast,↓zz,seval,Dq])|omega|(with_reducible refine Aa ?_ ?_)))
   ·exact⟨k+1,by push_cast,⟨by omega,by rw[k2];simp[*]⟩,by omega⟩
  ·rw[Aj hkp] at k2
   have hp:prtB t gs.length=true:=k2;have hnum:=hn;simp only[CQ,Ab,Ad] at hnum;have hV:=Xa t (gs.map symI) hnum.2.2 hnum.1.1.2 (JN hp h4);have hI:FM t gs=if My gs gs.length=false then ([],true) else (IU t (gs.map symI),PZ (IU t (gs.map symI))):=by rw[FM,Ac h1,Ac (by simp[hp])]
   refine W_T ?_;(with_reducible repeat'(first|simp (disch:=omega) only[push_cast,↓zz,seval,hP,hpm]|apply Aa|refine sp_ ?_ ?_<;>intro hc<;>push_cast at hc|refine ee hV ?_|(refine cc hV ?_;(simp(disch:=omega)only[push_cast,↓zz,seval,hP,hpm]);(fail_if_success change False))|omega|intro _))
   all_goals
    rw[hI]
    first
     |rw[Ae (by assumption)]
     |rw[Ac (by simp[*])]
    (repeat'(first|(simp(disch:=omega)only[push_cast,↓zz,seval,Dq])|omega|(with_reducible refine Aa ?_ ?_)))
   all_goals trace_state
def FN(t:Term)(gs:List (List Span)):List Span × Bool :=
 if (FM t gs).2=false then ([],false) else if (FM t gs).1.length=0 then ([],true) else (Fz (imgL t.outer (FM t gs).1) t.base,true)
theorem z6i(t:Term)(gs:List (List Span))(h:Hu t.sum=true):(FM t gs).1.length<=2147483649:=by
 unfold FM
 repeat' split
 all_goals first|(simp;done)|skip
 unfold IU
 have key:∀(pl:List Int)(out:List Span),Acc out->Acc (pl.foldl (Jv t.parts (gs.map symI)) out):=λpl=>by
  induction pl with
  |nil=>exact λout h=>h
  |cons a pl ih=>exact λout h=>ih _ (Tc _ _)
 exact (key _ _ (z6h h)).2
theorem z0v(t:Term)(gs:List (List Span))(ht:t.parts.length<1000000000000)(hg:∀g∈gs,g.length<=1000000)(hl:gs.length<=9223372036854775807):
 PC Tryz.prog 167 [F5 t,Cv gs] (.tup [Bn (FN t gs).1,.bool (FN t gs).2]):=by
 have hP:=Bs gs;have hI:=z0u t gs ht hg hl;have hO:=GH t
 have hlen:(FM t gs).2=true->(FM t gs).1.length<=2147483649:=λh=>by
  by_cases hs:Hu t.sum=true
  ·exact z6i t gs hs
  ·have:CQ t=false:=by simp[CQ,hs]
   rw[FM,Ae (.inr this)] at h;cases h
 refine BA US ?_;unfold MY;rcases Bool.eq_false_or_eq_true (FM t gs).2 with h2|h2
 ·have hl2:=hlen h2
  have hA:=Td t.outer (FM t gs).1;have hM:=QX t.outer (FM t gs).1 (by omega);have hV:=z6b (imgL t.outer (FM t gs).1) t.base (by have:=hA.2;omega);(with_reducible repeat'(first|simp (disch:=omega) only[push_cast,↓zz,seval,hP,h2]|apply Aa|refine sp_ ?_ ?_<;>intro hc<;>push_cast at hc|refine ee hI ?_|refine ee hO ?_|refine ee hM ?_|refine ee hV ?_|((first|refine cc hI ?_|refine cc hO ?_|refine cc hM ?_|refine cc hV ?_);(simp(disch:=omega)only[push_cast,↓zz,seval,hP,h2]);(fail_if_success change False))|omega|intro _))
  all_goals
   rw[FN,Ac (by simp[h2])]
   first
    |rw[Ae (by omega)]
    |rw[Ac (by omega)]
   (repeat'(first|(simp(disch:=omega)only[push_cast,↓zz,seval,Dq])|omega|(with_reducible refine Aa ?_ ?_)))
 ·(with_reducible repeat'(first|simp (disch:=omega) only[push_cast,↓zz,seval,hP,h2]|apply Aa|refine sp_ ?_ ?_<;>intro hc<;>push_cast at hc|refine ee hI ?_|(refine cc hI ?_;(simp(disch:=omega)only[push_cast,↓zz,seval,hP,h2]);(fail_if_success change False))|omega|intro _))
  all_goals
   rw[FN,Ae h2];(repeat'(first|(simp(disch:=omega)only[push_cast,↓zz,seval,Dq])|omega|(with_reducible refine Aa ?_ ?_)))
def Nr(t:Term)(i o:Int)(gs:List (List Span)):Bool:=FY t i o gs.length&&((FN t gs).2&&decide (FZ (FN t gs).1 (domL o)=[]))
theorem z6j(t:Term)(gs:List (List Span)):(FN t gs).1.length<=2147483649:=by
 unfold FN
 repeat' split
 all_goals first|(simp;done)|skip
 have h1:=(Td t.outer (FM t gs).1).2;have h2:=zcr (imgL t.outer (FM t gs).1) t.base;simp only;omega
theorem Te(s:Int):(domL s).length<=2:=by unfold domL;split<;>(try split)<;>simp
theorem z6k(t:Term)(i o:Int)(gs:List (List Span))(ht:t.parts.length<1000000000000)(hg:∀g∈gs,g.length<=1000000)(hl:gs.length<=9223372036854775807):
 PC Tryz.prog 147 [F5 t,.int .i64 i,.int .i64 o,Cv gs] (.bool (Nr t i o gs)):=by
 have hP:=Bs gs;have hR:=z0f t i o gs.length ht;have hI:=z0v t gs ht hg hl;have hD:=FB o;have hW:=OX (FN t gs).1 (domL o) (by have:=z6j t gs;omega) (by have:=Te o;omega);refine BA W3 ?_;unfold O9 Nr;(with_reducible repeat'(first|simp (disch:=omega) only[push_cast,↓zz,seval,hP]|apply Aa|refine sp_ ?_ ?_<;>intro hc<;>push_cast at hc|refine ee hR ?_|refine ee hI ?_|refine ee hD ?_|refine ee hW ?_|((first|refine cc hR ?_|refine cc hI ?_|refine cc hD ?_|refine cc hW ?_);(simp(disch:=omega)only[push_cast,↓zz,seval,hP]);(fail_if_success change False))|omega|intro _))
 all_goals simp only[*,AF,AI]
def Kl:Int->List Span->Bool
 |_,[]=>true
 |last,s::l=>decide (s.lo<=s.hi/\-1073741824<=s.lo/\s.hi<=1073741824/\last+1<s.lo)&&Kl s.hi l
def Pg(g:List Span):Bool:=Kl (-1073741826) g
theorem z0w(g:List Span)(hl:g.length<=9223372036854775807):PC Tryz.prog 145 [Bn g] (.bool (Pg g)):=by
 refine BA UO ?_;unfold MU;(with_reducible repeat'(first|simp (disch:=omega) only[push_cast,↓zz,seval]|apply Aa|refine sp_ ?_ ?_<;>intro hc<;>push_cast at hc|omega|intro _))
 refine AQ (AX (λ(s:Nat × Int)=>s.1<=g.length/\Pg g=Kl s.2 (g.drop s.1)/\-1073741826<=s.2/\s.2<=1073741824) (λs=>g.length-s.1)
  (λs=>[(3,.int .i64 s.2),(6,Bn g),(7,.int .i64 g.length),(8,.int .i64 s.1)]) (λs=>[]) (λ_ _=>[]) (0,-1073741826) ⟨by simp,rfl,by simp,by simp⟩ ?_ ?_)
 ·(with_reducible repeat'(first|simp (disch:=omega) only[push_cast,↓zz,seval]|apply Aa|refine sp_ ?_ ?_<;>intro hc<;>push_cast at hc|omega|intro _))
 rintro⟨k,last⟩ ⟨h1,h2,h3,h4⟩;simp only at h1 h2 h3 h4;rcases Ah k g.length with hk|hk
 ·rw[drop_at hk,Kl] at h2
  generalize hxe:nth g k=x at *;have hw:IntKind.i64.wrap (last+1)=last+1:=IntWalk.i64_in _ (by omega);refine W_T ?_;(with_reducible repeat'(first|simp (disch:=omega) only[push_cast,↓zz,seval,hw,hxe]|apply Aa|refine sp_ ?_ ?_<;>intro hc<;>push_cast at hc|omega|intro _))
  all_goals first
   |(rw[h2,AM (by omega),AI];done)
   |exact⟨(k+1,x.hi),⟨rfl,by push_cast⟩,⟨by simp only;omega,by rw[h2,A7 (by omega),AF],by simp only;omega,by simp only;omega⟩,by simp only;omega⟩
 ·rw[Aj hk,Kl] at h2
  refine W_T ?_;(with_reducible repeat'(first|simp (disch:=omega) only[push_cast,↓zz,seval,h2]|apply Aa|refine sp_ ?_ ?_<;>intro hc<;>push_cast at hc|omega|intro _))
  all_goals trace_state
def Jw(i:Int)(g:List Span):Bool:=!decide ((g.length:Int)=0)&&(decide ((g.length:Int)<=64)&&(Pg g&&decide (FZ g (domL i)=[])))
def Ez(i:Int)(gs:List (List Span)):Bool:=decide ((gs.length:Int)<=4)&&gs.all (Jw i)
theorem Ph(i:Int)(gs:List (List Span)):PC Tryz.prog 120 [.int .i64 i,Cv gs] (.bool (Ez i gs)):=by
 have hP:=Bs gs;have hD:=FB i;have hdl:=Te i;refine BA Sm ?_;unfold Lr;by_cases h4:4<gs.length
 ·rw[Ez,AM (by omega),AI]
  (with_reducible repeat'(first|simp (disch:=omega) only[push_cast,↓zz,seval]|apply Aa|refine sp_ ?_ ?_<;>intro hc<;>push_cast at hc|omega|intro _))
 rw[Ez,A7 (by omega),AF];(with_reducible repeat'(first|simp (disch:=omega) only[push_cast,↓zz,seval]|apply Aa|refine sp_ ?_ ?_<;>intro hc<;>push_cast at hc|refine ee hD ?_|(refine cc hD ?_;(simp(disch:=omega)only[push_cast,↓zz,seval]);(fail_if_success change False))|omega|intro _))
 refine AQ (AX (λ(k:Nat)=>k<=gs.length/\gs.all (Jw i)=(gs.drop k).all (Jw i)) (λk=>gs.length-k)
  (λk=>[(5,Bn (domL i)),(13,Cv gs),(14,.int .i64 gs.length),(15,.int .i64 k)]) (λs=>[]) (λ_ _=>[]) 0 ⟨by simp,rfl⟩ ?_ ?_)
 ·(with_reducible repeat'(first|simp (disch:=omega) only[push_cast,↓zz,seval,hP]|apply Aa|refine sp_ ?_ ?_<;>intro hc<;>push_cast at hc|omega|intro _))
 rintro k ⟨h1,h2⟩;rcases Ah k gs.length with hk|hk
 ·rw[drop_at hk,List.all_cons,Jw] at h2
  generalize hge:nth gs k=g at *;refine W_T ?_;by_cases hl:(g.length:Int)=0
  ·rw[A7 hl,Dy,AI,AI] at h2
   (with_reducible repeat'(first|simp (disch:=omega) only[push_cast,↓zz,seval,hP,hge,h2]|apply Aa|refine sp_ ?_ ?_<;>intro hc<;>push_cast at hc|omega|intro _))
  by_cases hl2:(g.length:Int)<=64
  ·rw[AM hl,A7 hl2,E3,AF,AF] at h2
   have hW:=OX g (domL i) (by omega) (by omega);have hC:=z0w g (by omega);(with_reducible repeat'(first|simp (disch:=omega) only[push_cast,↓zz,seval,hP,hge]|apply Aa|refine sp_ ?_ ?_<;>intro hc<;>push_cast at hc|refine ee hC ?_|refine ee hW ?_|((first|refine cc hC ?_|refine cc hW ?_);(simp(disch:=omega)only[push_cast,↓zz,seval,hP,hge]);(fail_if_success change False))|omega|intro _))
   all_goals first
    |(rw[h2];simp[*];done)
    |exact⟨k+1,by push_cast,⟨by omega,by rw[h2];simp[*]⟩,by omega⟩
  ·rw[AM hl2,AI,Cm,AI] at h2
   (with_reducible repeat'(first|simp (disch:=omega) only[push_cast,↓zz,seval,hP,hge,h2]|apply Aa|refine sp_ ?_ ?_<;>intro hc<;>push_cast at hc|omega|intro _))
 ·rw[Aj hk,List.all_nil] at h2
  refine W_T ?_;(with_reducible repeat'(first|simp (disch:=omega) only[push_cast,↓zz,seval,hP,h2]|apply Aa|refine sp_ ?_ ?_<;>intro hc<;>push_cast at hc|omega|intro _))
  all_goals trace_state
def IR(d:Desc)(s:Int):Bool:=decide (0<=s)&&decide (s<d.states)
theorem JO(d:Desc)(s:Int):PC Tryz.prog 119 [Cu d,.int .i64 s] (.bool (IR d s)):=by
 refine BA UF ?_;unfold MK IR;(with_reducible repeat'(first|simp (disch:=omega) only[push_cast,↓zz,seval]|apply Aa|refine sp_ ?_ ?_<;>intro hc<;>push_cast at hc|omega|intro _))
 all_goals simp only[*,Df,Cl,AF,AI]
def Pi(d:Desc):Bool:=decide (0<((domL d.in_).length:Int))&&(decide (0<((domL d.out).length:Int))&&(decide (1<=d.states)&&(decide (d.states<=1024)&&(IR d d.start&&(decide ((d.rules.length:Int)<=4096)&&decide ((d.finals.length:Int)<=4096))))))
theorem z6l(d:Desc):PC Tryz.prog 117 [Cu d] (.bool (Pi d)):=by
 have h1:=FB d.in_;have h2:=FB d.out;have h3:=JO d d.start;refine BA W0 ?_;unfold O6 Pi;(with_reducible repeat'(first|simp (disch:=omega) only[push_cast,↓zz,seval]|apply Aa|refine sp_ ?_ ?_<;>intro hc<;>push_cast at hc|refine ee h1 ?_|refine ee h2 ?_|refine ee h3 ?_|((first|refine cc h1 ?_|refine cc h2 ?_|refine cc h3 ?_);(simp(disch:=omega)only[push_cast,↓zz,seval]);(fail_if_success change False))|omega|intro _))
 all_goals simp only[*,Df,Cl,AF,AI]
 all_goals trace_state
def EZ(d:Desc)(out:List Term)(gs:List (List Span)):Bool:=decide ((out.length:Int)<=64)&&out.all λt=>Nr t d.in_ d.out gs
theorem Pj(d:Desc)(out:List Term)(gs:List (List Span))(ho:∀t∈out,t.parts.length<1000000000000)(hg:∀g∈gs,g.length<=1000000)(hl:gs.length<=9223372036854775807):
 PC Tryz.prog 121 [Cu d,FU out,Cv gs] (.bool (EZ d out gs)):=by
 have hP:=Bs gs;have hT:=BP out;refine BA Sn ?_;unfold Ls;by_cases h4:64<out.length
 ·rw[EZ,AM (by omega),AI]
  (with_reducible repeat'(first|simp (disch:=omega) only[push_cast,↓zz,seval]|apply Aa|refine sp_ ?_ ?_<;>intro hc<;>push_cast at hc|omega|intro _))
 rw[EZ,A7 (by omega),AF];(with_reducible repeat'(first|simp (disch:=omega) only[push_cast,↓zz,seval]|apply Aa|refine sp_ ?_ ?_<;>intro hc<;>push_cast at hc|omega|intro _))
 refine AQ (AX (λ(k:Nat)=>k<=out.length/\(out.all λt=>Nr t d.in_ d.out gs)=(out.drop k).all λt=>Nr t d.in_ d.out gs) (λk=>out.length-k)
  (λk=>[(2,Cv gs),(3,.ptr 0 1 0 0),(12,FU out),(13,.int .i64 out.length),(14,.int .i64 k)]) (λs=>[⟨6,1,true,[Cu d]⟩]) (λenv _=>[Cf 1 (env 3)]) 0 ⟨by simp,rfl⟩ ?_ ?_)
 ·(with_reducible repeat'(first|simp (disch:=omega) only[push_cast,↓zz,seval,hP,hT]|apply Aa|refine sp_ ?_ ?_<;>intro hc<;>push_cast at hc|omega|intro _))
 rintro k ⟨h1,h2⟩;rcases Ah k out.length with hk|hk
 ·rw[drop_at hk,List.all_cons] at h2
  have hF:=z6k (nth out k) d.in_ d.out gs (ho _ (AL hk)) hg hl;refine W_T ?_;(with_reducible repeat'(first|simp (disch:=omega) only[push_cast,↓zz,seval,hP,hT]|apply Aa|refine sp_ ?_ ?_<;>intro hc<;>push_cast at hc|refine ee hF ?_|(refine cc hF ?_;(simp(disch:=omega)only[push_cast,↓zz,seval,hP,hT]);(fail_if_success change False))|omega|intro _))
  all_goals first
   |(rw[h2];simp[*];done)
   |exact⟨k+1,by push_cast,⟨by omega,by rw[h2];simp[*]⟩,by omega⟩
 ·rw[Aj hk,List.all_nil] at h2
  refine W_T ?_;(with_reducible repeat'(first|simp (disch:=omega) only[push_cast,↓zz,seval,hP,hT,h2]|apply Aa|refine sp_ ?_ ?_<;>intro hc<;>push_cast at hc|omega|intro _))
  all_goals trace_state
def eatB(n e:Int):Bool:=!decide (e<min n 1)&&!decide (n<e)
def Gt(d:Desc)(r:Rule):Bool:=IR d r.from_&&(IR d r.to_&&(Ez d.in_ r.guards&&(eatB r.guards.length r.eat&&EZ d r.out r.guards)))
theorem GP{i:Int}{gs:List (List Span)}(h:Ez i gs=true):gs.length<=4/\∀g∈gs,g.length<=64:=by
 simp only[Ez,Ab,Ad] at h;refine⟨by omega,λg hg=>?_⟩;have:=AJ.1 h.2 g hg;simp only[Jw,Ab,Ad] at this;omega
theorem z6m(d:Desc)(r:Rule)(ho:∀t∈r.out,t.parts.length<1000000000000):PC Tryz.prog 118 [Cu d,z09 r] (.bool (Gt d r)):=by
 have h1:=JO d r.from_;have h2:=JO d r.to_;have h3:=Ph d.in_ r.guards;have hP:=Bs r.guards;have hT:=BP r.out;refine BA W2 ?_;unfold O7 Gt eatB;cases hg:Ez d.in_ r.guards with
 |false =>
  rw[hg] at h3;(with_reducible repeat'(first|simp (disch:=omega) only[push_cast,↓zz,seval,hP,hT]|apply Aa|refine sp_ ?_ ?_<;>intro hc<;>push_cast at hc|refine ee h1 ?_|refine ee h2 ?_|refine ee h3 ?_|((first|refine cc h1 ?_|refine cc h2 ?_|refine cc h3 ?_);(simp(disch:=omega)only[push_cast,↓zz,seval,hP,hT]);(fail_if_success change False))|omega|intro _))
  all_goals simp only[*,Df,Cl,AF,AI,Cm]
 |true =>
  rw[hg] at h3;obtain⟨g1,g2⟩:=GP hg;have h4:=Pj d r.out r.guards ho (λg hg=>by have:=g2 g hg;omega) (by omega);(with_reducible repeat'(first|simp (disch:=omega) only[push_cast,↓zz,seval,hP,hT]|apply Aa|refine sp_ ?_ ?_<;>intro hc<;>push_cast at hc|refine ee h1 ?_|refine ee h2 ?_|refine ee h3 ?_|refine ee h4 ?_|((first|refine cc h1 ?_|refine cc h2 ?_|refine cc h3 ?_|refine cc h4 ?_);(simp(disch:=omega)only[push_cast,↓zz,seval,hP,hT]);(fail_if_success change False))|omega|intro _))
  all_goals simp only[*,Df,Cl,AF,AI,Cm,Dy,E3,Dx]
  all_goals trace_state
abbrev Xb(v:Nat)(l:List Int):Grp:=⟨1,v,l.isEmpty,l.map (AV.int .i64)⟩
def famF(n:Nat)(V:Nat->Nat)(D:Nat->List Int):List Grp:=(List.range n).map λi=>Xb (V i) (D i)
def famT(n:Nat)(V:Nat->Nat)(D:Nat->List Int):List AV:=(List.range n).map λi=>AV.ref (i+3) (V i) 0 (D i).length
def famI(n:Nat)(f:Nat->Int):List AV:=(List.range n).map λi=>AV.int .i64 (f i)
theorem CJ{α:Type}{n i:Nat}{f:Nat->α}{x:α}(h:i<n):((List.range n).map f).set i x=(List.range n).map λj=>if j=i then x else f j:=by
 refine BI (by simp) λj h1 h2=>?_;simp only[El,Bh,CG] at h1;simp only[List.getElem_set,EN,Es];by_cases e:i=j
 ·rw[Ae e,Ae e.symm]
 ·rw[Ac e,Ac λh=>e h.symm]
theorem Cq{α:Type}{n i:Nat}{f:Nat->α}{z:α}(h:i<n):((List.range n).map f).getD i z=f i:=by simp[List.getD,h]
theorem KD{ks:List Nat}{G:Grp}:∀{l:List Grp}{p i:Nat},p+i∈ks->Dg p ks l (l.set i G)
 |[],p,i,h=>trivial
 |a::l,p,0,h=>⟨.inl h,sameBut_refl⟩
 |a::l,p,i+1,h=>⟨.inr rfl,KD (by rwa [show p+1+i=p+(i+1) by omega])⟩
where sameBut_refl {ks:List Nat}:∀{l:List Grp}{p:Nat},Dg p ks l l
 |[],p=>trivial
 |a::l,p=>⟨.inr rfl,sameBut_refl⟩
theorem YQ:∀(l:List Grp)(G G':Grp),setQ (l++[G]) l.length G'=some (l++[G'])
 |[],_,_=>rfl
 |a::l,G,G'=>by rw[List.cons_append,List.length_cons,setQ,YQ l G G'];rfl
theorem YR:∀(l:List Grp)(G G':Grp){i:Nat},i<l.length->setQ (l++[G]) i G'=some (l.set i G'++[G])
 |[],_,_,i,h=>by simp at h
 |a::l,G,G',0,h=>rfl
 |a::l,G,G',i+1,h=>by rw[List.cons_append,setQ,YR l G G' (by simpa using h)];rfl
def setV(V:Nat->Nat)(i v:Nat)(j:Nat):Nat:=if j=i then v else V j
structure zob(d:Desc):Prop where
 st:1<=d.states/\d.states<=1024
 len:d.rules.length<=4096
 rul:∀r∈d.rules,(0<=r.from_/\r.from_<d.states)/\0<=r.to_/\r.to_<d.states
def Pk(d:Desc)(k:Nat):Env:=EI [(1,.ptr 0 1 0 0),(3,.ref 1 1 0 d.states.toNat),(4,.ref 2 1 0 d.states.toNat),(21,FV d.rules),(22,.int .i64 d.rules.length),(23,.int .i64 k)]
def E0(d:Desc)(k:Nat)(V:Nat->Nat):Ax:=Abs.hl (⟨6,1,true,[Cu d]⟩::⟨1,1,true,famT d.states.toNat V (toD (d.rules.take k))⟩::⟨1,1,true,famI d.states.toNat (inD (d.rules.take k))⟩::famF d.states.toNat V (toD (d.rules.take k)))
def cycL(d:Desc)(k:Nat)(V:Nat->Nat):List Grp:=⟨6,1,true,[Cu d]⟩::⟨1,1,true,famT d.states.toNat V (toD (d.rules.take k))⟩::⟨1,1,true,famI d.states.toNat (inD (d.rules.take k))⟩::famF d.states.toNat V (toD (d.rules.take k))
theorem Rc(d:Desc)(k:Nat)(V:Nat->Nat):E0 d k V=Abs.hl (cycL d k V):=rfl
theorem Tf(d:Desc)(k:Nat)(V:Nat->Nat):(cycL d k V).length=d.states.toNat+3:=by simp[cycL,famF]
theorem Gp(d:Desc):(Cu d).pure=true:=by simp[Cu,AV.pure,A6,BF,B9]
theorem Xc(d:Desc)(k:Nat)(V:Nat->Nat):∀G∈cycL d k V,ltL (cycL d k V).length G.xs:=λG hG=>by
 rw[Tf];simp only[cycL,Ai] at hG;rcases hG with rfl|rfl|rfl|hG
 ·exact C0 _ _ (by simp[A6,Gp])
 ·have key:∀(l:List Nat),(∀i∈l,i<d.states.toNat)->ltL (d.states.toNat+3) (l.map λi=>AV.ref (i+3) (V i) 0 (toD (d.rules.take k) i).length):=λl=>by
   induction l with
   |nil=>exact λ_=>trivial
   |cons i l ih =>
    intro h;exact⟨by have:=h i (by simp);show i+3<_;omega,ih λj hj=>h j (by simp[hj])⟩
  exact key _ λi hi=>by simpa using hi
 ·exact C0 _ _ (BQ.2 λx hx=>by
   obtain⟨i,_,rfl⟩:=Ar.1 hx
   rfl)
 ·obtain⟨i,_,rfl⟩:=Ar.1 hG
  exact C0 _ _ (AE .i64 _)
theorem z6n{d:Desc}{k:Nat}{V:Nat->Nat}{env:Env}{l gar:List Grp}(hn:1<=d.states)(hl':l=cycL d k V++gar)
 (h1:env 1=.ptr 0 1 0 0) (h3:env 3=.ref 1 1 0 d.states.toNat) (h4:env 4=.ref 2 1 0 d.states.toNat) (h21:env 21=FV d.rules) (h22:env 22=.int .i64 d.rules.length) (h23:env 23=.int .i64 k) :
 Ent 105 0 env (Abs.hl l) (Pk d k) (E0 d k V):=by
 rw[hl',Rc];refine (N1 [(1,.ptr 0 1 0 0),(3,.ref 1 1 0 d.states.toNat),(4,.ref 2 1 0 d.states.toNat),(21,FV d.rules),(22,.int .i64 d.rules.length),(23,.int .i64 k)] (λp hp=>?_)).trans (Om (by omega) (Xc d k V) λi _=>?_)
 ·simp only[Ai,As,AH] at hp
  rcases hp with rfl|rfl|rfl|rfl|rfl|rfl<;>assumption
 ·rw[Tf]
  have hr:ltV (d.states.toNat+3) (FV d.rules):=CE _ _ (by simp[FV,AV.pure,BF]);simp only[EI]
  repeat' split
  all_goals first
   |exact hr
   |trivial
   |(show _<_;omega)
theorem zcx{n i:Nat}{V:Nat->Nat}{D:Nat->List Int}{x:Int}(h:i<n):(famT n V D).set i (.ref (i+3) (V i+1) 0 ((D i).length+1))=famT n (setV V i (V i+1)) λp=>if p=i then D i++[x] else D p:=by
 rw[famT,CJ h,famT];refine AD λj _=>?_;by_cases e:j=i
 ·subst e;simp[setV]
 ·simp[setV,e]
theorem zcy{n i:Nat}{V:Nat->Nat}{D:Nat->List Int}{x:Int}(h:i<n):(famF n V D).set i ⟨1,V i+1,false,(D i).map (AV.int .i64)++[.int .i64 x]⟩=famF n (setV V i (V i+1)) λp=>if p=i then D i++[x] else D p:=by
 rw[famF,CJ h,famF];refine AD λj _=>?_;by_cases e:j=i
 ·subst e;simp[setV,Xb]
 ·simp[setV,e]
theorem YS{n j:Nat}{f:Nat->Int}{x:Int}(h:j<n):(famI n f).set j (.int .i64 x)=famI n λp=>if p=j then x else f p:=by
 rw[famI,CJ h,famI];refine AD λp _=>?_;by_cases e:p=j
 ·subst e;simp
 ·simp[e]
theorem zcz{l:List Rule}{k i:Nat}(hk:k<l.length)(hi:(nth l k).from_=i)(he:Dr (nth l k)=true):toD (l.take (k+1))=λp=>if p=i then toD (l.take k) i++[(nth l k).to_] else toD (l.take k) p:=by
 funext p;rw[take_at hk];simp only[toD,Cg,Az,Ci,List.filter_nil,he,AF,hi,Ad];by_cases e:p=i
 ·subst e;simp
 ·rw[Ac (by omega),Ac e];simp
theorem zd0{l:List Rule}{k j:Nat}(hk:k<l.length)(hj:(nth l k).to_=j)(he:Dr (nth l k)=true):inD (l.take (k+1))=λp=>if p=j then inD (l.take k) j+1 else inD (l.take k) p:=by
 funext p;rw[take_at hk];simp only[inD,Cg,An,Ci,List.filter_nil,he,AF,hj,Ad];by_cases e:p=j
 ·subst e;simp
 ·rw[Ac (by omega),Ac e];simp
theorem zd1{l:List Rule}{k:Nat}(hk:k<l.length)(he:Dr (nth l k)=false):toD (l.take (k+1))=toD (l.take k)/\inD (l.take (k+1))=inD (l.take k):=by
 rw[take_at hk];refine⟨?_,?_⟩<;>funext p<;>simp[toD,inD,he]
theorem z6o(l:List Rule)(j:Nat):0<=inD l j/\inD l j<=l.length:=by
 have:=Bz (λr=>Dr r&&decide (r.to_=j)) l;simp only[inD];omega
theorem zfk(l:List Rule)(j:Nat):(toD l j).length<=l.length:=by
 have:=Bz (λr=>Dr r&&decide (r.from_=j)) l;simp only[toD,Bh];omega
theorem KE(l0:List Grp):∀l:List Grp,HV l0 l l
 |[]=>trivial
 |G::l=>⟨⟨rfl,rfl,id,Bc _ _⟩,KE l0 l⟩
theorem zd2(n:Nat):famF n (λ_=>1) (toD [])=(List.replicate n 1).map IT:=by
 rw[Du];refine BI (by simp[famF]) λi h1 h2=>?_;simp only[famF,EN,Es,List.getElem_replicate];rfl
theorem zd3(n:Nat):famI n (inD [])=List.replicate n (.int .i64 0):=by
 refine BI (by simp[famI]) λi h1 h2=>?_;simp[famI,inD]
theorem z6p{l:List Grp}{n:Nat}(h:∀i,i<n->l.getD (i+3) default=IT 1/\i+3<l.length):leSL l (List.replicate n .nilS) (famT n (λ_=>1) (toD [])):=by
 have key:∀idx:List Nat,(∀i∈idx,i<n)->leSL l (List.replicate idx.length .nilS) (idx.map λi=>AV.ref (i+3) 1 0 (toD [] i).length):=λidx=>by
  induction idx with
  |nil=>exact λ_=>rfl
  |cons i idx ih =>
   intro hi;obtain⟨h1,h2⟩:=h i (hi i (by simp));refine⟨?_,ih λj hj=>hi j (by simp[hj])⟩;show 0=0/\(toD [] i).length=0/\(l.getD (i+3) default).ver=1/\0<(l.getD (i+3) default).w/\(l.getD (i+3) default).xs=[]/\(l.getD (i+3) default).exact=true/\i+3<l.length;rw[h1];exact⟨rfl,rfl,rfl,by decide,rfl,rfl,h2⟩
 have:=key (List.range n) λi hi=>by simpa using hi
 rwa [CG] at this
theorem z6q{d:Desc}{env:Env}(h1:env 1=.ptr 0 1 0 0)(h3:env 3=.ref 1 1 0 d.states.toNat)(h4:env 4=.ref 2 1 0 d.states.toNat)(h21:env 21=FV d.rules)(h22:env 22=.int .i64 d.rules.length)(h23:env 23=.int .i64 0):
 Ent 105 0 env (Abs.hl [⟨6,1,true,[Cu d]⟩,⟨1,1,true,List.replicate d.states.toNat .nilS⟩,⟨1,1,true,List.replicate d.states.toNat (.int .i64 0)⟩]) (Pk d 0) (E0 d 0 λ_=>1):=by
 refine (N1 [(1,.ptr 0 1 0 0),(3,.ref 1 1 0 d.states.toNat),(4,.ref 2 1 0 d.states.toNat),(21,FV d.rules),(22,.int .i64 d.rules.length),(23,.int .i64 0)] (λp hp=>?_)).trans
  ((Y4 (List.replicate d.states.toNat 1) (λw hw=>by have:=(List.mem_replicate.1 hw).2;omega)).trans (z5c ?_ λi _=>CS _ _))
 ·simp only[Ai,As,AH] at hp
  rcases hp with rfl|rfl|rfl|rfl|rfl|rfl<;>assumption
 ·rw[List.take_zero,zd2,zd3]
  refine⟨⟨rfl,rfl,id,Bc _ _⟩,⟨rfl,rfl,id,z6p λi hi=>?_⟩,⟨rfl,rfl,id,Bc _ _⟩,KE _ _⟩;refine⟨?_,by simp;omega⟩;rw[Du];simp[List.getD,hi]
def z6r(n:Nat)(D:Nat->List Int):AV:=.lst 1 ((List.range n).map λi=>G3 (D i))
theorem Vv{n b:Nat}{env:Env}{H H':Ax}(hn:H'.n=H.n)(h:∀g,g<H.n->H'.at_ g=H.at_ g):Ent n b env H env H':=λS val hb hS hv=>⟨S,rfl,.refl hb,hS.congr hn h,hv⟩
def LJ(n:Nat):List Nat:=1::(List.range n).map (·+3)
theorem Vw{n i:Nat}(h:i<n):i+3∈LJ n:=Ai.2 (.inr (Ar.2 ⟨i,Bf.2 h,rfl⟩))
theorem zfl(d:Desc)(k:Nat)(V:Nat->Nat){i:Nat}(hi:i<d.states.toNat):(E0 d k V).at_ (i+3)=Xb (V i) (toD (d.rules.take k) i):=by
 rw[E0,DL];simp only[Eh];exact Cq hi
theorem zjx(d:Desc)(k:Nat)(V:Nat->Nat):Dv 2 ((E0 d k V).only (LJ d.states.toNat)) (.ref 1 1 0 d.states.toNat)/\frzV 2 ((E0 d k V).only (LJ d.states.toNat)) (.ref 1 1 0 d.states.toNat)=z6r d.states.toNat (toD (d.rules.take k)):=by
 have hat1:((E0 d k V).only (LJ d.states.toNat)).at_ 1=⟨1,1,true,famT d.states.toNat V (toD (d.rules.take k))⟩:=by
  show (if 1∈LJ d.states.toNat then (E0 d k V).at_ 1 else ((E0 d k V).at_ 1).dead)=_;rw[Ae (by simp[LJ])];rfl
 have hat:∀i,i<d.states.toNat->((E0 d k V).only (LJ d.states.toNat)).at_ (i+3)=Xb (V i) (toD (d.rules.take k) i):=λi hi=>by
  show (if i+3∈LJ d.states.toNat then (E0 d k V).at_ (i+3) else ((E0 d k V).at_ (i+3)).dead)=_;rw[Ae (Vw hi)];exact zfl d k V hi
 have htl:(((famT d.states.toNat V (toD (d.rules.take k))).drop 0).take d.states.toNat)=famT d.states.toNat V (toD (d.rules.take k)):=by
  rw[Cd];exact Al (by simp[famT])
 constructor
 ·refine⟨by rw[hat1],by rw[hat1];exact Nat.one_pos,by rw[hat1];simp[famT],λy hy=>?_⟩
  rw[hat1,htl] at hy;obtain⟨i,hi,rfl⟩:=Ar.1 hy;have hi':i<d.states.toNat:=by simpa using hi
  refine⟨by rw[hat i hi'],by rw[hat i hi'];exact Nat.one_pos,by rw[hat i hi'];simp,λz hz=>?_⟩;rw[hat i hi'] at hz;obtain⟨u,_,rfl⟩:=Ar.1 (BJ (By hz));rfl
 ·show AV.lst _ _=_
  rw[hat1,htl,z6r,famT,Do];congr 1;refine AD λi hi=>?_;have hi':i<d.states.toNat:=by simpa using hi
  show AV.lst _ _=_;rw[hat i hi']
  have e:(((Xb (V i) (toD (d.rules.take k) i)).xs.drop 0).take (toD (d.rules.take k) i).length).map (frzV 0 ((E0 d k V).only (LJ d.states.toNat)))=(toD (d.rules.take k) i).map (AV.int .i64):=by
   rw[Cd,Al (by simp[Xb])];refine (AD λx hx=>?_).trans (List.map_id _);obtain⟨u,_,rfl⟩:=Ar.1 hx;rfl
  rw[e]
def JP(d:Desc)(k:Nat):List (Nat × AV):=[(1,.ptr 0 1 0 0),(3,z6r d.states.toNat (toD (d.rules.take k))),(4,.ref 2 1 0 d.states.toNat),(7,.nilS),(52,.ref 2 1 0 d.states.toNat),(53,.int .i64 d.states.toNat),(54,.int .i64 0)]
theorem z0x{d:Desc}{k:Nat}{V:Nat->Nat}{env:Env}(h1:env 1=.ptr 0 1 0 0)(h3:env 3=.ref 1 1 0 d.states.toNat)(h4:env 4=.ref 2 1 0 d.states.toNat)(h7:env 7=.nilS)(h52:env 52=.ref 2 1 0 d.states.toNat)(h53:env 53=.int .i64 d.states.toNat)(h54:env 54=.int .i64 0):
 Ent 105 0 env (E0 d k V) (EI (JP d k)) (Abs.hl [⟨6,1,true,[Cu d]⟩,⟨0,2,false,[]⟩,⟨1,1,true,famI d.states.toNat (inD (d.rules.take k))⟩]):=by
 obtain⟨f1,f2⟩:=zjx d k V;rw[<-h3] at f1 f2;refine (z5d 3 2 (LJ d.states.toNat) f1).trans ((N1 (JP d k) λp hp=>?_).trans ((Vv (H':=Abs.hl ([⟨6,1,true,[Cu d]⟩,⟨0,2,false,[]⟩,⟨1,1,true,famI d.states.toNat (inD (d.rules.take k))⟩]++(famF d.states.toNat V (toD (d.rules.take k))).map Grp.dead)) ?_ ?_).trans (Om (by omega) ?_ ?_)))
 ·rw[f2]
  simp only[JP,Ai,As,AH] at hp;rcases hp with rfl|rfl|rfl|rfl|rfl|rfl|rfl<;>first|rfl|assumption
 ·simp[E0,Ax.kill,Abs.hl]
 ·intro g hg
  show _=if g∈LJ d.states.toNat then ((E0 d k V).at_ g).dead else (E0 d k V).at_ g
  have hlen:(E0 d k V).n=d.states.toNat+3:=Tf d k V;have hg':g<d.states.toNat+3:=by rw[<-hlen];exact hg
  match g,hg' with
  |0,_=>rw[Ac (by simp[LJ])];rfl
  |1,_=>rw[Ae (by simp[LJ])];rfl
  |2,_=>rw[Ac (by simp[LJ])];rfl
  |i+3,hi =>
   have hi':i<d.states.toNat:=by omega
   rw[Ae (Vw hi'),zfl d k V hi',DL];simp only[List.cons_append,List.nil_append,Eh,famF,Do];exact Cq hi'
 ·intro G hG
  simp only[Ai,As,AH] at hG;rcases hG with rfl|rfl|rfl
  ·exact C0 _ _ (by simp[A6,Gp])
  ·trivial
  ·exact C0 _ _ (BQ.2 λx hx=>by
    obtain⟨i,_,rfl⟩:=Ar.1 hx
    rfl)
 ·intro i _
  have hd:ltV 3 (z6r d.states.toNat (toD (d.rules.take k))):=trivial;simp only[EI,JP]
  repeat' split
  all_goals first
   |exact hd
   |trivial
   |(show _<_;simp)
theorem z0y(d:Desc)(hd:zob d):PC Tryz.prog 122 [Cu d] (.bool (@decide (cycP d.rules d.states.toNat) (Classical.propDecidable _))):=by
 obtain⟨⟨hn1,hn2⟩,hlen,hrul⟩:=hd;have hP:=BF d.rules;refine BA UG ?_;unfold ML;(with_reducible repeat'(first|simp (disch:=omega) only[push_cast,↓zz,seval]|apply Aa|refine sp_ ?_ ?_<;>intro hc<;>push_cast at hc|omega|intro _));refine AQ (K5 (λ(s:Nat × (Nat->Nat))=>s.1<=d.rules.length) (λs=>d.rules.length-s.1) (λs=>Pk d s.1) (λs=>E0 d s.1 s.2) (0,λ_=>1) (by simp) ?_ ?_)
 ·exact z6q rfl rfl rfl rfl rfl rfl
 rintro⟨k,V⟩ hk;simp only at hk ⊢;rcases Ah k d.rules.length with hkl|hkl
 ·have hr:=hrul _ (AL hkl)
  generalize hre:nth d.rules k=r at *;have hgr:=Bs r.guards;have hot:=BP r.out;obtain⟨n,hn⟩:∃n:Nat,d.states=n:=⟨d.states.toNat,by omega⟩;obtain⟨i,hi⟩:∃i:Nat,r.from_=i:=⟨r.from_.toNat,by omega⟩;obtain⟨j,hj⟩:∃j:Nat,r.to_=j:=⟨r.to_.toNat,by omega⟩;have hin:i<n:=by omega
  have hjn:j<n:=by omega
  have hni:¬n=i:=by omega
  have ee:Pk d k=EI [(1,.ptr 0 1 0 0),(3,.ref 1 1 0 n),(4,.ref 2 1 0 n),(21,FV d.rules),(22,.int .i64 d.rules.length),(23,.int .i64 k)]:=by simp only[Pk,hn,Int.toNat_natCast]
  have eh:E0 d k V=Abs.hl (⟨6,1,true,[Cu d]⟩::⟨1,1,true,famT n V (toD (d.rules.take k))⟩::⟨1,1,true,famI n (inD (d.rules.take k))⟩::famF n V (toD (d.rules.take k))):=by simp only[E0,hn,Int.toNat_natCast]
  rw[ee,eh];clear ee eh;have hFl:(famF n V (toD (d.rules.take k))).length=n:=by simp[famF]
  have hTl:(famT n V (toD (d.rules.take k))).length=n:=by simp[famT]
  have hIl:(famI n (inD (d.rules.take k))).length=n:=by simp[famI]
  have gI:∀G,(famF n V (toD (d.rules.take k))++[G]).getD i default=Xb (V i) (toD (d.rules.take k) i):=λG=>by
   rw[Ap,A8 (by omega),<-Ap];exact Cq hin
  have gR:∀G,(famF n V (toD (d.rules.take k))++[G]).getD n default=G:=λG=>by
   rw[Ap,AB (by omega)];simp[hFl]
  have tI:(famT n V (toD (d.rules.take k))).getD i .any=.ref (i+3) (V i) 0 (toD (d.rules.take k) i).length:=Cq hin;have iJ:(famI n (inD (d.rules.take k))).getD j .any=.int .i64 (inD (d.rules.take k) j):=Cq hjn
  have sR:∀G G',setQ (famF n V (toD (d.rules.take k))++[G]) n G'=some (famF n V (toD (d.rules.take k))++[G']):=λG G'=>by
   have:=YQ (famF n V (toD (d.rules.take k))) G G'
   rwa [hFl] at this
  have sI:∀G G',setQ (famF n V (toD (d.rules.take k))++[G]) i G'=some ((famF n V (toD (d.rules.take k))).set i G'++[G]):=λG G'=>YR _ _ _ (by omega)
  have gR2:∀G G',((famF n V (toD (d.rules.take k))).set i G'++[G]).getD n default=G:=λG G'=>by
   rw[Ap,AB (by simp[hFl])];simp[hFl]
  have hSB:∀R G,Dg 3 [i+3] (famF n V (toD (d.rules.take k))++[R]) ((famF n V (toD (d.rules.take k))).set i G++[R]):=λR G=>by
   rw[<-ES _ _ (by omega)];exact KD (by simp;omega)
  generalize hF:famF n V (toD (d.rules.take k))=F at *;generalize hT:famT n V (toD (d.rules.take k))=TT at *;generalize hI:famI n (inD (d.rules.take k))=II at *;generalize hD:toD (d.rules.take k) i=Di at *;generalize hJ:inD (d.rules.take k) j=Ij at *;refine W_T ?_;have hEx:(!Di.isEmpty||(Di.map (AV.int .i64)).isEmpty)=true:=by cases Di<;>rfl
  have hDl:Di.length<=4096:=by rw[<-hD];have:=zfk (d.rules.take k) i;simp at this;omega
  have hJb:0<=Ij/\Ij<=4096:=by rw[<-hJ];have:=z6o (d.rules.take k) j;simp at this;omega
  (with_reducible repeat'(first|simp (disch:=omega) only[push_cast,↓zz,seval,hP,hre,hi,hj,hFl,hTl,hIl,gI,gR,gR2,sR,sI,tI,iJ,List.cons_append,An,List.length_cons]|apply Aa|refine sp_ ?_ ?_<;>intro hc<;>push_cast at hc|omega|intro _))
  ·refine Jd [i+3] ?_
   (with_reducible repeat'(first|simp (disch:=omega) only[push_cast,↓zz,seval,xx,Ai,As,AH,Cp,Dl,B4,D5,D4,hP,hre,hi,hj,hFl,hTl,hIl,gI,gR,gR2,sR,sI,tI,iJ,List.cons_append,An,List.length_cons,hni,hEx]|apply Aa|refine sp_ ?_ ?_<;>intro hc<;>push_cast at hc|omega|intro _))
   ·exact hSB _ _
   have he:Dr (nth d.rules k)=true:=by rw[hre,Dr];simpa using ‹(r.guards.length:Int)=0›
   have e1:=zcz (i:=i) hkl (by rw[hre];exact hi) he;have e2:=zd0 (j:=j) hkl (by rw[hre];exact hj) he;refine⟨(k+1,setV V i (V i+1)),z6n (gar:=[⟨5,1,true,[.agg [.int .i64 i,.int .i64 j,Cv r.guards,.int .i64 r.eat,FU r.out]]⟩]) hn1 ?_ ?_ ?_ ?_ ?_ ?_ ?_,by simp only;omega,by simp only;omega⟩
   ·rw[cycL,e1,e2,hn,Int.toNat_natCast,<-hF,<-hT,<-hI,<-hD,<-hJ,hre,hj,zcx hin,YS hjn,zcy hin]
    rfl
   all_goals first|rfl|(rw[hn];rfl)
  ·have he:Dr (nth d.rules k)=false:=by rw[hre,Dr];simpa using ‹¬(r.guards.length:Int)=0›
   obtain⟨e1,e2⟩:=zd1 hkl he;refine⟨(k+1,V),z6n (gar:=[⟨5,1,true,[.agg [.int .i64 i,.int .i64 j,Cv r.guards,.int .i64 r.eat,FU r.out]]⟩]) hn1 ?_ ?_ ?_ ?_ ?_ ?_ ?_,by simp only;omega,by simp only;omega⟩
   ·rw[cycL,e1,e2,hn,Int.toNat_natCast,hF,hT,hI]
    rfl
   all_goals first|rfl|(rw[hn];rfl)
 ·obtain rfl:k=d.rules.length:=by omega
  obtain⟨n,hn⟩:∃n:Nat,d.states=n:=⟨d.states.toNat,by omega⟩;have ee:Pk d d.rules.length=EI [(1,.ptr 0 1 0 0),(3,.ref 1 1 0 n),(4,.ref 2 1 0 n),(21,FV d.rules),(22,.int .i64 d.rules.length),(23,.int .i64 d.rules.length)]:=by simp only[Pk,hn,Int.toNat_natCast]
  refine W_T ?_;rw[ee,Rc];(with_reducible repeat'(first|simp (disch:=omega) only[push_cast,↓zz,seval,hP]|apply Aa|refine sp_ ?_ ?_<;>intro hc<;>push_cast at hc|omega|intro _));refine zje (z0x rfl (by rw[hn];rfl) (by rw[hn];rfl) rfl (by rw[hn];rfl) (by rw[hn];rfl) rfl) ?_
  have el:JP d d.rules.length=[(1,.ptr 0 1 0 0),(3,.lst 1 ((List.range n).map λi=>G3 (toD d.rules i))),(4,.ref 2 1 0 n),(7,.nilS),(52,.ref 2 1 0 n),(53,.int .i64 n),(54,.int .i64 0)]:=by
   simp only[JP,hn,Int.toNat_natCast,A3,z6r]
  rw[el,hn,Int.toNat_natCast,A3];clear el ee
  have pL:A6 ((List.range n).map λi=>G3 (toD d.rules i))=true:=BQ.2 λx hx=>by
   obtain⟨i,_,rfl⟩:=Ar.1 hx;exact AE .i64 _
  have lL:((List.range n).map λi=>G3 (toD d.rules i)).length=n:=by simp
  have aL:∀i,i<n->((List.range n).map λi=>G3 (toD d.rules i)).getD i .any=G3 (toD d.rules i):=λi hi=>Cq hi;have aL2:∀i,i<n->((List.range n).map λi=>G3 (toD d.rules i))[i]? = some (G3 (toD d.rules i)):=λi hi=>by simp[hi]
  generalize hLe:(List.range n).map (λi=>G3 (toD d.rules i))=L at *
  have pI:∀f,A6 (famI n f)=true:=λf=>BQ.2 λx hx=>by
   obtain⟨i,_,rfl⟩:=Ar.1 hx;rfl
  have lI:∀f,(famI n f).length=n:=λf=>by simp[famI]
  have aI:∀f i,i<n->(famI n f).getD i .any=.int .i64 (f i):=λf i hi=>Cq hi;have hnn:(n:Int)<=1024:=by omega
  refine AQ (AX (λ(k:Nat)=>k<=n) (λk=>n-k)
   (λk=>[(1,.ptr 0 1 0 0),(3,.lst 1 L),(4,.ref 1 1 0 n),(7,.ref 2 1 0 (KB (inD d.rules) k).length),(52,.ref 1 1 0 n),(53,.int .i64 n),(54,.int .i64 k)]) (λk=>[⟨6,1,true,[Cu d]⟩,⟨1,1,true,famI n (inD d.rules)⟩,⟨1,1,false,(KB (inD d.rules) k).map (AV.int .i64)⟩]) (λenv _=>[Cf 1 (env 1),Cf 1 (env 4),Cf 1 (env 7)]) 0 (by simp) ?_ ?_)
  ·have z0:KB (inD d.rules) 0=[]:=rfl
   (with_reducible repeat'(first|simp (disch:=omega) only[push_cast,↓zz,seval,pL,lL,pI,lI,z0]|apply Aa|refine sp_ ?_ ?_<;>intro hc<;>push_cast at hc|omega|intro _))
  intro k hk;have zl:=z5u (inD d.rules) k;rcases Ah k n with hkn|hkn
  ·have aK:=aI (inD d.rules) k hkn
   have zs:=z0h (inD d.rules) k;have hib:=z6o d.rules k;generalize inD d.rules k=v at *;refine W_T ?_;(with_reducible repeat'(first|simp (disch:=omega) only[push_cast,↓zz,seval,pL,lL,pI,lI,aK]|apply Aa|refine sp_ ?_ ?_<;>intro hc<;>push_cast at hc|omega|intro _))
   ·rw[Ae (by assumption)] at zs
    refine⟨k+1,?_⟩;(with_reducible repeat'(first|simp (disch:=omega) only[push_cast,↓zz,seval,zs]|apply Aa|refine sp_ ?_ ?_<;>intro hc<;>push_cast at hc|omega|intro _))
   ·rw[Ac (by assumption)] at zs
    refine⟨k+1,?_⟩;(with_reducible repeat'(first|simp (disch:=omega) only[push_cast,↓zz,seval,zs]|apply Aa|refine sp_ ?_ ?_<;>intro hc<;>push_cast at hc|omega|intro _))
  ·have hkn2:n=k:=by omega
   subst hkn2;refine W_T ?_;(with_reducible repeat'(first|simp (disch:=omega) only[push_cast,↓zz,seval,pL,lL,pI,lI]|apply Aa|refine sp_ ?_ ?_<;>intro hc<;>push_cast at hc|omega|intro _))
   have hto:∀s m,m<(toD d.rules s).length->0<=nth (toD d.rules s) m/\nth (toD d.rules s) m<n:=λs m hm=>by
    have hm2:nth (toD d.rules s) m∈toD d.rules s:=AL hm;generalize nth (toD d.rules s) m=x at *;obtain⟨r,hr,rfl⟩:=Ar.1 hm2;have:=hrul r (AW.1 hr).1;omega
   refine AQ (AX (λ(s:List Int × List Int × List Int)=>KInv d.rules n (s.1++s.2.1) (cntE d.rules s.1)) (λs=>n-s.1.length)
    (λs=>[(1,.ptr 0 1 0 0),(3,.lst 1 L),(4,.ref 1 1 0 n),(7,.ref 2 1 s.2.2.length s.2.1.length),(10,.int .i64 s.1.length)]) (λs=>[⟨6,1,true,[Cu d]⟩,⟨1,1,true,famI n (cntE d.rules s.1)⟩,⟨1,1,false,(s.2.2++s.2.1).map (AV.int .i64)⟩]) (λenv _=>[Cf 1 (env 1),Cf 1 (env 4),Cf 1 (env 7)]) ([],KB (inD d.rules) n,[]) (z0i d.rules n) ?_ ?_)
   ·have e0:cntE d.rules []=inD d.rules:=funext λj=>SJ _ _
    (with_reducible repeat'(first|simp (disch:=omega) only[push_cast,↓zz,seval,pL,lL,pI,lI,e0]|apply Aa|refine sp_ ?_ ?_<;>intro hc<;>push_cast at hc|omega|intro _))
   rintro⟨P,td,junk⟩ hK;simp only at hK;have hlen2:=hK.len;rw[An] at hlen2;rcases td with _|⟨x,rest⟩
   ·rw[A5] at hK
    have hdone:=z5x (λr hr=>by have:=hrul r hr;omega) hK;refine W_T ?_;(with_reducible repeat'(first|simp (disch:=omega) only[push_cast,↓zz,seval,pL,lL,pI,lI]|apply Aa|refine sp_ ?_ ?_<;>intro hc<;>push_cast at hc|omega|intro _))
    all_goals exact BC.2 (by rw[<-hdone];omega)
   ·have hx:=hK.range x (by simp)
    obtain⟨s,rfl⟩:∃s:Nat,x=s:=⟨x.toNat,by omega⟩;have hsn:s<n:=by omega
    have hsP:(s:Int)∉P:=λhh=>by
     exact (CH.1 hK.nodup).2.2 (s:Int) hh (s:Int) (by simp) rfl
    have aS:=aL s hsn;have aS2:=aL2 s hsn;have j0:(junk.map (AV.int .i64)++AV.int .i64 (s:Int)::rest.map (AV.int .i64)).getD junk.length .any=.int .i64 s:=by simp[List.getD]
    have j1:nth (junk++(s:Int)::rest) junk.length=s:=by simp[nth]
    have hjl:(junk++(s:Int)::rest).length=junk.length+(rest.length+1):=by simp
    simp only[List.length_cons] at hlen2;refine W_T ?_;(with_reducible repeat'(first|simp (disch:=omega) only[push_cast,↓zz,seval,pL,lL,pI,lI,aS,aS2,j0,j1,hjl,List.length_cons]|apply Aa|refine sp_ ?_ ?_<;>intro hc<;>push_cast at hc|omega|intro _))
    have hK0:KInv d.rules n (P++[(s:Int)]++rest) (Gs d.rules P s 0):=by
     rw[QK,Av];exact hK
    have hDb:=zfk d.rules s
    refine AQ (AX (λ(q:Nat × List Int × List Int)=>q.1<=(toD d.rules s).length/\KInv d.rules n (P++[(s:Int)]++q.2.1) (Gs d.rules P s q.1)) (λq=>(toD d.rules s).length-q.1)
     (λq=>[(1,.ptr 0 1 0 0),(3,.lst 1 L),(4,.ref 1 1 0 n),(7,.ref 2 1 q.2.2.length q.2.1.length),(10,.int .i64 P.length),(79,G3 (toD d.rules s)),(80,.int .i64 (toD d.rules s).length),(81,.int .i64 q.1)]) (λq=>[⟨6,1,true,[Cu d]⟩,⟨1,1,true,famI n (Gs d.rules P s q.1)⟩,⟨1,1,false,(q.2.2++q.2.1).map (AV.int .i64)⟩]) (λenv _=>[Cf 1 (env 1),Cf 1 (env 4),Cf 1 (env 7)]) (0,rest,junk++[(s:Int)]) ⟨by simp,hK0⟩ ?_ ?_)
    ·have e0:=QK d.rules P s
     (with_reducible repeat'(first|simp (disch:=omega) only[push_cast,↓zz,seval,pL,lL,pI,lI,e0,Az,Av,Bj,Bt,List.cons_append,List.nil_append,An,List.length_cons,List.length_nil]|apply Aa|refine sp_ ?_ ?_<;>intro hc<;>push_cast at hc|omega|intro _))
    rintro⟨m,td,jk⟩ ⟨m1,m2⟩;simp only at m1 m2;have hlen3:=m2.len;simp only[An,List.length_cons,List.length_nil] at hlen3;rcases Ah m (toD d.rules s).length with hm|hm
    ·obtain⟨t1,t2⟩:=hto s m hm
     obtain⟨t,ht⟩:∃t:Nat,nth (toD d.rules s) m=t:=⟨(nth (toD d.rules s) m).toNat,by omega⟩;have htn:t<n:=by omega
     have hst:=z5w hsP hm ht htn m2;have hle:=Mr (P:=P) hm ht;have hps:=Ve hsP hm ht;have aT:=aI (Gs d.rules P s m) t htn;have aT2:=aI (Gs d.rules P s (m+1)) t htn;have hv:Gs d.rules P s (m+1) t=Gs d.rules P s m t-1:=by rw[hle];simp
     have hset:(famI n (Gs d.rules P s m)).set t (.int .i64 (Gs d.rules P s m t-1))=famI n (Gs d.rules P s (m+1)):=by rw[hle];exact YS htn
     have hlb:Gs d.rules P s m t<=4096:=by
      have c1:cntE d.rules P t<=inD d.rules t:=by
       rw[<-SJ];exact zjn _ _ _
      have c2:=z6o d.rules t;have c3:Gs d.rules P s m t<=cntE d.rules P t:=by simp only[Gs];omega
      omega
     rw[hv] at aT2;generalize Gs d.rules P s m t=v at *;refine W_T ?_
     have eD:List.drop jk.length (jk.map (AV.int .i64)++td.map (AV.int .i64))=td.map (AV.int .i64):=by
      rw[Dc (by simp),Ev (by simp),List.nil_append]
     (with_reducible repeat'(first|simp (disch:=omega) only[push_cast,↓zz,seval,pL,lL,pI,lI,ht,aT,aT2,hset,eD]|apply Aa|refine sp_ ?_ ?_<;>intro hc<;>push_cast at hc|omega|intro _))
     ·rw[Ae (by assumption)] at hst
      refine⟨(m+1,td++[(t:Int)],jk),?_⟩;(with_reducible repeat'(first|simp (disch:=omega) only[push_cast,↓zz,seval,Az,Av,Bj,Bt,An,List.length_cons,List.length_nil]|apply Aa|refine sp_ ?_ ?_<;>intro hc<;>push_cast at hc|omega|intro _));simpa [Av] using hst
     ·rw[Ae (by assumption)] at hst
      refine⟨(m+1,td++[(t:Int)],[]),?_⟩;(with_reducible repeat'(first|simp (disch:=omega) only[push_cast,↓zz,seval,Az,Av,Bj,Bt,List.nil_append,An,List.length_cons,List.length_nil]|apply Aa|refine sp_ ?_ ?_<;>intro hc<;>push_cast at hc|omega|intro _));simpa [Av] using hst
     ·rw[Ac (by assumption)] at hst
      refine⟨(m+1,td,jk),?_⟩;(with_reducible repeat'(first|simp (disch:=omega) only[push_cast,↓zz,seval]|apply Aa|refine sp_ ?_ ?_<;>intro hc<;>push_cast at hc|omega|intro _));simpa [Av] using hst
    ·have hme:m=(toD d.rules s).length:=by omega
     subst hme;have hE:=z5v (l:=d.rules) hsP;rw[hE] at m2;rw[hE];refine W_T ?_;(with_reducible repeat'(first|simp (disch:=omega) only[push_cast,↓zz,seval,pL,lL,pI,lI]|apply Aa|refine sp_ ?_ ?_<;>intro hc<;>push_cast at hc|omega|intro _))
     all_goals
      refine⟨(P++[(s:Int)],td,jk),?_⟩;(with_reducible repeat'(first|simp (disch:=omega) only[push_cast,↓zz,seval,An,List.length_cons,List.length_nil]|apply Aa|refine sp_ ?_ ?_<;>intro hc<;>push_cast at hc|omega|intro _))
     all_goals (simpa [Av] using m2)
inductive Reach(E:List (Int × Int))(F:List Int):Int->Prop where
 |base {s:Int}:s∈F->Reach E F s
 |step {s t:Int}:Reach E F s->(s,t)∈E->Reach E F t
noncomputable def YT (E:List (Int × Int)) (F:List Int) (i:Nat):Bool:=@decide (Reach E F i) (Classical.propDecidable _)
structure InR(n:Nat)(F:List Int)(E:List (Int × Int)):Prop where
 f:∀s∈F,0<=s/\s<n
 e:∀e∈E,(0<=e.1/\e.1<n)/\0<=e.2/\e.2<n
theorem Reach.rng{n:Nat}{F:List Int}{E:List (Int × Int)}(h:InR n F E){s:Int}(hs:Reach E F s):0<=s/\s<n:=by
 cases hs with
 |base h1=>exact h.f _ h1
 |step _ h1=>exact (h.e _ h1).2
structure SpInv(n:Nat)(F:List Int)(E:List (Int × Int))(on:Nat->Bool)(todo:List Int):Prop where
 r1:∀s∈todo,Reach E F s
 r2:∀i:Nat,on i=true->Reach E F i
 base:∀s∈F,on s.toNat=true\/s∈todo
 step:∀i:Nat,on i=true->∀t,((i:Int),t)∈E->on t.toNat=true\/t∈todo
def setB(on:Nat->Bool)(s:Nat)(j:Nat):Bool:=if j=s then true else on j
theorem pc_t'{P:Program}{f m np:Nat}{xs:List AV}{y:AV}{res:List ARes}{B:AC}(hf:AS P f xs.length=some ⟨m,np,res,B⟩)(h:T P m 0 B (entry xs) (Abs.hl []) (Ret P res λz H=>Dv 4 H z/\ansW (frzV 4 H z) y)):PC P f xs y:=by
 refine zgh hf 4 ?_;rw[Ug];exact T.mono h λx env H hh=>RP (λz H hh=>⟨hh.1,z42 hh.2⟩) hh
def spB(n:Nat)(on:Nat->Bool):List AV:=(List.range n).map λi=>AV.bool (on i)
theorem zjy{n s:Nat}{on:Nat->Bool}(h:s<n):(spB n on).set s (.bool true)=spB n (setB on s):=by
 rw[spB,CJ h,spB];refine AD λp _=>?_;by_cases e:p=s
 ·subst e;simp[setB]
 ·simp[e,setB]
noncomputable def zfm (n:Nat) (F:List Int) (E:List (Int × Int)):List Bool:=(List.range n).map (YT E F)
def G6{α:Type}(p:α->Bool):List α->Nat->Option Nat
 |[],_=>none
 |x::l,i=>if p x then G6 p l (i+1) else some i
theorem N4{α:Type}[Inhabited α]{p:α->Bool}{l:List α}{k:Nat}(h:k<l.length):G6 p (l.drop k) k=if p (nth l k) then G6 p (l.drop (k+1)) (k+1) else some k:=by rw[drop_at h,G6]
theorem Ir{α:Type}{p:α->Bool}:∀{l:List α}{i:Nat},G6 p l i=none->∀x∈l,p x=true
 |[],_,_,_,h=>by cases h
 |y::l,i,h,x,hx=>by
  rw[G6] at h;split at h
  ·rename_i hp
   rcases Ai.1 hx with rfl|hx
   ·exact hp
   ·exact Ir h x hx
  ·cases h
def Fc(d:Desc)(f:FS):Bool:=IR d f.from_&&(Ez d.in_ f.guards&&EZ d f.out f.guards)
open Classical in
noncomputable def FD (d:Desc):Int × Int :=
 if Pi d=false then (1,0) else
  match G6 (Gt d) d.rules 0 with
  |some i=>(2,i)
  |none=>match G6 (Fc d) d.finals 0 with
   |some i=>(3,i)
   |none=>if cycP d.rules d.states.toNat then (4,0) else (0,0)
def IH(d:Desc):Prop:=(∀r∈d.rules,∀t∈r.out,t.parts.length<1000000000000)/\∀f∈d.finals,∀t∈f.out,t.parts.length<1000000000000
theorem z6s{d:Desc}(h:Pi d=true):(1<=d.states/\d.states<=1024)/\d.rules.length<=4096/\d.finals.length<=4096/\0<=d.start/\d.start<d.states:=by
 simp only[Pi,IR,Ab,Ad] at h;omega
theorem Tg{d:Desc}{r:Rule}(h:Gt d r=true):(0<=r.from_/\r.from_<d.states)/\0<=r.to_/\r.to_<d.states:=by
 simp only[Gt,IR,Ab,Ad] at h;omega
theorem z0z(d:Desc)(hf:IH d):PC Tryz.prog 82 [Cu d] (.tup [.int .i64 (FD d).1,.int .i64 (FD d).2]):=by
 have hH:=z6l d;have hPr:=BF d.rules;have hPf:=B9 d.finals;refine BA UA ?_;unfold MF;cases hh:Pi d with
 |false =>
  rw[hh] at hH;rw[FD,Ae hh];(with_reducible repeat'(first|simp (disch:=omega) only[push_cast,↓zz,seval]|apply Aa|refine sp_ ?_ ?_<;>intro hc<;>push_cast at hc|refine ee hH ?_|(refine cc hH ?_;(simp(disch:=omega)only[push_cast,↓zz,seval]);(fail_if_success change False))|omega|intro _))
 |true =>
 rw[hh] at hH;obtain⟨b1,b2,b3,b4⟩:=z6s hh
 have hW:FD d=match G6 (Gt d) d.rules 0 with
  |some i=>(2,(i:Int))
  |none=>match G6 (Fc d) d.finals 0 with
   |some i=>(3,(i:Int))
   |none=>if (@decide (cycP d.rules d.states.toNat) (Classical.propDecidable _))=true then (4,0) else (0,0):=by
  rw[FD,Ac (by simp[hh])];split
  ·rfl
  ·split
   ·rfl
   ·by_cases hc:cycP d.rules d.states.toNat
    ·rw[Ae hc,Ae (@A7 _ (Classical.propDecidable _) hc)]
    ·rw[Ac hc,Ac (by rw[@AM _ (Classical.propDecidable _) hc];simp)]
 (with_reducible repeat'(first|simp (disch:=omega) only[push_cast,↓zz,seval]|apply Aa|refine sp_ ?_ ?_<;>intro hc<;>push_cast at hc|refine ee hH ?_|(refine cc hH ?_;(simp(disch:=omega)only[push_cast,↓zz,seval]);(fail_if_success change False))|omega|intro _))
 refine AQ (AX (λ(k:Nat)=>k<=d.rules.length/\G6 (Gt d) d.rules 0=G6 (Gt d) (d.rules.drop k) k) (λk=>d.rules.length-k)
  (λk=>[(1,.ptr 0 1 0 0),(12,FV d.rules),(13,.int .i64 d.rules.length),(14,.int .i64 k)]) (λk=>[⟨6,1,true,[Cu d]⟩]) (λenv _=>[Cf 1 (env 1)]) 0 ⟨by simp,rfl⟩ ?_ ?_)
 ·(with_reducible repeat'(first|simp (disch:=omega) only[push_cast,↓zz,seval,hPr,hPf]|apply Aa|refine sp_ ?_ ?_<;>intro hc<;>push_cast at hc|omega|intro _))
 rintro k ⟨k1,k2⟩;rcases Ah k d.rules.length with hk|hk
 ·have hr:=z6m d (nth d.rules k) (hf.1 _ (AL hk))
  rw[N4 hk] at k2;cases hb:Gt d (nth d.rules k) with
  |false =>
   rw[hb] at hr k2;simp only[Au,AZ] at k2;rw[hW,k2];refine W_T ?_;(with_reducible repeat'(first|simp (disch:=omega) only[push_cast,↓zz,seval,hPr,hPf]|apply Aa|refine sp_ ?_ ?_<;>intro hc<;>push_cast at hc|refine ee hr ?_|(refine cc hr ?_;(simp(disch:=omega)only[push_cast,↓zz,seval,hPr,hPf]);(fail_if_success change False))|omega|intro _))
  |true =>
   rw[hb] at hr k2;simp only[AY] at k2;refine W_T ?_;(with_reducible repeat'(first|simp (disch:=omega) only[push_cast,↓zz,seval,hPr,hPf]|apply Aa|refine sp_ ?_ ?_<;>intro hc<;>push_cast at hc|refine ee hr ?_|(refine cc hr ?_;(simp(disch:=omega)only[push_cast,↓zz,seval,hPr,hPf]);(fail_if_success change False))|omega|intro _))
   all_goals exact⟨k+1,by push_cast,⟨by omega,k2⟩,by omega⟩
 ·rw[Aj hk,G6] at k2
  have hall:=Ir k2;have hC:=z0y d ⟨b1,b2,λr hr=>Tg (hall r hr)⟩;rw[k2] at hW;simp only at hW;refine W_T ?_;(with_reducible repeat'(first|simp (disch:=omega) only[push_cast,↓zz,seval,hPr,hPf]|apply Aa|refine sp_ ?_ ?_<;>intro hc<;>push_cast at hc|omega|intro _))
  refine AQ (AX (λ(k:Nat)=>k<=d.finals.length/\G6 (Fc d) d.finals 0=G6 (Fc d) (d.finals.drop k) k) (λk=>d.finals.length-k)
   (λk=>[(1,.ptr 0 1 0 0),(26,GE d.finals),(27,.int .i64 d.finals.length),(28,.int .i64 k)]) (λk=>[⟨6,1,true,[Cu d]⟩]) (λenv _=>[Cf 1 (env 1)]) 0 ⟨by simp,rfl⟩ ?_ ?_)
  ·(with_reducible repeat'(first|simp (disch:=omega) only[push_cast,↓zz,seval,hPr,hPf]|apply Aa|refine sp_ ?_ ?_<;>intro hc<;>push_cast at hc|omega|intro _))
  rintro j ⟨j1,j2⟩;rcases Ah j d.finals.length with hj|hj
  ·generalize hfe:nth d.finals j=f at *
   have hfm:f∈d.finals:=by rw[<-hfe];exact AL hj
   have hfo:=hf.2 f hfm;have h1:=JO d f.from_;have h2:=Ph d.in_ f.guards;have hP:=Bs f.guards;have hT:=BP f.out;rw[N4 hj,hfe] at j2;cases hg:Ez d.in_ f.guards with
   |false =>
    have hb:Fc d f=false:=by rw[Fc,hg];simp
    rw[hg] at h2;rw[hb] at j2;simp only[Au,AZ] at j2;rw[hW,j2];refine W_T ?_;(with_reducible repeat'(first|simp (disch:=omega) only[push_cast,↓zz,seval,hPr,hPf,hfe,hP,hT]|apply Aa|refine sp_ ?_ ?_<;>intro hc<;>push_cast at hc|refine ee h1 ?_|refine ee h2 ?_|((first|refine cc h1 ?_|refine cc h2 ?_);(simp(disch:=omega)only[push_cast,↓zz,seval,hPr,hPf,hfe,hP,hT]);(fail_if_success change False))|omega|intro _))
   |true =>
    rw[hg] at h2;obtain⟨g1,g2⟩:=GP hg;have h4:=Pj d f.out f.guards hfo (λg hg=>by have:=g2 g hg;omega) (by omega);cases hb:Fc d f with
    |false =>
     rw[hb] at j2;simp only[Au,AZ] at j2;rw[hW,j2];rw[Fc,hg,AF] at hb;refine W_T ?_;(with_reducible repeat'(first|simp (disch:=omega) only[push_cast,↓zz,seval,hPr,hPf,hfe,hP,hT]|apply Aa|refine sp_ ?_ ?_<;>intro hc<;>push_cast at hc|refine ee h1 ?_|refine ee h2 ?_|refine ee h4 ?_|((first|refine cc h1 ?_|refine cc h2 ?_|refine cc h4 ?_);(simp(disch:=omega)only[push_cast,↓zz,seval,hPr,hPf,hfe,hP,hT]);(fail_if_success change False))|omega|intro _))
     all_goals first
      |(exfalso;simp_all;done)
      |trace_state
    |true =>
     rw[hb] at j2;simp only[AY] at j2;rw[Fc,hg,AF,Ab] at hb;rw[hb.1] at h1;rw[hb.2] at h4;refine W_T ?_;(with_reducible repeat'(first|simp (disch:=omega) only[push_cast,↓zz,seval,hPr,hPf,hfe,hP,hT]|apply Aa|refine sp_ ?_ ?_<;>intro hc<;>push_cast at hc|refine ee h1 ?_|refine ee h2 ?_|refine ee h4 ?_|((first|refine cc h1 ?_|refine cc h2 ?_|refine cc h4 ?_);(simp(disch:=omega)only[push_cast,↓zz,seval,hPr,hPf,hfe,hP,hT]);(fail_if_success change False))|omega|intro _))
     all_goals exact⟨j+1,by push_cast,⟨by omega,j2⟩,by omega⟩
  ·rw[Aj hj,G6] at j2
   rw[j2] at hW;simp only at hW;generalize @decide (cycP d.rules d.states.toNat) (Classical.propDecidable _)=c at *;refine W_T ?_;rw[hW];cases c
   ·(with_reducible repeat'(first|simp (disch:=omega) only[push_cast,↓zz,seval,hPr,hPf]|apply Aa|refine sp_ ?_ ?_<;>intro hc<;>push_cast at hc|refine ee hC ?_|(refine cc hC ?_;(simp(disch:=omega)only[push_cast,↓zz,seval,hPr,hPf]);(fail_if_success change False))|omega|intro _))
   ·(with_reducible repeat'(first|simp (disch:=omega) only[push_cast,↓zz,seval,hPr,hPf]|apply Aa|refine sp_ ?_ ?_<;>intro hc<;>push_cast at hc|refine ee hC ?_|(refine cc hC ?_;(simp(disch:=omega)only[push_cast,↓zz,seval,hPr,hPf]);(fail_if_success change False))|omega|intro _))
    all_goals trace_state
noncomputable def FO (d:Desc):Int:=if (FD d).1=0 then 0 else 2
theorem z1a(d:Desc)(hf:IH d):PC Tryz.prog 39 [Cu d] (.int .i64 (FO d)):=by
 have hW:=z0z d hf;refine BA U6 ?_;unfold MB FO;generalize FD d=w at *;by_cases h:w.1=0
 ·rw[Ae h]
  (with_reducible repeat'(first|simp (disch:=omega) only[push_cast,↓zz,seval,h]|apply Aa|refine sp_ ?_ ?_<;>intro hc<;>push_cast at hc|refine ee hW ?_|(refine cc hW ?_;(simp(disch:=omega)only[push_cast,↓zz,seval,h]);(fail_if_success change False))|omega|intro _))
 ·rw[Ac h]
  (with_reducible repeat'(first|simp (disch:=omega) only[push_cast,↓zz,seval,h]|apply Aa|refine sp_ ?_ ?_<;>intro hc<;>push_cast at hc|refine ee hW ?_|(refine cc hW ?_;(simp(disch:=omega)only[push_cast,↓zz,seval,h]);(fail_if_success change False))|omega|intro _))
  all_goals trace_state
theorem fold_at{α β:Type}[Inhabited α]{f:β->α->β}{l:List α}{k:Nat}{s:β}(h:k<l.length):(l.drop k).foldl f s=(l.drop (k+1)).foldl f (f s (nth l k)):=by rw[drop_at h,List.foldl_cons]
def freeB(d:Desc):Bool:=d.rules.all λr=>!Dr r
def widF(n:Int)(r:Rule):Int:=max n r.guards.length
def zoc(d:Desc):Int:=d.rules.foldl widF 0
def aheF(n:Int)(r:Rule):Int:=max n (r.guards.length-max r.eat 0)
def zod(d:Desc):Int:=d.rules.foldl aheF 0
def lonF(n:Int)(r:Rule):Int:=max n r.out.length
def lonG(n:Int)(f:FS):Int:=max n f.out.length
def longV(d:Desc):Int:=d.finals.foldl lonG (d.rules.foldl lonF 0)
end Go.Proofs.YtbcjoeadpjfcfaaGreat
