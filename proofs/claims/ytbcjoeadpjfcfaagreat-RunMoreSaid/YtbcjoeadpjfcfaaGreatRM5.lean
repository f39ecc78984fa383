/-
  Parts of the proof that the law holds whatever the input; without conditions.
-/
import Derived.Shelf.SlSortCmp.WholeK
import Derived.Shelf.SlicesG.Cmp
import Derived.Shelf.Small.Bits
import Derived.Ground.SlsfProg
import Derived.Ground.SlgcProg
import Derived.Ground.NamesProg
import Derived.Test.YtbcjoeadpjfcfaaGreatProg
import Derived.Test.YtbcjoeadpjfcfaaGreatRM3
import Derived.Test.YtbcjoeadpjfcfaaGreatRM4
set_option linter.unusedSimpArgs false
set_option linter.unusedVariables false
set_option linter.unusedSectionVars false
namespace Go.Proofs
open Go.Shelf
def Tryz.sortSp_ren:Go.Shelf.Ren:=⟨fun|6=>190|15=>139|14=>198|28=>162|29=>163|20=>205|21=>206|22=>207|23=>208|24=>209|25=>210|26=>211|27=>212|46=>213|47=>177|48=>178|49=>214|50=>215|57=>216|n=>n,fun|22=>79|24=>78|25=>228|3=>3|39=>187|0=>0|53=>205|55=>207|4=>4|46=>199|45=>198|50=>32|5=>5|9=>9|66=>216|70=>220|76=>224|77=>84|n=>n,fun|n=>n⟩
theorem Tryz.sortSp:Go.Proofs.SlLaysF0.n6 Tryz.prog Tryz.sortSp_ren:={
 mixed:=by kernel_rfl
 f6:=⟨Tryz.f190.name,by decide,Tryz.func190.trans (congrArg some (by kernel_rfl))⟩
 f14:=⟨Tryz.f198.name,by decide,Tryz.func198.trans (congrArg some (by kernel_rfl))⟩
 f15:=Tryz.func139.trans (congrArg some (by kernel_rfl))
 f20:=⟨Tryz.f205.name,by decide,Tryz.func205.trans (congrArg some (by kernel_rfl))⟩
 f21:=⟨Tryz.f206.name,by decide,Tryz.func206.trans (congrArg some (by kernel_rfl))⟩
 f22:=⟨Tryz.f207.name,by decide,Tryz.func207.trans (congrArg some (by kernel_rfl))⟩
 f23:=⟨Tryz.f208.name,by decide,Tryz.func208.trans (congrArg some (by kernel_rfl))⟩
 f24:=⟨Tryz.f209.name,by decide,Tryz.func209.trans (congrArg some (by kernel_rfl))⟩
 f25:=⟨Tryz.f210.name,by decide,Tryz.func210.trans (congrArg some (by kernel_rfl))⟩
 f26:=⟨Tryz.f211.name,by decide,Tryz.func211.trans (congrArg some (by kernel_rfl))⟩
 f27:=⟨Tryz.f212.name,by decide,Tryz.func212.trans (congrArg some (by kernel_rfl))⟩
 f28:=Tryz.func162.trans (congrArg some (by kernel_rfl))
 f29:=Tryz.func163.trans (congrArg some (by kernel_rfl))
 f46:=⟨Tryz.f213.name,by decide,Tryz.func213.trans (congrArg some (by kernel_rfl))⟩
 f47:=Tryz.func177.trans (congrArg some (by kernel_rfl))
 f48:=Tryz.func178.trans (congrArg some (by kernel_rfl))
 f49:=⟨Tryz.f214.name,by decide,Tryz.func214.trans (congrArg some (by kernel_rfl))⟩
 f50:=⟨Tryz.f215.name,by decide,Tryz.func215.trans (congrArg some (by kernel_rfl))⟩
 f57:=⟨Tryz.f216.name,by decide,Tryz.func216.trans (congrArg some (by kernel_rfl))⟩
 t0:=Tryz.underlying0
 a0:=Tryz.isAgg0
 z0:=Tryz.sizeOf0
 v0:=Tryz.zeroValue0
 t3:=Tryz.underlying3
 a3:=Tryz.isAgg3
 z3:=Tryz.sizeOf3
 v3:=Tryz.zeroValue3
 t4:=Tryz.underlying4
 a4:=Tryz.isAgg4
 z4:=Tryz.sizeOf4
 v4:=Tryz.zeroValue4
 t5:=Tryz.underlying5
 a5:=Tryz.isAgg5
 z5:=Tryz.sizeOf5
 v5:=Tryz.zeroValue5
 t9:=Tryz.underlying9
 a9:=Tryz.isAgg9
 z9:=Tryz.sizeOf9
 v9:=Tryz.zeroValue9
 t22:=Tryz.underlying79
 a22:=Tryz.isAgg79
 z22:=Tryz.sizeOf79
 v22:=Tryz.zeroValue79
 t25:=Tryz.underlying228
 a25:=Tryz.isAgg228
 z25:=Tryz.sizeOf228
 v25:=Tryz.zeroValue228
 t39:=Tryz.underlying187
 a39:=Tryz.isAgg187
 z39:=Tryz.sizeOf187
 v39:=Tryz.zeroValue187
 t45:=Tryz.underlying198
 a45:=Tryz.isAgg198
 z45:=Tryz.sizeOf198
 v45:=Tryz.zeroValue198
 t46:=Tryz.underlying199
 a46:=Tryz.isAgg199
 z46:=Tryz.sizeOf199
 v46:=Tryz.zeroValue199
 t50:=Tryz.underlying32
 a50:=Tryz.isAgg32
 z50:=Tryz.sizeOf32
 v50:=Tryz.zeroValue32
 t53:=Tryz.underlying205
 a53:=Tryz.isAgg205
 z53:=Tryz.sizeOf205
 v53:=Tryz.zeroValue205
 t55:=Tryz.underlying207
 a55:=Tryz.isAgg207
 z55:=Tryz.sizeOf207
 v55:=Tryz.zeroValue207
 t66:=Tryz.underlying216
 a66:=Tryz.isAgg216
 z66:=Tryz.sizeOf216
 v66:=Tryz.zeroValue216
 t70:=Tryz.underlying220
 a70:=Tryz.isAgg220
 z70:=Tryz.sizeOf220
 v70:=Tryz.zeroValue220
 t76:=Tryz.underlying224
 a76:=Tryz.isAgg224
 z76:=Tryz.sizeOf224
 v76:=Tryz.zeroValue224
 t77:=Tryz.underlying84
 a77:=Tryz.isAgg84
 z77:=Tryz.sizeOf84
 v77:=Tryz.zeroValue84 }
def Tryz.cmpSp_ren:Go.Shelf.Ren:=⟨fun|5=>192|7=>199|n=>n,fun|22=>3|3=>3|4=>4|n=>n,fun|n=>n⟩
theorem Tryz.cmpSp:Go.Proofs.SlLaysC2.n5 Tryz.prog Tryz.cmpSp_ren:={
 mixed:=by kernel_rfl
 f5:=⟨Tryz.f192.name,by decide,Tryz.func192.trans (congrArg some (by kernel_rfl))⟩
 f7:=⟨Tryz.f199.name,by decide,Tryz.func199.trans (congrArg some (by kernel_rfl))⟩
 t3:=Tryz.underlying3
 a3:=Tryz.isAgg3
 z3:=Tryz.sizeOf3
 v3:=Tryz.zeroValue3
 t4:=Tryz.underlying4
 a4:=Tryz.isAgg4
 z4:=Tryz.sizeOf4
 v4:=Tryz.zeroValue4
 t22:=Tryz.underlying3
 a22:=Tryz.isAgg3
 z22:=Tryz.sizeOf3
 v22:=Tryz.zeroValue3 }
end Go.Proofs
namespace Go.Proofs.YtbcjoeadpjfcfaaGreat
open Abs O1 O2 O3 Go.Shelf Go.RowKit Go.Lib Go.Sort
def Mv(x:Span):List Value:=[.int .i64 x.lo,.int .i64 x.hi]
def Rm(x y:Span):Int:=Lib.compareInt x.lo y.lo
theorem ltLo(x y:Span):ltOf Rm x y=decide (x.lo<y.lo):=by
 unfold ltOf Rm Lib.compareInt;by_cases h1:x.lo<y.lo
 ·simp[h1]
 ·by_cases h2:y.lo<x.lo<;>simp[h1,h2]
theorem swoLo:SWO (ltOf Rm) where
 irrefl x:=by rw[ltLo];simp
 trans x y z h1 h2:=by rw[ltLo] at *;simp at *;omega
 ntrans x y z h1 h2:=by rw[ltLo] at *;simp at *;omega
set_option maxHeartbeats 1000000 in
theorem Wq(x y:Span)(W:World):Calls Tryz.prog 191 #[.agg #[.int .i64 x.lo,.int .i64 x.hi],.agg #[.int .i64 y.lo,.int .i64 y.hi]] W λe w'=>e=.returned (.int .i64 (Rm x y))/\∃q os',w'=grow (W.drewN q) os':=by
 have hcon:=λW'=>AnyG.cmp_Compare_int Tryz.cmpSp x.lo y.lo W';change ∀W',Calls Tryz.prog 192 _ _ _ at hcon;unfold Rm;generalize Lib.compareInt x.lo y.lo=r at hcon ⊢
 go_enter Tryz.func191,Tryz.ntmps191
 go_wp2_with (go_at_call 192;refine (hcon _).mono ?_;rintro e w' ⟨rfl,rfl⟩)
 go_ret
 exact⟨rfl,0,_,by rw[alloc_eq_grow,alloc_eq_grow,grow_grow];rfl⟩
theorem Wr(blk off size:Nat)(w:World):CmpLays Tryz.prog 191 #[] Mv 2 Rm blk off size w :=
 λ_ _ _ _ x y=>Wq x y _
theorem zg8:∀w,(isAgg (Tryz.sortSp_ren.t 24)).run Tryz.prog w=.ok true w:=Tryz.isAgg78
theorem zby:∀w,(Go.sizeOf (Tryz.sortSp_ren.t 24)).run Tryz.prog w=.ok 2 w:=Tryz.sizeOf78
theorem A4.split{S:MS}:∀{xs ys:List AV}{vs:List Value},A4 S (xs++ys) vs->∃v1 v2,vs=v1++v2/\A4 S xs v1/\A4 S ys v2
 |[],ys,vs,h=>⟨[],vs,rfl,rfl,h⟩
 |x::xs,ys,vs,⟨v,r,hv,h1,h2⟩=>by
  obtain⟨v1,v2,rfl,h3,h4⟩:=A4.split h2;exact⟨v::v1,v2,by rw[hv];rfl,⟨v,v1,rfl,h1,h3⟩,h4⟩
abbrev GQ(x:Span):Value:=.agg #[.int .i64 x.lo,.int .i64 x.hi]
theorem NW{S:MS}:∀{l:List Span}{vs:List Value},A4 S (l.map C3) vs->vs=l.map GQ
 |[],vs,h=>h
 |x::l,vs,⟨v,r,hv,h1,h2⟩=>by
  obtain⟨ws,rfl,a,r1,rfl,rfl,c,r2,rfl,rfl,rfl⟩:=h1;rw[hv,NW h2];rfl
theorem NX{S:MS}:∀(l:List Span),A4 S (l.map C3) (l.map GQ)
 |[]=>rfl
 |x::l=>⟨_,_,rfl,⟨_,rfl,_,_,rfl,rfl,_,_,rfl,rfl,rfl⟩,NX l⟩
theorem OE(d:Array Span)(i j:Nat)(hi:i<d.size)(hj:j<2):(flatK Mv 2 d)[i * 2+j]! = (Mv d[i]!)[j]! := by
 rw[get_flatK _ _ _ _ (by omega),show (i * 2+j) / 2=i from by omega,show (i * 2+j) % 2=j from by omega]
theorem z4k{w:World}{b:Nat}{cells:Array Value}{T:TypeId}{l:List Span}(hb:w.heap[b]? = some (.cells cells T (0,0))){vr:List Value}(hf:FN cells 2 (l.map GQ++vr)):HoldsK Mv 2 w b 0 l.toArray:=by
 intro j hj;rw[size_flatK,BA] at hj;have hi:j / 2<l.length:=by omega
 have he:(l.map GQ++vr)[j / 2]? = some (GQ l[j / 2]):=by rw[Az (by simpa using hi)];simp[hi]
 obtain⟨_,_,h3⟩:=hf _ _ he;have h4:=h3 (j % 2) (by omega);rw[show j / 2 * 2+j % 2=j from by omega] at h4;have h5:=OE l.toArray (j / 2) (j % 2) (by simpa using hi) (by omega);rw[show j / 2 * 2+j % 2=j from by omega] at h5;refine⟨?_,?_⟩
 ·simp only[World.cell?,hb,AO,Option.isSome_none,Av,AT,h4,id,h5]
  have hg:l.toArray[j / 2]! = l[j / 2]:=by simp[hi]
  rw[hg];rcases Nat.mod_two_eq_zero_or_one j with h|h<;>rw[h]<;>simp[GQ,Value.cells,Mv]
 ·simp[World.frozen?,hb]
theorem zbz{w:World}{b n:Nat}{cells:Array Value}{T:TypeId}{d:Array Span}{os:Array Obj}(hb:w.heap[b]? = some (.cells cells T (0,0)))(hsz:d.size * 2<=cells.size){v0 vr:List Value}(h0:v0.length=d.size)(hf:FN cells 2 (v0++vr)):
 ∃cells',(sortWorldK Mv 2 w b 0 n d os).heap[b]? = some (.cells cells' T (0,0))/\cells'.size=cells.size/\FN cells' 2 (d.toList.map GQ++vr):=by
 have hlt:b<w.heap.size:=(AM.1 hb).1;refine⟨putCells id 0 (flatK Mv 2 d) cells,?_,by simp[putCells],λi v hv=>?_⟩
 ·show ((w.heap.modify b _)++os)[b]? = _
  rw[Bz (by rw[C6];exact hlt),Da,Af rfl,hb];rfl
 ·rcases Aj i d.size with hid|hid
  case inr =>
   rw[A5 (by simpa using hid)] at hv;obtain⟨g1,g2,g3⟩:=hf i v (by rw[A5 (by omega),h0];simpa using hv);refine⟨g1,g2,λj hj=>?_⟩;rw[<-g3 j hj,putCells,Ek];cases hc:cells[i * 2+j]? with
   |none=>rfl
   |some c =>
    simp only[Option.map_some,Ay,Ed,AO,size_flatK];rw[Ae (by omega)]
  rw[Az (by simpa using hid),Dh] at hv;obtain⟨x,hx,rfl⟩:=Ad.1 hv;have hi:i<d.size:=by have:=(AP.1 hx).1;simpa using this
  refine⟨rfl,λc hc=>?_,λj hj=>?_⟩
  ·simp[GQ,Value.cells] at hc
   rcases hc with rfl|rfl<;>rfl
  ·have h5:=OE d i j hi hj
   have hlt2:i * 2+j<cells.size:=by omega
   have hd:d[i]! = x:=by
    rw[El] at hx;rw[getElem!_pos d i hi];exact (AM.1 hx).2
   rw[putCells,Ek,Dv hlt2];simp only[Option.map_some,Ay,Ed,AO,size_flatK,Nat.sub_zero];rw[Af (by omega),h5,hd];rcases (by omega:j=0\/j=1) with rfl|rfl<;>simp[GQ,Value.cells,Mv]
def JW(l:List Span):Prop:=l.Pairwise λa b=>a.lo<=b.lo
theorem YV{d:Array Span}(h:SortedIn (ltOf Rm) 0 d.size d):JW d.toList:=by
 rw[JW,Dy];intro i j hi hj hij;have hi':i<d.size:=by simpa using hi
 have hj':j<d.size:=by simpa using hj
 have:=h i j (Ay _) hij hj';rw[ltLo,getElem!_pos d j hj',getElem!_pos d i hi'] at this;simp at this;simpa using this
theorem zc0{H:As}{g ver:Nat}{ex:Bool}{l:List Span}{rest:List AV}(hg:g<H.n)(hG:H.at_ g=⟨2,ver,ex,l.map C3++rest⟩)(h1:l≠[])(hl:l.length<4611686018427387904):
 B4 Tryz.prog 190 [.ref g ver 0 l.length,.fn 191 []] H λy H'=>y=.tup []/\∃l':List Span,l'.Perm l/\JW l'/\H'=H.set g ⟨2,ver,ex,l'.map C3++rest⟩:=by
 have eg:∀args w,(callFunc 191 args).run Tryz.prog w=.ok (.enter 191 args) w:=enters_of Tryz.func191 (by kernel_rfl) rfl;refine⟨enters_of Tryz.func190 (by kernel_rfl) rfl,λS cargs hS hx=>?_⟩;obtain⟨v1,r1,rfl,⟨_,hgn,_,hv1⟩,v2,r2,rfl,⟨lb,rfl,rfl⟩,rfl⟩:=hx;have hgr:=hS.grp g hg;rw[hG] at hgr;obtain⟨a,cap',rfl,hcase⟩:=hv1 hgr.ver;have hpos:0<l.length:=by cases l;exact absurd rfl h1;simp
 obtain⟨rfl,rfl,hcap⟩:=hcase.resolve_right (λh=>by omega);have hlen:l.length+rest.length<=S.cap g:=by have:=hgr.len (show 0<2 by decide);simpa using this
 obtain⟨⟨cells,T,vs,b1,b2,b3,b4⟩,hni⟩:=hgr.live (show 0<2 by decide) (by omega);obtain⟨vs1,vr,hvv,b31,b32⟩:=A4.split b3;have hvs:=NW b31;subst hvs;subst hvv;have b2':cells.size=S.cap g * 2:=b2;have hblk:S.place g<S.w.heap.size:=(AM.1 b1).1;have hcon:=AnyQ.slices_SortFunc Tryz.sortSp 2 zg8 zby Mv (λ_=>rfl) (λx v hv=>by simp[Mv] at hv;rcases hv with rfl|rfl<;>rfl) Rm swoLo 191 #[] (S.place g) 0 (S.cap g-0) l.toArray S.w eg (Wr _ _ _ _) (z4k b1 b4) hblk (by simpa using hl);change Calls Tryz.prog 190 _ _ _ at hcon;rw[BA] at hcon;rw[DY];refine hcon.mono λe w' ⟨he,d',n,os,hp,hs,hw'⟩=>?_;subst he hw';obtain⟨q1,q2,q3⟩:=hp;have q1:d'.size=l.length:=by simpa using q1
 have hperm:d'.toList.Perm l:=by
  rw[Dm,Dm] at q3;simpa [List.extract,q1,An (show d'.toList.length<=l.length by simp[q1])] using q3
 rw[<-q1] at hs;obtain⟨cells',c1,c2,c3⟩:=zbz (n:=n) (d:=d') (os:=os) b1 (by omega) (v0:=l.map GQ) (by simp[q1]) b4
 have hh:=hS.moved hg (by rw[hG];exact (show 0<2 by decide)) (sortWorldK Mv 2 S.w (S.place g) 0 n d' os) (S.place g) (S.cap g) ⟨2,ver,ex,d'.toList.map C3++rest⟩ rfl ⟨rfl,Et _ _⟩ rfl
  (by show _<=((S.w.heap.modify _ _)++os).size;rw[EO,C6];omega)
  (λb hb hlt=>by
   show ((S.w.heap.modify _ _)++os)[b]? = _
   rw[Bz (by rw[C6];exact hlt),Da,Ae (λhh=>hb ⟨by omega,hh.symm⟩)])
  (.inl ⟨by omega,rfl⟩) (λ_=>⟨cells',T,_,c1,by rw[c2];exact b2',(NX _).append b32,c3⟩) (by simpa [q1] using hlen)
  (λhx=>by have:=hgr.full (show 0<2 by decide) hx;simp at this;simp[q1];exact this) (show 0<2 by decide) (by rw[hgr.ver];exact Ac _) (λ_=>⟨rfl,rfl,by rw[hgr.wid]⟩)
 exact⟨_,_,.tup [],_,rfl,rfl,hh.1,hh.2,⟨[],rfl,rfl⟩,rfl,d'.toList,hperm,YV hs,rfl⟩
theorem z4l{l:List Span}{k:Nat}(h:k<l.length):inN (l.take (k+1))=inN (l.take k)++(if (Jz (nth l k)).lo<=(Jz (nth l k)).hi then [Jz (nth l k)] else []):=by
 rw[take_at h,inN,inN,A7,Cy];congr 1;simp only[Bf,Bh,BR,List.filter_nil,Ag]
theorem z4m(m r:List Span)(hm:m.length<4611686018427387904):B4 Tryz.prog 190 [.ref 0 1 0 m.length,.fn 191 []] (Abs.hl [⟨2,1,true,(m++r).map C3⟩]) λy H'=>y=.tup []/\∃m':List Span,m'.Perm m/\JW m'/\H'=Abs.hl [⟨2,1,true,(m'++r).map C3⟩]:=by
 by_cases h:m=[]
 ·subst h
  refine (sort0 r).mono ?_;rintro y H' ⟨rfl,rfl⟩;exact⟨rfl,[],List.Perm.refl _,List.Pairwise.nil,rfl⟩
 ·refine (zc0 (H:=Abs.hl [⟨2,1,true,(m++r).map C3⟩]) (g:=0) (ver:=1) (ex:=true) (l:=m) (rest:=r.map C3) (by show 0<1;decide) (by rw[<-A7];rfl) h hm).mono ?_
  rintro y H' ⟨rfl,m',h1,h2,rfl⟩;refine⟨rfl,m',h1,h2,?_⟩;rw[GB _ _ _ (by show 0<1;decide),<-A7];rfl
abbrev z4n:Span:=⟨0,0⟩
def Mw(m:List Span)(n:Nat):List Span:=m++List.replicate (n-m.length) z4n
theorem YW{m:List Span}{n:Nat}(h:m.length<=n):(Mw m n).length=n:=by simp[Mw];omega
theorem YX{m:List Span}{n:Nat}(h:m.length<n)(s:Span):(Mw m n).take m.length++[s]++(Mw m n).drop (m.length+1)=Mw (m++[s]) n:=by
 simp only[Mw];rw[Cj (Ac _),AB,List.drop_append,Aw (by omega),List.nil_append,show m.length+1-m.length=1 from by omega,List.drop_replicate];simp only[Al,List.length_singleton,Nat.sub_sub]
def mixS(out s:List Span):List Span:=out++s.drop out.length
theorem z4o{out s:List Span}(h:out.length<=s.length):(mixS out s).length=s.length:=by simp[mixS];omega
theorem z4p{out s:List Span}(h:out.length<s.length)(x:Span):(mixS out s).take out.length++[x]++(mixS out s).drop (out.length+1)=mixS (out++[x]) s:=by
 simp only[mixS];rw[Cj (Ac _),AB,List.drop_append,Aw (by omega),List.nil_append,show out.length+1-out.length=1 from by omega,Eb];simp
theorem zc1{out s:List Span}{j:Nat}(h1:out.length<=j):nth (mixS out s) j=nth s j:=by
 simp only[nth,mixS,Am];rw[A5 h1,BE,show out.length+(j-out.length)=j from by omega]
theorem YY{mm s:List Span}{y:Span}:nth (mixS (mm++[y]) s) mm.length=y:=by
 simp[nth,mixS,Am]
theorem UC(s:List Span):mixS [] s=s:=by simp[mixS]
theorem z4q{mm s:List Span}{y z:Span}:((mixS (mm++[y]) s).map C3).set mm.length (C3 z)=(mixS (mm++[z]) s).map C3:=by
 simp[mixS]
theorem SU{l m:List Span}(hp:m.Perm (inN l))(hs:JW m)(j:Nat):∀s∈(m.take j).foldl Eh [],-1073741824<=s.lo/\s.lo<=s.hi/\s.hi<=1073741824:=by
 have hok:∀s∈m,s.lo<=s.hi:=λs h=>U3 s (hp.mem_iff.1 h);obtain⟨a1,a2⟩:=Hi (m.take j) [] ⟨by simp,by simp⟩ (λs h=>hok s (BC h)) (Em (ES j m) hs) (λs _ t ht=>by cases ht);intro s hsm;have hle:=a1.1 s hsm
 have key:∀v,memL ((m.take j).foldl Eh []) v->-1073741824<=v/\v<=1073741824:=λv hv=>by
  rcases (a2 v).1 hv with h|⟨t,ht,h1,h2⟩
  ·exact absurd h (BP _)
  ·exact (Y8.1 ⟨t,hp.mem_iff.1 (BC ht),h1,h2⟩).2
 have k1:=key s.lo ⟨s,hsm,B1 _,hle⟩;have k2:=key s.hi ⟨s,hsm,hle,B1 _⟩;omega
theorem Ky(l:List Span)(hl:l.length<=1000000000000):B4 Tryz.prog 181 [By l] (Abs.hl []) λy H'=>∃rest:List Span,y=.ref 0 1 0 (Bq l).length/\H'=Abs.hl [⟨2,1,true,(Bq l++rest).map C3⟩]:=by
 refine Ug (b:=0) SF rfl ?_;unfold Ml;(with_reducible repeat'(first|simp (disch:=omega) only[push_cast,↓zz,seval]|apply Aa|refine sp_ ?_ ?_<;>intro hc<;>push_cast at hc|omega|intro _))
 refine Bv (B8 (λ(k:Nat)=>k<=l.length) (λk=>l.length-k) (λk=>[(3,.ref 0 1 0 (inN (l.take k)).length),(13,By l),(14,.int .i64 l.length),(15,.int .i64 k)])
  (λk=>[⟨2,1,true,(Mw (inN (l.take k)) l.length).map C3⟩]) (λenv _=>[DD 2 (env 3)]) 0 (by simp) ?_ ?_)
 ·have h0:(List.replicate l.length (AV.agg [AV.int IntKind.i64 0,AV.int IntKind.i64 0]))=(Mw [] l.length).map C3:=by simp[Mw]
  have h1:inN ([]:List Span)=[]:=rfl;(with_reducible repeat'(first|simp (disch:=omega) only[push_cast,↓zz,seval,h0,h1,EI]|apply Aa|refine sp_ ?_ ?_<;>intro hc<;>push_cast at hc|omega|intro _))
 intro k hk;have hlen:(inN (l.take k)).length<=k:=by have:=SN (l.take k);simp at this;omega
 have hr:=YW (m:=inN (l.take k)) (n:=l.length) (by omega);rcases Aj k l.length with hkl|hkl
 ·have hE:((Mw (inN (l.take k)) l.length).map C3).isEmpty=false:=by
   cases hq:Mw (inN (l.take k)) l.length with
   |nil=>rw[hq] at hr;simp at hr;omega
   |cons _ _=>rfl
  have ht:=z4l hkl;refine W_T ?_;(with_reducible repeat'(first|simp (disch:=omega) only[push_cast,↓zz,seval,hr,hE]|apply Aa|refine sp_ ?_ ?_<;>intro hc<;>push_cast at hc|omega|intro _))
  ·rw[Af (show (Jz (nth l k)).lo<=(Jz (nth l k)).hi from hc)] at ht
   refine⟨k+1,⟨⟨by rw[ht];simp,by simp⟩,?_⟩,by omega,by omega⟩;rw[ht,<-YX (show (inN (l.take k)).length<l.length by omega) (Jz (nth l k))];simp only[A7,Bf,Bh,Ax,List.singleton_append];exact B0 _ _
  ·rw[Ae (show ¬(Jz (nth l k)).lo<=(Jz (nth l k)).hi from hc),A3] at ht
   refine⟨k+1,⟨⟨by rw[ht],by simp⟩,?_⟩,by omega,by omega⟩;rw[ht];exact B0 _ _
 ·obtain rfl:k=l.length:=by omega
  refine W_T ?_;(with_reducible repeat'(first|simp (disch:=omega) only[push_cast,↓zz,seval,hr]|apply Aa|refine sp_ ?_ ?_<;>intro hc<;>push_cast at hc|omega|intro _));rw[AB] at *;refine B4.mono (z4m (inN l) (List.replicate (l.length-(inN l).length) z4n) (by omega)) ?_;rintro y H' ⟨rfl,m',hp,hs,rfl⟩;have hpl:=hp.length_eq;have hrl:(List.replicate (l.length-(inN l).length) z4n).length<=l.length:=by simp
  generalize List.replicate (l.length-(inN l).length) z4n=rest at *;rw[<-z48 hp hs,<-hpl];have hml:m'.length<=1000000000000:=by have:=SN l;omega
  (with_reducible repeat'(first|simp (disch:=omega) only[push_cast,↓zz,seval]|apply Aa|refine sp_ ?_ ?_<;>intro hc<;>push_cast at hc|omega|intro _));have hfl:∀j,((m'.take j).foldl Eh []).length<=j:=λj=>by have:=Pk (m'.take j) [];simp at this;omega
  have hmr:∀j,j<=m'.length->(mixS ((m'.take j).foldl Eh []) (m'++rest)).length=m'.length+rest.length:=λj hj=>by rw[z4o (by have:=hfl j;simp;omega)];simp
  refine Bv (B8 (λ(j:Nat)=>j<=m'.length) (λj=>m'.length-j) (λj=>[(6,.ref 0 1 0 ((m'.take j).foldl Eh []).length),(41,.ref 0 1 0 m'.length),(42,.int .i64 m'.length),(43,.int .i64 j)])
   (λj=>[⟨2,1,true,(mixS ((m'.take j).foldl Eh []) (m'++rest)).map C3⟩]) (λenv _=>[DD 2 (env 6)]) 0 (by simp) ?_ ?_)
  ·(with_reducible repeat'(first|simp (disch:=omega) only[push_cast,↓zz,seval,UC,EI,List.foldl_nil]|apply Aa|refine sp_ ?_ ?_<;>intro hc<;>push_cast at hc|omega|intro _))
  intro j hj;have hlj:=hmr j hj;have hfj:=hfl j;rcases Aj j m'.length with hjm|hjm
  ·have hstep:(m'.take (j+1)).foldl Eh []=Eh ((m'.take j).foldl Eh []) (nth m' j):=by rw[take_at hjm,EP];rfl
   have hat:=zc1 (s:=m'++rest) hfj;have hat2:nth (m'++rest) j=nth m' j:=by simp[nth,Am,Az hjm]
   rw[hat2] at hat;have hbd:=SU hp hs j
   have hE:((mixS ((m'.take j).foldl Eh []) (m'++rest)).map C3).isEmpty=false:=by
    cases hq:mixS ((m'.take j).foldl Eh []) (m'++rest) with
    |nil=>rw[hq] at hlj;simp at hlj;omega
    |cons _ _=>rfl
   generalize (m'.take j).foldl Eh []=out at *;rcases FU out with rfl|⟨mm,y,rfl⟩
   ·refine W_T ?_
    (with_reducible repeat'(first|simp (disch:=omega) only[push_cast,↓zz,seval,hlj,hat,hE]|apply Aa|refine sp_ ?_ ?_<;>intro hc<;>push_cast at hc|omega|intro _));refine⟨j+1,⟨⟨by rw[hstep];simp[FT],by simp⟩,?_⟩,by omega,by omega⟩;rw[hstep,FT,UC];exact B0 _ _
   ·rw[Jy] at hstep
    have hmm:mm.length+1<=j:=by simpa using hfj
    have hw:IntKind.i64.wrap (mm.length:Int)=mm.length:=IntWalk.i64_in _ (by omega);have hy:=hbd y (by simp);have hwy:IntKind.i64.wrap (y.hi+1)=y.hi+1:=IntWalk.i64_in _ (by omega);have hset:=z4q (mm:=mm) (s:=m'++rest) (y:=y) (z:=⟨y.lo,max y.hi (nth m' j).hi⟩);refine W_T ?_;(with_reducible repeat'(first|simp (disch:=omega) only[push_cast,↓zz,seval,hlj,hat,YY,hE,hw,hwy,hset,EI]|apply Aa|refine sp_ ?_ ?_<;>intro hc<;>push_cast at hc|omega|intro _))
    ·rw[Af hc] at hstep
     refine⟨j+1,⟨⟨by rw[hstep];simp,by simp⟩,?_⟩,by omega,by omega⟩;rw[hstep];exact B0 _ _
    ·rw[Ae hc] at hstep
     refine⟨j+1,⟨⟨by rw[hstep];simp,by simp⟩,?_⟩,by omega,by omega⟩;rw[hstep,<-z4p (show (mm++[y]).length<(m'++rest).length by simp;omega) (nth m' j)];simp only[A7,Bf,Bh,Ax,List.singleton_append,Al,List.length_singleton];exact B0 _ _
  ·obtain rfl:j=m'.length:=by omega
   rw[AB] at *;refine W_T ?_;(with_reducible repeat'(first|simp (disch:=omega) only[push_cast,↓zz,seval,hlj]|apply Aa|refine sp_ ?_ ?_<;>intro hc<;>push_cast at hc|omega|intro _));refine Q6 [.grp 0] (.ref 0 1 0 (m'.foldl Eh []).length) [⟨2,1,true,(m'.foldl Eh []++(m'++rest).drop (m'.foldl Eh []).length).map C3⟩] ?_ ⟨_,rfl,rfl⟩;(with_reducible repeat'(first|simp (disch:=omega) only[push_cast,↓zz,seval]|apply Aa|refine sp_ ?_ ?_<;>intro hc<;>push_cast at hc|omega|intro _))
   all_goals (rw[<-A7];exact B0 _ _)
theorem CK(l:List Span)(hl:l.length<=1000000000000):PC Tryz.prog 181 [By l] (By (Bq l)):=by
 have h:B4 Tryz.prog 181 [By l] (Abs.hl []) λy H'=>y=By (Bq l)/\H'=Abs.hl []:=by
  refine LR ((Ky l hl).mono ?_);rintro y H' ⟨rest,rfl,rfl⟩;refine Q6 [] (By (Bq l)) [] ?_ ⟨rfl,rfl⟩;have ht:List.take (Bq l).length ((Bq l).map C3++rest.map C3)=(Bq l).map C3:=CV (by simp);have hn:(Bq l).length<=(Bq l).length+rest.length:=by omega
  (with_reducible repeat'(first|simp (disch:=omega) only[push_cast,↓zz,seval,ht,hn]|apply Aa|refine sp_ ?_ ?_<;>intro hc<;>push_cast at hc|omega|intro _))
 rw[PC,Qw];exact h
def Gp(x y:Span):Span:=⟨max x.lo y.lo,min x.hi y.hi⟩
def F5:List Span->List Span->List Span
 |x::a,y::b=>(if (Gp x y).lo<=(Gp x y).hi then [Gp x y] else [])++if x.hi<y.hi then F5 a (y::b) else F5 (x::a) b
 |_,_=>[]
termination_by a b=>a.length+b.length
theorem GR(b:List Span):F5 [] b=[]:=by rw[F5];simp
theorem G7(a:List Span):F5 a []=[]:=by cases a<;>rw[F5]<;>simp
theorem Kz(x y:Span)(a b:List Span):F5 (x::a) (y::b)=(if (Gp x y).lo<=(Gp x y).hi then [Gp x y] else [])++if x.hi<y.hi then F5 a (y::b) else F5 (x::a) b:=by rw[F5]
theorem Mx(a b:List Span)(la:a.length<=1000000000000)(lb:b.length<=1000000000000):PC Tryz.prog 182 [By a,By b] (By (F5 (Bq a) (Bq b))):=by
 refine Ct SG ?_;unfold Mm;(with_reducible repeat'(first|simp (disch:=omega) only[push_cast,↓zz,seval]|apply Aa|refine sp_ ?_ ?_<;>intro hc<;>push_cast at hc|(have q_:=CK a la;refine ee q_ ?_;clear q_)|(have q_:=CK b lb;refine ee q_ ?_;clear q_)|(have q_:=CK a la;refine cc q_ ?_;clear q_;(simp(disch:=omega)only[push_cast,↓zz,seval]);(fail_if_success change False))|(have q_:=CK b lb;refine cc q_ ?_;clear q_;(simp(disch:=omega)only[push_cast,↓zz,seval]);(fail_if_success change False))|omega|intro _));have ha:=EX a;have hb:=EX b;generalize Bq a=a0 at *;generalize Bq b=b0 at *
 refine Bv (B8 (λ(s:List Span × List Span × List Span)=>F5 a0 b0=s.2.2++F5 s.1 s.2.1/\s.1.length+s.2.1.length+s.2.2.length<=a0.length+b0.length) (λs=>s.1.length+s.2.1.length)
  (λs=>[(0,By s.1),(1,By s.2.1),(5,.ref 0 1 0 s.2.2.length)]) (λs=>[⟨2,1,false,s.2.2.map C3⟩]) (λenv _=>[DD 2 (env 5)]) (a0,b0,[]) (by simp) ?_ ?_)
 ·(with_reducible repeat'(first|simp (disch:=omega) only[push_cast,↓zz,seval]|apply Aa|refine sp_ ?_ ?_<;>intro hc<;>push_cast at hc|omega|intro _))
 rintro⟨a',b',out⟩ ⟨h1,h2⟩;simp only at h1 h2;cases a' with
 |nil =>
  rw[GR,A3] at h1;rw[h1];refine W_T ?_;(with_reducible repeat'(first|simp (disch:=omega) only[push_cast,↓zz,seval]|apply Aa|refine sp_ ?_ ?_<;>intro hc<;>push_cast at hc|omega|intro _))
 |cons x a' =>
  cases b' with
  |nil =>
   rw[G7,A3] at h1;rw[h1];refine W_T ?_;(with_reducible repeat'(first|simp (disch:=omega) only[push_cast,↓zz,seval]|apply Aa|refine sp_ ?_ ?_<;>intro hc<;>push_cast at hc|omega|intro _))
  |cons y b' =>
   rw[Kz] at h1;simp only[List.length_cons] at h2;refine W_T ?_;(with_reducible repeat'(first|simp (disch:=omega) only[push_cast,↓zz,seval,By,C3]|apply Aa|refine sp_ ?_ ?_<;>intro hc<;>push_cast at hc|omega|intro _))
   ·rw[Af (show (Gp x y).lo<=(Gp x y).hi from ‹max x.lo y.lo<=min x.hi y.hi›),Af hc] at h1
    refine⟨(a',y::b',out++[Gp x y]),⟨⟨rfl,rfl,by simp⟩,?_⟩,⟨by simp[h1],by first|(simp;done)|(simp;omega)⟩,by simp⟩;rw[A7];exact B0 _ _
   ·rw[Af (show (Gp x y).lo<=(Gp x y).hi from ‹max x.lo y.lo<=min x.hi y.hi›),Ae hc] at h1
    refine⟨(x::a',b',out++[Gp x y]),⟨⟨rfl,rfl,by simp⟩,?_⟩,⟨by simp[h1],by first|(simp;done)|(simp;omega)⟩,by first|(simp;done)|(simp;omega)⟩;rw[A7];exact B0 _ _
   ·rw[Ae (show ¬(Gp x y).lo<=(Gp x y).hi from ‹¬max x.lo y.lo<=min x.hi y.hi›),Af hc,List.nil_append] at h1
    refine⟨(a',y::b',out),⟨⟨rfl,rfl,rfl⟩,B0 _ _⟩,⟨h1,by first|(simp;done)|(simp;omega)⟩,by simp⟩
   ·rw[Ae (show ¬(Gp x y).lo<=(Gp x y).hi from ‹¬max x.lo y.lo<=min x.hi y.hi›),Ae hc,List.nil_append] at h1
    refine⟨(x::a',b',out),⟨⟨rfl,rfl,rfl⟩,B0 _ _⟩,⟨h1,by first|(simp;done)|(simp;omega)⟩,by first|(simp;done)|(simp;omega)⟩
theorem Im:∀(a b:List Span),Plain a->Plain b->Plain (F5 a b)/\∀v,memL (F5 a b) v↔memL a v/\memL b v
 |[],b,_,_=>by
  rw[GR];exact⟨⟨by simp,by simp⟩,λv=>by simp only[BP,false_and]⟩
 |x::a,[],_,_=>by
  rw[G7];exact⟨⟨by simp,by simp⟩,λv=>by simp only[BP,and_false]⟩
 |x::a,y::b,ha,hb=>by
  have hx:=ha.head;have hy:=hb.head;rw[Kz]
  -- what the rest has,begins behind what ends first
  have key:∀{r:List Span},Plain r->(∀v,memL r v->min x.hi y.hi+1<v)->Plain ((if (Gp x y).lo<=(Gp x y).hi then [Gp x y] else [])++r)/\∀v,memL ((if (Gp x y).lo<=(Gp x y).hi then [Gp x y] else [])++r) v↔((x.lo<=v/\v<=x.hi)/\(y.lo<=v/\v<=y.hi))\/memL r v:=by
   intro r hr hv;split
   ·rename_i hle
    refine⟨⟨?_,?_⟩,λv=>?_⟩
    ·intro s hs
     rcases Ap.1 hs with hs|hs
     ·simp only[Aq] at hs;subst hs;exact hle
     ·exact hr.1 s hs
    ·rw[List.singleton_append,AG]
     exact⟨λt ht=>hv t.lo ⟨t,ht,B1 _,hr.1 t ht⟩,hr.2⟩
    ·rw[List.singleton_append,Bc]
     simp only[Gp];constructor
     ·rintro (h|h)
      ·exact .inl (by omega)
      ·exact .inr h
     ·rintro (h|h)
      ·exact .inl (by omega)
      ·exact .inr h
   ·rename_i hle
    simp only[Gp] at hle;rw[List.nil_append];refine⟨hr,λv=>⟨.inr,λh=>h.resolve_left λh=>by omega⟩⟩
  by_cases hlt:x.hi<y.hi
  ·rw[Af hlt]
   obtain⟨p1,p2⟩:=Im a (y::b) ha.tail hb;obtain⟨q1,q2⟩:=key p1 λv hv=>by have:=ha.after ((p2 v).1 hv).1;omega
   refine⟨q1,λv=>?_⟩;rw[q2 v,p2 v,Bc,Bc];constructor
   ·rintro (⟨h1,h2⟩|⟨h1,h2⟩)
    ·exact⟨.inl h1,.inl h2⟩
    ·exact⟨.inr h1,h2⟩
   ·rintro⟨h1|h1,h2⟩
    ·rcases h2 with h2|h2
     ·exact .inl ⟨h1,h2⟩
     ·have:=hb.after h2;omega
    ·exact .inr ⟨h1,h2⟩
  ·rw[Ae hlt]
   obtain⟨p1,p2⟩:=Im (x::a) b ha hb.tail;obtain⟨q1,q2⟩:=key p1 λv hv=>by have:=hb.after ((p2 v).1 hv).2;omega
   refine⟨q1,λv=>?_⟩;rw[q2 v,p2 v,Bc,Bc];constructor
   ·rintro (⟨h1,h2⟩|⟨h1,h2⟩)
    ·exact⟨.inl h1,.inl h2⟩
    ·exact⟨h1,.inr h2⟩
   ·rintro⟨h1,h2|h2⟩
    ·rcases h1 with h1|h1
     ·exact .inl ⟨h1,h2⟩
     ·have:=ha.after h1;omega
    ·exact .inr ⟨h1,h2⟩
termination_by a b=>a.length+b.length
theorem F8(l:List Span):∀s∈Bq l,-1073741824<=s.lo/\s.lo<=s.hi/\s.hi<=1073741824:=by
 obtain⟨h1,h2⟩:=Bl l;intro s hs;have hle:=h1.1 s hs;have k1:=((h2 s.lo).1 ⟨s,hs,B1 _,hle⟩).2;have k2:=((h2 s.hi).1 ⟨s,hs,hle,B1 _⟩).2;omega
def K1:Int->List Span->List Span
 |f,[]=>[⟨f,1073741824⟩]
 |f,x::l=>⟨f,x.lo-1⟩::K1 (x.hi+1) l
theorem Rn:∀(l:List Span)(f:Int),(K1 f l).length=l.length+1
 |[],f=>rfl
 |x::l,f=>by rw[K1,List.length_cons,Rn l];rfl
theorem Ro:∀(l:List Span)(f:Int),Plain l->(∀s∈l,f<=s.lo/\s.hi<=1073741824)->∀v,memL (K1 f l) v↔f<=v/\v<=1073741824/\¬memL l v
 |[],f,_,_,v=>by
  rw[K1,Bc];simp only[BP,AA,Br,and_true]
 |x::l,f,h,hb,v=>by
  have hx:=h.head;have hxb:=hb x (by simp);rw[K1,Bc,Ro l (x.hi+1) h.tail (λs hs=>⟨by have:=(AG.1 h.2).1 s hs;omega,(hb s (by simp[hs])).2⟩) v,Bc];have ha:memL l v->x.hi+1<v:=λhv=>h.after hv;dsimp only;constructor
  ·rintro (h1|⟨h1,h2,h3⟩)
   ·exact⟨h1.1,by omega,λhh=>hh.elim (λhh=>by omega) (λhh=>by have:=ha hh;omega)⟩
   ·exact⟨by omega,h2,λhh=>hh.elim (λhh=>by omega) h3⟩
  ·rintro⟨h1,h2,h3⟩
   rcases Dx v x.lo with hlt|hge
   ·exact .inl ⟨h1,by omega⟩
   ·refine .inr ⟨?_,h2,λhh=>h3 (.inr hh)⟩
    rcases Dx x.hi v with hlt2|hge2
    ·omega
    ·exact absurd (.inl ⟨hge,hge2⟩) h3
def Io(a b:List Span):List Span:=F5 (Bq a) (Bq (K1 (-1073741824) (Bq b)))
theorem Ws(a b:List Span):Plain (Io a b)/\∀v,memL (Io a b) v↔memL a v/\(-1073741824<=v/\v<=1073741824)/\¬memL b v:=by
 obtain⟨a1,a2⟩:=Bl a;obtain⟨b1,b2⟩:=Bl b;obtain⟨g1,g2⟩:=Bl (K1 (-1073741824) (Bq b));obtain⟨m1,m2⟩:=Im _ _ a1 g1;refine⟨m1,λv=>?_⟩;rw[Io,m2 v,a2 v,g2 v,Ro _ _ b1 (λs hs=>by have:=F8 b s hs;omega) v,b2 v];constructor
 ·rintro⟨⟨h1,h2⟩,⟨h3,h4,h5⟩,h6⟩
  exact⟨h1,h2,λh=>h5 ⟨h,h2⟩⟩
 ·rintro⟨h1,h2,h3⟩
  exact⟨⟨h1,h2⟩,⟨h2.1,h2.2,λh=>h3 h.1⟩,h2⟩
theorem NY(a b:List Span)(la:a.length<=100000000000)(lb:b.length<=100000000000):PC Tryz.prog 165 [By a,By b] (By (Io a b)):=by
 refine Ct Rb ?_;unfold KS;(with_reducible repeat'(first|simp (disch:=omega) only[push_cast,↓zz,seval]|apply Aa|refine sp_ ?_ ?_<;>intro hc<;>push_cast at hc|(have q_:=CK b (by omega);refine ee q_ ?_;clear q_)|(have q_:=CK b (by omega);refine cc q_ ?_;clear q_;(simp(disch:=omega)only[push_cast,↓zz,seval]);(fail_if_success change False))|omega|intro _));have hb:=EX b;have hbd:=F8 b;have hgl:=Rn (Bq b) (-1073741824);have hmeet:=Mx a (K1 (-1073741824) (Bq b)) (by omega) (by omega);rw[<-Io] at hmeet;generalize Bq b=b0 at *
 refine Bv (B8 (λ(s:Nat × Int × List Span)=>s.1<=b0.length/\s.2.2.length=s.1/\(-1073741824<=s.2.1/\s.2.1<=1073741825)/\K1 (-1073741824) b0=s.2.2++K1 s.2.1 (b0.drop s.1)) (λs=>b0.length-s.1)
  (λs=>[(0,By a),(5,.ref 0 1 0 s.2.2.length),(6,.int .i64 s.2.1),(10,By b0),(11,.int .i64 b0.length),(12,.int .i64 s.1)]) (λs=>[⟨2,1,false,s.2.2.map C3⟩]) (λenv _=>[DD 2 (env 5)]) (0,-1073741824,[]) (by simp) ?_ ?_)
 ·(with_reducible repeat'(first|simp (disch:=omega) only[push_cast,↓zz,seval]|apply Aa|refine sp_ ?_ ?_<;>intro hc<;>push_cast at hc|omega|intro _))
 rintro⟨k,f,out⟩ ⟨h1,h2,h3,h4⟩;simp only at h1 h2 h3 h4;rcases Aj k b0.length with hk|hk
 ·have hx:=hbd _ (Bo hk)
  rw[drop_at hk,K1] at h4;have w1:IntKind.i64.wrap ((nth b0 k).lo-1)=(nth b0 k).lo-1:=IntWalk.i64_in _ (by omega);have w2:IntKind.i64.wrap ((nth b0 k).hi+1)=(nth b0 k).hi+1:=IntWalk.i64_in _ (by omega);refine W_T ?_;(with_reducible repeat'(first|simp (disch:=omega) only[push_cast,↓zz,seval,w1,w2]|apply Aa|refine sp_ ?_ ?_<;>intro hc<;>push_cast at hc|omega|intro _));refine⟨(k+1,(nth b0 k).hi+1,out++[⟨f,(nth b0 k).lo-1⟩]),⟨⟨by simp,rfl,by simp⟩,?_⟩,⟨by omega,by simp[h2],by simp only;omega,by simp[h4]⟩,by omega⟩;rw[A7];exact B0 _ _
 ·obtain rfl:k=b0.length:=by omega
  rw[Aw (Ac _),K1] at h4;rw[h4] at hmeet
  have htk:List.take (out.length+1) (out.map C3++[AV.agg [.int .i64 f,.int .i64 1073741824]])=(out++[(⟨f,1073741824⟩:Span)]).map C3:=by
   rw[An (by simp),A7];rfl
  refine W_T ?_;(with_reducible repeat'(first|simp (disch:=omega) only[push_cast,↓zz,seval,By,Eg,htk,EI]|apply Aa|refine sp_ ?_ ?_<;>intro hc<;>push_cast at hc|refine ee hmeet ?_|(refine cc hmeet ?_;(simp(disch:=omega)only[push_cast,↓zz,seval,By,Eg,htk,EI]);(fail_if_success change False))|omega|intro _))
  all_goals trace_state
theorem My(a b:List Span)(la:a.length<=100000000000)(lb:b.length<=100000000000):PC Tryz.prog 146 [By a,By b] (.bool (decide (Io a b=[]))):=by
 refine Ct Pg ?_;unfold JQ;(with_reducible repeat'(first|simp (disch:=omega) only[push_cast,↓zz,seval]|apply Aa|refine sp_ ?_ ?_<;>intro hc<;>push_cast at hc|(have q_:=NY a b la lb;refine ee q_ ?_;clear q_)|(have q_:=NY a b la lb;refine cc q_ ?_;clear q_;(simp(disch:=omega)only[push_cast,↓zz,seval]);(fail_if_success change False))|omega|intro _))
 all_goals (rw[Cv];exact⟨λh=>Ao (by omega),λh=>by rw[h];rfl⟩)
theorem TI_w{I:Itr}{n:Nat}{s:Option Nat}{env:Env}{H:As}{Q:Option Nat->Ex->Env->As->Prop}{ops:List AOp}{P:Program}(hP:I.P=P)(h:W P n 0 (.reg ops) env H (Q s)):TI I n (.reg ops) s env H Q:=zg2 (by
 rw[hP];rw[W] at h
 first|exact h|rwa [Kj] at h|(simpa only[Kj] using h))
theorem SV{I:Itr}{n:Nat}{s:Option Nat}{env:Env}{H:As}{Q Q':Option Nat->Ex->Env->As->Prop}{c:AC}(h:TI I n c s env H Q)(hq:∀s x e H,Q s x e H->Q' s x e H):TI I n c s env H Q' :=
 λcode hc S a X hN hF hd=>wpIn_mono (h code hc S a X hN hF hd) λe a w hh=>by
  obtain⟨S',env',H',x,s',X',h1,h2,h3,h4,h5,h6⟩:=hh;exact⟨S',env',H',x,s',X',h1,h2,h3,h4,h5,hq _ _ _ _ h6⟩
def JX:AC->Bool
 |.skip|.reg _|.exit _|.ret=>true
 |.seq x y=>JX x&&JX y
 |.cond _ x y=>JX x&&JX y
 |.block _ c=>JX c
 |_=>false
theorem TI_W{I:Itr}{n:Nat}{P:Program}(hP:I.P=P):∀{c:AC}{s:Option Nat}{env:Env}{H:As}{Q:Ex->Env->As->Prop},JX c=true->W P n 0 c env H Q->TI I n c s env H (λs' x e H'=>s'=s/\Q x e H')
 |.skip,s,env,H,Q,_,h=>zbn ⟨rfl,h⟩
 |.exit id,s,env,H,Q,_,h=>zbo ⟨rfl,h⟩
 |.ret,s,env,H,Q,_,h=>zg1 ⟨rfl,h⟩
 |.reg ops,s,env,H,Q,_,h=>TI_w (Q:=λs' x e H'=>s'=s/\Q x e H') hP (by
  have h':wk P ops env H _:=h;show wk P ops env H (λe H'=>s=s/\Q .normal e H');have e:(λ(e:Env) (H':As)=>s=s/\Q .normal e H')=λe H'=>Q .normal e H':=by funext e H';simp
  rw[e]
  exact h')
 |.seq x y,s,env,H,Q,hc,h=>by
  simp only[JX,Ab] at hc;refine GG (SV (TI_W hP (c:=x) hc.1 h) λs' z e H' hh=>?_);obtain⟨rfl,hh⟩:=hh;cases z with
  |normal=>exact TI_W hP (c:=y) hc.2 hh
  |exit id=>exact⟨rfl,hh⟩
  |ret=>exact⟨rfl,hh⟩
 |.cond c x y,s,env,H,Q,hc,h=>by
  simp only[JX,Ab] at hc;have h':Sn (c.eval env) (W P n 0 x env H Q) (W P n 0 y env H Q):=h;unfold Sn at h';split at h'
  ·rename_i q hq;exact zbp hq (λhb=>TI_W hP hc.1 (h'.1 hb)) (λhb=>TI_W hP hc.2 (h'.2 hb))
  ·exact h'.elim
 |.block id c,s,env,H,Q,hc,h=>by
  refine H7 (SV (TI_W hP (c:=c) hc h) λs' z e H' hh=>?_);obtain⟨rfl,hh⟩:=hh;cases z with
  |normal=>exact⟨rfl,hh⟩
  |ret=>exact⟨rfl,hh⟩
  |exit k =>
   simp only[Ex.inBlock,Ex.inBlockI] at hh ⊢;split<;>rename_i hk
   ·rw[Af hk] at hh;exact⟨trivial,hh⟩
   ·rw[Ae hk] at hh;exact⟨trivial,hh⟩
theorem TI_v{I:Itr}{n:Nat}{P:Program}{c:AC}{s:Option Nat}{env:Env}{H:As}{Q:Option Nat->Ex->Env->As->Prop}(hP:I.P=P)(hc:JX c=true)(h:W P n 0 c env H (Q s)):TI I n c s env H Q :=
 SV (TI_W hP hc h) λs' x e H' hh=>by
  obtain⟨rfl,hh⟩:=hh;exact hh
theorem Rp:∀(live:List (Nat × AV))(i:Nat),Ef live i=.any\/(i,Ef live i)∈live:=by
 intro live i
 induction live with
 |nil=>exact .inl rfl
 |cons p l ih =>
  obtain⟨t,x⟩:=p;show (if i=t then x else Ef l i)=.any\/(i,if i=t then x else Ef l i)∈(t,x)::l;split
  ·rename_i h;subst h;exact .inr (by simp)
  ·rcases ih with h|h
   ·exact .inl h
   ·exact .inr (by simp[h])
theorem zg9{I:Itr}{n:Nat}{s:Option Nat}{env:Env}{H:As}{Q:Option Nat->Ex->Env->As->Prop}{c:AC}{live:List (Nat × AV)}(hl:∀p∈live,env p.1=p.2)(h:TI I n c s (Ef live) H Q):TI I n c s env H Q :=
 λcode hc S a X hN hF hd=>h code hc S a X hN ⟨hF.size,hF.defers,λi hi=>by
  rcases Rp live i with he|he
  ·rw[he];trivial
  ·have:=hl _ he
   simp only at this;rw[<-this]
   exact hF.val i hi⟩ hd
theorem YZ{I:Itr}{n:Nat}{s:Option Nat}{env:Env}{H:As}{Q:Option Nat->Ex->Env->As->Prop}{c:AC}{live:List (Nat × AV)}(hl:∀p∈live,env p.1=p.2/\p.2.pure=true)(h:TI I n c s (Ef live) (Abs.hl []) Q):TI I n c s env H Q :=
 λcode hc S a X hN hF hd=>by
  have hN':I.Now s X { S with n:=0 } (Abs.hl []):=⟨⟨rfl,λg hg=>absurd hg (AL _),λg _ hg=>absurd hg (AL _),hN.rel.im⟩,hN.base,hN.keep,hN.im,hN.apart,hN.st⟩;refine h code hc { S with n:=0 } a X hN' ⟨hF.size,by rw[hd];exact Marks.nil hN.base,λi hi=>?_⟩ hd;rcases Rp live i with he|he
  ·rw[he];trivial
  ·obtain⟨h1,h2⟩:=hl _ he
   simp only at h1 h2;have hv:=hF.val i hi;rw[h1] at hv;exact VRel.of_pure (S:=S) (S':={ S with n:=0 }) rfl (λ_ h=>h) h2 hv
def Pw(lo:Int)(n:Nat):List Int:=(List.range n).map λ(i:Nat)=>lo+(i:Int)
def Ff(l:List Span):List Int:=l.flatMap λs=>Pw s.lo (s.hi+1-s.lo).toNat
theorem Mz(l:List Span)(hl:l.length<=1000000000000)(hb:∀s∈l,-1073741824<=s.lo/\s.lo<=s.hi/\s.hi<=1073741824):Q4 Tryz.prog 204 [.cptr (By l)] ((Ff l).map λx=>[.int .i64 x]):=by
 refine Y9 Pj λI hP hr=>?_;show TI I 25 H6 _ _ _ _;unfold H6;refine GG (TI_v hP (by rfl) ?_);(with_reducible repeat'(first|simp (disch:=omega) only[push_cast,↓zz,seval]|apply Aa|refine sp_ ?_ ?_<;>intro hc<;>push_cast at hc|omega|intro _));refine (H7 (SO (λ(t:Nat) s env H=>t<=l.length/\s=some (Ff (l.take t)).length/\∀p∈[(0,AV.yld I.l),(6,By l),(7,AV.int .i64 l.length),(8,AV.int .i64 t)],env p.1=p.2) (λt=>l.length-t) 0 ?_ ?_):TI I 25 _ _ _ _ _)
 ·refine⟨Ay _,by simp[Ff],?_⟩
  simp only[Ah,Au,AA,BW,De];exact⟨rfl,rfl,rfl,rfl⟩
 rintro t s env H ⟨ht,rfl,hlv⟩;refine YZ (live:=[(0,AV.yld I.l),(6,By l),(7,AV.int .i64 l.length),(8,AV.int .i64 t)]) (λp hp=>⟨hlv p hp,?_⟩) ?_
 ·simp only[Ah,Au,AA] at hp
  rcases hp with rfl|rfl|rfl|rfl<;>first|rfl|exact EI l
 refine GG (TI_v hP (by rfl) ?_);(with_reducible repeat'(first|simp (disch:=omega) only[push_cast,↓zz,seval]|apply Aa|refine sp_ ?_ ?_<;>intro hc<;>push_cast at hc|omega|intro _));refine (GG ?_:TI I 25 _ _ _ _ _);refine TI_v hP (by rfl) ?_;(with_reducible repeat'(first|simp (disch:=omega) only[push_cast,↓zz,seval]|apply Aa|refine sp_ ?_ ?_<;>intro hc<;>push_cast at hc|omega|intro _))
 ·refine (GG (H7 (GG ?_)):TI I 25 _ _ _ _ _)
  refine TI_v hP (by rfl) ?_;(with_reducible repeat'(first|simp (disch:=omega) only[push_cast,↓zz,seval]|apply Aa|refine sp_ ?_ ?_<;>intro hc<;>push_cast at hc|omega|intro _));refine (GG ?_:TI I 25 _ _ _ _ _);refine TI_v hP (by rfl) ?_;(with_reducible repeat'(first|simp (disch:=omega) only[push_cast,↓zz,seval]|apply Aa|refine sp_ ?_ ?_<;>intro hc<;>push_cast at hc|omega|intro _));have hs:=hb _ (Bo (l:=l) (i:=t) (by omega))
  have hrow:∀i:Nat,(nth l t).lo+i<=(nth l t).hi->I.rows[(Ff (l.take t)).length+i]? = some [AV.int .i64 ((nth l t).lo+i)]:=λi hi=>by
   have e:Ff l=Ff (l.take t)++(Pw (nth l t).lo ((nth l t).hi+1-(nth l t).lo).toNat++Ff (l.drop (t+1))):=by
    conv=>lhs;rw[<-Cz t l,drop_at (show t<l.length by omega)]
    simp[Ff]
   rw[hr,e,Dh,A5 (by omega),Nat.add_sub_cancel_left,Az (by simp[Pw];omega)];simp only[Pw,Dh];rw[List.getElem?_range (by omega)];rfl
  have hend:(Ff (l.take (t+1))).length=(Ff (l.take t)).length+((nth l t).hi+1-(nth l t).lo).toNat:=by
   rw[take_at (show t<l.length by omega)];simp[Ff,Pw]
  refine (H7 (SO (λ(i:Nat) s env H=>(nth l t).lo+i<=(nth l t).hi+1/\s=some ((Ff (l.take t)).length+i)/\H=Abs.hl [⟨2,1,true,[C3 (nth l t)]⟩]/\∀p∈[(0,AV.yld I.l),(4,AV.ptr 0 1 0 0),(5,AV.int .i64 ((nth l t).lo+i)),(6,By l),(7,AV.int .i64 l.length),(8,AV.int .i64 t)],env p.1=p.2) (λi=>((nth l t).hi+1-(nth l t).lo).toNat-i) 0 ?_ ?_):TI I 25 _ _ _ _ _)
  ·refine⟨by omega,by simp,rfl,?_⟩
   simp only[Ah,Au,AA,BW,De];refine⟨rfl,rfl,?_,rfl,rfl,rfl⟩;show AV.int .i64 (nth l t).lo=AV.int .i64 ((nth l t).lo+(0:Nat));simp
  rintro i s env H ⟨hi,rfl,rfl,hlv2⟩;refine zg9 (live:=[(0,AV.yld I.l),(4,AV.ptr 0 1 0 0),(5,AV.int .i64 ((nth l t).lo+i)),(6,By l),(7,AV.int .i64 l.length),(8,AV.int .i64 t)]) hlv2 ?_;refine GG ?_;refine TI_v hP (by rfl) ?_;(with_reducible repeat'(first|simp (disch:=omega) only[push_cast,↓zz,seval]|apply Aa|refine sp_ ?_ ?_<;>intro hc<;>push_cast at hc|omega|intro _))
  ·refine (GG (H7 (GG ?_)):TI I 25 _ _ _ _ _)
   refine U4 (pre:=[_,_]) (post:=[_]) rfl rfl ?_;refine⟨[AV.int .i64 ((nth l t).lo+i)],rfl,?_,hrow i hc,?_,?_⟩
   ·intro x hx
    simp only[Aq] at hx;subst hx;exact λS v hv=>hv
   ·rw[hP,<-Kj]
    (with_reducible repeat'(first|simp (disch:=omega) only[push_cast,↓zz,seval]|apply Aa|refine sp_ ?_ ?_<;>intro hc<;>push_cast at hc|omega|intro _));refine (TI_v hP ?q1 ?_:TI I 25 _ _ _ _ _)
    case q1=>rfl
    (with_reducible repeat'(first|simp (disch:=omega) only[push_cast,↓zz,seval]|apply Aa|refine sp_ ?_ ?_<;>intro hc<;>push_cast at hc|omega|intro _));refine (TI_v hP ?q2 ?_:TI I 25 _ _ _ _ _)
    case q2=>rfl
    (with_reducible repeat'(first|simp (disch:=omega) only[push_cast,↓zz,seval]|apply Aa|refine sp_ ?_ ?_<;>intro hc<;>push_cast at hc|omega|intro _));refine⟨i+1,⟨by omega,by rw[AY],rfl,rfl,rfl,?_,rfl,rfl,rfl⟩,by omega⟩;show AV.int .i64 ((nth l t).lo+(i:Int)+1)=AV.int .i64 ((nth l t).lo+((i+1:Nat):Int))
    all_goals first|rfl|(rw[AV.int.injEq];exact⟨rfl,by omega⟩)
   ·rw[hP,<-Kj]
    (with_reducible repeat'(first|simp (disch:=omega) only[push_cast,↓zz,seval]|apply Aa|refine sp_ ?_ ?_<;>intro hc<;>push_cast at hc|omega|intro _));refine (TI_v hP ?q3 ?_:TI I 25 _ _ _ _ _)
    case q3=>rfl
    (with_reducible repeat'(first|simp (disch:=omega) only[push_cast,↓zz,seval]|apply Aa|refine sp_ ?_ ?_<;>intro hc<;>push_cast at hc|omega|intro _));exact⟨trivial,.inr rfl⟩
  ·refine (TI_v hP ?q4 ?_:TI I 25 _ _ _ _ _)
   case q4=>rfl
   (with_reducible repeat'(first|simp (disch:=omega) only[push_cast,↓zz,seval]|apply Aa|refine sp_ ?_ ?_<;>intro hc<;>push_cast at hc|omega|intro _));refine⟨t+1,⟨by omega,?_,rfl,rfl,rfl,?_⟩,by omega⟩
   ·first|(rw[hend];congr 2;omega)|trace_state
   all_goals first|rfl|(rw[AV.int.injEq];exact⟨rfl,by omega⟩)
 ·refine⟨trivial,.inl ?_⟩
  rw[An (by omega)]
theorem M0(l:List Span)(hl:l.length<=1000000000000):PC Tryz.prog 197 [By l] (.fn 204 [.cptr (By (Bq l))]):=by
 refine Ct SI ?_;unfold Mo;(with_reducible repeat'(first|simp (disch:=omega) only[push_cast,↓zz,seval]|apply Aa|refine sp_ ?_ ?_<;>intro hc<;>push_cast at hc|(have q_:=CK l hl;refine ee q_ ?_;clear q_)|(have q_:=CK l hl;refine cc q_ ?_;clear q_;(simp(disch:=omega)only[push_cast,↓zz,seval]);(fail_if_success change False))|omega|intro _))
 all_goals trace_state
def hasI(l:List Span)(x:Int):Bool:=decide (-1073741824<=x/\x<=1073741824)&&l.any λp=>decide (p.lo<=x/\x<=p.hi)
theorem Px{α:Type}[Inhabited α]{f:α->Bool}{l:List α}{k:Nat}(h:k<l.length):(l.drop k).any f=(f (nth l k)||(l.drop (k+1)).any f):=by rw[drop_at h,List.any_cons]
theorem Wt{l:List Span}{x:Int}(h:-1073741824<=x/\x<=1073741824):hasI l x=l.any λp=>decide (p.lo<=x/\x<=p.hi):=by simp[hasI,h]
theorem z4r(l:List Span)(x:Int)(hl:l.length<=9223372036854775807):PC Tryz.prog 104 [By l,.int .i64 x] (.bool (hasI l x)):=by
 refine Ct Wh ?_;unfold NP;(with_reducible repeat'(first|simp (disch:=omega) only[push_cast,↓zz,seval]|apply Aa|refine sp_ ?_ ?_<;>intro hc<;>push_cast at hc|omega|intro _))
 all_goals first|(rw[CS];simp[hasI];omega;done)|skip
 rw[Wt (by omega)];refine Bv (B8 (λ(i:Nat)=>i<=l.length/\(l.any λp=>decide (p.lo<=x/\x<=p.hi))=(l.drop i).any λp=>decide (p.lo<=x/\x<=p.hi)) (λi=>l.length-i) (λi=>[(1,.int .i64 x),(13,By l),(14,.int .i64 l.length),(15,.int .i64 i)]) (λ_=>[]) (λ_ _=>[]) 0 (by simp) ?_ ?_)
 ·(with_reducible repeat'(first|simp (disch:=omega) only[push_cast,↓zz,seval]|apply Aa|refine sp_ ?_ ?_<;>intro hc<;>push_cast at hc|omega|intro _))
 rintro i ⟨hi,ht⟩;refine W_T ?_;(with_reducible repeat'(first|simp (disch:=omega) only[push_cast,↓zz,seval]|apply Aa|refine sp_ ?_ ?_<;>intro hc<;>push_cast at hc|omega|intro _))
 ·rw[ht,Px (by omega)];simp[*]
 ·exact⟨i+1,by simp,⟨by omega,by rw[ht,Px (by omega)];simp[*]⟩,by omega⟩
 ·exact⟨i+1,by simp,⟨by omega,by rw[ht,Px (by omega)];simp[*]⟩,by omega⟩
 ·rw[ht,Aw (by omega)];rfl
def Fi(l:List Int):Prop:=l.Pairwise λa b=>a<b
structure Place(l:List Int)(x:Int)(lo hi:Nat):Prop where
 le:lo<=hi
 top:hi<=l.length
 lt:∀j,j<lo->nth l j<x
 ge:∀j,hi<=j->j<l.length->x<=nth l j
def putI(l:List Int)(x:Int):List Int:=if x∈l then l else l.takeWhile (λy=>decide (y<x))++x::l.dropWhile (λy=>decide (y<x))
theorem UD{l:List Int}{x y:Int}:y∈putI l x↔y=x\/y∈l:=by
 unfold putI;split
 ·rename_i h
  constructor
  ·exact .inr
  ·rintro (rfl|h')
   ·exact h
   ·exact h'
 ·rw[Ap,Ah]
  conv=>rhs;rw[<-C4 (p:=λy=>decide (y<x)) (l:=l),Ap]
  constructor
  ·rintro (h|h|h)
   ·exact .inr (.inl h)
   ·exact .inl h
   ·exact .inr (.inr h)
  ·rintro (h|h|h)
   ·exact .inr (.inl h)
   ·exact .inl h
   ·exact .inr (.inr h)
def lowI(l:List Int)(x:Int):Nat:=(l.takeWhile λy=>decide (y<x)).length
theorem z4s(l:List Int)(x:Int):l.take (lowI l x)=l.takeWhile (λy=>decide (y<x))/\l.drop (lowI l x)=l.dropWhile (λy=>decide (y<x)):=by
 have key:∀(u v:List Int),u++v=l->l.take u.length=u/\l.drop u.length=v:=λu v h=>by subst h;exact⟨List.take_left,List.drop_left⟩
 exact key _ _ (C4 (p:=λy=>decide (y<x)) (l:=l))
theorem Za{l:List Int}(hr:Fi l)(x:Int):Place l x (lowI l x) (lowI l x):=by
 induction l with
 |nil=>exact⟨Ac _,by simp[lowI],λj hj=>by simp[lowI] at hj,λj _ hj=>by simp at hj⟩
 |cons a l ih =>
  have hr':Fi l:=(AG.1 hr).2;have hall:=(AG.1 hr).1;by_cases ha:a<x
  ·have e:lowI (a::l) x=lowI l x+1:=by simp[lowI,ha]
   have hp:=ih hr';rw[e];refine⟨Ac _,by have:=hp.top;simp;omega,λj hj=>?_,λj hj hjl=>?_⟩
   ·cases j with
    |zero=>simpa [nth] using ha
    |succ j=>have:=hp.lt j (by omega);simpa [nth] using this
   ·cases j with
    |zero=>omega
    |succ j=>have:=hp.ge j (by omega) (by simpa using hjl);simpa [nth] using this
  ·have e:lowI (a::l) x=0:=by simp[lowI,ha]
   rw[e];refine⟨Ac _,by simp,λj hj=>by omega,λj hj hjl=>?_⟩;cases j with
   |zero=>simp[nth];omega
   |succ j =>
    have hj2:j<l.length:=by simpa using hjl
    have:=hall _ (Bo hj2);have h3:nth (a::l) (j+1)=nth l j:=by simp[nth]
    rw[h3];omega
theorem M1{l:List Int}(hr:Fi l)(x:Int):Fi (putI l x):=by
 unfold putI;split
 ·exact hr
 ·rename_i hx
  have hp:=Za hr x;obtain⟨e1,e2⟩:=z4s l x;rw[<-e1,<-e2];have ht:Fi (l.take (lowI l x)):=Em (ES _ _) hr;have hd:Fi (l.drop (lowI l x)):=Em (List.drop_sublist _ _) hr
  have k1:∀y∈l.take (lowI l x),y<x:=λy hy=>by
   obtain⟨j,hj,he⟩:=AZ hy;rw[List.getElem_take] at he;have hj':j<lowI l x:=by simp at hj;omega
   have hjl:j<l.length:=by simp at hj;omega
   have hn:nth l j=y:=by simp[nth,Am,Ai hjl,he]
   have:=hp.lt j hj';omega
  have k2:∀y∈l.drop (lowI l x),x<y:=λy hy=>by
   obtain⟨j,hj,he⟩:=AZ hy;rw[List.getElem_drop] at he;have hj':lowI l x+j<l.length:=by simp at hj;omega
   have hn:nth l (lowI l x+j)=y:=by simp[nth,Am,Ai hj',he]
   have:=hp.ge (lowI l x+j) (by omega) hj';have hne:y≠x:=λh=>hx (h ▸ BQ hy);omega
  rw[Fi,Dq,AG];refine⟨ht,⟨k2,hd⟩,λa ha b hb=>?_⟩;rcases Ah.1 hb with rfl|hb
  ·exact k1 a ha
  ·have:=k1 a ha;have:=k2 b hb;omega
def Wu(l:List Int)(s:Span):List Int:=if -1073741824<s.lo/\s.lo<=1073741824 then putI l s.lo else l
def Wv(l:List Int)(s:Span):List Int:=if -1073741824<=s.hi/\s.hi<1073741824 then putI l (s.hi+1) else l
def addB(l:List Int)(s:Span):List Int:=Wv (Wu l s) s
def Ga(a b:List Span):List Int:=b.foldl addB (a.foldl addB [-1073741824])
theorem UE(l:List Int)(x:Int):(putI l x).length<=l.length+1:=by
 unfold putI;split
 ·omega
 ·have h:=Ec List.length (C4 (p:=λy=>decide (y<x)) (l:=l))
  simp only[Al] at h;simp only[Al,List.length_cons];omega
theorem z4t{l:List Int}(h:Fi l)(s:Span):Fi (Wu l s)/\(Wu l s).length<=l.length+1:=by
 unfold Wu;split
 ·exact⟨M1 h _,UE _ _⟩
 ·exact⟨h,by omega⟩
theorem z4u{l:List Int}(h:Fi l)(s:Span):Fi (Wv l s)/\(Wv l s).length<=l.length+1:=by
 unfold Wv;split
 ·exact⟨M1 h _,UE _ _⟩
 ·exact⟨h,by omega⟩
theorem zc2{l:List Int}(h:Fi l)(s:Span):Fi (addB l s)/\(addB l s).length<=l.length+2:=by
 obtain⟨h1,h2⟩:=z4t h s;obtain⟨h3,h4⟩:=z4u h1 s;exact⟨h3,by unfold addB;omega⟩
theorem SX:∀(s:List Span){l:List Int},Fi l->Fi (s.foldl addB l)/\(s.foldl addB l).length<=l.length+2 * s.length
 |[],l,h=>⟨h,by simp⟩
 |x::s,l,h=>by
  obtain⟨h1,h2⟩:=zc2 h x;obtain⟨h3,h4⟩:=SX s h1;exact⟨h3,by simp only[List.foldl_cons,List.length_cons];omega⟩
theorem Zb{l:List Int}{s:Span}{y:Int}:y∈Wu l s↔y∈l\/(y=s.lo/\-1073741824<s.lo/\s.lo<=1073741824):=by
 unfold Wu;split
 ·rename_i h;rw[UD];constructor
  ·rintro (h1|h1)
   ·exact .inr ⟨h1,h⟩
   ·exact .inl h1
  ·rintro (h1|h1)
   ·exact .inr h1
   ·exact .inl h1.1
 ·rename_i h;exact⟨.inl,λh1=>h1.resolve_right λh2=>h h2.2⟩
theorem Zc{l:List Int}{s:Span}{y:Int}:y∈Wv l s↔y∈l\/(y=s.hi+1/\-1073741824<=s.hi/\s.hi<1073741824):=by
 unfold Wv;split
 ·rename_i h;rw[UD];constructor
  ·rintro (h1|h1)
   ·exact .inr ⟨h1,h⟩
   ·exact .inl h1
  ·rintro (h1|h1)
   ·exact .inr h1
   ·exact .inl h1.1
 ·rename_i h;exact⟨.inl,λh1=>h1.resolve_right λh2=>h h2.2⟩
def NZ(s:Span)(y:Int):Prop:=(y=s.lo/\-1073741824<s.lo/\s.lo<=1073741824)\/(y=s.hi+1/\-1073741824<=s.hi/\s.hi<1073741824)
theorem M2:∀(s:List Span){l:List Int}{y:Int},y∈s.foldl addB l↔y∈l\/∃t∈s,NZ t y
 |[],l,y=>by simp
 |x::s,l,y=>by
  rw[List.foldl_cons,M2 s,addB,Zc,Zb];constructor
  ·rintro (((h|h)|h)|⟨t,ht,h⟩)
   ·exact .inl h
   ·exact .inr ⟨x,by simp,.inl h⟩
   ·exact .inr ⟨x,by simp,.inr h⟩
   ·exact .inr ⟨t,by simp[ht],h⟩
  ·rintro (h|⟨t,ht,h⟩)
   ·exact .inl (.inl (.inl h))
   ·rcases Ah.1 ht with rfl|ht
    ·rcases h with h|h
     ·exact .inl (.inl (.inr h))
     ·exact .inl (.inr h)
    ·exact .inr ⟨t,ht,h⟩
theorem H9{a b:List Span}{y:Int}:y∈Ga a b↔y=-1073741824\/(∃t∈a,NZ t y)\/∃t∈b,NZ t y:=by
 rw[Ga,M2,M2,Aq,or_assoc]
theorem Jc(a b:List Span):Fi (Ga a b):=(SX b (SX a (by simp[Fi])).1).1
theorem M3{s:Span}{y:Int}(h:NZ s y):-1073741824<y/\y<=1073741824:=by
 unfold NZ at h;omega
theorem Jd{a b:List Span}:∀y∈Ga a b,-1073741824<=y/\y<=1073741824:=λy hy=>by
 rcases H9.1 hy with rfl|⟨t,_,h⟩|⟨t,_,h⟩
 ·omega
 ·have:=M3 h;omega
 ·have:=M3 h;omega
theorem Rq(a b:List Span):∃r,Ga a b=-1073741824::r:=by
 have h1:(-1073741824:Int)∈Ga a b:=H9.2 (.inl rfl);have h2:=Jc a b;have h3:=Jd (a:=a) (b:=b);cases hb:Ga a b with
 |nil=>rw[hb] at h1;cases h1
 |cons x r =>
  rw[hb] at h1 h2 h3;rcases Ah.1 h1 with h|h
  ·exact⟨r,by rw[h]⟩
  ·have:=(AG.1 h2).1 _ h
   have:=h3 x (by simp);omega
theorem JY{l:List Span}{x:Int}:hasI l x=true ↔ -1073741824<=x/\x<=1073741824/\memL l x:=by
 simp only[hasI,Ab,Ag,BG,memL,and_assoc]
theorem Oa{s:List Span}{x v:Int}(hx:-1073741824<=x)(hxv:x<=v)(hv:v<=1073741824)(h:∀t∈s,∀y,NZ t y->y<=x\/v<y):hasI s v=hasI s x:=by
 rw[CS,JY,JY]
 have key:memL s v↔memL s x:=by
  constructor
  ·rintro⟨t,ht,h1,h2⟩
   refine⟨t,ht,?_,by omega⟩;rcases Dx x t.lo with hlt|hle
   ·have:=h t ht t.lo (.inl ⟨rfl,by omega,by omega⟩);omega
   ·exact hle
  ·rintro⟨t,ht,h1,h2⟩
   refine⟨t,ht,by omega,?_⟩;rcases Dx t.hi v with hlt|hle
   ·have:=h t ht (t.hi+1) (.inr ⟨rfl,by omega,by omega⟩);omega
   ·exact hle
 rw[key];constructor
 ·rintro⟨_,_,h⟩;exact⟨hx,by omega,h⟩
 ·rintro⟨_,_,h⟩;exact⟨by omega,hv,h⟩
def addS(out:List Span)(s:Span):List Span :=
 match out.getLast? with
 |some y=>if y.hi=s.lo-1 then out.dropLast++[⟨y.lo,s.hi⟩] else out++[s]
 |none=>[s]
theorem HA(x:Span):addS [] x=[x]:=rfl
theorem M4(out:List Span)(y x:Span):addS (out++[y]) x=if y.hi=x.lo-1 then out++[⟨y.lo,x.hi⟩] else out++[y]++[x]:=by
 simp[addS]
def Ww(l:List Span)(f:Int):Prop:=∀s∈l,s.hi<f
theorem Wx{out:List Span}{x:Span}(h:Plain out)(hx:x.lo<=x.hi)(hb:Ww out x.lo):Plain (addS out x)/\Ww (addS out x) (x.hi+1)/\∀v,memL (addS out x) v↔memL out v\/(x.lo<=v/\v<=x.hi):=by
 rcases FU out with rfl|⟨m,y,rfl⟩
 ·refine⟨⟨by simp[HA,hx],by simp[HA]⟩,by simp[HA,Ww];omega,λv=>?_⟩
  rw[HA,Bc];constructor
  ·rintro (h|h)
   ·exact .inr h
   ·exact absurd h (BP _)
  ·rintro (h|h)
   ·exact absurd h (BP _)
   ·exact .inl h
 ·rw[M4]
  obtain⟨h1,h2,h3⟩:=Gq.1 h;have hy:y.hi<x.lo:=hb y (by simp);have hm:∀s∈m,s.hi<x.lo:=λs hs=>hb s (by simp[hs]);split
  ·rename_i he
   refine⟨Gq.2 ⟨h1,by simp only;omega,λs hs=>h3 s hs⟩,?_,λv=>?_⟩
   ·intro s hs
    rcases Ap.1 hs with hs|hs
    ·have:=hm s hs;omega
    ·simp only[Aq] at hs;subst hs;simp only;omega
   ·rw[EM,EM,Bc,Bc]
    simp only[BP,AA];constructor
    ·rintro (h|h)
     ·exact .inl (.inl h)
     ·by_cases hv:v<=y.hi
      ·exact .inl (.inr ⟨h.1,hv⟩)
      ·exact .inr ⟨by omega,by omega⟩
    ·rintro ((h|h)|h)
     ·exact .inl h
     ·exact .inr ⟨h.1,by omega⟩
     ·exact .inr ⟨by omega,by omega⟩
  ·rename_i he
   refine⟨Gq.2 ⟨h,hx,λs hs=>?_⟩,?_,λv=>?_⟩
   ·rcases Ap.1 hs with hs|hs
    ·have:=h3 s hs;omega
    ·simp only[Aq] at hs;subst hs;omega
   ·intro s hs
    rcases Ap.1 hs with hs|hs
    ·have:=hb s hs;omega
    ·simp only[Aq] at hs;subst hs;omega
   ·rw[EM,Bc]
    simp only[BP,AA]
def toI:List Int->Int
 |[]=>1073741824
 |y::_=>y-1
def Zd(p:Int->Bool):List Int->List Span->List Span
 |[],out=>out
 |x::r,out=>Zd p r (if p x then addS out ⟨x,toI r⟩ else out)
def z4v(p:Int->Bool):List Int->Prop
 |[]=>True
 |x::r=>(∀v,x<=v->v<=toI r->p v=p x)/\z4v p r
theorem Wy{l:List Span}{f g:Int}(h:Ww l f)(hg:f<=g):Ww l g:=λs hs=>by have:=h s hs;omega
theorem M5(p:Int->Bool):∀(l:List Int)(out:List Span)(f:Int),Fi l->(∀x∈l,x<=1073741824)->(f=toI l+1)->z4v p l->Plain out->Ww out f ->
 Plain (Zd p l out)/\∀v,memL (Zd p l out) v↔memL out v\/(f<=v/\v<=1073741824/\p v=true)
 |[],out,f,_,_,hf,_,ho,_=>⟨ho,λv=>by
  simp only[toI] at hf
  exact⟨.inl,λh=>h.resolve_right λh=>by omega⟩⟩
 |x::r,out,f,hr,hm,hf,hs,ho,ha=>by
  have hx:=hm x (by simp);have hfx:f=x:=by rw[hf,toI];omega
  subst hfx
  have hto:f<=toI r:=by
   cases r with
   |nil=>simpa [toI] using hx
   |cons y r=>have:=(AG.1 hr).1 y (by simp);simp only[toI];omega
  have hr':Fi r:=(AG.1 hr).2;rw[Zd];by_cases hp:p f=true
  ·rw[Af hp]
   obtain⟨a1,a2,a3⟩:=Wx (x:=⟨f,toI r⟩) ho hto ha;obtain⟨b1,b2⟩:=M5 p r _ (toI r+1) hr' (λy hy=>hm y (by simp[hy])) rfl hs.2 a1 a2;refine⟨b1,λv=>?_⟩;rw[b2 v,a3 v];constructor
   ·rintro ((h|h)|h)
    ·exact .inl h
    ·refine .inr ⟨h.1,?_,by rw[hs.1 v h.1 h.2];exact hp⟩
     have:toI r<=1073741824:=by
      cases r with
      |nil=>simp[toI]
      |cons y r=>have:=hm y (by simp);simp only[toI];omega
     have:=h.2;simp only at this;omega
    ·exact .inr ⟨by omega,h.2⟩
   ·rintro (h|h)
    ·exact .inl (.inl h)
    ·rcases Dx (toI r) v with hlt|hle
     ·exact .inr ⟨by omega,h.2⟩
     ·exact .inl (.inr ⟨h.1,hle⟩)
  ·rw[Ae hp]
   obtain⟨b1,b2⟩:=M5 p r out (toI r+1) hr' (λy hy=>hm y (by simp[hy])) rfl hs.2 ho (Wy ha (by omega));refine⟨b1,λv=>?_⟩;rw[b2 v];constructor
   ·rintro (h|h)
    ·exact .inl h
    ·exact .inr ⟨by omega,h.2⟩
   ·rintro (h|h)
    ·exact .inl h
    ·rcases Dx (toI r) v with hlt|hle
     ·exact .inr ⟨by omega,h.2⟩
     ·exact absurd ((hs.1 v h.1 hle).symm.trans h.2.2) hp
theorem z7s{p:Int->Bool}:∀(l pre:List Int),Fi (pre++l)->(∀x∈l,-1073741824<=x/\x<=1073741824)->(∀x v,-1073741824<=x->x<=v->v<=1073741824->(∀y∈pre++l,y<=x\/v<y)->p v=p x)->z4v p l
 |[],_,_,_,_=>trivial
 |x::r,pre,hr,hm,h=>by
  refine⟨λv h1 h2=>?_,z7s r (pre++[x]) (by simpa using hr) (λy hy=>hm y (by simp[hy])) (by simpa using h)⟩;obtain⟨p1,p2,p3⟩:=Dq.1 hr;have hx:=hm x (by simp)
  have hto:toI r<=1073741824:=by
   cases r with
   |nil=>simp[toI]
   |cons y r=>have:=hm y (by simp);simp only[toI];omega
  refine h x v hx.1 h1 (by omega) λy hy=>?_;rcases Ap.1 hy with hy|hy
  ·exact .inl (Int.le_of_lt (p3 y hy x (by simp)))
  ·rcases Ah.1 hy with rfl|hy
   ·exact .inl (B1 _)
   ·right
    cases r with
    |nil=>cases hy
    |cons z r =>
     simp only[toI] at h2;rcases Ah.1 hy with rfl|hy
     ·omega
     ·have:=(AG.1 (AG.1 p2).2).1 y hy;omega
def howB(h:Int)(x y:Bool):Bool:=if h=2 then x&&!y else if h=1 then x&&y else x||y
def Ze(a b:List Span)(h:Int):List Span:=Zd (λv=>howB h (hasI a v) (hasI b v)) (Ga a b) []
theorem Ob(a b:List Span)(h:Int):Plain (Ze a b h)/\∀v,memL (Ze a b h) v ↔ -1073741824<=v/\v<=1073741824/\howB h (hasI a v) (hasI b v)=true:=by
 obtain⟨r,hr⟩:=Rq a b;have hbo:=Jd (a:=a) (b:=b);have hri:=Jc a b
 have hseg:z4v (λv=>howB h (hasI a v) (hasI b v)) (Ga a b):=z7s _ [] hri hbo λx v h1 h2 h3 h4=>by
  simp only[List.nil_append] at h4;have e1:hasI a v=hasI a x:=Oa h1 h2 h3 λt ht y hy=>h4 y (H9.2 (.inr (.inl ⟨t,ht,hy⟩)));have e2:hasI b v=hasI b x:=Oa h1 h2 h3 λt ht y hy=>h4 y (H9.2 (.inr (.inr ⟨t,ht,hy⟩)));simp only[e1,e2]
 obtain⟨k1,k2⟩:=M5 _ (Ga a b) [] (-1073741824) hri (λx hx=>(hbo x hx).2) (by rw[hr];simp[toI]) hseg ⟨by simp,by simp⟩ (λs hs=>by cases hs);refine⟨k1,λv=>?_⟩;rw[Ze,k2 v];simp only[BP,BZ]
theorem Wz(a b:List Span):Ze a b 1=F5 (Bq a) (Bq b):=by
 obtain⟨a1,a2⟩:=Ob a b 1;obtain⟨p1,p2⟩:=Bl a;obtain⟨q1,q2⟩:=Bl b;obtain⟨b1,b2⟩:=Im _ _ p1 q1;refine Ih a1 b1 λv=>?_;rw[a2 v,b2 v,p2 v,q2 v];simp only[howB];rw[Ae (by decide),Af trivial,Ab,JY,JY];constructor
 ·rintro⟨h1,h2,⟨_,_,h3⟩,_,_,h4⟩;exact⟨⟨h3,h1,h2⟩,h4,h1,h2⟩
 ·rintro⟨⟨h3,h1,h2⟩,h4,_,_⟩;exact⟨h1,h2,⟨h1,h2,h3⟩,h1,h2,h4⟩
theorem Rr{α:Type}{f:α->AV}{m:List α}{y z:α}:((m++[y]).map f).set m.length (f z)=(m++[z]).map f:=by simp
theorem z4w{α:Type}[Inhabited α]{m:List α}{y:α}:nth (m++[y]) m.length=y:=by simp[nth,Am]
def symI(l:List Span):List Span:=Ze l [⟨0,1114111⟩] 1
theorem Oc(s:Span)(l:List Span):Ff (s::l)=Pw s.lo (s.hi+1-s.lo).toNat++Ff l:=rfl
theorem z4x(x:Int):hasI [⟨0,1114111⟩] x=decide (0<=x/\x<=1114111):=by
 simp only[hasI,List.any_cons,List.any_nil,FM];by_cases h:0<=x/\x<=1114111
 ·simp[h];omega
 ·simp[h]
theorem M6(l:List Span):Plain (symI l)/\∀v,memL (symI l) v↔(0<=v/\v<=1114111)/\memL l v:=by
 obtain⟨h1,h2⟩:=Ob l [⟨0,1114111⟩] 1;refine⟨h1,λv=>?_⟩;rw[symI,h2 v,z4x];simp only[howB];rw[Ae (by decide),Af trivial,Ab,JY,Ag];constructor
 ·rintro⟨a,b,⟨_,_,c⟩,d⟩;exact⟨d,c⟩
 ·rintro⟨d,c⟩;exact⟨by omega,by omega,⟨by omega,by omega,c⟩,d⟩
def Syms(l:List Span):Prop:=Plain l/\∀s∈l,0<=s.lo/\s.lo<=s.hi/\s.hi<=1114111
theorem SY{l:List Span}(h1:Plain l)(h2:∀v,memL l v->0<=v/\v<=1114111):Syms l :=
 ⟨h1,λs hs=>by
  have hle:=h1.1 s hs;have:=h2 s.lo ⟨s,hs,B1 _,hle⟩;have:=h2 s.hi ⟨s,hs,hle,B1 _⟩
  omega⟩
theorem Rs(l:List Span):Syms (symI l):=SY (M6 l).1 λv hv=>(((M6 l).2 v).1 hv).1
theorem UF:∀{l:List Span}{f:Nat},Plain l->(∀s∈l,(f:Int)<=s.lo/\s.hi<=1114111)->f<=1114112->l.length+f<=1114112
 |[],f,_,_,hf=>by simpa using hf
 |s::l,f,h,hb,hf=>by
  have h1:=hb s (by simp);have h2:=h.head
  have:=UF (l:=l) (f:=(s.hi+1).toNat) h.tail (λt ht=>by
   have:=(AG.1 h.2).1 t ht;have:=hb t (by simp[ht])
   omega) (by omega)
  simp only[List.length_cons];omega
theorem Syms.len{l:List Span}(h:Syms l):l.length<=1114112:=by
 have:=UF (f:=0) h.1 (λs hs=>by have:=h.2 s hs;simp only[Int.ofNat_zero];omega) (by omega);omega
theorem Rt:PC Tryz.prog 195 [] (By [⟨0,1114111⟩]):=by
 refine Ct No ?_;unfold Ja;(with_reducible repeat'(first|simp (disch:=omega) only[push_cast,↓zz,seval]|apply Aa|refine sp_ ?_ ?_<;>intro hc<;>push_cast at hc|omega|intro _))
def Ru(l:List Span):Option Int:=match l with
 |[]=>none
 |s::_=>some s.lo
def SZ(l:List Span):Option Int:=l.getLast?.map (·.hi)
abbrev optI(o:Option Int):AV:=.tup [.int .i64 (o.getD 0),.bool o.isSome]
theorem W0(l:List Span)(hl:l.length<=1000000000000):PC Tryz.prog 202 [By l] (optI (Ru (Bq l))):=by
 refine Ct Rj ?_;unfold KZ;(with_reducible repeat'(first|simp (disch:=omega) only[push_cast,↓zz,seval]|apply Aa|refine sp_ ?_ ?_<;>intro hc<;>push_cast at hc|(have q_:=CK l hl;refine ee q_ ?_;clear q_)|(have q_:=CK l hl;refine cc q_ ?_;clear q_;(simp(disch:=omega)only[push_cast,↓zz,seval]);(fail_if_success change False))|omega|intro _))
 ·have h0:Bq l=[]:=Ao (by omega)
  rw[h0];(repeat'(first|(simp(disch:=omega)only[push_cast,↓zz,seval,FJ,Ru,Option.getD_none,Option.isSome_none])|omega|(with_reducible refine Aa ?_ ?_)))
 ·cases hn:Bq l with
  |nil=>exact absurd (by rw[hn];rfl) hc
  |cons s r =>
   (repeat'(first|(simp(disch:=omega)only[push_cast,↓zz,seval,FJ,Ru,Option.getD_some,Option.isSome_some])|omega|(with_reducible refine Aa ?_ ?_)))
   all_goals simp[nth]
theorem Zf(l:List Span)(hl:l.length<=1000000000000):PC Tryz.prog 203 [By l] (optI (SZ (Bq l))):=by
 refine Ct SK ?_;unfold Mr;have hn:=EX l;(with_reducible repeat'(first|simp (disch:=omega) only[push_cast,↓zz,seval]|apply Aa|refine sp_ ?_ ?_<;>intro hc<;>push_cast at hc|(have q_:=CK l hl;refine ee q_ ?_;clear q_)|(have q_:=CK l hl;refine cc q_ ?_;clear q_;(simp(disch:=omega)only[push_cast,↓zz,seval]);(fail_if_success change False))|omega|intro _))
 ·have h0:Bq l=[]:=Ao (by omega)
  rw[h0];(repeat'(first|(simp(disch:=omega)only[push_cast,↓zz,seval,FJ,SZ,List.getLast?_nil,Option.map_none,Option.getD_none,Option.isSome_none])|omega|(with_reducible refine Aa ?_ ?_)))
 ·rcases FU (Bq l) with h0|⟨m,z,h0⟩
  ·exact absurd (by rw[h0];rfl) hc
  ·have e:((Bq l).length:Int)-1=(m.length:Int):=by rw[h0];simp
   have e2:nth (Bq l) m.length=z:=by rw[h0];simp[nth,Am]
   rw[show SZ (Bq l)=some z.hi by rw[h0];simp[SZ]];(repeat'(first|(simp(disch:=omega)only[push_cast,↓zz,seval,FJ,Option.getD_some,Option.isSome_some,e,e2])|omega|(with_reducible refine Aa ?_ ?_)))
   all_goals (rw[show (Bq l).length-1=m.length by rw[h0];simp];rw[e2])
def Ge(d:Int)(s:Span):Span:=⟨s.lo+d,s.hi+d⟩
def Lg(l:List Span)(d:Int):List Span:=if d < -2147483648\/2147483648<d then [] else Bq ((Bq l).map (Ge d))
def midM(d:Int)(l rest:List Span)(k:Nat):List Span:=(l.take k).map (Ge d)++(l.drop k++rest)
theorem Zg(d:Int)(l rest:List Span):midM d l rest 0=l++rest:=by simp[midM]
theorem z4y(d:Int)(l rest:List Span):midM d l rest l.length=l.map (Ge d)++rest:=by simp[midM]
theorem z4z(d:Int)(l rest:List Span)(k:Nat)(h:k<=l.length):(midM d l rest k).length=l.length+rest.length:=by simp[midM];omega
theorem zc3{d:Int}{l rest:List Span}{k:Nat}(h:k<l.length):nth (midM d l rest k) k=nth l k:=by
 rw[midM,drop_at h,nth,Am,A5 (by simp;omega)];simp[show min k l.length=k by omega]
theorem z51{d:Int}{l rest:List Span}{k:Nat}(h:k<l.length):((midM d l rest k).map C3).set k (C3 ⟨(nth l k).lo+d,(nth l k).hi+d⟩)=(midM d l rest (k+1)).map C3:=by
 rw[midM,midM,take_at h,drop_at h,<-List.map_set];congr 1;rw[En _ _ (by simp;omega),show k-(List.map (Ge d) (List.take k l)).length=0 by simp;omega];simp[Ge]
theorem Zh(l:List Span)(d:Int)(hl:l.length<=1000000000000):PC Tryz.prog 186 [By l,.int .i64 d] (By (Lg l d)):=by
 refine Ct SH ?_;unfold Mn;have hw:IntKind.i64.wrap d=IntKind.i64.wrap d:=rfl;have hz:(d < -2147483648\/2147483648<d)->Lg l d=[]:=λh=>by rw[Lg,Af h]
 (with_reducible repeat'(first|simp (disch:=omega) only[push_cast,↓zz,seval]|apply Aa|refine sp_ ?_ ?_<;>intro hc<;>push_cast at hc|omega|intro _))
 all_goals first|exact hz (by omega)|skip
 ·refine Q5 (l:=[]) [] (Ky l hl) (by rfl) rfl (by simp) (by simp) (by simp[ltL,ltV]) (by simp) ?_
  rintro y H' ⟨rest,rfl,rfl⟩;refine⟨_,rfl,by simp,?_⟩;have hn:=EX l;have hbd:=F8 l;have hmv:Lg l d=Bq ((Bq l).map (Ge d)):=by rw[Lg,Ae (by omega)]
  rw[hmv];generalize Bq l=m at *;(with_reducible repeat'(first|simp (disch:=omega) only[push_cast,↓zz,seval]|apply Aa|refine sp_ ?_ ?_<;>intro hc<;>push_cast at hc|omega|intro _));refine Bv (B8 (λ(k:Nat)=>k<=m.length) (λk=>m.length-k) (λk=>[(1,.int .i64 d),(5,.ref 0 1 0 m.length),(16,.int .i64 m.length),(17,.int .i64 k)]) (λk=>[⟨2,1,true,(midM d m rest k).map C3⟩]) (λenv _=>[DD 2 (env 5)]) 0 (by simp) ?_ ?_)
  ·(with_reducible repeat'(first|simp (disch:=omega) only[push_cast,↓zz,seval,Zg]|apply Aa|refine sp_ ?_ ?_<;>intro hc<;>push_cast at hc|omega|intro _))
  intro k hk;have hlen:=z4z d m rest k hk;rcases Aj k m.length with hkm|hkm
  ·have ha:=zc3 (d:=d) (rest:=rest) hkm
   have hs:=z51 (d:=d) (rest:=rest) hkm;have hx:=hbd _ (Bo hkm)
   have hgs:∀v,(((midM d m rest k).map C3).set k v).getD k .any=v:=λv=>by
    rw[Am,DV (by simp[hlen];omega)];rfl
   refine W_T ?_;(with_reducible repeat'(first|simp (disch:=omega) only[push_cast,↓zz,seval,hlen,ha,hgs,List.set_set,hs]|apply Aa|refine sp_ ?_ ?_<;>intro hc<;>push_cast at hc|omega|intro _));exact⟨k+1,⟨by simp,B0 _ _⟩,by omega,by omega⟩
  ·obtain rfl:k=m.length:=by omega
   rw[z4y];have ht:List.take m.length ((m.map (Ge d)).map C3++rest.map C3)=(m.map (Ge d)).map C3:=CV (by simp);have hmm:=CK (m.map (Ge d)) (by simp;omega);refine W_T ?_;(with_reducible repeat'(first|simp (disch:=omega) only[push_cast,↓zz,seval,ht,Eg]|apply Aa|refine sp_ ?_ ?_<;>intro hc<;>push_cast at hc|refine ee hmm ?_|(refine cc hmm ?_;(simp(disch:=omega)only[push_cast,↓zz,seval,ht,Eg]);(fail_if_success change False))|omega|intro _))
   all_goals trace_state
theorem M7(l:List Int):∀r∈l.map (λx=>[AV.int .i64 x]),∀x∈r,Flat x:=λr hr x hx=>by
 obtain⟨y,_,rfl⟩:=Ar.1 hr;simp only[Aq] at hx;subst hx;exact λS=>rfl
theorem Py(l:List Int):∀r∈l.map (λx=>[AV.int .i64 x]),r.length=1:=λr hr=>by
 obtain⟨y,_,rfl⟩:=Ar.1 hr;rfl
theorem Zi{l:List Int}{k:Nat}{row:List AV}(h:(l.map λx=>[AV.int .i64 x])[k]? = some row):k<l.length/\row=[.int .i64 (nth l k)]:=by
 obtain⟨hk,he⟩:=AP.1 h;have hk':k<l.length:=by simpa using hk
 refine⟨hk',?_⟩;rw[<-he];simp[nth,Am,Ai hk']
theorem UG:∀{l:List Span}{f:Nat},Plain l->(∀s∈l,(f:Int)<=s.lo/\s.hi<=1114111)->f<=1114112->(Ff l).length+f<=1114112
 |[],f,_,_,hf=>by simpa [Ff] using hf
 |s::l,f,h,hb,hf=>by
  have h1:=hb s (by simp);have h2:=h.head
  have:=UG (l:=l) (f:=(s.hi+1).toNat) h.tail (λt ht=>by
   have:=(AG.1 h.2).1 t ht;have:=hb t (by simp[ht])
   omega) (by omega)
  rw[Oc,Al];simp only[Pw,Ba,C8];omega
theorem Syms.nums{l:List Span}(h:Syms l):(Ff l).length<=1114112:=by
 have:=UG (f:=0) h.1 (λs hs=>by have:=h.2 s hs;simp only[Int.ofNat_zero];omega) (by omega);omega
theorem HB:∀{l:List Span}{x:Int},x∈Ff l↔memL l x
 |[],x=>by simp[Ff,memL]
 |s::l,x=>by
  rw[Oc,Ap,Bc,HB]
  have:x∈Pw s.lo (s.hi+1-s.lo).toNat↔s.lo<=x/\x<=s.hi:=by
   simp only[Pw,Ar,AS];constructor
   ·rintro⟨i,h1,rfl⟩;omega
   ·intro h;exact⟨(x-s.lo).toNat,by omega,by omega⟩
  rw[this]
theorem Syms.mem{l:List Span}(h:Syms l){x:Int}(hx:memL l x):0<=x/\x<=1114111:=by
 obtain⟨s,hs,h1,h2⟩:=hx;have:=h.2 s hs;omega
abbrev oneS(x:Int):Span:=⟨x,x⟩
def allS(n:Nat):List Span:=[⟨0,2 ^ n-1⟩]
theorem M8{l:List Span}(h:Plain l)(hb:∀s∈l,-1073741824<=s.lo/\s.hi<=1073741824):Bq l=l:=by
 obtain⟨h1,h2⟩:=Bl l;refine Ih h1 h λx=>?_;rw[h2 x];constructor
 ·exact λhh=>hh.1
 ·rintro⟨s,hs,k1,k2⟩
  have:=hb s hs;exact⟨⟨s,hs,k1,k2⟩,by omega,by omega⟩
theorem Ta{x:Int}{n:Nat}(hn:n<=21)(hx:0<=x/\x<=4194304):IntKind.i64.wrap (x * 2 ^ min n IntKind.i64.bits)=x * 2 ^ n:=by
 rw[show min n IntKind.i64.bits=n from CW (show n<=64 by omega)];have h:=Lf n hn;have h1:x * 2 ^ n<=4194304 * 2097152:=Int.mul_le_mul hx.2 h.2 (by omega) (by omega);have h2:0<=x * 2 ^ n:=EK hx.1 (by omega);exact IntWalk.i64_in _ (by omega)
def imgS(d t:Nat)(s:Span):List Span :=
 if s.lo / 2 ^ d % 2 ^ t<=s.hi / 2 ^ d % 2 ^ t then [⟨s.lo / 2 ^ d % 2 ^ t,s.hi / 2 ^ d % 2 ^ t⟩] else [⟨0,s.hi / 2 ^ d % 2 ^ t⟩,⟨s.lo / 2 ^ d % 2 ^ t,2 ^ t-1⟩]
def imgF(d t:Nat):List Span->List Span->List Span
 |[],out=>out
 |s::l,out=>if 2 ^ t-1<=s.hi / 2 ^ d-s.lo / 2 ^ d then allS t else imgF d t l (out++imgS d t s)
def topS:List Span:=[⟨0,2097151⟩]
def imgL(p:Part)(s:List Span):List Span :=
 if FV p=false then [] else
  if p.up=0 then Bq (imgF p.drop.toNat p.take.toNat (F5 (Bq s) (Bq topS)) []) else
   Bq ((Ff (Bq (Bq (imgF p.drop.toNat p.take.toNat (F5 (Bq s) (Bq topS)) [])))).map λx=>oneS (x * 2 ^ p.up.toNat))
theorem Pz:∀(a b:List Span),(F5 a b).length<=a.length+b.length
 |[],b=>by rw[GR];simp
 |x::a,[]=>by rw[G7];simp
 |x::a,y::b=>by
  rw[Kz];have h1:=Pz a (y::b);have h2:=Pz (x::a) b;simp only[Al,List.length_cons] at *;split<;>split<;>simp<;>omega
termination_by a b=>a.length+b.length
theorem UH(s:List Span):Plain (F5 (Bq s) (Bq topS))/\(∀t∈F5 (Bq s) (Bq topS),0<=t.lo/\t.lo<=t.hi/\t.hi<=2097151)/\∀v,memL (F5 (Bq s) (Bq topS)) v↔memL s v/\0<=v/\v<=2097151:=by
 obtain⟨p1,p2⟩:=Bl s;obtain⟨q1,q2⟩:=Bl topS;obtain⟨b1,b2⟩:=Im _ _ p1 q1
 have key:∀v,memL (F5 (Bq s) (Bq topS)) v↔memL s v/\0<=v/\v<=2097151:=λv=>by
  rw[b2 v,p2 v,q2 v,topS,Bc];simp only[BP,AA];constructor
  ·rintro⟨⟨h1,_⟩,h2,_⟩;exact⟨h1,h2⟩
  ·rintro⟨h1,h2⟩;exact⟨⟨h1,by omega⟩,h2,by omega⟩
 refine⟨b1,λt ht=>?_,key⟩;have hle:=b1.1 t ht;have k1:=((key t.lo).1 ⟨t,ht,B1 _,hle⟩).2;have k2:=((key t.hi).1 ⟨t,ht,hle,B1 _⟩).2;omega
theorem z52{x:Int}{t:Nat}(ht:t<=21)(hx:0<=x/\x<=2097151):IS .and .i64 x (2 ^ t-1)=x % 2 ^ t:=by
 have h:=Lf t ht;have m0:=B5 x (b:=2 ^ t) (by omega);have m1:=Bs x (b:=2 ^ t) (by omega);exact Xv t ⟨hx.1,by show _<(2:Int) ^ 64;omega⟩ (by show _<=64;omega) (IntWalk.i64_in _ (by omega))
theorem zc4{x:Int}{d:Nat}(hd:d<=21):x.fdiv (2 ^ min d IntKind.i64.bits)=x / 2 ^ d:=by
 rw[show min d IntKind.i64.bits=d from CW (show d<=64 by omega)];have:=Lf d hd;exact Xu _ _ (by omega)
theorem Zj{x:Int}{d:Nat}(hd:d<=21)(hx:0<=x/\x<=2097151):0<=x / 2 ^ d/\x / 2 ^ d<=2097151:=by
 have:=Lf d hd;have q0:0<=x / 2 ^ d:=Fy hx.1 (by omega);have q1:x / 2 ^ d<=x:=Int.ediv_le_self _ hx.1;omega
theorem Od(p:Part)(s:List Span)(hs:s.length<=10000000000):PC Tryz.prog 187 [F2 p,By s] (By (imgL p s)):=by
 have hM:=Mx s topS (by omega) (by simp[topS]);obtain⟨mp,mb,mm⟩:=UH s
 have hml:(F5 (Bq s) (Bq topS)).length<=10000000001:=by
  have h1:=Pz (Bq s) (Bq topS);have h2:=EX s;have h3:=EX topS;have h4:topS.length=1:=rfl;omega
 cases hb:FV p with
 |false =>
  have hB:=Hk p;rw[hb] at hB;refine Ct KX ?_;unfold If;(with_reducible repeat'(first|simp (disch:=omega) only[push_cast,↓zz,seval]|apply Aa|refine sp_ ?_ ?_<;>intro hc<;>push_cast at hc|refine ee hB ?_|(refine cc hB ?_;(simp(disch:=omega)only[push_cast,↓zz,seval]);(fail_if_success change False))|omega|intro _))
  all_goals (rw[imgL,Af hb])
 |true =>
 have hB:=Hk p;rw[hb] at hB;have hbi:=JV.1 hb;have ht:=Lf p.take.toNat (by omega);have hw1:IntKind.i64.wrap (1 * 2 ^ min p.take.toNat IntKind.i64.bits)=2 ^ p.take.toNat:=by rw[Ta (by omega) (by omega)];omega
 have hw2:IntKind.i64.wrap (2 ^ p.take.toNat-1)=2 ^ p.take.toNat-1:=IntWalk.i64_in _ (by omega);refine Ct KX ?_;unfold If;(with_reducible repeat'(first|simp (disch:=omega) only[push_cast,↓zz,seval,hw1,hw2,topS,By,C3,Bf,Bh,Eg]|apply Aa|refine sp_ ?_ ?_<;>intro hc<;>push_cast at hc|refine ee hB ?_|refine ee hM ?_|((first|refine cc hB ?_|refine cc hM ?_);(simp(disch:=omega)only[push_cast,↓zz,seval,hw1,hw2,topS,By,C3,Bf,Bh,Eg]);(fail_if_success change False))|omega|intro _));have hI:imgL p s=if p.up=0 then Bq (imgF p.drop.toNat p.take.toNat (F5 (Bq s) (Bq topS)) []) else Bq ((Ff (Bq (Bq (imgF p.drop.toNat p.take.toNat (F5 (Bq s) (Bq topS)) [])))).map λx=>oneS (x * 2 ^ p.up.toNat)):=by rw[imgL,Ae (by simp[hb])]
 have hTS:[(⟨0,2097151⟩:Span)]=topS:=rfl;rw[hTS,hI];generalize F5 (Bq s) (Bq topS)=m at *;have hd:=Lf p.drop.toNat (by omega)
 have hsh:∀x:Int,0<=x/\x<=2097151->x.fdiv (2 ^ min p.drop.toNat IntKind.i64.bits)=x / 2 ^ p.drop.toNat/\(0<=x / 2 ^ p.drop.toNat/\x / 2 ^ p.drop.toNat<=2097151)/\IS .and .i64 (x / 2 ^ p.drop.toNat) (2 ^ p.take.toNat-1)=x / 2 ^ p.drop.toNat % 2 ^ p.take.toNat:=λx hx =>
  ⟨zc4 (by omega),Zj (by omega) hx,z52 (by omega) (Zj (by omega) hx)⟩
 refine Bv (B8 (λ(s:Nat × List Span)=>s.1<=m.length/\s.2.length<=2 * s.1/\(∀t∈s.2,0<=t.lo/\t.hi<=2 ^ p.take.toNat-1)/\imgF p.drop.toNat p.take.toNat m []=imgF p.drop.toNat p.take.toNat (m.drop s.1) s.2) (λs=>m.length-s.1)
  (λs=>[(2,.ptr 0 1 0 0),(5,.int .i64 (2 ^ p.take.toNat-1)),(6,.ref 1 1 0 s.2.length),(23,By m),(24,.int .i64 m.length),(25,.int .i64 s.1)]) (λs=>[⟨4,1,true,[F2 p]⟩,⟨2,1,false,s.2.map C3⟩]) (λenv _=>[DD 4 (env 2),DD 2 (env 6)]) (0,[]) ⟨by simp,by simp,by simp,by simp⟩ ?_ ?_)
 ·(with_reducible repeat'(first|simp (disch:=omega) only[push_cast,↓zz,seval]|apply Aa|refine sp_ ?_ ?_<;>intro hc<;>push_cast at hc|omega|intro _))
 rintro⟨k,out⟩ ⟨h1,h2,h2b,h3⟩;simp only at h1 h2 h2b h3;rcases Aj k m.length with hk|hk
 ·have hx:=mb _ (Bo hk)
  rw[drop_at hk,imgF,imgS] at h3;obtain⟨a1,a2,a3⟩:=hsh (nth m k).lo (by omega);obtain⟨b1,b2,b3⟩:=hsh (nth m k).hi (by omega);generalize (nth m k).lo / 2 ^ p.drop.toNat=u at *;generalize (nth m k).hi / 2 ^ p.drop.toNat=v at *;have hbk:2 ^ p.take.toNat-1<=v-u->imgF p.drop.toNat p.take.toNat m []=allS p.take.toNat:=λh=>by rw[h3,Af h]
  have hN:=CK (allS p.take.toNat) (by simp[allS]);have hEa:=M0 (Bq (allS p.take.toNat)) (by have:=EX (allS p.take.toNat);simp[allS] at this;simp[allS];omega);refine W_T ?_;(with_reducible repeat'(first|simp (disch:=omega) only[push_cast,↓zz,seval,a1,a3,b1,b3,allS,By,C3,Bf,Bh,Eg]|apply Aa|refine sp_ ?_ ?_<;>intro hc<;>push_cast at hc|refine ee hN ?_|refine ee hEa ?_|((first|refine cc hN ?_|refine cc hEa ?_);(simp(disch:=omega)only[push_cast,↓zz,seval,a1,a3,b1,b3,allS,By,C3,Bf,Bh,Eg]);(fail_if_success change False))|omega|intro _))
  ·rw[hbk (by assumption),Af (by assumption)];rfl
  ·rw[hbk (by assumption),Ae (by assumption)]
   have hal:allS p.take.toNat=[⟨0,2 ^ p.take.toNat-1⟩]:=rfl;rw[hal];have h2c:∀t∈[(⟨0,2 ^ p.take.toNat-1⟩:Span)],0<=t.lo/\t.hi<=2 ^ p.take.toNat-1:=by simp
   have hu:p.take<=6:=by omega
   have h64:(2:Int) ^ p.take.toNat<=64:=by
    have e:=Cl (n:=2) (by decide) (show p.take.toNat<=6 by omega);have e2:((2 ^ p.take.toNat:Nat):Int)=2 ^ p.take.toNat:=by simp
    omega
   have hmm:∀v,memL (Bq [⟨0,2 ^ p.take.toNat-1⟩]) v->0<=v/\v<=2 ^ p.take.toNat-1:=λv hv=>by
    obtain⟨t,ht1,ht2,ht3⟩:=(((Bl _).2 v).1 hv).1;have:=h2c t ht1;omega
   have hsy:Syms (Bq [⟨0,2 ^ p.take.toNat-1⟩]):=SY (Bl _).1 λv hv=>by have:=hmm v hv;omega
   have hNN:Bq (Bq [⟨0,2 ^ p.take.toNat-1⟩])=Bq [⟨0,2 ^ p.take.toNat-1⟩]:=M8 (Bl _).1 λs hs=>by have:=hsy.2 s hs;omega
   rw[hNN];have hit:=Mz (Bq [⟨0,2 ^ p.take.toNat-1⟩]) (by have:=hsy.len;omega) (by intro s hs;have:=hsy.2 s hs;omega);have hln:=hsy.nums;have hmem:∀k,k<(Ff (Bq [⟨0,2 ^ p.take.toNat-1⟩])).length->0<=nth (Ff (Bq [⟨0,2 ^ p.take.toNat-1⟩])) k/\nth (Ff (Bq [⟨0,2 ^ p.take.toNat-1⟩])) k<=63:=λk hk=>by have:=hmm _ (HB.1 (Bo hk));omega
   generalize Bq [⟨0,2 ^ p.take.toNat-1⟩]=M at *;generalize Ff M=l at *
   refine OU (Ue (σ:=Nat × List Span) (λk s=>s.2=(l.take k).map (λx=>oneS (x * 2 ^ p.up.toNat))/\s.2.length<=k) [(2,.ptr 0 1 0 0),(11,.ptr 1 1 0 0),(84,.fn 204 [.cptr (By M)])] (λs=>[⟨4,1,true,[F2 p]⟩,⟨1,1,true,[.ref 2 s.1 0 s.2.length]⟩,⟨2,s.1,false,s.2.map C3⟩])
    [.grp 0,.grp 4,.virt 2] 3 (1,[]) hit ?_ (λ_=>rfl) rfl ?_ rfl rfl (M7 _) (Py _) (by simp) ⟨by simp,by simp⟩ ?_ ?_)
   ·(with_reducible repeat'(first|simp (disch:=omega) only[push_cast,↓zz,seval,hNN]|apply Aa|refine sp_ ?_ ?_<;>intro hc<;>push_cast at hc|omega|intro _))
   ·(with_reducible repeat'(first|simp (disch:=omega) only[push_cast,↓zz,seval]|apply Aa|refine sp_ ?_ ?_<;>intro hc<;>push_cast at hc|omega|intro _))
   ·rintro k row ⟨v,o⟩ hrow ⟨h1,h2⟩
    simp only at h1 h2;obtain⟨hk,rfl⟩:=Zi hrow;have hxb:=hmem k hk;have hw3:=Ta (x:=nth l k) (n:=p.up.toNat) (by omega) (by omega)
    have hstep:(l.take (k+1)).map (λx=>oneS (x * 2 ^ p.up.toNat))=o++[oneS (nth l k * 2 ^ p.up.toNat)]:=by
     rw[take_at hk,A7,<-h1];rfl
    generalize nth l k=x at *;refine W_T ?_;(with_reducible repeat'(first|simp (disch:=omega) only[push_cast,↓zz,seval]|apply Aa|refine sp_ ?_ ?_<;>intro hc<;>push_cast at hc|omega|intro _));refine W_T ?_;(with_reducible repeat'(first|simp (disch:=omega) only[push_cast,↓zz,seval,hw3]|apply Aa|refine sp_ ?_ ?_<;>intro hc<;>push_cast at hc|omega|intro _));exact⟨(v+1,o++[oneS (x * 2 ^ p.up.toNat)]),⟨⟨rfl,by simp⟩,rfl,by rw[A7];exact B0 _ _⟩,hstep.symm,by simp;omega⟩
   ·rintro⟨v,o⟩ ⟨h1,h2⟩
    simp only[Ba] at h1 h2;rw[AB] at h1;rw[<-h1];have hN2:=CK o (by omega);(with_reducible repeat'(first|simp (disch:=omega) only[push_cast,↓zz,seval,Eg]|apply Aa|refine sp_ ?_ ?_<;>intro hc<;>push_cast at hc|refine ee hN2 ?_|(refine cc hN2 ?_;(simp(disch:=omega)only[push_cast,↓zz,seval,Eg]);(fail_if_success change False))|omega|intro _))
  all_goals rw[Ae (by assumption)] at h3
  ·rw[Af (by assumption)] at h3
   exact⟨(k+1,out++[⟨u % 2 ^ p.take.toNat,v % 2 ^ p.take.toNat⟩]),⟨⟨by simp,by simp⟩,by rw[A7];exact B0 _ _⟩,⟨by simp only;omega,by simp;omega,λt ht=>by
    rcases Ap.1 ht with ht|ht
    ·exact h2b t ht
    ·simp only[Aq] at ht
     subst ht;have m0:=B5 u (b:=2 ^ p.take.toNat) (by omega);have m1:=Bs v (b:=2 ^ p.take.toNat) (by omega)
     exact⟨m0,by simp only;omega⟩,h3⟩,by simp only;omega⟩
  ·rw[Ae (by assumption)] at h3
   exact⟨(k+1,out++[⟨0,v % 2 ^ p.take.toNat⟩,⟨u % 2 ^ p.take.toNat,2 ^ p.take.toNat-1⟩]),⟨⟨by simp,by simp⟩,by rw[A7];exact B0 _ _⟩,⟨by simp only;omega,by simp;omega,λt ht=>by
    rcases Ap.1 ht with ht|ht
    ·exact h2b t ht
    ·have m0:=B5 u (b:=2 ^ p.take.toNat) (by omega)
     have m1:=Bs v (b:=2 ^ p.take.toNat) (by omega);simp only[Ah,Au,AA] at ht;rcases ht with rfl|rfl
     ·exact⟨B1 _,by simp only;omega⟩
     ·exact⟨m0,B1 _⟩,h3⟩,by simp only;omega⟩
 ·rw[Aw hk,imgF] at h3
  rw[h3];have hN:=CK out (by omega);have hEa:=M0 (Bq out) (by have:=EX out;omega);refine W_T ?_;(with_reducible repeat'(first|simp (disch:=omega) only[push_cast,↓zz,seval]|apply Aa|refine sp_ ?_ ?_<;>intro hc<;>push_cast at hc|refine ee hN ?_|refine ee hEa ?_|((first|refine cc hN ?_|refine cc hEa ?_);(simp(disch:=omega)only[push_cast,↓zz,seval]);(fail_if_success change False))|omega|intro _))
  ·rw[Af (by assumption)]
  ·rw[Ae (by assumption)]
   have hu:p.take<=6:=by omega
   have h64:(2:Int) ^ p.take.toNat<=64:=by
    have e:=Cl (n:=2) (by decide) (show p.take.toNat<=6 by omega);have e2:((2 ^ p.take.toNat:Nat):Int)=2 ^ p.take.toNat:=by simp
    omega
   have hmm:∀v,memL (Bq out) v->0<=v/\v<=2 ^ p.take.toNat-1:=λv hv=>by
    obtain⟨t,ht1,ht2,ht3⟩:=(((Bl _).2 v).1 hv).1;have:=h2b t ht1;omega
   have hsy:Syms (Bq out):=SY (Bl _).1 λv hv=>by have:=hmm v hv;omega
   have hNN:Bq (Bq out)=Bq out:=M8 (Bl _).1 λs hs=>by have:=hsy.2 s hs;omega
   rw[hNN];have hit:=Mz (Bq out) (by have:=hsy.len;omega) (by intro s hs;have:=hsy.2 s hs;omega);have hln:=hsy.nums;have hmem:∀k,k<(Ff (Bq out)).length->0<=nth (Ff (Bq out)) k/\nth (Ff (Bq out)) k<=63:=λk hk=>by have:=hmm _ (HB.1 (Bo hk));omega
   generalize Bq out=M at *;generalize Ff M=l at *
   refine OU (Ue (σ:=Nat × List Span) (λk s=>s.2=(l.take k).map (λx=>oneS (x * 2 ^ p.up.toNat))/\s.2.length<=k) [(2,.ptr 0 1 0 0),(11,.ptr 1 1 0 0),(84,.fn 204 [.cptr (By M)])] (λs=>[⟨4,1,true,[F2 p]⟩,⟨1,1,true,[.ref 2 s.1 0 s.2.length]⟩,⟨2,s.1,false,s.2.map C3⟩])
    [.grp 0,.grp 2,.virt 2] 3 (1,[]) hit ?_ (λ_=>rfl) rfl ?_ rfl rfl (M7 _) (Py _) (by simp) ⟨by simp,by simp⟩ ?_ ?_)
   ·(with_reducible repeat'(first|simp (disch:=omega) only[push_cast,↓zz,seval,hNN]|apply Aa|refine sp_ ?_ ?_<;>intro hc<;>push_cast at hc|omega|intro _))
   ·(with_reducible repeat'(first|simp (disch:=omega) only[push_cast,↓zz,seval]|apply Aa|refine sp_ ?_ ?_<;>intro hc<;>push_cast at hc|omega|intro _))
   ·rintro k row ⟨v,o⟩ hrow ⟨h1,h2⟩
    simp only at h1 h2;obtain⟨hk,rfl⟩:=Zi hrow;have hxb:=hmem k hk;have hw3:=Ta (x:=nth l k) (n:=p.up.toNat) (by omega) (by omega)
    have hstep:(l.take (k+1)).map (λx=>oneS (x * 2 ^ p.up.toNat))=o++[oneS (nth l k * 2 ^ p.up.toNat)]:=by
     rw[take_at hk,A7,<-h1];rfl
    generalize nth l k=x at *;refine W_T ?_;(with_reducible repeat'(first|simp (disch:=omega) only[push_cast,↓zz,seval]|apply Aa|refine sp_ ?_ ?_<;>intro hc<;>push_cast at hc|omega|intro _));refine W_T ?_;(with_reducible repeat'(first|simp (disch:=omega) only[push_cast,↓zz,seval,hw3]|apply Aa|refine sp_ ?_ ?_<;>intro hc<;>push_cast at hc|omega|intro _));exact⟨(v+1,o++[oneS (x * 2 ^ p.up.toNat)]),⟨⟨rfl,by simp⟩,rfl,by rw[A7];exact B0 _ _⟩,hstep.symm,by simp;omega⟩
   ·rintro⟨v,o⟩ ⟨h1,h2⟩
    simp only[Ba] at h1 h2;rw[AB] at h1;rw[<-h1];have hN2:=CK o (by omega);(with_reducible repeat'(first|simp (disch:=omega) only[push_cast,↓zz,seval,Eg]|apply Aa|refine sp_ ?_ ?_<;>intro hc<;>push_cast at hc|refine ee hN2 ?_|(refine cc hN2 ?_;(simp(disch:=omega)only[push_cast,↓zz,seval,Eg]);(fail_if_success change False))|omega|intro _))
    all_goals trace_state
def Low(n:Nat)(l:List Span):Prop:=Plain l/\∀s∈l,0<=s.lo/\s.lo<=s.hi/\s.hi<=2 ^ n-1
theorem Zk:∀{l:List Span}{f N:Nat},Plain l->(∀s∈l,(f:Int)<=s.lo/\s.hi<N)->f<=N->l.length+f<=N
 |[],f,N,_,_,hf=>by simpa using hf
 |s::l,f,N,h,hb,hf=>by
  have h1:=hb s (by simp);have h2:=h.head
  have:=Zk (l:=l) (f:=(s.hi+1).toNat) (N:=N) h.tail (λt ht=>by
   have:=(AG.1 h.2).1 t ht;have:=hb t (by simp[ht])
   omega) (by omega)
  simp only[List.length_cons];omega
theorem Low.len{n:Nat}{l:List Span}(h:Low n l):(l.length:Int)<=2 ^ n:=by
 have e:((2 ^ n:Nat):Int)=2 ^ n:=by simp
 have:=Zk (f:=0) (N:=2 ^ n) h.1 (λs hs=>by have:=h.2 s hs;simp only[Int.ofNat_zero];omega) (Ay _);omega
theorem UI{α:Type}{f:α->List Span}:∀{l:List α}{v:Int},memL (l.flatMap f) v↔∃x∈l,memL (f x) v
 |[],v=>by simp[memL]
 |x::l,v=>by
  rw[C7,EM,UI];constructor
  ·rintro (h|⟨y,hy,h⟩)
   ·exact⟨x,by simp,h⟩
   ·exact⟨y,by simp[hy],h⟩
  ·rintro⟨y,hy,h⟩
   rcases Ah.1 hy with rfl|hy
   ·exact .inl h
   ·exact .inr ⟨y,hy,h⟩
theorem z54{l:List Span}{d:Int}(hd:-2147483648<=d/\d<=2147483648){v:Int}:memL (Lg l d) v↔(memL l (v-d)/\-1073741824<=v-d/\v-d<=1073741824)/\-1073741824<=v/\v<=1073741824:=by
 obtain⟨p1,p2⟩:=Bl l;obtain⟨q1,q2⟩:=Bl ((Bq l).map (Ge d));rw[Lg,Ae (by omega),q2 v,<-p2 (v-d)]
 have:memL ((Bq l).map (Ge d)) v↔memL (Bq l) (v-d):=by
  constructor
  ·rintro⟨s,hs,h1,h2⟩
   obtain⟨t,ht,rfl⟩:=Ar.1 hs;exact⟨t,ht,by simp only[Ge] at h1;omega,by simp only[Ge] at h2;omega⟩
  ·rintro⟨t,ht,h1,h2⟩
   exact⟨Ge d t,Ar.2 ⟨t,ht,rfl⟩,by simp only[Ge];omega,by simp only[Ge];omega⟩
 rw[this]
theorem FX{p:Part}{x:Int}(hb:FV p=true)(hx:0<=x/\x<=2097151):0<=valP p x/\valP p x<=66060288:=by
 have hbi:=JV.1 hb;have ht:=Lf p.take.toNat (by omega);have hu:=Lf p.up.toNat (by omega);have m0:=B5 (x / 2 ^ p.drop.toNat) (b:=2 ^ p.take.toNat) (by omega);have m1:=Bs (x / 2 ^ p.drop.toNat) (b:=2 ^ p.take.toNat) (by omega);have hq:=Zj (d:=p.drop.toNat) (by omega) hx
 have m2:x / 2 ^ p.drop.toNat % 2 ^ p.take.toNat<=x / 2 ^ p.drop.toNat:=by
  have h1:=Int.emod_add_mul_ediv (x / 2 ^ p.drop.toNat) (2 ^ p.take.toNat);have h2:0<=2 ^ p.take.toNat * (x / 2 ^ p.drop.toNat / 2 ^ p.take.toNat):=EK (by omega) (Fy hq.1 (by omega));omega
 rw[valP];refine⟨EK m0 (by omega),?_⟩;rcases hbi.2.2.2.2.2.2 with h0|h6
 ·rw[h0,show (2:Int) ^ (0:Int).toNat=1 by decide,Int.mul_one];omega
 ·have e:=Cl (n:=2) (by decide) (show p.take.toNat<=6 by omega)
  have e2:((2 ^ p.take.toNat:Nat):Int)=2 ^ p.take.toNat:=by simp
  have e3:=Cl (n:=2) (by decide) (show p.up.toNat<=20 by omega);have e4:((2 ^ p.up.toNat:Nat):Int)=2 ^ p.up.toNat:=by simp
  have:x / 2 ^ p.drop.toNat % 2 ^ p.take.toNat * 2 ^ p.up.toNat<=63 * 1048576:=Int.mul_le_mul (by omega) (by omega) (by omega) (by omega);omega
theorem z56(s:List Span):F5 (Bq s) (Bq [⟨0,1114111⟩])=symI s:=by rw[symI,Wz]
theorem z57(l:List Span)(d:Int):(Lg l d).length<=l.length:=by
 unfold Lg;split
 ·simp
 ·have h1:=EX ((Bq l).map (Ge d))
  have h2:=EX l;simp only[Ba] at h1;omega
def sumS(x y:Span):Span:=⟨x.lo+y.lo,x.hi+y.hi⟩
def Tb(a b:List Span):List Span:=a.flatMap λx=>b.map (sumS x)
def Rv(a b:List Span):List Span:=Bq (Tb a b)
theorem W2(x:Span)(a b:List Span):Tb (x::a) b=b.map (sumS x)++Tb a b:=rfl
theorem W3{l m:List Span}(h:∀v,-1073741824<=v/\v<=1073741824->(memL l v↔memL m v)):Bq l=Bq m:=by
 obtain⟨p1,p2⟩:=Bl l;obtain⟨q1,q2⟩:=Bl m;refine Ih p1 q1 λv=>?_;rw[p2,q2];constructor
 ·rintro⟨h1,h2,h3⟩;exact⟨(h v ⟨h2,h3⟩).1 h1,h2,h3⟩
 ·rintro⟨h1,h2,h3⟩;exact⟨(h v ⟨h2,h3⟩).2 h1,h2,h3⟩
theorem Zl{l m:List Span}:Bq (Bq l++m)=Bq (l++m):=W3 λv hv=>by
 rw[EM,EM,(Bl l).2 v];constructor
 ·rintro (⟨h,_⟩|h)
  ·exact .inl h
  ·exact .inr h
 ·rintro (h|h)
  ·exact .inl ⟨h,hv⟩
  ·exact .inr h
theorem Rw:∀{l:List Span}{f:Nat},Plain l->(∀s∈l,(f:Int)-1073741824<=s.lo/\s.hi<=1073741824)->f<=2147483649->l.length+f<=2147483649
 |[],f,_,_,hf=>by simpa using hf
 |s::l,f,h,hb,hf=>by
  have h1:=hb s (by simp);have h2:=h.head
  have:=Rw (l:=l) (f:=(s.hi+1073741825).toNat) h.tail (λt ht=>by
   have:=(AG.1 h.2).1 t ht;have:=hb t (by simp[ht])
   omega) (by omega)
  simp only[List.length_cons];omega
theorem M9(l:List Span):(Bq l).length<=2147483649:=by
 have:=Rw (f:=0) (Bl l).1 (λs hs=>by have:=F8 l s hs;simp only[Int.ofNat_zero];omega) (by omega);omega
def Bd(l:List Span):Prop:=∀s∈l,(-1099511627776<=s.lo/\s.lo<=1099511627776)/\-1099511627776<=s.hi/\s.hi<=1099511627776
theorem W4(l:List Span)(hl:l.length<=1000000000000):B4 Tryz.prog 181 [By l] (Abs.hl []) λy H'=>y=.ref 0 1 0 (Bq l).length/\H'=Abs.hl [⟨2,1,false,(Bq l).map C3⟩] :=
 Q9 (by omega) ((Ky l hl).mono λy H' ⟨rest,h1,h2⟩=>⟨rest.map C3,h1,by rw[h2,A7]⟩)
theorem Zm(a b:List Span)(la:a.length<=3000000000)(lb:b.length<=3000000000)(ha:Bd a)(hb:Bd b):PC Tryz.prog 200 [By a,By b] (By (Rv a b)):=by
 refine Ct SJ ?_;unfold Mp;(with_reducible repeat'(first|simp (disch:=omega) only[push_cast,↓zz,seval]|apply Aa|refine sp_ ?_ ?_<;>intro hc<;>push_cast at hc|omega|intro _))
 refine Bv (B8 (λ(s:Nat × List Span)=>s.1<=a.length/\s.2.length<=2147483649/\Rv a b=Bq (s.2++Tb (a.drop s.1) b)) (λs=>a.length-s.1)
  (λs=>[(1,By b),(5,.ref 0 1 0 s.2.length),(10,By a),(11,.int .i64 a.length),(12,.int .i64 s.1)]) (λs=>[⟨2,1,false,s.2.map C3⟩]) (λenv _=>[DD 2 (env 5)]) (0,[]) ⟨by simp,by simp,by simp[Rv]⟩ ?_ ?_)
 ·(with_reducible repeat'(first|simp (disch:=omega) only[push_cast,↓zz,seval]|apply Aa|refine sp_ ?_ ?_<;>intro hc<;>push_cast at hc|omega|intro _))
 rintro⟨k,out⟩ ⟨h1,h2,h3⟩;simp only at h1 h2 h3;rcases Aj k a.length with hk|hk
 ·rw[drop_at hk,W2,<-Ax] at h3
  have hx:=ha _ (Bo hk);generalize hxe:nth a k=x at *;refine W_T ?_;(with_reducible repeat'(first|simp (disch:=omega) only[push_cast,↓zz,seval,hxe]|apply Aa|refine sp_ ?_ ?_<;>intro hc<;>push_cast at hc|omega|intro _))
  refine Bv (B8 (λ(s:Nat × List Span)=>s.1<=b.length/\s.2=out++(b.take s.1).map (sumS x)/\s.2.length=out.length+s.1) (λs=>b.length-s.1)
   (λs=>[(1,By b),(5,.ref 0 1 0 s.2.length),(7,.ptr 1 1 0 0),(10,By a),(11,.int .i64 a.length),(12,.int .i64 k),(16,By b),(17,.int .i64 b.length),(18,.int .i64 s.1)]) (λs=>[⟨2,1,false,s.2.map C3⟩,⟨2,1,true,[C3 x]⟩]) (λenv _=>[DD 2 (env 5),DD 2 (env 7)]) (0,out) ⟨by simp,by simp,by simp⟩ ?_ ?_)
  ·(with_reducible repeat'(first|simp (disch:=omega) only[push_cast,↓zz,seval]|apply Aa|refine sp_ ?_ ?_<;>intro hc<;>push_cast at hc|omega|intro _))
  rintro⟨j,o⟩ ⟨g1,g2,g3⟩;simp only at g1 g2 g3;rcases Aj j b.length with hj|hj
  ·have hy:=hb _ (Bo hj)
   have hstep:out++(b.take (j+1)).map (sumS x)=o++[sumS x (nth b j)]:=by rw[take_at hj,A7,<-Ax,<-g2];rfl
   generalize hye:nth b j=y at *;have hw1:IntKind.i64.wrap (x.lo+y.lo)=x.lo+y.lo:=IntWalk.i64_in _ (by omega);have hw2:IntKind.i64.wrap (x.hi+y.hi)=x.hi+y.hi:=IntWalk.i64_in _ (by omega);clear g2;refine W_T ?_;(with_reducible repeat'(first|simp (disch:=omega) only[push_cast,↓zz,seval,hye,hw1,hw2]|apply Aa|refine sp_ ?_ ?_<;>intro hc<;>push_cast at hc|omega|intro _));refine⟨(j+1,o++[sumS x y]),?_⟩;(with_reducible repeat'(first|simp (disch:=omega) only[push_cast,↓zz,seval,sumS,hstep]|apply Aa|refine sp_ ?_ ?_<;>intro hc<;>push_cast at hc|omega|intro _))
  ·obtain rfl:j=b.length:=by omega
   rw[AB] at g2;rw[<-g2] at h3;clear g2;have hno:=M9 o;have hap:=@Zl o (Tb (a.drop (k+1)) b);refine W_T ?_;(with_reducible repeat'(first|simp (disch:=omega) only[push_cast,↓zz,seval]|apply Aa|refine sp_ ?_ ?_<;>intro hc<;>push_cast at hc|omega|intro _))
   ·(refine zbj (ys:=[By o]) ?_ ?_ ?_<;>(simp(disch:=omega)only[push_cast,↓zz,seval]))
    (refine Ju [] (W4 o (by omega)) (by decide) (by simp) (by (simp(disch:=omega)only[push_cast,↓zz,seval])) (by (simp(disch:=omega)only[push_cast,↓zz,seval])) (by (simp(disch:=omega)only[push_cast,↓zz,seval])) (by (simp(disch:=omega)only[push_cast,↓zz,seval,Ah,Au,AA,BW,De,Cq])) ?_)
    rintro y H' ⟨rfl,rfl⟩;refine⟨_,rfl,by simp,?_⟩;(with_reducible repeat'(first|simp (disch:=omega) only[push_cast,↓zz,seval]|apply Aa|refine sp_ ?_ ?_<;>intro hc<;>push_cast at hc|omega|intro _));refine⟨(k+1,Bq o),?_⟩;(with_reducible repeat'(first|simp (disch:=omega) only[push_cast,↓zz,seval,hap]|apply Aa|refine sp_ ?_ ?_<;>intro hc<;>push_cast at hc|omega|intro _))
   ·refine⟨(k+1,o),?_⟩
    (with_reducible repeat'(first|simp (disch:=omega) only[push_cast,↓zz,seval]|apply Aa|refine sp_ ?_ ?_<;>intro hc<;>push_cast at hc|omega|intro _))
 ·rw[Aw hk,show Tb [] b=[] from rfl,A3] at h3
  have hN:=CK out (by omega);refine W_T ?_;(with_reducible repeat'(first|simp (disch:=omega) only[push_cast,↓zz,seval,h3,Eg]|apply Aa|refine sp_ ?_ ?_<;>intro hc<;>push_cast at hc|refine ee hN ?_|(refine cc hN ?_;(simp(disch:=omega)only[push_cast,↓zz,seval,h3,Eg]);(fail_if_success change False))|omega|intro _))
  all_goals trace_state
def totV(l:List Part)(x:Int):Int:=(l.map λp=>valP p x).sum
theorem z58(x:Int):totV [] x=0:=rfl
theorem Zn(l:List Part)(p:Part)(x:Int):totV (l++[p]) x=totV l x+valP p x:=by simp[totV]
theorem MA{x:Int}(hx:0<=x/\x<=2097151):∀{l:List Part},(∀p∈l,FV p=true)->0<=totV l x/\totV l x<=l.length * 66060288
 |[],_=>by simp[totV]
 |p::l,h=>by
  have h1:=FX (h p (by simp)) hx;have h2:=MA hx (l:=l) λq hq=>h q (by simp[hq]);have e:totV (p::l) x=valP p x+totV l x:=by simp[totV]
  rw[e,List.length_cons]
  push_cast
  omega
def togF(l:List Part)(out:List Span)(x:Int):List Span:=addS out ⟨totV l x,totV l x⟩
def togL(l:List Part)(s:List Span):List Span :=
 if l.length=1 then imgL (nth l 0) s else Bq ((Ff (Bq s)).foldl (togF l) [])
theorem P0(l:List Part)(s:List Span)(hl:l.length<=1000)(hb:∀p∈l,FV p=true)(hs:s.length<=10000000000)(hsy:Syms (Bq s)):
 PC Tryz.prog 201 [FK l,By s] (By (togL l s)):=by
 have hln:=hsy.nums;have hls:=hsy.len;have hmem:∀k,k<(Ff (Bq s)).length->0<=nth (Ff (Bq s)) k/\nth (Ff (Bq s)) k<=1114111:=λk hk=>hsy.mem (HB.1 (Bo hk));have hit:=Mz (Bq s) (by omega) (F8 s);have hI:=Od (nth l 0) s hs;have hE:=M0 s (by omega);refine Ct Mq ?_;unfold Ig;(with_reducible repeat'(first|simp (disch:=omega) only[push_cast,↓zz,seval]|apply Aa|refine sp_ ?_ ?_<;>intro hc<;>push_cast at hc|refine ee hI ?_|refine ee hE ?_|((first|refine cc hI ?_|refine cc hE ?_);(simp(disch:=omega)only[push_cast,↓zz,seval]);(fail_if_success change False))|omega|intro _))
 ·rw[togL,Af (by omega)]
 rw[togL,Ae (by omega)];generalize hlne:Ff (Bq s)=m at *
 refine OU (Ue (σ:=Nat × List Span) (λk s=>s.2=(m.take k).foldl (togF l) []/\s.2.length<=k) [(2,.ptr 0 1 0 0),(5,.ptr 1 1 0 0),(22,.fn 204 [.cptr (By (Bq s))])] (λs=>[⟨1,1,true,[FK l]⟩,⟨1,1,true,[.ref 2 s.1 0 s.2.length]⟩,⟨2,s.1,false,s.2.map C3⟩])
  [.grp 0,.grp 1,.virt 2] 3 (1,[]) hit ?_ (λ_=>rfl) rfl ?_ rfl rfl (M7 _) (Py _) (by simp) ⟨by simp,by simp⟩ ?_ ?_)
 ·(with_reducible repeat'(first|simp (disch:=omega) only[push_cast,↓zz,seval]|apply Aa|refine sp_ ?_ ?_<;>intro hc<;>push_cast at hc|omega|intro _))
 ·(with_reducible repeat'(first|simp (disch:=omega) only[push_cast,↓zz,seval]|apply Aa|refine sp_ ?_ ?_<;>intro hc<;>push_cast at hc|omega|intro _))
 ·rintro k row ⟨v,out⟩ hrow ⟨h1,h2⟩
  simp only at h1 h2;obtain⟨hk,rfl⟩:=Zi hrow;have hxb:=hmem k hk;have hstep:(m.take (k+1)).foldl (togF l) []=togF l out (nth m k):=by rw[take_at hk,EP,<-h1];rfl
  generalize nth m k=x at *;refine W_T ?_;(with_reducible repeat'(first|simp (disch:=omega) only[push_cast,↓zz,seval]|apply Aa|refine sp_ ?_ ?_<;>intro hc<;>push_cast at hc|omega|intro _));refine W_T ?_;(with_reducible repeat'(first|simp (disch:=omega) only[push_cast,↓zz,seval]|apply Aa|refine sp_ ?_ ?_<;>intro hc<;>push_cast at hc|omega|intro _))
  refine Bv (B8 (λ(j:Nat)=>j<=l.length) (λj=>l.length-j)
   (λj=>[(2,.ptr 0 1 0 0),(5,.ptr 1 1 0 0),(6,.int .i64 x),(7,.int .i64 (totV (l.take j) x)),(24,FK l),(25,.int .i64 l.length),(26,.int .i64 j)]) (λ_=>[⟨1,1,true,[FK l]⟩,⟨1,1,true,[.ref 2 v 0 out.length]⟩,⟨2,v,false,out.map C3⟩]) (λ_ _=>[]) 0 (by simp) ?_ ?_)
  ·(with_reducible repeat'(first|simp (disch:=omega) only[push_cast,↓zz,seval,z58]|apply Aa|refine sp_ ?_ ?_<;>intro hc<;>push_cast at hc|omega|intro _))
  intro j hj;rcases Aj j l.length with hjl|hjl
  ·have hp:=hb _ (Bo hjl)
   have hV:=Hl (nth l j) x
   have e1:val1 (nth l j) x=valP (nth l j) x:=by
    have hvb:valB (nth l j) x=true:=by simp[valB,hp];omega
    simp[val1,hvb]
   rw[valV,e1] at hV;have t1:=MA (x:=x) (by omega) (l:=l.take j) λq hq=>hb q (BC hq);have t2:=FX hp (x:=x) (by omega);have hlt:(l.take j).length=j:=by simp;omega
   rw[hlt] at t1;have hw:IntKind.i64.wrap (totV (l.take j) x+valP (nth l j) x)=totV (l.take j) x+valP (nth l j) x:=IntWalk.i64_in _ (by omega);have hn:totV (l.take (j+1)) x=totV (l.take j) x+valP (nth l j) x:=by rw[take_at hjl,Zn]
   refine W_T ?_;(with_reducible repeat'(first|simp (disch:=omega) only[push_cast,↓zz,seval,hw]|apply Aa|refine sp_ ?_ ?_<;>intro hc<;>push_cast at hc|refine ee hV ?_|(refine cc hV ?_;(simp(disch:=omega)only[push_cast,↓zz,seval,hw]);(fail_if_success change False))|omega|intro _))
   all_goals exact⟨j+1,⟨hn.symm,by push_cast⟩,by omega,by omega⟩
  ·obtain rfl:j=l.length:=by omega
   rw[AB];have t1:=MA (x:=x) (by omega) (l:=l) hb;rw[togF] at hstep;generalize totV l x=n at *;have hwn:IntKind.i64.wrap (n-1)=n-1:=IntWalk.i64_in _ (by omega);rcases FU out with rfl|⟨mm,z,hout⟩
   ·refine W_T ?_
    (with_reducible repeat'(first|simp (disch:=omega) only[push_cast,↓zz,seval,hwn]|apply Aa|refine sp_ ?_ ?_<;>intro hc<;>push_cast at hc|omega|intro _))
    all_goals
     refine⟨(v+1,[⟨n,n⟩]),?_⟩;rw[HA] at hstep;(with_reducible repeat'(first|simp (disch:=omega) only[push_cast,↓zz,seval,hstep]|apply Aa|refine sp_ ?_ ?_<;>intro hc<;>push_cast at hc|omega|intro _))
   ·have l1:out.length=mm.length+1:=by rw[hout];simp
    have l2:nth out mm.length=z:=by rw[hout];exact z4w
    have l3:IntKind.i64.wrap (mm.length:Int)=mm.length:=IntWalk.i64_in _ (by omega);have l4:(out.map C3).set mm.length (.agg [.int .i64 z.lo,.int .i64 n])=(mm++[(⟨z.lo,n⟩:Span)]).map C3:=by rw[hout];exact Rr (f:=C3) (z:=⟨z.lo,n⟩)
    have hadd:addS out ⟨n,n⟩=if z.hi=n-1 then mm++[⟨z.lo,n⟩] else out++[⟨n,n⟩]:=by rw[hout,M4]
    rw[hadd] at hstep;clear hadd hout;refine W_T ?_;(with_reducible repeat'(first|simp (disch:=omega) only[push_cast,↓zz,seval,l1,l2,l3,l4,hwn]|apply Aa|refine sp_ ?_ ?_<;>intro hc<;>push_cast at hc|omega|intro _))
    ·rw[Af (by assumption)] at hstep
     refine⟨(v,mm++[⟨z.lo,n⟩]),?_⟩;(with_reducible repeat'(first|simp (disch:=omega) only[push_cast,↓zz,seval,hstep]|apply Aa|refine sp_ ?_ ?_<;>intro hc<;>push_cast at hc|omega|intro _))
    ·rw[Ae (by assumption)] at hstep
     refine⟨(v+1,out++[⟨n,n⟩]),?_⟩;(with_reducible repeat'(first|simp (disch:=omega) only[push_cast,↓zz,seval,hstep,l1]|apply Aa|refine sp_ ?_ ?_<;>intro hc<;>push_cast at hc|omega|intro _))
 ·rintro⟨v,out⟩ ⟨h1,h2⟩
  simp only[Ba] at h1 h2;rw[AB] at h1;rw[<-h1];have hN:=CK out (by omega);(with_reducible repeat'(first|simp (disch:=omega) only[push_cast,↓zz,seval,Eg]|apply Aa|refine sp_ ?_ ?_<;>intro hc<;>push_cast at hc|refine ee hN ?_|(refine cc hN ?_;(simp(disch:=omega)only[push_cast,↓zz,seval,Eg]);(fail_if_success change False))|omega|intro _))
  all_goals trace_state
def EJ(pl:List Int)(p:Part):List Int:=if p.at_∈pl then pl else pl++[p.at_]
def EZ(l:List Part):List Int:=l.foldl EJ []
def atL(l:List Part)(a:Int):List Part:=l.filter λp=>decide (p.at_=a)
def Ip(l:List Part)(sets:List (List Span))(out:List Span)(a:Int):List Span:=Rv out (togL (atL l a) (nth sets a.toNat))
def HN(t:Term)(sets:List (List Span)):List Span:=(EZ t.parts).foldl (Ip t.parts sets) [⟨t.sum,t.sum⟩]
def Np(l:List Span):Bool:=decide (0<(l.length:Int))&&(decide (0<=(Ru (Bq l)).getD 0)&&decide ((SZ (Bq l)).getD 0<=1114111))
def Acc(l:List Span):Prop:=Bd l/\l.length<=2147483649
theorem MB(l:List Span):Acc (Bq l):=by
 refine⟨λs hs=>?_,M9 l⟩;have:=F8 l s hs;omega
theorem P2(a b:List Span):Acc (Rv a b):=MB _
theorem P3(p:Part)(s:List Span):Acc (imgL p s):=by
 unfold imgL
 repeat' split
 all_goals first|exact MB _|exact⟨λs hs=>(by cases hs),by simp⟩
theorem UJ(l:List Part)(s:List Span):Acc (togL l s):=by
 unfold togL;split
 ·exact P3 _ _
 ·exact MB _
theorem Zo{x:Int}(h:HJ x=true):Acc [⟨x,x⟩]:=by
 refine⟨λs hs=>?_,by simp⟩;have:=H8 h;simp only[Aq] at hs;subst hs;simp only;omega
structure Oe(l:List Part)(sets:List (List Span)):Prop where
 parts:∀p∈l,EN p sets.length=true
 syms:∀s∈sets,Syms s
 many:sets.length<=1000
theorem Rx{s:List Span}(h:Syms s):Bq s=s:=M8 h.1 λt ht=>by have:=h.2 t ht;omega
theorem Tc{l:List Part}{sets:List (List Span)}{out:List Span}{a:Int}(hS:Oe l sets)(hA:Acc out)(ha:0<=a/\a<sets.length)(hl:l.length<=4):
 PC Tryz.prog 201 [FK (atL l a),By (nth sets a.toNat)] (By (togL (atL l a) (nth sets a.toNat)))/\PC Tryz.prog 200 [By out,By (togL (atL l a) (nth sets a.toNat))] (By (Ip l sets out a))/\Acc (Ip l sets out a):=by
 have hm:nth sets a.toNat∈sets:=Bo (by omega);have hs:=hS.syms _ hm;refine⟨P0 _ _ (AW (B7 _ _) (by omega)) (λp hp=>?_) (by have:=hs.len;omega) (by rw[Rx hs];exact hs),Zm _ _ (by have:=hA.2;omega) (by have:=(UJ (atL l a) (nth sets a.toNat)).2;omega) hA.1 (UJ _ _).1,P2 _ _⟩;have:=hS.parts p ((AX.1 hp).1);simp only[EN,Ab] at this;exact this.2
theorem T_cut{σ:Type}{P:Program}{n b:Nat}{env:Env}{H:As}{Q:Ex->Env->As->Prop}(live:σ->List (Nat × AV))(heap:σ->List Grp)(srcs:Env->As->List Src){x y:AC}
 (h1:T P n b x env H (Ex.then (λenv' H'=>∃s',Head b env' H' (srcs env' H') (live s') (heap s')) Q)) (h2:∀s,T P n b y (Ef (live s)) (hl (heap s)) Q):T P n b (.seq x y) env H Q:=JE (T.mono h1 λx env' H' hh=>by
 cases x with
 |normal=>obtain⟨s',k⟩:=hh;exact N9 k (h2 s')
 |exit id=>exact hh
 |ret=>exact hh)
theorem pc_tt{P:Program}{f m np:Nat}{xs:List AV}{y:AV}{res:List ARes}{B:AC}(hf:Bp P f xs.length=some ⟨m,np,res,B⟩)(h:T P m 0 B (entry xs) (Abs.hl []) (Ret P res λz H=>CM 4 H z/\ansW (frzV 4 H z) y)):PC P f xs y:=by
 refine z8p hf 4 ?_;rw[Qw];exact T.mono h λx env H hh=>OQ (λz H hh=>⟨hh.1,XP hh.2⟩) hh
theorem em2(a b:Int):(a=b/\True)\/(¬a=b/\¬b=a):=by
 rcases Classical.em (a=b) with h|h
 ·exact .inl ⟨h,trivial⟩
 ·exact .inr ⟨h,λq=>h q.symm⟩
def mpO(l:List Part)(pl:List Int):List AV:=pl.flatMap λa=>[.int .i64 a,FK (atL l a)]
theorem UK{l:List Part}{z:AV}{a:Int}:∀{pl:List Int},a∈pl->HL z a (mpO l pl)=some (FK (atL l a))
 |[],h=>by cases h
 |b::pl,h=>by
  rw[show mpO l (b::pl)=.int .i64 b::FK (atL l b)::mpO l pl from rfl,N5];split
  ·rename_i e;rw[e]
  ·rename_i e;exact UK ((Ah.1 h).resolve_left λq=>e q.symm)
theorem UL(l:List Part):∀pl:List Int,A9 (mpO l pl)=true
 |[]=>rfl
 |b::pl=>by
  rw[show mpO l (b::pl)=[.int .i64 b,FK (atL l b)]++mpO l pl from rfl,GZ,UL l pl];simp[A9,AV.pure,Hb]
theorem Of{a:Int}:∀{l:List Part}{pl:List Int},a∈l.foldl EJ pl->a∈pl\/∃p∈l,p.at_=a
 |[],_,h=>.inl h
 |p::l,pl,h=>by
  rcases Of (l:=l) h with h|⟨q,h1,h2⟩
  ·unfold EJ at h
   split at h
   ·exact .inl h
   ·rcases Ap.1 h with h|h
    ·exact .inl h
    ·exact .inr ⟨p,by simp,(Aq.1 h).symm⟩
  ·exact .inr ⟨q,by simp[h1],h2⟩
theorem Og:∀(l:List Part)(pl:List Int),(l.foldl EJ pl).length<=pl.length+l.length
 |[],_=>Ac _
 |p::l,pl=>by
  have h:=Og l (EJ pl p);have k:(EJ pl p).length<=pl.length+1:=by unfold EJ;split<;>simp
  show (l.foldl EJ (EJ pl p)).length<=_;rw[List.length_cons];omega
theorem UM{l:List Part}{sets:List (List Span)}:∀(q:List Int){out:List Span},Acc out->Acc (q.foldl (Ip l sets) out)
 |[],_,h=>h
 |_::q,_,_=>UM q (P2 _ _)
set_option maxHeartbeats 2000000 in
theorem Td(t:Term)(sets:List (List Span))(hl:t.parts.length<=4)(hs:HJ t.sum=true)(hS:Oe t.parts sets):
 PC Tryz.prog 196 [Ha t,CO sets] (.tup [By (HN t sets),.bool (Np (HN t sets))]):=by
 obtain⟨bs,dr,tk,up,sm,l⟩:=t;simp only at hl hs hS;have hg:=Bw sets;have A0:=Zo hs
 have hb:∀a∈EZ l,0<=a/\a<sets.length:=λa h=>by
  rcases Of h with h|⟨p,hp,rfl⟩
  ·cases h
  ·exact IG (hS.parts p hp)
 have hmp:∀a∈EZ l,HL .nilS a (mpO l (EZ l))=some (FK (atL l a)):=λa h=>UK h;have hpu:=UL l (EZ l);have hpn:(EZ l).length<=4:=AW (Og l []) (by simpa using hl);have hv:HN ⟨bs,dr,tk,up,sm,l⟩ sets=(EZ l).foldl (Ip l sets) [⟨sm,sm⟩]:=rfl;rw[hv];obtain⟨pl,hpl⟩:∃pl,EZ l=pl:=⟨_,rfl⟩;obtain⟨mp,hme⟩:∃mp,mpO l (EZ l)=mp:=⟨_,rfl⟩;rw[hme] at hmp hpu;rw[hpl] at hb hmp hme hpn ⊢;clear hv;refine pc_tt Pi ?_;unfold JS;refine JE (W_T ?_);(with_reducible repeat'(first|simp (disch:=omega) only[push_cast,↓zz,seval]|apply Aa|refine sp_ ?_ ?_<;>intro hc<;>push_cast at hc|omega|intro _));refine JE (W_T ?_);(with_reducible repeat'(first|simp (disch:=omega) only[push_cast,↓zz,seval]|apply Aa|refine sp_ ?_ ?_<;>intro hc<;>push_cast at hc|omega|intro _));refine JE (W_T ?_);(with_reducible repeat'(first|simp (disch:=omega) only[push_cast,↓zz,seval]|apply Aa|refine sp_ ?_ ?_<;>intro hc<;>push_cast at hc|omega|intro _));refine T_cut (σ:=Unit) (λ_=>[(1,CO sets),(2,.ptr 0 1 0 0),(6,.map 1 1),(7,.lst 1 (pl.map (AV.int .i64)))]) (λ_=>[⟨6,1,true,[Ha ⟨bs,dr,tk,up,sm,l⟩]⟩,⟨0,1,true,mp⟩]) (λenv _=>[DD 6 (env 2),DD 1 (env 6)]) (W_T ?_) ?_
 ·clear hmp hpu hpn hb hS A0 hs
  rcases l with _|⟨⟨a0,d0,t0,u0⟩,_|⟨⟨a1,d1,t1,u1⟩,_|⟨⟨a2,d2,t2,u2⟩,_|⟨⟨a3,d3,t3,u3⟩,_|⟨p4,l⟩⟩⟩⟩⟩
  case cons.cons.cons.cons.cons=>simp at hl
  all_goals first|(refine (em2 a0 a1).elim (λq=>?_) λn01=>?_;obtain⟨rfl,n01⟩:=q)|(have n01:=trivial)
  all_goals first|(refine (em2 a0 a2).elim (λq=>?_) λn02=>?_;obtain⟨rfl,n02⟩:=q)|(have n02:=trivial)
  all_goals first|(refine (em2 a1 a2).elim (λq=>?_) λn12=>?_;obtain⟨rfl,n12⟩:=q)|(have n12:=trivial)
  all_goals first|(refine (em2 a0 a3).elim (λq=>?_) λn03=>?_;obtain⟨rfl,n03⟩:=q)|(have n03:=trivial)
  all_goals first|(refine (em2 a1 a3).elim (λq=>?_) λn13=>?_;obtain⟨rfl,n13⟩:=q)|(have n13:=trivial)
  all_goals first|(refine (em2 a2 a3).elim (λq=>?_) λn23=>?_;obtain⟨rfl,n23⟩:=q)|(have n23:=trivial)
  all_goals
   simp[EZ,EJ,n01,n02,n12,n03,n13,n23] at hpl;subst hpl;simp[mpO,atL,n01,n02,n12,n03,n13,n23] at hme;subst hme
  all_goals (with_reducible repeat'(first|simp (disch:=omega) only[push_cast,↓zz,seval]|apply Aa|refine sp_ ?_ ?_<;>intro hc<;>push_cast at hc|omega|intro _))
  all_goals refine Q8 6 ?_
  all_goals (with_reducible repeat'(first|simp (disch:=omega) only[push_cast,↓zz,seval,xx,Ah,Au,AA,BZ,CY,Br,D3,D2,HL,setM,n01,n02,n12,n03,n13,n23]|apply Aa|refine sp_ ?_ ?_<;>intro hc<;>push_cast at hc|refine Sy ?_|((first|(refine HZ [1] ?_;(simp(disch:=omega)only[push_cast,↓zz,seval,xx,Ah,Au,AA,BZ,CY,Br,D3,D2,Grp.mk.injEq,HL,setM,n01,n02,n12,n03,n13,n23]);fail_if_success change False)|(refine HZ [1,5] ?_;(simp(disch:=omega)only[push_cast,↓zz,seval,xx,Ah,Au,AA,BZ,CY,Br,D3,D2,Grp.mk.injEq,HL,setM,n01,n02,n12,n03,n13,n23]);fail_if_success change False)|(refine HZ [1,8] ?_;(simp(disch:=omega)only[push_cast,↓zz,seval,xx,Ah,Au,AA,BZ,CY,Br,D3,D2,Grp.mk.injEq,HL,setM,n01,n02,n12,n03,n13,n23]);fail_if_success change False)|(refine HZ [1,9] ?_;(simp(disch:=omega)only[push_cast,↓zz,seval,xx,Ah,Au,AA,BZ,CY,Br,D3,D2,Grp.mk.injEq,HL,setM,n01,n02,n12,n03,n13,n23]);fail_if_success change False)|(refine HZ [1,11] ?_;(simp(disch:=omega)only[push_cast,↓zz,seval,xx,Ah,Au,AA,BZ,CY,Br,D3,D2,Grp.mk.injEq,HL,setM,n01,n02,n12,n03,n13,n23]);fail_if_success change False)))|omega|intro _))
  all_goals exact⟨(),trivial⟩
 rintro _;have hpp:=Bt .i64 pl;refine W_T ?_;(with_reducible repeat'(first|simp (disch:=omega) only[push_cast,↓zz,seval]|apply Aa|refine sp_ ?_ ?_<;>intro hc<;>push_cast at hc|omega|intro _))
 refine Bv (B8 (λ(j:Nat)=>j<=pl.length) (λj=>pl.length-j)
  (λj=>[(1,CO sets),(6,.map 0 1),(10,By ((pl.take j).foldl (Ip l sets) [⟨sm,sm⟩])),(53,.lst 1 (pl.map (AV.int .i64))),(54,.int .i64 pl.length),(55,.int .i64 j)])
  (λ_=>[⟨0,1,true,mp⟩]) (λenv _=>[DD 1 (env 6)]) 0 (Ay _) ?_ ?_)
 ·(with_reducible repeat'(first|simp (disch:=omega) only[push_cast,↓zz,seval,hpu,List.foldl_nil,Bf,Bh]|apply Aa|refine sp_ ?_ ?_<;>intro hc<;>push_cast at hc|omega|intro _))
 intro j hj;have A1:=UM (l:=l) (sets:=sets) (pl.take j) A0;rcases Aj j pl.length with h|h
 ·have hm:=Bo h
  have hf:=hmp _ hm;have hbd:=hb _ hm;obtain⟨T1,P1,_⟩:=Tc (a:=nth pl j) hS A1 hbd hl;have hst:(pl.take (j+1)).foldl (Ip l sets) [⟨sm,sm⟩]=Ip l sets ((pl.take j).foldl (Ip l sets) [⟨sm,sm⟩]) (nth pl j):=by rw[take_at h,EP];rfl
  refine W_T ?_;generalize (pl.take j).foldl (Ip l sets) [⟨sm,sm⟩]=o at *;(with_reducible repeat'(first|simp (disch:=omega) only[push_cast,↓zz,seval,hf,hg,hpu]|apply Aa|refine sp_ ?_ ?_<;>intro hc<;>push_cast at hc|refine ee T1 ?_|refine ee P1 ?_|((first|refine cc T1 ?_|refine cc P1 ?_);(simp(disch:=omega)only[push_cast,↓zz,seval,hf,hg,hpu]);(fail_if_success change False))|omega|intro _))
  all_goals
   refine⟨j+1,?_⟩;(with_reducible repeat'(first|simp (disch:=omega) only[push_cast,↓zz,seval,hst,hpu]|apply Aa|refine sp_ ?_ ?_<;>intro hc<;>push_cast at hc|omega|intro _))
 obtain rfl:j=pl.length:=by omega
 rw[AB] at A1;have htk:pl.take pl.length=pl:=AB;rw[htk];generalize pl.foldl (Ip l sets) [⟨sm,sm⟩]=o at *;have hF:=W0 o (by have:=A1.2;omega);have hL:=Zf o (by have:=A1.2;omega);refine W_T ?_;(with_reducible repeat'(first|simp (disch:=omega) only[push_cast,↓zz,seval,Np]|apply Aa|refine sp_ ?_ ?_<;>intro hc<;>push_cast at hc|refine ee hF ?_|refine ee hL ?_|((first|refine cc hF ?_|refine cc hL ?_);(simp(disch:=omega)only[push_cast,↓zz,seval,Np]);(fail_if_success change False))|omega|intro _))
 all_goals ((try simp only[*,CI,BX,AN,Be]);(repeat'(first|(simp(disch:=omega)only[push_cast,↓zz,seval,FJ])|omega|(with_reducible refine Aa ?_ ?_))))
def midG(gs:List (List Span))(k:Nat):List (List Span):=(gs.take k).map symI++List.replicate (gs.length-k) []
theorem UN{gs:List (List Span)}{k:Nat}(h:k<=gs.length):(midG gs k).length=gs.length:=by simp[midG];omega
theorem z59(gs:List (List Span)):midG gs gs.length=gs.map symI:=by simp[midG]
theorem z5a{gs:List (List Span)}{k:Nat}(h:k<gs.length):((midG gs k).map By).set k (By (symI (nth gs k)))=(midG gs (k+1)).map By:=by
 have e:gs.length-k=(gs.length-(k+1))+1:=by omega
 rw[midG,midG,take_at h,e,List.replicate_succ,A7,En _ _ (by simp;omega)];simp[show min k gs.length=k by omega]
theorem zc5{gs:List (List Span)}{k:Nat}(h:k<gs.length):nth (midG gs (k+1)) k=symI (nth gs k):=by
 rw[midG,take_at h,nth,Am,A7,Ax,A5 (by simp;omega)];simp[show min k gs.length=k by omega]
theorem z5b(n:Nat):A9 (List.replicate n AV.nilS)=true:=by
 induction n with
 |zero=>rfl
 |succ n ih=>simp[List.replicate_succ,A9,AV.pure,ih]
theorem z5c(l:List Grp)(gs:List (List Span)):leSL l (List.replicate gs.length .nilS) ((midG gs 0).map By):=by
 simp only[midG,List.take_zero,Bh,List.nil_append,Nat.sub_zero,CP];generalize gs.length=n
 induction n with
 |zero=>rfl
 |succ n ih=>exact⟨⟨by decide,rfl⟩,ih⟩
def K2(gs:List (List Span))(k:Nat):Bool:=(gs.take k).all λg=>decide (0<((symI g).length:Int))
theorem z5d{gs:List (List Span)}{k:Nat}(h:k<gs.length):K2 gs (k+1)=(K2 gs k&&decide (0<((symI (nth gs k)).length:Int))):=by
 rw[K2,take_at h,List.all_append];simp[K2]
def prtB(t:Term)(n:Int):Bool:=t.parts.all λp=>EN p n
def Fj(t:Term)(gs:List (List Span)):List Span × Bool :=
 if 4<gs.length\/Ei t=false then ([],false) else if prtB t gs.length=false then ([],false) else
  if K2 gs gs.length=false then ([],true) else (HN t (gs.map symI),Np (HN t (gs.map symI)))
theorem zga{l:List Part}{n:Int}{k:Nat}(h:k<l.length):(l.drop k).all (λp=>EN p n)=(EN (nth l k) n&&(l.drop (k+1)).all λp=>EN p n):=by rw[drop_at h,List.all_cons]
theorem K3{t:Term}{gs:List (List Span)}(h:prtB t gs.length=true)(hg:gs.length<=4):Oe t.parts (gs.map symI) where
 parts p hp:=by
  rw[Ba];exact AU.1 h p hp
 syms s hs:=by
  obtain⟨g,_,rfl⟩:=Ar.1 hs;exact Rs g
 many:=by simp;omega
theorem W5(t:Term)(gs:List (List Span))(ht:t.parts.length<1000000000000)(hg:∀g∈gs,g.length<=1000000)(hl:gs.length<=9223372036854775807):
 PC Tryz.prog 185 [Ha t,CO gs] (.tup [By (Fj t gs).1,.bool (Fj t gs).2]):=by
 have hP:=Bw gs;have hN:=Ik t ht;have hY:=Rt;refine Ct Rh ?_;unfold KW;by_cases h1:4<gs.length\/Ei t=false
 ·rw[Fj,Af h1]
  (with_reducible repeat'(first|simp (disch:=omega) only[push_cast,↓zz,seval]|apply Aa|refine sp_ ?_ ?_<;>intro hc<;>push_cast at hc|refine ee hN ?_|(refine cc hN ?_;(simp(disch:=omega)only[push_cast,↓zz,seval]);(fail_if_success change False))|omega|intro _))
  all_goals first
   |((repeat'(first|(simp(disch:=omega)only[push_cast,↓zz,seval,FJ])|omega|(with_reducible refine Aa ?_ ?_)));done)
   |(exfalso;rcases h1 with h1|h1<;>first|omega|simp_all)
 have h4:gs.length<=4:=by omega
 have hn:Ei t=true:=by simpa using (CY.1 h1).2
 (with_reducible repeat'(first|simp (disch:=omega) only[push_cast,↓zz,seval,hn]|apply Aa|refine sp_ ?_ ?_<;>intro hc<;>push_cast at hc|refine ee hN ?_|(refine cc hN ?_;(simp(disch:=omega)only[push_cast,↓zz,seval,hn]);(fail_if_success change False))|omega|intro _))
 refine Bv (B8 (λ(k:Nat)=>k<=gs.length) (λk=>gs.length-k)
  (λk=>[(1,CO gs),(2,.ptr 0 1 0 0),(6,.bool (K2 gs k)),(7,.ref 1 1 0 gs.length),(23,CO gs),(24,.int .i64 gs.length),(25,.int .i64 k)]) (λk=>[⟨6,1,true,[Ha t]⟩,⟨1,1,true,(midG gs k).map By⟩]) (λenv _=>[DD 1 (env 2),DD 1 (env 7)]) 0 (by simp) ?_ ?_)
 ·have e:=z5c
  have hr:A9 (List.replicate gs.length AV.nilS)=true:=z5b gs.length;have hs0:K2 gs 0=true:=rfl;(with_reducible repeat'(first|simp (disch:=omega) only[push_cast,↓zz,seval,hs0,hP,hr]|apply Aa|refine sp_ ?_ ?_<;>intro hc<;>push_cast at hc|omega|intro _))
  all_goals exact e _ gs
 intro k hk;have hml:=UN hk;have hpm:=Bw (midG gs k);rcases Aj k gs.length with hkl|hkl
 ·have hM:=Mx (nth gs k) [⟨0,1114111⟩] (by have:=hg _ (Bo hkl);omega) (by simp)
  rw[z56] at hM;have e1:=z5a hkl;have e2:=zc5 hkl;have e3:=z5d hkl;have hpm2:=Bw (midG gs (k+1));have hml2:=UN (gs:=gs) (k:=k+1) (by omega);refine W_T ?_;(with_reducible repeat'(first|simp (disch:=omega) only[push_cast,↓zz,seval,hP,hpm,hpm2,hml,hml2,e1,e2]|apply Aa|refine sp_ ?_ ?_<;>intro hc<;>push_cast at hc|refine ee hY ?_|refine ee hM ?_|((first|refine cc hY ?_|refine cc hM ?_);(simp(disch:=omega)only[push_cast,↓zz,seval,hP,hpm,hpm2,hml,hml2,e1,e2]);(fail_if_success change False))|omega|intro _))
  all_goals
   refine⟨k+1,?_⟩;(with_reducible repeat'(first|simp (disch:=omega) only[push_cast,↓zz,seval,e3]|apply Aa|refine sp_ ?_ ?_<;>intro hc<;>push_cast at hc|omega|intro _))
  all_goals (simp only[*,AN,Be])
 ·obtain rfl:k=gs.length:=by omega
  rw[z59] at *;refine W_T ?_;(with_reducible repeat'(first|simp (disch:=omega) only[push_cast,↓zz,seval,hP,hpm]|apply Aa|refine sp_ ?_ ?_<;>intro hc<;>push_cast at hc|omega|intro _))
  refine Bv (B8 (λ(k:Nat)=>k<=t.parts.length/\prtB t gs.length=(t.parts.drop k).all λp=>EN p gs.length) (λk=>t.parts.length-k)
   (λk=>[(1,CO gs),(2,.ptr 0 1 0 0),(6,.bool (K2 gs gs.length)),(7,CO (gs.map symI)),(47,FK t.parts),(48,.int .i64 t.parts.length),(49,.int .i64 k)]) (λk=>[⟨6,1,true,[Ha t]⟩]) (λenv _=>[DD 1 (env 2)]) 0 ⟨by simp,rfl⟩ ?_ ?_)
  ·have et:List.take gs.length (gs.map symI)=gs.map symI:=An (by simp)
   (with_reducible repeat'(first|simp (disch:=omega) only[push_cast,↓zz,seval,hP,hpm,et]|apply Aa|refine sp_ ?_ ?_<;>intro hc<;>push_cast at hc|omega|intro _))
  rintro k ⟨k1,k2⟩;rcases Aj k t.parts.length with hkp|hkp
  ·have hR:=Gr (nth t.parts k) gs.length
   rw[zga hkp] at k2;refine W_T ?_;(with_reducible repeat'(first|simp (disch:=omega) only[push_cast,↓zz,seval,hP,hpm]|apply Aa|refine sp_ ?_ ?_<;>intro hc<;>push_cast at hc|refine ee hR ?_|(refine cc hR ?_;(simp(disch:=omega)only[push_cast,↓zz,seval,hP,hpm]);(fail_if_success change False))|omega|intro _))
   ·have hp:prtB t gs.length=false:=by rw[k2];simp[*]
    rw[Fj,Ae h1,Af hp];(repeat'(first|(simp(disch:=omega)only[push_cast,↓zz,seval,FJ])|omega|(with_reducible refine Aa ?_ ?_)))
   ·exact⟨k+1,by push_cast,⟨by omega,by rw[k2];simp[*]⟩,by omega⟩
  ·rw[Aw hkp] at k2
   have hp:prtB t gs.length=true:=k2;have hnum:=hn;simp only[Ei,Ab,Ag] at hnum;have hV:=Td t (gs.map symI) hnum.2.2 hnum.1.1.2 (K3 hp h4);have hI:Fj t gs=if K2 gs gs.length=false then ([],true) else (HN t (gs.map symI),Np (HN t (gs.map symI))):=by rw[Fj,Ae h1,Ae (by simp[hp])]
   refine W_T ?_;(with_reducible repeat'(first|simp (disch:=omega) only[push_cast,↓zz,seval,hP,hpm]|apply Aa|refine sp_ ?_ ?_<;>intro hc<;>push_cast at hc|refine ee hV ?_|(refine cc hV ?_;(simp(disch:=omega)only[push_cast,↓zz,seval,hP,hpm]);(fail_if_success change False))|omega|intro _))
   all_goals
    rw[hI]
    first
     |rw[Af (by assumption)]
     |rw[Ae (by simp[*])]
    (repeat'(first|(simp(disch:=omega)only[push_cast,↓zz,seval,FJ])|omega|(with_reducible refine Aa ?_ ?_)))
   all_goals trace_state
def Fl(t:Term)(gs:List (List Span)):List Span × Bool :=
 if (Fj t gs).2=false then ([],false) else if (Fj t gs).1.length=0 then ([],true) else (Lg (imgL t.outer (Fj t gs).1) t.base,true)
theorem Zp(t:Term)(gs:List (List Span))(h:HJ t.sum=true):(Fj t gs).1.length<=2147483649:=by
 unfold Fj
 repeat' split
 all_goals first|(simp;done)|skip
 unfold HN
 have key:∀(pl:List Int)(out:List Span),Acc out->Acc (pl.foldl (Ip t.parts (gs.map symI)) out):=λpl=>by
  induction pl with
  |nil=>exact λout h=>h
  |cons a pl ih=>exact λout h=>ih _ (P2 _ _)
 exact (key _ _ (Zo h)).2
theorem W6(t:Term)(gs:List (List Span))(ht:t.parts.length<1000000000000)(hg:∀g∈gs,g.length<=1000000)(hl:gs.length<=9223372036854775807):
 PC Tryz.prog 167 [Ha t,CO gs] (.tup [By (Fl t gs).1,.bool (Fl t gs).2]):=by
 have hP:=Bw gs;have hI:=W5 t gs ht hg hl;have hO:=FW t
 have hlen:(Fj t gs).2=true->(Fj t gs).1.length<=2147483649:=λh=>by
  by_cases hs:HJ t.sum=true
  ·exact Zp t gs hs
  ·have:Ei t=false:=by simp[Ei,hs]
   rw[Fj,Af (.inr this)] at h;cases h
 refine Ct Re ?_;unfold KU;rcases Bool.eq_false_or_eq_true (Fj t gs).2 with h2|h2
 ·have hl2:=hlen h2
  have hA:=P3 t.outer (Fj t gs).1;have hM:=Od t.outer (Fj t gs).1 (by omega);have hV:=Zh (imgL t.outer (Fj t gs).1) t.base (by have:=hA.2;omega);(with_reducible repeat'(first|simp (disch:=omega) only[push_cast,↓zz,seval,hP,h2]|apply Aa|refine sp_ ?_ ?_<;>intro hc<;>push_cast at hc|refine ee hI ?_|refine ee hO ?_|refine ee hM ?_|refine ee hV ?_|((first|refine cc hI ?_|refine cc hO ?_|refine cc hM ?_|refine cc hV ?_);(simp(disch:=omega)only[push_cast,↓zz,seval,hP,h2]);(fail_if_success change False))|omega|intro _))
  all_goals
   rw[Fl,Ae (by simp[h2])]
   first
    |rw[Af (by omega)]
    |rw[Ae (by omega)]
   (repeat'(first|(simp(disch:=omega)only[push_cast,↓zz,seval,FJ])|omega|(with_reducible refine Aa ?_ ?_)))
 ·(with_reducible repeat'(first|simp (disch:=omega) only[push_cast,↓zz,seval,hP,h2]|apply Aa|refine sp_ ?_ ?_<;>intro hc<;>push_cast at hc|refine ee hI ?_|(refine cc hI ?_;(simp(disch:=omega)only[push_cast,↓zz,seval,hP,h2]);(fail_if_success change False))|omega|intro _))
  all_goals
   rw[Fl,Af h2];(repeat'(first|(simp(disch:=omega)only[push_cast,↓zz,seval,FJ])|omega|(with_reducible refine Aa ?_ ?_)))
def P4(t:Term)(i o:Int)(gs:List (List Span)):Bool:=Jb t i o gs.length&&((Fl t gs).2&&decide (Io (Fl t gs).1 (domL o)=[]))
theorem Zq(t:Term)(gs:List (List Span)):(Fl t gs).1.length<=2147483649:=by
 unfold Fl
 repeat' split
 all_goals first|(simp;done)|skip
 have h1:=(P3 t.outer (Fj t gs).1).2;have h2:=z57 (imgL t.outer (Fj t gs).1) t.base;simp only;omega
theorem Zr(s:Int):(domL s).length<=2:=by unfold domL;split<;>(try split)<;>simp
theorem Zs(t:Term)(i o:Int)(gs:List (List Span))(ht:t.parts.length<1000000000000)(hg:∀g∈gs,g.length<=1000000)(hl:gs.length<=9223372036854775807):
 PC Tryz.prog 147 [Ha t,.int .i64 i,.int .i64 o,CO gs] (.bool (P4 t i o gs)):=by
 have hP:=Bw gs;have hR:=Wk t i o gs.length ht;have hI:=W6 t gs ht hg hl;have hD:=EY o;have hW:=My (Fl t gs).1 (domL o) (by have:=Zq t gs;omega) (by have:=Zr o;omega);refine Ct SD ?_;unfold Mj P4;(with_reducible repeat'(first|simp (disch:=omega) only[push_cast,↓zz,seval,hP]|apply Aa|refine sp_ ?_ ?_<;>intro hc<;>push_cast at hc|refine ee hR ?_|refine ee hI ?_|refine ee hD ?_|refine ee hW ?_|((first|refine cc hR ?_|refine cc hI ?_|refine cc hD ?_|refine cc hW ?_);(simp(disch:=omega)only[push_cast,↓zz,seval,hP]);(fail_if_success change False))|omega|intro _))
 all_goals simp only[*,AN,Be]
def MC:Int->List Span->Bool
 |_,[]=>true
 |last,s::l=>decide (s.lo<=s.hi/\-1073741824<=s.lo/\s.hi<=1073741824/\last+1<s.lo)&&MC s.hi l
def UO(g:List Span):Bool:=MC (-1073741826) g
theorem W7(g:List Span)(hl:g.length<=9223372036854775807):PC Tryz.prog 145 [By g] (.bool (UO g)):=by
 refine Ct Ra ?_;unfold KR;(with_reducible repeat'(first|simp (disch:=omega) only[push_cast,↓zz,seval]|apply Aa|refine sp_ ?_ ?_<;>intro hc<;>push_cast at hc|omega|intro _))
 refine Bv (B8 (λ(s:Nat × Int)=>s.1<=g.length/\UO g=MC s.2 (g.drop s.1)/\-1073741826<=s.2/\s.2<=1073741824) (λs=>g.length-s.1)
  (λs=>[(3,.int .i64 s.2),(6,By g),(7,.int .i64 g.length),(8,.int .i64 s.1)]) (λs=>[]) (λ_ _=>[]) (0,-1073741826) ⟨by simp,rfl,by simp,by simp⟩ ?_ ?_)
 ·(with_reducible repeat'(first|simp (disch:=omega) only[push_cast,↓zz,seval]|apply Aa|refine sp_ ?_ ?_<;>intro hc<;>push_cast at hc|omega|intro _))
 rintro⟨k,last⟩ ⟨h1,h2,h3,h4⟩;simp only at h1 h2 h3 h4;rcases Aj k g.length with hk|hk
 ·rw[drop_at hk,MC] at h2
  generalize hxe:nth g k=x at *;have hw:IntKind.i64.wrap (last+1)=last+1:=IntWalk.i64_in _ (by omega);refine W_T ?_;(with_reducible repeat'(first|simp (disch:=omega) only[push_cast,↓zz,seval,hw,hxe]|apply Aa|refine sp_ ?_ ?_<;>intro hc<;>push_cast at hc|omega|intro _))
  all_goals first
   |(rw[h2,Bu (by omega),Be];done)
   |exact⟨(k+1,x.hi),⟨rfl,by push_cast⟩,⟨by simp only;omega,by rw[h2,AQ (by omega),AN],by simp only;omega,by simp only;omega⟩,by simp only;omega⟩
 ·rw[Aw hk,MC] at h2
  refine W_T ?_;(with_reducible repeat'(first|simp (disch:=omega) only[push_cast,↓zz,seval,h2]|apply Aa|refine sp_ ?_ ?_<;>intro hc<;>push_cast at hc|omega|intro _))
  all_goals trace_state
def Oh(i:Int)(g:List Span):Bool:=!decide ((g.length:Int)=0)&&(decide ((g.length:Int)<=64)&&(UO g&&decide (Io g (domL i)=[])))
def G8(i:Int)(gs:List (List Span)):Bool:=decide ((gs.length:Int)<=4)&&gs.all (Oh i)
theorem MD(i:Int)(gs:List (List Span)):PC Tryz.prog 120 [.int .i64 i,CO gs] (.bool (G8 i gs)):=by
 have hP:=Bw gs;have hD:=EY i;have hdl:=Zr i;refine Ct Pe ?_;unfold JO;by_cases h4:4<gs.length
 ·rw[G8,Bu (by omega),Be]
  (with_reducible repeat'(first|simp (disch:=omega) only[push_cast,↓zz,seval]|apply Aa|refine sp_ ?_ ?_<;>intro hc<;>push_cast at hc|omega|intro _))
 rw[G8,AQ (by omega),AN];(with_reducible repeat'(first|simp (disch:=omega) only[push_cast,↓zz,seval]|apply Aa|refine sp_ ?_ ?_<;>intro hc<;>push_cast at hc|refine ee hD ?_|(refine cc hD ?_;(simp(disch:=omega)only[push_cast,↓zz,seval]);(fail_if_success change False))|omega|intro _))
 refine Bv (B8 (λ(k:Nat)=>k<=gs.length/\gs.all (Oh i)=(gs.drop k).all (Oh i)) (λk=>gs.length-k)
  (λk=>[(5,By (domL i)),(13,CO gs),(14,.int .i64 gs.length),(15,.int .i64 k)]) (λs=>[]) (λ_ _=>[]) 0 ⟨by simp,rfl⟩ ?_ ?_)
 ·(with_reducible repeat'(first|simp (disch:=omega) only[push_cast,↓zz,seval,hP]|apply Aa|refine sp_ ?_ ?_<;>intro hc<;>push_cast at hc|omega|intro _))
 rintro k ⟨h1,h2⟩;rcases Aj k gs.length with hk|hk
 ·rw[drop_at hk,List.all_cons,Oh] at h2
  generalize hge:nth gs k=g at *;refine W_T ?_;by_cases hl:(g.length:Int)=0
  ·rw[AQ hl,CU,Be,Be] at h2
   (with_reducible repeat'(first|simp (disch:=omega) only[push_cast,↓zz,seval,hP,hge,h2]|apply Aa|refine sp_ ?_ ?_<;>intro hc<;>push_cast at hc|omega|intro _))
  by_cases hl2:(g.length:Int)<=64
  ·rw[Bu hl,AQ hl2,Ea,AN,AN] at h2
   have hW:=My g (domL i) (by omega) (by omega);have hC:=W7 g (by omega);(with_reducible repeat'(first|simp (disch:=omega) only[push_cast,↓zz,seval,hP,hge]|apply Aa|refine sp_ ?_ ?_<;>intro hc<;>push_cast at hc|refine ee hC ?_|refine ee hW ?_|((first|refine cc hC ?_|refine cc hW ?_);(simp(disch:=omega)only[push_cast,↓zz,seval,hP,hge]);(fail_if_success change False))|omega|intro _))
   all_goals first
    |(rw[h2];simp[*];done)
    |exact⟨k+1,by push_cast,⟨by omega,by rw[h2];simp[*]⟩,by omega⟩
  ·rw[Bu hl2,Be,Dn,Be] at h2
   (with_reducible repeat'(first|simp (disch:=omega) only[push_cast,↓zz,seval,hP,hge,h2]|apply Aa|refine sp_ ?_ ?_<;>intro hc<;>push_cast at hc|omega|intro _))
 ·rw[Aw hk,List.all_nil] at h2
  refine W_T ?_;(with_reducible repeat'(first|simp (disch:=omega) only[push_cast,↓zz,seval,hP,h2]|apply Aa|refine sp_ ?_ ?_<;>intro hc<;>push_cast at hc|omega|intro _))
  all_goals trace_state
def JZ(d:Desc)(s:Int):Bool:=decide (0<=s)&&decide (s<d.states)
theorem IJ(d:Desc)(s:Int):PC Tryz.prog 119 [CQ d,.int .i64 s] (.bool (JZ d s)):=by
 refine Ct QT ?_;unfold KJ JZ;(with_reducible repeat'(first|simp (disch:=omega) only[push_cast,↓zz,seval]|apply Aa|refine sp_ ?_ ?_<;>intro hc<;>push_cast at hc|omega|intro _))
 all_goals simp only[*,CI,BX,AN,Be]
def Ry(d:Desc):Bool:=decide (0<((domL d.in_).length:Int))&&(decide (0<((domL d.out).length:Int))&&(decide (1<=d.states)&&(decide (d.states<=1024)&&(JZ d d.start&&(decide ((d.rules.length:Int)<=4096)&&decide ((d.finals.length:Int)<=4096))))))
theorem Zt(d:Desc):PC Tryz.prog 117 [CQ d] (.bool (Ry d)):=by
 have h1:=EY d.in_;have h2:=EY d.out;have h3:=IJ d d.start;refine Ct SB ?_;unfold Mg Ry;(with_reducible repeat'(first|simp (disch:=omega) only[push_cast,↓zz,seval]|apply Aa|refine sp_ ?_ ?_<;>intro hc<;>push_cast at hc|refine ee h1 ?_|refine ee h2 ?_|refine ee h3 ?_|((first|refine cc h1 ?_|refine cc h2 ?_|refine cc h3 ?_);(simp(disch:=omega)only[push_cast,↓zz,seval]);(fail_if_success change False))|omega|intro _))
 all_goals simp only[*,CI,BX,AN,Be]
 all_goals trace_state
def HC(d:Desc)(out:List Term)(gs:List (List Span)):Bool:=decide ((out.length:Int)<=64)&&out.all λt=>P4 t d.in_ d.out gs
theorem ME(d:Desc)(out:List Term)(gs:List (List Span))(ho:∀t∈out,t.parts.length<1000000000000)(hg:∀g∈gs,g.length<=1000000)(hl:gs.length<=9223372036854775807):
 PC Tryz.prog 121 [CQ d,Gj out,CO gs] (.bool (HC d out gs)):=by
 have hP:=Bw gs;have hT:=BV out;refine Ct Pf ?_;unfold JP;by_cases h4:64<out.length
 ·rw[HC,Bu (by omega),Be]
  (with_reducible repeat'(first|simp (disch:=omega) only[push_cast,↓zz,seval]|apply Aa|refine sp_ ?_ ?_<;>intro hc<;>push_cast at hc|omega|intro _))
 rw[HC,AQ (by omega),AN];(with_reducible repeat'(first|simp (disch:=omega) only[push_cast,↓zz,seval]|apply Aa|refine sp_ ?_ ?_<;>intro hc<;>push_cast at hc|omega|intro _))
 refine Bv (B8 (λ(k:Nat)=>k<=out.length/\(out.all λt=>P4 t d.in_ d.out gs)=(out.drop k).all λt=>P4 t d.in_ d.out gs) (λk=>out.length-k)
  (λk=>[(2,CO gs),(3,.ptr 0 1 0 0),(12,Gj out),(13,.int .i64 out.length),(14,.int .i64 k)]) (λs=>[⟨6,1,true,[CQ d]⟩]) (λenv _=>[DD 1 (env 3)]) 0 ⟨by simp,rfl⟩ ?_ ?_)
 ·(with_reducible repeat'(first|simp (disch:=omega) only[push_cast,↓zz,seval,hP,hT]|apply Aa|refine sp_ ?_ ?_<;>intro hc<;>push_cast at hc|omega|intro _))
 rintro k ⟨h1,h2⟩;rcases Aj k out.length with hk|hk
 ·rw[drop_at hk,List.all_cons] at h2
  have hF:=Zs (nth out k) d.in_ d.out gs (ho _ (Bo hk)) hg hl;refine W_T ?_;(with_reducible repeat'(first|simp (disch:=omega) only[push_cast,↓zz,seval,hP,hT]|apply Aa|refine sp_ ?_ ?_<;>intro hc<;>push_cast at hc|refine ee hF ?_|(refine cc hF ?_;(simp(disch:=omega)only[push_cast,↓zz,seval,hP,hT]);(fail_if_success change False))|omega|intro _))
  all_goals first
   |(rw[h2];simp[*];done)
   |exact⟨k+1,by push_cast,⟨by omega,by rw[h2];simp[*]⟩,by omega⟩
 ·rw[Aw hk,List.all_nil] at h2
  refine W_T ?_;(with_reducible repeat'(first|simp (disch:=omega) only[push_cast,↓zz,seval,hP,hT,h2]|apply Aa|refine sp_ ?_ ?_<;>intro hc<;>push_cast at hc|omega|intro _))
  all_goals trace_state
def eatB(n e:Int):Bool:=!decide (e<min n 1)&&!decide (n<e)
def IU(d:Desc)(r:Rule):Bool:=JZ d r.from_&&(JZ d r.to_&&(G8 d.in_ r.guards&&(eatB r.guards.length r.eat&&HC d r.out r.guards)))
theorem GH{i:Int}{gs:List (List Span)}(h:G8 i gs=true):gs.length<=4/\∀g∈gs,g.length<=64:=by
 simp only[G8,Ab,Ag] at h;refine⟨by omega,λg hg=>?_⟩;have:=AU.1 h.2 g hg;simp only[Oh,Ab,Ag] at this;omega
theorem Zu(d:Desc)(r:Rule)(ho:∀t∈r.out,t.parts.length<1000000000000):PC Tryz.prog 118 [CQ d,QM r] (.bool (IU d r)):=by
 have h1:=IJ d r.from_;have h2:=IJ d r.to_;have h3:=MD d.in_ r.guards;have hP:=Bw r.guards;have hT:=BV r.out;refine Ct SC ?_;unfold Mh IU eatB;cases hg:G8 d.in_ r.guards with
 |false =>
  rw[hg] at h3;(with_reducible repeat'(first|simp (disch:=omega) only[push_cast,↓zz,seval,hP,hT]|apply Aa|refine sp_ ?_ ?_<;>intro hc<;>push_cast at hc|refine ee h1 ?_|refine ee h2 ?_|refine ee h3 ?_|((first|refine cc h1 ?_|refine cc h2 ?_|refine cc h3 ?_);(simp(disch:=omega)only[push_cast,↓zz,seval,hP,hT]);(fail_if_success change False))|omega|intro _))
  all_goals simp only[*,CI,BX,AN,Be,Dn]
 |true =>
  rw[hg] at h3;obtain⟨g1,g2⟩:=GH hg;have h4:=ME d r.out r.guards ho (λg hg=>by have:=g2 g hg;omega) (by omega);(with_reducible repeat'(first|simp (disch:=omega) only[push_cast,↓zz,seval,hP,hT]|apply Aa|refine sp_ ?_ ?_<;>intro hc<;>push_cast at hc|refine ee h1 ?_|refine ee h2 ?_|refine ee h3 ?_|refine ee h4 ?_|((first|refine cc h1 ?_|refine cc h2 ?_|refine cc h3 ?_|refine cc h4 ?_);(simp(disch:=omega)only[push_cast,↓zz,seval,hP,hT]);(fail_if_success change False))|omega|intro _))
  all_goals simp only[*,CI,BX,AN,Be,Dn,CU,Ea,Ev]
  all_goals trace_state
abbrev Te(v:Nat)(l:List Int):Grp:=⟨1,v,l.isEmpty,l.map (AV.int .i64)⟩
def famF(n:Nat)(V:Nat->Nat)(D:Nat->List Int):List Grp:=(List.range n).map λi=>Te (V i) (D i)
def famT(n:Nat)(V:Nat->Nat)(D:Nat->List Int):List AV:=(List.range n).map λi=>AV.ref (i+3) (V i) 0 (D i).length
def famI(n:Nat)(f:Nat->Int):List AV:=(List.range n).map λi=>AV.int .i64 (f i)
theorem Df{α:Type}{n i:Nat}{f:Nat->α}{x:α}(h:i<n):((List.range n).map f).set i x=(List.range n).map λj=>if j=i then x else f j:=by
 refine BH (by simp) λj h1 h2=>?_;simp only[DJ,Ba,C8] at h1;simp only[List.getElem_set,Es,DR];by_cases e:i=j
 ·rw[Af e,Af e.symm]
 ·rw[Ae e,Ae λh=>e h.symm]
theorem Cp{α:Type}{n i:Nat}{f:Nat->α}{z:α}(h:i<n):((List.range n).map f).getD i z=f i:=by simp[List.getD,h]
theorem J2{ks:List Nat}{G:Grp}:∀{l:List Grp}{p i:Nat},p+i∈ks->CJ p ks l (l.set i G)
 |[],p,i,h=>trivial
 |a::l,p,0,h=>⟨.inl h,sameBut_refl⟩
 |a::l,p,i+1,h=>⟨.inr rfl,J2 (by rwa [show p+1+i=p+(i+1) by omega])⟩
where sameBut_refl {ks:List Nat}:∀{l:List Grp}{p:Nat},CJ p ks l l
 |[],p=>trivial
 |a::l,p=>⟨.inr rfl,sameBut_refl⟩
theorem UP:∀(l:List Grp)(G G':Grp),setQ (l++[G]) l.length G'=some (l++[G'])
 |[],_,_=>rfl
 |a::l,G,G'=>by rw[List.cons_append,List.length_cons,setQ,UP l G G'];rfl
theorem UQ:∀(l:List Grp)(G G':Grp){i:Nat},i<l.length->setQ (l++[G]) i G'=some (l.set i G'++[G])
 |[],_,_,i,h=>by simp at h
 |a::l,G,G',0,h=>rfl
 |a::l,G,G',i+1,h=>by rw[List.cons_append,setQ,UQ l G G' (by simpa using h)];rfl
def setV(V:Nat->Nat)(i v:Nat)(j:Nat):Nat:=if j=i then v else V j
structure CycOk(d:Desc):Prop where
 st:1<=d.states/\d.states<=1024
 len:d.rules.length<=4096
 rul:∀r∈d.rules,(0<=r.from_/\r.from_<d.states)/\0<=r.to_/\r.to_<d.states
def MF(d:Desc)(k:Nat):Env:=Ef [(1,.ptr 0 1 0 0),(3,.ref 1 1 0 d.states.toNat),(4,.ref 2 1 0 d.states.toNat),(21,Ft d.rules),(22,.int .i64 d.rules.length),(23,.int .i64 k)]
def DX(d:Desc)(k:Nat)(V:Nat->Nat):As:=Abs.hl (⟨6,1,true,[CQ d]⟩::⟨1,1,true,famT d.states.toNat V (toD (d.rules.take k))⟩::⟨1,1,true,famI d.states.toNat (inD (d.rules.take k))⟩::famF d.states.toNat V (toD (d.rules.take k)))
def cycL(d:Desc)(k:Nat)(V:Nat->Nat):List Grp:=⟨6,1,true,[CQ d]⟩::⟨1,1,true,famT d.states.toNat V (toD (d.rules.take k))⟩::⟨1,1,true,famI d.states.toNat (inD (d.rules.take k))⟩::famF d.states.toNat V (toD (d.rules.take k))
theorem Oi(d:Desc)(k:Nat)(V:Nat->Nat):DX d k V=Abs.hl (cycL d k V):=rfl
theorem P5(d:Desc)(k:Nat)(V:Nat->Nat):(cycL d k V).length=d.states.toNat+3:=by simp[cycL,famF]
theorem Gs(d:Desc):(CQ d).pure=true:=by simp[CQ,AV.pure,A9,BJ,BB]
theorem Tf(d:Desc)(k:Nat)(V:Nat->Nat):∀G∈cycL d k V,ltL (cycL d k V).length G.xs:=λG hG=>by
 rw[P5];simp only[cycL,Ah] at hG;rcases hG with rfl|rfl|rfl|hG
 ·exact Cm _ _ (by simp[A9,Gs])
 ·have key:∀(l:List Nat),(∀i∈l,i<d.states.toNat)->ltL (d.states.toNat+3) (l.map λi=>AV.ref (i+3) (V i) 0 (toD (d.rules.take k) i).length):=λl=>by
   induction l with
   |nil=>exact λ_=>trivial
   |cons i l ih =>
    intro h;exact⟨by have:=h i (by simp);show i+3<_;omega,ih λj hj=>h j (by simp[hj])⟩
  exact key _ λi hi=>by simpa using hi
 ·exact Cm _ _ (BL.2 λx hx=>by
   obtain⟨i,_,rfl⟩:=Ar.1 hx
   rfl)
 ·obtain⟨i,_,rfl⟩:=Ar.1 hG
  exact Cm _ _ (Bt .i64 _)
theorem Zv{d:Desc}{k:Nat}{V:Nat->Nat}{env:Env}{l gar:List Grp}(hn:1<=d.states)(hl':l=cycL d k V++gar)
 (h1:env 1=.ptr 0 1 0 0) (h3:env 3=.ref 1 1 0 d.states.toNat) (h4:env 4=.ref 2 1 0 d.states.toNat) (h21:env 21=Ft d.rules) (h22:env 22=.int .i64 d.rules.length) (h23:env 23=.int .i64 k) :
 Ent 105 0 env (Abs.hl l) (MF d k) (DX d k V):=by
 rw[hl',Oi];refine (Ls [(1,.ptr 0 1 0 0),(3,.ref 1 1 0 d.states.toNat),(4,.ref 2 1 0 d.states.toNat),(21,Ft d.rules),(22,.int .i64 d.rules.length),(23,.int .i64 k)] (λp hp=>?_)).trans (LZ (by omega) (Tf d k V) λi _=>?_)
 ·simp only[Ah,Au,AA] at hp
  rcases hp with rfl|rfl|rfl|rfl|rfl|rfl<;>assumption
 ·rw[P5]
  have hr:ltV (d.states.toNat+3) (Ft d.rules):=Cf _ _ (by simp[Ft,AV.pure,BJ]);simp only[Ef]
  repeat' split
  all_goals first
   |exact hr
   |trivial
   |(show _<_;omega)
theorem z5e{n i:Nat}{V:Nat->Nat}{D:Nat->List Int}{x:Int}(h:i<n):(famT n V D).set i (.ref (i+3) (V i+1) 0 ((D i).length+1))=famT n (setV V i (V i+1)) λp=>if p=i then D i++[x] else D p:=by
 rw[famT,Df h,famT];refine AD λj _=>?_;by_cases e:j=i
 ·subst e;simp[setV]
 ·simp[setV,e]
theorem z5f{n i:Nat}{V:Nat->Nat}{D:Nat->List Int}{x:Int}(h:i<n):(famF n V D).set i ⟨1,V i+1,false,(D i).map (AV.int .i64)++[.int .i64 x]⟩=famF n (setV V i (V i+1)) λp=>if p=i then D i++[x] else D p:=by
 rw[famF,Df h,famF];refine AD λj _=>?_;by_cases e:j=i
 ·subst e;simp[setV,Te]
 ·simp[setV,e]
theorem UR{n j:Nat}{f:Nat->Int}{x:Int}(h:j<n):(famI n f).set j (.int .i64 x)=famI n λp=>if p=j then x else f p:=by
 rw[famI,Df h,famI];refine AD λp _=>?_;by_cases e:p=j
 ·subst e;simp
 ·simp[e]
theorem z5g{l:List Rule}{k i:Nat}(hk:k<l.length)(hi:(nth l k).from_=i)(he:Dl (nth l k)=true):toD (l.take (k+1))=λp=>if p=i then toD (l.take k) i++[(nth l k).to_] else toD (l.take k) p:=by
 funext p;rw[take_at hk];simp only[toD,Cy,A7,BR,List.filter_nil,he,AN,hi,Ag];by_cases e:p=i
 ·subst e;simp
 ·rw[Ae (by omega),Ae e];simp
theorem z5h{l:List Rule}{k j:Nat}(hk:k<l.length)(hj:(nth l k).to_=j)(he:Dl (nth l k)=true):inD (l.take (k+1))=λp=>if p=j then inD (l.take k) j+1 else inD (l.take k) p:=by
 funext p;rw[take_at hk];simp only[inD,Cy,Al,BR,List.filter_nil,he,AN,hj,Ag];by_cases e:p=j
 ·subst e;simp
 ·rw[Ae (by omega),Ae e];simp
theorem z5i{l:List Rule}{k:Nat}(hk:k<l.length)(he:Dl (nth l k)=false):toD (l.take (k+1))=toD (l.take k)/\inD (l.take (k+1))=inD (l.take k):=by
 rw[take_at hk];refine⟨?_,?_⟩<;>funext p<;>simp[toD,inD,he]
theorem Zw(l:List Rule)(j:Nat):0<=inD l j/\inD l j<=l.length:=by
 have:=B7 (λr=>Dl r&&decide (r.to_=j)) l;simp only[inD];omega
theorem z7t(l:List Rule)(j:Nat):(toD l j).length<=l.length:=by
 have:=B7 (λr=>Dl r&&decide (r.from_=j)) l;simp only[toD,Ba];omega
theorem J3(l0:List Grp):∀l:List Grp,GW l0 l l
 |[]=>trivial
 |G::l=>⟨⟨rfl,rfl,id,B0 _ _⟩,J3 l0 l⟩
theorem z5j(n:Nat):famF n (λ_=>1) (toD [])=(List.replicate n 1).map HM:=by
 rw[CP];refine BH (by simp[famF]) λi h1 h2=>?_;simp only[famF,Es,DR,List.getElem_replicate];rfl
theorem z5k(n:Nat):famI n (inD [])=List.replicate n (.int .i64 0):=by
 refine BH (by simp[famI]) λi h1 h2=>?_;simp[famI,inD]
theorem Zx{l:List Grp}{n:Nat}(h:∀i,i<n->l.getD (i+3) default=HM 1/\i+3<l.length):leSL l (List.replicate n .nilS) (famT n (λ_=>1) (toD [])):=by
 have key:∀idx:List Nat,(∀i∈idx,i<n)->leSL l (List.replicate idx.length .nilS) (idx.map λi=>AV.ref (i+3) 1 0 (toD [] i).length):=λidx=>by
  induction idx with
  |nil=>exact λ_=>rfl
  |cons i idx ih =>
   intro hi;obtain⟨h1,h2⟩:=h i (hi i (by simp));refine⟨?_,ih λj hj=>hi j (by simp[hj])⟩;show 0=0/\(toD [] i).length=0/\(l.getD (i+3) default).ver=1/\0<(l.getD (i+3) default).w/\(l.getD (i+3) default).xs=[]/\(l.getD (i+3) default).exact=true/\i+3<l.length;rw[h1];exact⟨rfl,rfl,rfl,by decide,rfl,rfl,h2⟩
 have:=key (List.range n) λi hi=>by simpa using hi
 rwa [C8] at this
theorem Zy{d:Desc}{env:Env}(h1:env 1=.ptr 0 1 0 0)(h3:env 3=.ref 1 1 0 d.states.toNat)(h4:env 4=.ref 2 1 0 d.states.toNat)(h21:env 21=Ft d.rules)(h22:env 22=.int .i64 d.rules.length)(h23:env 23=.int .i64 0):
 Ent 105 0 env (Abs.hl [⟨6,1,true,[CQ d]⟩,⟨1,1,true,List.replicate d.states.toNat .nilS⟩,⟨1,1,true,List.replicate d.states.toNat (.int .i64 0)⟩]) (MF d 0) (DX d 0 λ_=>1):=by
 refine (Ls [(1,.ptr 0 1 0 0),(3,.ref 1 1 0 d.states.toNat),(4,.ref 2 1 0 d.states.toNat),(21,Ft d.rules),(22,.int .i64 d.rules.length),(23,.int .i64 0)] (λp hp=>?_)).trans
  ((U2 (List.replicate d.states.toNat 1) (λw hw=>by have:=(List.mem_replicate.1 hw).2;omega)).trans (Y5 ?_ λi _=>C2 _ _))
 ·simp only[Ah,Au,AA] at hp
  rcases hp with rfl|rfl|rfl|rfl|rfl|rfl<;>assumption
 ·rw[List.take_zero,z5j,z5k]
  refine⟨⟨rfl,rfl,id,B0 _ _⟩,⟨rfl,rfl,id,Zx λi hi=>?_⟩,⟨rfl,rfl,id,B0 _ _⟩,J3 _ _⟩;refine⟨?_,by simp;omega⟩;rw[CP];simp[List.getD,hi]
def Zz(n:Nat)(D:Nat->List Int):AV:=.lst 1 ((List.range n).map λi=>Nl (D i))
theorem Rz{n b:Nat}{env:Env}{H H':As}(hn:H'.n=H.n)(h:∀g,g<H.n->H'.at_ g=H.at_ g):Ent n b env H env H':=λS val hb hS hv=>⟨S,rfl,.refl hb,hS.congr hn h,hv⟩
def Ka(n:Nat):List Nat:=1::(List.range n).map (·+3)
theorem R0{n i:Nat}(h:i<n):i+3∈Ka n:=Ah.2 (.inr (Ar.2 ⟨i,AS.2 h,rfl⟩))
theorem z7u(d:Desc)(k:Nat)(V:Nat->Nat){i:Nat}(hi:i<d.states.toNat):(DX d k V).at_ (i+3)=Te (V i) (toD (d.rules.take k) i):=by
 rw[DX,Dj];simp only[D8];exact Cp hi
theorem zc6(d:Desc)(k:Nat)(V:Nat->Nat):CM 2 ((DX d k V).only (Ka d.states.toNat)) (.ref 1 1 0 d.states.toNat)/\frzV 2 ((DX d k V).only (Ka d.states.toNat)) (.ref 1 1 0 d.states.toNat)=Zz d.states.toNat (toD (d.rules.take k)):=by
 have hat1:((DX d k V).only (Ka d.states.toNat)).at_ 1=⟨1,1,true,famT d.states.toNat V (toD (d.rules.take k))⟩:=by
  show (if 1∈Ka d.states.toNat then (DX d k V).at_ 1 else ((DX d k V).at_ 1).dead)=_;rw[Af (by simp[Ka])];rfl
 have hat:∀i,i<d.states.toNat->((DX d k V).only (Ka d.states.toNat)).at_ (i+3)=Te (V i) (toD (d.rules.take k) i):=λi hi=>by
  show (if i+3∈Ka d.states.toNat then (DX d k V).at_ (i+3) else ((DX d k V).at_ (i+3)).dead)=_;rw[Af (R0 hi)];exact z7u d k V hi
 have htl:(((famT d.states.toNat V (toD (d.rules.take k))).drop 0).take d.states.toNat)=famT d.states.toNat V (toD (d.rules.take k)):=by
  rw[B2];exact An (by simp[famT])
 constructor
 ·refine⟨by rw[hat1],by rw[hat1];exact Nat.one_pos,by rw[hat1];simp[famT],λy hy=>?_⟩
  rw[hat1,htl] at hy;obtain⟨i,hi,rfl⟩:=Ar.1 hy;have hi':i<d.states.toNat:=by simpa using hi
  refine⟨by rw[hat i hi'],by rw[hat i hi'];exact Nat.one_pos,by rw[hat i hi'];simp,λz hz=>?_⟩;rw[hat i hi'] at hz;obtain⟨u,_,rfl⟩:=Ar.1 (BQ (BC hz));rfl
 ·show AV.lst _ _=_
  rw[hat1,htl,Zz,famT,CN];congr 1;refine AD λi hi=>?_;have hi':i<d.states.toNat:=by simpa using hi
  show AV.lst _ _=_;rw[hat i hi']
  have e:(((Te (V i) (toD (d.rules.take k) i)).xs.drop 0).take (toD (d.rules.take k) i).length).map (frzV 0 ((DX d k V).only (Ka d.states.toNat)))=(toD (d.rules.take k) i).map (AV.int .i64):=by
   rw[B2,An (by simp[Te])];refine (AD λx hx=>?_).trans (List.map_id _);obtain⟨u,_,rfl⟩:=Ar.1 hx;rfl
  rw[e]
def IK(d:Desc)(k:Nat):List (Nat × AV):=[(1,.ptr 0 1 0 0),(3,Zz d.states.toNat (toD (d.rules.take k))),(4,.ref 2 1 0 d.states.toNat),(7,.nilS),(52,.ref 2 1 0 d.states.toNat),(53,.int .i64 d.states.toNat),(54,.int .i64 0)]
theorem W8{d:Desc}{k:Nat}{V:Nat->Nat}{env:Env}(h1:env 1=.ptr 0 1 0 0)(h3:env 3=.ref 1 1 0 d.states.toNat)(h4:env 4=.ref 2 1 0 d.states.toNat)(h7:env 7=.nilS)(h52:env 52=.ref 2 1 0 d.states.toNat)(h53:env 53=.int .i64 d.states.toNat)(h54:env 54=.int .i64 0):
 Ent 105 0 env (DX d k V) (Ef (IK d k)) (Abs.hl [⟨6,1,true,[CQ d]⟩,⟨0,2,false,[]⟩,⟨1,1,true,famI d.states.toNat (inD (d.rules.take k))⟩]):=by
 obtain⟨f1,f2⟩:=zc6 d k V;rw[<-h3] at f1 f2;refine (Y6 3 2 (Ka d.states.toNat) f1).trans ((Ls (IK d k) λp hp=>?_).trans ((Rz (H':=Abs.hl ([⟨6,1,true,[CQ d]⟩,⟨0,2,false,[]⟩,⟨1,1,true,famI d.states.toNat (inD (d.rules.take k))⟩]++(famF d.states.toNat V (toD (d.rules.take k))).map Grp.dead)) ?_ ?_).trans (LZ (by omega) ?_ ?_)))
 ·rw[f2]
  simp only[IK,Ah,Au,AA] at hp;rcases hp with rfl|rfl|rfl|rfl|rfl|rfl|rfl<;>first|rfl|assumption
 ·simp[DX,As.kill,Abs.hl]
 ·intro g hg
  show _=if g∈Ka d.states.toNat then ((DX d k V).at_ g).dead else (DX d k V).at_ g
  have hlen:(DX d k V).n=d.states.toNat+3:=P5 d k V;have hg':g<d.states.toNat+3:=by rw[<-hlen];exact hg
  match g,hg' with
  |0,_=>rw[Ae (by simp[Ka])];rfl
  |1,_=>rw[Af (by simp[Ka])];rfl
  |2,_=>rw[Ae (by simp[Ka])];rfl
  |i+3,hi =>
   have hi':i<d.states.toNat:=by omega
   rw[Af (R0 hi'),z7u d k V hi',Dj];simp only[List.cons_append,List.nil_append,D8,famF,CN];exact Cp hi'
 ·intro G hG
  simp only[Ah,Au,AA] at hG;rcases hG with rfl|rfl|rfl
  ·exact Cm _ _ (by simp[A9,Gs])
  ·trivial
  ·exact Cm _ _ (BL.2 λx hx=>by
    obtain⟨i,_,rfl⟩:=Ar.1 hx
    rfl)
 ·intro i _
  have hd:ltV 3 (Zz d.states.toNat (toD (d.rules.take k))):=trivial;simp only[Ef,IK]
  repeat' split
  all_goals first
   |exact hd
   |trivial
   |(show _<_;simp)
theorem W9(d:Desc)(hd:CycOk d):PC Tryz.prog 122 [CQ d] (.bool (@decide (cycP d.rules d.states.toNat) (Classical.propDecidable _))):=by
 obtain⟨⟨hn1,hn2⟩,hlen,hrul⟩:=hd;have hP:=BJ d.rules;refine Ct QU ?_;unfold KN;(with_reducible repeat'(first|simp (disch:=omega) only[push_cast,↓zz,seval]|apply Aa|refine sp_ ?_ ?_<;>intro hc<;>push_cast at hc|omega|intro _));refine Bv (Jv (λ(s:Nat × (Nat->Nat))=>s.1<=d.rules.length) (λs=>d.rules.length-s.1) (λs=>MF d s.1) (λs=>DX d s.1 s.2) (0,λ_=>1) (by simp) ?_ ?_)
 ·exact Zy rfl rfl rfl rfl rfl rfl
 rintro⟨k,V⟩ hk;simp only at hk ⊢;rcases Aj k d.rules.length with hkl|hkl
 ·have hr:=hrul _ (Bo hkl)
  generalize hre:nth d.rules k=r at *;have hgr:=Bw r.guards;have hot:=BV r.out;obtain⟨n,hn⟩:∃n:Nat,d.states=n:=⟨d.states.toNat,by omega⟩;obtain⟨i,hi⟩:∃i:Nat,r.from_=i:=⟨r.from_.toNat,by omega⟩;obtain⟨j,hj⟩:∃j:Nat,r.to_=j:=⟨r.to_.toNat,by omega⟩;have hin:i<n:=by omega
  have hjn:j<n:=by omega
  have hni:¬n=i:=by omega
  have ee:MF d k=Ef [(1,.ptr 0 1 0 0),(3,.ref 1 1 0 n),(4,.ref 2 1 0 n),(21,Ft d.rules),(22,.int .i64 d.rules.length),(23,.int .i64 k)]:=by simp only[MF,hn,Int.toNat_natCast]
  have eh:DX d k V=Abs.hl (⟨6,1,true,[CQ d]⟩::⟨1,1,true,famT n V (toD (d.rules.take k))⟩::⟨1,1,true,famI n (inD (d.rules.take k))⟩::famF n V (toD (d.rules.take k))):=by simp only[DX,hn,Int.toNat_natCast]
  rw[ee,eh];clear ee eh;have hFl:(famF n V (toD (d.rules.take k))).length=n:=by simp[famF]
  have hTl:(famT n V (toD (d.rules.take k))).length=n:=by simp[famT]
  have hIl:(famI n (inD (d.rules.take k))).length=n:=by simp[famI]
  have gI:∀G,(famF n V (toD (d.rules.take k))++[G]).getD i default=Te (V i) (toD (d.rules.take k) i):=λG=>by
   rw[Am,Az (by omega),<-Am];exact Cp hin
  have gR:∀G,(famF n V (toD (d.rules.take k))++[G]).getD n default=G:=λG=>by
   rw[Am,A5 (by omega)];simp[hFl]
  have tI:(famT n V (toD (d.rules.take k))).getD i .any=.ref (i+3) (V i) 0 (toD (d.rules.take k) i).length:=Cp hin;have iJ:(famI n (inD (d.rules.take k))).getD j .any=.int .i64 (inD (d.rules.take k) j):=Cp hjn
  have sR:∀G G',setQ (famF n V (toD (d.rules.take k))++[G]) n G'=some (famF n V (toD (d.rules.take k))++[G']):=λG G'=>by
   have:=UP (famF n V (toD (d.rules.take k))) G G'
   rwa [hFl] at this
  have sI:∀G G',setQ (famF n V (toD (d.rules.take k))++[G]) i G'=some ((famF n V (toD (d.rules.take k))).set i G'++[G]):=λG G'=>UQ _ _ _ (by omega)
  have gR2:∀G G',((famF n V (toD (d.rules.take k))).set i G'++[G]).getD n default=G:=λG G'=>by
   rw[Am,A5 (by simp[hFl])];simp[hFl]
  have hSB:∀R G,CJ 3 [i+3] (famF n V (toD (d.rules.take k))++[R]) ((famF n V (toD (d.rules.take k))).set i G++[R]):=λR G=>by
   rw[<-Ez _ _ (by omega)];exact J2 (by simp;omega)
  generalize hF:famF n V (toD (d.rules.take k))=F at *;generalize hT:famT n V (toD (d.rules.take k))=TT at *;generalize hI:famI n (inD (d.rules.take k))=II at *;generalize hD:toD (d.rules.take k) i=Di at *;generalize hJ:inD (d.rules.take k) j=Ij at *;refine W_T ?_;have hEx:(!Di.isEmpty||(Di.map (AV.int .i64)).isEmpty)=true:=by cases Di<;>rfl
  have hDl:Di.length<=4096:=by rw[<-hD];have:=z7t (d.rules.take k) i;simp at this;omega
  have hJb:0<=Ij/\Ij<=4096:=by rw[<-hJ];have:=Zw (d.rules.take k) j;simp at this;omega
  (with_reducible repeat'(first|simp (disch:=omega) only[push_cast,↓zz,seval,hP,hre,hi,hj,hFl,hTl,hIl,gI,gR,gR2,sR,sI,tI,iJ,List.cons_append,Al,List.length_cons]|apply Aa|refine sp_ ?_ ?_<;>intro hc<;>push_cast at hc|omega|intro _))
  ·refine HZ [i+3] ?_
   (with_reducible repeat'(first|simp (disch:=omega) only[push_cast,↓zz,seval,xx,Ah,Au,AA,BZ,CY,Br,D3,D2,hP,hre,hi,hj,hFl,hTl,hIl,gI,gR,gR2,sR,sI,tI,iJ,List.cons_append,Al,List.length_cons,hni,hEx]|apply Aa|refine sp_ ?_ ?_<;>intro hc<;>push_cast at hc|omega|intro _))
   ·exact hSB _ _
   have he:Dl (nth d.rules k)=true:=by rw[hre,Dl];simpa using ‹(r.guards.length:Int)=0›
   have e1:=z5g (i:=i) hkl (by rw[hre];exact hi) he;have e2:=z5h (j:=j) hkl (by rw[hre];exact hj) he;refine⟨(k+1,setV V i (V i+1)),Zv (gar:=[⟨5,1,true,[.agg [.int .i64 i,.int .i64 j,CO r.guards,.int .i64 r.eat,Gj r.out]]⟩]) hn1 ?_ ?_ ?_ ?_ ?_ ?_ ?_,by simp only;omega,by simp only;omega⟩
   ·rw[cycL,e1,e2,hn,Int.toNat_natCast,<-hF,<-hT,<-hI,<-hD,<-hJ,hre,hj,z5e hin,UR hjn,z5f hin]
    rfl
   all_goals first|rfl|(rw[hn];rfl)
  ·have he:Dl (nth d.rules k)=false:=by rw[hre,Dl];simpa using ‹¬(r.guards.length:Int)=0›
   obtain⟨e1,e2⟩:=z5i hkl he;refine⟨(k+1,V),Zv (gar:=[⟨5,1,true,[.agg [.int .i64 i,.int .i64 j,CO r.guards,.int .i64 r.eat,Gj r.out]]⟩]) hn1 ?_ ?_ ?_ ?_ ?_ ?_ ?_,by simp only;omega,by simp only;omega⟩
   ·rw[cycL,e1,e2,hn,Int.toNat_natCast,hF,hT,hI]
    rfl
   all_goals first|rfl|(rw[hn];rfl)
 ·obtain rfl:k=d.rules.length:=by omega
  obtain⟨n,hn⟩:∃n:Nat,d.states=n:=⟨d.states.toNat,by omega⟩;have ee:MF d d.rules.length=Ef [(1,.ptr 0 1 0 0),(3,.ref 1 1 0 n),(4,.ref 2 1 0 n),(21,Ft d.rules),(22,.int .i64 d.rules.length),(23,.int .i64 d.rules.length)]:=by simp only[MF,hn,Int.toNat_natCast]
  refine W_T ?_;rw[ee,Oi];(with_reducible repeat'(first|simp (disch:=omega) only[push_cast,↓zz,seval,hP]|apply Aa|refine sp_ ?_ ?_<;>intro hc<;>push_cast at hc|omega|intro _));refine zbl (W8 rfl (by rw[hn];rfl) (by rw[hn];rfl) rfl (by rw[hn];rfl) (by rw[hn];rfl) rfl) ?_
  have el:IK d d.rules.length=[(1,.ptr 0 1 0 0),(3,.lst 1 ((List.range n).map λi=>Nl (toD d.rules i))),(4,.ref 2 1 0 n),(7,.nilS),(52,.ref 2 1 0 n),(53,.int .i64 n),(54,.int .i64 0)]:=by
   simp only[IK,hn,Int.toNat_natCast,AB,Zz]
  rw[el,hn,Int.toNat_natCast,AB];clear el ee
  have pL:A9 ((List.range n).map λi=>Nl (toD d.rules i))=true:=BL.2 λx hx=>by
   obtain⟨i,_,rfl⟩:=Ar.1 hx;exact Bt .i64 _
  have lL:((List.range n).map λi=>Nl (toD d.rules i)).length=n:=by simp
  have aL:∀i,i<n->((List.range n).map λi=>Nl (toD d.rules i)).getD i .any=Nl (toD d.rules i):=λi hi=>Cp hi;have aL2:∀i,i<n->((List.range n).map λi=>Nl (toD d.rules i))[i]? = some (Nl (toD d.rules i)):=λi hi=>by simp[hi]
  generalize hLe:(List.range n).map (λi=>Nl (toD d.rules i))=L at *
  have pI:∀f,A9 (famI n f)=true:=λf=>BL.2 λx hx=>by
   obtain⟨i,_,rfl⟩:=Ar.1 hx;rfl
  have lI:∀f,(famI n f).length=n:=λf=>by simp[famI]
  have aI:∀f i,i<n->(famI n f).getD i .any=.int .i64 (f i):=λf i hi=>Cp hi;have hnn:(n:Int)<=1024:=by omega
  refine Bv (B8 (λ(k:Nat)=>k<=n) (λk=>n-k)
   (λk=>[(1,.ptr 0 1 0 0),(3,.lst 1 L),(4,.ref 1 1 0 n),(7,.ref 2 1 0 (J1 (inD d.rules) k).length),(52,.ref 1 1 0 n),(53,.int .i64 n),(54,.int .i64 k)]) (λk=>[⟨6,1,true,[CQ d]⟩,⟨1,1,true,famI n (inD d.rules)⟩,⟨1,1,false,(J1 (inD d.rules) k).map (AV.int .i64)⟩]) (λenv _=>[DD 1 (env 1),DD 1 (env 4),DD 1 (env 7)]) 0 (by simp) ?_ ?_)
  ·have z0:J1 (inD d.rules) 0=[]:=rfl
   (with_reducible repeat'(first|simp (disch:=omega) only[push_cast,↓zz,seval,pL,lL,pI,lI,z0]|apply Aa|refine sp_ ?_ ?_<;>intro hc<;>push_cast at hc|omega|intro _))
  intro k hk;have zl:=YP (inD d.rules) k;rcases Aj k n with hkn|hkn
  ·have aK:=aI (inD d.rules) k hkn
   have zs:=Wm (inD d.rules) k;have hib:=Zw d.rules k;generalize inD d.rules k=v at *;refine W_T ?_;(with_reducible repeat'(first|simp (disch:=omega) only[push_cast,↓zz,seval,pL,lL,pI,lI,aK]|apply Aa|refine sp_ ?_ ?_<;>intro hc<;>push_cast at hc|omega|intro _))
   ·rw[Af (by assumption)] at zs
    refine⟨k+1,?_⟩;(with_reducible repeat'(first|simp (disch:=omega) only[push_cast,↓zz,seval,zs]|apply Aa|refine sp_ ?_ ?_<;>intro hc<;>push_cast at hc|omega|intro _))
   ·rw[Ae (by assumption)] at zs
    refine⟨k+1,?_⟩;(with_reducible repeat'(first|simp (disch:=omega) only[push_cast,↓zz,seval,zs]|apply Aa|refine sp_ ?_ ?_<;>intro hc<;>push_cast at hc|omega|intro _))
  ·have hkn2:n=k:=by omega
   subst hkn2;refine W_T ?_;(with_reducible repeat'(first|simp (disch:=omega) only[push_cast,↓zz,seval,pL,lL,pI,lI]|apply Aa|refine sp_ ?_ ?_<;>intro hc<;>push_cast at hc|omega|intro _))
   have hto:∀s m,m<(toD d.rules s).length->0<=nth (toD d.rules s) m/\nth (toD d.rules s) m<n:=λs m hm=>by
    have hm2:nth (toD d.rules s) m∈toD d.rules s:=Bo hm;generalize nth (toD d.rules s) m=x at *;obtain⟨r,hr,rfl⟩:=Ar.1 hm2;have:=hrul r (AX.1 hr).1;omega
   refine Bv (B8 (λ(s:List Int × List Int × List Int)=>KInv d.rules n (s.1++s.2.1) (cntE d.rules s.1)) (λs=>n-s.1.length)
    (λs=>[(1,.ptr 0 1 0 0),(3,.lst 1 L),(4,.ref 1 1 0 n),(7,.ref 2 1 s.2.2.length s.2.1.length),(10,.int .i64 s.1.length)]) (λs=>[⟨6,1,true,[CQ d]⟩,⟨1,1,true,famI n (cntE d.rules s.1)⟩,⟨1,1,false,(s.2.2++s.2.1).map (AV.int .i64)⟩]) (λenv _=>[DD 1 (env 1),DD 1 (env 4),DD 1 (env 7)]) ([],J1 (inD d.rules) n,[]) (Wn d.rules n) ?_ ?_)
   ·have e0:cntE d.rules []=inD d.rules:=funext λj=>Ps _ _
    (with_reducible repeat'(first|simp (disch:=omega) only[push_cast,↓zz,seval,pL,lL,pI,lI,e0]|apply Aa|refine sp_ ?_ ?_<;>intro hc<;>push_cast at hc|omega|intro _))
   rintro⟨P,td,junk⟩ hK;simp only at hK;have hlen2:=hK.len;rw[Al] at hlen2;rcases td with _|⟨x,rest⟩
   ·rw[A3] at hK
    have hdone:=YS (λr hr=>by have:=hrul r hr;omega) hK;refine W_T ?_;(with_reducible repeat'(first|simp (disch:=omega) only[push_cast,↓zz,seval,pL,lL,pI,lI]|apply Aa|refine sp_ ?_ ?_<;>intro hc<;>push_cast at hc|omega|intro _))
    all_goals exact Cv.2 (by rw[<-hdone];omega)
   ·have hx:=hK.range x (by simp)
    obtain⟨s,rfl⟩:∃s:Nat,x=s:=⟨x.toNat,by omega⟩;have hsn:s<n:=by omega
    have hsP:(s:Int)∉P:=λhh=>by
     exact (C9.1 hK.nodup).2.2 (s:Int) hh (s:Int) (by simp) rfl
    have aS:=aL s hsn;have aS2:=aL2 s hsn;have j0:(junk.map (AV.int .i64)++AV.int .i64 (s:Int)::rest.map (AV.int .i64)).getD junk.length .any=.int .i64 s:=by simp[List.getD]
    have j1:nth (junk++(s:Int)::rest) junk.length=s:=by simp[nth]
    have hjl:(junk++(s:Int)::rest).length=junk.length+(rest.length+1):=by simp
    simp only[List.length_cons] at hlen2;refine W_T ?_;(with_reducible repeat'(first|simp (disch:=omega) only[push_cast,↓zz,seval,pL,lL,pI,lI,aS,aS2,j0,j1,hjl,List.length_cons]|apply Aa|refine sp_ ?_ ?_<;>intro hc<;>push_cast at hc|omega|intro _))
    have hK0:KInv d.rules n (P++[(s:Int)]++rest) (FA d.rules P s 0):=by
     rw[NU,Ax];exact hK
    have hDb:=z7t d.rules s
    refine Bv (B8 (λ(q:Nat × List Int × List Int)=>q.1<=(toD d.rules s).length/\KInv d.rules n (P++[(s:Int)]++q.2.1) (FA d.rules P s q.1)) (λq=>(toD d.rules s).length-q.1)
     (λq=>[(1,.ptr 0 1 0 0),(3,.lst 1 L),(4,.ref 1 1 0 n),(7,.ref 2 1 q.2.2.length q.2.1.length),(10,.int .i64 P.length),(79,Nl (toD d.rules s)),(80,.int .i64 (toD d.rules s).length),(81,.int .i64 q.1)]) (λq=>[⟨6,1,true,[CQ d]⟩,⟨1,1,true,famI n (FA d.rules P s q.1)⟩,⟨1,1,false,(q.2.2++q.2.1).map (AV.int .i64)⟩]) (λenv _=>[DD 1 (env 1),DD 1 (env 4),DD 1 (env 7)]) (0,rest,junk++[(s:Int)]) ⟨by simp,hK0⟩ ?_ ?_)
    ·have e0:=NU d.rules P s
     (with_reducible repeat'(first|simp (disch:=omega) only[push_cast,↓zz,seval,pL,lL,pI,lI,e0,A7,Ax,Bf,Bh,List.cons_append,List.nil_append,Al,List.length_cons,List.length_nil]|apply Aa|refine sp_ ?_ ?_<;>intro hc<;>push_cast at hc|omega|intro _))
    rintro⟨m,td,jk⟩ ⟨m1,m2⟩;simp only at m1 m2;have hlen3:=m2.len;simp only[Al,List.length_cons,List.length_nil] at hlen3;rcases Aj m (toD d.rules s).length with hm|hm
    ·obtain⟨t1,t2⟩:=hto s m hm
     obtain⟨t,ht⟩:∃t:Nat,nth (toD d.rules s) m=t:=⟨(nth (toD d.rules s) m).toNat,by omega⟩;have htn:t<n:=by omega
     have hst:=YR hsP hm ht htn m2;have hle:=Kw (P:=P) hm ht;have hps:=Rl hsP hm ht;have aT:=aI (FA d.rules P s m) t htn;have aT2:=aI (FA d.rules P s (m+1)) t htn;have hv:FA d.rules P s (m+1) t=FA d.rules P s m t-1:=by rw[hle];simp
     have hset:(famI n (FA d.rules P s m)).set t (.int .i64 (FA d.rules P s m t-1))=famI n (FA d.rules P s (m+1)):=by rw[hle];exact UR htn
     have hlb:FA d.rules P s m t<=4096:=by
      have c1:cntE d.rules P t<=inD d.rules t:=by
       rw[<-Ps];exact zbw _ _ _
      have c2:=Zw d.rules t;have c3:FA d.rules P s m t<=cntE d.rules P t:=by simp only[FA];omega
      omega
     rw[hv] at aT2;generalize FA d.rules P s m t=v at *;refine W_T ?_
     have eD:List.drop jk.length (jk.map (AV.int .i64)++td.map (AV.int .i64))=td.map (AV.int .i64):=by
      rw[List.drop_append_of_le_length (by simp),DU (by simp),List.nil_append]
     (with_reducible repeat'(first|simp (disch:=omega) only[push_cast,↓zz,seval,pL,lL,pI,lI,ht,aT,aT2,hset,eD]|apply Aa|refine sp_ ?_ ?_<;>intro hc<;>push_cast at hc|omega|intro _))
     ·rw[Af (by assumption)] at hst
      refine⟨(m+1,td++[(t:Int)],jk),?_⟩;(with_reducible repeat'(first|simp (disch:=omega) only[push_cast,↓zz,seval,A7,Ax,Bf,Bh,Al,List.length_cons,List.length_nil]|apply Aa|refine sp_ ?_ ?_<;>intro hc<;>push_cast at hc|omega|intro _));simpa [Ax] using hst
     ·rw[Af (by assumption)] at hst
      refine⟨(m+1,td++[(t:Int)],[]),?_⟩;(with_reducible repeat'(first|simp (disch:=omega) only[push_cast,↓zz,seval,A7,Ax,Bf,Bh,List.nil_append,Al,List.length_cons,List.length_nil]|apply Aa|refine sp_ ?_ ?_<;>intro hc<;>push_cast at hc|omega|intro _));simpa [Ax] using hst
     ·rw[Ae (by assumption)] at hst
      refine⟨(m+1,td,jk),?_⟩;(with_reducible repeat'(first|simp (disch:=omega) only[push_cast,↓zz,seval]|apply Aa|refine sp_ ?_ ?_<;>intro hc<;>push_cast at hc|omega|intro _));simpa [Ax] using hst
    ·have hme:m=(toD d.rules s).length:=by omega
     subst hme;have hE:=YQ (l:=d.rules) hsP;rw[hE] at m2;rw[hE];refine W_T ?_;(with_reducible repeat'(first|simp (disch:=omega) only[push_cast,↓zz,seval,pL,lL,pI,lI]|apply Aa|refine sp_ ?_ ?_<;>intro hc<;>push_cast at hc|omega|intro _))
     all_goals
      refine⟨(P++[(s:Int)],td,jk),?_⟩;(with_reducible repeat'(first|simp (disch:=omega) only[push_cast,↓zz,seval,Al,List.length_cons,List.length_nil]|apply Aa|refine sp_ ?_ ?_<;>intro hc<;>push_cast at hc|omega|intro _))
     all_goals (simpa [Ax] using m2)
inductive Reach(E:List (Int × Int))(F:List Int):Int->Prop where
 |base {s:Int}:s∈F->Reach E F s
 |step {s t:Int}:Reach E F s->(s,t)∈E->Reach E F t
noncomputable def US (E:List (Int × Int)) (F:List Int) (i:Nat):Bool:=@decide (Reach E F i) (Classical.propDecidable _)
structure InR(n:Nat)(F:List Int)(E:List (Int × Int)):Prop where
 f:∀s∈F,0<=s/\s<n
 e:∀e∈E,(0<=e.1/\e.1<n)/\0<=e.2/\e.2<n
theorem Reach.rng{n:Nat}{F:List Int}{E:List (Int × Int)}(h:InR n F E){s:Int}(hs:Reach E F s):0<=s/\s<n:=by
 cases hs with
 |base h1=>exact h.f _ h1
 |step _ h1=>exact (h.e _ h1).2
structure SpInv(n:Nat)(F:List Int)(E:List (Int × Int))(on:Nat->Bool)(todo:List Int):Prop where
 r1:∀s∈todo,Reach E F s
 r2:∀i:Nat,on i=true->Reach E F i
 base:∀s∈F,on s.toNat=true\/s∈todo
 step:∀i:Nat,on i=true->∀t,((i:Int),t)∈E->on t.toNat=true\/t∈todo
def setB(on:Nat->Bool)(s:Nat)(j:Nat):Bool:=if j=s then true else on j
theorem zgb{P:Program}{f m np:Nat}{xs:List AV}{y:AV}{res:List ARes}{B:AC}(hf:Bp P f xs.length=some ⟨m,np,res,B⟩)(h:T P m 0 B (entry xs) (Abs.hl []) (Ret P res λz H=>CM 4 H z/\ansW (frzV 4 H z) y)):PC P f xs y:=by
 refine z8p hf 4 ?_;rw[Qw];exact T.mono h λx env H hh=>OQ (λz H hh=>⟨hh.1,XP hh.2⟩) hh
def spB(n:Nat)(on:Nat->Bool):List AV:=(List.range n).map λi=>AV.bool (on i)
theorem zc7{n s:Nat}{on:Nat->Bool}(h:s<n):(spB n on).set s (.bool true)=spB n (setB on s):=by
 rw[spB,Df h,spB];refine AD λp _=>?_;by_cases e:p=s
 ·subst e;simp[setB]
 ·simp[e,setB]
noncomputable def z7v (n:Nat) (F:List Int) (E:List (Int × Int)):List Bool:=(List.range n).map (US E F)
def HO{α:Type}(p:α->Bool):List α->Nat->Option Nat
 |[],_=>none
 |x::l,i=>if p x then HO p l (i+1) else some i
theorem UT{α:Type}[Inhabited α]{p:α->Bool}{l:List α}{k:Nat}(h:k<l.length):HO p (l.drop k) k=if p (nth l k) then HO p (l.drop (k+1)) (k+1) else some k:=by rw[drop_at h,HO]
theorem IL{α:Type}{p:α->Bool}:∀{l:List α}{i:Nat},HO p l i=none->∀x∈l,p x=true
 |[],_,_,_,h=>by cases h
 |y::l,i,h,x,hx=>by
  rw[HO] at h;split at h
  ·rename_i hp
   rcases Ah.1 hx with rfl|hx
   ·exact hp
   ·exact IL h x hx
  ·cases h
def GI(d:Desc)(f:Fq):Bool:=JZ d f.from_&&(G8 d.in_ f.guards&&HC d f.out f.guards)
open Classical in
noncomputable def GJ (d:Desc):Int × Int :=
 if Ry d=false then (1,0) else
  match HO (IU d) d.rules 0 with
  |some i=>(2,i)
  |none=>match HO (GI d) d.finals 0 with
   |some i=>(3,i)
   |none=>if cycP d.rules d.states.toNat then (4,0) else (0,0)
def Iq(d:Desc):Prop:=(∀r∈d.rules,∀t∈r.out,t.parts.length<1000000000000)/\∀f∈d.finals,∀t∈f.out,t.parts.length<1000000000000
theorem Z0{d:Desc}(h:Ry d=true):(1<=d.states/\d.states<=1024)/\d.rules.length<=4096/\d.finals.length<=4096/\0<=d.start/\d.start<d.states:=by
 simp only[Ry,JZ,Ab,Ag] at h;omega
theorem Z1{d:Desc}{r:Rule}(h:IU d r=true):(0<=r.from_/\r.from_<d.states)/\0<=r.to_/\r.to_<d.states:=by
 simp only[IU,JZ,Ab,Ag] at h;omega
theorem WA(d:Desc)(hf:Iq d):PC Tryz.prog 82 [CQ d] (.tup [.int .i64 (GJ d).1,.int .i64 (GJ d).2]):=by
 have hH:=Zt d;have hPr:=BJ d.rules;have hPf:=BB d.finals;refine Ct QP ?_;unfold KF;cases hh:Ry d with
 |false =>
  rw[hh] at hH;rw[GJ,Af hh];(with_reducible repeat'(first|simp (disch:=omega) only[push_cast,↓zz,seval]|apply Aa|refine sp_ ?_ ?_<;>intro hc<;>push_cast at hc|refine ee hH ?_|(refine cc hH ?_;(simp(disch:=omega)only[push_cast,↓zz,seval]);(fail_if_success change False))|omega|intro _))
 |true =>
 rw[hh] at hH;obtain⟨b1,b2,b3,b4⟩:=Z0 hh
 have hW:GJ d=match HO (IU d) d.rules 0 with
  |some i=>(2,(i:Int))
  |none=>match HO (GI d) d.finals 0 with
   |some i=>(3,(i:Int))
   |none=>if (@decide (cycP d.rules d.states.toNat) (Classical.propDecidable _))=true then (4,0) else (0,0):=by
  rw[GJ,Ae (by simp[hh])];split
  ·rfl
  ·split
   ·rfl
   ·by_cases hc:cycP d.rules d.states.toNat
    ·rw[Af hc,Af (@AQ _ (Classical.propDecidable _) hc)]
    ·rw[Ae hc,Ae (by rw[@Bu _ (Classical.propDecidable _) hc];simp)]
 (with_reducible repeat'(first|simp (disch:=omega) only[push_cast,↓zz,seval]|apply Aa|refine sp_ ?_ ?_<;>intro hc<;>push_cast at hc|refine ee hH ?_|(refine cc hH ?_;(simp(disch:=omega)only[push_cast,↓zz,seval]);(fail_if_success change False))|omega|intro _))
 refine Bv (B8 (λ(k:Nat)=>k<=d.rules.length/\HO (IU d) d.rules 0=HO (IU d) (d.rules.drop k) k) (λk=>d.rules.length-k)
  (λk=>[(1,.ptr 0 1 0 0),(12,Ft d.rules),(13,.int .i64 d.rules.length),(14,.int .i64 k)]) (λk=>[⟨6,1,true,[CQ d]⟩]) (λenv _=>[DD 1 (env 1)]) 0 ⟨by simp,rfl⟩ ?_ ?_)
 ·(with_reducible repeat'(first|simp (disch:=omega) only[push_cast,↓zz,seval,hPr,hPf]|apply Aa|refine sp_ ?_ ?_<;>intro hc<;>push_cast at hc|omega|intro _))
 rintro k ⟨k1,k2⟩;rcases Aj k d.rules.length with hk|hk
 ·have hr:=Zu d (nth d.rules k) (hf.1 _ (Bo hk))
  rw[UT hk] at k2;cases hb:IU d (nth d.rules k) with
  |false =>
   rw[hb] at hr k2;simp only[Av,AT] at k2;rw[hW,k2];refine W_T ?_;(with_reducible repeat'(first|simp (disch:=omega) only[push_cast,↓zz,seval,hPr,hPf]|apply Aa|refine sp_ ?_ ?_<;>intro hc<;>push_cast at hc|refine ee hr ?_|(refine cc hr ?_;(simp(disch:=omega)only[push_cast,↓zz,seval,hPr,hPf]);(fail_if_success change False))|omega|intro _))
  |true =>
   rw[hb] at hr k2;simp only[AR] at k2;refine W_T ?_;(with_reducible repeat'(first|simp (disch:=omega) only[push_cast,↓zz,seval,hPr,hPf]|apply Aa|refine sp_ ?_ ?_<;>intro hc<;>push_cast at hc|refine ee hr ?_|(refine cc hr ?_;(simp(disch:=omega)only[push_cast,↓zz,seval,hPr,hPf]);(fail_if_success change False))|omega|intro _))
   all_goals exact⟨k+1,by push_cast,⟨by omega,k2⟩,by omega⟩
 ·rw[Aw hk,HO] at k2
  have hall:=IL k2;have hC:=W9 d ⟨b1,b2,λr hr=>Z1 (hall r hr)⟩;rw[k2] at hW;simp only at hW;refine W_T ?_;(with_reducible repeat'(first|simp (disch:=omega) only[push_cast,↓zz,seval,hPr,hPf]|apply Aa|refine sp_ ?_ ?_<;>intro hc<;>push_cast at hc|omega|intro _))
  refine Bv (B8 (λ(k:Nat)=>k<=d.finals.length/\HO (GI d) d.finals 0=HO (GI d) (d.finals.drop k) k) (λk=>d.finals.length-k)
   (λk=>[(1,.ptr 0 1 0 0),(26,FS d.finals),(27,.int .i64 d.finals.length),(28,.int .i64 k)]) (λk=>[⟨6,1,true,[CQ d]⟩]) (λenv _=>[DD 1 (env 1)]) 0 ⟨by simp,rfl⟩ ?_ ?_)
  ·(with_reducible repeat'(first|simp (disch:=omega) only[push_cast,↓zz,seval,hPr,hPf]|apply Aa|refine sp_ ?_ ?_<;>intro hc<;>push_cast at hc|omega|intro _))
  rintro j ⟨j1,j2⟩;rcases Aj j d.finals.length with hj|hj
  ·generalize hfe:nth d.finals j=f at *
   have hfm:f∈d.finals:=by rw[<-hfe];exact Bo hj
   have hfo:=hf.2 f hfm;have h1:=IJ d f.from_;have h2:=MD d.in_ f.guards;have hP:=Bw f.guards;have hT:=BV f.out;rw[UT hj,hfe] at j2;cases hg:G8 d.in_ f.guards with
   |false =>
    have hb:GI d f=false:=by rw[GI,hg];simp
    rw[hg] at h2;rw[hb] at j2;simp only[Av,AT] at j2;rw[hW,j2];refine W_T ?_;(with_reducible repeat'(first|simp (disch:=omega) only[push_cast,↓zz,seval,hPr,hPf,hfe,hP,hT]|apply Aa|refine sp_ ?_ ?_<;>intro hc<;>push_cast at hc|refine ee h1 ?_|refine ee h2 ?_|((first|refine cc h1 ?_|refine cc h2 ?_);(simp(disch:=omega)only[push_cast,↓zz,seval,hPr,hPf,hfe,hP,hT]);(fail_if_success change False))|omega|intro _))
   |true =>
    rw[hg] at h2;obtain⟨g1,g2⟩:=GH hg;have h4:=ME d f.out f.guards hfo (λg hg=>by have:=g2 g hg;omega) (by omega);cases hb:GI d f with
    |false =>
     rw[hb] at j2;simp only[Av,AT] at j2;rw[hW,j2];rw[GI,hg,AN] at hb;refine W_T ?_;(with_reducible repeat'(first|simp (disch:=omega) only[push_cast,↓zz,seval,hPr,hPf,hfe,hP,hT]|apply Aa|refine sp_ ?_ ?_<;>intro hc<;>push_cast at hc|refine ee h1 ?_|refine ee h2 ?_|refine ee h4 ?_|((first|refine cc h1 ?_|refine cc h2 ?_|refine cc h4 ?_);(simp(disch:=omega)only[push_cast,↓zz,seval,hPr,hPf,hfe,hP,hT]);(fail_if_success change False))|omega|intro _))
     all_goals first
      |(exfalso;simp_all;done)
      |trace_state
    |true =>
     rw[hb] at j2;simp only[AR] at j2;rw[GI,hg,AN,Ab] at hb;rw[hb.1] at h1;rw[hb.2] at h4;refine W_T ?_;(with_reducible repeat'(first|simp (disch:=omega) only[push_cast,↓zz,seval,hPr,hPf,hfe,hP,hT]|apply Aa|refine sp_ ?_ ?_<;>intro hc<;>push_cast at hc|refine ee h1 ?_|refine ee h2 ?_|refine ee h4 ?_|((first|refine cc h1 ?_|refine cc h2 ?_|refine cc h4 ?_);(simp(disch:=omega)only[push_cast,↓zz,seval,hPr,hPf,hfe,hP,hT]);(fail_if_success change False))|omega|intro _))
     all_goals exact⟨j+1,by push_cast,⟨by omega,j2⟩,by omega⟩
  ·rw[Aw hj,HO] at j2
   rw[j2] at hW;simp only at hW;generalize @decide (cycP d.rules d.states.toNat) (Classical.propDecidable _)=c at *;refine W_T ?_;rw[hW];cases c
   ·(with_reducible repeat'(first|simp (disch:=omega) only[push_cast,↓zz,seval,hPr,hPf]|apply Aa|refine sp_ ?_ ?_<;>intro hc<;>push_cast at hc|refine ee hC ?_|(refine cc hC ?_;(simp(disch:=omega)only[push_cast,↓zz,seval,hPr,hPf]);(fail_if_success change False))|omega|intro _))
   ·(with_reducible repeat'(first|simp (disch:=omega) only[push_cast,↓zz,seval,hPr,hPf]|apply Aa|refine sp_ ?_ ?_<;>intro hc<;>push_cast at hc|refine ee hC ?_|(refine cc hC ?_;(simp(disch:=omega)only[push_cast,↓zz,seval,hPr,hPf]);(fail_if_success change False))|omega|intro _))
    all_goals trace_state
noncomputable def Fa (d:Desc):Int:=if (GJ d).1=0 then 0 else 2
theorem Oj(d:Desc)(hf:Iq d):PC Tryz.prog 39 [CQ d] (.int .i64 (Fa d)):=by
 have hW:=WA d hf;refine Ct QN ?_;unfold KD Fa;generalize GJ d=w at *;by_cases h:w.1=0
 ·rw[Af h]
  (with_reducible repeat'(first|simp (disch:=omega) only[push_cast,↓zz,seval,h]|apply Aa|refine sp_ ?_ ?_<;>intro hc<;>push_cast at hc|refine ee hW ?_|(refine cc hW ?_;(simp(disch:=omega)only[push_cast,↓zz,seval,h]);(fail_if_success change False))|omega|intro _))
 ·rw[Ae h]
  (with_reducible repeat'(first|simp (disch:=omega) only[push_cast,↓zz,seval,h]|apply Aa|refine sp_ ?_ ?_<;>intro hc<;>push_cast at hc|refine ee hW ?_|(refine cc hW ?_;(simp(disch:=omega)only[push_cast,↓zz,seval,h]);(fail_if_success change False))|omega|intro _))
  all_goals trace_state
theorem fold_at{α β:Type}[Inhabited α]{f:β->α->β}{l:List α}{k:Nat}{s:β}(h:k<l.length):(l.drop k).foldl f s=(l.drop (k+1)).foldl f (f s (nth l k)):=by rw[drop_at h,List.foldl_cons]
def freeB(d:Desc):Bool:=d.rules.all λr=>!Dl r
def widF(n:Int)(r:Rule):Int:=max n r.guards.length
def zgc(d:Desc):Int:=d.rules.foldl widF 0
def aheF(n:Int)(r:Rule):Int:=max n (r.guards.length-max r.eat 0)
def zgd(d:Desc):Int:=d.rules.foldl aheF 0
def lonF(n:Int)(r:Rule):Int:=max n r.out.length
def lonG(n:Int)(f:Fq):Int:=max n f.out.length
def longV(d:Desc):Int:=d.finals.foldl lonG (d.rules.foldl lonF 0)
theorem z7w{lo hi D q:Int}(hD:0<D)(h:lo<=hi):(∃x,lo<=x/\x<=hi/\x / D=q)↔lo / D<=q/\q<=hi / D:=by
 constructor
 ·rintro⟨x,h1,h2,rfl⟩
  exact⟨Cu hD h1,Cu hD h2⟩
 ·rintro⟨h1,h2⟩
  rcases Int.lt_or_eq_of_le h1 with h3|h3
  ·refine⟨q * D,?_,?_,Int.mul_ediv_cancel _ (by omega)⟩
   ·have:=(Int.ediv_lt_iff_lt_mul hD).1 h3;omega
   ·exact (Int.le_ediv_iff_mul_le hD).1 h2
  ·exact⟨lo,B1 _,h,h3⟩
theorem P6{x y M:Int}(hM:0<M)(h1:x<=y)(h2:y-x<M):y / M=x / M\/y / M=x / M+1:=by
 have a:=Cu hM h1;have c:y / M<=(x+M * 1) / M:=Cu hM (by omega);rw[Int.add_mul_ediv_left _ _ (by omega)] at c;omega
theorem Lt{w M k:Int}(h:0<=w/\w<M):(M * k+w) % M=w:=by
 rw[Int.add_comm,Int.add_mul_emod_self_left,Int.emod_eq_of_lt h.1 h.2]
theorem Z2{a b M w:Int}(hM:0<M)(hab:a<=b)(hs:b-a<M-1):
 (∃q,a<=q/\q<=b/\q % M=w)↔if a % M<=b % M then a % M<=w/\w<=b % M else (0<=w/\w<=b % M)\/(a % M<=w/\w<=M-1):=by
 have ea:=Db a M;have eb:=Db b M;have a1:=B5 a (by omega:M≠0);have a2:=Bs a hM;have b1:=B5 b (by omega:M≠0);have b2:=Bs b hM;constructor
 ·rintro⟨q,h1,h2,rfl⟩
  have eq:=Db q M;have q1:=B5 q (by omega:M≠0);have q2:=Bs q hM;have k1:=P6 hM hab (by omega);have k2:=P6 hM h1 (by omega);have e1:M * (a / M+1)=M * (a / M)+M:=by rw[Int.mul_add,Int.mul_one]
  rcases k1 with k1|k1<;>rcases k2 with k2|k2<;>rw[k1] at eb<;>rw[k2] at eq<;>(try rw[e1] at eb)<;>(try rw[e1] at eq)<;>split<;>omega
 ·intro h
  have k1:=P6 hM hab (by omega);have e1:M * (a / M+1)=M * (a / M)+M:=by rw[Int.mul_add,Int.mul_one]
  rcases k1 with k1|k1
  ·rw[k1] at eb
   rw[Af (by omega)] at h;exact⟨M * (a / M)+w,by omega,by omega,Lt (by omega)⟩
  ·rw[k1,e1] at eb
   rw[Ae (by omega)] at h;rcases h with h|h
   ·exact⟨M * (a / M+1)+w,by omega,by omega,Lt (by omega)⟩
   ·exact⟨M * (a / M)+w,by omega,by omega,Lt (by omega)⟩
theorem z5l{a b M w:Int}(hM:0<M)(hs:M-1<=b-a):(∃q,a<=q/\q<=b/\q % M=w)↔0<=w/\w<=M-1:=by
 constructor
 ·rintro⟨q,_,_,rfl⟩
  have q1:=B5 q (by omega:M≠0);have q2:=Bs q hM;omega
 ·intro h
  have e:=Db (w-a) M;have q1:=B5 (w-a) (by omega:M≠0);have q2:=Bs (w-a) hM;refine⟨a+(w-a) % M,by omega,by omega,?_⟩;have:a+(w-a) % M=M * (-((w-a) / M))+w:=by rw[Int.mul_neg];omega
  rw[this,Lt (by omega)]
theorem UU{d t:Nat}{s:Span}{w:Int}(hs:s.lo<=s.hi)(hn:¬(2 ^ t-1:Int)<=s.hi / 2 ^ d-s.lo / 2 ^ d):memL (imgS d t s) w↔∃x,(s.lo<=x/\x<=s.hi)/\x / 2 ^ d % 2 ^ t=w:=by
 have hD:(0:Int)<2 ^ d:=Ew (by decide);have hT:(0:Int)<2 ^ t:=Ew (by decide);have hab:=Cu hD hs
 have key:(∃x,(s.lo<=x/\x<=s.hi)/\x / 2 ^ d % 2 ^ t=w)↔∃q,s.lo / 2 ^ d<=q/\q<=s.hi / 2 ^ d/\q % 2 ^ t=w:=by
  constructor
  ·rintro⟨x,⟨h1,h2⟩,h3⟩
   exact⟨x / 2 ^ d,Cu hD h1,Cu hD h2,h3⟩
  ·rintro⟨q,h1,h2,h3⟩
   obtain⟨x,k1,k2,k3⟩:=(z7w hD hs).2 ⟨h1,h2⟩;exact⟨x,⟨k1,k2⟩,by rw[k3];exact h3⟩
 rw[key,Z2 hT hab (by omega),imgS];split
 ·simp[Bc,BP]
 ·simp[Bc,BP]
theorem UV{d t:Nat}{w:Int}:∀(l out:List Span),(∀s∈l,s.lo<=s.hi)->(∀v,memL out v->0<=v/\v<=2 ^ t-1)->(memL (imgF d t l out) w↔memL out w\/∃x,memL l x/\x / 2 ^ d % 2 ^ t=w)
 |[],out,_,_=>by simp[imgF,BP]
 |s::l,out,h,ho=>by
  have hD:(0:Int)<2 ^ d:=Ew (by decide);have hT:(0:Int)<2 ^ t:=Ew (by decide);have hs:=h s (by simp);rw[imgF];split
  ·rename_i hb
   have hf:=z5l (w:=w) hT hb;constructor
   ·intro hw
    have hw':0<=w/\w<=2 ^ t-1:=by simpa [allS,Bc,BP] using hw
    obtain⟨q,h1,h2,h3⟩:=hf.2 hw';obtain⟨x,k1,k2,k3⟩:=(z7w hD hs).2 ⟨h1,h2⟩;exact .inr ⟨x,Bc.2 (.inl ⟨k1,k2⟩),by rw[k3];exact h3⟩
   ·intro hw
    have:0<=w/\w<=2 ^ t-1:=by
     rcases hw with hw|⟨x,_,rfl⟩
     ·exact ho w hw
     ·have q1:=B5 (x / 2 ^ d) (by omega:(2:Int) ^ t≠0)
      have q2:=Bs (x / 2 ^ d) hT;omega
    simpa [allS,Bc,BP] using this
  ·rename_i hb
   rw[UV l _ (λs hs=>h s (by simp[hs])) (λv hv=>?_),EM,UU hs hb]
   ·constructor
    ·rintro ((h1|⟨x,h1,h2⟩)|⟨x,h1,h2⟩)
     ·exact .inl h1
     ·exact .inr ⟨x,Bc.2 (.inl h1),h2⟩
     ·exact .inr ⟨x,Bc.2 (.inr h1),h2⟩
    ·rintro (h1|⟨x,h1,h2⟩)
     ·exact .inl (.inl h1)
     ·rcases Bc.1 h1 with h1|h1
      ·exact .inl (.inr ⟨x,h1,h2⟩)
      ·exact .inr ⟨x,h1,h2⟩
   ·rcases EM.1 hv with hv|hv
    ·exact ho v hv
    ·obtain⟨x,_,rfl⟩:=(UU hs hb).1 hv
     have q1:=B5 (x / 2 ^ d) (by omega:(2:Int) ^ t≠0);have q2:=Bs (x / 2 ^ d) hT;omega
theorem mem_map{α:Type}{f:α->Span}{l:List α}{v:Int}:memL (l.map f) v↔∃a∈l,(f a).lo<=v/\v<=(f a).hi:=by
 simp only[memL,Ar];exact⟨λ⟨_,⟨a,h,rfl⟩,h2⟩=>⟨a,h,h2⟩,λ⟨a,h,h2⟩=>⟨_,⟨a,h,rfl⟩,h2⟩⟩
theorem UW{p:Part}(s:List Span)(hb:FV p=true):Plain (imgL p s)/\∀v,memL (imgL p s) v↔∃x,memL s x/\(0<=x/\x<=2097151)/\valP p x=v:=by
 have hbi:=JV.1 hb;have ht:=Lf p.take.toNat (by omega);have hT:(0:Int)<2 ^ p.take.toNat:=Ew (by decide);obtain⟨m1,m2,m3⟩:=UH s
 have hF:∀w,memL (imgF p.drop.toNat p.take.toNat (F5 (Bq s) (Bq topS)) []) w↔∃x,(memL s x/\0<=x/\x<=2097151)/\x / 2 ^ p.drop.toNat % 2 ^ p.take.toNat=w:=λw=>by
  rw[UV _ _ (λt ht=>(m2 t ht).2.1) (λv hv=>absurd hv (BP v))];simp only[BP,BZ,m3]
 have hr:∀w,memL (imgF p.drop.toNat p.take.toNat (F5 (Bq s) (Bq topS)) []) w->0<=w/\w<=2 ^ p.take.toNat-1:=λw hw=>by
  obtain⟨x,_,rfl⟩:=(hF w).1 hw;have q1:=B5 (x / 2 ^ p.drop.toNat) (by omega:(2:Int) ^ p.take.toNat≠0);have q2:=Bs (x / 2 ^ p.drop.toNat) hT;omega
 unfold imgL;rw[Ae (by simp[hb])];split
 ·rename_i hu
  refine⟨(Bl _).1,λv=>?_⟩;rw[(Bl _).2 v,hF];have e:∀x,valP p x=x / 2 ^ p.drop.toNat % 2 ^ p.take.toNat:=λx=>by simp[valP,hu]
  constructor
  ·rintro⟨⟨x,⟨h1,h2⟩,h3⟩,_⟩
   exact⟨x,h1,h2,by rw[e];exact h3⟩
  ·rintro⟨x,h1,h2,h3⟩
   rw[e] at h3;have:=hr v ((hF v).2 ⟨x,⟨h1,h2⟩,h3⟩);exact⟨⟨x,⟨h1,h2⟩,h3⟩,by omega⟩
 ·rename_i hu
  refine⟨(Bl _).1,λv=>?_⟩;rw[(Bl _).2 v,mem_map];constructor
  ·rintro⟨⟨n,hn,h1,h2⟩,_⟩
   simp only[oneS] at h1 h2;have hn':=HB.1 hn;rw[(Bl _).2,(Bl _).2] at hn';obtain⟨x,⟨k1,k2⟩,k3⟩:=(hF n).1 hn'.1.1;exact⟨x,k1,k2,by rw[valP,k3];omega⟩
  ·rintro⟨x,h1,h2,h3⟩
   have hv:=FX hb h2;have hm:=(hF (x / 2 ^ p.drop.toNat % 2 ^ p.take.toNat)).2 ⟨x,⟨h1,h2⟩,rfl⟩;have:=hr _ hm;refine⟨⟨x / 2 ^ p.drop.toNat % 2 ^ p.take.toNat,HB.2 ?_,?_⟩,by omega⟩
   ·rw[(Bl _).2,(Bl _).2]
    exact⟨⟨hm,by omega⟩,by omega⟩
   ·rw[valP] at h3
    simp only[oneS];omega
def Full(l:List Span):Prop:=∀s∈l,s.lo<=s.hi
theorem Z3{a b:List Span}(ha:Full a)(hb:Full b):Plain (Rv a b)/\∀v,memL (Rv a b) v↔(∃x y,memL a x/\memL b y/\x+y=v)/\-1073741824<=v/\v<=1073741824:=by
 refine⟨(Bl _).1,λv=>?_⟩;rw[Rv,(Bl _).2 v,Tb,UI];refine and_congr_left λ_=>?_;constructor
 ·rintro⟨s,hs,h⟩
  obtain⟨r,hr,h1,h2⟩:=mem_map.1 h;simp only[sumS] at h1 h2;have k1:=ha s hs;have k2:=hb r hr;refine⟨max s.lo (v-r.hi),v-max s.lo (v-r.hi),⟨s,hs,by omega,by omega⟩,⟨r,hr,by omega,by omega⟩,by omega⟩
 ·rintro⟨x,y,⟨s,hs,h1,h2⟩,⟨r,hr,h3,h4⟩,rfl⟩
  exact⟨s,hs,mem_map.2 ⟨r,hr,by simp only[sumS];omega,by simp only[sumS];omega⟩⟩
theorem Z4{out:List Span}{n:Int}(h:Full out):Full (addS out ⟨n,n⟩)/\∀v,memL (addS out ⟨n,n⟩) v↔memL out v\/v=n:=by
 rcases FU out with rfl|⟨m,y,rfl⟩
 ·refine⟨λs hs=>?_,λv=>?_⟩
  ·simp only[HA,Aq] at hs;subst hs;simp
  ·rw[HA,Bc];simp only[BP,AA,BZ];omega
 ·have hy:=h y (by simp)
  rw[M4];simp only;split
  ·rename_i he
   refine⟨λs hs=>?_,λv=>?_⟩
   ·rcases Ap.1 hs with hs|hs
    ·exact h s (by simp[hs])
    ·simp only[Aq] at hs;subst hs;simp only;omega
   ·rw[EM,EM,Bc,Bc]
    simp only[BP,AA];constructor
    ·rintro (h1|h1)
     ·exact .inl (.inl h1)
     ·by_cases hv:v=n
      ·exact .inr hv
      ·exact .inl (.inr (by omega))
    ·rintro ((h1|h1)|h1)
     ·exact .inl h1
     ·exact .inr (by omega)
     ·exact .inr (by omega)
  ·refine⟨λs hs=>?_,λv=>?_⟩
   ·rcases Ap.1 hs with hs|hs
    ·exact h s hs
    ·simp only[Aq] at hs;subst hs;simp
   ·rw[EM,Bc]
    simp only[BP,AA];have:(n<=v/\v<=n)↔v=n:=by omega
    rw[this]
theorem UX(l:List Part){v:Int}:∀(m:List Int)(out:List Span),Full out->(memL (m.foldl (togF l) out) v↔memL out v\/∃x∈m,totV l x=v)
 |[],out,_=>by simp
 |x::m,out,h=>by
  obtain⟨h1,h2⟩:=Z4 (n:=totV l x) h;rw[List.foldl_cons,togF,UX l m _ h1,h2];simp only[Ah,exists_eq_or_imp];constructor
  ·rintro ((h|h)|h)
   ·exact .inl h
   ·exact .inr (.inl h.symm)
   ·exact .inr (.inr h)
  ·rintro (h|h|h)
   ·exact .inl (.inl h)
   ·exact .inl (.inr h.symm)
   ·exact .inr h
theorem z5m{l:List Part}{s:List Span}(hl:l.length<=4)(hb:∀p∈l,FV p=true)(hs:Syms s):Plain (togL l s)/\∀v,memL (togL l s) v↔∃x,memL s x/\totV l x=v:=by
 unfold togL;split
 ·rename_i h1
  obtain⟨p,rfl⟩:=List.length_eq_one_iff.1 h1;obtain⟨i1,i2⟩:=UW s (hb p (by simp));refine⟨i1,λv=>?_⟩;have e:nth [p] 0=p:=rfl;rw[e,i2];have e2:∀x,totV [p] x=valP p x:=λx=>by simp[totV]
  constructor
  ·rintro⟨x,h1,_,h3⟩;exact⟨x,h1,by rw[e2];exact h3⟩
  ·rintro⟨x,h1,h3⟩
   have:=hs.mem h1;exact⟨x,h1,by omega,by rw[<-e2];exact h3⟩
 ·refine⟨(Bl _).1,λv=>?_⟩
  rw[(Bl _).2 v,UX l _ _ (λs hs=>by cases hs),Rx hs];simp only[BP,BZ,HB];constructor
  ·rintro⟨h,_⟩;exact h
  ·rintro⟨x,h1,rfl⟩
   have:=hs.mem h1;have:=MA (x:=x) (by omega) hb;exact⟨⟨x,h1,rfl⟩,by omega⟩
def Win(sets:List (List Span))(w:List Int):Prop:=w.length=sets.length/\∀i,i<sets.length->memL (nth sets i) (nth w i)
def MG(l:List Part)(pl:List Int)(w:List Int):Int:=(pl.map λa=>totV (atL l a) (nth w a.toNat)).sum
def totW(w:List Int)(l:List Part):Int:=(l.map λp=>valP p (nth w p.at_.toNat)).sum
theorem Tg{w:List Int}{i j:Nat}{x:Int}(h:i<w.length):nth (w.set i x) j=if j=i then x else nth w j:=by
 simp only[nth,Am,List.getElem?_set];split
 ·subst_vars;simp[h]
 ·rename_i hne;rw[Ae (λe=>hne e.symm)]
theorem HD{α:Type}{f g:α->Int}:∀{l:List α},(∀a∈l,f a=g a)->(l.map f).sum=(l.map g).sum
 |[],_=>rfl
 |a::l,h=>by simp[h a (by simp),HD (l:=l) λb hb=>h b (by simp[hb])]
theorem MH{α:Type}{f g:α->Int}:∀{l:List α},(l.map λa=>f a+g a).sum=(l.map f).sum+(l.map g).sum
 |[]=>rfl
 |a::l=>by
  have:=MH (f:=f) (g:=g) (l:=l);simp only[Bf,List.sum_cons,this];omega
theorem Ir{α:Type}{f:α->Int}:∀{l:List α},(∀a∈l,f a=0)->(l.map f).sum=0
 |[],_=>rfl
 |a::l,h=>by simp[h a (by simp),Ir (l:=l) λb hb=>h b (by simp[hb])]
theorem MI{c:Int}{g:Int->Int}:∀{l:List Int},l.Nodup->c∈l->(l.map λa=>if c=a then g a else 0).sum=g c
 |[],_,h=>by cases h
 |a::l,hn,h=>by
  obtain⟨h1,h2⟩:=B6.1 hn;by_cases e:c=a
  ·subst e
   have:(l.map λa=>if c=a then g a else 0).sum=0:=Ir λb hb=>Ae λ(e2:c=b)=>h1 (by rw[e2];exact hb);simp[this]
  ·have hm:c∈l:=by simpa [e] using h
   simp[e,MI h2 hm]
theorem K4(w:List Int):∀(l:List Part)(pl:List Int),pl.Nodup->(∀p∈l,p.at_∈pl)->MG l pl w=totW w l
 |[],pl,_,_=>Ir λa _=>rfl
 |p::l,pl,hn,h=>by
  have ih:=K4 w l pl hn λq hq=>h q (by simp[hq])
  have e:∀a∈pl,totV (atL (p::l) a) (nth w a.toNat)=(if p.at_=a then valP p (nth w a.toNat) else 0)+totV (atL l a) (nth w a.toNat):=λa _=>by
   simp only[atL,BR,Ag];split
   ·simp[totV]
   ·simp[totV]
  rw[MG,HD e,MH,MI (g:=λa=>valP p (nth w a.toNat)) hn (h p (by simp))];rw[MG] at ih;rw[ih];simp[totW]
theorem MJ:∀(l:List Part)(pl:List Int),pl.Nodup->(l.foldl EJ pl).Nodup/\(∀a,a∈l.foldl EJ pl↔a∈pl\/∃p∈l,p.at_=a)/\(l.foldl EJ pl).length<=pl.length+l.length
 |[],pl,h=>⟨h,λa=>by simp,by simp⟩
 |p::l,pl,h=>by
  have h1:(EJ pl p).Nodup/\(∀a,a∈EJ pl p↔a∈pl\/p.at_=a)/\(EJ pl p).length<=pl.length+1:=by
   unfold EJ;split
   ·rename_i hm
    exact⟨h,λa=>⟨.inl,λhh=>hh.elim id λe=>e ▸ hm⟩,by omega⟩
   ·rename_i hm
    refine⟨C9.2 ⟨h,by simp,λa ha b hb=>?_⟩,λa=>by simp[eq_comm],by simp⟩;simp only[Aq] at hb;subst hb;exact λe=>hm (e ▸ ha)
  obtain⟨k1,k2,k3⟩:=MJ l (EJ pl p) h1.1;refine⟨k1,λa=>?_,by have:=h1.2.2;simp only[List.foldl_cons,List.length_cons];omega⟩;rw[List.foldl_cons,k2,h1.2.1];simp only[Ah,exists_eq_or_imp,or_assoc]
theorem Ol{l:List Span}(h:Plain l):Full l:=h.1
theorem zc8{sets:List (List Span)}{w:List Int}{a:Nat}{x:Int}(hw:Win sets w)(ha:a<sets.length)(hx:memL (nth sets a) x):Win sets (w.set a x):=by
 refine⟨by simp[hw.1],λi hi=>?_⟩;rw[Tg (by rw[hw.1];exact ha)];split
 ·subst_vars;exact hx
 ·exact hw.2 i hi
theorem R2{l:List Part}{sets:List (List Span)}(hS:Oe l sets)(hl:l.length<=4)(hne:∃w,Win sets w):∀(pl:List Int)(out:List Span),pl.Nodup->(∀a∈pl,0<=a/\a<sets.length)->Full out->pl.length<=4 ->
 (∀v,memL out v->-1114111<=v/\v<=1114111+(4-(pl.length:Int)) * 264241152)->Full (pl.foldl (Ip l sets) out)/\∀v,memL (pl.foldl (Ip l sets) out) v↔∃o w,memL out o/\Win sets w/\o+MG l pl w=v
 |[],out,_,_,hf,_,_=>⟨hf,λv=>by
  obtain⟨w,hw⟩:=hne;simp only[List.foldl_nil,MG,Bh,List.sum_nil,Int.add_zero]
  exact⟨λh=>⟨v,w,h,hw,rfl⟩,λ⟨o,_,h,_,e⟩=>e ▸ h⟩⟩
 |a::pl,out,hn,hp,hf,hlen,hb=>by
  obtain⟨n1,n2⟩:=B6.1 hn;have ha:=hp a (by simp);have hm:nth sets a.toNat∈sets:=Bo (by omega);have hsy:=hS.syms _ hm
  have hbits:∀p∈atL l a,FV p=true:=λp hp=>by
   have:=hS.parts p ((AX.1 hp).1);simp only[EN,Ab] at this;exact this.2
  have hla:(atL l a).length<=4:=AW (B7 _ _) hl;obtain⟨t1,t2⟩:=z5m hla hbits hsy;obtain⟨p1,p2⟩:=Z3 hf (Ol t1)
  have htot:∀x,memL (nth sets a.toNat) x->0<=totV (atL l a) x/\totV (atL l a) x<=264241152:=λx hx=>by
   have:=hsy.mem hx;have:=MA (x:=x) (by omega) hbits;omega
  simp only[List.length_cons] at hlen hb
  have hv:∀v,memL (Ip l sets out a) v↔∃o x,memL out o/\memL (nth sets a.toNat) x/\o+totV (atL l a) x=v:=λv=>by
   rw[Ip,p2];constructor
   ·rintro⟨⟨o,y,h1,h2,h3⟩,_⟩
    obtain⟨x,k1,k2⟩:=(t2 y).1 h2;exact⟨o,x,h1,k1,by rw[k2];exact h3⟩
   ·rintro⟨o,x,h1,h2,rfl⟩
    have:=hb o h1;have:=htot x h2
    push_cast at *
    exact⟨⟨o,_,h1,(t2 _).2 ⟨x,h2,rfl⟩,rfl⟩,by omega,by omega⟩
  obtain⟨i1,i2⟩:=R2 hS hl hne pl (Ip l sets out a) n2 (λb hb=>hp b (by simp[hb])) (Ol p1) (by omega) (λv h=>by
   obtain⟨o,x,h1,h2,rfl⟩:=(hv v).1 h;have:=hb o h1;have:=htot x h2
   push_cast at *
   omega)
  refine⟨i1,λv=>?_⟩;rw[List.foldl_cons,i2];constructor
  ·rintro⟨u,w,h1,hw,rfl⟩
   obtain⟨o,x,k1,k2,rfl⟩:=(hv u).1 h1;refine⟨o,w.set a.toNat x,k1,zc8 hw (by omega) k2,?_⟩
   have e1:MG l pl (w.set a.toNat x)=MG l pl w:=HD λb hb=>by
    have:=hp b (by simp[hb]);rw[Tg (by rw[hw.1];omega),Ae];intro e;exact n1 ((show b=a by omega) ▸ hb)
   have e2:MG l (a::pl) (w.set a.toNat x)=totV (atL l a) x+MG l pl (w.set a.toNat x):=by
    simp only[MG,Bf,List.sum_cons];rw[Tg (by rw[hw.1];omega),Af rfl]
   rw[e2,e1];omega
  ·rintro⟨o,w,h1,hw,rfl⟩
   have hx:=hw.2 a.toNat (by omega);refine⟨o+totV (atL l a) (nth w a.toNat),w,(hv _).2 ⟨o,_,h1,hx,rfl⟩,hw,?_⟩;simp only[MG,Bf,List.sum_cons];omega
theorem z5n(x:Int):Full [⟨x,x⟩]:=λs hs=>by simp only[Aq] at hs;subst hs;simp
theorem Ti{x v:Int}:memL [⟨x,x⟩] v↔v=x:=by rw[Bc];simp only[BP,AA];omega
theorem Z5{t:Term}{sets:List (List Span)}(hS:Oe t.parts sets)(hl:t.parts.length<=4)(hs:HJ t.sum=true)(hne:∃w,Win sets w):Full (HN t sets)/\∀v,memL (HN t sets) v↔∃w,Win sets w/\t.sum+totW w t.parts=v:=by
 obtain⟨k1,k2,k3⟩:=MJ t.parts [] (by simp);have hsm:=H8 hs;simp only[List.length_nil] at k3
 have hat:∀a,a∈EZ t.parts->0<=a/\a<sets.length:=λa ha=>by
  obtain h|⟨p,hp,rfl⟩:=(k2 a).1 ha
  ·cases h
  ·exact IG (hS.parts p hp)
 obtain⟨h1,h2⟩:=R2 hS hl hne (EZ t.parts) [⟨t.sum,t.sum⟩] k1 hat (z5n _) (by rw[EZ];omega) (λv hv=>by
  rw[Ti] at hv;have:(EZ t.parts).length<=4:=by rw[EZ];omega
  omega)
 refine⟨h1,λv=>?_⟩;rw[HN,h2];constructor
 ·rintro⟨o,w,e,hw,rfl⟩
  rw[Ti] at e;exact⟨w,hw,by rw[e,EZ,K4 w _ _ k1 λp hp=>(k2 _).2 (.inr ⟨p,hp,rfl⟩)]⟩
 ·rintro⟨w,hw,rfl⟩
  exact⟨_,w,Ti.2 rfl,hw,by rw[EZ,K4 w _ _ k1 λp hp=>(k2 _).2 (.inr ⟨p,hp,rfl⟩)]⟩
theorem Tj{w:List Int}{n:Int}:∀{l:List Part},(∀p∈l,EN p n=true)->(∀p∈l,0<=nth w p.at_.toNat/\nth w p.at_.toNat<=1114111)->totP w l=totW w l/\0<=totW w l/\totW w l<=l.length * 66060288
 |[],_,_=>by simp[totP,totW]
 |p::l,h,hx=>by
  obtain⟨i1,i2,i3⟩:=Tj (l:=l) (λq hq=>h q (by simp[hq])) (λq hq=>hx q (by simp[hq]));have hr:=h p (by simp);simp only[EN,Ab] at hr;have hxp:=hx p (by simp);have hv:=FX hr.2 (x:=nth w p.at_.toNat) (by omega);have e1:val1 p (nth w p.at_.toNat)=valP p (nth w p.at_.toNat):=(Pn hr.2 (by omega)).2;have e2:totW w (p::l)=valP p (nth w p.at_.toNat)+totW w l:=by simp[totW]
  rw[totP,e1,e2,i1];refine⟨rfl,by omega,?_⟩
  push_cast [List.length_cons]
  omega
theorem It{t:Term}{sets:List (List Span)}{w:List Int}(hS:Oe t.parts sets)(hn:Ei t=true)(hw:Win sets w):
 Fw t w=if 0<=t.sum+totW w t.parts/\t.sum+totW w t.parts<=1114111 then some (t.base+valP t.outer (t.sum+totW w t.parts)) else none:=by
 simp only[Ei,Ab,Ag] at hn;obtain⟨⟨⟨hb,hs⟩,ho⟩,_,hl⟩:=hn;have hsm:=H8 hs;have hbm:=H8 hb;have hsym:∀i,i<sets.length->0<=nth w i/\nth w i<=1114111:=λi hi=>(hS.syms _ (Bo hi)).mem (hw.2 i hi)
 obtain⟨e1,b1,b2⟩:=Tj (w:=w) hS.parts (λp hp=>by
  have:=IG (hS.parts p hp)
  exact hsym _ (by omega))
 have hall:w.all symB=true:=by
  rw[AU];intro x hx;obtain⟨i,hi,rfl⟩:=AZ hx;have:=hsym i (by rw[<-hw.1];exact hi);have e:nth w i=w[i]:=by simp[nth,hi]
  rw[e] at this;simp[symB];omega
 have hright:Kv w t.parts=true:=by
  rw[Kv,AU];intro p hp;rw[hw.1];exact hS.parts p hp
 have hsum:=YF w t.parts t.sum (zbr (by omega));rw[Af hright,e1,zbr (by omega)] at hsum;unfold Fw;rw[Af hall,hsum];simp only;by_cases h:0<=t.sum+totW w t.parts/\t.sum+totW w t.parts<=1114111
 ·have hvb:valB t.outer (t.sum+totW w t.parts)=true:=(Pn ho (by omega)).1
  have hv2:=FX ho (x:=t.sum+totW w t.parts) (by omega);rw[Af h,Af (by simp[hvb];omega),show IntKind.i64.wrap (t.base+valP t.outer (t.sum+totW w t.parts))=t.base+valP t.outer (t.sum+totW w t.parts) from IntWalk.i64_in _ (by omega)]
 ·rw[Ae h,Ae]
  simp only[valB,ho,AN,Ab,Ag];omega
theorem Om:∀{m:List Span},Plain m->m≠[]->∃a b,Ru m=some a/\SZ m=some b/\memL m a/\memL m b/\∀v,memL m v->a<=v/\v<=b
 |[],_,h=>absurd rfl h
 |[s],h,_=>by
  have:=h.head;refine⟨s.lo,s.hi,rfl,rfl,Bc.2 (.inl (by omega)),Bc.2 (.inl (by omega)),λv hv=>?_⟩;rw[Bc] at hv;simpa [BP] using hv
 |s::r::m,h,_=>by
  have hs:=h.head;obtain⟨a,b,e1,e2,h1,h2,h3⟩:=Om h.tail (by simp);have hb:=h.after h2;refine⟨s.lo,b,rfl,?_,Bc.2 (.inl (by omega)),Bc.2 (.inr h2),λv hv=>?_⟩
  ·simpa [SZ] using e2
  ·rcases Bc.1 hv with h4|h4
   ·omega
   ·have:=h.after h4
    have:=h3 v h4;omega
theorem P7{l:List Span}{v:Int}(h:memL l v):l≠[]:=by rintro rfl;exact BP v h
theorem WB{l:List Span}{u:Int}(hu:memL l u)(hb:∀v,memL l v->-1073741824<=v/\v<=1073741824):Np l=true↔∀v,memL l v->0<=v/\v<=1114111:=by
 obtain⟨p1,p2⟩:=Bl l;have hm:∀v,memL (Bq l) v↔memL l v:=λv=>by rw[p2];exact⟨λh=>h.1,λh=>⟨h,hb v h⟩⟩
 obtain⟨a,b,e1,e2,h1,h2,h3⟩:=Om p1 (P7 ((hm u).2 hu))
 have hl:0<(l.length:Int):=by
  have:=D9.2 (P7 hu);omega
 simp only[Np,e1,e2,Option.getD_some,Ab,Ag];constructor
 ·rintro⟨_,k1,k2⟩ v hv
  have:=h3 v ((hm v).2 hv);omega
 ·intro h
  exact⟨hl,(h a ((hm a).1 h1)).1,(h b ((hm b).1 h2)).2⟩
theorem z5o{gs:List (List Span)}:K2 gs gs.length=true↔∃w,Win (gs.map symI) w:=by
 rw[K2,AB,AU];constructor
 ·intro h
  refine⟨(gs.map symI).map λs=>(nth s 0).lo,by simp,λi hi=>?_⟩;have hi':i<gs.length:=by simpa using hi
  have h1:=h _ (Bo hi');have e1:nth (gs.map symI) i=symI (nth gs i):=by simp[nth,hi']
  have e2:nth ((gs.map symI).map λs=>(nth s 0).lo) i=(nth (symI (nth gs i)) 0).lo:=by simp[nth,hi']
  rw[e1,e2];simp only[Ag] at h1;have hm:=Bo (l:=symI (nth gs i)) (i:=0) (by omega);have hs:=(Rs (nth gs i)).2 _ hm;exact⟨_,hm,by omega,by omega⟩
 ·rintro⟨w,hw⟩ g hg
  obtain⟨i,hi,rfl⟩:=AZ hg;have h1:=hw.2 i (by simpa using hi);have e1:nth (gs.map symI) i=symI gs[i]:=by simp[nth,hi]
  rw[e1] at h1;have:=D9.2 (P7 h1);simp only[Ag];omega
theorem WC{t:Term}{gs:List (List Span)}(h4:gs.length<=4)(hn:Ei t=true)(hp:prtB t gs.length=true):
 ((Fl t gs).2=true↔∀w,Win (gs.map symI) w->(Fw t w).isSome=true)/\((Fl t gs).2=false->(Fl t gs).1=[]) /\
 ((Fl t gs).2=true->Plain (Fl t gs).1/\∀v,memL (Fl t gs).1 v↔∃w,Win (gs.map symI) w/\Fw t w=some v):=by
 have hS:=K3 hp h4;have hnum:=hn;simp only[Ei,Ab,Ag] at hnum;obtain⟨⟨⟨hb,hs⟩,ho⟩,_,hl⟩:=hnum;have hsm:=H8 hs;have hbm:=H8 hb
 have hI:Fj t gs=if K2 gs gs.length=false then ([],true) else (HN t (gs.map symI),Np (HN t (gs.map symI))):=by
  rw[Fj,Ae (by simp[hn];omega),Ae (by simp[hp])]
 have hsome:=@z5o gs;cases hB:K2 gs gs.length
 ·rw[hB] at hI hsome
  have hno:∀w,¬Win (gs.map symI) w:=λw hw=>by have:=hsome.2 ⟨w,hw⟩;cases this
  have e:Fl t gs=([],true):=by rw[Fl,hI];simp
  rw[e];refine⟨⟨λ_ w hw=>absurd hw (hno w),λ_=>rfl⟩,λh=>(by cases h),λ_=>⟨⟨by simp,by simp⟩,λv=>⟨λh=>absurd h (BP v),λ⟨w,hw,_⟩=>absurd hw (hno w)⟩⟩⟩
 ·rw[hB] at hI hsome
  obtain⟨w0,hw0⟩:=hsome.1 rfl;obtain⟨v1,v2⟩:=Z5 hS hl hs ⟨w0,hw0⟩
  have hbd:∀w,Win (gs.map symI) w->0<=totW w t.parts/\totW w t.parts<=264241152:=λw hw=>by
   obtain⟨_,b1,b2⟩:=Tj (w:=w) hS.parts (λp hp=>by
    have:=IG (hS.parts p hp)
    exact (hS.syms _ (Bo (by omega))).mem (hw.2 _ (by omega)))
   omega
  have hin:=WB ((v2 _).2 ⟨w0,hw0,rfl⟩) (λv hv=>by
   obtain⟨w,hw,rfl⟩:=(v2 v).1 hv;have:=hbd w hw
   omega)
  have hin2:Np (HN t (gs.map symI))=true↔∀w,Win (gs.map symI) w->(Fw t w).isSome=true:=by
   rw[hin];constructor
   ·intro h w hw
    rw[It hS hn hw,Af (h _ ((v2 _).2 ⟨w,hw,rfl⟩))];rfl
   ·intro h v hv
    obtain⟨w,hw,rfl⟩:=(v2 v).1 hv;have:=h w hw;rw[It hS hn hw] at this;split at this
    ·assumption
    ·cases this
  have hne:(HN t (gs.map symI)).length≠0:=λh=>P7 ((v2 _).2 ⟨w0,hw0,rfl⟩) (Ao h);cases hi:Np (HN t (gs.map symI))
  ·have e:Fl t gs=([],false):=by rw[Fl,hI];simp[hi]
   rw[e];rw[hi] at hin2;exact⟨hin2,λ_=>rfl,λh=>by cases h⟩
  ·have e:Fl t gs=(Lg (imgL t.outer (HN t (gs.map symI))) t.base,true):=by
    rw[Fl,hI];simp[hi,hne]
   rw[e];rw[hi] at hin2;refine⟨hin2,λh=>(by cases h),λ_=>⟨?_,λv=>?_⟩⟩
   ·unfold Lg
    split
    ·exact⟨by simp,by simp⟩
    ·exact (Bl _).1
   ·obtain⟨_,i2⟩:=UW (HN t (gs.map symI)) ho
    rw[z54 (by omega),i2];constructor
    ·rintro⟨⟨⟨x,h1,h2,h3⟩,_⟩,_⟩
     obtain⟨w,hw,rfl⟩:=(v2 x).1 h1;have hv:=hin.1 hi _ h1;exact⟨w,hw,by rw[It hS hn hw,Af hv,h3];congr 1;omega⟩
    ·rintro⟨w,hw,h⟩
     have hm:=(v2 _).2 ⟨w,hw,rfl⟩;have hv:=hin.1 hi _ hm;rw[It hS hn hw,Af hv] at h;have hvs:=FX ho (x:=t.sum+totW w t.parts) (by omega);simp only[Ak] at h;exact⟨⟨⟨_,hm,by omega,by omega⟩,by omega⟩,by omega⟩
def Hm(s x:Int):Bool:=decide ((s=1/\0<=x/\x<256)\/(s=2/\0<=x/\x<1114112/\(x<55296\/57344<=x)))
def fitW(t:Term)(o:Int)(w:List Int):Bool:=match Fw t w with
 |some v=>decide (0<=v/\v<=1114111)&&Hm o v
 |none=>false
theorem win_cons{g:List Span}{gs:List (List Span)}{w:List Int}:Win (g::gs) w↔∃x r,w=x::r/\memL g x/\Win gs r:=by
 constructor
 ·rintro⟨h1,h2⟩
  cases w with
  |nil=>simp at h1
  |cons x r =>
   refine⟨x,r,rfl,?_,by simpa using h1,λi hi=>?_⟩
   ·exact h2 0 (by simp)
   ·exact h2 (i+1) (by simp;omega)
 ·rintro⟨x,r,rfl,h1,h2⟩
  refine⟨by simp[h2.1],λi hi=>?_⟩;cases i with
  |zero=>exact h1
  |succ i=>exact h2.2 i (by simp at hi;omega)
theorem zc9{w:List Int}:Win [] w↔w=[]:=by
 constructor
 ·rintro⟨h,_⟩;exact Ao h
 ·rintro rfl;exact⟨rfl,λi hi=>by simp at hi⟩
theorem MK{o v:Int}:memL (domL o) v↔Hm o v=true:=by
 unfold domL;simp only[Hm,Ag];split
 ·rw[Bc];simp only[BP,AA];omega
 ·split
  ·rw[Bc,Bc];simp only[BP,AA];omega
  ·simp only[BP,false_iff];omega
theorem UY{o v:Int}(h:Hm o v=true):0<=v/\v<=1114111:=by
 simp only[Hm,Ag] at h;omega
theorem ML{l d:List Span}(hl:∀v,memL l v->-1073741824<=v/\v<=1073741824)(hp:Full l):Io l d=[]↔∀v,memL l v->memL d v:=by
 obtain⟨m1,m2⟩:=Ws l d;constructor
 ·intro h v hv
  rw[h] at m2;exact AJ λhn=>BP v ((m2 v).2 ⟨hv,hl v hv,hn⟩)
 ·intro h
  cases hm:Io l d with
  |nil=>rfl
  |cons s r =>
   rw[hm] at m1 m2;obtain⟨a,_,c⟩:=(m2 s.lo).1 (Bc.2 (.inl ⟨B1 _,m1.1 s (by simp)⟩));exact absurd (h _ a) c
theorem MM{t:Term}{i o n:Int}(h:Jb t i o n=true):Ei t=true/\prtB t n=true:=by
 simp only[Jb,G5,Ab] at h;obtain⟨⟨⟨⟨_,hn⟩,hr⟩,_⟩,_⟩:=h;refine⟨hn,?_⟩;rw[prtB,AU];intro p hp;have:=AU.1 hr p hp;simp only[Ab] at this;exact this.1
theorem UZ{t:Term}{gs:List (List Span)}(h4:gs.length<=4)(hn:Ei t=true)(hp:prtB t gs.length=true){w:List Int}{v:Int}(hw:Win (gs.map symI) w)(hv:Fw t w=some v):-1073741824<=v/\v<=1073741824:=by
 have hnum:=hn;simp only[Ei,Ab,Ag] at hnum;have hbm:=H8 hnum.1.1.1;rw[It (K3 hp h4) hn hw] at hv;split at hv
 ·have:=FX hnum.1.2 (x:=t.sum+totW w t.parts) (by omega)
  simp only[Ak] at hv;omega
 ·cases hv
theorem Z6{t:Term}{i o:Int}{gs:List (List Span)}(h4:gs.length<=4):P4 t i o gs=true↔Jb t i o gs.length=true/\∀w,Win (gs.map symI) w->fitW t o w=true:=by
 rw[P4,Ab,Ab,Ag];refine and_congr_right λhr=>?_;obtain⟨hn,hp⟩:=MM hr;obtain⟨s1,s2,s3⟩:=WC h4 hn hp;constructor
 ·rintro⟨hi,hm⟩ w hw
  obtain⟨p1,p2⟩:=s3 hi;rw[ML (λv hv=>by obtain⟨w,h1,h2⟩:=(p2 v).1 hv;exact UZ h4 hn hp h1 h2) p1.1] at hm;have hv:=z4f (s1.1 hi w hw);have:=MK.1 (hm _ ((p2 _).2 ⟨w,hw,hv⟩));have hb:=UY this;rw[fitW,hv];simp[hb,this]
 ·intro h
  have hi:(Fl t gs).2=true:=s1.2 λw hw=>by
   have:=h w hw;rw[fitW] at this;cases hv:Fw t w with
   |none=>rw[hv] at this;cases this
   |some v=>rfl
  obtain⟨p1,p2⟩:=s3 hi;refine⟨hi,(ML (λv hv=>by obtain⟨w,h1,h2⟩:=(p2 v).1 hv;exact UZ h4 hn hp h1 h2) p1.1).2 λv hv=>?_⟩;obtain⟨w,h1,h2⟩:=(p2 v).1 hv;have:=h w h1;rw[fitW,h2] at this;simp only[Ab] at this;exact MK.2 this.2
theorem Hn{d:Desc}(h:Fa d=0):Ry d=true/\(∀r∈d.rules,IU d r=true)/\∀f∈d.finals,GI d f=true:=by
 have h0:(GJ d).1=0:=by
  unfold Fa at h;split at h
  ·assumption
  ·omega
 unfold GJ at h0;split at h0
 ·simp at h0
 ·rename_i hh
  refine⟨by simpa using hh,?_⟩;split at h0
  ·simp at h0
  ·rename_i hr
   split at h0
   ·simp at h0
   ·rename_i hf
    exact⟨IL hr,IL hf⟩
theorem GK{d:Desc}{out:List Term}{gs:List (List Span)}(h:HC d out gs=true):out.length<=64/\∀t∈out,t.parts.length<=4:=by
 simp only[HC,Ab,Ag] at h;refine⟨by omega,λt ht=>?_⟩;have:=AU.1 h.2 t ht;simp only[P4,Ab] at this;have h2:=(MM this.1).1;simp only[Ei,Ab,Ag] at h2;exact h2.2.2
def fwdE(d:Desc):List (Int × Int):=d.rules.map λr=>(r.from_,r.to_)
def bwdE(d:Desc):List (Int × Int):=d.rules.map λr=>(r.to_,r.from_)
def endE(d:Desc):List Int:=d.finals.map (·.from_)
structure Wf(d:Desc):Prop where
 n:∃n:Nat,d.states=n/\1<=n/\n<=1024
 start:0<=d.start/\d.start<d.states
 rl:d.rules.length<=4096
 fl:d.finals.length<=4096
 r:∀r∈d.rules,(0<=r.from_/\r.from_<d.states)/\0<=r.to_/\r.to_<d.states
 f:∀f∈d.finals,0<=f.from_/\f.from_<d.states
theorem zca{d:Desc}(h:Fa d=0):Wf d:=by
 obtain⟨h1,h2,h3⟩:=Hn h;have h4:=Z0 h1;refine⟨⟨d.states.toNat,by omega,by omega,by omega⟩,h4.2.2.2,h4.2.1,h4.2.2.1,λr hr=>Z1 (h2 r hr),λf hf=>?_⟩;have:=h3 f hf;simp only[GI,JZ,Ab,Ag] at this;exact this.1
noncomputable def comeL (d:Desc):List Bool:=z7v d.states.toNat [d.start] (fwdE d)
noncomputable def goL (d:Desc):List Bool:=z7v d.states.toNat (endE d) (bwdE d)
theorem Kb{α:Type}{p:α->Bool}:∀{l:List α}{i:Nat},(∀x∈l,p x=true)->HO p l i=none
 |[],_,_=>rfl
 |x::l,i,h=>by rw[HO,Af (h x (by simp)),Kb λy hy=>h y (by simp[hy])]
theorem Tk{d:Desc}(h1:Ry d=true)(h2:∀r∈d.rules,IU d r=true)(h3:∀f∈d.finals,GI d f=true)(h4:¬cycP d.rules d.states.toNat):GJ d=(0,0)/\Fa d=0:=by
 have e:GJ d=(0,0):=by
  rw[GJ,Ae (by simp[h1]),Kb h2];simp only;rw[Kb h3];simp only;rw[Ae h4]
 exact⟨e,by rw[Fa,e];rfl⟩
theorem z5p(s:Int):Full (domL s)/\∀v,memL (domL s) v->0<=v/\v<=1114111:=by
 refine⟨λt ht=>?_,λv hv=>UY (MK.1 hv)⟩;unfold domL at ht;split at ht
 ·simp at ht;subst ht;simp
 ·split at ht
  ·simp at ht;rcases ht with rfl|rfl<;>simp
  ·cases ht
def zge(a b:Int):Desc:=⟨a,b,1,0,[],[]⟩
structure zcb(d:Desc)(k:Nat)(f:Bool)(w a l:Int):Prop where
 le:k<=d.rules.length
 fr:freeB d=(f&&(d.rules.drop k).all λr=>!Dl r)
 wi:zgc d=(d.rules.drop k).foldl widF w
 ah:zgd d=(d.rules.drop k).foldl aheF a
 lo:longV d=d.finals.foldl lonG ((d.rules.drop k).foldl lonF l)
 nn:0<=a
theorem zcb.step{d:Desc}{k:Nat}{f:Bool}{w a l:Int}(h:zcb d k f w a l)(hk:k<d.rules.length){f2:Bool}{w2 a2 l2:Int}(e1:f2=(f&&!Dl (nth d.rules k)))(e2:w2=widF w (nth d.rules k))(e3:a2=aheF a (nth d.rules k))(e4:l2=lonF l (nth d.rules k)):zcb d (k+1) f2 w2 a2 l2 where
 le:=by omega
 fr:=by rw[h.fr,drop_at hk,List.all_cons,e1,Bool.and_assoc]
 wi:=by rw[h.wi,fold_at hk,e2]
 ah:=by rw[h.ah,fold_at hk,e3]
 lo:=by rw[h.lo,fold_at hk,e4]
 nn:=by have:=h.nn;rw[e3,aheF];omega
end Go.Proofs.YtbcjoeadpjfcfaaGreat
