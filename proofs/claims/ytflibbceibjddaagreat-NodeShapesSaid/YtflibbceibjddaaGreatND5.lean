/-
  Parts of the proof that the law holds whatever the input; without conditions.
-/
import Derived.Shelf.SlSortCmp.WholeK
import Derived.Shelf.SlicesG.Cmp
import Derived.Shelf.Small.Bits
import Derived.Ground.SlsfProg
import Derived.Ground.SlgcProg
import Derived.Ground.NamesProg
import Derived.Test.YtflibbceibjddaaGreatProg
import Derived.Test.YtflibbceibjddaaGreatND3
import Derived.Test.YtflibbceibjddaaGreatND4
set_option linter.unusedSimpArgs false
set_option linter.unusedVariables false
set_option linter.unusedSectionVars false
namespace Go.Proofs
open Go.Shelf
def Tryz.sortSp_ren:Go.Shelf.Ren:=⟨fun|6=>169|15=>139|14=>190|28=>164|29=>165|20=>210|21=>211|22=>212|23=>213|24=>214|25=>215|26=>216|27=>217|46=>233|47=>182|48=>183|49=>234|50=>235|57=>246|n=>n,fun|22=>22|24=>129|25=>205|3=>3|39=>179|0=>0|53=>196|55=>198|4=>4|46=>190|45=>189|50=>141|5=>5|9=>9|66=>212|70=>216|76=>237|77=>103|n=>n,fun|n=>n⟩
theorem Tryz.sortSp:Go.Proofs.SlLaysF0.n6 Tryz.prog Tryz.sortSp_ren:={
 mixed:=by kernel_rfl
 f6:=⟨Tryz.f169.name,by decide,Tryz.func169.trans (congrArg some (by kernel_rfl))⟩
 f14:=⟨Tryz.f190.name,by decide,Tryz.func190.trans (congrArg some (by kernel_rfl))⟩
 f15:=Tryz.func139.trans (congrArg some (by kernel_rfl))
 f20:=⟨Tryz.f210.name,by decide,Tryz.func210.trans (congrArg some (by kernel_rfl))⟩
 f21:=⟨Tryz.f211.name,by decide,Tryz.func211.trans (congrArg some (by kernel_rfl))⟩
 f22:=⟨Tryz.f212.name,by decide,Tryz.func212.trans (congrArg some (by kernel_rfl))⟩
 f23:=⟨Tryz.f213.name,by decide,Tryz.func213.trans (congrArg some (by kernel_rfl))⟩
 f24:=⟨Tryz.f214.name,by decide,Tryz.func214.trans (congrArg some (by kernel_rfl))⟩
 f25:=⟨Tryz.f215.name,by decide,Tryz.func215.trans (congrArg some (by kernel_rfl))⟩
 f26:=⟨Tryz.f216.name,by decide,Tryz.func216.trans (congrArg some (by kernel_rfl))⟩
 f27:=⟨Tryz.f217.name,by decide,Tryz.func217.trans (congrArg some (by kernel_rfl))⟩
 f28:=Tryz.func164.trans (congrArg some (by kernel_rfl))
 f29:=Tryz.func165.trans (congrArg some (by kernel_rfl))
 f46:=⟨Tryz.f233.name,by decide,Tryz.func233.trans (congrArg some (by kernel_rfl))⟩
 f47:=Tryz.func182.trans (congrArg some (by kernel_rfl))
 f48:=Tryz.func183.trans (congrArg some (by kernel_rfl))
 f49:=⟨Tryz.f234.name,by decide,Tryz.func234.trans (congrArg some (by kernel_rfl))⟩
 f50:=⟨Tryz.f235.name,by decide,Tryz.func235.trans (congrArg some (by kernel_rfl))⟩
 f57:=⟨Tryz.f246.name,by decide,Tryz.func246.trans (congrArg some (by kernel_rfl))⟩
 t0:=Tryz.underlying0
 a0:=Tryz.isAgg0
 z0:=Tryz.sizeOf0
 v0:=Tryz.zeroValue0
 t3:=Tryz.underlying3
 a3:=Tryz.isAgg3
 z3:=Tryz.sizeOf3
 v3:=Tryz.zeroValue3
 t4:=Tryz.underlying4
 a4:=Tryz.isAgg4
 z4:=Tryz.sizeOf4
 v4:=Tryz.zeroValue4
 t5:=Tryz.underlying5
 a5:=Tryz.isAgg5
 z5:=Tryz.sizeOf5
 v5:=Tryz.zeroValue5
 t9:=Tryz.underlying9
 a9:=Tryz.isAgg9
 z9:=Tryz.sizeOf9
 v9:=Tryz.zeroValue9
 t22:=Tryz.underlying22
 a22:=Tryz.isAgg22
 z22:=Tryz.sizeOf22
 v22:=Tryz.zeroValue22
 t25:=Tryz.underlying205
 a25:=Tryz.isAgg205
 z25:=Tryz.sizeOf205
 v25:=Tryz.zeroValue205
 t39:=Tryz.underlying179
 a39:=Tryz.isAgg179
 z39:=Tryz.sizeOf179
 v39:=Tryz.zeroValue179
 t45:=Tryz.underlying189
 a45:=Tryz.isAgg189
 z45:=Tryz.sizeOf189
 v45:=Tryz.zeroValue189
 t46:=Tryz.underlying190
 a46:=Tryz.isAgg190
 z46:=Tryz.sizeOf190
 v46:=Tryz.zeroValue190
 t50:=Tryz.underlying141
 a50:=Tryz.isAgg141
 z50:=Tryz.sizeOf141
 v50:=Tryz.zeroValue141
 t53:=Tryz.underlying196
 a53:=Tryz.isAgg196
 z53:=Tryz.sizeOf196
 v53:=Tryz.zeroValue196
 t55:=Tryz.underlying198
 a55:=Tryz.isAgg198
 z55:=Tryz.sizeOf198
 v55:=Tryz.zeroValue198
 t66:=Tryz.underlying212
 a66:=Tryz.isAgg212
 z66:=Tryz.sizeOf212
 v66:=Tryz.zeroValue212
 t70:=Tryz.underlying216
 a70:=Tryz.isAgg216
 z70:=Tryz.sizeOf216
 v70:=Tryz.zeroValue216
 t76:=Tryz.underlying237
 a76:=Tryz.isAgg237
 z76:=Tryz.sizeOf237
 v76:=Tryz.zeroValue237
 t77:=Tryz.underlying103
 a77:=Tryz.isAgg103
 z77:=Tryz.sizeOf103
 v77:=Tryz.zeroValue103 }
def Tryz.cmpSp_ren:Go.Shelf.Ren:=⟨fun|5=>171|7=>191|n=>n,fun|22=>3|3=>3|4=>4|n=>n,fun|n=>n⟩
theorem Tryz.cmpSp:Go.Proofs.SlLaysC2.n5 Tryz.prog Tryz.cmpSp_ren:={
 mixed:=by kernel_rfl
 f5:=⟨Tryz.f171.name,by decide,Tryz.func171.trans (congrArg some (by kernel_rfl))⟩
 f7:=⟨Tryz.f191.name,by decide,Tryz.func191.trans (congrArg some (by kernel_rfl))⟩
 t3:=Tryz.underlying3
 a3:=Tryz.isAgg3
 z3:=Tryz.sizeOf3
 v3:=Tryz.zeroValue3
 t4:=Tryz.underlying4
 a4:=Tryz.isAgg4
 z4:=Tryz.sizeOf4
 v4:=Tryz.zeroValue4
 t22:=Tryz.underlying3
 a22:=Tryz.isAgg3
 z22:=Tryz.sizeOf3
 v22:=Tryz.zeroValue3 }
end Go.Proofs
namespace Go.Proofs.YtflibbceibjddaaGreat
open Abs O1 O2 O3 Go.Shelf Go.RowKit Go.Lib Go.Sort
def NL(x:Span):List Value:=[.int .i64 x.lo,.int .i64 x.hi]
def SZ(x y:Span):Int:=Lib.compareInt x.lo y.lo
theorem ltLo(x y:Span):ltOf SZ x y=decide (x.lo<y.lo):=by
 unfold ltOf SZ Lib.compareInt;by_cases h1:x.lo<y.lo
 ·simp[h1]
 ·by_cases h2:y.lo<x.lo<;>simp[h1,h2]
theorem swoLo:SWO (ltOf SZ) where
 irrefl x:=by rw[ltLo];simp
 trans x y z h1 h2:=by rw[ltLo] at *;simp at *;omega
 ntrans x y z h1 h2:=by rw[ltLo] at *;simp at *;omega
set_option maxHeartbeats 1000000 in
theorem Yu(x y:Span)(W:World):Calls Tryz.prog 170 #[.agg #[.int .i64 x.lo,.int .i64 x.hi],.agg #[.int .i64 y.lo,.int .i64 y.hi]] W λe w'=>e=.returned (.int .i64 (SZ x y))/\∃q os',w'=grow (W.drewN q) os':=by
 have hcon:=λW'=>AnyG.cmp_Compare_int Tryz.cmpSp x.lo y.lo W';change ∀W',Calls Tryz.prog 171 _ _ _ at hcon;unfold SZ;generalize Lib.compareInt x.lo y.lo=r at hcon ⊢
 go_enter Tryz.func170,Tryz.ntmps170
 go_wp2_with (go_at_call 171;refine (hcon _).mono ?_;rintro e w' ⟨rfl,rfl⟩)
 go_ret
 exact⟨rfl,0,_,by rw[alloc_eq_grow,alloc_eq_grow,grow_grow];rfl⟩
theorem Yv(blk off size:Nat)(w:World):CmpLays Tryz.prog 170 #[] NL 2 SZ blk off size w :=
 λ_ _ _ _ x y=>Yu x y _
theorem zk3:∀w,(isAgg (Tryz.sortSp_ren.t 24)).run Tryz.prog w=.ok true w:=Tryz.isAgg129
theorem zfh:∀w,(Go.sizeOf (Tryz.sortSp_ren.t 24)).run Tryz.prog w=.ok 2 w:=Tryz.sizeOf129
theorem A9.split{S:MS}:∀{xs ys:List AV}{vs:List Value},A9 S (xs++ys) vs->∃v1 v2,vs=v1++v2/\A9 S xs v1/\A9 S ys v2
 |[],ys,vs,h=>⟨[],vs,rfl,rfl,h⟩
 |x::xs,ys,vs,⟨v,r,hv,h1,h2⟩=>by
  obtain⟨v1,v2,rfl,h3,h4⟩:=A9.split h2;exact⟨v::v1,v2,by rw[hv];rfl,⟨v,v1,rfl,h1,h3⟩,h4⟩
abbrev Hh(x:Span):Value:=.agg #[.int .i64 x.lo,.int .i64 x.hi]
theorem Py{S:MS}:∀{l:List Span}{vs:List Value},A9 S (l.map Cz) vs->vs=l.map Hh
 |[],vs,h=>h
 |x::l,vs,⟨v,r,hv,h1,h2⟩=>by
  obtain⟨ws,rfl,a,r1,rfl,rfl,c,r2,rfl,rfl,rfl⟩:=h1;rw[hv,Py h2];rfl
theorem Pz{S:MS}:∀(l:List Span),A9 S (l.map Cz) (l.map Hh)
 |[]=>rfl
 |x::l=>⟨_,_,rfl,⟨_,rfl,_,_,rfl,rfl,_,_,rfl,rfl,rfl⟩,Pz l⟩
theorem Qh(d:Array Span)(i j:Nat)(hi:i<d.size)(hj:j<2):(flatK NL 2 d)[i * 2+j]! = (NL d[i]!)[j]! := by
 rw[get_flatK _ _ _ _ (by omega),show (i * 2+j) / 2=i from by omega,show (i * 2+j) % 2=j from by omega]
theorem z7y{w:World}{b:Nat}{cells:Array Value}{T:TypeId}{l:List Span}(hb:w.heap[b]? = some (.cells cells T (0,0))){vr:List Value}(hf:Gd cells 2 (l.map Hh++vr)):HoldsK NL 2 w b 0 l.toArray:=by
 intro j hj;rw[size_flatK,BM] at hj;have hi:j / 2<l.length:=by omega
 have he:(l.map Hh++vr)[j / 2]? = some (Hh l[j / 2]):=by rw[A7 (by simpa using hi)];simp[hi]
 obtain⟨_,_,h3⟩:=hf _ _ he;have h4:=h3 (j % 2) (by omega);rw[show j / 2 * 2+j % 2=j from by omega] at h4;have h5:=Qh l.toArray (j / 2) (j % 2) (by simpa using hi) (by omega);rw[show j / 2 * 2+j % 2=j from by omega] at h5;refine⟨?_,?_⟩
 ·simp only[World.cell?,hb,AW,Option.isSome_none,A5,Bm,h4,id,h5]
  have hg:l.toArray[j / 2]! = l[j / 2]:=by simp[hi]
  rw[hg];rcases Nat.mod_two_eq_zero_or_one j with h|h<;>rw[h]<;>simp[Hh,Value.cells,NL]
 ·simp[World.frozen?,hb]
theorem zfi{w:World}{b n:Nat}{cells:Array Value}{T:TypeId}{d:Array Span}{os:Array Obj}(hb:w.heap[b]? = some (.cells cells T (0,0)))(hsz:d.size * 2<=cells.size){v0 vr:List Value}(h0:v0.length=d.size)(hf:Gd cells 2 (v0++vr)):
 ∃cells',(sortWorldK NL 2 w b 0 n d os).heap[b]? = some (.cells cells' T (0,0))/\cells'.size=cells.size/\Gd cells' 2 (d.toList.map Hh++vr):=by
 have hlt:b<w.heap.size:=(Bg.1 hb).1;refine⟨putCells id 0 (flatK NL 2 d) cells,?_,by simp[putCells],λi v hv=>?_⟩
 ·show ((w.heap.modify b _)++os)[b]? = _
  rw[BC (by rw[CF];exact hlt),Dj,Ae rfl,hb];rfl
 ·rcases Ak i d.size with hid|hid
  case inr =>
   rw[AE (by simpa using hid)] at hv;obtain⟨g1,g2,g3⟩:=hf i v (by rw[AE (by omega),h0];simpa using hv);refine⟨g1,g2,λj hj=>?_⟩;rw[<-g3 j hj,putCells,Ev];cases hc:cells[i * 2+j]? with
   |none=>rfl
   |some c =>
    simp only[Option.map_some,A6,Ek,AW,size_flatK];rw[Ac (by omega)]
  rw[A7 (by simpa using hid),Do] at hv;obtain⟨x,hx,rfl⟩:=Ag.1 hv;have hi:i<d.size:=by have:=(AJ.1 hx).1;simpa using this
  refine⟨rfl,λc hc=>?_,λj hj=>?_⟩
  ·simp[Hh,Value.cells] at hc
   rcases hc with rfl|rfl<;>rfl
  ·have h5:=Qh d i j hi hj
   have hlt2:i * 2+j<cells.size:=by omega
   have hd:d[i]! = x:=by
    rw[Ew] at hx;rw[getElem!_pos d i hi];exact (Bg.1 hx).2
   rw[putCells,Ev,D1 hlt2];simp only[Option.map_some,A6,Ek,AW,size_flatK,Nat.sub_zero];rw[Ae (by omega),h5,hd];rcases (by omega:j=0\/j=1) with rfl|rfl<;>simp[Hh,Value.cells,NL]
def Ky(l:List Span):Prop:=l.Pairwise λa b=>a.lo<=b.lo
theorem z1p{d:Array Span}(h:SortedIn (ltOf SZ) 0 d.size d):Ky d.toList:=by
 rw[Ky,C9];intro i j hi hj hij;have hi':i<d.size:=by simpa using hi
 have hj':j<d.size:=by simpa using hj
 have:=h i j (A6 _) hij hj';rw[ltLo,getElem!_pos d j hj',getElem!_pos d i hi'] at this;simp at this;simpa using this
theorem zfj{H:Az}{g ver:Nat}{ex:Bool}{l:List Span}{rest:List AV}(hg:g<H.n)(hG:H.at_ g=⟨2,ver,ex,l.map Cz++rest⟩)(h1:l≠[])(hl:l.length<4611686018427387904):
 B2 Tryz.prog 169 [.ref g ver 0 l.length,.fn 170 []] H λy H'=>y=.tup []/\∃l':List Span,l'.Perm l/\Ky l'/\H'=H.set g ⟨2,ver,ex,l'.map Cz++rest⟩:=by
 have eg:∀args w,(callFunc 170 args).run Tryz.prog w=.ok (.enter 170 args) w:=enters_of Tryz.func170 (by kernel_rfl) rfl;refine⟨enters_of Tryz.func169 (by kernel_rfl) rfl,λS cargs hS hx=>?_⟩;obtain⟨v1,r1,rfl,⟨_,hgn,_,hv1⟩,v2,r2,rfl,⟨lb,rfl,rfl⟩,rfl⟩:=hx;have hgr:=hS.grp g hg;rw[hG] at hgr;obtain⟨a,cap',rfl,hcase⟩:=hv1 hgr.ver;have hpos:0<l.length:=by cases l;exact absurd rfl h1;simp
 obtain⟨rfl,rfl,hcap⟩:=hcase.resolve_right (λh=>by omega);have hlen:l.length+rest.length<=S.cap g:=by have:=hgr.len (show 0<2 by decide);simpa using this
 obtain⟨⟨cells,T,vs,b1,b2,b3,b4⟩,hni⟩:=hgr.live (show 0<2 by decide) (by omega);obtain⟨vs1,vr,hvv,b31,b32⟩:=A9.split b3;have hvs:=Py b31;subst hvs;subst hvv;have b2':cells.size=S.cap g * 2:=b2;have hblk:S.place g<S.w.heap.size:=(Bg.1 b1).1;have hcon:=AnyQ.slices_SortFunc Tryz.sortSp 2 zk3 zfh NL (λ_=>rfl) (λx v hv=>by simp[NL] at hv;rcases hv with rfl|rfl<;>rfl) SZ swoLo 170 #[] (S.place g) 0 (S.cap g-0) l.toArray S.w eg (Yv _ _ _ _) (z7y b1 b4) hblk (by simpa using hl);change Calls Tryz.prog 169 _ _ _ at hcon;rw[BM] at hcon;rw[EZ];refine hcon.mono λe w' ⟨he,d',n,os,hp,hs,hw'⟩=>?_;subst he hw';obtain⟨q1,q2,q3⟩:=hp;have q1:d'.size=l.length:=by simpa using q1
 have hperm:d'.toList.Perm l:=by
  rw[Dt,Dt] at q3;simpa [List.extract,q1,Ay (show d'.toList.length<=l.length by simp[q1])] using q3
 rw[<-q1] at hs;obtain⟨cells',c1,c2,c3⟩:=zfi (n:=n) (d:=d') (os:=os) b1 (by omega) (v0:=l.map Hh) (by simp[q1]) b4
 have hh:=hS.moved hg (by rw[hG];exact (show 0<2 by decide)) (sortWorldK NL 2 S.w (S.place g) 0 n d' os) (S.place g) (S.cap g) ⟨2,ver,ex,d'.toList.map Cz++rest⟩ rfl ⟨rfl,CW _ _⟩ rfl
  (by show _<=((S.w.heap.modify _ _)++os).size;rw[Fo,CF];omega)
  (λb hb hlt=>by
   show ((S.w.heap.modify _ _)++os)[b]? = _
   rw[BC (by rw[CF];exact hlt),Dj,Ac (λhh=>hb ⟨by omega,hh.symm⟩)])
  (.inl ⟨by omega,rfl⟩) (λ_=>⟨cells',T,_,c1,by rw[c2];exact b2',(Pz _).append b32,c3⟩) (by simpa [q1] using hlen)
  (λhx=>by have:=hgr.full (show 0<2 by decide) hx;simp at this;simp[q1];exact this) (show 0<2 by decide) (by rw[hgr.ver];exact Ad _) (λ_=>⟨rfl,rfl,by rw[hgr.wid]⟩)
 exact⟨_,_,.tup [],_,rfl,rfl,hh.1,hh.2,⟨[],rfl,rfl⟩,rfl,d'.toList,hperm,z1p hs,rfl⟩
theorem z7z{l:List Span}{k:Nat}(h:k<l.length):inN (l.take (k+1))=inN (l.take k)++(if (JE (nth l k)).lo<=(JE (nth l k)).hi then [JE (nth l k)] else []):=by
 rw[take_at h,inN,inN,Ao,C6];congr 1;simp only[A4,A8,Cb,List.filter_nil,Ai]
theorem z80(m r:List Span)(hm:m.length<4611686018427387904):B2 Tryz.prog 169 [.ref 0 1 0 m.length,.fn 170 []] (Abs.hl [⟨2,1,true,(m++r).map Cz⟩]) λy H'=>y=.tup []/\∃m':List Span,m'.Perm m/\Ky m'/\H'=Abs.hl [⟨2,1,true,(m'++r).map Cz⟩]:=by
 by_cases h:m=[]
 ·subst h
  refine (sort0 r).mono ?_;rintro y H' ⟨rfl,rfl⟩;exact⟨rfl,[],List.Perm.refl _,List.Pairwise.nil,rfl⟩
 ·refine (zfj (H:=Abs.hl [⟨2,1,true,(m++r).map Cz⟩]) (g:=0) (ver:=1) (ex:=true) (l:=m) (rest:=r.map Cz) (by show 0<1;decide) (by rw[<-Ao];rfl) h hm).mono ?_
  rintro y H' ⟨rfl,m',h1,h2,rfl⟩;refine⟨rfl,m',h1,h2,?_⟩;rw[GQ _ _ _ (by show 0<1;decide),<-Ao];rfl
abbrev z81:Span:=⟨0,0⟩
def NM(m:List Span)(n:Nat):List Span:=m++List.replicate (n-m.length) z81
theorem z1q{m:List Span}{n:Nat}(h:m.length<=n):(NM m n).length=n:=by simp[NM];omega
theorem z1r{m:List Span}{n:Nat}(h:m.length<n)(s:Span):(NM m n).take m.length++[s]++(NM m n).drop (m.length+1)=NM (m++[s]) n:=by
 simp only[NM];rw[Cr (Ad _),AA,List.drop_append,Ax (by omega),List.nil_append,show m.length+1-m.length=1 from by omega,List.drop_replicate];simp only[Ah,List.length_singleton,Nat.sub_sub]
def mixS(out s:List Span):List Span:=out++s.drop out.length
theorem z82{out s:List Span}(h:out.length<=s.length):(mixS out s).length=s.length:=by simp[mixS];omega
theorem z83{out s:List Span}(h:out.length<s.length)(x:Span):(mixS out s).take out.length++[x]++(mixS out s).drop (out.length+1)=mixS (out++[x]) s:=by
 simp only[mixS];rw[Cr (Ad _),AA,List.drop_append,Ax (by omega),List.nil_append,show out.length+1-out.length=1 from by omega,List.drop_drop];simp
theorem zfk{out s:List Span}{j:Nat}(h1:out.length<=j):nth (mixS out s) j=nth s j:=by
 simp only[nth,mixS,Aq];rw[AE h1,BO,show out.length+(j-out.length)=j from by omega]
theorem z1s{mm s:List Span}{y:Span}:nth (mixS (mm++[y]) s) mm.length=y:=by
 simp[nth,mixS,Aq]
theorem Wx(s:List Span):mixS [] s=s:=by simp[mixS]
theorem z84{mm s:List Span}{y z:Span}:((mixS (mm++[y]) s).map Cz).set mm.length (Cz z)=(mixS (mm++[z]) s).map Cz:=by
 simp[mixS]
theorem UG{l m:List Span}(hp:m.Perm (inN l))(hs:Ky m)(j:Nat):∀s∈(m.take j).foldl Eo [],-1073741824<=s.lo/\s.lo<=s.hi/\s.hi<=1073741824:=by
 have hok:∀s∈m,s.lo<=s.hi:=λs h=>Wq s (hp.mem_iff.1 h);obtain⟨a1,a2⟩:=Hz (m.take j) [] ⟨by simp,by simp⟩ (λs h=>hok s (B6 h)) (Ey (Fq j m) hs) (λs _ t ht=>by cases ht);intro s hsm;have hle:=a1.1 s hsm
 have key:∀v,memL ((m.take j).foldl Eo []) v->-1073741824<=v/\v<=1073741824:=λv hv=>by
  rcases (a2 v).1 hv with h|⟨t,ht,h1,h2⟩
  ·exact absurd h (BZ _)
  ·exact (z0u.1 ⟨t,hp.mem_iff.1 (B6 ht),h1,h2⟩).2
 have k1:=key s.lo ⟨s,hsm,BD _,hle⟩;have k2:=key s.hi ⟨s,hsm,hle,BD _⟩;omega
theorem Lp(l:List Span)(hl:l.length<=1000000000000):B2 Tryz.prog 144 [Bf l] (Abs.hl []) λy H'=>∃rest:List Span,y=.ref 0 1 0 (Bv l).length/\H'=Abs.hl [⟨2,1,true,(Bv l++rest).map Cz⟩]:=by
 refine VR (b:=0) U4 rfl ?_;unfold N8;(with_reducible repeat'(first|simp (disch:=omega) only[push_cast,↓zz,seval]|apply Aa|refine sp_ ?_ ?_<;>intro hc<;>push_cast at hc|omega|intro _))
 refine Bw (B5 (λ(k:Nat)=>k<=l.length) (λk=>l.length-k) (λk=>[(3,.ref 0 1 0 (inN (l.take k)).length),(13,Bf l),(14,.int .i64 l.length),(15,.int .i64 k)])
  (λk=>[⟨2,1,true,(NM (inN (l.take k)) l.length).map Cz⟩]) (λenv _=>[Dg 2 (env 3)]) 0 (by simp) ?_ ?_)
 ·have h0:(List.replicate l.length (AV.agg [AV.int IntKind.i64 0,AV.int IntKind.i64 0]))=(NM [] l.length).map Cz:=by simp[NM]
  have h1:inN ([]:List Span)=[]:=rfl;(with_reducible repeat'(first|simp (disch:=omega) only[push_cast,↓zz,seval,h0,h1,AX]|apply Aa|refine sp_ ?_ ?_<;>intro hc<;>push_cast at hc|omega|intro _))
 intro k hk;have hlen:(inN (l.take k)).length<=k:=by have:=UB (l.take k);simp at this;omega
 have hr:=z1q (m:=inN (l.take k)) (n:=l.length) (by omega);rcases Ak k l.length with hkl|hkl
 ·have hE:((NM (inN (l.take k)) l.length).map Cz).isEmpty=false:=by
   cases hq:NM (inN (l.take k)) l.length with
   |nil=>rw[hq] at hr;simp at hr;omega
   |cons _ _=>rfl
  have ht:=z7z hkl;refine W_T ?_;(with_reducible repeat'(first|simp (disch:=omega) only[push_cast,↓zz,seval,hr,hE]|apply Aa|refine sp_ ?_ ?_<;>intro hc<;>push_cast at hc|omega|intro _))
  ·rw[Ae (show (JE (nth l k)).lo<=(JE (nth l k)).hi from hc)] at ht
   refine⟨k+1,⟨⟨by rw[ht];simp,by simp⟩,?_⟩,by omega,by omega⟩;rw[ht,<-z1r (show (inN (l.take k)).length<l.length by omega) (JE (nth l k))];simp only[Ao,A4,A8,A3,List.singleton_append];exact Br _ _
  ·rw[Ac (show ¬(JE (nth l k)).lo<=(JE (nth l k)).hi from hc),AB] at ht
   refine⟨k+1,⟨⟨by rw[ht],by simp⟩,?_⟩,by omega,by omega⟩;rw[ht];exact Br _ _
 ·obtain rfl:k=l.length:=by omega
  refine W_T ?_;(with_reducible repeat'(first|simp (disch:=omega) only[push_cast,↓zz,seval,hr]|apply Aa|refine sp_ ?_ ?_<;>intro hc<;>push_cast at hc|omega|intro _));rw[AA] at *;refine B2.mono (z80 (inN l) (List.replicate (l.length-(inN l).length) z81) (by omega)) ?_;rintro y H' ⟨rfl,m',hp,hs,rfl⟩;have hpl:=hp.length_eq;have hrl:(List.replicate (l.length-(inN l).length) z81).length<=l.length:=by simp
  generalize List.replicate (l.length-(inN l).length) z81=rest at *;rw[<-z7o hp hs,<-hpl];have hml:m'.length<=1000000000000:=by have:=UB l;omega
  (with_reducible repeat'(first|simp (disch:=omega) only[push_cast,↓zz,seval]|apply Aa|refine sp_ ?_ ?_<;>intro hc<;>push_cast at hc|omega|intro _));have hfl:∀j,((m'.take j).foldl Eo []).length<=j:=λj=>by have:=QE (m'.take j) [];simp at this;omega
  have hmr:∀j,j<=m'.length->(mixS ((m'.take j).foldl Eo []) (m'++rest)).length=m'.length+rest.length:=λj hj=>by rw[z82 (by have:=hfl j;simp;omega)];simp
  refine Bw (B5 (λ(j:Nat)=>j<=m'.length) (λj=>m'.length-j) (λj=>[(6,.ref 0 1 0 ((m'.take j).foldl Eo []).length),(41,.ref 0 1 0 m'.length),(42,.int .i64 m'.length),(43,.int .i64 j)])
   (λj=>[⟨2,1,true,(mixS ((m'.take j).foldl Eo []) (m'++rest)).map Cz⟩]) (λenv _=>[Dg 2 (env 6)]) 0 (by simp) ?_ ?_)
  ·(with_reducible repeat'(first|simp (disch:=omega) only[push_cast,↓zz,seval,Wx,AX,List.foldl_nil]|apply Aa|refine sp_ ?_ ?_<;>intro hc<;>push_cast at hc|omega|intro _))
  intro j hj;have hlj:=hmr j hj;have hfj:=hfl j;rcases Ak j m'.length with hjm|hjm
  ·have hstep:(m'.take (j+1)).foldl Eo []=Eo ((m'.take j).foldl Eo []) (nth m' j):=by rw[take_at hjm,Dn];rfl
   have hat:=zfk (s:=m'++rest) hfj;have hat2:nth (m'++rest) j=nth m' j:=by simp[nth,Aq,A7 hjm]
   rw[hat2] at hat;have hbd:=UG hp hs j
   have hE:((mixS ((m'.take j).foldl Eo []) (m'++rest)).map Cz).isEmpty=false:=by
    cases hq:mixS ((m'.take j).foldl Eo []) (m'++rest) with
    |nil=>rw[hq] at hlj;simp at hlj;omega
    |cons _ _=>rfl
   generalize (m'.take j).foldl Eo []=out at *;rcases FO out with rfl|⟨mm,y,rfl⟩
   ·refine W_T ?_
    (with_reducible repeat'(first|simp (disch:=omega) only[push_cast,↓zz,seval,hlj,hat,hE]|apply Aa|refine sp_ ?_ ?_<;>intro hc<;>push_cast at hc|omega|intro _));refine⟨j+1,⟨⟨by rw[hstep];simp[Gi],by simp⟩,?_⟩,by omega,by omega⟩;rw[hstep,Gi,Wx];exact Br _ _
   ·rw[JD] at hstep
    have hmm:mm.length+1<=j:=by simpa using hfj
    have hw:IntKind.i64.wrap (mm.length:Int)=mm.length:=IntWalk.i64_in _ (by omega);have hy:=hbd y (by simp);have hwy:IntKind.i64.wrap (y.hi+1)=y.hi+1:=IntWalk.i64_in _ (by omega);have hset:=z84 (mm:=mm) (s:=m'++rest) (y:=y) (z:=⟨y.lo,max y.hi (nth m' j).hi⟩);refine W_T ?_;(with_reducible repeat'(first|simp (disch:=omega) only[push_cast,↓zz,seval,hlj,hat,z1s,hE,hw,hwy,hset,AX]|apply Aa|refine sp_ ?_ ?_<;>intro hc<;>push_cast at hc|omega|intro _))
    ·rw[Ae hc] at hstep
     refine⟨j+1,⟨⟨by rw[hstep];simp,by simp⟩,?_⟩,by omega,by omega⟩;rw[hstep];exact Br _ _
    ·rw[Ac hc] at hstep
     refine⟨j+1,⟨⟨by rw[hstep];simp,by simp⟩,?_⟩,by omega,by omega⟩;rw[hstep,<-z83 (show (mm++[y]).length<(m'++rest).length by simp;omega) (nth m' j)];simp only[Ao,A4,A8,A3,List.singleton_append,Ah,List.length_singleton];exact Br _ _
  ·obtain rfl:j=m'.length:=by omega
   rw[AA] at *;refine W_T ?_;(with_reducible repeat'(first|simp (disch:=omega) only[push_cast,↓zz,seval,hlj]|apply Aa|refine sp_ ?_ ?_<;>intro hc<;>push_cast at hc|omega|intro _));refine Sa [.grp 0] (.ref 0 1 0 (m'.foldl Eo []).length) [⟨2,1,true,(m'.foldl Eo []++(m'++rest).drop (m'.foldl Eo []).length).map Cz⟩] ?_ ⟨_,rfl,rfl⟩;(with_reducible repeat'(first|simp (disch:=omega) only[push_cast,↓zz,seval]|apply Aa|refine sp_ ?_ ?_<;>intro hc<;>push_cast at hc|omega|intro _))
   all_goals (rw[<-Ao];exact Br _ _)
theorem CV(l:List Span)(hl:l.length<=1000000000000):PC Tryz.prog 144 [Bf l] (Bf (Bv l)):=by
 have h:B2 Tryz.prog 144 [Bf l] (Abs.hl []) λy H'=>y=Bf (Bv l)/\H'=Abs.hl []:=by
  refine Nj ((Lp l hl).mono ?_);rintro y H' ⟨rest,rfl,rfl⟩;refine Sa [] (Bf (Bv l)) [] ?_ ⟨rfl,rfl⟩;have ht:List.take (Bv l).length ((Bv l).map Cz++rest.map Cz)=(Bv l).map Cz:=DO (by simp);have hn:(Bv l).length<=(Bv l).length+rest.length:=by omega
  (with_reducible repeat'(first|simp (disch:=omega) only[push_cast,↓zz,seval,ht,hn]|apply Aa|refine sp_ ?_ ?_<;>intro hc<;>push_cast at hc|omega|intro _))
 rw[PC,RP];exact h
def G9(x y:Span):Span:=⟨max x.lo y.lo,min x.hi y.hi⟩
def FM:List Span->List Span->List Span
 |x::a,y::b=>(if (G9 x y).lo<=(G9 x y).hi then [G9 x y] else [])++if x.hi<y.hi then FM a (y::b) else FM (x::a) b
 |_,_=>[]
termination_by a b=>a.length+b.length
theorem Hi(b:List Span):FM [] b=[]:=by rw[FM];simp
theorem GO(a:List Span):FM a []=[]:=by cases a<;>rw[FM]<;>simp
theorem Lq(x y:Span)(a b:List Span):FM (x::a) (y::b)=(if (G9 x y).lo<=(G9 x y).hi then [G9 x y] else [])++if x.hi<y.hi then FM a (y::b) else FM (x::a) b:=by rw[FM]
theorem NN(a b:List Span)(la:a.length<=1000000000000)(lb:b.length<=1000000000000):PC Tryz.prog 172 [Bf a,Bf b] (Bf (FM (Bv a) (Bv b))):=by
 refine Cg U6 ?_;unfold NA;(with_reducible repeat'(first|simp (disch:=omega) only[push_cast,↓zz,seval]|apply Aa|refine sp_ ?_ ?_<;>intro hc<;>push_cast at hc|(have q_:=CV a la;refine ee q_ ?_;clear q_)|(have q_:=CV b lb;refine ee q_ ?_;clear q_)|(have q_:=CV a la;refine cc q_ ?_;clear q_;(simp(disch:=omega)only[push_cast,↓zz,seval]);(fail_if_success change False))|(have q_:=CV b lb;refine cc q_ ?_;clear q_;(simp(disch:=omega)only[push_cast,↓zz,seval]);(fail_if_success change False))|omega|intro _));have ha:=Ep a;have hb:=Ep b;generalize Bv a=a0 at *;generalize Bv b=b0 at *
 refine Bw (B5 (λ(s:List Span × List Span × List Span)=>FM a0 b0=s.2.2++FM s.1 s.2.1/\s.1.length+s.2.1.length+s.2.2.length<=a0.length+b0.length) (λs=>s.1.length+s.2.1.length)
  (λs=>[(0,Bf s.1),(1,Bf s.2.1),(5,.ref 0 1 0 s.2.2.length)]) (λs=>[⟨2,1,false,s.2.2.map Cz⟩]) (λenv _=>[Dg 2 (env 5)]) (a0,b0,[]) (by simp) ?_ ?_)
 ·(with_reducible repeat'(first|simp (disch:=omega) only[push_cast,↓zz,seval]|apply Aa|refine sp_ ?_ ?_<;>intro hc<;>push_cast at hc|omega|intro _))
 rintro⟨a',b',out⟩ ⟨h1,h2⟩;simp only at h1 h2;cases a' with
 |nil =>
  rw[Hi,AB] at h1;rw[h1];refine W_T ?_;(with_reducible repeat'(first|simp (disch:=omega) only[push_cast,↓zz,seval]|apply Aa|refine sp_ ?_ ?_<;>intro hc<;>push_cast at hc|omega|intro _))
 |cons x a' =>
  cases b' with
  |nil =>
   rw[GO,AB] at h1;rw[h1];refine W_T ?_;(with_reducible repeat'(first|simp (disch:=omega) only[push_cast,↓zz,seval]|apply Aa|refine sp_ ?_ ?_<;>intro hc<;>push_cast at hc|omega|intro _))
  |cons y b' =>
   rw[Lq] at h1;simp only[List.length_cons] at h2;refine W_T ?_;(with_reducible repeat'(first|simp (disch:=omega) only[push_cast,↓zz,seval,Bf,Cz]|apply Aa|refine sp_ ?_ ?_<;>intro hc<;>push_cast at hc|omega|intro _))
   ·rw[Ae (show (G9 x y).lo<=(G9 x y).hi from ‹max x.lo y.lo<=min x.hi y.hi›),Ae hc] at h1
    refine⟨(a',y::b',out++[G9 x y]),⟨⟨rfl,rfl,by simp⟩,?_⟩,⟨by simp[h1],by first|(simp;done)|(simp;omega)⟩,by simp⟩;rw[Ao];exact Br _ _
   ·rw[Ae (show (G9 x y).lo<=(G9 x y).hi from ‹max x.lo y.lo<=min x.hi y.hi›),Ac hc] at h1
    refine⟨(x::a',b',out++[G9 x y]),⟨⟨rfl,rfl,by simp⟩,?_⟩,⟨by simp[h1],by first|(simp;done)|(simp;omega)⟩,by first|(simp;done)|(simp;omega)⟩;rw[Ao];exact Br _ _
   ·rw[Ac (show ¬(G9 x y).lo<=(G9 x y).hi from ‹¬max x.lo y.lo<=min x.hi y.hi›),Ae hc,List.nil_append] at h1
    refine⟨(a',y::b',out),⟨⟨rfl,rfl,rfl⟩,Br _ _⟩,⟨h1,by first|(simp;done)|(simp;omega)⟩,by simp⟩
   ·rw[Ac (show ¬(G9 x y).lo<=(G9 x y).hi from ‹¬max x.lo y.lo<=min x.hi y.hi›),Ac hc,List.nil_append] at h1
    refine⟨(x::a',b',out),⟨⟨rfl,rfl,rfl⟩,Br _ _⟩,⟨h1,by first|(simp;done)|(simp;omega)⟩,by first|(simp;done)|(simp;omega)⟩
theorem I7:∀(a b:List Span),Plain a->Plain b->Plain (FM a b)/\∀v,memL (FM a b) v↔memL a v/\memL b v
 |[],b,_,_=>by
  rw[Hi];exact⟨⟨by simp,by simp⟩,λv=>by simp only[BZ,false_and]⟩
 |x::a,[],_,_=>by
  rw[GO];exact⟨⟨by simp,by simp⟩,λv=>by simp only[BZ,and_false]⟩
 |x::a,y::b,ha,hb=>by
  have hx:=ha.head;have hy:=hb.head;rw[Lq]
  -- what the rest has,begins behind what ends first
  have key:∀{r:List Span},Plain r->(∀v,memL r v->min x.hi y.hi+1<v)->Plain ((if (G9 x y).lo<=(G9 x y).hi then [G9 x y] else [])++r)/\∀v,memL ((if (G9 x y).lo<=(G9 x y).hi then [G9 x y] else [])++r) v↔((x.lo<=v/\v<=x.hi)/\(y.lo<=v/\v<=y.hi))\/memL r v:=by
   intro r hr hv;split
   ·rename_i hle
    refine⟨⟨?_,?_⟩,λv=>?_⟩
    ·intro s hs
     rcases Am.1 hs with hs|hs
     ·simp only[An] at hs;subst hs;exact hle
     ·exact hr.1 s hs
    ·rw[List.singleton_append,AM]
     exact⟨λt ht=>hv t.lo ⟨t,ht,BD _,hr.1 t ht⟩,hr.2⟩
    ·rw[List.singleton_append,Bs]
     simp only[G9];constructor
     ·rintro (h|h)
      ·exact .inl (by omega)
      ·exact .inr h
     ·rintro (h|h)
      ·exact .inl (by omega)
      ·exact .inr h
   ·rename_i hle
    simp only[G9] at hle;rw[List.nil_append];refine⟨hr,λv=>⟨.inr,λh=>h.resolve_left λh=>by omega⟩⟩
  by_cases hlt:x.hi<y.hi
  ·rw[Ae hlt]
   obtain⟨p1,p2⟩:=I7 a (y::b) ha.tail hb;obtain⟨q1,q2⟩:=key p1 λv hv=>by have:=ha.after ((p2 v).1 hv).1;omega
   refine⟨q1,λv=>?_⟩;rw[q2 v,p2 v,Bs,Bs];constructor
   ·rintro (⟨h1,h2⟩|⟨h1,h2⟩)
    ·exact⟨.inl h1,.inl h2⟩
    ·exact⟨.inr h1,h2⟩
   ·rintro⟨h1|h1,h2⟩
    ·rcases h2 with h2|h2
     ·exact .inl ⟨h1,h2⟩
     ·have:=hb.after h2;omega
    ·exact .inr ⟨h1,h2⟩
  ·rw[Ac hlt]
   obtain⟨p1,p2⟩:=I7 (x::a) b ha hb.tail;obtain⟨q1,q2⟩:=key p1 λv hv=>by have:=hb.after ((p2 v).1 hv).2;omega
   refine⟨q1,λv=>?_⟩;rw[q2 v,p2 v,Bs,Bs];constructor
   ·rintro (⟨h1,h2⟩|⟨h1,h2⟩)
    ·exact⟨.inl h1,.inl h2⟩
    ·exact⟨h1,.inr h2⟩
   ·rintro⟨h1,h2|h2⟩
    ·rcases h1 with h1|h1
     ·exact .inl ⟨h1,h2⟩
     ·have:=ha.after h1;omega
    ·exact .inr ⟨h1,h2⟩
termination_by a b=>a.length+b.length
theorem EM(l:List Span):∀s∈Bv l,-1073741824<=s.lo/\s.lo<=s.hi/\s.hi<=1073741824:=by
 obtain⟨h1,h2⟩:=By l;intro s hs;have hle:=h1.1 s hs;have k1:=((h2 s.lo).1 ⟨s,hs,BD _,hle⟩).2;have k2:=((h2 s.hi).1 ⟨s,hs,hle,BD _⟩).2;omega
def Lr:Int->List Span->List Span
 |f,[]=>[⟨f,1073741824⟩]
 |f,x::l=>⟨f,x.lo-1⟩::Lr (x.hi+1) l
theorem Ta:∀(l:List Span)(f:Int),(Lr f l).length=l.length+1
 |[],f=>rfl
 |x::l,f=>by rw[Lr,List.length_cons,Ta l];rfl
theorem Tb:∀(l:List Span)(f:Int),Plain l->(∀s∈l,f<=s.lo/\s.hi<=1073741824)->∀v,memL (Lr f l) v↔f<=v/\v<=1073741824/\¬memL l v
 |[],f,_,_,v=>by
  rw[Lr,Bs];simp only[BZ,Ar,B8,and_true]
 |x::l,f,h,hb,v=>by
  have hx:=h.head;have hxb:=hb x (by simp);rw[Lr,Bs,Tb l (x.hi+1) h.tail (λs hs=>⟨by have:=(AM.1 h.2).1 s hs;omega,(hb s (by simp[hs])).2⟩) v,Bs];have ha:memL l v->x.hi+1<v:=λhv=>h.after hv;dsimp only;constructor
  ·rintro (h1|⟨h1,h2,h3⟩)
   ·exact⟨h1.1,by omega,λhh=>hh.elim (λhh=>by omega) (λhh=>by have:=ha hh;omega)⟩
   ·exact⟨by omega,h2,λhh=>hh.elim (λhh=>by omega) h3⟩
  ·rintro⟨h1,h2,h3⟩
   rcases D3 v x.lo with hlt|hge
   ·exact .inl ⟨h1,by omega⟩
   ·refine .inr ⟨?_,h2,λhh=>h3 (.inr hh)⟩
    rcases D3 x.hi v with hlt2|hge2
    ·omega
    ·exact absurd (.inl ⟨hge,hge2⟩) h3
def Er(a b:List Span):List Span:=FM (Bv a) (Bv (Lr (-1073741824) (Bv b)))
theorem Ls(a b:List Span):Plain (Er a b)/\∀v,memL (Er a b) v↔memL a v/\(-1073741824<=v/\v<=1073741824)/\¬memL b v:=by
 obtain⟨a1,a2⟩:=By a;obtain⟨b1,b2⟩:=By b;obtain⟨g1,g2⟩:=By (Lr (-1073741824) (Bv b));obtain⟨m1,m2⟩:=I7 _ _ a1 g1;refine⟨m1,λv=>?_⟩;rw[Er,m2 v,a2 v,g2 v,Tb _ _ b1 (λs hs=>by have:=EM b s hs;omega) v,b2 v];constructor
 ·rintro⟨⟨h1,h2⟩,⟨h3,h4,h5⟩,h6⟩
  exact⟨h1,h2,λh=>h5 ⟨h,h2⟩⟩
 ·rintro⟨h1,h2,h3⟩
  exact⟨⟨h1,h2⟩,⟨h2.1,h2.2,λh=>h3 h.1⟩,h2⟩
theorem P0(a b:List Span)(la:a.length<=100000000000)(lb:b.length<=100000000000):PC Tryz.prog 145 [Bf a,Bf b] (Bf (Er a b)):=by
 refine Cg SN ?_;unfold Mb;(with_reducible repeat'(first|simp (disch:=omega) only[push_cast,↓zz,seval]|apply Aa|refine sp_ ?_ ?_<;>intro hc<;>push_cast at hc|(have q_:=CV b (by omega);refine ee q_ ?_;clear q_)|(have q_:=CV b (by omega);refine cc q_ ?_;clear q_;(simp(disch:=omega)only[push_cast,↓zz,seval]);(fail_if_success change False))|omega|intro _));have hb:=Ep b;have hbd:=EM b;have hgl:=Ta (Bv b) (-1073741824);have hmeet:=NN a (Lr (-1073741824) (Bv b)) (by omega) (by omega);rw[<-Er] at hmeet;generalize Bv b=b0 at *
 refine Bw (B5 (λ(s:Nat × Int × List Span)=>s.1<=b0.length/\s.2.2.length=s.1/\(-1073741824<=s.2.1/\s.2.1<=1073741825)/\Lr (-1073741824) b0=s.2.2++Lr s.2.1 (b0.drop s.1)) (λs=>b0.length-s.1)
  (λs=>[(0,Bf a),(5,.ref 0 1 0 s.2.2.length),(6,.int .i64 s.2.1),(10,Bf b0),(11,.int .i64 b0.length),(12,.int .i64 s.1)]) (λs=>[⟨2,1,false,s.2.2.map Cz⟩]) (λenv _=>[Dg 2 (env 5)]) (0,-1073741824,[]) (by simp) ?_ ?_)
 ·(with_reducible repeat'(first|simp (disch:=omega) only[push_cast,↓zz,seval]|apply Aa|refine sp_ ?_ ?_<;>intro hc<;>push_cast at hc|omega|intro _))
 rintro⟨k,f,out⟩ ⟨h1,h2,h3,h4⟩;simp only at h1 h2 h3 h4;rcases Ak k b0.length with hk|hk
 ·have hx:=hbd _ (Bo hk)
  rw[drop_at hk,Lr] at h4;have w1:IntKind.i64.wrap ((nth b0 k).lo-1)=(nth b0 k).lo-1:=IntWalk.i64_in _ (by omega);have w2:IntKind.i64.wrap ((nth b0 k).hi+1)=(nth b0 k).hi+1:=IntWalk.i64_in _ (by omega);refine W_T ?_;(with_reducible repeat'(first|simp (disch:=omega) only[push_cast,↓zz,seval,w1,w2]|apply Aa|refine sp_ ?_ ?_<;>intro hc<;>push_cast at hc|omega|intro _));refine⟨(k+1,(nth b0 k).hi+1,out++[⟨f,(nth b0 k).lo-1⟩]),⟨⟨by simp,rfl,by simp⟩,?_⟩,⟨by omega,by simp[h2],by simp only;omega,by simp[h4]⟩,by omega⟩;rw[Ao];exact Br _ _
 ·obtain rfl:k=b0.length:=by omega
  rw[Ax (Ad _),Lr] at h4;rw[h4] at hmeet
  have htk:List.take (out.length+1) (out.map Cz++[AV.agg [.int .i64 f,.int .i64 1073741824]])=(out++[(⟨f,1073741824⟩:Span)]).map Cz:=by
   rw[Ay (by simp),Ao];rfl
  refine W_T ?_;(with_reducible repeat'(first|simp (disch:=omega) only[push_cast,↓zz,seval,Bf,En,htk,AX]|apply Aa|refine sp_ ?_ ?_<;>intro hc<;>push_cast at hc|refine ee hmeet ?_|(refine cc hmeet ?_;(simp(disch:=omega)only[push_cast,↓zz,seval,Bf,En,htk,AX]);(fail_if_success change False))|omega|intro _))
  all_goals trace_state
theorem HU(a b:List Span)(la:a.length<=100000000000)(lb:b.length<=100000000000):PC Tryz.prog 116 [Bf a,Bf b] (.bool (decide (Er a b=[]))):=by
 refine Cg QA ?_;unfold Kq;(with_reducible repeat'(first|simp (disch:=omega) only[push_cast,↓zz,seval]|apply Aa|refine sp_ ?_ ?_<;>intro hc<;>push_cast at hc|(have q_:=P0 a b la lb;refine ee q_ ?_;clear q_)|(have q_:=P0 a b la lb;refine cc q_ ?_;clear q_;(simp(disch:=omega)only[push_cast,↓zz,seval]);(fail_if_success change False))|omega|intro _))
 all_goals (rw[BE];exact⟨λh=>Av (by omega),λh=>by rw[h];rfl⟩)
theorem TI_w{I:Itr}{n:Nat}{s:Option Nat}{env:Env}{H:Az}{Q:Option Nat->Ex->Env->Az->Prop}{ops:List AOp}{P:Program}(hP:I.P=P)(h:W P n 0 (.reg ops) env H (Q s)):TI I n (.reg ops) s env H Q:=zjy (by
 rw[hP];rw[W] at h
 first|exact h|rwa [KT] at h|(simpa only[KT] using h))
theorem UH{I:Itr}{n:Nat}{s:Option Nat}{env:Env}{H:Az}{Q Q':Option Nat->Ex->Env->Az->Prop}{c:AC}(h:TI I n c s env H Q)(hq:∀s x e H,Q s x e H->Q' s x e H):TI I n c s env H Q' :=
 λcode hc S a X hN hF hd=>wpIn_mono (h code hc S a X hN hF hd) λe a w hh=>by
  obtain⟨S',env',H',x,s',X',h1,h2,h3,h4,h5,h6⟩:=hh;exact⟨S',env',H',x,s',X',h1,h2,h3,h4,h5,hq _ _ _ _ h6⟩
def Kz:AC->Bool
 |.skip|.reg _|.exit _|.ret=>true
 |.seq x y=>Kz x&&Kz y
 |.cond _ x y=>Kz x&&Kz y
 |.block _ c=>Kz c
 |_=>false
theorem TI_W{I:Itr}{n:Nat}{P:Program}(hP:I.P=P):∀{c:AC}{s:Option Nat}{env:Env}{H:Az}{Q:Ex->Env->Az->Prop},Kz c=true->W P n 0 c env H Q->TI I n c s env H (λs' x e H'=>s'=s/\Q x e H')
 |.skip,s,env,H,Q,_,h=>zf7 ⟨rfl,h⟩
 |.exit id,s,env,H,Q,_,h=>zf8 ⟨rfl,h⟩
 |.ret,s,env,H,Q,_,h=>zjx ⟨rfl,h⟩
 |.reg ops,s,env,H,Q,_,h=>TI_w (Q:=λs' x e H'=>s'=s/\Q x e H') hP (by
  have h':wk P ops env H _:=h;show wk P ops env H (λe H'=>s=s/\Q .normal e H');have e:(λ(e:Env) (H':Az)=>s=s/\Q .normal e H')=λe H'=>Q .normal e H':=by funext e H';simp
  rw[e]
  exact h')
 |.seq x y,s,env,H,Q,hc,h=>by
  simp only[Kz,Ab] at hc;refine GX (UH (TI_W hP (c:=x) hc.1 h) λs' z e H' hh=>?_);obtain⟨rfl,hh⟩:=hh;cases z with
  |normal=>exact TI_W hP (c:=y) hc.2 hh
  |exit id=>exact⟨rfl,hh⟩
  |ret=>exact⟨rfl,hh⟩
 |.cond c x y,s,env,H,Q,hc,h=>by
  simp only[Kz,Ab] at hc;have h':Ug (c.eval env) (W P n 0 x env H Q) (W P n 0 y env H Q):=h;unfold Ug at h';split at h'
  ·rename_i q hq;exact zf9 hq (λhb=>TI_W hP hc.1 (h'.1 hb)) (λhb=>TI_W hP hc.2 (h'.2 hb))
  ·exact h'.elim
 |.block id c,s,env,H,Q,hc,h=>by
  refine HS (UH (TI_W hP (c:=c) hc h) λs' z e H' hh=>?_);obtain⟨rfl,hh⟩:=hh;cases z with
  |normal=>exact⟨rfl,hh⟩
  |ret=>exact⟨rfl,hh⟩
  |exit k =>
   simp only[Ex.inBlock,Ex.inBlockI] at hh ⊢;split<;>rename_i hk
   ·rw[Ae hk] at hh;exact⟨trivial,hh⟩
   ·rw[Ac hk] at hh;exact⟨trivial,hh⟩
theorem TI_v{I:Itr}{n:Nat}{P:Program}{c:AC}{s:Option Nat}{env:Env}{H:Az}{Q:Option Nat->Ex->Env->Az->Prop}(hP:I.P=P)(hc:Kz c=true)(h:W P n 0 c env H (Q s)):TI I n c s env H Q :=
 UH (TI_W hP hc h) λs' x e H' hh=>by
  obtain⟨rfl,hh⟩:=hh;exact hh
theorem Tc:∀(live:List (Nat × AV))(i:Nat),E0 live i=.any\/(i,E0 live i)∈live:=by
 intro live i
 induction live with
 |nil=>exact .inl rfl
 |cons p l ih =>
  obtain⟨t,x⟩:=p;show (if i=t then x else E0 l i)=.any\/(i,if i=t then x else E0 l i)∈(t,x)::l;split
  ·rename_i h;subst h;exact .inr (by simp)
  ·rcases ih with h|h
   ·exact .inl h
   ·exact .inr (by simp[h])
theorem zk4{I:Itr}{n:Nat}{s:Option Nat}{env:Env}{H:Az}{Q:Option Nat->Ex->Env->Az->Prop}{c:AC}{live:List (Nat × AV)}(hl:∀p∈live,env p.1=p.2)(h:TI I n c s (E0 live) H Q):TI I n c s env H Q :=
 λcode hc S a X hN hF hd=>h code hc S a X hN ⟨hF.size,hF.defers,λi hi=>by
  rcases Tc live i with he|he
  ·rw[he];trivial
  ·have:=hl _ he
   simp only at this;rw[<-this]
   exact hF.val i hi⟩ hd
theorem z1t{I:Itr}{n:Nat}{s:Option Nat}{env:Env}{H:Az}{Q:Option Nat->Ex->Env->Az->Prop}{c:AC}{live:List (Nat × AV)}(hl:∀p∈live,env p.1=p.2/\p.2.pure=true)(h:TI I n c s (E0 live) (Abs.hl []) Q):TI I n c s env H Q :=
 λcode hc S a X hN hF hd=>by
  have hN':I.Now s X { S with n:=0 } (Abs.hl []):=⟨⟨rfl,λg hg=>absurd hg (Ba _),λg _ hg=>absurd hg (Ba _),hN.rel.im⟩,hN.base,hN.keep,hN.im,hN.apart,hN.st⟩;refine h code hc { S with n:=0 } a X hN' ⟨hF.size,by rw[hd];exact Marks.nil hN.base,λi hi=>?_⟩ hd;rcases Tc live i with he|he
  ·rw[he];trivial
  ·obtain⟨h1,h2⟩:=hl _ he
   simp only at h1 h2;have hv:=hF.val i hi;rw[h1] at hv;exact VRel.of_pure (S:=S) (S':={ S with n:=0 }) rfl (λ_ h=>h) h2 hv
def QN(lo:Int)(n:Nat):List Int:=(List.range n).map λ(i:Nat)=>lo+(i:Int)
def F1(l:List Span):List Int:=l.flatMap λs=>QN s.lo (s.hi+1-s.lo).toNat
theorem NO(l:List Span)(hl:l.length<=1000000000000)(hb:∀s∈l,-1073741824<=s.lo/\s.lo<=s.hi/\s.hi<=1073741824):RY Tryz.prog 232 [.cptr (Bf l)] ((F1 l).map λx=>[.int .i64 x]):=by
 refine z0v QD λI hP hr=>?_;show TI I 25 HR _ _ _ _;unfold HR;refine GX (TI_v hP (by rfl) ?_);(with_reducible repeat'(first|simp (disch:=omega) only[push_cast,↓zz,seval]|apply Aa|refine sp_ ?_ ?_<;>intro hc<;>push_cast at hc|omega|intro _));refine (HS (UC (λ(t:Nat) s env H=>t<=l.length/\s=some (F1 (l.take t)).length/\∀p∈[(0,AV.yld I.l),(6,Bf l),(7,AV.int .i64 l.length),(8,AV.int .i64 t)],env p.1=p.2) (λt=>l.length-t) 0 ?_ ?_):TI I 25 _ _ _ _ _)
 ·refine⟨A6 _,by simp[F1],?_⟩
  simp only[Af,Aj,Ar,Aw,AL];exact⟨rfl,rfl,rfl,rfl⟩
 rintro t s env H ⟨ht,rfl,hlv⟩;refine z1t (live:=[(0,AV.yld I.l),(6,Bf l),(7,AV.int .i64 l.length),(8,AV.int .i64 t)]) (λp hp=>⟨hlv p hp,?_⟩) ?_
 ·simp only[Af,Aj,Ar] at hp
  rcases hp with rfl|rfl|rfl|rfl<;>first|rfl|exact AX l
 refine GX (TI_v hP (by rfl) ?_);(with_reducible repeat'(first|simp (disch:=omega) only[push_cast,↓zz,seval]|apply Aa|refine sp_ ?_ ?_<;>intro hc<;>push_cast at hc|omega|intro _));refine (GX ?_:TI I 25 _ _ _ _ _);refine TI_v hP (by rfl) ?_;(with_reducible repeat'(first|simp (disch:=omega) only[push_cast,↓zz,seval]|apply Aa|refine sp_ ?_ ?_<;>intro hc<;>push_cast at hc|omega|intro _))
 ·refine (GX (HS (GX ?_)):TI I 25 _ _ _ _ _)
  refine TI_v hP (by rfl) ?_;(with_reducible repeat'(first|simp (disch:=omega) only[push_cast,↓zz,seval]|apply Aa|refine sp_ ?_ ?_<;>intro hc<;>push_cast at hc|omega|intro _));refine (GX ?_:TI I 25 _ _ _ _ _);refine TI_v hP (by rfl) ?_;(with_reducible repeat'(first|simp (disch:=omega) only[push_cast,↓zz,seval]|apply Aa|refine sp_ ?_ ?_<;>intro hc<;>push_cast at hc|omega|intro _));have hs:=hb _ (Bo (l:=l) (i:=t) (by omega))
  have hrow:∀i:Nat,(nth l t).lo+i<=(nth l t).hi->I.rows[(F1 (l.take t)).length+i]? = some [AV.int .i64 ((nth l t).lo+i)]:=λi hi=>by
   have e:F1 l=F1 (l.take t)++(QN (nth l t).lo ((nth l t).hi+1-(nth l t).lo).toNat++F1 (l.drop (t+1))):=by
    conv=>lhs;rw[<-Cf t l,drop_at (show t<l.length by omega)]
    simp[F1]
   rw[hr,e,Do,AE (by omega),Nat.add_sub_cancel_left,A7 (by simp[QN];omega)];simp only[QN,Do];rw[List.getElem?_range (by omega)];rfl
  have hend:(F1 (l.take (t+1))).length=(F1 (l.take t)).length+((nth l t).hi+1-(nth l t).lo).toNat:=by
   rw[take_at (show t<l.length by omega)];simp[F1,QN]
  refine (HS (UC (λ(i:Nat) s env H=>(nth l t).lo+i<=(nth l t).hi+1/\s=some ((F1 (l.take t)).length+i)/\H=Abs.hl [⟨2,1,true,[Cz (nth l t)]⟩]/\∀p∈[(0,AV.yld I.l),(4,AV.ptr 0 1 0 0),(5,AV.int .i64 ((nth l t).lo+i)),(6,Bf l),(7,AV.int .i64 l.length),(8,AV.int .i64 t)],env p.1=p.2) (λi=>((nth l t).hi+1-(nth l t).lo).toNat-i) 0 ?_ ?_):TI I 25 _ _ _ _ _)
  ·refine⟨by omega,by simp,rfl,?_⟩
   simp only[Af,Aj,Ar,Aw,AL];refine⟨rfl,rfl,?_,rfl,rfl,rfl⟩;show AV.int .i64 (nth l t).lo=AV.int .i64 ((nth l t).lo+(0:Nat));simp
  rintro i s env H ⟨hi,rfl,rfl,hlv2⟩;refine zk4 (live:=[(0,AV.yld I.l),(4,AV.ptr 0 1 0 0),(5,AV.int .i64 ((nth l t).lo+i)),(6,Bf l),(7,AV.int .i64 l.length),(8,AV.int .i64 t)]) hlv2 ?_;refine GX ?_;refine TI_v hP (by rfl) ?_;(with_reducible repeat'(first|simp (disch:=omega) only[push_cast,↓zz,seval]|apply Aa|refine sp_ ?_ ?_<;>intro hc<;>push_cast at hc|omega|intro _))
  ·refine (GX (HS (GX ?_)):TI I 25 _ _ _ _ _)
   refine Wr (pre:=[_,_]) (post:=[_]) rfl rfl ?_;refine⟨[AV.int .i64 ((nth l t).lo+i)],rfl,?_,hrow i hc,?_,?_⟩
   ·intro x hx
    simp only[An] at hx;subst hx;exact λS v hv=>hv
   ·rw[hP,<-KT]
    (with_reducible repeat'(first|simp (disch:=omega) only[push_cast,↓zz,seval]|apply Aa|refine sp_ ?_ ?_<;>intro hc<;>push_cast at hc|omega|intro _));refine (TI_v hP ?q1 ?_:TI I 25 _ _ _ _ _)
    case q1=>rfl
    (with_reducible repeat'(first|simp (disch:=omega) only[push_cast,↓zz,seval]|apply Aa|refine sp_ ?_ ?_<;>intro hc<;>push_cast at hc|omega|intro _));refine (TI_v hP ?q2 ?_:TI I 25 _ _ _ _ _)
    case q2=>rfl
    (with_reducible repeat'(first|simp (disch:=omega) only[push_cast,↓zz,seval]|apply Aa|refine sp_ ?_ ?_<;>intro hc<;>push_cast at hc|omega|intro _));refine⟨i+1,⟨by omega,by rw[AY],rfl,rfl,rfl,?_,rfl,rfl,rfl⟩,by omega⟩;show AV.int .i64 ((nth l t).lo+(i:Int)+1)=AV.int .i64 ((nth l t).lo+((i+1:Nat):Int))
    all_goals first|rfl|(rw[AV.int.injEq];exact⟨rfl,by omega⟩)
   ·rw[hP,<-KT]
    (with_reducible repeat'(first|simp (disch:=omega) only[push_cast,↓zz,seval]|apply Aa|refine sp_ ?_ ?_<;>intro hc<;>push_cast at hc|omega|intro _));refine (TI_v hP ?q3 ?_:TI I 25 _ _ _ _ _)
    case q3=>rfl
    (with_reducible repeat'(first|simp (disch:=omega) only[push_cast,↓zz,seval]|apply Aa|refine sp_ ?_ ?_<;>intro hc<;>push_cast at hc|omega|intro _));exact⟨trivial,.inr rfl⟩
  ·refine (TI_v hP ?q4 ?_:TI I 25 _ _ _ _ _)
   case q4=>rfl
   (with_reducible repeat'(first|simp (disch:=omega) only[push_cast,↓zz,seval]|apply Aa|refine sp_ ?_ ?_<;>intro hc<;>push_cast at hc|omega|intro _));refine⟨t+1,⟨by omega,?_,rfl,rfl,rfl,?_⟩,by omega⟩
   ·first|(rw[hend];congr 2;omega)|trace_state
   all_goals first|rfl|(rw[AV.int.injEq];exact⟨rfl,by omega⟩)
 ·refine⟨trivial,.inl ?_⟩
  rw[Ay (by omega)]
theorem NP(l:List Span)(hl:l.length<=1000000000000):PC Tryz.prog 209 [Bf l] (.fn 232 [.cptr (Bf (Bv l))]):=by
 refine Cg U8 ?_;unfold NC;(with_reducible repeat'(first|simp (disch:=omega) only[push_cast,↓zz,seval]|apply Aa|refine sp_ ?_ ?_<;>intro hc<;>push_cast at hc|(have q_:=CV l hl;refine ee q_ ?_;clear q_)|(have q_:=CV l hl;refine cc q_ ?_;clear q_;(simp(disch:=omega)only[push_cast,↓zz,seval]);(fail_if_success change False))|omega|intro _))
 all_goals trace_state
def hasI(l:List Span)(x:Int):Bool:=decide (-1073741824<=x/\x<=1073741824)&&l.any λp=>decide (p.lo<=x/\x<=p.hi)
theorem QO{α:Type}[Inhabited α]{f:α->Bool}{l:List α}{k:Nat}(h:k<l.length):(l.drop k).any f=(f (nth l k)||(l.drop (k+1)).any f):=by rw[drop_at h,List.any_cons]
theorem Yw{l:List Span}{x:Int}(h:-1073741824<=x/\x<=1073741824):hasI l x=l.any λp=>decide (p.lo<=x/\x<=p.hi):=by simp[hasI,h]
theorem z85(l:List Span)(x:Int)(hl:l.length<=9223372036854775807):PC Tryz.prog 101 [Bf l,.int .i64 x] (.bool (hasI l x)):=by
 refine Cg Yi ?_;unfold Pp;(with_reducible repeat'(first|simp (disch:=omega) only[push_cast,↓zz,seval]|apply Aa|refine sp_ ?_ ?_<;>intro hc<;>push_cast at hc|omega|intro _))
 all_goals first|(rw[Db];simp[hasI];omega;done)|skip
 rw[Yw (by omega)];refine Bw (B5 (λ(i:Nat)=>i<=l.length/\(l.any λp=>decide (p.lo<=x/\x<=p.hi))=(l.drop i).any λp=>decide (p.lo<=x/\x<=p.hi)) (λi=>l.length-i) (λi=>[(1,.int .i64 x),(13,Bf l),(14,.int .i64 l.length),(15,.int .i64 i)]) (λ_=>[]) (λ_ _=>[]) 0 (by simp) ?_ ?_)
 ·(with_reducible repeat'(first|simp (disch:=omega) only[push_cast,↓zz,seval]|apply Aa|refine sp_ ?_ ?_<;>intro hc<;>push_cast at hc|omega|intro _))
 rintro i ⟨hi,ht⟩;refine W_T ?_;(with_reducible repeat'(first|simp (disch:=omega) only[push_cast,↓zz,seval]|apply Aa|refine sp_ ?_ ?_<;>intro hc<;>push_cast at hc|omega|intro _))
 ·rw[ht,QO (by omega)];simp[*]
 ·exact⟨i+1,by simp,⟨by omega,by rw[ht,QO (by omega)];simp[*]⟩,by omega⟩
 ·exact⟨i+1,by simp,⟨by omega,by rw[ht,QO (by omega)];simp[*]⟩,by omega⟩
 ·rw[ht,Ax (by omega)];rfl
theorem Td(l:List Span)(x:Int)(hl:l.length<=9223372036854775807):PC Tryz.prog 92 [Bf l,.int .i64 x] (.bool (hasI l x)):=by
 refine Cg Ux ?_;unfold N0;(with_reducible repeat'(first|simp (disch:=omega) only[push_cast,↓zz,seval]|apply Aa|refine sp_ ?_ ?_<;>intro hc<;>push_cast at hc|omega|intro _));refine Bw (B5 (λ(i:Nat)=>i<=l.length/\hasI l x=hasI (l.drop i) x) (λi=>l.length-i) (λi=>[(0,Bf l),(1,.int .i64 x),(5,.int .i64 i)]) (λ_=>[]) (λ_ _=>[]) 0 (by simp) ?_ ?_)
 ·(with_reducible repeat'(first|simp (disch:=omega) only[push_cast,↓zz,seval]|apply Aa|refine sp_ ?_ ?_<;>intro hc<;>push_cast at hc|omega|intro _))
 rintro i ⟨hi,ht⟩;rcases Ak i l.length with hil|hil
 ·have hat:hasI (l.drop i) x=(decide ((nth l i).lo<=x/\x<=(nth l i).hi/\-1073741824<=x/\x<=1073741824)||hasI (l.drop (i+1)) x):=by
   rw[drop_at hil];simp only[hasI,List.any_cons];by_cases h1:-1073741824<=x/\x<=1073741824
   ·simp[h1]
   ·first|(simp[h1];done)|(simp[h1];omega)
  rw[ht,hat];refine W_T ?_;(with_reducible repeat'(first|simp (disch:=omega) only[push_cast,↓zz,seval]|apply Aa|refine sp_ ?_ ?_<;>intro hc<;>push_cast at hc|omega|intro _))
  all_goals first
   |(rw[AO (by omega)];rfl)
   |exact⟨i+1,by simp,⟨by omega,by rw[Bb (by omega)];rfl⟩,by omega⟩
 ·rw[ht,Ax hil]
  refine W_T ?_;(with_reducible repeat'(first|simp (disch:=omega) only[push_cast,↓zz,seval]|apply Aa|refine sp_ ?_ ?_<;>intro hc<;>push_cast at hc|omega|intro _))
  all_goals simp[hasI]
abbrev intV(x:Int):AV:=.int .i64 x
theorem GP(l:List Int):AD (l.map intV)=true:=Fz (λ_=>rfl) l
def DD(l:List Int):Prop:=l.Pairwise λa b=>a<b
structure Place(l:List Int)(x:Int)(lo hi:Nat):Prop where
 le:lo<=hi
 top:hi<=l.length
 lt:∀j,j<lo->nth l j<x
 ge:∀j,hi<=j->j<l.length->x<=nth l j
theorem K1{l:List Int}(h:DD l){i j:Nat}(hij:i<j)(hj:j<l.length):nth l i<nth l j:=by
 have:=C9.1 h i j (by omega) hj hij;simpa [nth,Aq,Al hj,Al (show i<l.length by omega)] using this
theorem Yx{l:List Int}{x:Int}{lo hi:Nat}(hr:DD l)(h:Place l x lo hi)(hlt:lo<hi):
 (nth l ((lo+hi) / 2)<x->Place l x ((lo+hi) / 2+1) hi)/\(¬nth l ((lo+hi) / 2)<x->Place l x lo ((lo+hi) / 2)):=by
 have h1:=h.top;refine⟨λhx=>⟨by omega,h1,λj hj=>?_,h.ge⟩,λhx=>⟨by omega,by omega,h.lt,λj hj hjl=>?_⟩⟩
 ·rcases Ak j ((lo+hi) / 2) with hh|hh
  ·have:=K1 hr hh (by omega);omega
  ·obtain rfl:j=(lo+hi) / 2:=by omega
   exact hx
 ·rcases Ak ((lo+hi) / 2) j with hh|hh
  ·have:=K1 hr hh hjl;omega
  ·obtain rfl:j=(lo+hi) / 2:=by omega
   omega
def gapL(l:List Int)(i:Nat)(y:Int):List Int:=l.take i++y::l.drop i
theorem z86{l:List Int}{i:Nat}{y:Int}(h:i<=l.length):(gapL l i y).length=l.length+1:=by simp[gapL];omega
theorem Wy{l:List Int}{i:Nat}{y z:Int}(h:i<=l.length):((gapL l i y).map intV).set i (intV z)=(gapL l i z).map intV:=by
 rw[<-List.map_set];congr 1;simp only[gapL];rw[Dm _ _ (by rw[BJ];omega),show i-(l.take i).length=0 from by simp;omega];rfl
theorem z1u{l:List Int}{i:Nat}(h:i<l.length):gapL l (i+1) (nth l i)=gapL l i (nth l i):=by
 simp only[gapL];rw[take_at h,drop_at h];simp
theorem zfl{l:List Int}{i:Nat}{y:Int}(h:i<l.length):nth (gapL l (i+1) y) i=nth l i:=by
 simp only[gapL,nth,Aq];rw[A7 (by simp;omega),BP,Ae (by omega)]
theorem z87(l:List Int)(y:Int):gapL l l.length y=l++[y]:=by simp[gapL]
theorem z88(v:Nat)(l:List Int)(x:Int)(hr:DD l)(hl:l.length<=1000000000000){K:AV->Az->Prop}(p:Nat)(hp:Place l x p p)
 (hyes:p<l.length->nth l p=x->K (.ref 0 v 0 l.length) (Abs.hl [⟨1,v,false,l.map intV⟩]))
 (hno:(p<l.length->nth l p≠x)->K (.ref 0 (v+1) 0 (l.length+1)) (Abs.hl [⟨1,v+1,false,(l.take p++x::l.drop p).map intV⟩])) :
 B2 Tryz.prog 131 [.ref 0 v 0 l.length,.int .i64 x] (Abs.hl [⟨1,v,false,l.map intV⟩]) K:=by
 refine Gr (b:=1) U2 rfl ?_;unfold N5;(with_reducible repeat'(first|simp (disch:=omega) only[push_cast,↓zz,seval]|apply Aa|refine sp_ ?_ ?_<;>intro hc<;>push_cast at hc|omega|intro _))
 refine Bw (B5 (λ(s:Nat × Nat)=>Place l x s.1 s.2) (λs=>s.2-s.1) (λs=>[(0,.ref 0 v 0 l.length),(1,.int .i64 x),(5,.int .i64 s.1),(6,.int .i64 s.2)])
  (λ_=>[⟨1,v,false,l.map intV⟩]) (λ_ _=>[]) (0,l.length) ⟨by simp,by simp,by simp,by intro j h1 h2;simp at h1;omega⟩ ?_ ?_)
 ·(with_reducible repeat'(first|simp (disch:=omega) only[push_cast,↓zz,seval]|apply Aa|refine sp_ ?_ ?_<;>intro hc<;>push_cast at hc|omega|intro _))
 rintro⟨lo,hi⟩ hpl;have hle:=hpl.le;have htop:=hpl.top;simp only at hle htop;rcases Ak lo hi with hlh|hlh
 ·obtain⟨s1,s2⟩:=Yx hr hpl hlh
  have hm:(lo+hi) / 2<l.length:=by omega
  have hw:IntKind.i64.wrap (((lo:Int)+(hi:Int)).tdiv 2)=(((lo+hi) / 2:Nat):Int):=by
   rw[Int.tdiv_eq_ediv_of_nonneg (by omega),show ((lo:Int)+hi) / 2=(((lo+hi) / 2:Nat):Int) by omega];exact IntWalk.i64_in _ (by omega)
  refine W_T ?_;(with_reducible repeat'(first|simp (disch:=omega) only[push_cast,↓zz,seval,hw]|apply Aa|refine sp_ ?_ ?_<;>intro hc<;>push_cast at hc|omega|intro _))
  all_goals rw[show (((lo:Int)+hi) / 2).toNat=(lo+hi) / 2 by omega] at hc
  ·exact⟨((lo+hi) / 2+1,hi),⟨by simp only;omega,rfl⟩,s1 hc,by simp only;omega⟩
  ·exact⟨(lo,(lo+hi) / 2),⟨rfl,by simp only;omega⟩,s2 hc,by simp only;omega⟩
 ·have hlp:lo=p/\hi=p:=by
   have e:lo=hi:=by omega
   subst e;rcases Ej lo p with h|h|h
   ·have:=hp.lt lo h;have:=hpl.ge lo (Ad _) (by have:=hp.top;omega);omega
   ·exact⟨h,h⟩
   ·have:=hpl.lt p h;have:=hp.ge p (Ad _) (by omega);omega
  obtain⟨rfl,rfl⟩:=hlp;refine W_T ?_;(with_reducible repeat'(first|simp (disch:=omega) only[push_cast,↓zz,seval]|apply Aa|refine sp_ ?_ ?_<;>intro hc<;>push_cast at hc|omega|intro _))
  ·exact hyes (by omega) hc
  all_goals
   have hn:=hno (by first|exact λ_=>hc|exact λh=>absurd h (by omega))
   refine Bw (B5 (λ(s:Nat × Int)=>hi<=s.1/\s.1<=l.length) (λs=>s.1) (λs=>[(0,.ref 0 (v+1) 0 (l.length+1)),(1,.int .i64 x),(5,.int .i64 hi),(8,.int .i64 s.1)])
    (λs=>[⟨1,v+1,false,(gapL l s.1 s.2).map intV⟩]) (λ_ _=>[]) (l.length,0) ⟨by simp only;omega,by simp⟩ ?_ ?_)
   ·(with_reducible repeat'(first|simp (disch:=omega) only[push_cast,↓zz,seval,z87]|apply Aa|refine sp_ ?_ ?_<;>intro hc<;>push_cast at hc|omega|intro _))
   rintro⟨i,y⟩ ⟨h1,h2⟩;simp only at h1 h2;have hgl:=z86 (y:=y) h2;refine W_T ?_;rcases Ak hi i with hlt|hge
   ·obtain⟨i,rfl⟩:∃k,i=k+1:=⟨i-1,by omega⟩
    have hs:=Wy (y:=y) (z:=nth l i) h2;have ha:=zfl (y:=y) (show i<l.length by omega);rw[z1u (by omega)] at hs;(with_reducible repeat'(first|simp (disch:=omega) only[push_cast,↓zz,seval,hgl,hs,ha,GP]|apply Aa|refine sp_ ?_ ?_<;>intro hc<;>push_cast at hc|omega|intro _))
    all_goals exact⟨(i,nth l i),⟨rfl,Br _ _⟩,⟨by simp only;omega,by simp only;omega⟩,by simp only;omega⟩
   ·obtain rfl:i=hi:=by omega
    have hs:=Wy (y:=y) (z:=x) h2;(with_reducible repeat'(first|simp (disch:=omega) only[push_cast,↓zz,seval,hgl,hs]|apply Aa|refine sp_ ?_ ?_<;>intro hc<;>push_cast at hc|omega|intro _));exact hn
def putI(l:List Int)(x:Int):List Int:=if x∈l then l else l.takeWhile (λy=>decide (y<x))++x::l.dropWhile (λy=>decide (y<x))
theorem Wz{l:List Int}{x y:Int}:y∈putI l x↔y=x\/y∈l:=by
 unfold putI;split
 ·rename_i h
  constructor
  ·exact .inr
  ·rintro (rfl|h')
   ·exact h
   ·exact h'
 ·rw[Am,Af]
  conv=>rhs;rw[<-CC (p:=λy=>decide (y<x)) (l:=l),Am]
  constructor
  ·rintro (h|h|h)
   ·exact .inr (.inl h)
   ·exact .inl h
   ·exact .inr (.inr h)
  ·rintro (h|h|h)
   ·exact .inr (.inl h)
   ·exact .inl h
   ·exact .inr (.inr h)
def lowI(l:List Int)(x:Int):Nat:=(l.takeWhile λy=>decide (y<x)).length
theorem W0(l:List Int)(x:Int):l.take (lowI l x)=l.takeWhile (λy=>decide (y<x))/\l.drop (lowI l x)=l.dropWhile (λy=>decide (y<x)):=by
 have key:∀(u v:List Int),u++v=l->l.take u.length=u/\l.drop u.length=v:=λu v h=>by subst h;exact⟨List.take_left,List.drop_left⟩
 exact key _ _ (CC (p:=λy=>decide (y<x)) (l:=l))
theorem K2{l:List Int}(hr:DD l)(x:Int):Place l x (lowI l x) (lowI l x):=by
 induction l with
 |nil=>exact⟨Ad _,by simp[lowI],λj hj=>by simp[lowI] at hj,λj _ hj=>by simp at hj⟩
 |cons a l ih =>
  have hr':DD l:=(AM.1 hr).2;have hall:=(AM.1 hr).1;by_cases ha:a<x
  ·have e:lowI (a::l) x=lowI l x+1:=by simp[lowI,ha]
   have hp:=ih hr';rw[e];refine⟨Ad _,by have:=hp.top;simp;omega,λj hj=>?_,λj hj hjl=>?_⟩
   ·cases j with
    |zero=>simpa [nth] using ha
    |succ j=>have:=hp.lt j (by omega);simpa [nth] using this
   ·cases j with
    |zero=>omega
    |succ j=>have:=hp.ge j (by omega) (by simpa using hjl);simpa [nth] using this
  ·have e:lowI (a::l) x=0:=by simp[lowI,ha]
   rw[e];refine⟨Ad _,by simp,λj hj=>by omega,λj hj hjl=>?_⟩;cases j with
   |zero=>simp[nth];omega
   |succ j =>
    have hj2:j<l.length:=by simpa using hjl
    have:=hall _ (Bo hj2);have h3:nth (a::l) (j+1)=nth l j:=by simp[nth]
    rw[h3];omega
theorem z1v{l:List Int}(hr:DD l)(x:Int):x∈l↔lowI l x<l.length/\nth l (lowI l x)=x:=by
 have hp:=K2 hr x;constructor
 ·intro hx
  obtain⟨j,hj,he⟩:=B0 hx;have hn:nth l j=x:=by simp[nth,Aq,Al hj,he]
  have h1:lowI l x<=j:=by
   rcases Ak j (lowI l x) with h|h
   ·have:=hp.lt j h;omega
   ·exact h
  refine⟨by omega,?_⟩;rcases Ak (lowI l x) j with h|h
  ·have:=K1 hr h hj
   have:=hp.ge (lowI l x) (Ad _) (by omega);omega
  ·rw[show lowI l x=j by omega];exact hn
 ·rintro⟨h,he⟩
  rw[<-he];exact Bo h
theorem HV{l:List Int}(hr:DD l)(x:Int):DD (putI l x):=by
 unfold putI;split
 ·exact hr
 ·rename_i hx
  have hp:=K2 hr x;obtain⟨e1,e2⟩:=W0 l x;rw[<-e1,<-e2];have ht:DD (l.take (lowI l x)):=Ey (Fq _ _) hr;have hd:DD (l.drop (lowI l x)):=Ey (List.drop_sublist _ _) hr
  have k1:∀y∈l.take (lowI l x),y<x:=λy hy=>by
   obtain⟨j,hj,he⟩:=B0 hy;rw[List.getElem_take] at he;have hj':j<lowI l x:=by simp at hj;omega
   have hjl:j<l.length:=by simp at hj;omega
   have hn:nth l j=y:=by simp[nth,Aq,Al hjl,he]
   have:=hp.lt j hj';omega
  have k2:∀y∈l.drop (lowI l x),x<y:=λy hy=>by
   obtain⟨j,hj,he⟩:=B0 hy;rw[List.getElem_drop] at he;have hj':lowI l x+j<l.length:=by simp at hj;omega
   have hn:nth l (lowI l x+j)=y:=by simp[nth,Aq,Al hj',he]
   have:=hp.ge (lowI l x+j) (by omega) hj';have hne:y≠x:=λh=>hx (h ▸ BB hy);omega
  rw[DD,Dw,AM];refine⟨ht,⟨k2,hd⟩,λa ha b hb=>?_⟩;rcases Af.1 hb with rfl|hb
  ·exact k1 a ha
  ·have:=k1 a ha;have:=k2 b hb;omega
theorem K3(v:Nat)(l:List Int)(x:Int)(hr:DD l)(hl:l.length<=1000000000000):
 B2 Tryz.prog 131 [.ref 0 v 0 l.length,.int .i64 x] (Abs.hl [⟨1,v,false,l.map intV⟩]) λy H'=>∃v',y=.ref 0 v' 0 (putI l x).length/\H'=Abs.hl [⟨1,v',false,(putI l x).map intV⟩]:=by
 obtain⟨e1,e2⟩:=W0 l x;refine z88 v l x hr hl (lowI l x) (K2 hr x) (λh1 h2=>?_) (λh=>?_)
 ·rw[putI,Ae ((z1v hr x).2 ⟨h1,h2⟩)]
  exact⟨v,rfl,rfl⟩
 ·rw[putI,Ac (λhx=>by obtain⟨h1,h2⟩:=(z1v hr x).1 hx;exact h h1 h2),<-e1,<-e2]
  refine⟨v+1,?_,rfl⟩;congr 1;have:=(K2 hr x).top;simp;omega
def Te(l:List Int)(s:Span):List Int:=if -1073741824<s.lo/\s.lo<=1073741824 then putI l s.lo else l
def Tf(l:List Int)(s:Span):List Int:=if -1073741824<=s.hi/\s.hi<1073741824 then putI l (s.hi+1) else l
def addB(l:List Int)(s:Span):List Int:=Tf (Te l s) s
def EY(a b:List Span):List Int:=b.foldl addB (a.foldl addB [-1073741824])
theorem M6(l:List Int)(x:Int):(putI l x).length<=l.length+1:=by
 unfold putI;split
 ·omega
 ·have h:=D9 List.length (CC (p:=λy=>decide (y<x)) (l:=l))
  simp only[Ah] at h;simp only[Ah,List.length_cons];omega
theorem z89{l:List Int}(h:DD l)(s:Span):DD (Te l s)/\(Te l s).length<=l.length+1:=by
 unfold Te;split
 ·exact⟨HV h _,M6 _ _⟩
 ·exact⟨h,by omega⟩
theorem z8a{l:List Int}(h:DD l)(s:Span):DD (Tf l s)/\(Tf l s).length<=l.length+1:=by
 unfold Tf;split
 ·exact⟨HV h _,M6 _ _⟩
 ·exact⟨h,by omega⟩
theorem zfm{l:List Int}(h:DD l)(s:Span):DD (addB l s)/\(addB l s).length<=l.length+2:=by
 obtain⟨h1,h2⟩:=z89 h s;obtain⟨h3,h4⟩:=z8a h1 s;exact⟨h3,by unfold addB;omega⟩
theorem JH:∀(s:List Span){l:List Int},DD l->DD (s.foldl addB l)/\(s.foldl addB l).length<=l.length+2 * s.length
 |[],l,h=>⟨h,by simp⟩
 |x::s,l,h=>by
  obtain⟨h1,h2⟩:=zfm h x;obtain⟨h3,h4⟩:=JH s h1;exact⟨h3,by simp only[List.foldl_cons,List.length_cons];omega⟩
theorem K4(a b:List Span)(la:a.length<=10000000000)(lb:b.length<=10000000000):PC Tryz.prog 91 [Bf a,Bf b] (Mu (EY a b)):=by
 refine Cg Nz ?_;unfold I2;have r0:DD [-1073741824]:=by simp[DD]
 (with_reducible repeat'(first|simp (disch:=omega) only[push_cast,↓zz,seval]|apply Aa|refine sp_ ?_ ?_<;>intro hc<;>push_cast at hc|omega|intro _))
 refine Bw (B5 (λ(s:Nat × List Int)=>s.1=0/\s.2=[-1073741824]\/s.1=1/\s.2=a.foldl addB [-1073741824]\/s.1=2/\s.2=EY a b) (λs=>2-s.1)
  (λs=>[(0,Bf a),(1,Bf b),(5,.ref 0 1 0 s.2.length),(6,.int .i64 s.1)]) (λs=>[⟨1,1,false,s.2.map intV⟩]) (λenv _=>[Dg 1 (env 5)]) (0,[-1073741824]) (by simp) ?_ ?_)
 ·(with_reducible repeat'(first|simp (disch:=omega) only[push_cast,↓zz,seval]|apply Aa|refine sp_ ?_ ?_<;>intro hc<;>push_cast at hc|omega|intro _))
 -- one list's numbers
 have inner:∀(s:List Span)(l0:List Int),s.length<=10000000000->DD l0->l0.length<=100000000000->∀j,j<=s.length->DD ((s.take j).foldl addB l0)/\((s.take j).foldl addB l0).length<=400000000000:=λs l0 hs hr hl j hj=>by
  obtain⟨h1,h2⟩:=JH (s.take j) hr;exact⟨h1,by rw[BJ] at h2;omega⟩
 have r1:=JH a r0;rintro⟨k,l⟩ hk;rcases hk with⟨h1,h2⟩|⟨h1,h2⟩|⟨h1,h2⟩
 all_goals
  simp only at h1 h2;subst h1 h2
 ·have hin:=inner a [-1073741824] la r0 (by simp)
  refine W_T ?_;(with_reducible repeat'(first|simp (disch:=omega) only[push_cast,↓zz,seval]|apply Aa|refine sp_ ?_ ?_<;>intro hc<;>push_cast at hc|omega|intro _))
  refine Bw (B5 (λ(j:Nat)=>j<=a.length) (λj=>a.length-j) (λj=>[(0,Bf a),(1,Bf b),(5,.ref 0 1 0 ((a.take j).foldl addB [-1073741824]).length),(6,.int .i64 0),(7,Bf a),(8,.int .i64 j)])
   (λj=>[⟨1,1,false,((a.take j).foldl addB [-1073741824]).map intV⟩]) (λenv _=>[Dg 1 (env 5)]) 0 (by simp) ?_ ?_)
  ·(with_reducible repeat'(first|simp (disch:=omega) only[push_cast,↓zz,seval,GP,List.foldl_nil,List.length_singleton]|apply Aa|refine sp_ ?_ ?_<;>intro hc<;>push_cast at hc|omega|intro _))
   all_goals exact Br _ _
  intro j hj;obtain⟨g1,g2⟩:=hin j hj;rcases Ak j a.length with hja|hja
  ·have hst:(a.take (j+1)).foldl addB [-1073741824]=addB ((a.take j).foldl addB [-1073741824]) (nth a j):=by rw[take_at hja,Dn];rfl
   generalize (a.take j).foldl addB [-1073741824]=m at *;refine W_T ?_;(with_reducible repeat'(first|simp (disch:=omega) only[push_cast,↓zz,seval]|apply Aa|refine sp_ ?_ ?_<;>intro hc<;>push_cast at hc|omega|intro _))
   all_goals try (refine B2.mono (K3 1 m _ g1 (by omega)) ?_;rintro y H' ⟨v',rfl,rfl⟩;(with_reducible repeat'(first|simp (disch:=omega) only[push_cast,↓zz,seval]|apply Aa|refine sp_ ?_ ?_<;>intro hc<;>push_cast at hc|omega|intro _)))
   all_goals try (refine B2.mono (K3 v' (putI m _) _ (HV g1 _) (by have:=M6 m (nth a j).lo;omega)) ?_;rintro y H' ⟨v'',rfl,rfl⟩;(with_reducible repeat'(first|simp (disch:=omega) only[push_cast,↓zz,seval]|apply Aa|refine sp_ ?_ ?_<;>intro hc<;>push_cast at hc|omega|intro _)))
   all_goals
    refine⟨j+1,⟨⟨?_,by simp⟩,?_⟩,by omega,by omega⟩
    all_goals (rw[hst];unfold addB Te Tf;(repeat' split)<;>first|rfl|exact Br _ _|(exfalso;omega))
  ·obtain rfl:j=a.length:=by omega
   rw[AA] at *;refine W_T ?_;(with_reducible repeat'(first|simp (disch:=omega) only[push_cast,↓zz,seval]|apply Aa|refine sp_ ?_ ?_<;>intro hc<;>push_cast at hc|omega|intro _));refine⟨(0+1,a.foldl addB [-1073741824]),⟨⟨rfl,by simp⟩,Br _ _⟩,?_,by simp only;omega⟩;exact .inr (.inl ⟨rfl,rfl⟩)
 ·have hin:=inner b (a.foldl addB [-1073741824]) lb r1.1 (by have:=r1.2;simp at this;omega)
  refine W_T ?_;(with_reducible repeat'(first|simp (disch:=omega) only[push_cast,↓zz,seval]|apply Aa|refine sp_ ?_ ?_<;>intro hc<;>push_cast at hc|omega|intro _))
  refine Bw (B5 (λ(j:Nat)=>j<=b.length) (λj=>b.length-j) (λj=>[(0,Bf a),(1,Bf b),(5,.ref 0 1 0 ((b.take j).foldl addB (a.foldl addB [-1073741824])).length),(6,.int .i64 1),(7,Bf b),(8,.int .i64 j)])
   (λj=>[⟨1,1,false,((b.take j).foldl addB (a.foldl addB [-1073741824])).map intV⟩]) (λenv _=>[Dg 1 (env 5)]) 0 (by simp) ?_ ?_)
  ·(with_reducible repeat'(first|simp (disch:=omega) only[push_cast,↓zz,seval,GP,List.foldl_nil,List.length_singleton]|apply Aa|refine sp_ ?_ ?_<;>intro hc<;>push_cast at hc|omega|intro _))
   all_goals exact Br _ _
  intro j hj;obtain⟨g1,g2⟩:=hin j hj;rcases Ak j b.length with hja|hja
  ·have hst:(b.take (j+1)).foldl addB (a.foldl addB [-1073741824])=addB ((b.take j).foldl addB (a.foldl addB [-1073741824])) (nth b j):=by rw[take_at hja,Dn];rfl
   generalize (b.take j).foldl addB (a.foldl addB [-1073741824])=m at *;refine W_T ?_;(with_reducible repeat'(first|simp (disch:=omega) only[push_cast,↓zz,seval]|apply Aa|refine sp_ ?_ ?_<;>intro hc<;>push_cast at hc|omega|intro _))
   all_goals try (refine B2.mono (K3 1 m _ g1 (by omega)) ?_;rintro y H' ⟨v',rfl,rfl⟩;(with_reducible repeat'(first|simp (disch:=omega) only[push_cast,↓zz,seval]|apply Aa|refine sp_ ?_ ?_<;>intro hc<;>push_cast at hc|omega|intro _)))
   all_goals try (refine B2.mono (K3 v' (putI m _) _ (HV g1 _) (by have:=M6 m (nth b j).lo;omega)) ?_;rintro y H' ⟨v'',rfl,rfl⟩;(with_reducible repeat'(first|simp (disch:=omega) only[push_cast,↓zz,seval]|apply Aa|refine sp_ ?_ ?_<;>intro hc<;>push_cast at hc|omega|intro _)))
   all_goals
    refine⟨j+1,⟨⟨?_,by simp⟩,?_⟩,by omega,by omega⟩
    all_goals (rw[hst];unfold addB Te Tf;(repeat' split)<;>first|rfl|exact Br _ _|(exfalso;omega))
  ·obtain rfl:j=b.length:=by omega
   rw[AA] at *;refine W_T ?_;(with_reducible repeat'(first|simp (disch:=omega) only[push_cast,↓zz,seval]|apply Aa|refine sp_ ?_ ?_<;>intro hc<;>push_cast at hc|omega|intro _));refine⟨(1+1,b.foldl addB (a.foldl addB [-1073741824])),⟨⟨rfl,by simp⟩,Br _ _⟩,?_,by simp only;omega⟩;exact .inr (.inr ⟨rfl,rfl⟩)
 ·have r2:=inner b (a.foldl addB [-1073741824]) lb r1.1 (by have:=r1.2;simp at this;omega) b.length (Ad _)
  rw[AA] at r2;have r3:=r2.2;refine W_T ?_;(with_reducible repeat'(first|simp (disch:=omega) only[push_cast,↓zz,seval,GP]|apply Aa|refine sp_ ?_ ?_<;>intro hc<;>push_cast at hc|omega|intro _))
  all_goals trace_state
theorem z1w{l:List Int}{s:Span}{y:Int}:y∈Te l s↔y∈l\/(y=s.lo/\-1073741824<s.lo/\s.lo<=1073741824):=by
 unfold Te;split
 ·rename_i h;rw[Wz];constructor
  ·rintro (h1|h1)
   ·exact .inr ⟨h1,h⟩
   ·exact .inl h1
  ·rintro (h1|h1)
   ·exact .inr h1
   ·exact .inl h1.1
 ·rename_i h;exact⟨.inl,λh1=>h1.resolve_right λh2=>h h2.2⟩
theorem z1x{l:List Int}{s:Span}{y:Int}:y∈Tf l s↔y∈l\/(y=s.hi+1/\-1073741824<=s.hi/\s.hi<1073741824):=by
 unfold Tf;split
 ·rename_i h;rw[Wz];constructor
  ·rintro (h1|h1)
   ·exact .inr ⟨h1,h⟩
   ·exact .inl h1
  ·rintro (h1|h1)
   ·exact .inr h1
   ·exact .inl h1.1
 ·rename_i h;exact⟨.inl,λh1=>h1.resolve_right λh2=>h h2.2⟩
def P2(s:Span)(y:Int):Prop:=(y=s.lo/\-1073741824<s.lo/\s.lo<=1073741824)\/(y=s.hi+1/\-1073741824<=s.hi/\s.hi<1073741824)
theorem NQ:∀(s:List Span){l:List Int}{y:Int},y∈s.foldl addB l↔y∈l\/∃t∈s,P2 t y
 |[],l,y=>by simp
 |x::s,l,y=>by
  rw[List.foldl_cons,NQ s,addB,z1x,z1w];constructor
  ·rintro (((h|h)|h)|⟨t,ht,h⟩)
   ·exact .inl h
   ·exact .inr ⟨x,by simp,.inl h⟩
   ·exact .inr ⟨x,by simp,.inr h⟩
   ·exact .inr ⟨t,by simp[ht],h⟩
  ·rintro (h|⟨t,ht,h⟩)
   ·exact .inl (.inl (.inl h))
   ·rcases Af.1 ht with rfl|ht
    ·rcases h with h|h
     ·exact .inl (.inl (.inr h))
     ·exact .inl (.inr h)
    ·exact .inr ⟨t,ht,h⟩
theorem HW{a b:List Span}{y:Int}:y∈EY a b↔y=-1073741824\/(∃t∈a,P2 t y)\/∃t∈b,P2 t y:=by
 rw[EY,NQ,NQ,An,or_assoc]
theorem Hj(a b:List Span):DD (EY a b):=(JH b (JH a (by simp[DD])).1).1
theorem NR{s:Span}{y:Int}(h:P2 s y):-1073741824<y/\y<=1073741824:=by
 unfold P2 at h;omega
theorem Hk{a b:List Span}:∀y∈EY a b,-1073741824<=y/\y<=1073741824:=λy hy=>by
 rcases HW.1 hy with rfl|⟨t,_,h⟩|⟨t,_,h⟩
 ·omega
 ·have:=NR h;omega
 ·have:=NR h;omega
theorem Tg(a b:List Span):∃r,EY a b=-1073741824::r:=by
 have h1:(-1073741824:Int)∈EY a b:=HW.2 (.inl rfl);have h2:=Hj a b;have h3:=Hk (a:=a) (b:=b);cases hb:EY a b with
 |nil=>rw[hb] at h1;cases h1
 |cons x r =>
  rw[hb] at h1 h2 h3;rcases Af.1 h1 with h|h
  ·exact⟨r,by rw[h]⟩
  ·have:=(AM.1 h2).1 _ h
   have:=h3 x (by simp);omega
theorem GY{l:List Span}{x:Int}:hasI l x=true ↔ -1073741824<=x/\x<=1073741824/\memL l x:=by
 simp only[hasI,Ab,Ai,Ci,memL,and_assoc]
theorem P3{s:List Span}{x v:Int}(hx:-1073741824<=x)(hxv:x<=v)(hv:v<=1073741824)(h:∀t∈s,∀y,P2 t y->y<=x\/v<y):hasI s v=hasI s x:=by
 rw[Db,GY,GY]
 have key:memL s v↔memL s x:=by
  constructor
  ·rintro⟨t,ht,h1,h2⟩
   refine⟨t,ht,?_,by omega⟩;rcases D3 x t.lo with hlt|hle
   ·have:=h t ht t.lo (.inl ⟨rfl,by omega,by omega⟩);omega
   ·exact hle
  ·rintro⟨t,ht,h1,h2⟩
   refine⟨t,ht,by omega,?_⟩;rcases D3 t.hi v with hlt|hle
   ·have:=h t ht (t.hi+1) (.inr ⟨rfl,by omega,by omega⟩);omega
   ·exact hle
 rw[key];constructor
 ·rintro⟨_,_,h⟩;exact⟨hx,by omega,h⟩
 ·rintro⟨_,_,h⟩;exact⟨by omega,hv,h⟩
def addS(out:List Span)(s:Span):List Span :=
 match out.getLast? with
 |some y=>if y.hi=s.lo-1 then out.dropLast++[⟨y.lo,s.hi⟩] else out++[s]
 |none=>[s]
theorem HX(x:Span):addS [] x=[x]:=rfl
theorem K5(out:List Span)(y x:Span):addS (out++[y]) x=if y.hi=x.lo-1 then out++[⟨y.lo,x.hi⟩] else out++[y]++[x]:=by
 simp[addS]
def Yy(l:List Span)(f:Int):Prop:=∀s∈l,s.hi<f
theorem Yz{out:List Span}{x:Span}(h:Plain out)(hx:x.lo<=x.hi)(hb:Yy out x.lo):Plain (addS out x)/\Yy (addS out x) (x.hi+1)/\∀v,memL (addS out x) v↔memL out v\/(x.lo<=v/\v<=x.hi):=by
 rcases FO out with rfl|⟨m,y,rfl⟩
 ·refine⟨⟨by simp[HX,hx],by simp[HX]⟩,by simp[HX,Yy];omega,λv=>?_⟩
  rw[HX,Bs];constructor
  ·rintro (h|h)
   ·exact .inr h
   ·exact absurd h (BZ _)
  ·rintro (h|h)
   ·exact absurd h (BZ _)
   ·exact .inl h
 ·rw[K5]
  obtain⟨h1,h2,h3⟩:=GB.1 h;have hy:y.hi<x.lo:=hb y (by simp);have hm:∀s∈m,s.hi<x.lo:=λs hs=>hb s (by simp[hs]);split
  ·rename_i he
   refine⟨GB.2 ⟨h1,by simp only;omega,λs hs=>h3 s hs⟩,?_,λv=>?_⟩
   ·intro s hs
    rcases Am.1 hs with hs|hs
    ·have:=hm s hs;omega
    ·simp only[An] at hs;subst hs;simp only;omega
   ·rw[Fi,Fi,Bs,Bs]
    simp only[BZ,Ar];constructor
    ·rintro (h|h)
     ·exact .inl (.inl h)
     ·by_cases hv:v<=y.hi
      ·exact .inl (.inr ⟨h.1,hv⟩)
      ·exact .inr ⟨by omega,by omega⟩
    ·rintro ((h|h)|h)
     ·exact .inl h
     ·exact .inr ⟨h.1,by omega⟩
     ·exact .inr ⟨by omega,by omega⟩
  ·rename_i he
   refine⟨GB.2 ⟨h,hx,λs hs=>?_⟩,?_,λv=>?_⟩
   ·rcases Am.1 hs with hs|hs
    ·have:=h3 s hs;omega
    ·simp only[An] at hs;subst hs;omega
   ·intro s hs
    rcases Am.1 hs with hs|hs
    ·have:=hb s hs;omega
    ·simp only[An] at hs;subst hs;omega
   ·rw[Fi,Bs]
    simp only[BZ,Ar]
def toI:List Int->Int
 |[]=>1073741824
 |y::_=>y-1
def Lt(p:Int->Bool):List Int->List Span->List Span
 |[],out=>out
 |x::r,out=>Lt p r (if p x then addS out ⟨x,toI r⟩ else out)
def z8b(p:Int->Bool):List Int->Prop
 |[]=>True
 |x::r=>(∀v,x<=v->v<=toI r->p v=p x)/\z8b p r
theorem Y0{l:List Span}{f g:Int}(h:Yy l f)(hg:f<=g):Yy l g:=λs hs=>by have:=h s hs;omega
theorem NS(p:Int->Bool):∀(l:List Int)(out:List Span)(f:Int),DD l->(∀x∈l,x<=1073741824)->(f=toI l+1)->z8b p l->Plain out->Yy out f ->
 Plain (Lt p l out)/\∀v,memL (Lt p l out) v↔memL out v\/(f<=v/\v<=1073741824/\p v=true)
 |[],out,f,_,_,hf,_,ho,_=>⟨ho,λv=>by
  simp only[toI] at hf
  exact⟨.inl,λh=>h.resolve_right λh=>by omega⟩⟩
 |x::r,out,f,hr,hm,hf,hs,ho,ha=>by
  have hx:=hm x (by simp);have hfx:f=x:=by rw[hf,toI];omega
  subst hfx
  have hto:f<=toI r:=by
   cases r with
   |nil=>simpa [toI] using hx
   |cons y r=>have:=(AM.1 hr).1 y (by simp);simp only[toI];omega
  have hr':DD r:=(AM.1 hr).2;rw[Lt];by_cases hp:p f=true
  ·rw[Ae hp]
   obtain⟨a1,a2,a3⟩:=Yz (x:=⟨f,toI r⟩) ho hto ha;obtain⟨b1,b2⟩:=NS p r _ (toI r+1) hr' (λy hy=>hm y (by simp[hy])) rfl hs.2 a1 a2;refine⟨b1,λv=>?_⟩;rw[b2 v,a3 v];constructor
   ·rintro ((h|h)|h)
    ·exact .inl h
    ·refine .inr ⟨h.1,?_,by rw[hs.1 v h.1 h.2];exact hp⟩
     have:toI r<=1073741824:=by
      cases r with
      |nil=>simp[toI]
      |cons y r=>have:=hm y (by simp);simp only[toI];omega
     have:=h.2;simp only at this;omega
    ·exact .inr ⟨by omega,h.2⟩
   ·rintro (h|h)
    ·exact .inl (.inl h)
    ·rcases D3 (toI r) v with hlt|hle
     ·exact .inr ⟨by omega,h.2⟩
     ·exact .inl (.inr ⟨h.1,hle⟩)
  ·rw[Ac hp]
   obtain⟨b1,b2⟩:=NS p r out (toI r+1) hr' (λy hy=>hm y (by simp[hy])) rfl hs.2 ho (Y0 ha (by omega));refine⟨b1,λv=>?_⟩;rw[b2 v];constructor
   ·rintro (h|h)
    ·exact .inl h
    ·exact .inr ⟨by omega,h.2⟩
   ·rintro (h|h)
    ·exact .inl h
    ·rcases D3 (toI r) v with hlt|hle
     ·exact .inr ⟨by omega,h.2⟩
     ·exact absurd ((hs.1 v h.1 hle).symm.trans h.2.2) hp
theorem zbc{p:Int->Bool}:∀(l pre:List Int),DD (pre++l)->(∀x∈l,-1073741824<=x/\x<=1073741824)->(∀x v,-1073741824<=x->x<=v->v<=1073741824->(∀y∈pre++l,y<=x\/v<y)->p v=p x)->z8b p l
 |[],_,_,_,_=>trivial
 |x::r,pre,hr,hm,h=>by
  refine⟨λv h1 h2=>?_,zbc r (pre++[x]) (by simpa using hr) (λy hy=>hm y (by simp[hy])) (by simpa using h)⟩;obtain⟨p1,p2,p3⟩:=Dw.1 hr;have hx:=hm x (by simp)
  have hto:toI r<=1073741824:=by
   cases r with
   |nil=>simp[toI]
   |cons y r=>have:=hm y (by simp);simp only[toI];omega
  refine h x v hx.1 h1 (by omega) λy hy=>?_;rcases Am.1 hy with hy|hy
  ·exact .inl (Int.le_of_lt (p3 y hy x (by simp)))
  ·rcases Af.1 hy with rfl|hy
   ·exact .inl (BD _)
   ·right
    cases r with
    |nil=>cases hy
    |cons z r =>
     simp only[toI] at h2;rcases Af.1 hy with rfl|hy
     ·omega
     ·have:=(AM.1 (AM.1 p2).2).1 y hy;omega
def howB(h:Int)(x y:Bool):Bool:=if h=2 then x&&!y else if h=1 then x&&y else x||y
def QP(a b:List Span)(h:Int):List Span:=Lt (λv=>howB h (hasI a v) (hasI b v)) (EY a b) []
theorem IX(a b:List Span)(h:Int):Plain (QP a b h)/\∀v,memL (QP a b h) v ↔ -1073741824<=v/\v<=1073741824/\howB h (hasI a v) (hasI b v)=true:=by
 obtain⟨r,hr⟩:=Tg a b;have hbo:=Hk (a:=a) (b:=b);have hri:=Hj a b
 have hseg:z8b (λv=>howB h (hasI a v) (hasI b v)) (EY a b):=zbc _ [] hri hbo λx v h1 h2 h3 h4=>by
  simp only[List.nil_append] at h4;have e1:hasI a v=hasI a x:=P3 h1 h2 h3 λt ht y hy=>h4 y (HW.2 (.inr (.inl ⟨t,ht,hy⟩)));have e2:hasI b v=hasI b x:=P3 h1 h2 h3 λt ht y hy=>h4 y (HW.2 (.inr (.inr ⟨t,ht,hy⟩)));simp only[e1,e2]
 obtain⟨k1,k2⟩:=NS _ (EY a b) [] (-1073741824) hri (λx hx=>(hbo x hx).2) (by rw[hr];simp[toI]) hseg ⟨by simp,by simp⟩ (λs hs=>by cases hs);refine⟨k1,λv=>?_⟩;rw[QP,k2 v];simp only[BZ,B7]
theorem Y1(l:List Span):QP l [] 0=Bv l:=by
 obtain⟨a1,a2⟩:=IX l [] 0;obtain⟨b1,b2⟩:=By l;refine GN a1 b1 λv=>?_;rw[a2 v,b2 v];have:hasI [] v=false:=by simp[hasI]
 simp only[howB,this,DI];rw[Ac (by decide),Ac (by decide),GY];constructor
 ·rintro⟨h1,h2,_,_,h3⟩;exact⟨h3,h1,h2⟩
 ·rintro⟨h3,h1,h2⟩;exact⟨h1,h2,h1,h2,h3⟩
theorem Y2(a b:List Span):QP a b 1=FM (Bv a) (Bv b):=by
 obtain⟨a1,a2⟩:=IX a b 1;obtain⟨p1,p2⟩:=By a;obtain⟨q1,q2⟩:=By b;obtain⟨b1,b2⟩:=I7 _ _ p1 q1;refine GN a1 b1 λv=>?_;rw[a2 v,b2 v,p2 v,q2 v];simp only[howB];rw[Ac (by decide),Ae trivial,Ab,GY,GY];constructor
 ·rintro⟨h1,h2,⟨_,_,h3⟩,_,_,h4⟩;exact⟨⟨h3,h1,h2⟩,h4,h1,h2⟩
 ·rintro⟨⟨h3,h1,h2⟩,h4,_,_⟩;exact⟨h1,h2,⟨h1,h2,h3⟩,h1,h2,h4⟩
theorem P4(a b:List Span):QP a b 2=Er a b:=by
 obtain⟨a1,a2⟩:=IX a b 2;obtain⟨b1,b2⟩:=Ls a b;refine GN a1 b1 λv=>?_;rw[a2 v,b2 v];simp only[howB];rw[Ae trivial,Ab,GY,AQ,<-Bool.not_eq_true,GY];constructor
 ·rintro⟨h1,h2,⟨_,_,h3⟩,h4⟩;exact⟨h3,⟨h1,h2⟩,λh=>h4 ⟨h1,h2,h⟩⟩
 ·rintro⟨h3,⟨h1,h2⟩,h4⟩;exact⟨h1,h2,⟨h1,h2,h3⟩,λh=>h4 h.2.2⟩
theorem Mj{α:Type}{f:α->AV}{m:List α}{y z:α}:((m++[y]).map f).set m.length (f z)=(m++[z]).map f:=by simp
theorem W2{α:Type}[Inhabited α]{m:List α}{y:α}:nth (m++[y]) m.length=y:=by simp[nth,Aq]
theorem zk5{l:List Int}{i:Nat}(h:i<l.length):toI (l.drop (i+1))=if i+1<l.length then nth l (i+1)-1 else 1073741824:=by
 split
 ·rename_i h1;rw[drop_at h1];rfl
 ·rename_i h1;rw[Ax (by omega)];rfl
set_option maxHeartbeats 4000000 in
theorem Lu(a b:List Span)(h:Int)(la:a.length<=10000000000)(lb:b.length<=10000000000):PC Tryz.prog 50 [Bf a,Bf b,.int .i64 h] (Bf (QP a b h)):=by
 refine Cg Sy ?_;unfold LJ;(with_reducible repeat'(first|simp (disch:=omega) only[push_cast,↓zz,seval]|apply Aa|refine sp_ ?_ ?_<;>intro hc<;>push_cast at hc|(have q_:=K4 a b la lb;refine ee q_ ?_;clear q_)|(have q_:=K4 a b la lb;refine cc q_ ?_;clear q_;(simp(disch:=omega)only[push_cast,↓zz,seval]);(fail_if_success change False))|omega|intro _));have hri:=Hj a b;have hbo:=Hk (a:=a) (b:=b)
 have hlen:(EY a b).length<=100000000000:=by
  have h1:=JH a (l:=[-1073741824]) (by simp[DD]);have h2:=JH b h1.1;have h3:=h1.2;have h4:=h2.2;simp only[List.length_singleton] at h3;unfold EY;omega
 rw[QP];generalize EY a b=l at *;have hp:∀v,(λv=>howB h (hasI a v) (hasI b v)) v=howB h (hasI a v) (hasI b v):=λ_=>rfl;generalize (λv=>howB h (hasI a v) (hasI b v))=p at *
 refine Bw (B5 (λ(s:Nat × List Span)=>s.1<=l.length/\s.2.length<=s.1/\(∀t∈s.2,-1073741824<=t.hi/\t.hi<=1073741824)/\Lt p l []=Lt p (l.drop s.1) s.2) (λs=>l.length-s.1)
  (λs=>[(0,Bf a),(1,Bf b),(2,.int .i64 h),(7,.ref 0 1 0 s.2.length),(8,Mu l),(9,.int .i64 s.1)]) (λs=>[⟨2,1,false,s.2.map Cz⟩]) (λenv _=>[Dg 2 (env 7)]) (0,[]) (by simp) ?_ ?_)
 ·(with_reducible repeat'(first|simp (disch:=omega) only[push_cast,↓zz,seval,GP]|apply Aa|refine sp_ ?_ ?_<;>intro hc<;>push_cast at hc|omega|intro _))
 rintro⟨i,out⟩ ⟨h1,h2,h3,h4⟩;simp only at h1 h2 h3 h4;rcases Ak i l.length with hi|hi
 ·rw[drop_at hi,Lt,zk5 hi,hp] at h4
  have hx:=hbo _ (Bo hi);have hA:=Td a (nth l i) (by omega);have hB:=Td b (nth l i) (by omega);have q2:h=2->howB h (hasI a (nth l i)) (hasI b (nth l i))=(hasI a (nth l i)&&!hasI b (nth l i)):=λe=>by rw[howB,Ae e]
  have q1:¬h=2->h=1->howB h (hasI a (nth l i)) (hasI b (nth l i))=(hasI a (nth l i)&&hasI b (nth l i)):=λe1 e2=>by rw[howB,Ac e1,Ae e2]
  have q0:¬h=2->¬h=1->howB h (hasI a (nth l i)) (hasI b (nth l i))=(hasI a (nth l i)||hasI b (nth l i)):=λe1 e2=>by rw[howB,Ac e1,Ac e2]
  generalize howB h (hasI a (nth l i)) (hasI b (nth l i))=q at *;generalize hasI a (nth l i)=x at *;generalize hasI b (nth l i)=y at *
  have hto:(if i+1<l.length then nth l (i+1)-1 else 1073741824)<=1073741824/\-1073741824<=(if i+1<l.length then nth l (i+1)-1 else 1073741824):=by
   split
   ·rename_i h5;have h6:=hbo _ (Bo h5);have h7:=K1 hri (Nat.lt_succ_self i) h5;simp only[Nat.succ_eq_add_one] at h7;omega
   ·omega
  have hw1:∀v,-1073741824<=v/\v<=1073741824->IntKind.i64.wrap (v-1)=v-1:=λv hv=>IntWalk.i64_in _ (by omega);have hw2:=hw1 _ hx;have hw3:i+1<l.length->IntKind.i64.wrap (nth l (i+1)-1)=nth l (i+1)-1:=λh5=>hw1 _ (hbo _ (Bo h5))
  have hlast:∀(m:List Span)(z:Span),m++[z]=out->out.length=m.length+1/\nth out m.length=z/\IntKind.i64.wrap (m.length:Int)=m.length/\(∀e:Int,(out.map Cz).set m.length (.agg [.int .i64 z.lo,.int .i64 e])=(m++[(⟨z.lo,e⟩:Span)]).map Cz):=λm z e=>by
   subst e;exact⟨by simp,W2,IntWalk.i64_in _ (by simp at h2;omega),λe=>Mj (f:=Cz) (z:=⟨z.lo,e⟩)⟩
  have hends:∀(H:List Grp)(out':List Span)(n:Nat)(xs:List AV),n=out'.length->leSL H xs (out'.map Cz)->out'.length<=i+1->(∀t∈out',-1073741824<=t.hi/\t.hi<=1073741824)->Lt p l []=Lt p (l.drop (i+1)) out' ->
   ∃s':Nat × List Span,((n=s'.2.length/\(i:Int)+1=s'.1)/\leSL H xs (s'.2.map Cz))/\(s'.1<=l.length/\s'.2.length<=s'.1/\(∀t∈s'.2,-1073741824<=t.hi/\t.hi<=1073741824)/\Lt p l []=Lt p (l.drop s'.1) s'.2)/\l.length-s'.1<l.length-i :=
   λH out' n xs k1 k2 k3 k4 k5=>⟨(i+1,out'),⟨⟨k1,by simp⟩,k2⟩,⟨by simp only;omega,k3,k4,k5⟩,by simp only;omega⟩
  obtain⟨c1,c2,d1,d2,hcase⟩:∃c1 c2,decide (h=1)=c1/\decide (h=2)=c2/\((c1=false/\c2=true/\q=(x&&!y))\/(c1=true/\c2=false/\q=(x&&y))\/(c1=false/\c2=false/\q=(x||y))):=by
   by_cases e2:h=2
   ·exact⟨false,true,by rw[e2];rfl,by rw[e2];rfl,.inl ⟨rfl,rfl,q2 e2⟩⟩
   ·by_cases e1:h=1
    ·exact⟨true,false,by rw[e1];rfl,by rw[e1];rfl,.inr (.inl ⟨rfl,rfl,q1 e2 e1⟩)⟩
    ·exact⟨false,false,by simp[e1],by simp[e2],.inr (.inr ⟨rfl,rfl,q0 e2 e1⟩)⟩
  clear q0 q1 q2;rcases FO out with rfl|⟨m,z,hout⟩
  ·clear hlast
   rcases hcase with⟨rfl,rfl,rfl⟩|⟨rfl,rfl,rfl⟩|⟨rfl,rfl,rfl⟩
   all_goals
    cases x<;>cases y
    all_goals
     refine W_T ?_;(with_reducible repeat'(first|simp (disch:=omega) only[push_cast,↓zz,seval,hw2,d1,d2]|apply Aa|refine sp_ ?_ ?_<;>intro hc<;>push_cast at hc|refine ee hA ?_|refine ee hB ?_|((first|refine cc hA ?_|refine cc hB ?_);(simp(disch:=omega)only[push_cast,↓zz,seval,hw2,d1,d2]);(fail_if_success change False))|omega|intro _))
    all_goals first
     |exact⟨(i+1,[]),⟨⟨rfl,by simp⟩,rfl⟩,⟨by simp only;omega,by simp,by simp,h4⟩,by simp only;omega⟩
     |(rw[Ae (show i+1<l.length by omega)] at h4 hto
       exact hends _ [⟨nth l i,nth l (i+1)-1⟩] _ _ rfl (Br _ _) (by simp) (by simp;omega) h4)
     |(rw[Ac (show ¬i+1<l.length by omega)] at h4
       exact hends _ [⟨nth l i,1073741824⟩] _ _ rfl (Br _ _) (by simp) (by simp) h4)
  ·obtain⟨l1,l2,l3,l4⟩:=hlast m z hout.symm
   have hz:=h3 z (by rw[hout];simp);have h3':∀t∈m,-1073741824<=t.hi/\t.hi<=1073741824:=λt ht=>h3 t (by rw[hout];simp[ht]);have hadd:∀e:Int,addS out ⟨nth l i,e⟩=if z.hi=nth l i-1 then m++[⟨z.lo,e⟩] else out++[⟨nth l i,e⟩]:=λe=>by rw[hout,K5]
   rw[hadd] at h4;clear hout hadd hlast;rcases hcase with⟨rfl,rfl,rfl⟩|⟨rfl,rfl,rfl⟩|⟨rfl,rfl,rfl⟩
   all_goals
    cases x<;>cases y
    all_goals
     refine W_T ?_;(with_reducible repeat'(first|simp (disch:=omega) only[push_cast,↓zz,seval,hw2,d1,d2,l1,l2,l3,l4]|apply Aa|refine sp_ ?_ ?_<;>intro hc<;>push_cast at hc|refine ee hA ?_|refine ee hB ?_|((first|refine cc hA ?_|refine cc hB ?_);(simp(disch:=omega)only[push_cast,↓zz,seval,hw2,d1,d2,l1,l2,l3,l4]);(fail_if_success change False))|omega|intro _))
    all_goals first
     |exact hends _ out _ _ (by omega) (Br _ _) (by omega) h3 h4
     |(rw[Ae (show i+1<l.length by omega),Ae (show z.hi=nth l i-1 by omega)] at h4
       rw[Ae (show i+1<l.length by omega)] at hto
       exact hends _ (m++[⟨z.lo,nth l (i+1)-1⟩]) _ _ (by simp) (by rw[Ao];exact Br _ _) (by simp;omega) (λt ht=>by rcases Am.1 ht with ht|ht;exact h3' t ht;simp only[An] at ht;subst ht;exact⟨hto.2,hto.1⟩) h4)
     |(rw[Ae (show i+1<l.length by omega),Ac (show ¬z.hi=nth l i-1 by omega)] at h4
       rw[Ae (show i+1<l.length by omega)] at hto
       exact hends _ (out++[⟨nth l i,nth l (i+1)-1⟩]) _ _ (by simp[l1]) (by rw[Ao];exact Br _ _) (by simp;omega) (λt ht=>by rcases Am.1 ht with ht|ht;exact h3 t ht;simp only[An] at ht;subst ht;exact⟨hto.2,hto.1⟩) h4)
     |(rw[Ac (show ¬i+1<l.length by omega),Ae (show z.hi=nth l i-1 by omega)] at h4
       rw[Ac (show ¬i+1<l.length by omega)] at hto
       exact hends _ (m++[⟨z.lo,1073741824⟩]) _ _ (by simp) (by rw[Ao];exact Br _ _) (by simp;omega) (λt ht=>by rcases Am.1 ht with ht|ht;exact h3' t ht;simp only[An] at ht;subst ht;exact⟨hto.2,hto.1⟩) h4)
     |(rw[Ac (show ¬i+1<l.length by omega),Ac (show ¬z.hi=nth l i-1 by omega)] at h4
       rw[Ac (show ¬i+1<l.length by omega)] at hto
       exact hends _ (out++[⟨nth l i,1073741824⟩]) _ _ (by simp[l1]) (by rw[Ao];exact Br _ _) (by simp;omega) (λt ht=>by rcases Am.1 ht with ht|ht;exact h3 t ht;simp only[An] at ht;subst ht;exact⟨hto.2,hto.1⟩) h4)
 ·rw[Ax hi,Lt] at h4
  rw[h4];refine W_T ?_;(with_reducible repeat'(first|simp (disch:=omega) only[push_cast,↓zz,seval]|apply Aa|refine sp_ ?_ ?_<;>intro hc<;>push_cast at hc|omega|intro _))
  all_goals trace_state
theorem Lv(l:List Span)(hl:l.length<=10000000000):PC Tryz.prog 90 [Bf l] (Bf (Bv l)):=by
 have h:=Lu l [] 0 hl (by simp);rw[Y1] at h;have h2:PC Tryz.prog 50 [Bf l,.nilS,.int .i64 0] (Bf (Bv l)):=Iw h (Bl (AV.le_refl _) (Bl (AV.le_nilS (by decide)) (Bl (AV.le_refl _) Ee)));refine Cg SA ?_;unfold LO;(with_reducible repeat'(first|simp (disch:=omega) only[push_cast,↓zz,seval]|apply Aa|refine sp_ ?_ ?_<;>intro hc<;>push_cast at hc|refine ee h2 ?_|(refine cc h2 ?_;(simp(disch:=omega)only[push_cast,↓zz,seval]);(fail_if_success change False))|omega|intro _))
 all_goals trace_state
theorem Ti{l m:List Span}{k:Nat}(h1:k<l.length)(h2:k<m.length):decide (l.drop k=m.drop k)=(decide (nth l k=nth m k)&&decide (l.drop (k+1)=m.drop (k+1))):=by
 rw[drop_at h1,drop_at h2];simp
theorem UI(p q:Span):(decide (p.lo=q.lo)&&decide (p.hi=q.hi))=decide (p=q):=by
 cases p;cases q;simp
theorem Y3(a b:List Span)(hl:a.length<=1000000000000):PC Tryz.prog 89 [Bf a,Bf b] (.bool (decide (a=b))):=by
 refine Cg S8 ?_;unfold LN;(with_reducible repeat'(first|simp (disch:=omega) only[push_cast,↓zz,seval]|apply Aa|refine sp_ ?_ ?_<;>intro hc<;>push_cast at hc|omega|intro _))
 ·have:a≠b:=by intro h;subst h;first|omega|simp_all
  simp[this]
 refine Bw (B5 (λ(k:Nat)=>k<=a.length/\decide (a=b)=decide (a.drop k=b.drop k)) (λk=>a.length-k)
  (λk=>[(0,Bf a),(1,Bf b),(5,.int .i64 k)]) (λs=>[]) (λenv _=>[]) 0 (by simp) ?_ ?_)
 ·(with_reducible repeat'(first|simp (disch:=omega) only[push_cast,↓zz,seval]|apply Aa|refine sp_ ?_ ?_<;>intro hc<;>push_cast at hc|omega|intro _))
 rintro k ⟨hk,hr⟩;refine W_T ?_;(with_reducible repeat'(first|simp (disch:=omega) only[push_cast,↓zz,seval,UI]|apply Aa|refine sp_ ?_ ?_<;>intro hc<;>push_cast at hc|omega|intro _))
 ·rw[hr,Ti (by omega) (by omega)];simp[*]
 ·refine⟨k+1,?_⟩
  (with_reducible repeat'(first|simp (disch:=omega) only[push_cast,↓zz,seval]|apply Aa|refine sp_ ?_ ?_<;>intro hc<;>push_cast at hc|omega|intro _));rw[hr,Ti (by omega) (by omega)];simp[*]
 ·rw[hr,Ax (by omega),Ax (by omega)];simp
def symI(l:List Span):List Span:=QP l [⟨0,1114111⟩] 1
theorem P5(s:Span)(l:List Span):F1 (s::l)=QN s.lo (s.hi+1-s.lo).toNat++F1 l:=rfl
theorem z8c(x:Int):hasI [⟨0,1114111⟩] x=decide (0<=x/\x<=1114111):=by
 simp only[hasI,List.any_cons,List.any_nil,DI];by_cases h:0<=x/\x<=1114111
 ·simp[h];omega
 ·simp[h]
theorem K6(l:List Span):Plain (symI l)/\∀v,memL (symI l) v↔(0<=v/\v<=1114111)/\memL l v:=by
 obtain⟨h1,h2⟩:=IX l [⟨0,1114111⟩] 1;refine⟨h1,λv=>?_⟩;rw[symI,h2 v,z8c];simp only[howB];rw[Ac (by decide),Ae trivial,Ab,GY,Ai];constructor
 ·rintro⟨a,b,⟨_,_,c⟩,d⟩;exact⟨d,c⟩
 ·rintro⟨d,c⟩;exact⟨by omega,by omega,⟨by omega,by omega,c⟩,d⟩
def Syms(l:List Span):Prop:=Plain l/\∀s∈l,0<=s.lo/\s.lo<=s.hi/\s.hi<=1114111
theorem UJ{l:List Span}(h1:Plain l)(h2:∀v,memL l v->0<=v/\v<=1114111):Syms l :=
 ⟨h1,λs hs=>by
  have hle:=h1.1 s hs;have:=h2 s.lo ⟨s,hs,BD _,hle⟩;have:=h2 s.hi ⟨s,hs,hle,BD _⟩
  omega⟩
theorem Tj(l:List Span):Syms (symI l):=UJ (K6 l).1 λv hv=>(((K6 l).2 v).1 hv).1
theorem W3:∀{l:List Span}{f:Nat},Plain l->(∀s∈l,(f:Int)<=s.lo/\s.hi<=1114111)->f<=1114112->l.length+f<=1114112
 |[],f,_,_,hf=>by simpa using hf
 |s::l,f,h,hb,hf=>by
  have h1:=hb s (by simp);have h2:=h.head
  have:=W3 (l:=l) (f:=(s.hi+1).toNat) h.tail (λt ht=>by
   have:=(AM.1 h.2).1 t ht;have:=hb t (by simp[ht])
   omega) (by omega)
  simp only[List.length_cons];omega
theorem Syms.len{l:List Span}(h:Syms l):l.length<=1114112:=by
 have:=W3 (f:=0) h.1 (λs hs=>by have:=h.2 s hs;simp only[Int.ofNat_zero];omega) (by omega);omega
theorem Tk:PC Tryz.prog 207 [] (Bf [⟨0,1114111⟩]):=by
 refine Cg OB ?_;unfold Jn;(with_reducible repeat'(first|simp (disch:=omega) only[push_cast,↓zz,seval]|apply Aa|refine sp_ ?_ ?_<;>intro hc<;>push_cast at hc|omega|intro _))
def Tl(l:List Span):Option Int:=match l with
 |[]=>none
 |s::_=>some s.lo
def UK(l:List Span):Option Int:=l.getLast?.map (·.hi)
abbrev optI(o:Option Int):AV:=.tup [.int .i64 (o.getD 0),.bool o.isSome]
theorem Y4(l:List Span)(hl:l.length<=1000000000000):PC Tryz.prog 231 [Bf l] (optI (Tl (Bv l))):=by
 refine Cg SU ?_;unfold Mi;(with_reducible repeat'(first|simp (disch:=omega) only[push_cast,↓zz,seval]|apply Aa|refine sp_ ?_ ?_<;>intro hc<;>push_cast at hc|(have q_:=CV l hl;refine ee q_ ?_;clear q_)|(have q_:=CV l hl;refine cc q_ ?_;clear q_;(simp(disch:=omega)only[push_cast,↓zz,seval]);(fail_if_success change False))|omega|intro _))
 ·have h0:Bv l=[]:=Av (by omega)
  rw[h0];(repeat'(first|(simp(disch:=omega)only[push_cast,↓zz,seval,DC,Tl,Option.getD_none,Option.isSome_none])|omega|(with_reducible refine Aa ?_ ?_)))
 ·cases hn:Bv l with
  |nil=>exact absurd (by rw[hn];rfl) hc
  |cons s r =>
   (repeat'(first|(simp(disch:=omega)only[push_cast,↓zz,seval,DC,Tl,Option.getD_some,Option.isSome_some])|omega|(with_reducible refine Aa ?_ ?_)))
   all_goals simp[nth]
theorem z1y(l:List Span)(hl:l.length<=1000000000000):PC Tryz.prog 196 [Bf l] (optI (UK (Bv l))):=by
 refine Cg U7 ?_;unfold NB;have hn:=Ep l;(with_reducible repeat'(first|simp (disch:=omega) only[push_cast,↓zz,seval]|apply Aa|refine sp_ ?_ ?_<;>intro hc<;>push_cast at hc|(have q_:=CV l hl;refine ee q_ ?_;clear q_)|(have q_:=CV l hl;refine cc q_ ?_;clear q_;(simp(disch:=omega)only[push_cast,↓zz,seval]);(fail_if_success change False))|omega|intro _))
 ·have h0:Bv l=[]:=Av (by omega)
  rw[h0];(repeat'(first|(simp(disch:=omega)only[push_cast,↓zz,seval,DC,UK,List.getLast?_nil,Option.map_none,Option.getD_none,Option.isSome_none])|omega|(with_reducible refine Aa ?_ ?_)))
 ·rcases FO (Bv l) with h0|⟨m,z,h0⟩
  ·exact absurd (by rw[h0];rfl) hc
  ·have e:((Bv l).length:Int)-1=(m.length:Int):=by rw[h0];simp
   have e2:nth (Bv l) m.length=z:=by rw[h0];simp[nth,Aq]
   rw[show UK (Bv l)=some z.hi by rw[h0];simp[UK]];(repeat'(first|(simp(disch:=omega)only[push_cast,↓zz,seval,DC,Option.getD_some,Option.isSome_some,e,e2])|omega|(with_reducible refine Aa ?_ ?_)))
   all_goals (rw[show (Bv l).length-1=m.length by rw[h0];simp];rw[e2])
def Fb(d:Int)(s:Span):Span:=⟨s.lo+d,s.hi+d⟩
def Fl(l:List Span)(d:Int):List Span:=if d < -2147483648\/2147483648<d then [] else Bv ((Bv l).map (Fb d))
def midM(d:Int)(l rest:List Span)(k:Nat):List Span:=(l.take k).map (Fb d)++(l.drop k++rest)
theorem z1z(d:Int)(l rest:List Span):midM d l rest 0=l++rest:=by simp[midM]
theorem z8d(d:Int)(l rest:List Span):midM d l rest l.length=l.map (Fb d)++rest:=by simp[midM]
theorem z8e(d:Int)(l rest:List Span)(k:Nat)(h:k<=l.length):(midM d l rest k).length=l.length+rest.length:=by simp[midM];omega
theorem zfn{d:Int}{l rest:List Span}{k:Nat}(h:k<l.length):nth (midM d l rest k) k=nth l k:=by
 rw[midM,drop_at h,nth,Aq,AE (by simp;omega)];simp[show min k l.length=k by omega]
theorem z8f{d:Int}{l rest:List Span}{k:Nat}(h:k<l.length):((midM d l rest k).map Cz).set k (Cz ⟨(nth l k).lo+d,(nth l k).hi+d⟩)=(midM d l rest (k+1)).map Cz:=by
 rw[midM,midM,take_at h,drop_at h,<-List.map_set];congr 1;rw[Dm _ _ (by simp;omega),show k-(List.map (Fb d) (List.take k l)).length=0 by simp;omega];simp[Fb]
theorem Tm(l:List Span)(d:Int)(hl:l.length<=1000000000000):PC Tryz.prog 115 [Bf l,.int .i64 d] (Bf (Fl l d)):=by
 refine Cg U1 ?_;unfold N4;have hw:IntKind.i64.wrap d=IntKind.i64.wrap d:=rfl;have hz:(d < -2147483648\/2147483648<d)->Fl l d=[]:=λh=>by rw[Fl,Ae h]
 (with_reducible repeat'(first|simp (disch:=omega) only[push_cast,↓zz,seval]|apply Aa|refine sp_ ?_ ?_<;>intro hc<;>push_cast at hc|omega|intro _))
 all_goals first|exact hz (by omega)|skip
 ·refine RZ (l:=[]) [] (Lp l hl) (by rfl) rfl (by simp) (by simp) (by simp[ltL,ltV]) (by simp) ?_
  rintro y H' ⟨rest,rfl,rfl⟩;refine⟨_,rfl,by simp,?_⟩;have hn:=Ep l;have hbd:=EM l;have hmv:Fl l d=Bv ((Bv l).map (Fb d)):=by rw[Fl,Ac (by omega)]
  rw[hmv];generalize Bv l=m at *;(with_reducible repeat'(first|simp (disch:=omega) only[push_cast,↓zz,seval]|apply Aa|refine sp_ ?_ ?_<;>intro hc<;>push_cast at hc|omega|intro _));refine Bw (B5 (λ(k:Nat)=>k<=m.length) (λk=>m.length-k) (λk=>[(1,.int .i64 d),(5,.ref 0 1 0 m.length),(16,.int .i64 m.length),(17,.int .i64 k)]) (λk=>[⟨2,1,true,(midM d m rest k).map Cz⟩]) (λenv _=>[Dg 2 (env 5)]) 0 (by simp) ?_ ?_)
  ·(with_reducible repeat'(first|simp (disch:=omega) only[push_cast,↓zz,seval,z1z]|apply Aa|refine sp_ ?_ ?_<;>intro hc<;>push_cast at hc|omega|intro _))
  intro k hk;have hlen:=z8e d m rest k hk;rcases Ak k m.length with hkm|hkm
  ·have ha:=zfn (d:=d) (rest:=rest) hkm
   have hs:=z8f (d:=d) (rest:=rest) hkm;have hx:=hbd _ (Bo hkm)
   have hgs:∀v,(((midM d m rest k).map Cz).set k v).getD k .any=v:=λv=>by
    rw[Aq,Ec (by simp[hlen];omega)];rfl
   refine W_T ?_;(with_reducible repeat'(first|simp (disch:=omega) only[push_cast,↓zz,seval,hlen,ha,hgs,List.set_set,hs]|apply Aa|refine sp_ ?_ ?_<;>intro hc<;>push_cast at hc|omega|intro _));exact⟨k+1,⟨by simp,Br _ _⟩,by omega,by omega⟩
  ·obtain rfl:k=m.length:=by omega
   rw[z8d];have ht:List.take m.length ((m.map (Fb d)).map Cz++rest.map Cz)=(m.map (Fb d)).map Cz:=DO (by simp);have hmm:=CV (m.map (Fb d)) (by simp;omega);refine W_T ?_;(with_reducible repeat'(first|simp (disch:=omega) only[push_cast,↓zz,seval,ht,En]|apply Aa|refine sp_ ?_ ?_<;>intro hc<;>push_cast at hc|refine ee hmm ?_|(refine cc hmm ?_;(simp(disch:=omega)only[push_cast,↓zz,seval,ht,En]);(fail_if_success change False))|omega|intro _))
   all_goals trace_state
theorem NT(l:List Int):∀r∈l.map (λx=>[AV.int .i64 x]),∀x∈r,Flat x:=λr hr x hx=>by
 obtain⟨y,_,rfl⟩:=Au.1 hr;simp only[An] at hx;subst hx;exact λS=>rfl
theorem QQ(l:List Int):∀r∈l.map (λx=>[AV.int .i64 x]),r.length=1:=λr hr=>by
 obtain⟨y,_,rfl⟩:=Au.1 hr;rfl
theorem z2a{l:List Int}{k:Nat}{row:List AV}(h:(l.map λx=>[AV.int .i64 x])[k]? = some row):k<l.length/\row=[.int .i64 (nth l k)]:=by
 obtain⟨hk,he⟩:=AJ.1 h;have hk':k<l.length:=by simpa using hk
 refine⟨hk',?_⟩;rw[<-he];simp[nth,Aq,Al hk']
theorem W4:∀{l:List Span}{f:Nat},Plain l->(∀s∈l,(f:Int)<=s.lo/\s.hi<=1114111)->f<=1114112->(F1 l).length+f<=1114112
 |[],f,_,_,hf=>by simpa [F1] using hf
 |s::l,f,h,hb,hf=>by
  have h1:=hb s (by simp);have h2:=h.head
  have:=W4 (l:=l) (f:=(s.hi+1).toNat) h.tail (λt ht=>by
   have:=(AM.1 h.2).1 t ht;have:=hb t (by simp[ht])
   omega) (by omega)
  rw[P5,Ah];simp only[QN,Bi,CH];omega
theorem Syms.nums{l:List Span}(h:Syms l):(F1 l).length<=1114112:=by
 have:=W4 (f:=0) h.1 (λs hs=>by have:=h.2 s hs;simp only[Int.ofNat_zero];omega) (by omega);omega
theorem HZ:∀{l:List Span}{x:Int},x∈F1 l↔memL l x
 |[],x=>by simp[F1,memL]
 |s::l,x=>by
  rw[P5,Am,Bs,HZ]
  have:x∈QN s.lo (s.hi+1-s.lo).toNat↔s.lo<=x/\x<=s.hi:=by
   simp only[QN,Au,Bt];constructor
   ·rintro⟨i,h1,rfl⟩;omega
   ·intro h;exact⟨(x-s.lo).toNat,by omega,by omega⟩
  rw[this]
theorem Syms.mem{l:List Span}(h:Syms l){x:Int}(hx:memL l x):0<=x/\x<=1114111:=by
 obtain⟨s,hs,h1,h2⟩:=hx;have:=h.2 s hs;omega
abbrev oneS(x:Int):Span:=⟨x,x⟩
def allS(n:Nat):List Span:=[⟨0,2 ^ n-1⟩]
theorem K7{l:List Span}(h:Plain l)(hb:∀s∈l,-1073741824<=s.lo/\s.hi<=1073741824):Bv l=l:=by
 obtain⟨h1,h2⟩:=By l;refine GN h1 h λx=>?_;rw[h2 x];constructor
 ·exact λhh=>hh.1
 ·rintro⟨s,hs,k1,k2⟩
  have:=hb s hs;exact⟨⟨s,hs,k1,k2⟩,by omega,by omega⟩
theorem UL{x:Int}{n:Nat}(hn:n<=21)(hx:0<=x/\x<=4194304):IntKind.i64.wrap (x * 2 ^ min n IntKind.i64.bits)=x * 2 ^ n:=by
 rw[show min n IntKind.i64.bits=n from BI (show n<=64 by omega)];have h:=Mw n hn;have h1:x * 2 ^ n<=4194304 * 2097152:=Int.mul_le_mul hx.2 h.2 (by omega) (by omega);have h2:0<=x * 2 ^ n:=Fg hx.1 (by omega);exact IntWalk.i64_in _ (by omega)
def imgS(d t:Nat)(s:Span):List Span :=
 if s.lo / 2 ^ d % 2 ^ t<=s.hi / 2 ^ d % 2 ^ t then [⟨s.lo / 2 ^ d % 2 ^ t,s.hi / 2 ^ d % 2 ^ t⟩] else [⟨0,s.hi / 2 ^ d % 2 ^ t⟩,⟨s.lo / 2 ^ d % 2 ^ t,2 ^ t-1⟩]
def imgF(d t:Nat):List Span->List Span->List Span
 |[],out=>out
 |s::l,out=>if 2 ^ t-1<=s.hi / 2 ^ d-s.lo / 2 ^ d then allS t else imgF d t l (out++imgS d t s)
def topS:List Span:=[⟨0,2097151⟩]
def imgL(p:Part)(s:List Span):List Span :=
 if FL p=false then [] else
  if p.up=0 then Bv (imgF p.drop.toNat p.take.toNat (FM (Bv s) (Bv topS)) []) else
   Bv ((F1 (Bv (Bv (imgF p.drop.toNat p.take.toNat (FM (Bv s) (Bv topS)) [])))).map λx=>oneS (x * 2 ^ p.up.toNat))
theorem QR:∀(a b:List Span),(FM a b).length<=a.length+b.length
 |[],b=>by rw[Hi];simp
 |x::a,[]=>by rw[GO];simp
 |x::a,y::b=>by
  rw[Lq];have h1:=QR a (y::b);have h2:=QR (x::a) b;simp only[Ah,List.length_cons] at *;split<;>split<;>simp<;>omega
termination_by a b=>a.length+b.length
theorem W5(s:List Span):Plain (FM (Bv s) (Bv topS))/\(∀t∈FM (Bv s) (Bv topS),0<=t.lo/\t.lo<=t.hi/\t.hi<=2097151)/\∀v,memL (FM (Bv s) (Bv topS)) v↔memL s v/\0<=v/\v<=2097151:=by
 obtain⟨p1,p2⟩:=By s;obtain⟨q1,q2⟩:=By topS;obtain⟨b1,b2⟩:=I7 _ _ p1 q1
 have key:∀v,memL (FM (Bv s) (Bv topS)) v↔memL s v/\0<=v/\v<=2097151:=λv=>by
  rw[b2 v,p2 v,q2 v,topS,Bs];simp only[BZ,Ar];constructor
  ·rintro⟨⟨h1,_⟩,h2,_⟩;exact⟨h1,h2⟩
  ·rintro⟨h1,h2⟩;exact⟨⟨h1,by omega⟩,h2,by omega⟩
 refine⟨b1,λt ht=>?_,key⟩;have hle:=b1.1 t ht;have k1:=((key t.lo).1 ⟨t,ht,BD _,hle⟩).2;have k2:=((key t.hi).1 ⟨t,ht,hle,BD _⟩).2;omega
theorem z8g{x:Int}{t:Nat}(ht:t<=21)(hx:0<=x/\x<=2097151):Jf .and .i64 x (2 ^ t-1)=x % 2 ^ t:=by
 have h:=Mw t ht;have m0:=BH x (b:=2 ^ t) (by omega);have m1:=B9 x (b:=2 ^ t) (by omega);exact Zx t ⟨hx.1,by show _<(2:Int) ^ 64;omega⟩ (by show _<=64;omega) (IntWalk.i64_in _ (by omega))
theorem zfo{x:Int}{d:Nat}(hd:d<=21):x.fdiv (2 ^ min d IntKind.i64.bits)=x / 2 ^ d:=by
 rw[show min d IntKind.i64.bits=d from BI (show d<=64 by omega)];have:=Mw d hd;exact Zw _ _ (by omega)
theorem z2b{x:Int}{d:Nat}(hd:d<=21)(hx:0<=x/\x<=2097151):0<=x / 2 ^ d/\x / 2 ^ d<=2097151:=by
 have:=Mw d hd;have q0:0<=x / 2 ^ d:=FE hx.1 (by omega);have q1:x / 2 ^ d<=x:=Int.ediv_le_self _ hx.1;omega
theorem P6(p:Part)(s:List Span)(hs:s.length<=10000000000):PC Tryz.prog 189 [FH p,Bf s] (Bf (imgL p s)):=by
 have hM:=NN s topS (by omega) (by simp[topS]);obtain⟨mp,mb,mm⟩:=W5 s
 have hml:(FM (Bv s) (Bv topS)).length<=10000000001:=by
  have h1:=QR (Bv s) (Bv topS);have h2:=Ep s;have h3:=Ep topS;have h4:topS.length=1:=rfl;omega
 cases hb:FL p with
 |false =>
  have hB:=H5 p;rw[hb] at hB;refine Cg Mg ?_;unfold I4;(with_reducible repeat'(first|simp (disch:=omega) only[push_cast,↓zz,seval]|apply Aa|refine sp_ ?_ ?_<;>intro hc<;>push_cast at hc|refine ee hB ?_|(refine cc hB ?_;(simp(disch:=omega)only[push_cast,↓zz,seval]);(fail_if_success change False))|omega|intro _))
  all_goals (rw[imgL,Ae hb])
 |true =>
 have hB:=H5 p;rw[hb] at hB;have hbi:=Kv.1 hb;have ht:=Mw p.take.toNat (by omega);have hw1:IntKind.i64.wrap (1 * 2 ^ min p.take.toNat IntKind.i64.bits)=2 ^ p.take.toNat:=by rw[UL (by omega) (by omega)];omega
 have hw2:IntKind.i64.wrap (2 ^ p.take.toNat-1)=2 ^ p.take.toNat-1:=IntWalk.i64_in _ (by omega);refine Cg Mg ?_;unfold I4;(with_reducible repeat'(first|simp (disch:=omega) only[push_cast,↓zz,seval,hw1,hw2,topS,Bf,Cz,A4,A8,En]|apply Aa|refine sp_ ?_ ?_<;>intro hc<;>push_cast at hc|refine ee hB ?_|refine ee hM ?_|((first|refine cc hB ?_|refine cc hM ?_);(simp(disch:=omega)only[push_cast,↓zz,seval,hw1,hw2,topS,Bf,Cz,A4,A8,En]);(fail_if_success change False))|omega|intro _));have hI:imgL p s=if p.up=0 then Bv (imgF p.drop.toNat p.take.toNat (FM (Bv s) (Bv topS)) []) else Bv ((F1 (Bv (Bv (imgF p.drop.toNat p.take.toNat (FM (Bv s) (Bv topS)) [])))).map λx=>oneS (x * 2 ^ p.up.toNat)):=by rw[imgL,Ac (by simp[hb])]
 have hTS:[(⟨0,2097151⟩:Span)]=topS:=rfl;rw[hTS,hI];generalize FM (Bv s) (Bv topS)=m at *;have hd:=Mw p.drop.toNat (by omega)
 have hsh:∀x:Int,0<=x/\x<=2097151->x.fdiv (2 ^ min p.drop.toNat IntKind.i64.bits)=x / 2 ^ p.drop.toNat/\(0<=x / 2 ^ p.drop.toNat/\x / 2 ^ p.drop.toNat<=2097151)/\Jf .and .i64 (x / 2 ^ p.drop.toNat) (2 ^ p.take.toNat-1)=x / 2 ^ p.drop.toNat % 2 ^ p.take.toNat:=λx hx =>
  ⟨zfo (by omega),z2b (by omega) hx,z8g (by omega) (z2b (by omega) hx)⟩
 refine Bw (B5 (λ(s:Nat × List Span)=>s.1<=m.length/\s.2.length<=2 * s.1/\(∀t∈s.2,0<=t.lo/\t.hi<=2 ^ p.take.toNat-1)/\imgF p.drop.toNat p.take.toNat m []=imgF p.drop.toNat p.take.toNat (m.drop s.1) s.2) (λs=>m.length-s.1)
  (λs=>[(2,.ptr 0 1 0 0),(5,.int .i64 (2 ^ p.take.toNat-1)),(6,.ref 1 1 0 s.2.length),(23,Bf m),(24,.int .i64 m.length),(25,.int .i64 s.1)]) (λs=>[⟨4,1,true,[FH p]⟩,⟨2,1,false,s.2.map Cz⟩]) (λenv _=>[Dg 4 (env 2),Dg 2 (env 6)]) (0,[]) ⟨by simp,by simp,by simp,by simp⟩ ?_ ?_)
 ·(with_reducible repeat'(first|simp (disch:=omega) only[push_cast,↓zz,seval]|apply Aa|refine sp_ ?_ ?_<;>intro hc<;>push_cast at hc|omega|intro _))
 rintro⟨k,out⟩ ⟨h1,h2,h2b,h3⟩;simp only at h1 h2 h2b h3;rcases Ak k m.length with hk|hk
 ·have hx:=mb _ (Bo hk)
  rw[drop_at hk,imgF,imgS] at h3;obtain⟨a1,a2,a3⟩:=hsh (nth m k).lo (by omega);obtain⟨b1,b2,b3⟩:=hsh (nth m k).hi (by omega);generalize (nth m k).lo / 2 ^ p.drop.toNat=u at *;generalize (nth m k).hi / 2 ^ p.drop.toNat=v at *;have hbk:2 ^ p.take.toNat-1<=v-u->imgF p.drop.toNat p.take.toNat m []=allS p.take.toNat:=λh=>by rw[h3,Ae h]
  have hN:=CV (allS p.take.toNat) (by simp[allS]);have hEa:=NP (Bv (allS p.take.toNat)) (by have:=Ep (allS p.take.toNat);simp[allS] at this;simp[allS];omega);refine W_T ?_;(with_reducible repeat'(first|simp (disch:=omega) only[push_cast,↓zz,seval,a1,a3,b1,b3,allS,Bf,Cz,A4,A8,En]|apply Aa|refine sp_ ?_ ?_<;>intro hc<;>push_cast at hc|refine ee hN ?_|refine ee hEa ?_|((first|refine cc hN ?_|refine cc hEa ?_);(simp(disch:=omega)only[push_cast,↓zz,seval,a1,a3,b1,b3,allS,Bf,Cz,A4,A8,En]);(fail_if_success change False))|omega|intro _))
  ·rw[hbk (by assumption),Ae (by assumption)];rfl
  ·rw[hbk (by assumption),Ac (by assumption)]
   have hal:allS p.take.toNat=[⟨0,2 ^ p.take.toNat-1⟩]:=rfl;rw[hal];have h2c:∀t∈[(⟨0,2 ^ p.take.toNat-1⟩:Span)],0<=t.lo/\t.hi<=2 ^ p.take.toNat-1:=by simp
   have hu:p.take<=6:=by omega
   have h64:(2:Int) ^ p.take.toNat<=64:=by
    have e:=Cw (n:=2) (by decide) (show p.take.toNat<=6 by omega);have e2:((2 ^ p.take.toNat:Nat):Int)=2 ^ p.take.toNat:=by simp
    omega
   have hmm:∀v,memL (Bv [⟨0,2 ^ p.take.toNat-1⟩]) v->0<=v/\v<=2 ^ p.take.toNat-1:=λv hv=>by
    obtain⟨t,ht1,ht2,ht3⟩:=(((By _).2 v).1 hv).1;have:=h2c t ht1;omega
   have hsy:Syms (Bv [⟨0,2 ^ p.take.toNat-1⟩]):=UJ (By _).1 λv hv=>by have:=hmm v hv;omega
   have hNN:Bv (Bv [⟨0,2 ^ p.take.toNat-1⟩])=Bv [⟨0,2 ^ p.take.toNat-1⟩]:=K7 (By _).1 λs hs=>by have:=hsy.2 s hs;omega
   rw[hNN];have hit:=NO (Bv [⟨0,2 ^ p.take.toNat-1⟩]) (by have:=hsy.len;omega) (by intro s hs;have:=hsy.2 s hs;omega);have hln:=hsy.nums;have hmem:∀k,k<(F1 (Bv [⟨0,2 ^ p.take.toNat-1⟩])).length->0<=nth (F1 (Bv [⟨0,2 ^ p.take.toNat-1⟩])) k/\nth (F1 (Bv [⟨0,2 ^ p.take.toNat-1⟩])) k<=63:=λk hk=>by have:=hmm _ (HZ.1 (Bo hk));omega
   generalize Bv [⟨0,2 ^ p.take.toNat-1⟩]=M at *;generalize F1 M=l at *
   refine Qw (VP (σ:=Nat × List Span) (λk s=>s.2=(l.take k).map (λx=>oneS (x * 2 ^ p.up.toNat))/\s.2.length<=k) [(2,.ptr 0 1 0 0),(11,.ptr 1 1 0 0),(84,.fn 232 [.cptr (Bf M)])] (λs=>[⟨4,1,true,[FH p]⟩,⟨1,1,true,[.ref 2 s.1 0 s.2.length]⟩,⟨2,s.1,false,s.2.map Cz⟩])
    [.grp 0,.grp 4,.virt 2] 3 (1,[]) hit ?_ (λ_=>rfl) rfl ?_ rfl rfl (NT _) (QQ _) (by simp) ⟨by simp,by simp⟩ ?_ ?_)
   ·(with_reducible repeat'(first|simp (disch:=omega) only[push_cast,↓zz,seval,hNN]|apply Aa|refine sp_ ?_ ?_<;>intro hc<;>push_cast at hc|omega|intro _))
   ·(with_reducible repeat'(first|simp (disch:=omega) only[push_cast,↓zz,seval]|apply Aa|refine sp_ ?_ ?_<;>intro hc<;>push_cast at hc|omega|intro _))
   ·rintro k row ⟨v,o⟩ hrow ⟨h1,h2⟩
    simp only at h1 h2;obtain⟨hk,rfl⟩:=z2a hrow;have hxb:=hmem k hk;have hw3:=UL (x:=nth l k) (n:=p.up.toNat) (by omega) (by omega)
    have hstep:(l.take (k+1)).map (λx=>oneS (x * 2 ^ p.up.toNat))=o++[oneS (nth l k * 2 ^ p.up.toNat)]:=by
     rw[take_at hk,Ao,<-h1];rfl
    generalize nth l k=x at *;refine W_T ?_;(with_reducible repeat'(first|simp (disch:=omega) only[push_cast,↓zz,seval]|apply Aa|refine sp_ ?_ ?_<;>intro hc<;>push_cast at hc|omega|intro _));refine W_T ?_;(with_reducible repeat'(first|simp (disch:=omega) only[push_cast,↓zz,seval,hw3]|apply Aa|refine sp_ ?_ ?_<;>intro hc<;>push_cast at hc|omega|intro _));exact⟨(v+1,o++[oneS (x * 2 ^ p.up.toNat)]),⟨⟨rfl,by simp⟩,rfl,by rw[Ao];exact Br _ _⟩,hstep.symm,by simp;omega⟩
   ·rintro⟨v,o⟩ ⟨h1,h2⟩
    simp only[Bi] at h1 h2;rw[AA] at h1;rw[<-h1];have hN2:=CV o (by omega);(with_reducible repeat'(first|simp (disch:=omega) only[push_cast,↓zz,seval,En]|apply Aa|refine sp_ ?_ ?_<;>intro hc<;>push_cast at hc|refine ee hN2 ?_|(refine cc hN2 ?_;(simp(disch:=omega)only[push_cast,↓zz,seval,En]);(fail_if_success change False))|omega|intro _))
  all_goals rw[Ac (by assumption)] at h3
  ·rw[Ae (by assumption)] at h3
   exact⟨(k+1,out++[⟨u % 2 ^ p.take.toNat,v % 2 ^ p.take.toNat⟩]),⟨⟨by simp,by simp⟩,by rw[Ao];exact Br _ _⟩,⟨by simp only;omega,by simp;omega,λt ht=>by
    rcases Am.1 ht with ht|ht
    ·exact h2b t ht
    ·simp only[An] at ht
     subst ht;have m0:=BH u (b:=2 ^ p.take.toNat) (by omega);have m1:=B9 v (b:=2 ^ p.take.toNat) (by omega)
     exact⟨m0,by simp only;omega⟩,h3⟩,by simp only;omega⟩
  ·rw[Ac (by assumption)] at h3
   exact⟨(k+1,out++[⟨0,v % 2 ^ p.take.toNat⟩,⟨u % 2 ^ p.take.toNat,2 ^ p.take.toNat-1⟩]),⟨⟨by simp,by simp⟩,by rw[Ao];exact Br _ _⟩,⟨by simp only;omega,by simp;omega,λt ht=>by
    rcases Am.1 ht with ht|ht
    ·exact h2b t ht
    ·have m0:=BH u (b:=2 ^ p.take.toNat) (by omega)
     have m1:=B9 v (b:=2 ^ p.take.toNat) (by omega);simp only[Af,Aj,Ar] at ht;rcases ht with rfl|rfl
     ·exact⟨BD _,by simp only;omega⟩
     ·exact⟨m0,BD _⟩,h3⟩,by simp only;omega⟩
 ·rw[Ax hk,imgF] at h3
  rw[h3];have hN:=CV out (by omega);have hEa:=NP (Bv out) (by have:=Ep out;omega);refine W_T ?_;(with_reducible repeat'(first|simp (disch:=omega) only[push_cast,↓zz,seval]|apply Aa|refine sp_ ?_ ?_<;>intro hc<;>push_cast at hc|refine ee hN ?_|refine ee hEa ?_|((first|refine cc hN ?_|refine cc hEa ?_);(simp(disch:=omega)only[push_cast,↓zz,seval]);(fail_if_success change False))|omega|intro _))
  ·rw[Ae (by assumption)]
  ·rw[Ac (by assumption)]
   have hu:p.take<=6:=by omega
   have h64:(2:Int) ^ p.take.toNat<=64:=by
    have e:=Cw (n:=2) (by decide) (show p.take.toNat<=6 by omega);have e2:((2 ^ p.take.toNat:Nat):Int)=2 ^ p.take.toNat:=by simp
    omega
   have hmm:∀v,memL (Bv out) v->0<=v/\v<=2 ^ p.take.toNat-1:=λv hv=>by
    obtain⟨t,ht1,ht2,ht3⟩:=(((By _).2 v).1 hv).1;have:=h2b t ht1;omega
   have hsy:Syms (Bv out):=UJ (By _).1 λv hv=>by have:=hmm v hv;omega
   have hNN:Bv (Bv out)=Bv out:=K7 (By _).1 λs hs=>by have:=hsy.2 s hs;omega
   rw[hNN];have hit:=NO (Bv out) (by have:=hsy.len;omega) (by intro s hs;have:=hsy.2 s hs;omega);have hln:=hsy.nums;have hmem:∀k,k<(F1 (Bv out)).length->0<=nth (F1 (Bv out)) k/\nth (F1 (Bv out)) k<=63:=λk hk=>by have:=hmm _ (HZ.1 (Bo hk));omega
   generalize Bv out=M at *;generalize F1 M=l at *
   refine Qw (VP (σ:=Nat × List Span) (λk s=>s.2=(l.take k).map (λx=>oneS (x * 2 ^ p.up.toNat))/\s.2.length<=k) [(2,.ptr 0 1 0 0),(11,.ptr 1 1 0 0),(84,.fn 232 [.cptr (Bf M)])] (λs=>[⟨4,1,true,[FH p]⟩,⟨1,1,true,[.ref 2 s.1 0 s.2.length]⟩,⟨2,s.1,false,s.2.map Cz⟩])
    [.grp 0,.grp 2,.virt 2] 3 (1,[]) hit ?_ (λ_=>rfl) rfl ?_ rfl rfl (NT _) (QQ _) (by simp) ⟨by simp,by simp⟩ ?_ ?_)
   ·(with_reducible repeat'(first|simp (disch:=omega) only[push_cast,↓zz,seval,hNN]|apply Aa|refine sp_ ?_ ?_<;>intro hc<;>push_cast at hc|omega|intro _))
   ·(with_reducible repeat'(first|simp (disch:=omega) only[push_cast,↓zz,seval]|apply Aa|refine sp_ ?_ ?_<;>intro hc<;>push_cast at hc|omega|intro _))
   ·rintro k row ⟨v,o⟩ hrow ⟨h1,h2⟩
    simp only at h1 h2;obtain⟨hk,rfl⟩:=z2a hrow;have hxb:=hmem k hk;have hw3:=UL (x:=nth l k) (n:=p.up.toNat) (by omega) (by omega)
    have hstep:(l.take (k+1)).map (λx=>oneS (x * 2 ^ p.up.toNat))=o++[oneS (nth l k * 2 ^ p.up.toNat)]:=by
     rw[take_at hk,Ao,<-h1];rfl
    generalize nth l k=x at *;refine W_T ?_;(with_reducible repeat'(first|simp (disch:=omega) only[push_cast,↓zz,seval]|apply Aa|refine sp_ ?_ ?_<;>intro hc<;>push_cast at hc|omega|intro _));refine W_T ?_;(with_reducible repeat'(first|simp (disch:=omega) only[push_cast,↓zz,seval,hw3]|apply Aa|refine sp_ ?_ ?_<;>intro hc<;>push_cast at hc|omega|intro _));exact⟨(v+1,o++[oneS (x * 2 ^ p.up.toNat)]),⟨⟨rfl,by simp⟩,rfl,by rw[Ao];exact Br _ _⟩,hstep.symm,by simp;omega⟩
   ·rintro⟨v,o⟩ ⟨h1,h2⟩
    simp only[Bi] at h1 h2;rw[AA] at h1;rw[<-h1];have hN2:=CV o (by omega);(with_reducible repeat'(first|simp (disch:=omega) only[push_cast,↓zz,seval,En]|apply Aa|refine sp_ ?_ ?_<;>intro hc<;>push_cast at hc|refine ee hN2 ?_|(refine cc hN2 ?_;(simp(disch:=omega)only[push_cast,↓zz,seval,En]);(fail_if_success change False))|omega|intro _))
    all_goals trace_state
def Low(n:Nat)(l:List Span):Prop:=Plain l/\∀s∈l,0<=s.lo/\s.lo<=s.hi/\s.hi<=2 ^ n-1
theorem z2c:∀{l:List Span}{f N:Nat},Plain l->(∀s∈l,(f:Int)<=s.lo/\s.hi<N)->f<=N->l.length+f<=N
 |[],f,N,_,_,hf=>by simpa using hf
 |s::l,f,N,h,hb,hf=>by
  have h1:=hb s (by simp);have h2:=h.head
  have:=z2c (l:=l) (f:=(s.hi+1).toNat) (N:=N) h.tail (λt ht=>by
   have:=(AM.1 h.2).1 t ht;have:=hb t (by simp[ht])
   omega) (by omega)
  simp only[List.length_cons];omega
theorem Low.len{n:Nat}{l:List Span}(h:Low n l):(l.length:Int)<=2 ^ n:=by
 have e:((2 ^ n:Nat):Int)=2 ^ n:=by simp
 have:=z2c (f:=0) (N:=2 ^ n) h.1 (λs hs=>by have:=h.2 s hs;simp only[Int.ofNat_zero];omega) (A6 _);omega
theorem W6{α:Type}{f:α->List Span}:∀{l:List α}{v:Int},memL (l.flatMap f) v↔∃x∈l,memL (f x) v
 |[],v=>by simp[memL]
 |x::l,v=>by
  rw[CG,Fi,W6];constructor
  ·rintro (h|⟨y,hy,h⟩)
   ·exact⟨x,by simp,h⟩
   ·exact⟨y,by simp[hy],h⟩
  ·rintro⟨y,hy,h⟩
   rcases Af.1 hy with rfl|hy
   ·exact .inl h
   ·exact .inr ⟨y,hy,h⟩
theorem W7{l:List Span}{d:Int}(hd:-2147483648<=d/\d<=2147483648){v:Int}:memL (Fl l d) v↔(memL l (v-d)/\-1073741824<=v-d/\v-d<=1073741824)/\-1073741824<=v/\v<=1073741824:=by
 obtain⟨p1,p2⟩:=By l;obtain⟨q1,q2⟩:=By ((Bv l).map (Fb d));rw[Fl,Ac (by omega),q2 v,<-p2 (v-d)]
 have:memL ((Bv l).map (Fb d)) v↔memL (Bv l) (v-d):=by
  constructor
  ·rintro⟨s,hs,h1,h2⟩
   obtain⟨t,ht,rfl⟩:=Au.1 hs;exact⟨t,ht,by simp only[Fb] at h1;omega,by simp only[Fb] at h2;omega⟩
  ·rintro⟨t,ht,h1,h2⟩
   exact⟨Fb d t,Au.2 ⟨t,ht,rfl⟩,by simp only[Fb];omega,by simp only[Fb];omega⟩
 rw[this]
theorem F2{p:Part}{x:Int}(hb:FL p=true)(hx:0<=x/\x<=2097151):0<=valP p x/\valP p x<=66060288:=by
 have hbi:=Kv.1 hb;have ht:=Mw p.take.toNat (by omega);have hu:=Mw p.up.toNat (by omega);have m0:=BH (x / 2 ^ p.drop.toNat) (b:=2 ^ p.take.toNat) (by omega);have m1:=B9 (x / 2 ^ p.drop.toNat) (b:=2 ^ p.take.toNat) (by omega);have hq:=z2b (d:=p.drop.toNat) (by omega) hx
 have m2:x / 2 ^ p.drop.toNat % 2 ^ p.take.toNat<=x / 2 ^ p.drop.toNat:=by
  have h1:=Int.emod_add_mul_ediv (x / 2 ^ p.drop.toNat) (2 ^ p.take.toNat);have h2:0<=2 ^ p.take.toNat * (x / 2 ^ p.drop.toNat / 2 ^ p.take.toNat):=Fg (by omega) (FE hq.1 (by omega));omega
 rw[valP];refine⟨Fg m0 (by omega),?_⟩;rcases hbi.2.2.2.2.2.2 with h0|h6
 ·rw[h0,show (2:Int) ^ (0:Int).toNat=1 by decide,Int.mul_one];omega
 ·have e:=Cw (n:=2) (by decide) (show p.take.toNat<=6 by omega)
  have e2:((2 ^ p.take.toNat:Nat):Int)=2 ^ p.take.toNat:=by simp
  have e3:=Cw (n:=2) (by decide) (show p.up.toNat<=20 by omega);have e4:((2 ^ p.up.toNat:Nat):Int)=2 ^ p.up.toNat:=by simp
  have:x / 2 ^ p.drop.toNat % 2 ^ p.take.toNat * 2 ^ p.up.toNat<=63 * 1048576:=Int.mul_le_mul (by omega) (by omega) (by omega) (by omega);omega
theorem z2d{t:Term}{p:Part}{x:Int}(hp:t.parts=[p])(hr:E7 p 1=true)(ho:FL t.outer=true)(hs:Gc t.sum=true)(hbs:Gc t.base=true)(hx:0<=x/\x<=1114111):
 EL t [x]=if 0<=t.sum+valP p x/\t.sum+valP p x<=1114111 then some (t.base+valP t.outer (t.sum+valP p x)) else none:=by
 have hra:=HT hr;have hbp:FL p=true:=by simp only[E7,Ab] at hr;exact hr.2
 have hv:=F2 hbp (x:=x) (by omega);have hsm:=G8 hs;have hbm:=G8 hbs;have e1:val1 p x=valP p x:=(Li hbp (by omega)).2
 have hsum:sumP [x] t.parts t.sum=some (t.sum+valP p x):=by
  rw[hp,sumP,Ae (by simpa using hr),sumP];have:nth [x] p.at_.toNat=x:=by rw[show p.at_.toNat=0 by omega];rfl
  rw[this,e1,show IntKind.i64.wrap (t.sum+valP p x)=t.sum+valP p x from IntWalk.i64_in _ (by omega)]
 have hsy:[x].all symB=true:=by simp[symB];omega
 unfold EL;rw[Ae hsy,hsum];simp only;by_cases h:0<=t.sum+valP p x/\t.sum+valP p x<=1114111
 ·have hvb:valB t.outer (t.sum+valP p x)=true:=(Li ho (by omega)).1
  have hv2:=F2 ho (x:=t.sum+valP p x) (by omega);rw[Ae h,Ae (by simp[hvb];omega),show IntKind.i64.wrap (t.base+valP t.outer (t.sum+valP p x))=t.base+valP t.outer (t.sum+valP p x) from IntWalk.i64_in _ (by omega)]
 ·rw[Ac h,Ac]
  simp only[valB,ho,AP,Ab,Ai];omega
theorem z8h(s:List Span):FM (Bv s) (Bv [⟨0,1114111⟩])=symI s:=by rw[symI,Y2]
theorem z8i(l:List Span)(d:Int):(Fl l d).length<=l.length:=by
 unfold Fl;split
 ·simp
 ·have h1:=Ep ((Bv l).map (Fb d))
  have h2:=Ep l;simp only[Bi] at h1;omega
def sumS(x y:Span):Span:=⟨x.lo+y.lo,x.hi+y.hi⟩
def UM(a b:List Span):List Span:=a.flatMap λx=>b.map (sumS x)
def Tn(a b:List Span):List Span:=Bv (UM a b)
theorem Y5(x:Span)(a b:List Span):UM (x::a) b=b.map (sumS x)++UM a b:=rfl
theorem Y6{l m:List Span}(h:∀v,-1073741824<=v/\v<=1073741824->(memL l v↔memL m v)):Bv l=Bv m:=by
 obtain⟨p1,p2⟩:=By l;obtain⟨q1,q2⟩:=By m;refine GN p1 q1 λv=>?_;rw[p2,q2];constructor
 ·rintro⟨h1,h2,h3⟩;exact⟨(h v ⟨h2,h3⟩).1 h1,h2,h3⟩
 ·rintro⟨h1,h2,h3⟩;exact⟨(h v ⟨h2,h3⟩).2 h1,h2,h3⟩
theorem z2e{l m:List Span}:Bv (Bv l++m)=Bv (l++m):=Y6 λv hv=>by
 rw[Fi,Fi,(By l).2 v];constructor
 ·rintro (⟨h,_⟩|h)
  ·exact .inl h
  ·exact .inr h
 ·rintro (h|h)
  ·exact .inl ⟨h,hv⟩
  ·exact .inr h
theorem To:∀{l:List Span}{f:Nat},Plain l->(∀s∈l,(f:Int)-1073741824<=s.lo/\s.hi<=1073741824)->f<=2147483649->l.length+f<=2147483649
 |[],f,_,_,hf=>by simpa using hf
 |s::l,f,h,hb,hf=>by
  have h1:=hb s (by simp);have h2:=h.head
  have:=To (l:=l) (f:=(s.hi+1073741825).toNat) h.tail (λt ht=>by
   have:=(AM.1 h.2).1 t ht;have:=hb t (by simp[ht])
   omega) (by omega)
  simp only[List.length_cons];omega
theorem NU(l:List Span):(Bv l).length<=2147483649:=by
 have:=To (f:=0) (By l).1 (λs hs=>by have:=EM l s hs;simp only[Int.ofNat_zero];omega) (by omega);omega
def Bd(l:List Span):Prop:=∀s∈l,(-1099511627776<=s.lo/\s.lo<=1099511627776)/\-1099511627776<=s.hi/\s.hi<=1099511627776
theorem Y7(l:List Span)(hl:l.length<=1000000000000):B2 Tryz.prog 144 [Bf l] (Abs.hl []) λy H'=>y=.ref 0 1 0 (Bv l).length/\H'=Abs.hl [⟨2,1,false,(Bv l).map Cz⟩] :=
 Sd (by omega) ((Lp l hl).mono λy H' ⟨rest,h1,h2⟩=>⟨rest.map Cz,h1,by rw[h2,Ao]⟩)
theorem z2f(a b:List Span)(la:a.length<=3000000000)(lb:b.length<=3000000000)(ha:Bd a)(hb:Bd b):PC Tryz.prog 229 [Bf a,Bf b] (Bf (Tn a b)):=by
 refine Cg U9 ?_;unfold ND;(with_reducible repeat'(first|simp (disch:=omega) only[push_cast,↓zz,seval]|apply Aa|refine sp_ ?_ ?_<;>intro hc<;>push_cast at hc|omega|intro _))
 refine Bw (B5 (λ(s:Nat × List Span)=>s.1<=a.length/\s.2.length<=2147483649/\Tn a b=Bv (s.2++UM (a.drop s.1) b)) (λs=>a.length-s.1)
  (λs=>[(1,Bf b),(5,.ref 0 1 0 s.2.length),(10,Bf a),(11,.int .i64 a.length),(12,.int .i64 s.1)]) (λs=>[⟨2,1,false,s.2.map Cz⟩]) (λenv _=>[Dg 2 (env 5)]) (0,[]) ⟨by simp,by simp,by simp[Tn]⟩ ?_ ?_)
 ·(with_reducible repeat'(first|simp (disch:=omega) only[push_cast,↓zz,seval]|apply Aa|refine sp_ ?_ ?_<;>intro hc<;>push_cast at hc|omega|intro _))
 rintro⟨k,out⟩ ⟨h1,h2,h3⟩;simp only at h1 h2 h3;rcases Ak k a.length with hk|hk
 ·rw[drop_at hk,Y5,<-A3] at h3
  have hx:=ha _ (Bo hk);generalize hxe:nth a k=x at *;refine W_T ?_;(with_reducible repeat'(first|simp (disch:=omega) only[push_cast,↓zz,seval,hxe]|apply Aa|refine sp_ ?_ ?_<;>intro hc<;>push_cast at hc|omega|intro _))
  refine Bw (B5 (λ(s:Nat × List Span)=>s.1<=b.length/\s.2=out++(b.take s.1).map (sumS x)/\s.2.length=out.length+s.1) (λs=>b.length-s.1)
   (λs=>[(1,Bf b),(5,.ref 0 1 0 s.2.length),(7,.ptr 1 1 0 0),(10,Bf a),(11,.int .i64 a.length),(12,.int .i64 k),(16,Bf b),(17,.int .i64 b.length),(18,.int .i64 s.1)]) (λs=>[⟨2,1,false,s.2.map Cz⟩,⟨2,1,true,[Cz x]⟩]) (λenv _=>[Dg 2 (env 5),Dg 2 (env 7)]) (0,out) ⟨by simp,by simp,by simp⟩ ?_ ?_)
  ·(with_reducible repeat'(first|simp (disch:=omega) only[push_cast,↓zz,seval]|apply Aa|refine sp_ ?_ ?_<;>intro hc<;>push_cast at hc|omega|intro _))
  rintro⟨j,o⟩ ⟨g1,g2,g3⟩;simp only at g1 g2 g3;rcases Ak j b.length with hj|hj
  ·have hy:=hb _ (Bo hj)
   have hstep:out++(b.take (j+1)).map (sumS x)=o++[sumS x (nth b j)]:=by rw[take_at hj,Ao,<-A3,<-g2];rfl
   generalize hye:nth b j=y at *;have hw1:IntKind.i64.wrap (x.lo+y.lo)=x.lo+y.lo:=IntWalk.i64_in _ (by omega);have hw2:IntKind.i64.wrap (x.hi+y.hi)=x.hi+y.hi:=IntWalk.i64_in _ (by omega);clear g2;refine W_T ?_;(with_reducible repeat'(first|simp (disch:=omega) only[push_cast,↓zz,seval,hye,hw1,hw2]|apply Aa|refine sp_ ?_ ?_<;>intro hc<;>push_cast at hc|omega|intro _));refine⟨(j+1,o++[sumS x y]),?_⟩;(with_reducible repeat'(first|simp (disch:=omega) only[push_cast,↓zz,seval,sumS,hstep]|apply Aa|refine sp_ ?_ ?_<;>intro hc<;>push_cast at hc|omega|intro _))
  ·obtain rfl:j=b.length:=by omega
   rw[AA] at g2;rw[<-g2] at h3;clear g2;have hno:=NU o;have hap:=@z2e o (UM (a.drop (k+1)) b);refine W_T ?_;(with_reducible repeat'(first|simp (disch:=omega) only[push_cast,↓zz,seval]|apply Aa|refine sp_ ?_ ?_<;>intro hc<;>push_cast at hc|omega|intro _))
   ·(refine zf2 (ys:=[Bf o]) ?_ ?_ ?_<;>(simp(disch:=omega)only[push_cast,↓zz,seval]))
    (refine Ch [] (Y7 o (by omega)) (by decide) (by simp) (by (simp(disch:=omega)only[push_cast,↓zz,seval])) (by (simp(disch:=omega)only[push_cast,↓zz,seval])) (by (simp(disch:=omega)only[push_cast,↓zz,seval])) (by (simp(disch:=omega)only[push_cast,↓zz,seval,Af,Aj,Ar,Aw,AL,As])) ?_)
    rintro y H' ⟨rfl,rfl⟩;refine⟨_,rfl,by simp,?_⟩;(with_reducible repeat'(first|simp (disch:=omega) only[push_cast,↓zz,seval]|apply Aa|refine sp_ ?_ ?_<;>intro hc<;>push_cast at hc|omega|intro _));refine⟨(k+1,Bv o),?_⟩;(with_reducible repeat'(first|simp (disch:=omega) only[push_cast,↓zz,seval,hap]|apply Aa|refine sp_ ?_ ?_<;>intro hc<;>push_cast at hc|omega|intro _))
   ·refine⟨(k+1,o),?_⟩
    (with_reducible repeat'(first|simp (disch:=omega) only[push_cast,↓zz,seval]|apply Aa|refine sp_ ?_ ?_<;>intro hc<;>push_cast at hc|omega|intro _))
 ·rw[Ax hk,show UM [] b=[] from rfl,AB] at h3
  have hN:=CV out (by omega);refine W_T ?_;(with_reducible repeat'(first|simp (disch:=omega) only[push_cast,↓zz,seval,h3,En]|apply Aa|refine sp_ ?_ ?_<;>intro hc<;>push_cast at hc|refine ee hN ?_|(refine cc hN ?_;(simp(disch:=omega)only[push_cast,↓zz,seval,h3,En]);(fail_if_success change False))|omega|intro _))
  all_goals trace_state
def totV(l:List Part)(x:Int):Int:=(l.map λp=>valP p x).sum
theorem z8j(x:Int):totV [] x=0:=rfl
theorem z2g(l:List Part)(p:Part)(x:Int):totV (l++[p]) x=totV l x+valP p x:=by simp[totV]
theorem NV{x:Int}(hx:0<=x/\x<=2097151):∀{l:List Part},(∀p∈l,FL p=true)->0<=totV l x/\totV l x<=l.length * 66060288
 |[],_=>by simp[totV]
 |p::l,h=>by
  have h1:=F2 (h p (by simp)) hx;have h2:=NV hx (l:=l) λq hq=>h q (by simp[hq]);have e:totV (p::l) x=valP p x+totV l x:=by simp[totV]
  rw[e,List.length_cons]
  push_cast
  omega
def togF(l:List Part)(out:List Span)(x:Int):List Span:=addS out ⟨totV l x,totV l x⟩
def togL(l:List Part)(s:List Span):List Span :=
 if l.length=1 then imgL (nth l 0) s else Bv ((F1 (Bv s)).foldl (togF l) [])
theorem QS(l:List Part)(s:List Span)(hl:l.length<=1000)(hb:∀p∈l,FL p=true)(hs:s.length<=10000000000)(hsy:Syms (Bv s)):
 PC Tryz.prog 230 [Gv l,Bf s] (Bf (togL l s)):=by
 have hln:=hsy.nums;have hls:=hsy.len;have hmem:∀k,k<(F1 (Bv s)).length->0<=nth (F1 (Bv s)) k/\nth (F1 (Bv s)) k<=1114111:=λk hk=>hsy.mem (HZ.1 (Bo hk));have hit:=NO (Bv s) (by omega) (EM s);have hI:=P6 (nth l 0) s hs;have hE:=NP s (by omega);refine Cg NF ?_;unfold I5;(with_reducible repeat'(first|simp (disch:=omega) only[push_cast,↓zz,seval]|apply Aa|refine sp_ ?_ ?_<;>intro hc<;>push_cast at hc|refine ee hI ?_|refine ee hE ?_|((first|refine cc hI ?_|refine cc hE ?_);(simp(disch:=omega)only[push_cast,↓zz,seval]);(fail_if_success change False))|omega|intro _))
 ·rw[togL,Ae (by omega)]
 rw[togL,Ac (by omega)];generalize hlne:F1 (Bv s)=m at *
 refine Qw (VP (σ:=Nat × List Span) (λk s=>s.2=(m.take k).foldl (togF l) []/\s.2.length<=k) [(2,.ptr 0 1 0 0),(5,.ptr 1 1 0 0),(22,.fn 232 [.cptr (Bf (Bv s))])] (λs=>[⟨1,1,true,[Gv l]⟩,⟨1,1,true,[.ref 2 s.1 0 s.2.length]⟩,⟨2,s.1,false,s.2.map Cz⟩])
  [.grp 0,.grp 1,.virt 2] 3 (1,[]) hit ?_ (λ_=>rfl) rfl ?_ rfl rfl (NT _) (QQ _) (by simp) ⟨by simp,by simp⟩ ?_ ?_)
 ·(with_reducible repeat'(first|simp (disch:=omega) only[push_cast,↓zz,seval]|apply Aa|refine sp_ ?_ ?_<;>intro hc<;>push_cast at hc|omega|intro _))
 ·(with_reducible repeat'(first|simp (disch:=omega) only[push_cast,↓zz,seval]|apply Aa|refine sp_ ?_ ?_<;>intro hc<;>push_cast at hc|omega|intro _))
 ·rintro k row ⟨v,out⟩ hrow ⟨h1,h2⟩
  simp only at h1 h2;obtain⟨hk,rfl⟩:=z2a hrow;have hxb:=hmem k hk;have hstep:(m.take (k+1)).foldl (togF l) []=togF l out (nth m k):=by rw[take_at hk,Dn,<-h1];rfl
  generalize nth m k=x at *;refine W_T ?_;(with_reducible repeat'(first|simp (disch:=omega) only[push_cast,↓zz,seval]|apply Aa|refine sp_ ?_ ?_<;>intro hc<;>push_cast at hc|omega|intro _));refine W_T ?_;(with_reducible repeat'(first|simp (disch:=omega) only[push_cast,↓zz,seval]|apply Aa|refine sp_ ?_ ?_<;>intro hc<;>push_cast at hc|omega|intro _))
  refine Bw (B5 (λ(j:Nat)=>j<=l.length) (λj=>l.length-j)
   (λj=>[(2,.ptr 0 1 0 0),(5,.ptr 1 1 0 0),(6,.int .i64 x),(7,.int .i64 (totV (l.take j) x)),(24,Gv l),(25,.int .i64 l.length),(26,.int .i64 j)]) (λ_=>[⟨1,1,true,[Gv l]⟩,⟨1,1,true,[.ref 2 v 0 out.length]⟩,⟨2,v,false,out.map Cz⟩]) (λ_ _=>[]) 0 (by simp) ?_ ?_)
  ·(with_reducible repeat'(first|simp (disch:=omega) only[push_cast,↓zz,seval,z8j]|apply Aa|refine sp_ ?_ ?_<;>intro hc<;>push_cast at hc|omega|intro _))
  intro j hj;rcases Ak j l.length with hjl|hjl
  ·have hp:=hb _ (Bo hjl)
   have hV:=H6 (nth l j) x
   have e1:val1 (nth l j) x=valP (nth l j) x:=by
    have hvb:valB (nth l j) x=true:=by simp[valB,hp];omega
    simp[val1,hvb]
   rw[valV,e1] at hV;have t1:=NV (x:=x) (by omega) (l:=l.take j) λq hq=>hb q (B6 hq);have t2:=F2 hp (x:=x) (by omega);have hlt:(l.take j).length=j:=by simp;omega
   rw[hlt] at t1;have hw:IntKind.i64.wrap (totV (l.take j) x+valP (nth l j) x)=totV (l.take j) x+valP (nth l j) x:=IntWalk.i64_in _ (by omega);have hn:totV (l.take (j+1)) x=totV (l.take j) x+valP (nth l j) x:=by rw[take_at hjl,z2g]
   refine W_T ?_;(with_reducible repeat'(first|simp (disch:=omega) only[push_cast,↓zz,seval,hw]|apply Aa|refine sp_ ?_ ?_<;>intro hc<;>push_cast at hc|refine ee hV ?_|(refine cc hV ?_;(simp(disch:=omega)only[push_cast,↓zz,seval,hw]);(fail_if_success change False))|omega|intro _))
   all_goals exact⟨j+1,⟨hn.symm,by push_cast⟩,by omega,by omega⟩
  ·obtain rfl:j=l.length:=by omega
   rw[AA];have t1:=NV (x:=x) (by omega) (l:=l) hb;rw[togF] at hstep;generalize totV l x=n at *;have hwn:IntKind.i64.wrap (n-1)=n-1:=IntWalk.i64_in _ (by omega);rcases FO out with rfl|⟨mm,z,hout⟩
   ·refine W_T ?_
    (with_reducible repeat'(first|simp (disch:=omega) only[push_cast,↓zz,seval,hwn]|apply Aa|refine sp_ ?_ ?_<;>intro hc<;>push_cast at hc|omega|intro _))
    all_goals
     refine⟨(v+1,[⟨n,n⟩]),?_⟩;rw[HX] at hstep;(with_reducible repeat'(first|simp (disch:=omega) only[push_cast,↓zz,seval,hstep]|apply Aa|refine sp_ ?_ ?_<;>intro hc<;>push_cast at hc|omega|intro _))
   ·have l1:out.length=mm.length+1:=by rw[hout];simp
    have l2:nth out mm.length=z:=by rw[hout];exact W2
    have l3:IntKind.i64.wrap (mm.length:Int)=mm.length:=IntWalk.i64_in _ (by omega);have l4:(out.map Cz).set mm.length (.agg [.int .i64 z.lo,.int .i64 n])=(mm++[(⟨z.lo,n⟩:Span)]).map Cz:=by rw[hout];exact Mj (f:=Cz) (z:=⟨z.lo,n⟩)
    have hadd:addS out ⟨n,n⟩=if z.hi=n-1 then mm++[⟨z.lo,n⟩] else out++[⟨n,n⟩]:=by rw[hout,K5]
    rw[hadd] at hstep;clear hadd hout;refine W_T ?_;(with_reducible repeat'(first|simp (disch:=omega) only[push_cast,↓zz,seval,l1,l2,l3,l4,hwn]|apply Aa|refine sp_ ?_ ?_<;>intro hc<;>push_cast at hc|omega|intro _))
    ·rw[Ae (by assumption)] at hstep
     refine⟨(v,mm++[⟨z.lo,n⟩]),?_⟩;(with_reducible repeat'(first|simp (disch:=omega) only[push_cast,↓zz,seval,hstep]|apply Aa|refine sp_ ?_ ?_<;>intro hc<;>push_cast at hc|omega|intro _))
    ·rw[Ac (by assumption)] at hstep
     refine⟨(v+1,out++[⟨n,n⟩]),?_⟩;(with_reducible repeat'(first|simp (disch:=omega) only[push_cast,↓zz,seval,hstep,l1]|apply Aa|refine sp_ ?_ ?_<;>intro hc<;>push_cast at hc|omega|intro _))
 ·rintro⟨v,out⟩ ⟨h1,h2⟩
  simp only[Bi] at h1 h2;rw[AA] at h1;rw[<-h1];have hN:=CV out (by omega);(with_reducible repeat'(first|simp (disch:=omega) only[push_cast,↓zz,seval,En]|apply Aa|refine sp_ ?_ ?_<;>intro hc<;>push_cast at hc|refine ee hN ?_|(refine cc hN ?_;(simp(disch:=omega)only[push_cast,↓zz,seval,En]);(fail_if_success change False))|omega|intro _))
  all_goals trace_state
def Fe(pl:List Int)(p:Part):List Int:=if p.at_∈pl then pl else pl++[p.at_]
def Fv(l:List Part):List Int:=l.foldl Fe []
def atL(l:List Part)(a:Int):List Part:=l.filter λp=>decide (p.at_=a)
def I8(l:List Part)(sets:List (List Span))(out:List Span)(a:Int):List Span:=Tn out (togL (atL l a) (nth sets a.toNat))
def Io(t:Term)(sets:List (List Span)):List Span:=(Fv t.parts).foldl (I8 t.parts sets) [⟨t.sum,t.sum⟩]
def OC(l:List Span):Bool:=decide (0<(l.length:Int))&&(decide (0<=(Tl (Bv l)).getD 0)&&decide ((UK (Bv l)).getD 0<=1114111))
def Acc(l:List Span):Prop:=Bd l/\l.length<=2147483649
theorem NW(l:List Span):Acc (Bv l):=by
 refine⟨λs hs=>?_,NU l⟩;have:=EM l s hs;omega
theorem QT(a b:List Span):Acc (Tn a b):=NW _
theorem QU(p:Part)(s:List Span):Acc (imgL p s):=by
 unfold imgL
 repeat' split
 all_goals first|exact NW _|exact⟨λs hs=>(by cases hs),by simp⟩
theorem W8(l:List Part)(s:List Span):Acc (togL l s):=by
 unfold togL;split
 ·exact QU _ _
 ·exact NW _
theorem z2h{x:Int}(h:Gc x=true):Acc [⟨x,x⟩]:=by
 refine⟨λs hs=>?_,by simp⟩;have:=G8 h;simp only[An] at hs;subst hs;simp only;omega
structure P7(l:List Part)(sets:List (List Span)):Prop where
 parts:∀p∈l,E7 p sets.length=true
 syms:∀s∈sets,Syms s
 many:sets.length<=1000
theorem Tp{s:List Span}(h:Syms s):Bv s=s:=K7 h.1 λt ht=>by have:=h.2 t ht;omega
theorem UN{l:List Part}{sets:List (List Span)}{out:List Span}{a:Int}(hS:P7 l sets)(hA:Acc out)(ha:0<=a/\a<sets.length)(hl:l.length<=4):
 PC Tryz.prog 230 [Gv (atL l a),Bf (nth sets a.toNat)] (Bf (togL (atL l a) (nth sets a.toNat)))/\PC Tryz.prog 229 [Bf out,Bf (togL (atL l a) (nth sets a.toNat))] (Bf (I8 l sets out a))/\Acc (I8 l sets out a):=by
 have hm:nth sets a.toNat∈sets:=Bo (by omega);have hs:=hS.syms _ hm;refine⟨QS _ _ (AZ (BL _ _) (by omega)) (λp hp=>?_) (by have:=hs.len;omega) (by rw[Tp hs];exact hs),z2f _ _ (by have:=hA.2;omega) (by have:=(W8 (atL l a) (nth sets a.toNat)).2;omega) hA.1 (W8 _ _).1,QT _ _⟩;have:=hS.parts p ((Bn.1 hp).1);simp only[E7,Ab] at this;exact this.2
theorem T_cut{σ:Type}{P:Program}{n b:Nat}{env:Env}{H:Az}{Q:Ex->Env->Az->Prop}(live:σ->List (Nat × AV))(heap:σ->List Grp)(srcs:Env->Az->List Src){x y:AC}
 (h1:T P n b x env H (Ex.then (λenv' H'=>∃s',Head b env' H' (srcs env' H') (live s') (heap s')) Q)) (h2:∀s,T P n b y (E0 (live s)) (hl (heap s)) Q):T P n b (.seq x y) env H Q:=F8 (T.mono h1 λx env' H' hh=>by
 cases x with
 |normal=>obtain⟨s',k⟩:=hh;exact OZ k (h2 s')
 |exit id=>exact hh
 |ret=>exact hh)
theorem pc_tt{P:Program}{f m np:Nat}{xs:List AV}{y:AV}{res:List ARes}{B:AC}(hf:Bj P f xs.length=some ⟨m,np,res,B⟩)(h:T P m 0 B (entry xs) (Abs.hl []) (Ret P res λz H=>CE 4 H z/\ansW (frzV 4 H z) y)):PC P f xs y:=by
 refine zc9 hf 4 ?_;rw[RP];exact T.mono h λx env H hh=>Qs (λz H hh=>⟨hh.1,ZP hh.2⟩) hh
theorem em2(a b:Int):(a=b/\True)\/(¬a=b/\¬b=a):=by
 rcases Classical.em (a=b) with h|h
 ·exact .inl ⟨h,trivial⟩
 ·exact .inr ⟨h,λq=>h q.symm⟩
def mpO(l:List Part)(pl:List Int):List AV:=pl.flatMap λa=>[.int .i64 a,Gv (atL l a)]
theorem W9{l:List Part}{z:AV}{a:Int}:∀{pl:List Int},a∈pl->Il z a (mpO l pl)=some (Gv (atL l a))
 |[],h=>by cases h
 |b::pl,h=>by
  rw[show mpO l (b::pl)=.int .i64 b::Gv (atL l b)::mpO l pl from rfl,OV];split
  ·rename_i e;rw[e]
  ·rename_i e;exact W9 ((Af.1 h).resolve_left λq=>e q.symm)
theorem WA(l:List Part):∀pl:List Int,AD (mpO l pl)=true
 |[]=>rfl
 |b::pl=>by
  rw[show mpO l (b::pl)=[.int .i64 b,Gv (atL l b)]++mpO l pl from rfl,Kd,WA l pl];simp[AD,AV.pure,IU]
theorem P8{a:Int}:∀{l:List Part}{pl:List Int},a∈l.foldl Fe pl->a∈pl\/∃p∈l,p.at_=a
 |[],_,h=>.inl h
 |p::l,pl,h=>by
  rcases P8 (l:=l) h with h|⟨q,h1,h2⟩
  ·unfold Fe at h
   split at h
   ·exact .inl h
   ·rcases Am.1 h with h|h
    ·exact .inl h
    ·exact .inr ⟨p,by simp,(An.1 h).symm⟩
  ·exact .inr ⟨q,by simp[h1],h2⟩
theorem P9:∀(l:List Part)(pl:List Int),(l.foldl Fe pl).length<=pl.length+l.length
 |[],_=>Ad _
 |p::l,pl=>by
  have h:=P9 l (Fe pl p);have k:(Fe pl p).length<=pl.length+1:=by unfold Fe;split<;>simp
  show (l.foldl Fe (Fe pl p)).length<=_;rw[List.length_cons];omega
theorem WB{l:List Part}{sets:List (List Span)}:∀(q:List Int){out:List Span},Acc out->Acc (q.foldl (I8 l sets) out)
 |[],_,h=>h
 |_::q,_,_=>WB q (QT _ _)
set_option maxHeartbeats 2000000 in
theorem UO(t:Term)(sets:List (List Span))(hl:t.parts.length<=4)(hs:Gc t.sum=true)(hS:P7 t.parts sets):
 PC Tryz.prog 208 [GK t,DT sets] (.tup [Bf (Io t sets),.bool (OC (Io t sets))]):=by
 obtain⟨bs,dr,tk,up,sm,l⟩:=t;simp only at hl hs hS;have hg:=Cc sets;have A0:=z2h hs
 have hb:∀a∈Fv l,0<=a/\a<sets.length:=λa h=>by
  rcases P8 h with h|⟨p,hp,rfl⟩
  ·cases h
  ·exact HT (hS.parts p hp)
 have hmp:∀a∈Fv l,Il .nilS a (mpO l (Fv l))=some (Gv (atL l a)):=λa h=>W9 h;have hpu:=WA l (Fv l);have hpn:(Fv l).length<=4:=AZ (P9 l []) (by simpa using hl);have hv:Io ⟨bs,dr,tk,up,sm,l⟩ sets=(Fv l).foldl (I8 l sets) [⟨sm,sm⟩]:=rfl;rw[hv];obtain⟨pl,hpl⟩:∃pl,Fv l=pl:=⟨_,rfl⟩;obtain⟨mp,hme⟩:∃mp,mpO l (Fv l)=mp:=⟨_,rfl⟩;rw[hme] at hmp hpu;rw[hpl] at hb hmp hme hpn ⊢;clear hv;refine pc_tt QC ?_;unfold Kt;refine F8 (W_T ?_);(with_reducible repeat'(first|simp (disch:=omega) only[push_cast,↓zz,seval]|apply Aa|refine sp_ ?_ ?_<;>intro hc<;>push_cast at hc|omega|intro _));refine F8 (W_T ?_);(with_reducible repeat'(first|simp (disch:=omega) only[push_cast,↓zz,seval]|apply Aa|refine sp_ ?_ ?_<;>intro hc<;>push_cast at hc|omega|intro _));refine F8 (W_T ?_);(with_reducible repeat'(first|simp (disch:=omega) only[push_cast,↓zz,seval]|apply Aa|refine sp_ ?_ ?_<;>intro hc<;>push_cast at hc|omega|intro _));refine T_cut (σ:=Unit) (λ_=>[(1,DT sets),(2,.ptr 0 1 0 0),(6,.map 1 1),(7,.lst 1 (pl.map (AV.int .i64)))]) (λ_=>[⟨6,1,true,[GK ⟨bs,dr,tk,up,sm,l⟩]⟩,⟨0,1,true,mp⟩]) (λenv _=>[Dg 6 (env 2),Dg 1 (env 6)]) (W_T ?_) ?_
 ·clear hmp hpu hpn hb hS A0 hs
  rcases l with _|⟨⟨a0,d0,t0,u0⟩,_|⟨⟨a1,d1,t1,u1⟩,_|⟨⟨a2,d2,t2,u2⟩,_|⟨⟨a3,d3,t3,u3⟩,_|⟨p4,l⟩⟩⟩⟩⟩
  case cons.cons.cons.cons.cons=>simp at hl
  all_goals first|(refine (em2 a0 a1).elim (λq=>?_) λn01=>?_;obtain⟨rfl,n01⟩:=q)|(have n01:=trivial)
  all_goals first|(refine (em2 a0 a2).elim (λq=>?_) λn02=>?_;obtain⟨rfl,n02⟩:=q)|(have n02:=trivial)
  all_goals first|(refine (em2 a1 a2).elim (λq=>?_) λn12=>?_;obtain⟨rfl,n12⟩:=q)|(have n12:=trivial)
  all_goals first|(refine (em2 a0 a3).elim (λq=>?_) λn03=>?_;obtain⟨rfl,n03⟩:=q)|(have n03:=trivial)
  all_goals first|(refine (em2 a1 a3).elim (λq=>?_) λn13=>?_;obtain⟨rfl,n13⟩:=q)|(have n13:=trivial)
  all_goals first|(refine (em2 a2 a3).elim (λq=>?_) λn23=>?_;obtain⟨rfl,n23⟩:=q)|(have n23:=trivial)
  all_goals
   simp[Fv,Fe,n01,n02,n12,n03,n13,n23] at hpl;subst hpl;simp[mpO,atL,n01,n02,n12,n03,n13,n23] at hme;subst hme
  all_goals (with_reducible repeat'(first|simp (disch:=omega) only[push_cast,↓zz,seval]|apply Aa|refine sp_ ?_ ?_<;>intro hc<;>push_cast at hc|omega|intro _))
  all_goals refine Sc 6 ?_
  all_goals (with_reducible repeat'(first|simp (disch:=omega) only[push_cast,↓zz,seval,xx,Af,Aj,Ar,B7,Dd,B8,BW,BV,Il,setM,n01,n02,n12,n03,n13,n23]|apply Aa|refine sp_ ?_ ?_<;>intro hc<;>push_cast at hc|refine Up ?_|((first|(refine Hf [1] ?_;(simp(disch:=omega)only[push_cast,↓zz,seval,xx,Af,Aj,Ar,B7,Dd,B8,BW,BV,Grp.mk.injEq,Il,setM,n01,n02,n12,n03,n13,n23]);fail_if_success change False)|(refine Hf [1,5] ?_;(simp(disch:=omega)only[push_cast,↓zz,seval,xx,Af,Aj,Ar,B7,Dd,B8,BW,BV,Grp.mk.injEq,Il,setM,n01,n02,n12,n03,n13,n23]);fail_if_success change False)|(refine Hf [1,8] ?_;(simp(disch:=omega)only[push_cast,↓zz,seval,xx,Af,Aj,Ar,B7,Dd,B8,BW,BV,Grp.mk.injEq,Il,setM,n01,n02,n12,n03,n13,n23]);fail_if_success change False)|(refine Hf [1,9] ?_;(simp(disch:=omega)only[push_cast,↓zz,seval,xx,Af,Aj,Ar,B7,Dd,B8,BW,BV,Grp.mk.injEq,Il,setM,n01,n02,n12,n03,n13,n23]);fail_if_success change False)|(refine Hf [1,11] ?_;(simp(disch:=omega)only[push_cast,↓zz,seval,xx,Af,Aj,Ar,B7,Dd,B8,BW,BV,Grp.mk.injEq,Il,setM,n01,n02,n12,n03,n13,n23]);fail_if_success change False)))|omega|intro _))
  all_goals exact⟨(),trivial⟩
 rintro _;have hpp:=AG .i64 pl;refine W_T ?_;(with_reducible repeat'(first|simp (disch:=omega) only[push_cast,↓zz,seval]|apply Aa|refine sp_ ?_ ?_<;>intro hc<;>push_cast at hc|omega|intro _))
 refine Bw (B5 (λ(j:Nat)=>j<=pl.length) (λj=>pl.length-j)
  (λj=>[(1,DT sets),(6,.map 0 1),(10,Bf ((pl.take j).foldl (I8 l sets) [⟨sm,sm⟩])),(53,.lst 1 (pl.map (AV.int .i64))),(54,.int .i64 pl.length),(55,.int .i64 j)])
  (λ_=>[⟨0,1,true,mp⟩]) (λenv _=>[Dg 1 (env 6)]) 0 (A6 _) ?_ ?_)
 ·(with_reducible repeat'(first|simp (disch:=omega) only[push_cast,↓zz,seval,hpu,List.foldl_nil,A4,A8]|apply Aa|refine sp_ ?_ ?_<;>intro hc<;>push_cast at hc|omega|intro _))
 intro j hj;have A1:=WB (l:=l) (sets:=sets) (pl.take j) A0;rcases Ak j pl.length with h|h
 ·have hm:=Bo h
  have hf:=hmp _ hm;have hbd:=hb _ hm;obtain⟨T1,P1,_⟩:=UN (a:=nth pl j) hS A1 hbd hl;have hst:(pl.take (j+1)).foldl (I8 l sets) [⟨sm,sm⟩]=I8 l sets ((pl.take j).foldl (I8 l sets) [⟨sm,sm⟩]) (nth pl j):=by rw[take_at h,Dn];rfl
  refine W_T ?_;generalize (pl.take j).foldl (I8 l sets) [⟨sm,sm⟩]=o at *;(with_reducible repeat'(first|simp (disch:=omega) only[push_cast,↓zz,seval,hf,hg,hpu]|apply Aa|refine sp_ ?_ ?_<;>intro hc<;>push_cast at hc|refine ee T1 ?_|refine ee P1 ?_|((first|refine cc T1 ?_|refine cc P1 ?_);(simp(disch:=omega)only[push_cast,↓zz,seval,hf,hg,hpu]);(fail_if_success change False))|omega|intro _))
  all_goals
   refine⟨j+1,?_⟩;(with_reducible repeat'(first|simp (disch:=omega) only[push_cast,↓zz,seval,hst,hpu]|apply Aa|refine sp_ ?_ ?_<;>intro hc<;>push_cast at hc|omega|intro _))
 obtain rfl:j=pl.length:=by omega
 rw[AA] at A1;have htk:pl.take pl.length=pl:=AA;rw[htk];generalize pl.foldl (I8 l sets) [⟨sm,sm⟩]=o at *;have hF:=Y4 o (by have:=A1.2;omega);have hL:=z1y o (by have:=A1.2;omega);refine W_T ?_;(with_reducible repeat'(first|simp (disch:=omega) only[push_cast,↓zz,seval,OC]|apply Aa|refine sp_ ?_ ?_<;>intro hc<;>push_cast at hc|refine ee hF ?_|refine ee hL ?_|((first|refine cc hF ?_|refine cc hL ?_);(simp(disch:=omega)only[push_cast,↓zz,seval,OC]);(fail_if_success change False))|omega|intro _))
 all_goals ((try simp only[*,BA,Bp,AP,Bh]);(repeat'(first|(simp(disch:=omega)only[push_cast,↓zz,seval,DC])|omega|(with_reducible refine Aa ?_ ?_))))
def midG(gs:List (List Span))(k:Nat):List (List Span):=(gs.take k).map symI++List.replicate (gs.length-k) []
theorem WC{gs:List (List Span)}{k:Nat}(h:k<=gs.length):(midG gs k).length=gs.length:=by simp[midG];omega
theorem z8k(gs:List (List Span)):midG gs gs.length=gs.map symI:=by simp[midG]
theorem z8l{gs:List (List Span)}{k:Nat}(h:k<gs.length):((midG gs k).map Bf).set k (Bf (symI (nth gs k)))=(midG gs (k+1)).map Bf:=by
 have e:gs.length-k=(gs.length-(k+1))+1:=by omega
 rw[midG,midG,take_at h,e,List.replicate_succ,Ao,Dm _ _ (by simp;omega)];simp[show min k gs.length=k by omega]
theorem zfp{gs:List (List Span)}{k:Nat}(h:k<gs.length):nth (midG gs (k+1)) k=symI (nth gs k):=by
 rw[midG,take_at h,nth,Aq,Ao,A3,AE (by simp;omega)];simp[show min k gs.length=k by omega]
theorem z8m(n:Nat):AD (List.replicate n AV.nilS)=true:=by
 induction n with
 |zero=>rfl
 |succ n ih=>simp[List.replicate_succ,AD,AV.pure,ih]
theorem z8n(l:List Grp)(gs:List (List Span)):leSL l (List.replicate gs.length .nilS) ((midG gs 0).map Bf):=by
 simp only[midG,List.take_zero,A8,List.nil_append,Nat.sub_zero,CY];generalize gs.length=n
 induction n with
 |zero=>rfl
 |succ n ih=>exact⟨⟨by decide,rfl⟩,ih⟩
def Lw(gs:List (List Span))(k:Nat):Bool:=(gs.take k).all λg=>decide (0<((symI g).length:Int))
theorem z8o{gs:List (List Span)}{k:Nat}(h:k<gs.length):Lw gs (k+1)=(Lw gs k&&decide (0<((symI (nth gs k)).length:Int))):=by
 rw[Lw,take_at h,List.all_append];simp[Lw]
def prtB(t:Term)(n:Int):Bool:=t.parts.all λp=>E7 p n
def F5(t:Term)(gs:List (List Span)):List Span × Bool :=
 if 4<gs.length\/Dz t=false then ([],false) else if prtB t gs.length=false then ([],false) else
  if Lw gs gs.length=false then ([],true) else (Io t (gs.map symI),OC (Io t (gs.map symI)))
theorem zk6{l:List Part}{n:Int}{k:Nat}(h:k<l.length):(l.drop k).all (λp=>E7 p n)=(E7 (nth l k) n&&(l.drop (k+1)).all λp=>E7 p n):=by rw[drop_at h,List.all_cons]
theorem Lx{t:Term}{gs:List (List Span)}(h:prtB t gs.length=true)(hg:gs.length<=4):P7 t.parts (gs.map symI) where
 parts p hp:=by
  rw[Bi];exact AR.1 h p hp
 syms s hs:=by
  obtain⟨g,_,rfl⟩:=Au.1 hs;exact Tj g
 many:=by simp;omega
theorem Y8(t:Term)(gs:List (List Span))(ht:t.parts.length<1000000000000)(hg:∀g∈gs,g.length<=1000000)(hl:gs.length<=9223372036854775807):
 PC Tryz.prog 188 [GK t,DT gs] (.tup [Bf (F5 t gs).1,.bool (F5 t gs).2]):=by
 have hP:=Cc gs;have hN:=I6 t ht;have hY:=Tk;refine Cg SR ?_;unfold Mf;by_cases h1:4<gs.length\/Dz t=false
 ·rw[F5,Ae h1]
  (with_reducible repeat'(first|simp (disch:=omega) only[push_cast,↓zz,seval]|apply Aa|refine sp_ ?_ ?_<;>intro hc<;>push_cast at hc|refine ee hN ?_|(refine cc hN ?_;(simp(disch:=omega)only[push_cast,↓zz,seval]);(fail_if_success change False))|omega|intro _))
  all_goals first
   |((repeat'(first|(simp(disch:=omega)only[push_cast,↓zz,seval,DC])|omega|(with_reducible refine Aa ?_ ?_)));done)
   |(exfalso;rcases h1 with h1|h1<;>first|omega|simp_all)
 have h4:gs.length<=4:=by omega
 have hn:Dz t=true:=by simpa using (Dd.1 h1).2
 (with_reducible repeat'(first|simp (disch:=omega) only[push_cast,↓zz,seval,hn]|apply Aa|refine sp_ ?_ ?_<;>intro hc<;>push_cast at hc|refine ee hN ?_|(refine cc hN ?_;(simp(disch:=omega)only[push_cast,↓zz,seval,hn]);(fail_if_success change False))|omega|intro _))
 refine Bw (B5 (λ(k:Nat)=>k<=gs.length) (λk=>gs.length-k)
  (λk=>[(1,DT gs),(2,.ptr 0 1 0 0),(6,.bool (Lw gs k)),(7,.ref 1 1 0 gs.length),(23,DT gs),(24,.int .i64 gs.length),(25,.int .i64 k)]) (λk=>[⟨6,1,true,[GK t]⟩,⟨1,1,true,(midG gs k).map Bf⟩]) (λenv _=>[Dg 1 (env 2),Dg 1 (env 7)]) 0 (by simp) ?_ ?_)
 ·have e:=z8n
  have hr:AD (List.replicate gs.length AV.nilS)=true:=z8m gs.length;have hs0:Lw gs 0=true:=rfl;(with_reducible repeat'(first|simp (disch:=omega) only[push_cast,↓zz,seval,hs0,hP,hr]|apply Aa|refine sp_ ?_ ?_<;>intro hc<;>push_cast at hc|omega|intro _))
  all_goals exact e _ gs
 intro k hk;have hml:=WC hk;have hpm:=Cc (midG gs k);rcases Ak k gs.length with hkl|hkl
 ·have hM:=NN (nth gs k) [⟨0,1114111⟩] (by have:=hg _ (Bo hkl);omega) (by simp)
  rw[z8h] at hM;have e1:=z8l hkl;have e2:=zfp hkl;have e3:=z8o hkl;have hpm2:=Cc (midG gs (k+1));have hml2:=WC (gs:=gs) (k:=k+1) (by omega);refine W_T ?_;(with_reducible repeat'(first|simp (disch:=omega) only[push_cast,↓zz,seval,hP,hpm,hpm2,hml,hml2,e1,e2]|apply Aa|refine sp_ ?_ ?_<;>intro hc<;>push_cast at hc|refine ee hY ?_|refine ee hM ?_|((first|refine cc hY ?_|refine cc hM ?_);(simp(disch:=omega)only[push_cast,↓zz,seval,hP,hpm,hpm2,hml,hml2,e1,e2]);(fail_if_success change False))|omega|intro _))
  all_goals
   refine⟨k+1,?_⟩;(with_reducible repeat'(first|simp (disch:=omega) only[push_cast,↓zz,seval,e3]|apply Aa|refine sp_ ?_ ?_<;>intro hc<;>push_cast at hc|omega|intro _))
  all_goals (simp only[*,AP,Bh])
 ·obtain rfl:k=gs.length:=by omega
  rw[z8k] at *;refine W_T ?_;(with_reducible repeat'(first|simp (disch:=omega) only[push_cast,↓zz,seval,hP,hpm]|apply Aa|refine sp_ ?_ ?_<;>intro hc<;>push_cast at hc|omega|intro _))
  refine Bw (B5 (λ(k:Nat)=>k<=t.parts.length/\prtB t gs.length=(t.parts.drop k).all λp=>E7 p gs.length) (λk=>t.parts.length-k)
   (λk=>[(1,DT gs),(2,.ptr 0 1 0 0),(6,.bool (Lw gs gs.length)),(7,DT (gs.map symI)),(47,Gv t.parts),(48,.int .i64 t.parts.length),(49,.int .i64 k)]) (λk=>[⟨6,1,true,[GK t]⟩]) (λenv _=>[Dg 1 (env 2)]) 0 ⟨by simp,rfl⟩ ?_ ?_)
  ·have et:List.take gs.length (gs.map symI)=gs.map symI:=Ay (by simp)
   (with_reducible repeat'(first|simp (disch:=omega) only[push_cast,↓zz,seval,hP,hpm,et]|apply Aa|refine sp_ ?_ ?_<;>intro hc<;>push_cast at hc|omega|intro _))
  rintro k ⟨k1,k2⟩;rcases Ak k t.parts.length with hkp|hkp
  ·have hR:=GD (nth t.parts k) gs.length
   rw[zk6 hkp] at k2;refine W_T ?_;(with_reducible repeat'(first|simp (disch:=omega) only[push_cast,↓zz,seval,hP,hpm]|apply Aa|refine sp_ ?_ ?_<;>intro hc<;>push_cast at hc|refine ee hR ?_|(refine cc hR ?_;(simp(disch:=omega)only[push_cast,↓zz,seval,hP,hpm]);(fail_if_success change False))|omega|intro _))
   ·have hp:prtB t gs.length=false:=by rw[k2];simp[*]
    rw[F5,Ac h1,Ae hp];(repeat'(first|(simp(disch:=omega)only[push_cast,↓zz,seval,DC])|omega|(with_reducible refine Aa ?_ ?_)))
   ·exact⟨k+1,by push_cast,⟨by omega,by rw[k2];simp[*]⟩,by omega⟩
  ·rw[Ax hkp] at k2
   have hp:prtB t gs.length=true:=k2;have hnum:=hn;simp only[Dz,Ab,Ai] at hnum;have hV:=UO t (gs.map symI) hnum.2.2 hnum.1.1.2 (Lx hp h4);have hI:F5 t gs=if Lw gs gs.length=false then ([],true) else (Io t (gs.map symI),OC (Io t (gs.map symI))):=by rw[F5,Ac h1,Ac (by simp[hp])]
   refine W_T ?_;(with_reducible repeat'(first|simp (disch:=omega) only[push_cast,↓zz,seval,hP,hpm]|apply Aa|refine sp_ ?_ ?_<;>intro hc<;>push_cast at hc|refine ee hV ?_|(refine cc hV ?_;(simp(disch:=omega)only[push_cast,↓zz,seval,hP,hpm]);(fail_if_success change False))|omega|intro _))
   all_goals
    rw[hI]
    first
     |rw[Ae (by assumption)]
     |rw[Ac (by simp[*])]
    (repeat'(first|(simp(disch:=omega)only[push_cast,↓zz,seval,DC])|omega|(with_reducible refine Aa ?_ ?_)))
   all_goals trace_state
def F6(t:Term)(gs:List (List Span)):List Span × Bool :=
 if (F5 t gs).2=false then ([],false) else if (F5 t gs).1.length=0 then ([],true) else (Fl (imgL t.outer (F5 t gs).1) t.base,true)
theorem z2i(t:Term)(gs:List (List Span))(h:Gc t.sum=true):(F5 t gs).1.length<=2147483649:=by
 unfold F5
 repeat' split
 all_goals first|(simp;done)|skip
 unfold Io
 have key:∀(pl:List Int)(out:List Span),Acc out->Acc (pl.foldl (I8 t.parts (gs.map symI)) out):=λpl=>by
  induction pl with
  |nil=>exact λout h=>h
  |cons a pl ih=>exact λout h=>ih _ (QT _ _)
 exact (key _ _ (z2h h)).2
theorem Y9(t:Term)(gs:List (List Span))(ht:t.parts.length<1000000000000)(hg:∀g∈gs,g.length<=1000000)(hl:gs.length<=9223372036854775807):
 PC Tryz.prog 168 [GK t,DT gs] (.tup [Bf (F6 t gs).1,.bool (F6 t gs).2]):=by
 have hP:=Cc gs;have hI:=Y8 t gs ht hg hl;have hO:=Gj t
 have hlen:(F5 t gs).2=true->(F5 t gs).1.length<=2147483649:=λh=>by
  by_cases hs:Gc t.sum=true
  ·exact z2i t gs hs
  ·have:Dz t=false:=by simp[Dz,hs]
   rw[F5,Ae (.inr this)] at h;cases h
 refine Cg SP ?_;unfold Md;rcases Bool.eq_false_or_eq_true (F5 t gs).2 with h2|h2
 ·have hl2:=hlen h2
  have hA:=QU t.outer (F5 t gs).1;have hM:=P6 t.outer (F5 t gs).1 (by omega);have hV:=Tm (imgL t.outer (F5 t gs).1) t.base (by have:=hA.2;omega);(with_reducible repeat'(first|simp (disch:=omega) only[push_cast,↓zz,seval,hP,h2]|apply Aa|refine sp_ ?_ ?_<;>intro hc<;>push_cast at hc|refine ee hI ?_|refine ee hO ?_|refine ee hM ?_|refine ee hV ?_|((first|refine cc hI ?_|refine cc hO ?_|refine cc hM ?_|refine cc hV ?_);(simp(disch:=omega)only[push_cast,↓zz,seval,hP,h2]);(fail_if_success change False))|omega|intro _))
  all_goals
   rw[F6,Ac (by simp[h2])]
   first
    |rw[Ae (by omega)]
    |rw[Ac (by omega)]
   (repeat'(first|(simp(disch:=omega)only[push_cast,↓zz,seval,DC])|omega|(with_reducible refine Aa ?_ ?_)))
 ·(with_reducible repeat'(first|simp (disch:=omega) only[push_cast,↓zz,seval,hP,h2]|apply Aa|refine sp_ ?_ ?_<;>intro hc<;>push_cast at hc|refine ee hI ?_|(refine cc hI ?_;(simp(disch:=omega)only[push_cast,↓zz,seval,hP,h2]);(fail_if_success change False))|omega|intro _))
  all_goals
   rw[F6,Ae h2];(repeat'(first|(simp(disch:=omega)only[push_cast,↓zz,seval,DC])|omega|(with_reducible refine Aa ?_ ?_)))
def Ly(t:Term)(i o:Int)(gs:List (List Span)):Bool:=H7 t i o gs.length&&((F6 t gs).2&&decide (Er (F6 t gs).1 (domL o)=[]))
theorem z2j(t:Term)(gs:List (List Span)):(F6 t gs).1.length<=2147483649:=by
 unfold F6
 repeat' split
 all_goals first|(simp;done)|skip
 have h1:=(QU t.outer (F5 t gs).1).2;have h2:=z8i (imgL t.outer (F5 t gs).1) t.base;simp only;omega
theorem z2k(s:Int):(domL s).length<=2:=by unfold domL;split<;>(try split)<;>simp
theorem z2l(t:Term)(i o:Int)(gs:List (List Span))(ht:t.parts.length<1000000000000)(hg:∀g∈gs,g.length<=1000000)(hl:gs.length<=9223372036854775807):
 PC Tryz.prog 143 [GK t,.int .i64 i,.int .i64 o,DT gs] (.bool (Ly t i o gs)):=by
 have hP:=Cc gs;have hR:=Yn t i o gs.length ht;have hI:=Y9 t gs ht hg hl;have hD:=E2 o;have hW:=HU (F6 t gs).1 (domL o) (by have:=z2j t gs;omega) (by have:=z2k o;omega);refine Cg U3 ?_;unfold N7 Ly;(with_reducible repeat'(first|simp (disch:=omega) only[push_cast,↓zz,seval,hP]|apply Aa|refine sp_ ?_ ?_<;>intro hc<;>push_cast at hc|refine ee hR ?_|refine ee hI ?_|refine ee hD ?_|refine ee hW ?_|((first|refine cc hR ?_|refine cc hI ?_|refine cc hD ?_|refine cc hW ?_);(simp(disch:=omega)only[push_cast,↓zz,seval,hP]);(fail_if_success change False))|omega|intro _))
 all_goals simp only[*,AP,Bh]
def K8:Int->List Span->Bool
 |_,[]=>true
 |last,s::l=>decide (s.lo<=s.hi/\-1073741824<=s.lo/\s.hi<=1073741824/\last+1<s.lo)&&K8 s.hi l
def Jp(g:List Span):Bool:=K8 (-1073741826) g
theorem PD(g:List Span)(hl:g.length<=9223372036854775807):PC Tryz.prog 142 [Bf g] (.bool (Jp g)):=by
 refine Cg SL ?_;unfold Ma;(with_reducible repeat'(first|simp (disch:=omega) only[push_cast,↓zz,seval]|apply Aa|refine sp_ ?_ ?_<;>intro hc<;>push_cast at hc|omega|intro _))
 refine Bw (B5 (λ(s:Nat × Int)=>s.1<=g.length/\Jp g=K8 s.2 (g.drop s.1)/\-1073741826<=s.2/\s.2<=1073741824) (λs=>g.length-s.1)
  (λs=>[(3,.int .i64 s.2),(6,Bf g),(7,.int .i64 g.length),(8,.int .i64 s.1)]) (λs=>[]) (λ_ _=>[]) (0,-1073741826) ⟨by simp,rfl,by simp,by simp⟩ ?_ ?_)
 ·(with_reducible repeat'(first|simp (disch:=omega) only[push_cast,↓zz,seval]|apply Aa|refine sp_ ?_ ?_<;>intro hc<;>push_cast at hc|omega|intro _))
 rintro⟨k,last⟩ ⟨h1,h2,h3,h4⟩;simp only at h1 h2 h3 h4;rcases Ak k g.length with hk|hk
 ·rw[drop_at hk,K8] at h2
  generalize hxe:nth g k=x at *;have hw:IntKind.i64.wrap (last+1)=last+1:=IntWalk.i64_in _ (by omega);refine W_T ?_;(with_reducible repeat'(first|simp (disch:=omega) only[push_cast,↓zz,seval,hw,hxe]|apply Aa|refine sp_ ?_ ?_<;>intro hc<;>push_cast at hc|omega|intro _))
  all_goals first
   |(rw[h2,Bb (by omega),Bh];done)
   |exact⟨(k+1,x.hi),⟨rfl,by push_cast⟩,⟨by simp only;omega,by rw[h2,AO (by omega),AP],by simp only;omega,by simp only;omega⟩,by simp only;omega⟩
 ·rw[Ax hk,K8] at h2
  refine W_T ?_;(with_reducible repeat'(first|simp (disch:=omega) only[push_cast,↓zz,seval,h2]|apply Aa|refine sp_ ?_ ?_<;>intro hc<;>push_cast at hc|omega|intro _))
  all_goals trace_state
def EN(i:Int)(g:List Span):Bool:=!decide ((g.length:Int)=0)&&(decide ((g.length:Int)<=64)&&(Jp g&&decide (Er g (domL i)=[])))
def G0(i:Int)(gs:List (List Span)):Bool:=decide ((gs.length:Int)<=4)&&gs.all (EN i)
theorem NX(i:Int)(gs:List (List Span)):PC Tryz.prog 111 [.int .i64 i,DT gs] (.bool (G0 i gs)):=by
 have hP:=Cc gs;have hD:=E2 i;have hdl:=z2k i;refine Cg Q8 ?_;unfold Ko;by_cases h4:4<gs.length
 ·rw[G0,Bb (by omega),Bh]
  (with_reducible repeat'(first|simp (disch:=omega) only[push_cast,↓zz,seval]|apply Aa|refine sp_ ?_ ?_<;>intro hc<;>push_cast at hc|omega|intro _))
 rw[G0,AO (by omega),AP];(with_reducible repeat'(first|simp (disch:=omega) only[push_cast,↓zz,seval]|apply Aa|refine sp_ ?_ ?_<;>intro hc<;>push_cast at hc|refine ee hD ?_|(refine cc hD ?_;(simp(disch:=omega)only[push_cast,↓zz,seval]);(fail_if_success change False))|omega|intro _))
 refine Bw (B5 (λ(k:Nat)=>k<=gs.length/\gs.all (EN i)=(gs.drop k).all (EN i)) (λk=>gs.length-k)
  (λk=>[(5,Bf (domL i)),(13,DT gs),(14,.int .i64 gs.length),(15,.int .i64 k)]) (λs=>[]) (λ_ _=>[]) 0 ⟨by simp,rfl⟩ ?_ ?_)
 ·(with_reducible repeat'(first|simp (disch:=omega) only[push_cast,↓zz,seval,hP]|apply Aa|refine sp_ ?_ ?_<;>intro hc<;>push_cast at hc|omega|intro _))
 rintro k ⟨h1,h2⟩;rcases Ak k gs.length with hk|hk
 ·rw[drop_at hk,List.all_cons,EN] at h2
  generalize hge:nth gs k=g at *;refine W_T ?_;by_cases hl:(g.length:Int)=0
  ·rw[AO hl,Fx,Bh,Bh] at h2
   (with_reducible repeat'(first|simp (disch:=omega) only[push_cast,↓zz,seval,hP,hge,h2]|apply Aa|refine sp_ ?_ ?_<;>intro hc<;>push_cast at hc|omega|intro _))
  by_cases hl2:(g.length:Int)<=64
  ·rw[Bb hl,AO hl2,Eh,AP,AP] at h2
   have hW:=HU g (domL i) (by omega) (by omega);have hC:=PD g (by omega);(with_reducible repeat'(first|simp (disch:=omega) only[push_cast,↓zz,seval,hP,hge]|apply Aa|refine sp_ ?_ ?_<;>intro hc<;>push_cast at hc|refine ee hC ?_|refine ee hW ?_|((first|refine cc hC ?_|refine cc hW ?_);(simp(disch:=omega)only[push_cast,↓zz,seval,hP,hge]);(fail_if_success change False))|omega|intro _))
   all_goals first
    |(rw[h2];simp[*];done)
    |exact⟨k+1,by push_cast,⟨by omega,by rw[h2];simp[*]⟩,by omega⟩
  ·rw[Bb hl2,Bh,CO,Bh] at h2
   (with_reducible repeat'(first|simp (disch:=omega) only[push_cast,↓zz,seval,hP,hge,h2]|apply Aa|refine sp_ ?_ ?_<;>intro hc<;>push_cast at hc|omega|intro _))
 ·rw[Ax hk,List.all_nil] at h2
  refine W_T ?_;(with_reducible repeat'(first|simp (disch:=omega) only[push_cast,↓zz,seval,hP,h2]|apply Aa|refine sp_ ?_ ?_<;>intro hc<;>push_cast at hc|omega|intro _))
  all_goals trace_state
def Ik(d:Desc)(s:Int):Bool:=decide (0<=s)&&decide (s<d.states)
theorem IY(d:Desc)(s:Int):PC Tryz.prog 110 [E8 d,.int .i64 s] (.bool (Ik d s)):=by
 refine Cg SC ?_;unfold LQ Ik;(with_reducible repeat'(first|simp (disch:=omega) only[push_cast,↓zz,seval]|apply Aa|refine sp_ ?_ ?_<;>intro hc<;>push_cast at hc|omega|intro _))
 all_goals simp only[*,BA,Bp,AP,Bh]
def QV(d:Desc):Bool:=decide (0<((domL d.in_).length:Int))&&(decide (0<((domL d.out).length:Int))&&(decide (1<=d.states)&&(decide (d.states<=1024)&&(Ik d d.start&&(decide ((d.rules.length:Int)<=4096)&&decide ((d.finals.length:Int)<=4096))))))
theorem z2m(d:Desc):PC Tryz.prog 108 [E8 d] (.bool (QV d)):=by
 have h1:=E2 d.in_;have h2:=E2 d.out;have h3:=IY d d.start;refine Cg Uz ?_;unfold N2 QV;(with_reducible repeat'(first|simp (disch:=omega) only[push_cast,↓zz,seval]|apply Aa|refine sp_ ?_ ?_<;>intro hc<;>push_cast at hc|refine ee h1 ?_|refine ee h2 ?_|refine ee h3 ?_|((first|refine cc h1 ?_|refine cc h2 ?_|refine cc h3 ?_);(simp(disch:=omega)only[push_cast,↓zz,seval]);(fail_if_success change False))|omega|intro _))
 all_goals simp only[*,BA,Bp,AP,Bh]
 all_goals trace_state
def Ia(d:Desc)(out:List Term)(gs:List (List Span)):Bool:=decide ((out.length:Int)<=64)&&out.all λt=>Ly t d.in_ d.out gs
theorem NY(d:Desc)(out:List Term)(gs:List (List Span))(ho:∀t∈out,t.parts.length<1000000000000)(hg:∀g∈gs,g.length<=1000000)(hl:gs.length<=9223372036854775807):
 PC Tryz.prog 112 [E8 d,Hr out,DT gs] (.bool (Ia d out gs)):=by
 have hP:=Cc gs;have hT:=CI out;refine Cg Q9 ?_;unfold Kp;by_cases h4:64<out.length
 ·rw[Ia,Bb (by omega),Bh]
  (with_reducible repeat'(first|simp (disch:=omega) only[push_cast,↓zz,seval]|apply Aa|refine sp_ ?_ ?_<;>intro hc<;>push_cast at hc|omega|intro _))
 rw[Ia,AO (by omega),AP];(with_reducible repeat'(first|simp (disch:=omega) only[push_cast,↓zz,seval]|apply Aa|refine sp_ ?_ ?_<;>intro hc<;>push_cast at hc|omega|intro _))
 refine Bw (B5 (λ(k:Nat)=>k<=out.length/\(out.all λt=>Ly t d.in_ d.out gs)=(out.drop k).all λt=>Ly t d.in_ d.out gs) (λk=>out.length-k)
  (λk=>[(2,DT gs),(3,.ptr 0 1 0 0),(12,Hr out),(13,.int .i64 out.length),(14,.int .i64 k)]) (λs=>[⟨6,1,true,[E8 d]⟩]) (λenv _=>[Dg 1 (env 3)]) 0 ⟨by simp,rfl⟩ ?_ ?_)
 ·(with_reducible repeat'(first|simp (disch:=omega) only[push_cast,↓zz,seval,hP,hT]|apply Aa|refine sp_ ?_ ?_<;>intro hc<;>push_cast at hc|omega|intro _))
 rintro k ⟨h1,h2⟩;rcases Ak k out.length with hk|hk
 ·rw[drop_at hk,List.all_cons] at h2
  have hF:=z2l (nth out k) d.in_ d.out gs (ho _ (Bo hk)) hg hl;refine W_T ?_;(with_reducible repeat'(first|simp (disch:=omega) only[push_cast,↓zz,seval,hP,hT]|apply Aa|refine sp_ ?_ ?_<;>intro hc<;>push_cast at hc|refine ee hF ?_|(refine cc hF ?_;(simp(disch:=omega)only[push_cast,↓zz,seval,hP,hT]);(fail_if_success change False))|omega|intro _))
  all_goals first
   |(rw[h2];simp[*];done)
   |exact⟨k+1,by push_cast,⟨by omega,by rw[h2];simp[*]⟩,by omega⟩
 ·rw[Ax hk,List.all_nil] at h2
  refine W_T ?_;(with_reducible repeat'(first|simp (disch:=omega) only[push_cast,↓zz,seval,hP,hT,h2]|apply Aa|refine sp_ ?_ ?_<;>intro hc<;>push_cast at hc|omega|intro _))
  all_goals trace_state
def eatB(n e:Int):Bool:=!decide (e<min n 1)&&!decide (n<e)
def K9(d:Desc)(r:Rule):Bool:=Ik d r.from_&&(Ik d r.to_&&(G0 d.in_ r.guards&&(eatB r.guards.length r.eat&&Ia d r.out r.guards)))
theorem GZ{i:Int}{gs:List (List Span)}(h:G0 i gs=true):gs.length<=4/\∀g∈gs,g.length<=64:=by
 simp only[G0,Ab,Ai] at h;refine⟨by omega,λg hg=>?_⟩;have:=AR.1 h.2 g hg;simp only[EN,Ab,Ai] at this;omega
theorem z2n(d:Desc)(r:Rule)(ho:∀t∈r.out,t.parts.length<1000000000000):PC Tryz.prog 109 [E8 d,Hs r] (.bool (K9 d r)):=by
 have h1:=IY d r.from_;have h2:=IY d r.to_;have h3:=NX d.in_ r.guards;have hP:=Cc r.guards;have hT:=CI r.out;refine Cg U0 ?_;unfold N3 K9 eatB;cases hg:G0 d.in_ r.guards with
 |false =>
  rw[hg] at h3;(with_reducible repeat'(first|simp (disch:=omega) only[push_cast,↓zz,seval,hP,hT]|apply Aa|refine sp_ ?_ ?_<;>intro hc<;>push_cast at hc|refine ee h1 ?_|refine ee h2 ?_|refine ee h3 ?_|((first|refine cc h1 ?_|refine cc h2 ?_|refine cc h3 ?_);(simp(disch:=omega)only[push_cast,↓zz,seval,hP,hT]);(fail_if_success change False))|omega|intro _))
  all_goals simp only[*,BA,Bp,AP,Bh,CO]
 |true =>
  rw[hg] at h3;obtain⟨g1,g2⟩:=GZ hg;have h4:=NY d r.out r.guards ho (λg hg=>by have:=g2 g hg;omega) (by omega);(with_reducible repeat'(first|simp (disch:=omega) only[push_cast,↓zz,seval,hP,hT]|apply Aa|refine sp_ ?_ ?_<;>intro hc<;>push_cast at hc|refine ee h1 ?_|refine ee h2 ?_|refine ee h3 ?_|refine ee h4 ?_|((first|refine cc h1 ?_|refine cc h2 ?_|refine cc h3 ?_|refine cc h4 ?_);(simp(disch:=omega)only[push_cast,↓zz,seval,hP,hT]);(fail_if_success change False))|omega|intro _))
  all_goals simp only[*,BA,Bp,AP,Bh,CO,Fx,Eh,DG]
  all_goals trace_state
abbrev UP(v:Nat)(l:List Int):Grp:=⟨1,v,l.isEmpty,l.map (AV.int .i64)⟩
def famF(n:Nat)(V:Nat->Nat)(D:Nat->List Int):List Grp:=(List.range n).map λi=>UP (V i) (D i)
def famT(n:Nat)(V:Nat->Nat)(D:Nat->List Int):List AV:=(List.range n).map λi=>AV.ref (i+3) (V i) 0 (D i).length
def famI(n:Nat)(f:Nat->Int):List AV:=(List.range n).map λi=>AV.int .i64 (f i)
theorem Es{α:Type}{n i:Nat}{f:Nat->α}{x:α}(h:i<n):((List.range n).map f).set i x=(List.range n).map λj=>if j=i then x else f j:=by
 refine Cj (by simp) λj h1 h2=>?_;simp only[DL,Bi,CH] at h1;simp only[List.getElem_set,E9,DX];by_cases e:i=j
 ·rw[Ae e,Ae e.symm]
 ·rw[Ac e,Ac λh=>e h.symm]
theorem CK{α:Type}{n i:Nat}{f:Nat->α}{z:α}(h:i<n):((List.range n).map f).getD i z=f i:=by simp[List.getD,h]
theorem JI{ks:List Nat}{G:Grp}:∀{l:List Grp}{p i:Nat},p+i∈ks->CU p ks l (l.set i G)
 |[],p,i,h=>trivial
 |a::l,p,0,h=>⟨.inl h,sameBut_refl⟩
 |a::l,p,i+1,h=>⟨.inr rfl,JI (by rwa [show p+1+i=p+(i+1) by omega])⟩
where sameBut_refl {ks:List Nat}:∀{l:List Grp}{p:Nat},CU p ks l l
 |[],p=>trivial
 |a::l,p=>⟨.inr rfl,sameBut_refl⟩
theorem WE:∀(l:List Grp)(G G':Grp),setQ (l++[G]) l.length G'=some (l++[G'])
 |[],_,_=>rfl
 |a::l,G,G'=>by rw[List.cons_append,List.length_cons,setQ,WE l G G'];rfl
theorem WG:∀(l:List Grp)(G G':Grp){i:Nat},i<l.length->setQ (l++[G]) i G'=some (l.set i G'++[G])
 |[],_,_,i,h=>by simp at h
 |a::l,G,G',0,h=>rfl
 |a::l,G,G',i+1,h=>by rw[List.cons_append,setQ,WG l G G' (by simpa using h)];rfl
def setV(V:Nat->Nat)(i v:Nat)(j:Nat):Nat:=if j=i then v else V j
structure CycOk(d:Desc):Prop where
 st:1<=d.states/\d.states<=1024
 len:d.rules.length<=4096
 rul:∀r∈d.rules,(0<=r.from_/\r.from_<d.states)/\0<=r.to_/\r.to_<d.states
def NZ(d:Desc)(k:Nat):Env:=E0 [(1,.ptr 0 1 0 0),(3,.ref 1 1 0 d.states.toNat),(4,.ref 2 1 0 d.states.toNat),(21,F4 d.rules),(22,.int .i64 d.rules.length),(23,.int .i64 k)]
def Ef(d:Desc)(k:Nat)(V:Nat->Nat):Az:=Abs.hl (⟨6,1,true,[E8 d]⟩::⟨1,1,true,famT d.states.toNat V (toD (d.rules.take k))⟩::⟨1,1,true,famI d.states.toNat (inD (d.rules.take k))⟩::famF d.states.toNat V (toD (d.rules.take k)))
def cycL(d:Desc)(k:Nat)(V:Nat->Nat):List Grp:=⟨6,1,true,[E8 d]⟩::⟨1,1,true,famT d.states.toNat V (toD (d.rules.take k))⟩::⟨1,1,true,famI d.states.toNat (inD (d.rules.take k))⟩::famF d.states.toNat V (toD (d.rules.take k))
theorem PE(d:Desc)(k:Nat)(V:Nat->Nat):Ef d k V=Abs.hl (cycL d k V):=rfl
theorem QW(d:Desc)(k:Nat)(V:Nat->Nat):(cycL d k V).length=d.states.toNat+3:=by simp[cycL,famF]
theorem H8(d:Desc):(E8 d).pure=true:=by simp[E8,AV.pure,AD,Ca,Cn]
theorem UQ(d:Desc)(k:Nat)(V:Nat->Nat):∀G∈cycL d k V,ltL (cycL d k V).length G.xs:=λG hG=>by
 rw[QW];simp only[cycL,Af] at hG;rcases hG with rfl|rfl|rfl|hG
 ·exact CM _ _ (by simp[AD,H8])
 ·have key:∀(l:List Nat),(∀i∈l,i<d.states.toNat)->ltL (d.states.toNat+3) (l.map λi=>AV.ref (i+3) (V i) 0 (toD (d.rules.take k) i).length):=λl=>by
   induction l with
   |nil=>exact λ_=>trivial
   |cons i l ih =>
    intro h;exact⟨by have:=h i (by simp);show i+3<_;omega,ih λj hj=>h j (by simp[hj])⟩
  exact key _ λi hi=>by simpa using hi
 ·exact CM _ _ (BU.2 λx hx=>by
   obtain⟨i,_,rfl⟩:=Au.1 hx
   rfl)
 ·obtain⟨i,_,rfl⟩:=Au.1 hG
  exact CM _ _ (AG .i64 _)
theorem z2o{d:Desc}{k:Nat}{V:Nat->Nat}{env:Env}{l gar:List Grp}(hn:1<=d.states)(hl':l=cycL d k V++gar)
 (h1:env 1=.ptr 0 1 0 0) (h3:env 3=.ref 1 1 0 d.states.toNat) (h4:env 4=.ref 2 1 0 d.states.toNat) (h21:env 21=F4 d.rules) (h22:env 22=.int .i64 d.rules.length) (h23:env 23=.int .i64 k) :
 Ent 105 0 env (Abs.hl l) (NZ d k) (Ef d k V):=by
 rw[hl',PE];refine (M4 [(1,.ptr 0 1 0 0),(3,.ref 1 1 0 d.states.toNat),(4,.ref 2 1 0 d.states.toNat),(21,F4 d.rules),(22,.int .i64 d.rules.length),(23,.int .i64 k)] (λp hp=>?_)).trans (Np (by omega) (UQ d k V) λi _=>?_)
 ·simp only[Af,Aj,Ar] at hp
  rcases hp with rfl|rfl|rfl|rfl|rfl|rfl<;>assumption
 ·rw[QW]
  have hr:ltV (d.states.toNat+3) (F4 d.rules):=Ct _ _ (by simp[F4,AV.pure,Ca]);simp only[E0]
  repeat' split
  all_goals first
   |exact hr
   |trivial
   |(show _<_;omega)
theorem z8p{n i:Nat}{V:Nat->Nat}{D:Nat->List Int}{x:Int}(h:i<n):(famT n V D).set i (.ref (i+3) (V i+1) 0 ((D i).length+1))=famT n (setV V i (V i+1)) λp=>if p=i then D i++[x] else D p:=by
 rw[famT,Es h,famT];refine AS λj _=>?_;by_cases e:j=i
 ·subst e;simp[setV]
 ·simp[setV,e]
theorem z8q{n i:Nat}{V:Nat->Nat}{D:Nat->List Int}{x:Int}(h:i<n):(famF n V D).set i ⟨1,V i+1,false,(D i).map (AV.int .i64)++[.int .i64 x]⟩=famF n (setV V i (V i+1)) λp=>if p=i then D i++[x] else D p:=by
 rw[famF,Es h,famF];refine AS λj _=>?_;by_cases e:j=i
 ·subst e;simp[setV,UP]
 ·simp[setV,e]
theorem WH{n j:Nat}{f:Nat->Int}{x:Int}(h:j<n):(famI n f).set j (.int .i64 x)=famI n λp=>if p=j then x else f p:=by
 rw[famI,Es h,famI];refine AS λp _=>?_;by_cases e:p=j
 ·subst e;simp
 ·simp[e]
theorem z8r{l:List Rule}{k i:Nat}(hk:k<l.length)(hi:(nth l k).from_=i)(he:CZ (nth l k)=true):toD (l.take (k+1))=λp=>if p=i then toD (l.take k) i++[(nth l k).to_] else toD (l.take k) p:=by
 funext p;rw[take_at hk];simp only[toD,C6,Ao,Cb,List.filter_nil,he,AP,hi,Ai];by_cases e:p=i
 ·subst e;simp
 ·rw[Ac (by omega),Ac e];simp
theorem z8s{l:List Rule}{k j:Nat}(hk:k<l.length)(hj:(nth l k).to_=j)(he:CZ (nth l k)=true):inD (l.take (k+1))=λp=>if p=j then inD (l.take k) j+1 else inD (l.take k) p:=by
 funext p;rw[take_at hk];simp only[inD,C6,Ah,Cb,List.filter_nil,he,AP,hj,Ai];by_cases e:p=j
 ·subst e;simp
 ·rw[Ac (by omega),Ac e];simp
theorem z8t{l:List Rule}{k:Nat}(hk:k<l.length)(he:CZ (nth l k)=false):toD (l.take (k+1))=toD (l.take k)/\inD (l.take (k+1))=inD (l.take k):=by
 rw[take_at hk];refine⟨?_,?_⟩<;>funext p<;>simp[toD,inD,he]
theorem z2p(l:List Rule)(j:Nat):0<=inD l j/\inD l j<=l.length:=by
 have:=BL (λr=>CZ r&&decide (r.to_=j)) l;simp only[inD];omega
theorem zbd(l:List Rule)(j:Nat):(toD l j).length<=l.length:=by
 have:=BL (λr=>CZ r&&decide (r.from_=j)) l;simp only[toD,Bi];omega
theorem JJ(l0:List Grp):∀l:List Grp,Ho l0 l l
 |[]=>trivial
 |G::l=>⟨⟨rfl,rfl,id,Br _ _⟩,JJ l0 l⟩
theorem z8u(n:Nat):famF n (λ_=>1) (toD [])=(List.replicate n 1).map Im:=by
 rw[CY];refine Cj (by simp[famF]) λi h1 h2=>?_;simp only[famF,E9,DX,List.getElem_replicate];rfl
theorem z8v(n:Nat):famI n (inD [])=List.replicate n (.int .i64 0):=by
 refine Cj (by simp[famI]) λi h1 h2=>?_;simp[famI,inD]
theorem z2q{l:List Grp}{n:Nat}(h:∀i,i<n->l.getD (i+3) default=Im 1/\i+3<l.length):leSL l (List.replicate n .nilS) (famT n (λ_=>1) (toD [])):=by
 have key:∀idx:List Nat,(∀i∈idx,i<n)->leSL l (List.replicate idx.length .nilS) (idx.map λi=>AV.ref (i+3) 1 0 (toD [] i).length):=λidx=>by
  induction idx with
  |nil=>exact λ_=>rfl
  |cons i idx ih =>
   intro hi;obtain⟨h1,h2⟩:=h i (hi i (by simp));refine⟨?_,ih λj hj=>hi j (by simp[hj])⟩;show 0=0/\(toD [] i).length=0/\(l.getD (i+3) default).ver=1/\0<(l.getD (i+3) default).w/\(l.getD (i+3) default).xs=[]/\(l.getD (i+3) default).exact=true/\i+3<l.length;rw[h1];exact⟨rfl,rfl,rfl,by decide,rfl,rfl,h2⟩
 have:=key (List.range n) λi hi=>by simpa using hi
 rwa [CH] at this
theorem z2r{d:Desc}{env:Env}(h1:env 1=.ptr 0 1 0 0)(h3:env 3=.ref 1 1 0 d.states.toNat)(h4:env 4=.ref 2 1 0 d.states.toNat)(h21:env 21=F4 d.rules)(h22:env 22=.int .i64 d.rules.length)(h23:env 23=.int .i64 0):
 Ent 105 0 env (Abs.hl [⟨6,1,true,[E8 d]⟩,⟨1,1,true,List.replicate d.states.toNat .nilS⟩,⟨1,1,true,List.replicate d.states.toNat (.int .i64 0)⟩]) (NZ d 0) (Ef d 0 λ_=>1):=by
 refine (M4 [(1,.ptr 0 1 0 0),(3,.ref 1 1 0 d.states.toNat),(4,.ref 2 1 0 d.states.toNat),(21,F4 d.rules),(22,.int .i64 d.rules.length),(23,.int .i64 0)] (λp hp=>?_)).trans
  ((Q1 (List.replicate d.states.toNat 1) (λw hw=>by have:=(List.mem_replicate.1 hw).2;omega)).trans (Sq ?_ λi _=>EC _ _))
 ·simp only[Af,Aj,Ar] at hp
  rcases hp with rfl|rfl|rfl|rfl|rfl|rfl<;>assumption
 ·rw[List.take_zero,z8u,z8v]
  refine⟨⟨rfl,rfl,id,Br _ _⟩,⟨rfl,rfl,id,z2q λi hi=>?_⟩,⟨rfl,rfl,id,Br _ _⟩,JJ _ _⟩;refine⟨?_,by simp;omega⟩;rw[CY];simp[List.getD,hi]
def z2s(n:Nat)(D:Nat->List Int):AV:=.lst 1 ((List.range n).map λi=>Mu (D i))
theorem Oa{n b:Nat}{env:Env}{H H':Az}(hn:H'.n=H.n)(h:∀g,g<H.n->H'.at_ g=H.at_ g):Ent n b env H env H':=λS val hb hS hv=>⟨S,rfl,.refl hb,hS.congr hn h,hv⟩
def KA(n:Nat):List Nat:=1::(List.range n).map (·+3)
theorem Tq{n i:Nat}(h:i<n):i+3∈KA n:=Af.2 (.inr (Au.2 ⟨i,Bt.2 h,rfl⟩))
theorem zbe(d:Desc)(k:Nat)(V:Nat->Nat){i:Nat}(hi:i<d.states.toNat):(Ef d k V).at_ (i+3)=UP (V i) (toD (d.rules.take k) i):=by
 rw[Ef,De];simp only[D8];exact CK hi
theorem zfq(d:Desc)(k:Nat)(V:Nat->Nat):CE 2 ((Ef d k V).only (KA d.states.toNat)) (.ref 1 1 0 d.states.toNat)/\frzV 2 ((Ef d k V).only (KA d.states.toNat)) (.ref 1 1 0 d.states.toNat)=z2s d.states.toNat (toD (d.rules.take k)):=by
 have hat1:((Ef d k V).only (KA d.states.toNat)).at_ 1=⟨1,1,true,famT d.states.toNat V (toD (d.rules.take k))⟩:=by
  show (if 1∈KA d.states.toNat then (Ef d k V).at_ 1 else ((Ef d k V).at_ 1).dead)=_;rw[Ae (by simp[KA])];rfl
 have hat:∀i,i<d.states.toNat->((Ef d k V).only (KA d.states.toNat)).at_ (i+3)=UP (V i) (toD (d.rules.take k) i):=λi hi=>by
  show (if i+3∈KA d.states.toNat then (Ef d k V).at_ (i+3) else ((Ef d k V).at_ (i+3)).dead)=_;rw[Ae (Tq hi)];exact zbe d k V hi
 have htl:(((famT d.states.toNat V (toD (d.rules.take k))).drop 0).take d.states.toNat)=famT d.states.toNat V (toD (d.rules.take k)):=by
  rw[Bz];exact Ay (by simp[famT])
 constructor
 ·refine⟨by rw[hat1],by rw[hat1];exact Nat.one_pos,by rw[hat1];simp[famT],λy hy=>?_⟩
  rw[hat1,htl] at hy;obtain⟨i,hi,rfl⟩:=Au.1 hy;have hi':i<d.states.toNat:=by simpa using hi
  refine⟨by rw[hat i hi'],by rw[hat i hi'];exact Nat.one_pos,by rw[hat i hi'];simp,λz hz=>?_⟩;rw[hat i hi'] at hz;obtain⟨u,_,rfl⟩:=Au.1 (BB (B6 hz));rfl
 ·show AV.lst _ _=_
  rw[hat1,htl,z2s,famT,C8];congr 1;refine AS λi hi=>?_;have hi':i<d.states.toNat:=by simpa using hi
  show AV.lst _ _=_;rw[hat i hi']
  have e:(((UP (V i) (toD (d.rules.take k) i)).xs.drop 0).take (toD (d.rules.take k) i).length).map (frzV 0 ((Ef d k V).only (KA d.states.toNat)))=(toD (d.rules.take k) i).map (AV.int .i64):=by
   rw[Bz,Ay (by simp[UP])];refine (AS λx hx=>?_).trans (FT _);obtain⟨u,_,rfl⟩:=Au.1 hx;rfl
  rw[e]
def IZ(d:Desc)(k:Nat):List (Nat × AV):=[(1,.ptr 0 1 0 0),(3,z2s d.states.toNat (toD (d.rules.take k))),(4,.ref 2 1 0 d.states.toNat),(7,.nilS),(52,.ref 2 1 0 d.states.toNat),(53,.int .i64 d.states.toNat),(54,.int .i64 0)]
theorem YA{d:Desc}{k:Nat}{V:Nat->Nat}{env:Env}(h1:env 1=.ptr 0 1 0 0)(h3:env 3=.ref 1 1 0 d.states.toNat)(h4:env 4=.ref 2 1 0 d.states.toNat)(h7:env 7=.nilS)(h52:env 52=.ref 2 1 0 d.states.toNat)(h53:env 53=.int .i64 d.states.toNat)(h54:env 54=.int .i64 0):
 Ent 105 0 env (Ef d k V) (E0 (IZ d k)) (Abs.hl [⟨6,1,true,[E8 d]⟩,⟨0,2,false,[]⟩,⟨1,1,true,famI d.states.toNat (inD (d.rules.take k))⟩]):=by
 obtain⟨f1,f2⟩:=zfq d k V;rw[<-h3] at f1 f2;refine (Uq 3 2 (KA d.states.toNat) f1).trans ((M4 (IZ d k) λp hp=>?_).trans ((Oa (H':=Abs.hl ([⟨6,1,true,[E8 d]⟩,⟨0,2,false,[]⟩,⟨1,1,true,famI d.states.toNat (inD (d.rules.take k))⟩]++(famF d.states.toNat V (toD (d.rules.take k))).map Grp.dead)) ?_ ?_).trans (Np (by omega) ?_ ?_)))
 ·rw[f2]
  simp only[IZ,Af,Aj,Ar] at hp;rcases hp with rfl|rfl|rfl|rfl|rfl|rfl|rfl<;>first|rfl|assumption
 ·simp[Ef,Az.kill,Abs.hl]
 ·intro g hg
  show _=if g∈KA d.states.toNat then ((Ef d k V).at_ g).dead else (Ef d k V).at_ g
  have hlen:(Ef d k V).n=d.states.toNat+3:=QW d k V;have hg':g<d.states.toNat+3:=by rw[<-hlen];exact hg
  match g,hg' with
  |0,_=>rw[Ac (by simp[KA])];rfl
  |1,_=>rw[Ae (by simp[KA])];rfl
  |2,_=>rw[Ac (by simp[KA])];rfl
  |i+3,hi =>
   have hi':i<d.states.toNat:=by omega
   rw[Ae (Tq hi'),zbe d k V hi',De];simp only[List.cons_append,List.nil_append,D8,famF,C8];exact CK hi'
 ·intro G hG
  simp only[Af,Aj,Ar] at hG;rcases hG with rfl|rfl|rfl
  ·exact CM _ _ (by simp[AD,H8])
  ·trivial
  ·exact CM _ _ (BU.2 λx hx=>by
    obtain⟨i,_,rfl⟩:=Au.1 hx
    rfl)
 ·intro i _
  have hd:ltV 3 (z2s d.states.toNat (toD (d.rules.take k))):=trivial;simp only[E0,IZ]
  repeat' split
  all_goals first
   |exact hd
   |trivial
   |(show _<_;simp)
theorem YB(d:Desc)(hd:CycOk d):PC Tryz.prog 113 [E8 d] (.bool (@decide (cycP d.rules d.states.toNat) (Classical.propDecidable _))):=by
 obtain⟨⟨hn1,hn2⟩,hlen,hrul⟩:=hd;have hP:=Ca d.rules;refine Cg SD ?_;unfold LR;(with_reducible repeat'(first|simp (disch:=omega) only[push_cast,↓zz,seval]|apply Aa|refine sp_ ?_ ?_<;>intro hc<;>push_cast at hc|omega|intro _));refine Bw (J8 (λ(s:Nat × (Nat->Nat))=>s.1<=d.rules.length) (λs=>d.rules.length-s.1) (λs=>NZ d s.1) (λs=>Ef d s.1 s.2) (0,λ_=>1) (by simp) ?_ ?_)
 ·exact z2r rfl rfl rfl rfl rfl rfl
 rintro⟨k,V⟩ hk;simp only at hk ⊢;rcases Ak k d.rules.length with hkl|hkl
 ·have hr:=hrul _ (Bo hkl)
  generalize hre:nth d.rules k=r at *;have hgr:=Cc r.guards;have hot:=CI r.out;obtain⟨n,hn⟩:∃n:Nat,d.states=n:=⟨d.states.toNat,by omega⟩;obtain⟨i,hi⟩:∃i:Nat,r.from_=i:=⟨r.from_.toNat,by omega⟩;obtain⟨j,hj⟩:∃j:Nat,r.to_=j:=⟨r.to_.toNat,by omega⟩;have hin:i<n:=by omega
  have hjn:j<n:=by omega
  have hni:¬n=i:=by omega
  have ee:NZ d k=E0 [(1,.ptr 0 1 0 0),(3,.ref 1 1 0 n),(4,.ref 2 1 0 n),(21,F4 d.rules),(22,.int .i64 d.rules.length),(23,.int .i64 k)]:=by simp only[NZ,hn,Int.toNat_natCast]
  have eh:Ef d k V=Abs.hl (⟨6,1,true,[E8 d]⟩::⟨1,1,true,famT n V (toD (d.rules.take k))⟩::⟨1,1,true,famI n (inD (d.rules.take k))⟩::famF n V (toD (d.rules.take k))):=by simp only[Ef,hn,Int.toNat_natCast]
  rw[ee,eh];clear ee eh;have hFl:(famF n V (toD (d.rules.take k))).length=n:=by simp[famF]
  have hTl:(famT n V (toD (d.rules.take k))).length=n:=by simp[famT]
  have hIl:(famI n (inD (d.rules.take k))).length=n:=by simp[famI]
  have gI:∀G,(famF n V (toD (d.rules.take k))++[G]).getD i default=UP (V i) (toD (d.rules.take k) i):=λG=>by
   rw[Aq,A7 (by omega),<-Aq];exact CK hin
  have gR:∀G,(famF n V (toD (d.rules.take k))++[G]).getD n default=G:=λG=>by
   rw[Aq,AE (by omega)];simp[hFl]
  have tI:(famT n V (toD (d.rules.take k))).getD i .any=.ref (i+3) (V i) 0 (toD (d.rules.take k) i).length:=CK hin;have iJ:(famI n (inD (d.rules.take k))).getD j .any=.int .i64 (inD (d.rules.take k) j):=CK hjn
  have sR:∀G G',setQ (famF n V (toD (d.rules.take k))++[G]) n G'=some (famF n V (toD (d.rules.take k))++[G']):=λG G'=>by
   have:=WE (famF n V (toD (d.rules.take k))) G G'
   rwa [hFl] at this
  have sI:∀G G',setQ (famF n V (toD (d.rules.take k))++[G]) i G'=some ((famF n V (toD (d.rules.take k))).set i G'++[G]):=λG G'=>WG _ _ _ (by omega)
  have gR2:∀G G',((famF n V (toD (d.rules.take k))).set i G'++[G]).getD n default=G:=λG G'=>by
   rw[Aq,AE (by simp[hFl])];simp[hFl]
  have hSB:∀R G,CU 3 [i+3] (famF n V (toD (d.rules.take k))++[R]) ((famF n V (toD (d.rules.take k))).set i G++[R]):=λR G=>by
   rw[<-EG _ _ (by omega)];exact JI (by simp;omega)
  generalize hF:famF n V (toD (d.rules.take k))=F at *;generalize hT:famT n V (toD (d.rules.take k))=TT at *;generalize hI:famI n (inD (d.rules.take k))=II at *;generalize hD:toD (d.rules.take k) i=Di at *;generalize hJ:inD (d.rules.take k) j=Ij at *;refine W_T ?_;have hEx:(!Di.isEmpty||(Di.map (AV.int .i64)).isEmpty)=true:=by cases Di<;>rfl
  have hDl:Di.length<=4096:=by rw[<-hD];have:=zbd (d.rules.take k) i;simp at this;omega
  have hJb:0<=Ij/\Ij<=4096:=by rw[<-hJ];have:=z2p (d.rules.take k) j;simp at this;omega
  (with_reducible repeat'(first|simp (disch:=omega) only[push_cast,↓zz,seval,hP,hre,hi,hj,hFl,hTl,hIl,gI,gR,gR2,sR,sI,tI,iJ,List.cons_append,Ah,List.length_cons]|apply Aa|refine sp_ ?_ ?_<;>intro hc<;>push_cast at hc|omega|intro _))
  ·refine Hf [i+3] ?_
   (with_reducible repeat'(first|simp (disch:=omega) only[push_cast,↓zz,seval,xx,Af,Aj,Ar,B7,Dd,B8,BW,BV,hP,hre,hi,hj,hFl,hTl,hIl,gI,gR,gR2,sR,sI,tI,iJ,List.cons_append,Ah,List.length_cons,hni,hEx]|apply Aa|refine sp_ ?_ ?_<;>intro hc<;>push_cast at hc|omega|intro _))
   ·exact hSB _ _
   have he:CZ (nth d.rules k)=true:=by rw[hre,CZ];simpa using ‹(r.guards.length:Int)=0›
   have e1:=z8r (i:=i) hkl (by rw[hre];exact hi) he;have e2:=z8s (j:=j) hkl (by rw[hre];exact hj) he;refine⟨(k+1,setV V i (V i+1)),z2o (gar:=[⟨5,1,true,[.agg [.int .i64 i,.int .i64 j,DT r.guards,.int .i64 r.eat,Hr r.out]]⟩]) hn1 ?_ ?_ ?_ ?_ ?_ ?_ ?_,by simp only;omega,by simp only;omega⟩
   ·rw[cycL,e1,e2,hn,Int.toNat_natCast,<-hF,<-hT,<-hI,<-hD,<-hJ,hre,hj,z8p hin,WH hjn,z8q hin]
    rfl
   all_goals first|rfl|(rw[hn];rfl)
  ·have he:CZ (nth d.rules k)=false:=by rw[hre,CZ];simpa using ‹¬(r.guards.length:Int)=0›
   obtain⟨e1,e2⟩:=z8t hkl he;refine⟨(k+1,V),z2o (gar:=[⟨5,1,true,[.agg [.int .i64 i,.int .i64 j,DT r.guards,.int .i64 r.eat,Hr r.out]]⟩]) hn1 ?_ ?_ ?_ ?_ ?_ ?_ ?_,by simp only;omega,by simp only;omega⟩
   ·rw[cycL,e1,e2,hn,Int.toNat_natCast,hF,hT,hI]
    rfl
   all_goals first|rfl|(rw[hn];rfl)
 ·obtain rfl:k=d.rules.length:=by omega
  obtain⟨n,hn⟩:∃n:Nat,d.states=n:=⟨d.states.toNat,by omega⟩;have ee:NZ d d.rules.length=E0 [(1,.ptr 0 1 0 0),(3,.ref 1 1 0 n),(4,.ref 2 1 0 n),(21,F4 d.rules),(22,.int .i64 d.rules.length),(23,.int .i64 d.rules.length)]:=by simp only[NZ,hn,Int.toNat_natCast]
  refine W_T ?_;rw[ee,PE];(with_reducible repeat'(first|simp (disch:=omega) only[push_cast,↓zz,seval,hP]|apply Aa|refine sp_ ?_ ?_<;>intro hc<;>push_cast at hc|omega|intro _));refine zf5 (YA rfl (by rw[hn];rfl) (by rw[hn];rfl) rfl (by rw[hn];rfl) (by rw[hn];rfl) rfl) ?_
  have el:IZ d d.rules.length=[(1,.ptr 0 1 0 0),(3,.lst 1 ((List.range n).map λi=>Mu (toD d.rules i))),(4,.ref 2 1 0 n),(7,.nilS),(52,.ref 2 1 0 n),(53,.int .i64 n),(54,.int .i64 0)]:=by
   simp only[IZ,hn,Int.toNat_natCast,AA,z2s]
  rw[el,hn,Int.toNat_natCast,AA];clear el ee
  have pL:AD ((List.range n).map λi=>Mu (toD d.rules i))=true:=BU.2 λx hx=>by
   obtain⟨i,_,rfl⟩:=Au.1 hx;exact AG .i64 _
  have lL:((List.range n).map λi=>Mu (toD d.rules i)).length=n:=by simp
  have aL:∀i,i<n->((List.range n).map λi=>Mu (toD d.rules i)).getD i .any=Mu (toD d.rules i):=λi hi=>CK hi;have aL2:∀i,i<n->((List.range n).map λi=>Mu (toD d.rules i))[i]? = some (Mu (toD d.rules i)):=λi hi=>by simp[hi]
  generalize hLe:(List.range n).map (λi=>Mu (toD d.rules i))=L at *
  have pI:∀f,AD (famI n f)=true:=λf=>BU.2 λx hx=>by
   obtain⟨i,_,rfl⟩:=Au.1 hx;rfl
  have lI:∀f,(famI n f).length=n:=λf=>by simp[famI]
  have aI:∀f i,i<n->(famI n f).getD i .any=.int .i64 (f i):=λf i hi=>CK hi;have hnn:(n:Int)<=1024:=by omega
  refine Bw (B5 (λ(k:Nat)=>k<=n) (λk=>n-k)
   (λk=>[(1,.ptr 0 1 0 0),(3,.lst 1 L),(4,.ref 1 1 0 n),(7,.ref 2 1 0 (JF (inD d.rules) k).length),(52,.ref 1 1 0 n),(53,.int .i64 n),(54,.int .i64 k)]) (λk=>[⟨6,1,true,[E8 d]⟩,⟨1,1,true,famI n (inD d.rules)⟩,⟨1,1,false,(JF (inD d.rules) k).map (AV.int .i64)⟩]) (λenv _=>[Dg 1 (env 1),Dg 1 (env 4),Dg 1 (env 7)]) 0 (by simp) ?_ ?_)
  ·have z0:JF (inD d.rules) 0=[]:=rfl
   (with_reducible repeat'(first|simp (disch:=omega) only[push_cast,↓zz,seval,pL,lL,pI,lI,z0]|apply Aa|refine sp_ ?_ ?_<;>intro hc<;>push_cast at hc|omega|intro _))
  intro k hk;have zl:=z1g (inD d.rules) k;rcases Ak k n with hkn|hkn
  ·have aK:=aI (inD d.rules) k hkn
   have zs:=Yq (inD d.rules) k;have hib:=z2p d.rules k;generalize inD d.rules k=v at *;refine W_T ?_;(with_reducible repeat'(first|simp (disch:=omega) only[push_cast,↓zz,seval,pL,lL,pI,lI,aK]|apply Aa|refine sp_ ?_ ?_<;>intro hc<;>push_cast at hc|omega|intro _))
   ·rw[Ae (by assumption)] at zs
    refine⟨k+1,?_⟩;(with_reducible repeat'(first|simp (disch:=omega) only[push_cast,↓zz,seval,zs]|apply Aa|refine sp_ ?_ ?_<;>intro hc<;>push_cast at hc|omega|intro _))
   ·rw[Ac (by assumption)] at zs
    refine⟨k+1,?_⟩;(with_reducible repeat'(first|simp (disch:=omega) only[push_cast,↓zz,seval,zs]|apply Aa|refine sp_ ?_ ?_<;>intro hc<;>push_cast at hc|omega|intro _))
  ·have hkn2:n=k:=by omega
   subst hkn2;refine W_T ?_;(with_reducible repeat'(first|simp (disch:=omega) only[push_cast,↓zz,seval,pL,lL,pI,lI]|apply Aa|refine sp_ ?_ ?_<;>intro hc<;>push_cast at hc|omega|intro _))
   have hto:∀s m,m<(toD d.rules s).length->0<=nth (toD d.rules s) m/\nth (toD d.rules s) m<n:=λs m hm=>by
    have hm2:nth (toD d.rules s) m∈toD d.rules s:=Bo hm;generalize nth (toD d.rules s) m=x at *;obtain⟨r,hr,rfl⟩:=Au.1 hm2;have:=hrul r (Bn.1 hr).1;omega
   refine Bw (B5 (λ(s:List Int × List Int × List Int)=>KInv d.rules n (s.1++s.2.1) (cntE d.rules s.1)) (λs=>n-s.1.length)
    (λs=>[(1,.ptr 0 1 0 0),(3,.lst 1 L),(4,.ref 1 1 0 n),(7,.ref 2 1 s.2.2.length s.2.1.length),(10,.int .i64 s.1.length)]) (λs=>[⟨6,1,true,[E8 d]⟩,⟨1,1,true,famI n (cntE d.rules s.1)⟩,⟨1,1,false,(s.2.2++s.2.1).map (AV.int .i64)⟩]) (λenv _=>[Dg 1 (env 1),Dg 1 (env 4),Dg 1 (env 7)]) ([],JF (inD d.rules) n,[]) (Yr d.rules n) ?_ ?_)
   ·have e0:cntE d.rules []=inD d.rules:=funext λj=>QJ _ _
    (with_reducible repeat'(first|simp (disch:=omega) only[push_cast,↓zz,seval,pL,lL,pI,lI,e0]|apply Aa|refine sp_ ?_ ?_<;>intro hc<;>push_cast at hc|omega|intro _))
   rintro⟨P,td,junk⟩ hK;simp only at hK;have hlen2:=hK.len;rw[Ah] at hlen2;rcases td with _|⟨x,rest⟩
   ·rw[AB] at hK
    have hdone:=z1j (λr hr=>by have:=hrul r hr;omega) hK;refine W_T ?_;(with_reducible repeat'(first|simp (disch:=omega) only[push_cast,↓zz,seval,pL,lL,pI,lI]|apply Aa|refine sp_ ?_ ?_<;>intro hc<;>push_cast at hc|omega|intro _))
    all_goals exact BE.2 (by rw[<-hdone];omega)
   ·have hx:=hK.range x (by simp)
    obtain⟨s,rfl⟩:∃s:Nat,x=s:=⟨x.toNat,by omega⟩;have hsn:s<n:=by omega
    have hsP:(s:Int)∉P:=λhh=>by
     exact (Dp.1 hK.nodup).2.2 (s:Int) hh (s:Int) (by simp) rfl
    have aS:=aL s hsn;have aS2:=aL2 s hsn;have j0:(junk.map (AV.int .i64)++AV.int .i64 (s:Int)::rest.map (AV.int .i64)).getD junk.length .any=.int .i64 s:=by simp[List.getD]
    have j1:nth (junk++(s:Int)::rest) junk.length=s:=by simp[nth]
    have hjl:(junk++(s:Int)::rest).length=junk.length+(rest.length+1):=by simp
    simp only[List.length_cons] at hlen2;refine W_T ?_;(with_reducible repeat'(first|simp (disch:=omega) only[push_cast,↓zz,seval,pL,lL,pI,lI,aS,aS2,j0,j1,hjl,List.length_cons]|apply Aa|refine sp_ ?_ ?_<;>intro hc<;>push_cast at hc|omega|intro _))
    have hK0:KInv d.rules n (P++[(s:Int)]++rest) (FQ d.rules P s 0):=by
     rw[Pv,A3];exact hK
    have hDb:=zbd d.rules s
    refine Bw (B5 (λ(q:Nat × List Int × List Int)=>q.1<=(toD d.rules s).length/\KInv d.rules n (P++[(s:Int)]++q.2.1) (FQ d.rules P s q.1)) (λq=>(toD d.rules s).length-q.1)
     (λq=>[(1,.ptr 0 1 0 0),(3,.lst 1 L),(4,.ref 1 1 0 n),(7,.ref 2 1 q.2.2.length q.2.1.length),(10,.int .i64 P.length),(79,Mu (toD d.rules s)),(80,.int .i64 (toD d.rules s).length),(81,.int .i64 q.1)]) (λq=>[⟨6,1,true,[E8 d]⟩,⟨1,1,true,famI n (FQ d.rules P s q.1)⟩,⟨1,1,false,(q.2.2++q.2.1).map (AV.int .i64)⟩]) (λenv _=>[Dg 1 (env 1),Dg 1 (env 4),Dg 1 (env 7)]) (0,rest,junk++[(s:Int)]) ⟨by simp,hK0⟩ ?_ ?_)
    ·have e0:=Pv d.rules P s
     (with_reducible repeat'(first|simp (disch:=omega) only[push_cast,↓zz,seval,pL,lL,pI,lI,e0,Ao,A3,A4,A8,List.cons_append,List.nil_append,Ah,List.length_cons,List.length_nil]|apply Aa|refine sp_ ?_ ?_<;>intro hc<;>push_cast at hc|omega|intro _))
    rintro⟨m,td,jk⟩ ⟨m1,m2⟩;simp only at m1 m2;have hlen3:=m2.len;simp only[Ah,List.length_cons,List.length_nil] at hlen3;rcases Ak m (toD d.rules s).length with hm|hm
    ·obtain⟨t1,t2⟩:=hto s m hm
     obtain⟨t,ht⟩:∃t:Nat,nth (toD d.rules s) m=t:=⟨(nth (toD d.rules s) m).toNat,by omega⟩;have htn:t<n:=by omega
     have hst:=z1i hsP hm ht htn m2;have hle:=Lk (P:=P) hm ht;have hps:=SV hsP hm ht;have aT:=aI (FQ d.rules P s m) t htn;have aT2:=aI (FQ d.rules P s (m+1)) t htn;have hv:FQ d.rules P s (m+1) t=FQ d.rules P s m t-1:=by rw[hle];simp
     have hset:(famI n (FQ d.rules P s m)).set t (.int .i64 (FQ d.rules P s m t-1))=famI n (FQ d.rules P s (m+1)):=by rw[hle];exact WH htn
     have hlb:FQ d.rules P s m t<=4096:=by
      have c1:cntE d.rules P t<=inD d.rules t:=by
       rw[<-QJ];exact zfe _ _ _
      have c2:=z2p d.rules t;have c3:FQ d.rules P s m t<=cntE d.rules P t:=by simp only[FQ];omega
      omega
     rw[hv] at aT2;generalize FQ d.rules P s m t=v at *;refine W_T ?_
     have eD:List.drop jk.length (jk.map (AV.int .i64)++td.map (AV.int .i64))=td.map (AV.int .i64):=by
      rw[List.drop_append_of_le_length (by simp),Eb (by simp),List.nil_append]
     (with_reducible repeat'(first|simp (disch:=omega) only[push_cast,↓zz,seval,pL,lL,pI,lI,ht,aT,aT2,hset,eD]|apply Aa|refine sp_ ?_ ?_<;>intro hc<;>push_cast at hc|omega|intro _))
     ·rw[Ae (by assumption)] at hst
      refine⟨(m+1,td++[(t:Int)],jk),?_⟩;(with_reducible repeat'(first|simp (disch:=omega) only[push_cast,↓zz,seval,Ao,A3,A4,A8,Ah,List.length_cons,List.length_nil]|apply Aa|refine sp_ ?_ ?_<;>intro hc<;>push_cast at hc|omega|intro _));simpa [A3] using hst
     ·rw[Ae (by assumption)] at hst
      refine⟨(m+1,td++[(t:Int)],[]),?_⟩;(with_reducible repeat'(first|simp (disch:=omega) only[push_cast,↓zz,seval,Ao,A3,A4,A8,List.nil_append,Ah,List.length_cons,List.length_nil]|apply Aa|refine sp_ ?_ ?_<;>intro hc<;>push_cast at hc|omega|intro _));simpa [A3] using hst
     ·rw[Ac (by assumption)] at hst
      refine⟨(m+1,td,jk),?_⟩;(with_reducible repeat'(first|simp (disch:=omega) only[push_cast,↓zz,seval]|apply Aa|refine sp_ ?_ ?_<;>intro hc<;>push_cast at hc|omega|intro _));simpa [A3] using hst
    ·have hme:m=(toD d.rules s).length:=by omega
     subst hme;have hE:=z1h (l:=d.rules) hsP;rw[hE] at m2;rw[hE];refine W_T ?_;(with_reducible repeat'(first|simp (disch:=omega) only[push_cast,↓zz,seval,pL,lL,pI,lI]|apply Aa|refine sp_ ?_ ?_<;>intro hc<;>push_cast at hc|omega|intro _))
     all_goals
      refine⟨(P++[(s:Int)],td,jk),?_⟩;(with_reducible repeat'(first|simp (disch:=omega) only[push_cast,↓zz,seval,Ah,List.length_cons,List.length_nil]|apply Aa|refine sp_ ?_ ?_<;>intro hc<;>push_cast at hc|omega|intro _))
     all_goals (simpa [A3] using m2)
inductive Reach(E:List (Int × Int))(F:List Int):Int->Prop where
 |base {s:Int}:s∈F->Reach E F s
 |step {s t:Int}:Reach E F s->(s,t)∈E->Reach E F t
noncomputable def WI (E:List (Int × Int)) (F:List Int) (i:Nat):Bool:=@decide (Reach E F i) (Classical.propDecidable _)
structure InR(n:Nat)(F:List Int)(E:List (Int × Int)):Prop where
 f:∀s∈F,0<=s/\s<n
 e:∀e∈E,(0<=e.1/\e.1<n)/\0<=e.2/\e.2<n
theorem Reach.rng{n:Nat}{F:List Int}{E:List (Int × Int)}(h:InR n F E){s:Int}(hs:Reach E F s):0<=s/\s<n:=by
 cases hs with
 |base h1=>exact h.f _ h1
 |step _ h1=>exact (h.e _ h1).2
structure SpInv(n:Nat)(F:List Int)(E:List (Int × Int))(on:Nat->Bool)(todo:List Int):Prop where
 r1:∀s∈todo,Reach E F s
 r2:∀i:Nat,on i=true->Reach E F i
 base:∀s∈F,on s.toNat=true\/s∈todo
 step:∀i:Nat,on i=true->∀t,((i:Int),t)∈E->on t.toNat=true\/t∈todo
def setB(on:Nat->Bool)(s:Nat)(j:Nat):Bool:=if j=s then true else on j
theorem z8w{P:Program}{f m np:Nat}{xs:List AV}{y:AV}{res:List ARes}{B:AC}(hf:Bj P f xs.length=some ⟨m,np,res,B⟩)(h:T P m 0 B (entry xs) (Abs.hl []) (Ret P res λz H=>CE 4 H z/\ansW (frzV 4 H z) y)):PC P f xs y:=by
 refine zc9 hf 4 ?_;rw[RP];exact T.mono h λx env H hh=>Qs (λz H hh=>⟨hh.1,ZP hh.2⟩) hh
def spB(n:Nat)(on:Nat->Bool):List AV:=(List.range n).map λi=>AV.bool (on i)
theorem zfr{n s:Nat}{on:Nat->Bool}(h:s<n):(spB n on).set s (.bool true)=spB n (setB on s):=by
 rw[spB,Es h,spB];refine AS λp _=>?_;by_cases e:p=s
 ·subst e;simp[setB]
 ·simp[e,setB]
noncomputable def zbf (n:Nat) (F:List Int) (E:List (Int × Int)):List Bool:=(List.range n).map (WI E F)
def Ip{α:Type}(p:α->Bool):List α->Nat->Option Nat
 |[],_=>none
 |x::l,i=>if p x then Ip p l (i+1) else some i
theorem WJ{α:Type}[Inhabited α]{p:α->Bool}{l:List α}{k:Nat}(h:k<l.length):Ip p (l.drop k) k=if p (nth l k) then Ip p (l.drop (k+1)) (k+1) else some k:=by rw[drop_at h,Ip]
theorem Ja{α:Type}{p:α->Bool}:∀{l:List α}{i:Nat},Ip p l i=none->∀x∈l,p x=true
 |[],_,_,_,h=>by cases h
 |y::l,i,h,x,hx=>by
  rw[Ip] at h;split at h
  ·rename_i hp
   rcases Af.1 hx with rfl|hx
   ·exact hp
   ·exact Ja h x hx
  ·cases h
def Ha(d:Desc)(f:Hq):Bool:=Ik d f.from_&&(G0 d.in_ f.guards&&Ia d f.out f.guards)
open Classical in
noncomputable def Hb (d:Desc):Int × Int :=
 if QV d=false then (1,0) else
  match Ip (K9 d) d.rules 0 with
  |some i=>(2,i)
  |none=>match Ip (Ha d) d.finals 0 with
   |some i=>(3,i)
   |none=>if cycP d.rules d.states.toNat then (4,0) else (0,0)
def Lz(d:Desc):Prop:=(∀r∈d.rules,∀t∈r.out,t.parts.length<1000000000000)/\∀f∈d.finals,∀t∈f.out,t.parts.length<1000000000000
theorem z2t{d:Desc}(h:QV d=true):(1<=d.states/\d.states<=1024)/\d.rules.length<=4096/\d.finals.length<=4096/\0<=d.start/\d.start<d.states:=by
 simp only[QV,Ik,Ab,Ai] at h;omega
theorem z2u{d:Desc}{r:Rule}(h:K9 d r=true):(0<=r.from_/\r.from_<d.states)/\0<=r.to_/\r.to_<d.states:=by
 simp only[K9,Ik,Ab,Ai] at h;omega
theorem YC(d:Desc)(hf:Lz d):PC Tryz.prog 69 [E8 d] (.tup [.int .i64 (Hb d).1,.int .i64 (Hb d).2]):=by
 have hH:=z2m d;have hPr:=Ca d.rules;have hPf:=Cn d.finals;refine Cg S6 ?_;unfold LL;cases hh:QV d with
 |false =>
  rw[hh] at hH;rw[Hb,Ae hh];(with_reducible repeat'(first|simp (disch:=omega) only[push_cast,↓zz,seval]|apply Aa|refine sp_ ?_ ?_<;>intro hc<;>push_cast at hc|refine ee hH ?_|(refine cc hH ?_;(simp(disch:=omega)only[push_cast,↓zz,seval]);(fail_if_success change False))|omega|intro _))
 |true =>
 rw[hh] at hH;obtain⟨b1,b2,b3,b4⟩:=z2t hh
 have hW:Hb d=match Ip (K9 d) d.rules 0 with
  |some i=>(2,(i:Int))
  |none=>match Ip (Ha d) d.finals 0 with
   |some i=>(3,(i:Int))
   |none=>if (@decide (cycP d.rules d.states.toNat) (Classical.propDecidable _))=true then (4,0) else (0,0):=by
  rw[Hb,Ac (by simp[hh])];split
  ·rfl
  ·split
   ·rfl
   ·by_cases hc:cycP d.rules d.states.toNat
    ·rw[Ae hc,Ae (@AO _ (Classical.propDecidable _) hc)]
    ·rw[Ac hc,Ac (by rw[@Bb _ (Classical.propDecidable _) hc];simp)]
 (with_reducible repeat'(first|simp (disch:=omega) only[push_cast,↓zz,seval]|apply Aa|refine sp_ ?_ ?_<;>intro hc<;>push_cast at hc|refine ee hH ?_|(refine cc hH ?_;(simp(disch:=omega)only[push_cast,↓zz,seval]);(fail_if_success change False))|omega|intro _))
 refine Bw (B5 (λ(k:Nat)=>k<=d.rules.length/\Ip (K9 d) d.rules 0=Ip (K9 d) (d.rules.drop k) k) (λk=>d.rules.length-k)
  (λk=>[(1,.ptr 0 1 0 0),(12,F4 d.rules),(13,.int .i64 d.rules.length),(14,.int .i64 k)]) (λk=>[⟨6,1,true,[E8 d]⟩]) (λenv _=>[Dg 1 (env 1)]) 0 ⟨by simp,rfl⟩ ?_ ?_)
 ·(with_reducible repeat'(first|simp (disch:=omega) only[push_cast,↓zz,seval,hPr,hPf]|apply Aa|refine sp_ ?_ ?_<;>intro hc<;>push_cast at hc|omega|intro _))
 rintro k ⟨k1,k2⟩;rcases Ak k d.rules.length with hk|hk
 ·have hr:=z2n d (nth d.rules k) (hf.1 _ (Bo hk))
  rw[WJ hk] at k2;cases hb:K9 d (nth d.rules k) with
  |false =>
   rw[hb] at hr k2;simp only[A5,Bm] at k2;rw[hW,k2];refine W_T ?_;(with_reducible repeat'(first|simp (disch:=omega) only[push_cast,↓zz,seval,hPr,hPf]|apply Aa|refine sp_ ?_ ?_<;>intro hc<;>push_cast at hc|refine ee hr ?_|(refine cc hr ?_;(simp(disch:=omega)only[push_cast,↓zz,seval,hPr,hPf]);(fail_if_success change False))|omega|intro _))
  |true =>
   rw[hb] at hr k2;simp only[Be] at k2;refine W_T ?_;(with_reducible repeat'(first|simp (disch:=omega) only[push_cast,↓zz,seval,hPr,hPf]|apply Aa|refine sp_ ?_ ?_<;>intro hc<;>push_cast at hc|refine ee hr ?_|(refine cc hr ?_;(simp(disch:=omega)only[push_cast,↓zz,seval,hPr,hPf]);(fail_if_success change False))|omega|intro _))
   all_goals exact⟨k+1,by push_cast,⟨by omega,k2⟩,by omega⟩
 ·rw[Ax hk,Ip] at k2
  have hall:=Ja k2;have hC:=YB d ⟨b1,b2,λr hr=>z2u (hall r hr)⟩;rw[k2] at hW;simp only at hW;refine W_T ?_;(with_reducible repeat'(first|simp (disch:=omega) only[push_cast,↓zz,seval,hPr,hPf]|apply Aa|refine sp_ ?_ ?_<;>intro hc<;>push_cast at hc|omega|intro _))
  refine Bw (B5 (λ(k:Nat)=>k<=d.finals.length/\Ip (Ha d) d.finals 0=Ip (Ha d) (d.finals.drop k) k) (λk=>d.finals.length-k)
   (λk=>[(1,.ptr 0 1 0 0),(26,Gh d.finals),(27,.int .i64 d.finals.length),(28,.int .i64 k)]) (λk=>[⟨6,1,true,[E8 d]⟩]) (λenv _=>[Dg 1 (env 1)]) 0 ⟨by simp,rfl⟩ ?_ ?_)
  ·(with_reducible repeat'(first|simp (disch:=omega) only[push_cast,↓zz,seval,hPr,hPf]|apply Aa|refine sp_ ?_ ?_<;>intro hc<;>push_cast at hc|omega|intro _))
  rintro j ⟨j1,j2⟩;rcases Ak j d.finals.length with hj|hj
  ·generalize hfe:nth d.finals j=f at *
   have hfm:f∈d.finals:=by rw[<-hfe];exact Bo hj
   have hfo:=hf.2 f hfm;have h1:=IY d f.from_;have h2:=NX d.in_ f.guards;have hP:=Cc f.guards;have hT:=CI f.out;rw[WJ hj,hfe] at j2;cases hg:G0 d.in_ f.guards with
   |false =>
    have hb:Ha d f=false:=by rw[Ha,hg];simp
    rw[hg] at h2;rw[hb] at j2;simp only[A5,Bm] at j2;rw[hW,j2];refine W_T ?_;(with_reducible repeat'(first|simp (disch:=omega) only[push_cast,↓zz,seval,hPr,hPf,hfe,hP,hT]|apply Aa|refine sp_ ?_ ?_<;>intro hc<;>push_cast at hc|refine ee h1 ?_|refine ee h2 ?_|((first|refine cc h1 ?_|refine cc h2 ?_);(simp(disch:=omega)only[push_cast,↓zz,seval,hPr,hPf,hfe,hP,hT]);(fail_if_success change False))|omega|intro _))
   |true =>
    rw[hg] at h2;obtain⟨g1,g2⟩:=GZ hg;have h4:=NY d f.out f.guards hfo (λg hg=>by have:=g2 g hg;omega) (by omega);cases hb:Ha d f with
    |false =>
     rw[hb] at j2;simp only[A5,Bm] at j2;rw[hW,j2];rw[Ha,hg,AP] at hb;refine W_T ?_;(with_reducible repeat'(first|simp (disch:=omega) only[push_cast,↓zz,seval,hPr,hPf,hfe,hP,hT]|apply Aa|refine sp_ ?_ ?_<;>intro hc<;>push_cast at hc|refine ee h1 ?_|refine ee h2 ?_|refine ee h4 ?_|((first|refine cc h1 ?_|refine cc h2 ?_|refine cc h4 ?_);(simp(disch:=omega)only[push_cast,↓zz,seval,hPr,hPf,hfe,hP,hT]);(fail_if_success change False))|omega|intro _))
     all_goals first
      |(exfalso;simp_all;done)
      |trace_state
    |true =>
     rw[hb] at j2;simp only[Be] at j2;rw[Ha,hg,AP,Ab] at hb;rw[hb.1] at h1;rw[hb.2] at h4;refine W_T ?_;(with_reducible repeat'(first|simp (disch:=omega) only[push_cast,↓zz,seval,hPr,hPf,hfe,hP,hT]|apply Aa|refine sp_ ?_ ?_<;>intro hc<;>push_cast at hc|refine ee h1 ?_|refine ee h2 ?_|refine ee h4 ?_|((first|refine cc h1 ?_|refine cc h2 ?_|refine cc h4 ?_);(simp(disch:=omega)only[push_cast,↓zz,seval,hPr,hPf,hfe,hP,hT]);(fail_if_success change False))|omega|intro _))
     all_goals exact⟨j+1,by push_cast,⟨by omega,j2⟩,by omega⟩
  ·rw[Ax hj,Ip] at j2
   rw[j2] at hW;simp only at hW;generalize @decide (cycP d.rules d.states.toNat) (Classical.propDecidable _)=c at *;refine W_T ?_;rw[hW];cases c
   ·(with_reducible repeat'(first|simp (disch:=omega) only[push_cast,↓zz,seval,hPr,hPf]|apply Aa|refine sp_ ?_ ?_<;>intro hc<;>push_cast at hc|refine ee hC ?_|(refine cc hC ?_;(simp(disch:=omega)only[push_cast,↓zz,seval,hPr,hPf]);(fail_if_success change False))|omega|intro _))
   ·(with_reducible repeat'(first|simp (disch:=omega) only[push_cast,↓zz,seval,hPr,hPf]|apply Aa|refine sp_ ?_ ?_<;>intro hc<;>push_cast at hc|refine ee hC ?_|(refine cc hC ?_;(simp(disch:=omega)only[push_cast,↓zz,seval,hPr,hPf]);(fail_if_success change False))|omega|intro _))
    all_goals trace_state
noncomputable def Gw (d:Desc):Int:=if (Hb d).1=0 then 0 else 2
theorem PF(d:Desc)(hf:Lz d):PC Tryz.prog 25 [E8 d] (.int .i64 (Gw d)):=by
 have hW:=YC d hf;refine Cg Su ?_;unfold LF Gw;generalize Hb d=w at *;by_cases h:w.1=0
 ·rw[Ae h]
  (with_reducible repeat'(first|simp (disch:=omega) only[push_cast,↓zz,seval,h]|apply Aa|refine sp_ ?_ ?_<;>intro hc<;>push_cast at hc|refine ee hW ?_|(refine cc hW ?_;(simp(disch:=omega)only[push_cast,↓zz,seval,h]);(fail_if_success change False))|omega|intro _))
 ·rw[Ac h]
  (with_reducible repeat'(first|simp (disch:=omega) only[push_cast,↓zz,seval,h]|apply Aa|refine sp_ ?_ ?_<;>intro hc<;>push_cast at hc|refine ee hW ?_|(refine cc hW ?_;(simp(disch:=omega)only[push_cast,↓zz,seval,h]);(fail_if_success change False))|omega|intro _))
  all_goals trace_state
theorem fold_at{α β:Type}[Inhabited α]{f:β->α->β}{l:List α}{k:Nat}{s:β}(h:k<l.length):(l.drop k).foldl f s=(l.drop (k+1)).foldl f (f s (nth l k)):=by rw[drop_at h,List.foldl_cons]
def freeB(d:Desc):Bool:=d.rules.all λr=>!CZ r
def widF(n:Int)(r:Rule):Int:=max n r.guards.length
def zk7(d:Desc):Int:=d.rules.foldl widF 0
def aheF(n:Int)(r:Rule):Int:=max n (r.guards.length-max r.eat 0)
def zk8(d:Desc):Int:=d.rules.foldl aheF 0
def lonF(n:Int)(r:Rule):Int:=max n r.out.length
def lonG(n:Int)(f:Hq):Int:=max n f.out.length
def longV(d:Desc):Int:=d.finals.foldl lonG (d.rules.foldl lonF 0)
theorem zk9{P:Program}{f:Nat}{xs:List AV}{y y2:AV}(h:PC P f xs y)(hle:AV.le y y2):PC P f xs y2:=⟨h.1,λS cargs hS hx=>(h.2 S cargs hS hx).mono λe w' hh=>by
 obtain⟨v,S',x,H',he,hw,ev,hS',hv,rfl,rfl⟩:=hh
 exact⟨v,S',_,_,he,hw,ev,hS',hle S' v hv,rfl,rfl⟩⟩
end Go.Proofs.YtflibbceibjddaaGreat
