/-
  Parts of the proof that the law holds whatever the input; without conditions.
-/
import Derived.Shelf.SlSortCmp.WholeK
import Derived.Shelf.SlicesG.Cmp
import Derived.Shelf.Small.Bits
import Derived.Ground.SlsfProg
import Derived.Ground.SlgcProg
import Derived.Ground.NamesProg
import Derived.Test.YtflibbceibjddaaGreatProg
import Derived.Test.YtflibbceibjddaaGreatNF3
import Derived.Test.YtflibbceibjddaaGreatNF4
set_option linter.unusedSimpArgs false
set_option linter.unusedVariables false
set_option linter.unusedSectionVars false
namespace Go.Proofs
open Go.Shelf
def Tryz.sortSp_ren:Go.Shelf.Ren:=⟨fun|6=>169|15=>139|14=>190|28=>164|29=>165|20=>210|21=>211|22=>212|23=>213|24=>214|25=>215|26=>216|27=>217|46=>233|47=>182|48=>183|49=>234|50=>235|57=>246|n=>n,fun|22=>22|24=>129|25=>205|3=>3|39=>179|0=>0|53=>196|55=>198|4=>4|46=>190|45=>189|50=>141|5=>5|9=>9|66=>212|70=>216|76=>237|77=>103|n=>n,fun|n=>n⟩
theorem Tryz.sortSp:Go.Proofs.SlLaysF0.n6 Tryz.prog Tryz.sortSp_ren:={
 mixed:=by kernel_rfl
 f6:=⟨Tryz.f169.name,by decide,Tryz.func169.trans (congrArg some (by kernel_rfl))⟩
 f14:=⟨Tryz.f190.name,by decide,Tryz.func190.trans (congrArg some (by kernel_rfl))⟩
 f15:=Tryz.func139.trans (congrArg some (by kernel_rfl))
 f20:=⟨Tryz.f210.name,by decide,Tryz.func210.trans (congrArg some (by kernel_rfl))⟩
 f21:=⟨Tryz.f211.name,by decide,Tryz.func211.trans (congrArg some (by kernel_rfl))⟩
 f22:=⟨Tryz.f212.name,by decide,Tryz.func212.trans (congrArg some (by kernel_rfl))⟩
 f23:=⟨Tryz.f213.name,by decide,Tryz.func213.trans (congrArg some (by kernel_rfl))⟩
 f24:=⟨Tryz.f214.name,by decide,Tryz.func214.trans (congrArg some (by kernel_rfl))⟩
 f25:=⟨Tryz.f215.name,by decide,Tryz.func215.trans (congrArg some (by kernel_rfl))⟩
 f26:=⟨Tryz.f216.name,by decide,Tryz.func216.trans (congrArg some (by kernel_rfl))⟩
 f27:=⟨Tryz.f217.name,by decide,Tryz.func217.trans (congrArg some (by kernel_rfl))⟩
 f28:=Tryz.func164.trans (congrArg some (by kernel_rfl))
 f29:=Tryz.func165.trans (congrArg some (by kernel_rfl))
 f46:=⟨Tryz.f233.name,by decide,Tryz.func233.trans (congrArg some (by kernel_rfl))⟩
 f47:=Tryz.func182.trans (congrArg some (by kernel_rfl))
 f48:=Tryz.func183.trans (congrArg some (by kernel_rfl))
 f49:=⟨Tryz.f234.name,by decide,Tryz.func234.trans (congrArg some (by kernel_rfl))⟩
 f50:=⟨Tryz.f235.name,by decide,Tryz.func235.trans (congrArg some (by kernel_rfl))⟩
 f57:=⟨Tryz.f246.name,by decide,Tryz.func246.trans (congrArg some (by kernel_rfl))⟩
 t0:=Tryz.underlying0
 a0:=Tryz.isAgg0
 z0:=Tryz.sizeOf0
 v0:=Tryz.zeroValue0
 t3:=Tryz.underlying3
 a3:=Tryz.isAgg3
 z3:=Tryz.sizeOf3
 v3:=Tryz.zeroValue3
 t4:=Tryz.underlying4
 a4:=Tryz.isAgg4
 z4:=Tryz.sizeOf4
 v4:=Tryz.zeroValue4
 t5:=Tryz.underlying5
 a5:=Tryz.isAgg5
 z5:=Tryz.sizeOf5
 v5:=Tryz.zeroValue5
 t9:=Tryz.underlying9
 a9:=Tryz.isAgg9
 z9:=Tryz.sizeOf9
 v9:=Tryz.zeroValue9
 t22:=Tryz.underlying22
 a22:=Tryz.isAgg22
 z22:=Tryz.sizeOf22
 v22:=Tryz.zeroValue22
 t25:=Tryz.underlying205
 a25:=Tryz.isAgg205
 z25:=Tryz.sizeOf205
 v25:=Tryz.zeroValue205
 t39:=Tryz.underlying179
 a39:=Tryz.isAgg179
 z39:=Tryz.sizeOf179
 v39:=Tryz.zeroValue179
 t45:=Tryz.underlying189
 a45:=Tryz.isAgg189
 z45:=Tryz.sizeOf189
 v45:=Tryz.zeroValue189
 t46:=Tryz.underlying190
 a46:=Tryz.isAgg190
 z46:=Tryz.sizeOf190
 v46:=Tryz.zeroValue190
 t50:=Tryz.underlying141
 a50:=Tryz.isAgg141
 z50:=Tryz.sizeOf141
 v50:=Tryz.zeroValue141
 t53:=Tryz.underlying196
 a53:=Tryz.isAgg196
 z53:=Tryz.sizeOf196
 v53:=Tryz.zeroValue196
 t55:=Tryz.underlying198
 a55:=Tryz.isAgg198
 z55:=Tryz.sizeOf198
 v55:=Tryz.zeroValue198
 t66:=Tryz.underlying212
 a66:=Tryz.isAgg212
 z66:=Tryz.sizeOf212
 v66:=Tryz.zeroValue212
 t70:=Tryz.underlying216
 a70:=Tryz.isAgg216
 z70:=Tryz.sizeOf216
 v70:=Tryz.zeroValue216
 t76:=Tryz.underlying237
 a76:=Tryz.isAgg237
 z76:=Tryz.sizeOf237
 v76:=Tryz.zeroValue237
 t77:=Tryz.underlying103
 a77:=Tryz.isAgg103
 z77:=Tryz.sizeOf103
 v77:=Tryz.zeroValue103 }
def Tryz.cmpSp_ren:Go.Shelf.Ren:=⟨fun|5=>171|7=>191|n=>n,fun|22=>3|3=>3|4=>4|n=>n,fun|n=>n⟩
theorem Tryz.cmpSp:Go.Proofs.SlLaysC2.n5 Tryz.prog Tryz.cmpSp_ren:={
 mixed:=by kernel_rfl
 f5:=⟨Tryz.f171.name,by decide,Tryz.func171.trans (congrArg some (by kernel_rfl))⟩
 f7:=⟨Tryz.f191.name,by decide,Tryz.func191.trans (congrArg some (by kernel_rfl))⟩
 t3:=Tryz.underlying3
 a3:=Tryz.isAgg3
 z3:=Tryz.sizeOf3
 v3:=Tryz.zeroValue3
 t4:=Tryz.underlying4
 a4:=Tryz.isAgg4
 z4:=Tryz.sizeOf4
 v4:=Tryz.zeroValue4
 t22:=Tryz.underlying3
 a22:=Tryz.isAgg3
 z22:=Tryz.sizeOf3
 v22:=Tryz.zeroValue3 }
end Go.Proofs
namespace Go.Proofs.YtflibbceibjddaaGreat
open Abs O1 O2 O3 Go.Shelf Go.RowKit Go.Lib Go.Sort
def OK(x:Span):List Value:=[.int .i64 x.lo,.int .i64 x.hi]
def U8(x y:Span):Int:=Lib.compareInt x.lo y.lo
theorem ltLo(x y:Span):ltOf U8 x y=decide (x.lo<y.lo):=by
 unfold ltOf U8 Lib.compareInt;by_cases h1:x.lo<y.lo
 ·simp[h1]
 ·by_cases h2:y.lo<x.lo<;>simp[h1,h2]
theorem swoLo:SWO (ltOf U8) where
 irrefl x:=by rw[ltLo];simp
 trans x y z h1 h2:=by rw[ltLo] at *;simp at *;omega
 ntrans x y z h1 h2:=by rw[ltLo] at *;simp at *;omega
set_option maxHeartbeats 1000000 in
theorem ZZ(x y:Span)(W:World):Calls Tryz.prog 170 #[.agg #[.int .i64 x.lo,.int .i64 x.hi],.agg #[.int .i64 y.lo,.int .i64 y.hi]] W λe w'=>e=.returned (.int .i64 (U8 x y))/\∃q os',w'=grow (W.drewN q) os':=by
 have hcon:=λW'=>AnyG.cmp_Compare_int Tryz.cmpSp x.lo y.lo W';change ∀W',Calls Tryz.prog 171 _ _ _ at hcon;unfold U8;generalize Lib.compareInt x.lo y.lo=r at hcon ⊢
 go_enter Tryz.func170,Tryz.ntmps170
 go_wp2_with (go_at_call 171;refine (hcon _).mono ?_;rintro e w' ⟨rfl,rfl⟩)
 go_ret
 exact⟨rfl,0,_,by rw[alloc_eq_grow,alloc_eq_grow,grow_grow];rfl⟩
theorem z00(blk off size:Nat)(w:World):CmpLays Tryz.prog 170 #[] OK 2 U8 blk off size w :=
 λ_ _ _ _ x y=>ZZ x y _
theorem znt:∀w,(isAgg (Tryz.sortSp_ren.t 24)).run Tryz.prog w=.ok true w:=Tryz.isAgg129
theorem zj6:∀w,(Go.sizeOf (Tryz.sortSp_ren.t 24)).run Tryz.prog w=.ok 2 w:=Tryz.sizeOf129
theorem AB.split{S:MS}:∀{xs ys:List AV}{vs:List Value},AB S (xs++ys) vs->∃v1 v2,vs=v1++v2/\AB S xs v1/\AB S ys v2
 |[],ys,vs,h=>⟨[],vs,rfl,rfl,h⟩
 |x::xs,ys,vs,⟨v,r,hv,h1,h2⟩=>by
  obtain⟨v1,v2,rfl,h3,h4⟩:=AB.split h2;exact⟨v::v1,v2,by rw[hv];rfl,⟨v,v1,rfl,h1,h3⟩,h4⟩
abbrev HA(x:Span):Value:=.agg #[.int .i64 x.lo,.int .i64 x.hi]
theorem Q8{S:MS}:∀{l:List Span}{vs:List Value},AB S (l.map C2) vs->vs=l.map HA
 |[],vs,h=>h
 |x::l,vs,⟨v,r,hv,h1,h2⟩=>by
  obtain⟨ws,rfl,a,r1,rfl,rfl,c,r2,rfl,rfl,rfl⟩:=h1;rw[hv,Q8 h2];rfl
theorem Q9{S:MS}:∀(l:List Span),AB S (l.map C2) (l.map HA)
 |[]=>rfl
 |x::l=>⟨_,_,rfl,⟨_,rfl,_,_,rfl,rfl,_,_,rfl,rfl,rfl⟩,Q9 l⟩
theorem Rw(d:Array Span)(i j:Nat)(hi:i<d.size)(hj:j<2):(flatK OK 2 d)[i * 2+j]! = (OK d[i]!)[j]! := by
 rw[get_flatK _ _ _ _ (by omega),show (i * 2+j) / 2=i from by omega,show (i * 2+j) % 2=j from by omega]
theorem zbg{w:World}{b:Nat}{cells:Array Value}{T:TypeId}{l:List Span}(hb:w.heap[b]? = some (.cells cells T (0,0))){vr:List Value}(hf:Gw cells 2 (l.map HA++vr)):HoldsK OK 2 w b 0 l.toArray:=by
 intro j hj;rw[size_flatK,BP] at hj;have hi:j / 2<l.length:=by omega
 have he:(l.map HA++vr)[j / 2]? = some (HA l[j / 2]):=by rw[A9 (by simpa using hi)];simp[hi]
 obtain⟨_,_,h3⟩:=hf _ _ he;have h4:=h3 (j % 2) (by omega);rw[show j / 2 * 2+j % 2=j from by omega] at h4;have h5:=Rw l.toArray (j / 2) (j % 2) (by simpa using hi) (by omega);rw[show j / 2 * 2+j % 2=j from by omega] at h5;refine⟨?_,?_⟩
 ·simp only[World.cell?,hb,Bb,Option.isSome_none,A8,Bt,h4,id,h5]
  have hg:l.toArray[j / 2]! = l[j / 2]:=by simp[hi]
  rw[hg];rcases Nat.mod_two_eq_zero_or_one j with h|h<;>rw[h]<;>simp[HA,Value.cells,OK]
 ·simp[World.frozen?,hb]
theorem zj7{w:World}{b n:Nat}{cells:Array Value}{T:TypeId}{d:Array Span}{os:Array Obj}(hb:w.heap[b]? = some (.cells cells T (0,0)))(hsz:d.size * 2<=cells.size){v0 vr:List Value}(h0:v0.length=d.size)(hf:Gw cells 2 (v0++vr)):
 ∃cells',(sortWorldK OK 2 w b 0 n d os).heap[b]? = some (.cells cells' T (0,0))/\cells'.size=cells.size/\Gw cells' 2 (d.toList.map HA++vr):=by
 have hlt:b<w.heap.size:=(Bl.1 hb).1;refine⟨putCells id 0 (flatK OK 2 d) cells,?_,by simp[putCells],λi v hv=>?_⟩
 ·show ((w.heap.modify b _)++os)[b]? = _
  rw[BH (by rw[CM];exact hlt),Dw,Ae rfl,hb];rfl
 ·rcases Ak i d.size with hid|hid
  case inr =>
   rw[AD (by simpa using hid)] at hv;obtain⟨g1,g2,g3⟩:=hf i v (by rw[AD (by omega),h0];simpa using hv);refine⟨g1,g2,λj hj=>?_⟩;rw[<-g3 j hj,putCells,E8];cases hc:cells[i * 2+j]? with
   |none=>rfl
   |some c =>
    simp only[Option.map_some,Au,Ey,Bb,size_flatK];rw[Ab (by omega)]
  rw[A9 (by simpa using hid),D1] at hv;obtain⟨x,hx,rfl⟩:=Ag.1 hv;have hi:i<d.size:=by have:=(AI.1 hx).1;simpa using this
  refine⟨rfl,λc hc=>?_,λj hj=>?_⟩
  ·simp[HA,Value.cells] at hc
   rcases hc with rfl|rfl<;>rfl
  ·have h5:=Rw d i j hi hj
   have hlt2:i * 2+j<cells.size:=by omega
   have hd:d[i]! = x:=by
    rw[E9] at hx;rw[getElem!_pos d i hi];exact (Bl.1 hx).2
   rw[putCells,E8,DI hlt2];simp only[Option.map_some,Au,Ey,Bb,size_flatK,Nat.sub_zero];rw[Ae (by omega),h5,hd];rcases (by omega:j=0\/j=1) with rfl|rfl<;>simp[HA,Value.cells,OK]
def Ld(l:List Span):Prop:=l.Pairwise λa b=>a.lo<=b.lo
theorem z57{d:Array Span}(h:SortedIn (ltOf U8) 0 d.size d):Ld d.toList:=by
 rw[Ld,Cq];intro i j hi hj hij;have hi':i<d.size:=by simpa using hi
 have hj':j<d.size:=by simpa using hj
 have:=h i j (Au _) hij hj';rw[ltLo,getElem!_pos d j hj',getElem!_pos d i hi'] at this;simp at this;simpa using this
theorem zj8{H:A5}{g ver:Nat}{ex:Bool}{l:List Span}{rest:List AV}(hg:g<H.n)(hG:H.at_ g=⟨2,ver,ex,l.map C2++rest⟩)(h1:l≠[])(hl:l.length<4611686018427387904):
 B3 Tryz.prog 169 [.ref g ver 0 l.length,.fn 170 []] H λy H'=>y=.tup []/\∃l':List Span,l'.Perm l/\Ld l'/\H'=H.set g ⟨2,ver,ex,l'.map C2++rest⟩:=by
 have eg:∀args w,(callFunc 170 args).run Tryz.prog w=.ok (.enter 170 args) w:=enters_of Tryz.func170 (by kernel_rfl) rfl;refine⟨enters_of Tryz.func169 (by kernel_rfl) rfl,λS cargs hS hx=>?_⟩;obtain⟨v1,r1,rfl,⟨_,hgn,_,hv1⟩,v2,r2,rfl,⟨lb,rfl,rfl⟩,rfl⟩:=hx;have hgr:=hS.grp g hg;rw[hG] at hgr;obtain⟨a,cap',rfl,hcase⟩:=hv1 hgr.ver;have hpos:0<l.length:=by cases l;exact absurd rfl h1;simp
 obtain⟨rfl,rfl,hcap⟩:=hcase.resolve_right (λh=>by omega);have hlen:l.length+rest.length<=S.cap g:=by have:=hgr.len (show 0<2 by decide);simpa using this
 obtain⟨⟨cells,T,vs,b1,b2,b3,b4⟩,hni⟩:=hgr.live (show 0<2 by decide) (by omega);obtain⟨vs1,vr,hvv,b31,b32⟩:=AB.split b3;have hvs:=Q8 b31;subst hvs;subst hvv;have b2':cells.size=S.cap g * 2:=b2;have hblk:S.place g<S.w.heap.size:=(Bl.1 b1).1;have hcon:=AnyQ.slices_SortFunc Tryz.sortSp 2 znt zj6 OK (λ_=>rfl) (λx v hv=>by simp[OK] at hv;rcases hv with rfl|rfl<;>rfl) U8 swoLo 170 #[] (S.place g) 0 (S.cap g-0) l.toArray S.w eg (z00 _ _ _ _) (zbg b1 b4) hblk (by simpa using hl);change Calls Tryz.prog 169 _ _ _ at hcon;rw[BP] at hcon;rw[Fi];refine hcon.mono λe w' ⟨he,d',n,os,hp,hs,hw'⟩=>?_;subst he hw';obtain⟨q1,q2,q3⟩:=hp;have q1:d'.size=l.length:=by simpa using q1
 have hperm:d'.toList.Perm l:=by
  rw[D5,D5] at q3;simpa [List.extract,q1,Az (show d'.toList.length<=l.length by simp[q1])] using q3
 rw[<-q1] at hs;obtain⟨cells',c1,c2,c3⟩:=zj7 (n:=n) (d:=d') (os:=os) b1 (by omega) (v0:=l.map HA) (by simp[q1]) b4
 have hh:=hS.moved hg (by rw[hG];exact (show 0<2 by decide)) (sortWorldK OK 2 S.w (S.place g) 0 n d' os) (S.place g) (S.cap g) ⟨2,ver,ex,d'.toList.map C2++rest⟩ rfl ⟨rfl,CB _ _⟩ rfl
  (by show _<=((S.w.heap.modify _ _)++os).size;rw[Fx,CM];omega)
  (λb hb hlt=>by
   show ((S.w.heap.modify _ _)++os)[b]? = _
   rw[BH (by rw[CM];exact hlt),Dw,Ab (λhh=>hb ⟨by omega,hh.symm⟩)])
  (.inl ⟨by omega,rfl⟩) (λ_=>⟨cells',T,_,c1,by rw[c2];exact b2',(Q9 _).append b32,c3⟩) (by simpa [q1] using hlen)
  (λhx=>by have:=hgr.full (show 0<2 by decide) hx;simp at this;simp[q1];exact this) (show 0<2 by decide) (by rw[hgr.ver];exact Ad _) (λ_=>⟨rfl,rfl,by rw[hgr.wid]⟩)
 exact⟨_,_,.tup [],_,rfl,rfl,hh.1,hh.2,⟨[],rfl,rfl⟩,rfl,d'.toList,hperm,z57 hs,rfl⟩
theorem zbh{l:List Span}{k:Nat}(h:k<l.length):inN (l.take (k+1))=inN (l.take k)++(if (Ks (nth l k)).lo<=(Ks (nth l k)).hi then [Ks (nth l k)] else []):=by
 rw[take_at h,inN,inN,Aw,CF];congr 1;simp only[AR,AZ,Cg,List.filter_nil,Ah]
theorem zbi(m r:List Span)(hm:m.length<4611686018427387904):B3 Tryz.prog 169 [.ref 0 1 0 m.length,.fn 170 []] (Abs.hl [⟨2,1,true,(m++r).map C2⟩]) λy H'=>y=.tup []/\∃m':List Span,m'.Perm m/\Ld m'/\H'=Abs.hl [⟨2,1,true,(m'++r).map C2⟩]:=by
 by_cases h:m=[]
 ·subst h
  refine (sort0 r).mono ?_;rintro y H' ⟨rfl,rfl⟩;exact⟨rfl,[],List.Perm.refl _,List.Pairwise.nil,rfl⟩
 ·refine (zj8 (H:=Abs.hl [⟨2,1,true,(m++r).map C2⟩]) (g:=0) (ver:=1) (ex:=true) (l:=m) (rest:=r.map C2) (by show 0<1;decide) (by rw[<-Aw];rfl) h hm).mono ?_
  rintro y H' ⟨rfl,m',h1,h2,rfl⟩;refine⟨rfl,m',h1,h2,?_⟩;rw[Hr _ _ _ (by show 0<1;decide),<-Aw];rfl
abbrev zbj:Span:=⟨0,0⟩
def OL(m:List Span)(n:Nat):List Span:=m++List.replicate (n-m.length) zbj
theorem z58{m:List Span}{n:Nat}(h:m.length<=n):(OL m n).length=n:=by simp[OL];omega
theorem z59{m:List Span}{n:Nat}(h:m.length<n)(s:Span):(OL m n).take m.length++[s]++(OL m n).drop (m.length+1)=OL (m++[s]) n:=by
 simp only[OL];rw[Cx (Ad _),A7,List.drop_append,An (by omega),List.nil_append,show m.length+1-m.length=1 from by omega,List.drop_replicate];simp only[Aj,List.length_singleton,Nat.sub_sub]
def mixS(out s:List Span):List Span:=out++s.drop out.length
theorem zbk{out s:List Span}(h:out.length<=s.length):(mixS out s).length=s.length:=by simp[mixS];omega
theorem zbl{out s:List Span}(h:out.length<s.length)(x:Span):(mixS out s).take out.length++[x]++(mixS out s).drop (out.length+1)=mixS (out++[x]) s:=by
 simp only[mixS];rw[Cx (Ad _),A7,List.drop_append,An (by omega),List.nil_append,show out.length+1-out.length=1 from by omega,List.drop_drop];simp
theorem zj9{out s:List Span}{j:Nat}(h1:out.length<=j):nth (mixS out s) j=nth s j:=by
 simp only[nth,mixS,As];rw[AD h1,BS,show out.length+(j-out.length)=j from by omega]
theorem z5a{mm s:List Span}{y:Span}:nth (mixS (mm++[y]) s) mm.length=y:=by
 simp[nth,mixS,As]
theorem Yi(s:List Span):mixS [] s=s:=by simp[mixS]
theorem zbm{mm s:List Span}{y z:Span}:((mixS (mm++[y]) s).map C2).set mm.length (C2 z)=(mixS (mm++[z]) s).map C2:=by
 simp[mixS]
theorem Wj{l m:List Span}(hp:m.Perm (inN l))(hs:Ld m)(j:Nat):∀s∈(m.take j).foldl E2 [],-1073741824<=s.lo/\s.lo<=s.hi/\s.hi<=1073741824:=by
 have hok:∀s∈m,s.lo<=s.hi:=λs h=>Ya s (hp.mem_iff.1 h);obtain⟨a1,a2⟩:=HW (m.take j) [] ⟨by simp,by simp⟩ (λs h=>hok s (B8 h)) (EA (F0 j m) hs) (λs _ t ht=>by cases ht);intro s hsm;have hle:=a1.1 s hsm
 have key:∀v,memL ((m.take j).foldl E2 []) v->-1073741824<=v/\v<=1073741824:=λv hv=>by
  rcases (a2 v).1 hv with h|⟨t,ht,h1,h2⟩
  ·exact absurd h (Cc _)
  ·exact (z4k.1 ⟨t,hp.mem_iff.1 (B8 ht),h1,h2⟩).2
 have k1:=key s.lo ⟨s,hsm,BJ _,hle⟩;have k2:=key s.hi ⟨s,hsm,hle,BJ _⟩;omega
theorem Mb(l:List Span)(hl:l.length<=1000000000000):B3 Tryz.prog 144 [Bg l] (Abs.hl []) λy H'=>∃rest:List Span,y=.ref 0 1 0 (B4 l).length/\H'=Abs.hl [⟨2,1,true,(B4 l++rest).map C2⟩]:=by
 refine XD (b:=0) VV rfl ?_;unfold O8;(with_reducible repeat'(first|simp(disch:=omega)only[push_cast,↓zz,seval]|refine sp_ ?_ ?_<;>try(intro hc;push_cast at hc)|omega|intro _))
 refine Br (Bs (λ(k:Nat)=>k<=l.length) (λk=>l.length-k) (λk=>[(3,.ref 0 1 0 (inN (l.take k)).length),(13,Bg l),(14,.int .i64 l.length),(15,.int .i64 k)])
  (λk=>[⟨2,1,true,(OL (inN (l.take k)) l.length).map C2⟩]) (λenv _=>[C7 2 (env 3)]) 0 (by simp) ?_ ?_)
 ·have h0:(List.replicate l.length (AV.agg [AV.int IntKind.i64 0,AV.int IntKind.i64 0]))=(OL [] l.length).map C2:=by simp[OL]
  have h1:inN ([]:List Span)=[]:=rfl;(with_reducible repeat'(first|simp(disch:=omega)only[push_cast,↓zz,seval,h0,h1,Cd]|refine sp_ ?_ ?_<;>try(intro hc;push_cast at hc)|omega|intro _))
 intro k hk;have hlen:(inN (l.take k)).length<=k:=by have:=Wc (l.take k);simp at this;omega
 have hr:=z58 (m:=inN (l.take k)) (n:=l.length) (by omega);rcases Ak k l.length with hkl|hkl
 ·have hE:((OL (inN (l.take k)) l.length).map C2).isEmpty=false:=by
   cases hq:OL (inN (l.take k)) l.length with
   |nil=>rw[hq] at hr;simp at hr;omega
   |cons _ _=>rfl
  have ht:=zbh hkl;refine W_T ?_;(with_reducible repeat'(first|simp(disch:=omega)only[push_cast,↓zz,seval,hr,hE]|refine sp_ ?_ ?_<;>try(intro hc;push_cast at hc)|omega|intro _))
  ·rw[Ae (show (Ks (nth l k)).lo<=(Ks (nth l k)).hi by assumption)] at ht
   refine⟨k+1,⟨⟨by rw[ht];simp,by simp⟩,?_⟩,by omega,by omega⟩;rw[ht,<-z59 (show (inN (l.take k)).length<l.length by omega) (Ks (nth l k))];simp only[Aw,AR,AZ,A3,List.singleton_append];exact By _ _
  ·rw[Ab (show ¬(Ks (nth l k)).lo<=(Ks (nth l k)).hi by assumption),A4] at ht
   refine⟨k+1,⟨⟨by rw[ht],by simp⟩,?_⟩,by omega,by omega⟩;rw[ht];exact By _ _
 ·obtain rfl:k=l.length:=by omega
  refine W_T ?_;(with_reducible repeat'(first|simp(disch:=omega)only[push_cast,↓zz,seval,hr]|refine sp_ ?_ ?_<;>try(intro hc;push_cast at hc)|omega|intro _));rw[A7] at *;refine B3.mono (zbi (inN l) (List.replicate (l.length-(inN l).length) zbj) (by omega)) ?_;rintro y H' ⟨rfl,m',hp,hs,rfl⟩;have hpl:=hp.length_eq;have hrl:(List.replicate (l.length-(inN l).length) zbj).length<=l.length:=by simp
  generalize List.replicate (l.length-(inN l).length) zbj=rest at *;rw[<-zb5 hp hs,<-hpl];have hml:m'.length<=1000000000000:=by have:=Wc l;omega
  (with_reducible repeat'(first|simp(disch:=omega)only[push_cast,↓zz,seval]|refine sp_ ?_ ?_<;>try(intro hc;push_cast at hc)|omega|intro _));have hfl:∀j,((m'.take j).foldl E2 []).length<=j:=λj=>by have:=Sf (m'.take j) [];simp at this;omega
  have hmr:∀j,j<=m'.length->(mixS ((m'.take j).foldl E2 []) (m'++rest)).length=m'.length+rest.length:=λj hj=>by rw[zbk (by have:=hfl j;simp;omega)];simp
  refine Br (Bs (λ(j:Nat)=>j<=m'.length) (λj=>m'.length-j) (λj=>[(6,.ref 0 1 0 ((m'.take j).foldl E2 []).length),(41,.ref 0 1 0 m'.length),(42,.int .i64 m'.length),(43,.int .i64 j)])
   (λj=>[⟨2,1,true,(mixS ((m'.take j).foldl E2 []) (m'++rest)).map C2⟩]) (λenv _=>[C7 2 (env 6)]) 0 (by simp) ?_ ?_)
  ·(with_reducible repeat'(first|simp(disch:=omega)only[push_cast,↓zz,seval,Yi,Cd,List.foldl_nil]|refine sp_ ?_ ?_<;>try(intro hc;push_cast at hc)|omega|intro _))
  intro j hj;have hlj:=hmr j hj;have hfj:=hfl j;rcases Ak j m'.length with hjm|hjm
  ·have hstep:(m'.take (j+1)).foldl E2 []=E2 ((m'.take j).foldl E2 []) (nth m' j):=by rw[take_at hjm,CO];rfl
   have hat:=zj9 (s:=m'++rest) hfj;have hat2:nth (m'++rest) j=nth m' j:=by simp[nth,As,A9 hjm]
   rw[hat2] at hat;have hbd:=Wj hp hs j
   have hE:((mixS ((m'.take j).foldl E2 []) (m'++rest)).map C2).isEmpty=false:=by
    cases hq:mixS ((m'.take j).foldl E2 []) (m'++rest) with
    |nil=>rw[hq] at hlj;simp at hlj;omega
    |cons _ _=>rfl
   generalize (m'.take j).foldl E2 []=out at *;rcases Gh out with rfl|⟨mm,y,rfl⟩
   ·refine W_T ?_
    (with_reducible repeat'(first|simp(disch:=omega)only[push_cast,↓zz,seval,hlj,hat,hE]|refine sp_ ?_ ?_<;>try(intro hc;push_cast at hc)|omega|intro _));refine⟨j+1,⟨⟨by rw[hstep];simp[G3],by simp⟩,?_⟩,by omega,by omega⟩;rw[hstep,G3,Yi];exact By _ _
   ·rw[Kr] at hstep
    have hmm:mm.length+1<=j:=by simpa using hfj
    have hw:IntKind.i64.wrap (mm.length:Int)=mm.length:=IntWalk.i64_in _ (by omega);have hy:=hbd y (by simp);have hwy:IntKind.i64.wrap (y.hi+1)=y.hi+1:=IntWalk.i64_in _ (by omega);have hset:=zbm (mm:=mm) (s:=m'++rest) (y:=y) (z:=⟨y.lo,max y.hi (nth m' j).hi⟩);refine W_T ?_;(with_reducible repeat'(first|simp(disch:=omega)only[push_cast,↓zz,seval,hlj,hat,z5a,hE,hw,hwy,hset,Cd]|refine sp_ ?_ ?_<;>try(intro hc;push_cast at hc)|omega|intro _))
    ·rw[Ae (show (nth m' j).lo<=y.hi+1 by first|assumption|omega)] at hstep
     refine⟨j+1,⟨⟨by rw[hstep];simp,by simp⟩,?_⟩,by omega,by omega⟩;rw[hstep];exact By _ _
    ·rw[Ab (show ¬(nth m' j).lo<=y.hi+1 by first|assumption|omega)] at hstep
     refine⟨j+1,⟨⟨by rw[hstep];simp,by simp⟩,?_⟩,by omega,by omega⟩;rw[hstep,<-zbl (show (mm++[y]).length<(m'++rest).length by simp;omega) (nth m' j)];simp only[Aw,AR,AZ,A3,List.singleton_append,Aj,List.length_singleton];exact By _ _
  ·obtain rfl:j=m'.length:=by omega
   rw[A7] at *;refine W_T ?_;(with_reducible repeat'(first|simp(disch:=omega)only[push_cast,↓zz,seval,hlj]|refine sp_ ?_ ?_<;>try(intro hc;push_cast at hc)|omega|intro _));refine TJ [.grp 0] (.ref 0 1 0 (m'.foldl E2 []).length) [⟨2,1,true,(m'.foldl E2 []++(m'++rest).drop (m'.foldl E2 []).length).map C2⟩] ?_ ⟨_,rfl,rfl⟩;(with_reducible repeat'(first|simp(disch:=omega)only[push_cast,↓zz,seval]|refine sp_ ?_ ?_<;>try(intro hc;push_cast at hc)|omega|intro _))
   all_goals (rw[<-Aw];exact By _ _)
theorem Dg(l:List Span)(hl:l.length<=1000000000000):PC Tryz.prog 144 [Bg l] (Bg (B4 l)):=by
 have h:B3 Tryz.prog 144 [Bg l] (Abs.hl []) λy H'=>y=Bg (B4 l)/\H'=Abs.hl []:=by
  refine Oa ((Mb l hl).mono ?_);rintro y H' ⟨rest,rfl,rfl⟩;refine TJ [] (Bg (B4 l)) [] ?_ ⟨rfl,rfl⟩;have ht:List.take (B4 l).length ((B4 l).map C2++rest.map C2)=(B4 l).map C2:=Ec (by simp);have hn:(B4 l).length<=(B4 l).length+rest.length:=by omega
  (with_reducible repeat'(first|simp(disch:=omega)only[push_cast,↓zz,seval,ht,hn]|refine sp_ ?_ ?_<;>try(intro hc;push_cast at hc)|omega|intro _))
 rw[PC,T9];exact h
def GT(x y:Span):Span:=⟨max x.lo y.lo,min x.hi y.hi⟩
def Ge:List Span->List Span->List Span
 |x::a,y::b=>(if (GT x y).lo<=(GT x y).hi then [GT x y] else [])++if x.hi<y.hi then Ge a (y::b) else Ge (x::a) b
 |_,_=>[]
termination_by a b=>a.length+b.length
theorem HB(b:List Span):Ge [] b=[]:=by rw[Ge];simp
theorem Hl(a:List Span):Ge a []=[]:=by cases a<;>rw[Ge]<;>simp
theorem Mc(x y:Span)(a b:List Span):Ge (x::a) (y::b)=(if (GT x y).lo<=(GT x y).hi then [GT x y] else [])++if x.hi<y.hi then Ge a (y::b) else Ge (x::a) b:=by rw[Ge]
theorem OM(a b:List Span)(la:a.length<=1000000000000)(lb:b.length<=1000000000000):PC Tryz.prog 172 [Bg a,Bg b] (Bg (Ge (B4 a) (B4 b))):=by
 refine Cf VX ?_;unfold OA;(with_reducible repeat'(first|simp(disch:=omega)only[push_cast,↓zz,seval]|refine sp_ ?_ ?_<;>try(intro hc;push_cast at hc)|(have q_:=Dg a la;refine ee q_ ?_;clear q_)|(have q_:=Dg b lb;refine ee q_ ?_;clear q_)|(have q_:=Dg a la;refine cc q_ ?_;clear q_;simp(disch:=omega)only[push_cast,↓zz,seval];fail_if_success change False)|(have q_:=Dg b lb;refine cc q_ ?_;clear q_;simp(disch:=omega)only[push_cast,↓zz,seval];fail_if_success change False)|omega|intro _));have ha:=E3 a;have hb:=E3 b;generalize B4 a=a0 at *;generalize B4 b=b0 at *
 refine Br (Bs (λ(s:List Span × List Span × List Span)=>Ge a0 b0=s.2.2++Ge s.1 s.2.1/\s.1.length+s.2.1.length+s.2.2.length<=a0.length+b0.length) (λs=>s.1.length+s.2.1.length)
  (λs=>[(0,Bg s.1),(1,Bg s.2.1),(5,.ref 0 1 0 s.2.2.length)]) (λs=>[⟨2,1,false,s.2.2.map C2⟩]) (λenv _=>[C7 2 (env 5)]) (a0,b0,[]) (by simp) ?_ ?_)
 ·(with_reducible repeat'(first|simp(disch:=omega)only[push_cast,↓zz,seval]|refine sp_ ?_ ?_<;>try(intro hc;push_cast at hc)|omega|intro _))
 rintro⟨a',b',out⟩ ⟨h1,h2⟩;simp only at h1 h2;cases a' with
 |nil =>
  rw[HB,A4] at h1;rw[h1];refine W_T ?_;(with_reducible repeat'(first|simp(disch:=omega)only[push_cast,↓zz,seval]|refine sp_ ?_ ?_<;>try(intro hc;push_cast at hc)|omega|intro _))
 |cons x a' =>
  cases b' with
  |nil =>
   rw[Hl,A4] at h1;rw[h1];refine W_T ?_;(with_reducible repeat'(first|simp(disch:=omega)only[push_cast,↓zz,seval]|refine sp_ ?_ ?_<;>try(intro hc;push_cast at hc)|omega|intro _))
  |cons y b' =>
   rw[Mc] at h1;simp only[List.length_cons] at h2;refine W_T ?_;(with_reducible repeat'(first|simp(disch:=omega)only[push_cast,↓zz,seval,Bg,C2]|refine sp_ ?_ ?_<;>try(intro hc;push_cast at hc)|omega|intro _))
   ·rw[Ae (show (GT x y).lo<=(GT x y).hi from ‹max x.lo y.lo<=min x.hi y.hi›),Ae hc] at h1
    refine⟨(a',y::b',out++[GT x y]),⟨⟨rfl,rfl,by simp⟩,?_⟩,⟨by simp[h1],by first|(simp;done)|(simp;omega)⟩,by simp⟩;rw[Aw];exact By _ _
   ·rw[Ae (show (GT x y).lo<=(GT x y).hi from ‹max x.lo y.lo<=min x.hi y.hi›),Ab hc] at h1
    refine⟨(x::a',b',out++[GT x y]),⟨⟨rfl,rfl,by simp⟩,?_⟩,⟨by simp[h1],by first|(simp;done)|(simp;omega)⟩,by first|(simp;done)|(simp;omega)⟩;rw[Aw];exact By _ _
   ·rw[Ab (show ¬(GT x y).lo<=(GT x y).hi from ‹¬max x.lo y.lo<=min x.hi y.hi›),Ae hc,List.nil_append] at h1
    refine⟨(a',y::b',out),⟨⟨rfl,rfl,rfl⟩,By _ _⟩,⟨h1,by first|(simp;done)|(simp;omega)⟩,by simp⟩
   ·rw[Ab (show ¬(GT x y).lo<=(GT x y).hi from ‹¬max x.lo y.lo<=min x.hi y.hi›),Ab hc,List.nil_append] at h1
    refine⟨(x::a',b',out),⟨⟨rfl,rfl,rfl⟩,By _ _⟩,⟨h1,by first|(simp;done)|(simp;omega)⟩,by first|(simp;done)|(simp;omega)⟩
theorem Jf:∀(a b:List Span),Plain a->Plain b->Plain (Ge a b)/\∀v,memL (Ge a b) v↔memL a v/\memL b v
 |[],b,_,_=>by
  rw[HB];exact⟨⟨by simp,by simp⟩,λv=>by simp only[Cc,false_and]⟩
 |x::a,[],_,_=>by
  rw[Hl];exact⟨⟨by simp,by simp⟩,λv=>by simp only[Cc,and_false]⟩
 |x::a,y::b,ha,hb=>by
  have hx:=ha.head;have hy:=hb.head;rw[Mc]
  -- what the rest has,begins behind what ends first
  have key:∀{r:List Span},Plain r->(∀v,memL r v->min x.hi y.hi+1<v)->Plain ((if (GT x y).lo<=(GT x y).hi then [GT x y] else [])++r)/\∀v,memL ((if (GT x y).lo<=(GT x y).hi then [GT x y] else [])++r) v↔((x.lo<=v/\v<=x.hi)/\(y.lo<=v/\v<=y.hi))\/memL r v:=by
   intro r hr hv;split
   ·rename_i hle
    refine⟨⟨?_,?_⟩,λv=>?_⟩
    ·intro s hs
     rcases Ao.1 hs with hs|hs
     ·simp only[Am] at hs;subst hs;exact hle
     ·exact hr.1 s hs
    ·rw[List.singleton_append,AM]
     exact⟨λt ht=>hv t.lo ⟨t,ht,BJ _,hr.1 t ht⟩,hr.2⟩
    ·rw[List.singleton_append,Bz]
     simp only[GT];constructor
     ·rintro (h|h)
      ·exact .inl (by omega)
      ·exact .inr h
     ·rintro (h|h)
      ·exact .inl (by omega)
      ·exact .inr h
   ·rename_i hle
    simp only[GT] at hle;rw[List.nil_append];refine⟨hr,λv=>⟨.inr,λh=>h.resolve_left λh=>by omega⟩⟩
  by_cases hlt:x.hi<y.hi
  ·rw[Ae hlt]
   obtain⟨p1,p2⟩:=Jf a (y::b) ha.tail hb;obtain⟨q1,q2⟩:=key p1 λv hv=>by have:=ha.after ((p2 v).1 hv).1;omega
   refine⟨q1,λv=>?_⟩;rw[q2 v,p2 v,Bz,Bz];constructor
   ·rintro (⟨h1,h2⟩|⟨h1,h2⟩)
    ·exact⟨.inl h1,.inl h2⟩
    ·exact⟨.inr h1,h2⟩
   ·rintro⟨h1|h1,h2⟩
    ·rcases h2 with h2|h2
     ·exact .inl ⟨h1,h2⟩
     ·have:=hb.after h2;omega
    ·exact .inr ⟨h1,h2⟩
  ·rw[Ab hlt]
   obtain⟨p1,p2⟩:=Jf (x::a) b ha hb.tail;obtain⟨q1,q2⟩:=key p1 λv hv=>by have:=hb.after ((p2 v).1 hv).2;omega
   refine⟨q1,λv=>?_⟩;rw[q2 v,p2 v,Bz,Bz];constructor
   ·rintro (⟨h1,h2⟩|⟨h1,h2⟩)
    ·exact⟨.inl h1,.inl h2⟩
    ·exact⟨h1,.inr h2⟩
   ·rintro⟨h1,h2|h2⟩
    ·rcases h1 with h1|h1
     ·exact .inl ⟨h1,h2⟩
     ·have:=ha.after h1;omega
    ·exact .inr ⟨h1,h2⟩
termination_by a b=>a.length+b.length
theorem EV(l:List Span):∀s∈B4 l,-1073741824<=s.lo/\s.lo<=s.hi/\s.hi<=1073741824:=by
 obtain⟨h1,h2⟩:=B5 l;intro s hs;have hle:=h1.1 s hs;have k1:=((h2 s.lo).1 ⟨s,hs,BJ _,hle⟩).2;have k2:=((h2 s.hi).1 ⟨s,hs,hle,BJ _⟩).2;omega
def Md:Int->List Span->List Span
 |f,[]=>[⟨f,1073741824⟩]
 |f,x::l=>⟨f,x.lo-1⟩::Md (x.hi+1) l
theorem U9:∀(l:List Span)(f:Int),(Md f l).length=l.length+1
 |[],f=>rfl
 |x::l,f=>by rw[Md,List.length_cons,U9 l];rfl
theorem UA:∀(l:List Span)(f:Int),Plain l->(∀s∈l,f<=s.lo/\s.hi<=1073741824)->∀v,memL (Md f l) v↔f<=v/\v<=1073741824/\¬memL l v
 |[],f,_,_,v=>by
  rw[Md,Bz];simp only[Cc,Ap,B2,and_true]
 |x::l,f,h,hb,v=>by
  have hx:=h.head;have hxb:=hb x (by simp);rw[Md,Bz,UA l (x.hi+1) h.tail (λs hs=>⟨by have:=(AM.1 h.2).1 s hs;omega,(hb s (by simp[hs])).2⟩) v,Bz];have ha:memL l v->x.hi+1<v:=λhv=>h.after hv;dsimp only;constructor
  ·rintro (h1|⟨h1,h2,h3⟩)
   ·exact⟨h1.1,by omega,λhh=>hh.elim (λhh=>by omega) (λhh=>by have:=ha hh;omega)⟩
   ·exact⟨by omega,h2,λhh=>hh.elim (λhh=>by omega) h3⟩
  ·rintro⟨h1,h2,h3⟩
   rcases DK v x.lo with hlt|hge
   ·exact .inl ⟨h1,by omega⟩
   ·refine .inr ⟨?_,h2,λhh=>h3 (.inr hh)⟩
    rcases DK x.hi v with hlt2|hge2
    ·omega
    ·exact absurd (.inl ⟨hge,hge2⟩) h3
def Em(a b:List Span):List Span:=Ge (B4 a) (B4 (Md (-1073741824) (B4 b)))
theorem J4(a b:List Span):Plain (Em a b)/\∀v,memL (Em a b) v↔memL a v/\(-1073741824<=v/\v<=1073741824)/\¬memL b v:=by
 obtain⟨a1,a2⟩:=B5 a;obtain⟨b1,b2⟩:=B5 b;obtain⟨g1,g2⟩:=B5 (Md (-1073741824) (B4 b));obtain⟨m1,m2⟩:=Jf _ _ a1 g1;refine⟨m1,λv=>?_⟩;rw[Em,m2 v,a2 v,g2 v,UA _ _ b1 (λs hs=>by have:=EV b s hs;omega) v,b2 v];constructor
 ·rintro⟨⟨h1,h2⟩,⟨h3,h4,h5⟩,h6⟩
  exact⟨h1,h2,λh=>h5 ⟨h,h2⟩⟩
 ·rintro⟨h1,h2,h3⟩
  exact⟨⟨h1,h2⟩,⟨h2.1,h2.2,λh=>h3 h.1⟩,h2⟩
theorem QA(a b:List Span)(la:a.length<=100000000000)(lb:b.length<=100000000000):PC Tryz.prog 145 [Bg a,Bg b] (Bg (Em a b)):=by
 refine Cf Uy ?_;unfold MK;(with_reducible repeat'(first|simp(disch:=omega)only[push_cast,↓zz,seval]|refine sp_ ?_ ?_<;>try(intro hc;push_cast at hc)|(have q_:=Dg b (by omega);refine ee q_ ?_;clear q_)|(have q_:=Dg b (by omega);refine cc q_ ?_;clear q_;simp(disch:=omega)only[push_cast,↓zz,seval];fail_if_success change False)|omega|intro _));have hb:=E3 b;have hbd:=EV b;have hgl:=U9 (B4 b) (-1073741824);have hmeet:=OM a (Md (-1073741824) (B4 b)) (by omega) (by omega);rw[<-Em] at hmeet;generalize B4 b=b0 at *
 refine Br (Bs (λ(s:Nat × Int × List Span)=>s.1<=b0.length/\s.2.2.length=s.1/\(-1073741824<=s.2.1/\s.2.1<=1073741825)/\Md (-1073741824) b0=s.2.2++Md s.2.1 (b0.drop s.1)) (λs=>b0.length-s.1)
  (λs=>[(0,Bg a),(5,.ref 0 1 0 s.2.2.length),(6,.int .i64 s.2.1),(10,Bg b0),(11,.int .i64 b0.length),(12,.int .i64 s.1)]) (λs=>[⟨2,1,false,s.2.2.map C2⟩]) (λenv _=>[C7 2 (env 5)]) (0,-1073741824,[]) (by simp) ?_ ?_)
 ·(with_reducible repeat'(first|simp(disch:=omega)only[push_cast,↓zz,seval]|refine sp_ ?_ ?_<;>try(intro hc;push_cast at hc)|omega|intro _))
 rintro⟨k,f,out⟩ ⟨h1,h2,h3,h4⟩;simp only at h1 h2 h3 h4;rcases Ak k b0.length with hk|hk
 ·have hx:=hbd _ (AS hk)
  rw[drop_at hk,Md] at h4;have w1:IntKind.i64.wrap ((nth b0 k).lo-1)=(nth b0 k).lo-1:=IntWalk.i64_in _ (by omega);have w2:IntKind.i64.wrap ((nth b0 k).hi+1)=(nth b0 k).hi+1:=IntWalk.i64_in _ (by omega);refine W_T ?_;(with_reducible repeat'(first|simp(disch:=omega)only[push_cast,↓zz,seval,w1,w2]|refine sp_ ?_ ?_<;>try(intro hc;push_cast at hc)|omega|intro _));refine⟨(k+1,(nth b0 k).hi+1,out++[⟨f,(nth b0 k).lo-1⟩]),⟨⟨by simp,rfl,by simp⟩,?_⟩,⟨by omega,by simp[h2],by simp only;omega,by simp[h4]⟩,by omega⟩;rw[Aw];exact By _ _
 ·obtain rfl:k=b0.length:=by omega
  rw[An (Ad _),Md] at h4;rw[h4] at hmeet
  have htk:List.take (out.length+1) (out.map C2++[AV.agg [.int .i64 f,.int .i64 1073741824]])=(out++[(⟨f,1073741824⟩:Span)]).map C2:=by
   rw[Az (by simp),Aw];rfl
  refine W_T ?_;(with_reducible repeat'(first|simp(disch:=omega)only[push_cast,↓zz,seval,Bg,E1,htk,Cd]|refine sp_ ?_ ?_<;>try(intro hc;push_cast at hc)|refine ee hmeet ?_|(refine cc hmeet ?_;simp(disch:=omega)only[push_cast,↓zz,seval,Bg,E1,htk,Cd];fail_if_success change False)|omega|intro _))
theorem Iw(a b:List Span)(la:a.length<=100000000000)(lb:b.length<=100000000000):PC Tryz.prog 116 [Bg a,Bg b] (.bool (decide (Em a b=[]))):=by
 refine Cf Sa ?_;unfold KT;(with_reducible repeat'(first|simp(disch:=omega)only[push_cast,↓zz,seval]|refine sp_ ?_ ?_<;>try(intro hc;push_cast at hc)|(have q_:=QA a b la lb;refine ee q_ ?_;clear q_)|(have q_:=QA a b la lb;refine cc q_ ?_;clear q_;simp(disch:=omega)only[push_cast,↓zz,seval];fail_if_success change False)|omega|intro _))
 all_goals (rw[B1];exact⟨λh=>Ay (by omega),λh=>by rw[h];rfl⟩)
theorem TI_w{I:Itr}{n:Nat}{s:Option Nat}{env:Env}{H:A5}{Q:Option Nat->Ex->Env->A5->Prop}{ops:List AOp}{P:Program}(hP:I.P=P)(h:W P n 0 (.reg ops) env H (Q s)):TI I n (.reg ops) s env H Q:=znn (by
 rw[hP];rw[W] at h
 first|exact h|rwa [LC] at h|(simpa only[LC] using h))
theorem Wk{I:Itr}{n:Nat}{s:Option Nat}{env:Env}{H:A5}{Q Q':Option Nat->Ex->Env->A5->Prop}{c:AC}(h:TI I n c s env H Q)(hq:∀s x e H,Q s x e H->Q' s x e H):TI I n c s env H Q' :=
 λcode hc S a X hN hF hd=>wpIn_mono (h code hc S a X hN hF hd) λe a w hh=>by
  obtain⟨S',env',H',x,s',X',h1,h2,h3,h4,h5,h6⟩:=hh;exact⟨S',env',H',x,s',X',h1,h2,h3,h4,h5,hq _ _ _ _ h6⟩
def Le:AC->Bool
 |.skip|.reg _|.exit _|.ret=>true
 |.seq x y=>Le x&&Le y
 |.cond _ x y=>Le x&&Le y
 |.block _ c=>Le c
 |_=>false
theorem TI_W{I:Itr}{n:Nat}{P:Program}(hP:I.P=P):∀{c:AC}{s:Option Nat}{env:Env}{H:A5}{Q:Ex->Env->A5->Prop},Le c=true->W P n 0 c env H Q->TI I n c s env H (λs' x e H'=>s'=s/\Q x e H')
 |.skip,s,env,H,Q,_,h=>zix ⟨rfl,h⟩
 |.exit id,s,env,H,Q,_,h=>ziy ⟨rfl,h⟩
 |.ret,s,env,H,Q,_,h=>znm ⟨rfl,h⟩
 |.reg ops,s,env,H,Q,_,h=>TI_w (Q:=λs' x e H'=>s'=s/\Q x e H') hP (by
  have h':wk P ops env H _:=h;show wk P ops env H (λe H'=>s=s/\Q .normal e H');have e:(λ(e:Env) (H':A5)=>s=s/\Q .normal e H')=λe H'=>Q .normal e H':=by funext e H';simp
  rw[e]
  exact h')
 |.seq x y,s,env,H,Q,hc,h=>by
  simp only[Le,Ac] at hc;refine Hw (Wk (TI_W hP (c:=x) hc.1 h) λs' z e H' hh=>?_);obtain⟨rfl,hh⟩:=hh;cases z with
  |normal=>exact TI_W hP (c:=y) hc.2 hh
  |exit id=>exact⟨rfl,hh⟩
  |ret=>exact⟨rfl,hh⟩
 |.cond c x y,s,env,H,Q,hc,h=>by
  simp only[Le,Ac] at hc;have h':V5 (c.eval env) (W P n 0 x env H Q) (W P n 0 y env H Q):=h;unfold V5 at h';split at h'
  ·rename_i q hq;exact ziz hq (λhb=>TI_W hP hc.1 (h'.1 hb)) (λhb=>TI_W hP hc.2 (h'.2 hb))
  ·exact h'.elim
 |.block id c,s,env,H,Q,hc,h=>by
  refine Iu (Wk (TI_W hP (c:=c) hc h) λs' z e H' hh=>?_);obtain⟨rfl,hh⟩:=hh;cases z with
  |normal=>exact⟨rfl,hh⟩
  |ret=>exact⟨rfl,hh⟩
  |exit k =>
   simp only[Ex.inBlock,Ex.inBlockI] at hh ⊢;split<;>rename_i hk
   ·rw[Ae hk] at hh;exact⟨trivial,hh⟩
   ·rw[Ab hk] at hh;exact⟨trivial,hh⟩
theorem TI_v{I:Itr}{n:Nat}{P:Program}{c:AC}{s:Option Nat}{env:Env}{H:A5}{Q:Option Nat->Ex->Env->A5->Prop}(hP:I.P=P)(hc:Le c=true)(h:W P n 0 c env H (Q s)):TI I n c s env H Q :=
 Wk (TI_W hP hc h) λs' x e H' hh=>by
  obtain⟨rfl,hh⟩:=hh;exact hh
theorem UB:∀(live:List (Nat × AV))(i:Nat),EB live i=.any\/(i,EB live i)∈live:=by
 intro live i
 induction live with
 |nil=>exact .inl rfl
 |cons p l ih =>
  obtain⟨t,x⟩:=p;show (if i=t then x else EB l i)=.any\/(i,if i=t then x else EB l i)∈(t,x)::l;split
  ·rename_i h;subst h;exact .inr (by simp)
  ·rcases ih with h|h
   ·exact .inl h
   ·exact .inr (by simp[h])
theorem znu{I:Itr}{n:Nat}{s:Option Nat}{env:Env}{H:A5}{Q:Option Nat->Ex->Env->A5->Prop}{c:AC}{live:List (Nat × AV)}(hl:∀p∈live,env p.1=p.2)(h:TI I n c s (EB live) H Q):TI I n c s env H Q :=
 λcode hc S a X hN hF hd=>h code hc S a X hN ⟨hF.size,hF.defers,λi hi=>by
  rcases UB live i with he|he
  ·rw[he];trivial
  ·have:=hl _ he
   simp only at this;rw[<-this]
   exact hF.val i hi⟩ hd
theorem z5b{I:Itr}{n:Nat}{s:Option Nat}{env:Env}{H:A5}{Q:Option Nat->Ex->Env->A5->Prop}{c:AC}{live:List (Nat × AV)}(hl:∀p∈live,env p.1=p.2/\p.2.pure=true)(h:TI I n c s (EB live) (Abs.hl []) Q):TI I n c s env H Q :=
 λcode hc S a X hN hF hd=>by
  have hN':I.Now s X { S with n:=0 } (Abs.hl []):=⟨⟨rfl,λg hg=>absurd hg (Ba _),λg _ hg=>absurd hg (Ba _),hN.rel.im⟩,hN.base,hN.keep,hN.im,hN.apart,hN.st⟩;refine h code hc { S with n:=0 } a X hN' ⟨hF.size,by rw[hd];exact Marks.nil hN.base,λi hi=>?_⟩ hd;rcases UB live i with he|he
  ·rw[he];trivial
  ·obtain⟨h1,h2⟩:=hl _ he
   simp only at h1 h2;have hv:=hF.val i hi;rw[h1] at hv;exact VRel.of_pure (S:=S) (S':={ S with n:=0 }) rfl (λ_ h=>h) h2 hv
def Sp(lo:Int)(n:Nat):List Int:=(List.range n).map λ(i:Nat)=>lo+(i:Int)
def FD(l:List Span):List Int:=l.flatMap λs=>Sp s.lo (s.hi+1-s.lo).toNat
theorem ON(l:List Span)(hl:l.length<=1000000000000)(hb:∀s∈l,-1073741824<=s.lo/\s.lo<=s.hi/\s.hi<=1073741824):TG Tryz.prog 232 [.cptr (Bg l)] ((FD l).map λx=>[.int .i64 x]):=by
 refine z4l Se λI hP hr=>?_;show TI I 25 It _ _ _ _;unfold It;refine Hw (TI_v hP (by rfl) ?_);(with_reducible repeat'(first|simp(disch:=omega)only[push_cast,↓zz,seval]|refine sp_ ?_ ?_<;>try(intro hc;push_cast at hc)|omega|intro _));refine (Iu (We (λ(t:Nat) s env H=>t<=l.length/\s=some (FD (l.take t)).length/\∀p∈[(0,AV.yld I.l),(6,Bg l),(7,AV.int .i64 l.length),(8,AV.int .i64 t)],env p.1=p.2) (λt=>l.length-t) 0 ?_ ?_):TI I 25 _ _ _ _ _)
 ·refine⟨Au _,by simp[FD],?_⟩
  simp only[Af,Ai,Ap,Av,AH];exact⟨rfl,rfl,rfl,rfl⟩
 rintro t s env H ⟨ht,rfl,hlv⟩;refine z5b (live:=[(0,AV.yld I.l),(6,Bg l),(7,AV.int .i64 l.length),(8,AV.int .i64 t)]) (λp hp=>⟨hlv p hp,?_⟩) ?_
 ·simp only[Af,Ai,Ap] at hp
  rcases hp with rfl|rfl|rfl|rfl<;>first|rfl|exact Cd l
 refine Hw (TI_v hP (by rfl) ?_);(with_reducible repeat'(first|simp(disch:=omega)only[push_cast,↓zz,seval]|refine sp_ ?_ ?_<;>try(intro hc;push_cast at hc)|omega|intro _));refine (Hw ?_:TI I 25 _ _ _ _ _);refine TI_v hP (by rfl) ?_;(with_reducible repeat'(first|simp(disch:=omega)only[push_cast,↓zz,seval]|refine sp_ ?_ ?_<;>try(intro hc;push_cast at hc)|omega|intro _))
 ·refine (Hw (Iu (Hw ?_)):TI I 25 _ _ _ _ _)
  refine TI_v hP (by rfl) ?_;(with_reducible repeat'(first|simp(disch:=omega)only[push_cast,↓zz,seval]|refine sp_ ?_ ?_<;>try(intro hc;push_cast at hc)|omega|intro _));refine (Hw ?_:TI I 25 _ _ _ _ _);refine TI_v hP (by rfl) ?_;(with_reducible repeat'(first|simp(disch:=omega)only[push_cast,↓zz,seval]|refine sp_ ?_ ?_<;>try(intro hc;push_cast at hc)|omega|intro _));have hs:=hb _ (AS (l:=l) (i:=t) (by omega))
  have hrow:∀i:Nat,(nth l t).lo+i<=(nth l t).hi->I.rows[(FD (l.take t)).length+i]? = some [AV.int .i64 ((nth l t).lo+i)]:=λi hi=>by
   have e:FD l=FD (l.take t)++(Sp (nth l t).lo ((nth l t).hi+1-(nth l t).lo).toNat++FD (l.drop (t+1))):=by
    conv=>lhs;rw[<-Ck t l,drop_at (show t<l.length by omega)]
    simp[FD]
   rw[hr,e,D1,AD (by omega),Nat.add_sub_cancel_left,A9 (by simp[Sp];omega)];simp only[Sp,D1];rw[List.getElem?_range (by omega)];rfl
  have hend:(FD (l.take (t+1))).length=(FD (l.take t)).length+((nth l t).hi+1-(nth l t).lo).toNat:=by
   rw[take_at (show t<l.length by omega)];simp[FD,Sp]
  refine (Iu (We (λ(i:Nat) s env H=>(nth l t).lo+i<=(nth l t).hi+1/\s=some ((FD (l.take t)).length+i)/\H=Abs.hl [⟨2,1,true,[C2 (nth l t)]⟩]/\∀p∈[(0,AV.yld I.l),(4,AV.ptr 0 1 0 0),(5,AV.int .i64 ((nth l t).lo+i)),(6,Bg l),(7,AV.int .i64 l.length),(8,AV.int .i64 t)],env p.1=p.2) (λi=>((nth l t).hi+1-(nth l t).lo).toNat-i) 0 ?_ ?_):TI I 25 _ _ _ _ _)
  ·refine⟨by omega,by simp,rfl,?_⟩
   simp only[Af,Ai,Ap,Av,AH];refine⟨rfl,rfl,?_,rfl,rfl,rfl⟩;show AV.int .i64 (nth l t).lo=AV.int .i64 ((nth l t).lo+(0:Nat));simp
  rintro i s env H ⟨hi,rfl,rfl,hlv2⟩;refine znu (live:=[(0,AV.yld I.l),(4,AV.ptr 0 1 0 0),(5,AV.int .i64 ((nth l t).lo+i)),(6,Bg l),(7,AV.int .i64 l.length),(8,AV.int .i64 t)]) hlv2 ?_;refine Hw ?_;refine TI_v hP (by rfl) ?_;(with_reducible repeat'(first|simp(disch:=omega)only[push_cast,↓zz,seval]|refine sp_ ?_ ?_<;>try(intro hc;push_cast at hc)|omega|intro _))
  ·refine (Hw (Iu (Hw ?_)):TI I 25 _ _ _ _ _)
   refine Yb (pre:=[_,_]) (post:=[_]) rfl rfl ?_;refine⟨[AV.int .i64 ((nth l t).lo+i)],rfl,?_,hrow i hc,?_,?_⟩
   ·intro x hx
    simp only[Am] at hx;subst hx;exact λS v hv=>hv
   ·rw[hP,<-LC]
    (with_reducible repeat'(first|simp(disch:=omega)only[push_cast,↓zz,seval]|refine sp_ ?_ ?_<;>try(intro hc;push_cast at hc)|omega|intro _));refine (TI_v hP ?q1 ?_:TI I 25 _ _ _ _ _)
    case q1=>rfl
    (with_reducible repeat'(first|simp(disch:=omega)only[push_cast,↓zz,seval]|refine sp_ ?_ ?_<;>try(intro hc;push_cast at hc)|omega|intro _));refine (TI_v hP ?q2 ?_:TI I 25 _ _ _ _ _)
    case q2=>rfl
    (with_reducible repeat'(first|simp(disch:=omega)only[push_cast,↓zz,seval]|refine sp_ ?_ ?_<;>try(intro hc;push_cast at hc)|omega|intro _));refine⟨i+1,⟨by omega,by rw[Bo],rfl,rfl,rfl,?_,rfl,rfl,rfl⟩,by omega⟩;show AV.int .i64 ((nth l t).lo+(i:Int)+1)=AV.int .i64 ((nth l t).lo+((i+1:Nat):Int))
    all_goals first|rfl|(rw[AV.int.injEq];exact⟨rfl,by omega⟩)
   ·rw[hP,<-LC]
    (with_reducible repeat'(first|simp(disch:=omega)only[push_cast,↓zz,seval]|refine sp_ ?_ ?_<;>try(intro hc;push_cast at hc)|omega|intro _));refine (TI_v hP ?q3 ?_:TI I 25 _ _ _ _ _)
    case q3=>rfl
    (with_reducible repeat'(first|simp(disch:=omega)only[push_cast,↓zz,seval]|refine sp_ ?_ ?_<;>try(intro hc;push_cast at hc)|omega|intro _));exact⟨trivial,.inr rfl⟩
  ·refine (TI_v hP ?q4 ?_:TI I 25 _ _ _ _ _)
   case q4=>rfl
   (with_reducible repeat'(first|simp(disch:=omega)only[push_cast,↓zz,seval]|refine sp_ ?_ ?_<;>try(intro hc;push_cast at hc)|omega|intro _));refine⟨t+1,⟨by omega,?_,rfl,rfl,rfl,?_⟩,by omega⟩
   ·first|(rw[hend];congr 2;omega)
   all_goals first|rfl|(rw[AV.int.injEq];exact⟨rfl,by omega⟩)
 ·refine⟨trivial,.inl ?_⟩
  rw[Az (by omega)]
theorem OO(l:List Span)(hl:l.length<=1000000000000):PC Tryz.prog 209 [Bg l] (.fn 232 [.cptr (Bg (B4 l))]):=by
 refine Cf VZ ?_;unfold OC;(with_reducible repeat'(first|simp(disch:=omega)only[push_cast,↓zz,seval]|refine sp_ ?_ ?_<;>try(intro hc;push_cast at hc)|(have q_:=Dg l hl;refine ee q_ ?_;clear q_)|(have q_:=Dg l hl;refine cc q_ ?_;clear q_;simp(disch:=omega)only[push_cast,↓zz,seval];fail_if_success change False)|omega|intro _))
def hasI(l:List Span)(x:Int):Bool:=decide (-1073741824<=x/\x<=1073741824)&&l.any λp=>decide (p.lo<=x/\x<=p.hi)
theorem Sq{α:Type}[Inhabited α]{f:α->Bool}{l:List α}{k:Nat}(h:k<l.length):(l.drop k).any f=(f (nth l k)||(l.drop (k+1)).any f):=by rw[drop_at h,List.any_cons]
theorem z01{l:List Span}{x:Int}(h:-1073741824<=x/\x<=1073741824):hasI l x=l.any λp=>decide (p.lo<=x/\x<=p.hi):=by simp[hasI,h]
theorem zbn(l:List Span)(x:Int)(hl:l.length<=9223372036854775807):PC Tryz.prog 101 [Bg l,.int .i64 x] (.bool (hasI l x)):=by
 refine Cf ZM ?_;unfold Qz;(with_reducible repeat'(first|simp(disch:=omega)only[push_cast,↓zz,seval]|refine sp_ ?_ ?_<;>try(intro hc;push_cast at hc)|omega|intro _))
 all_goals first|(rw[Dp];simp[hasI];omega;done)|skip
 rw[z01 (by omega)];refine Br (Bs (λ(i:Nat)=>i<=l.length/\(l.any λp=>decide (p.lo<=x/\x<=p.hi))=(l.drop i).any λp=>decide (p.lo<=x/\x<=p.hi)) (λi=>l.length-i) (λi=>[(1,.int .i64 x),(13,Bg l),(14,.int .i64 l.length),(15,.int .i64 i)]) (λ_=>[]) (λ_ _=>[]) 0 (by simp) ?_ ?_)
 ·(with_reducible repeat'(first|simp(disch:=omega)only[push_cast,↓zz,seval]|refine sp_ ?_ ?_<;>try(intro hc;push_cast at hc)|omega|intro _))
 rintro i ⟨hi,ht⟩;refine W_T ?_;(with_reducible repeat'(first|simp(disch:=omega)only[push_cast,↓zz,seval]|refine sp_ ?_ ?_<;>try(intro hc;push_cast at hc)|omega|intro _))
 ·rw[ht,Sq (by omega)];simp[*]
 ·exact⟨i+1,by simp,⟨by omega,by rw[ht,Sq (by omega)];simp[*]⟩,by omega⟩
 ·exact⟨i+1,by simp,⟨by omega,by rw[ht,Sq (by omega)];simp[*]⟩,by omega⟩
 ·rw[ht,An (by omega)];rfl
theorem OP(l:List Span)(x:Int)(hl:l.length<=9223372036854775807):PC Tryz.prog 92 [Bg l,.int .i64 x] (.bool (hasI l x)):=by
 refine Cf VM ?_;unfold Ow;(with_reducible repeat'(first|simp(disch:=omega)only[push_cast,↓zz,seval]|refine sp_ ?_ ?_<;>try(intro hc;push_cast at hc)|omega|intro _));refine Br (Bs (λ(i:Nat)=>i<=l.length/\hasI l x=hasI (l.drop i) x) (λi=>l.length-i) (λi=>[(0,Bg l),(1,.int .i64 x),(5,.int .i64 i)]) (λ_=>[]) (λ_ _=>[]) 0 (by simp) ?_ ?_)
 ·(with_reducible repeat'(first|simp(disch:=omega)only[push_cast,↓zz,seval]|refine sp_ ?_ ?_<;>try(intro hc;push_cast at hc)|omega|intro _))
 rintro i ⟨hi,ht⟩;rcases Ak i l.length with hil|hil
 ·have hat:hasI (l.drop i) x=(decide ((nth l i).lo<=x/\x<=(nth l i).hi/\-1073741824<=x/\x<=1073741824)||hasI (l.drop (i+1)) x):=by
   rw[drop_at hil];simp only[hasI,List.any_cons];by_cases h1:-1073741824<=x/\x<=1073741824
   ·simp[h1]
   ·first|(simp[h1];done)|(simp[h1];omega)
  rw[ht,hat];refine W_T ?_;(with_reducible repeat'(first|simp(disch:=omega)only[push_cast,↓zz,seval]|refine sp_ ?_ ?_<;>try(intro hc;push_cast at hc)|omega|intro _))
  all_goals first
   |(rw[AE (by omega)];rfl)
   |exact⟨i+1,by simp,⟨by omega,by rw[Bc (by omega)];rfl⟩,by omega⟩
 ·rw[ht,An hil]
  refine W_T ?_;(with_reducible repeat'(first|simp(disch:=omega)only[push_cast,↓zz,seval]|refine sp_ ?_ ?_<;>try(intro hc;push_cast at hc)|omega|intro _))
  all_goals simp[hasI]
abbrev intV(x:Int):AV:=.int .i64 x
theorem Hm(l:List Int):Bh (l.map intV)=true:=Ft (λ_=>rfl) l
def DW(l:List Int):Prop:=l.Pairwise λa b=>a<b
structure Place(l:List Int)(x:Int)(lo hi:Nat):Prop where
 le:lo<=hi
 top:hi<=l.length
 lt:∀j,j<lo->nth l j<x
 ge:∀j,hi<=j->j<l.length->x<=nth l j
theorem Lf{l:List Int}(h:DW l){i j:Nat}(hij:i<j)(hj:j<l.length):nth l i<nth l j:=by
 have:=Cq.1 h i j (by omega) hj hij;simpa [nth,As,Al hj,Al (show i<l.length by omega)] using this
theorem z02{l:List Int}{x:Int}{lo hi:Nat}(hr:DW l)(h:Place l x lo hi)(hlt:lo<hi):
 (nth l ((lo+hi) / 2)<x->Place l x ((lo+hi) / 2+1) hi)/\(¬nth l ((lo+hi) / 2)<x->Place l x lo ((lo+hi) / 2)):=by
 have h1:=h.top;refine⟨λhx=>⟨by omega,h1,λj hj=>?_,h.ge⟩,λhx=>⟨by omega,by omega,h.lt,λj hj hjl=>?_⟩⟩
 ·rcases Ak j ((lo+hi) / 2) with hh|hh
  ·have:=Lf hr hh (by omega);omega
  ·obtain rfl:j=(lo+hi) / 2:=by omega
   exact hx
 ·rcases Ak ((lo+hi) / 2) j with hh|hh
  ·have:=Lf hr hh hjl;omega
  ·obtain rfl:j=(lo+hi) / 2:=by omega
   omega
def gapL(l:List Int)(i:Nat)(y:Int):List Int:=l.take i++y::l.drop i
theorem zbo{l:List Int}{i:Nat}{y:Int}(h:i<=l.length):(gapL l i y).length=l.length+1:=by simp[gapL];omega
theorem Yj{l:List Int}{i:Nat}{y z:Int}(h:i<=l.length):((gapL l i y).map intV).set i (intV z)=(gapL l i z).map intV:=by
 rw[<-List.map_set];congr 1;simp only[gapL];rw[Dz _ _ (by rw[BA];omega),show i-(l.take i).length=0 from by simp;omega];rfl
theorem z5c{l:List Int}{i:Nat}(h:i<l.length):gapL l (i+1) (nth l i)=gapL l i (nth l i):=by
 simp only[gapL];rw[take_at h,drop_at h];simp
theorem zja{l:List Int}{i:Nat}{y:Int}(h:i<l.length):nth (gapL l (i+1) y) i=nth l i:=by
 simp only[gapL,nth,As];rw[A9 (by simp;omega),BU,Ae (by omega)]
theorem zbp(l:List Int)(y:Int):gapL l l.length y=l++[y]:=by simp[gapL]
theorem zbq(v:Nat)(l:List Int)(x:Int)(hr:DW l)(hl:l.length<=1000000000000){K:AV->A5->Prop}(p:Nat)(hp:Place l x p p)
 (hyes:p<l.length->nth l p=x->K (.ref 0 v 0 l.length) (Abs.hl [⟨1,v,false,l.map intV⟩]))
 (hno:(p<l.length->nth l p≠x)->K (.ref 0 (v+1) 0 (l.length+1)) (Abs.hl [⟨1,v+1,false,(l.take p++x::l.drop p).map intV⟩])) :
 B3 Tryz.prog 131 [.ref 0 v 0 l.length,.int .i64 x] (Abs.hl [⟨1,v,false,l.map intV⟩]) K:=by
 refine GA (b:=1) VT rfl ?_;unfold O5;(with_reducible repeat'(first|simp(disch:=omega)only[push_cast,↓zz,seval]|refine sp_ ?_ ?_<;>try(intro hc;push_cast at hc)|omega|intro _))
 refine Br (Bs (λ(s:Nat × Nat)=>Place l x s.1 s.2) (λs=>s.2-s.1) (λs=>[(0,.ref 0 v 0 l.length),(1,.int .i64 x),(5,.int .i64 s.1),(6,.int .i64 s.2)])
  (λ_=>[⟨1,v,false,l.map intV⟩]) (λ_ _=>[]) (0,l.length) ⟨by simp,by simp,by simp,by intro j h1 h2;simp at h1;omega⟩ ?_ ?_)
 ·(with_reducible repeat'(first|simp(disch:=omega)only[push_cast,↓zz,seval]|refine sp_ ?_ ?_<;>try(intro hc;push_cast at hc)|omega|intro _))
 rintro⟨lo,hi⟩ hpl;have hle:=hpl.le;have htop:=hpl.top;simp only at hle htop;rcases Ak lo hi with hlh|hlh
 ·obtain⟨s1,s2⟩:=z02 hr hpl hlh
  have hm:(lo+hi) / 2<l.length:=by omega
  have hw:IntKind.i64.wrap (((lo:Int)+(hi:Int)).tdiv 2)=(((lo+hi) / 2:Nat):Int):=by
   rw[Int.tdiv_eq_ediv_of_nonneg (by omega),show ((lo:Int)+hi) / 2=(((lo+hi) / 2:Nat):Int) by omega];exact IntWalk.i64_in _ (by omega)
  refine W_T ?_;(with_reducible repeat'(first|simp(disch:=omega)only[push_cast,↓zz,seval,hw]|refine sp_ ?_ ?_<;>try(intro hc;push_cast at hc)|omega|intro _))
  all_goals rw[show (((lo:Int)+hi) / 2).toNat=(lo+hi) / 2 by omega] at hc
  ·exact⟨((lo+hi) / 2+1,hi),⟨by simp only;omega,rfl⟩,s1 hc,by simp only;omega⟩
  ·exact⟨(lo,(lo+hi) / 2),⟨rfl,by simp only;omega⟩,s2 hc,by simp only;omega⟩
 ·have hlp:lo=p/\hi=p:=by
   have e:lo=hi:=by omega
   subst e;rcases Ew lo p with h|h|h
   ·have:=hp.lt lo h;have:=hpl.ge lo (Ad _) (by have:=hp.top;omega);omega
   ·exact⟨h,h⟩
   ·have:=hpl.lt p h;have:=hp.ge p (Ad _) (by omega);omega
  obtain⟨rfl,rfl⟩:=hlp;refine W_T ?_;(with_reducible repeat'(first|simp(disch:=omega)only[push_cast,↓zz,seval]|refine sp_ ?_ ?_<;>try(intro hc;push_cast at hc)|omega|intro _))
  ·exact hyes (by omega) hc
  all_goals
   have hn:=hno (by first|exact λ_=>hc|exact λh=>absurd h (by omega))
   refine Br (Bs (λ(s:Nat × Int)=>hi<=s.1/\s.1<=l.length) (λs=>s.1) (λs=>[(0,.ref 0 (v+1) 0 (l.length+1)),(1,.int .i64 x),(5,.int .i64 hi),(8,.int .i64 s.1)])
    (λs=>[⟨1,v+1,false,(gapL l s.1 s.2).map intV⟩]) (λ_ _=>[]) (l.length,0) ⟨by simp only;omega,by simp⟩ ?_ ?_)
   ·(with_reducible repeat'(first|simp(disch:=omega)only[push_cast,↓zz,seval,zbp]|refine sp_ ?_ ?_<;>try(intro hc;push_cast at hc)|omega|intro _))
   rintro⟨i,y⟩ ⟨h1,h2⟩;simp only at h1 h2;have hgl:=zbo (y:=y) h2;refine W_T ?_;rcases Ak hi i with hlt|hge
   ·obtain⟨i,rfl⟩:∃k,i=k+1:=⟨i-1,by omega⟩
    have hs:=Yj (y:=y) (z:=nth l i) h2;have ha:=zja (y:=y) (show i<l.length by omega);rw[z5c (by omega)] at hs;(with_reducible repeat'(first|simp(disch:=omega)only[push_cast,↓zz,seval,hgl,hs,ha,Hm]|refine sp_ ?_ ?_<;>try(intro hc;push_cast at hc)|omega|intro _))
    all_goals exact⟨(i,nth l i),⟨rfl,By _ _⟩,⟨by simp only;omega,by simp only;omega⟩,by simp only;omega⟩
   ·obtain rfl:i=hi:=by omega
    have hs:=Yj (y:=y) (z:=x) h2;(with_reducible repeat'(first|simp(disch:=omega)only[push_cast,↓zz,seval,hgl,hs]|refine sp_ ?_ ?_<;>try(intro hc;push_cast at hc)|omega|intro _));exact hn
def putI(l:List Int)(x:Int):List Int:=if x∈l then l else l.takeWhile (λy=>decide (y<x))++x::l.dropWhile (λy=>decide (y<x))
theorem Yk{l:List Int}{x y:Int}:y∈putI l x↔y=x\/y∈l:=by
 unfold putI;split
 ·rename_i h
  constructor
  ·exact .inr
  ·rintro (rfl|h')
   ·exact h
   ·exact h'
 ·rw[Ao,Af]
  conv=>rhs;rw[<-CL (p:=λy=>decide (y<x)) (l:=l),Ao]
  constructor
  ·rintro (h|h|h)
   ·exact .inr (.inl h)
   ·exact .inl h
   ·exact .inr (.inr h)
  ·rintro (h|h|h)
   ·exact .inr (.inl h)
   ·exact .inl h
   ·exact .inr (.inr h)
def lowI(l:List Int)(x:Int):Nat:=(l.takeWhile λy=>decide (y<x)).length
theorem Yl(l:List Int)(x:Int):l.take (lowI l x)=l.takeWhile (λy=>decide (y<x))/\l.drop (lowI l x)=l.dropWhile (λy=>decide (y<x)):=by
 have key:∀(u v:List Int),u++v=l->l.take u.length=u/\l.drop u.length=v:=λu v h=>by subst h;exact⟨List.take_left,List.drop_left⟩
 exact key _ _ (CL (p:=λy=>decide (y<x)) (l:=l))
theorem Lg{l:List Int}(hr:DW l)(x:Int):Place l x (lowI l x) (lowI l x):=by
 induction l with
 |nil=>exact⟨Ad _,by simp[lowI],λj hj=>by simp[lowI] at hj,λj _ hj=>by simp at hj⟩
 |cons a l ih =>
  have hr':DW l:=(AM.1 hr).2;have hall:=(AM.1 hr).1;by_cases ha:a<x
  ·have e:lowI (a::l) x=lowI l x+1:=by simp[lowI,ha]
   have hp:=ih hr';rw[e];refine⟨Ad _,by have:=hp.top;simp;omega,λj hj=>?_,λj hj hjl=>?_⟩
   ·cases j with
    |zero=>simpa [nth] using ha
    |succ j=>have:=hp.lt j (by omega);simpa [nth] using this
   ·cases j with
    |zero=>omega
    |succ j=>have:=hp.ge j (by omega) (by simpa using hjl);simpa [nth] using this
  ·have e:lowI (a::l) x=0:=by simp[lowI,ha]
   rw[e];refine⟨Ad _,by simp,λj hj=>by omega,λj hj hjl=>?_⟩;cases j with
   |zero=>simp[nth];omega
   |succ j =>
    have hj2:j<l.length:=by simpa using hjl
    have:=hall _ (AS hj2);have h3:nth (a::l) (j+1)=nth l j:=by simp[nth]
    rw[h3];omega
theorem z5d{l:List Int}(hr:DW l)(x:Int):x∈l↔lowI l x<l.length/\nth l (lowI l x)=x:=by
 have hp:=Lg hr x;constructor
 ·intro hx
  obtain⟨j,hj,he⟩:=Bv hx;have hn:nth l j=x:=by simp[nth,As,Al hj,he]
  have h1:lowI l x<=j:=by
   rcases Ak j (lowI l x) with h|h
   ·have:=hp.lt j h;omega
   ·exact h
  refine⟨by omega,?_⟩;rcases Ak (lowI l x) j with h|h
  ·have:=Lf hr h hj
   have:=hp.ge (lowI l x) (Ad _) (by omega);omega
  ·rw[show lowI l x=j by omega];exact hn
 ·rintro⟨h,he⟩
  rw[<-he];exact AS h
theorem Ix{l:List Int}(hr:DW l)(x:Int):DW (putI l x):=by
 unfold putI;split
 ·exact hr
 ·rename_i hx
  have hp:=Lg hr x;obtain⟨e1,e2⟩:=Yl l x;rw[<-e1,<-e2];have ht:DW (l.take (lowI l x)):=EA (F0 _ _) hr;have hd:DW (l.drop (lowI l x)):=EA (List.drop_sublist _ _) hr
  have k1:∀y∈l.take (lowI l x),y<x:=λy hy=>by
   obtain⟨j,hj,he⟩:=Bv hy;rw[List.getElem_take] at he;have hj':j<lowI l x:=by simp at hj;omega
   have hjl:j<l.length:=by simp at hj;omega
   have hn:nth l j=y:=by simp[nth,As,Al hjl,he]
   have:=hp.lt j hj';omega
  have k2:∀y∈l.drop (lowI l x),x<y:=λy hy=>by
   obtain⟨j,hj,he⟩:=Bv hy;rw[List.getElem_drop] at he;have hj':lowI l x+j<l.length:=by simp at hj;omega
   have hn:nth l (lowI l x+j)=y:=by simp[nth,As,Al hj',he]
   have:=hp.ge (lowI l x+j) (by omega) hj';have hne:y≠x:=λh=>hx (h ▸ BF hy);omega
  rw[DW,D8,AM];refine⟨ht,⟨k2,hd⟩,λa ha b hb=>?_⟩;rcases Af.1 hb with rfl|hb
  ·exact k1 a ha
  ·have:=k1 a ha;have:=k2 b hb;omega
theorem Lh(v:Nat)(l:List Int)(x:Int)(hr:DW l)(hl:l.length<=1000000000000):
 B3 Tryz.prog 131 [.ref 0 v 0 l.length,.int .i64 x] (Abs.hl [⟨1,v,false,l.map intV⟩]) λy H'=>∃v',y=.ref 0 v' 0 (putI l x).length/\H'=Abs.hl [⟨1,v',false,(putI l x).map intV⟩]:=by
 obtain⟨e1,e2⟩:=Yl l x;refine zbq v l x hr hl (lowI l x) (Lg hr x) (λh1 h2=>?_) (λh=>?_)
 ·rw[putI,Ae ((z5d hr x).2 ⟨h1,h2⟩)]
  exact⟨v,rfl,rfl⟩
 ·rw[putI,Ab (λhx=>by obtain⟨h1,h2⟩:=(z5d hr x).1 hx;exact h h1 h2),<-e1,<-e2]
  refine⟨v+1,?_,rfl⟩;congr 1;have:=(Lg hr x).top;simp;omega
def UC(l:List Int)(s:Span):List Int:=if -1073741824<s.lo/\s.lo<=1073741824 then putI l s.lo else l
def UD(l:List Int)(s:Span):List Int:=if -1073741824<=s.hi/\s.hi<1073741824 then putI l (s.hi+1) else l
def addB(l:List Int)(s:Span):List Int:=UD (UC l s) s
def Fg(a b:List Span):List Int:=b.foldl addB (a.foldl addB [-1073741824])
theorem Nw(l:List Int)(x:Int):(putI l x).length<=l.length+1:=by
 unfold putI;split
 ·omega
 ·have h:=Dl List.length (CL (p:=λy=>decide (y<x)) (l:=l))
  simp only[Aj] at h;simp only[Aj,List.length_cons];omega
theorem zbr{l:List Int}(h:DW l)(s:Span):DW (UC l s)/\(UC l s).length<=l.length+1:=by
 unfold UC;split
 ·exact⟨Ix h _,Nw _ _⟩
 ·exact⟨h,by omega⟩
theorem zbs{l:List Int}(h:DW l)(s:Span):DW (UD l s)/\(UD l s).length<=l.length+1:=by
 unfold UD;split
 ·exact⟨Ix h _,Nw _ _⟩
 ·exact⟨h,by omega⟩
theorem zjb{l:List Int}(h:DW l)(s:Span):DW (addB l s)/\(addB l s).length<=l.length+2:=by
 obtain⟨h1,h2⟩:=zbr h s;obtain⟨h3,h4⟩:=zbs h1 s;exact⟨h3,by unfold addB;omega⟩
theorem Kv:∀(s:List Span){l:List Int},DW l->DW (s.foldl addB l)/\(s.foldl addB l).length<=l.length+2 * s.length
 |[],l,h=>⟨h,by simp⟩
 |x::s,l,h=>by
  obtain⟨h1,h2⟩:=zjb h x;obtain⟨h3,h4⟩:=Kv s h1;exact⟨h3,by simp only[List.foldl_cons,List.length_cons];omega⟩
theorem Li(a b:List Span)(la:a.length<=10000000000)(lb:b.length<=10000000000):PC Tryz.prog 91 [Bg a,Bg b] (Nh (Fg a b)):=by
 refine Cf Ov ?_;unfold IY;have r0:DW [-1073741824]:=by simp[DW]
 (with_reducible repeat'(first|simp(disch:=omega)only[push_cast,↓zz,seval]|refine sp_ ?_ ?_<;>try(intro hc;push_cast at hc)|omega|intro _))
 refine Br (Bs (λ(s:Nat × List Int)=>s.1=0/\s.2=[-1073741824]\/s.1=1/\s.2=a.foldl addB [-1073741824]\/s.1=2/\s.2=Fg a b) (λs=>2-s.1)
  (λs=>[(0,Bg a),(1,Bg b),(5,.ref 0 1 0 s.2.length),(6,.int .i64 s.1)]) (λs=>[⟨1,1,false,s.2.map intV⟩]) (λenv _=>[C7 1 (env 5)]) (0,[-1073741824]) (by simp) ?_ ?_)
 ·(with_reducible repeat'(first|simp(disch:=omega)only[push_cast,↓zz,seval]|refine sp_ ?_ ?_<;>try(intro hc;push_cast at hc)|omega|intro _))
 -- one list's numbers
 have inner:∀(s:List Span)(l0:List Int),s.length<=10000000000->DW l0->l0.length<=100000000000->∀j,j<=s.length->DW ((s.take j).foldl addB l0)/\((s.take j).foldl addB l0).length<=400000000000:=λs l0 hs hr hl j hj=>by
  obtain⟨h1,h2⟩:=Kv (s.take j) hr;exact⟨h1,by rw[BA] at h2;omega⟩
 have r1:=Kv a r0;rintro⟨k,l⟩ hk;rcases hk with⟨h1,h2⟩|⟨h1,h2⟩|⟨h1,h2⟩
 all_goals
  simp only at h1 h2;subst h1 h2
 ·have hin:=inner a [-1073741824] la r0 (by simp)
  refine W_T ?_;(with_reducible repeat'(first|simp(disch:=omega)only[push_cast,↓zz,seval]|refine sp_ ?_ ?_<;>try(intro hc;push_cast at hc)|omega|intro _))
  refine Br (Bs (λ(j:Nat)=>j<=a.length) (λj=>a.length-j) (λj=>[(0,Bg a),(1,Bg b),(5,.ref 0 1 0 ((a.take j).foldl addB [-1073741824]).length),(6,.int .i64 0),(7,Bg a),(8,.int .i64 j)])
   (λj=>[⟨1,1,false,((a.take j).foldl addB [-1073741824]).map intV⟩]) (λenv _=>[C7 1 (env 5)]) 0 (by simp) ?_ ?_)
  ·(with_reducible repeat'(first|simp(disch:=omega)only[push_cast,↓zz,seval,Hm,List.foldl_nil,List.length_singleton]|refine sp_ ?_ ?_<;>try(intro hc;push_cast at hc)|omega|intro _))
   all_goals exact By _ _
  intro j hj;obtain⟨g1,g2⟩:=hin j hj;rcases Ak j a.length with hja|hja
  ·have hst:(a.take (j+1)).foldl addB [-1073741824]=addB ((a.take j).foldl addB [-1073741824]) (nth a j):=by rw[take_at hja,CO];rfl
   generalize (a.take j).foldl addB [-1073741824]=m at *;refine W_T ?_;(with_reducible repeat'(first|simp(disch:=omega)only[push_cast,↓zz,seval]|refine sp_ ?_ ?_<;>try(intro hc;push_cast at hc)|omega|intro _))
   all_goals try (refine B3.mono (Lh 1 m _ g1 (by omega)) ?_;rintro y H' ⟨v',rfl,rfl⟩;(with_reducible repeat'(first|simp(disch:=omega)only[push_cast,↓zz,seval]|refine sp_ ?_ ?_<;>try(intro hc;push_cast at hc)|omega|intro _)))
   all_goals try (refine B3.mono (Lh v' (putI m _) _ (Ix g1 _) (by have:=Nw m (nth a j).lo;omega)) ?_;rintro y H' ⟨v'',rfl,rfl⟩;(with_reducible repeat'(first|simp(disch:=omega)only[push_cast,↓zz,seval]|refine sp_ ?_ ?_<;>try(intro hc;push_cast at hc)|omega|intro _)))
   all_goals
    refine⟨j+1,⟨⟨?_,by simp⟩,?_⟩,by omega,by omega⟩
    all_goals (rw[hst];unfold addB UC UD;(repeat' split)<;>first|rfl|exact By _ _|(exfalso;omega))
  ·obtain rfl:j=a.length:=by omega
   rw[A7] at *;refine W_T ?_;(with_reducible repeat'(first|simp(disch:=omega)only[push_cast,↓zz,seval]|refine sp_ ?_ ?_<;>try(intro hc;push_cast at hc)|omega|intro _));refine⟨(0+1,a.foldl addB [-1073741824]),⟨⟨rfl,by simp⟩,By _ _⟩,?_,by simp only;omega⟩;exact .inr (.inl ⟨rfl,rfl⟩)
 ·have hin:=inner b (a.foldl addB [-1073741824]) lb r1.1 (by have:=r1.2;simp at this;omega)
  refine W_T ?_;(with_reducible repeat'(first|simp(disch:=omega)only[push_cast,↓zz,seval]|refine sp_ ?_ ?_<;>try(intro hc;push_cast at hc)|omega|intro _))
  refine Br (Bs (λ(j:Nat)=>j<=b.length) (λj=>b.length-j) (λj=>[(0,Bg a),(1,Bg b),(5,.ref 0 1 0 ((b.take j).foldl addB (a.foldl addB [-1073741824])).length),(6,.int .i64 1),(7,Bg b),(8,.int .i64 j)])
   (λj=>[⟨1,1,false,((b.take j).foldl addB (a.foldl addB [-1073741824])).map intV⟩]) (λenv _=>[C7 1 (env 5)]) 0 (by simp) ?_ ?_)
  ·(with_reducible repeat'(first|simp(disch:=omega)only[push_cast,↓zz,seval,Hm,List.foldl_nil,List.length_singleton]|refine sp_ ?_ ?_<;>try(intro hc;push_cast at hc)|omega|intro _))
   all_goals exact By _ _
  intro j hj;obtain⟨g1,g2⟩:=hin j hj;rcases Ak j b.length with hja|hja
  ·have hst:(b.take (j+1)).foldl addB (a.foldl addB [-1073741824])=addB ((b.take j).foldl addB (a.foldl addB [-1073741824])) (nth b j):=by rw[take_at hja,CO];rfl
   generalize (b.take j).foldl addB (a.foldl addB [-1073741824])=m at *;refine W_T ?_;(with_reducible repeat'(first|simp(disch:=omega)only[push_cast,↓zz,seval]|refine sp_ ?_ ?_<;>try(intro hc;push_cast at hc)|omega|intro _))
   all_goals try (refine B3.mono (Lh 1 m _ g1 (by omega)) ?_;rintro y H' ⟨v',rfl,rfl⟩;(with_reducible repeat'(first|simp(disch:=omega)only[push_cast,↓zz,seval]|refine sp_ ?_ ?_<;>try(intro hc;push_cast at hc)|omega|intro _)))
   all_goals try (refine B3.mono (Lh v' (putI m _) _ (Ix g1 _) (by have:=Nw m (nth b j).lo;omega)) ?_;rintro y H' ⟨v'',rfl,rfl⟩;(with_reducible repeat'(first|simp(disch:=omega)only[push_cast,↓zz,seval]|refine sp_ ?_ ?_<;>try(intro hc;push_cast at hc)|omega|intro _)))
   all_goals
    refine⟨j+1,⟨⟨?_,by simp⟩,?_⟩,by omega,by omega⟩
    all_goals (rw[hst];unfold addB UC UD;(repeat' split)<;>first|rfl|exact By _ _|(exfalso;omega))
  ·obtain rfl:j=b.length:=by omega
   rw[A7] at *;refine W_T ?_;(with_reducible repeat'(first|simp(disch:=omega)only[push_cast,↓zz,seval]|refine sp_ ?_ ?_<;>try(intro hc;push_cast at hc)|omega|intro _));refine⟨(1+1,b.foldl addB (a.foldl addB [-1073741824])),⟨⟨rfl,by simp⟩,By _ _⟩,?_,by simp only;omega⟩;exact .inr (.inr ⟨rfl,rfl⟩)
 ·have r2:=inner b (a.foldl addB [-1073741824]) lb r1.1 (by have:=r1.2;simp at this;omega) b.length (Ad _)
  rw[A7] at r2;have r3:=r2.2;refine W_T ?_;(with_reducible repeat'(first|simp(disch:=omega)only[push_cast,↓zz,seval,Hm]|refine sp_ ?_ ?_<;>try(intro hc;push_cast at hc)|omega|intro _))
theorem z5e{l:List Int}{s:Span}{y:Int}:y∈UC l s↔y∈l\/(y=s.lo/\-1073741824<s.lo/\s.lo<=1073741824):=by
 unfold UC;split
 ·rename_i h;rw[Yk];constructor
  ·rintro (h1|h1)
   ·exact .inr ⟨h1,h⟩
   ·exact .inl h1
  ·rintro (h1|h1)
   ·exact .inr h1
   ·exact .inl h1.1
 ·rename_i h;exact⟨.inl,λh1=>h1.resolve_right λh2=>h h2.2⟩
theorem z5f{l:List Int}{s:Span}{y:Int}:y∈UD l s↔y∈l\/(y=s.hi+1/\-1073741824<=s.hi/\s.hi<1073741824):=by
 unfold UD;split
 ·rename_i h;rw[Yk];constructor
  ·rintro (h1|h1)
   ·exact .inr ⟨h1,h⟩
   ·exact .inl h1
  ·rintro (h1|h1)
   ·exact .inr h1
   ·exact .inl h1.1
 ·rename_i h;exact⟨.inl,λh1=>h1.resolve_right λh2=>h h2.2⟩
def QB(s:Span)(y:Int):Prop:=(y=s.lo/\-1073741824<s.lo/\s.lo<=1073741824)\/(y=s.hi+1/\-1073741824<=s.hi/\s.hi<1073741824)
theorem OQ:∀(s:List Span){l:List Int}{y:Int},y∈s.foldl addB l↔y∈l\/∃t∈s,QB t y
 |[],l,y=>by simp
 |x::s,l,y=>by
  rw[List.foldl_cons,OQ s,addB,z5f,z5e];constructor
  ·rintro (((h|h)|h)|⟨t,ht,h⟩)
   ·exact .inl h
   ·exact .inr ⟨x,by simp,.inl h⟩
   ·exact .inr ⟨x,by simp,.inr h⟩
   ·exact .inr ⟨t,by simp[ht],h⟩
  ·rintro (h|⟨t,ht,h⟩)
   ·exact .inl (.inl (.inl h))
   ·rcases Af.1 ht with rfl|ht
    ·rcases h with h|h
     ·exact .inl (.inl (.inr h))
     ·exact .inl (.inr h)
    ·exact .inr ⟨t,ht,h⟩
theorem Iy{a b:List Span}{y:Int}:y∈Fg a b↔y=-1073741824\/(∃t∈a,QB t y)\/∃t∈b,QB t y:=by
 rw[Fg,OQ,OQ,Am,F1]
theorem HC(a b:List Span):DW (Fg a b):=(Kv b (Kv a (by simp[DW])).1).1
theorem OR{s:Span}{y:Int}(h:QB s y):-1073741824<y/\y<=1073741824:=by
 unfold QB at h;omega
theorem HD{a b:List Span}:∀y∈Fg a b,-1073741824<=y/\y<=1073741824:=λy hy=>by
 rcases Iy.1 hy with rfl|⟨t,_,h⟩|⟨t,_,h⟩
 ·omega
 ·have:=OR h;omega
 ·have:=OR h;omega
theorem UE(a b:List Span):∃r,Fg a b=-1073741824::r:=by
 have h1:(-1073741824:Int)∈Fg a b:=Iy.2 (.inl rfl);have h2:=HC a b;have h3:=HD (a:=a) (b:=b);cases hb:Fg a b with
 |nil=>rw[hb] at h1;cases h1
 |cons x r =>
  rw[hb] at h1 h2 h3;rcases Af.1 h1 with h|h
  ·exact⟨r,by rw[h]⟩
  ·have:=(AM.1 h2).1 _ h
   have:=h3 x (by simp);omega
theorem GU{l:List Span}{x:Int}:hasI l x=true ↔ -1073741824<=x/\x<=1073741824/\memL l x:=by
 simp only[hasI,Ac,Ah,Cl,memL,and_assoc]
theorem QC{s:List Span}{x v:Int}(hx:-1073741824<=x)(hxv:x<=v)(hv:v<=1073741824)(h:∀t∈s,∀y,QB t y->y<=x\/v<y):hasI s v=hasI s x:=by
 rw[Dp,GU,GU]
 have key:memL s v↔memL s x:=by
  constructor
  ·rintro⟨t,ht,h1,h2⟩
   refine⟨t,ht,?_,by omega⟩;rcases DK x t.lo with hlt|hle
   ·have:=h t ht t.lo (.inl ⟨rfl,by omega,by omega⟩);omega
   ·exact hle
  ·rintro⟨t,ht,h1,h2⟩
   refine⟨t,ht,by omega,?_⟩;rcases DK t.hi v with hlt|hle
   ·have:=h t ht (t.hi+1) (.inr ⟨rfl,by omega,by omega⟩);omega
   ·exact hle
 rw[key];constructor
 ·rintro⟨_,_,h⟩;exact⟨hx,by omega,h⟩
 ·rintro⟨_,_,h⟩;exact⟨by omega,hv,h⟩
def addS(out:List Span)(s:Span):List Span :=
 match out.getLast? with
 |some y=>if y.hi=s.lo-1 then out.dropLast++[⟨y.lo,s.hi⟩] else out++[s]
 |none=>[s]
theorem Iz(x:Span):addS [] x=[x]:=rfl
theorem Lj(out:List Span)(y x:Span):addS (out++[y]) x=if y.hi=x.lo-1 then out++[⟨y.lo,x.hi⟩] else out++[y]++[x]:=by
 simp[addS]
def z03(l:List Span)(f:Int):Prop:=∀s∈l,s.hi<f
theorem z04{out:List Span}{x:Span}(h:Plain out)(hx:x.lo<=x.hi)(hb:z03 out x.lo):Plain (addS out x)/\z03 (addS out x) (x.hi+1)/\∀v,memL (addS out x) v↔memL out v\/(x.lo<=v/\v<=x.hi):=by
 rcases Gh out with rfl|⟨m,y,rfl⟩
 ·refine⟨⟨by simp[Iz,hx],by simp[Iz]⟩,by simp[Iz,z03];omega,λv=>?_⟩
  rw[Iz,Bz];constructor
  ·rintro (h|h)
   ·exact .inr h
   ·exact absurd h (Cc _)
  ·rintro (h|h)
   ·exact absurd h (Cc _)
   ·exact .inl h
 ·rw[Lj]
  obtain⟨h1,h2,h3⟩:=GX.1 h;have hy:y.hi<x.lo:=hb y (by simp);have hm:∀s∈m,s.hi<x.lo:=λs hs=>hb s (by simp[hs]);split
  ·rename_i he
   refine⟨GX.2 ⟨h1,by simp only;omega,λs hs=>h3 s hs⟩,?_,λv=>?_⟩
   ·intro s hs
    rcases Ao.1 hs with hs|hs
    ·have:=hm s hs;omega
    ·simp only[Am] at hs;subst hs;simp only;omega
   ·rw[Fv,Fv,Bz,Bz]
    simp only[Cc,Ap];constructor
    ·rintro (h|h)
     ·exact .inl (.inl h)
     ·by_cases hv:v<=y.hi
      ·exact .inl (.inr ⟨h.1,hv⟩)
      ·exact .inr ⟨by omega,by omega⟩
    ·rintro ((h|h)|h)
     ·exact .inl h
     ·exact .inr ⟨h.1,by omega⟩
     ·exact .inr ⟨by omega,by omega⟩
  ·rename_i he
   refine⟨GX.2 ⟨h,hx,λs hs=>?_⟩,?_,λv=>?_⟩
   ·rcases Ao.1 hs with hs|hs
    ·have:=h3 s hs;omega
    ·simp only[Am] at hs;subst hs;omega
   ·intro s hs
    rcases Ao.1 hs with hs|hs
    ·have:=hb s hs;omega
    ·simp only[Am] at hs;subst hs;omega
   ·rw[Fv,Bz]
    simp only[Cc,Ap]
def toI:List Int->Int
 |[]=>1073741824
 |y::_=>y-1
def Me(p:Int->Bool):List Int->List Span->List Span
 |[],out=>out
 |x::r,out=>Me p r (if p x then addS out ⟨x,toI r⟩ else out)
def zbt(p:Int->Bool):List Int->Prop
 |[]=>True
 |x::r=>(∀v,x<=v->v<=toI r->p v=p x)/\zbt p r
theorem z05{l:List Span}{f g:Int}(h:z03 l f)(hg:f<=g):z03 l g:=λs hs=>by have:=h s hs;omega
theorem OT(p:Int->Bool):∀(l:List Int)(out:List Span)(f:Int),DW l->(∀x∈l,x<=1073741824)->(f=toI l+1)->zbt p l->Plain out->z03 out f ->
 Plain (Me p l out)/\∀v,memL (Me p l out) v↔memL out v\/(f<=v/\v<=1073741824/\p v=true)
 |[],out,f,_,_,hf,_,ho,_=>⟨ho,λv=>by
  simp only[toI] at hf
  exact⟨.inl,λh=>h.resolve_right λh=>by omega⟩⟩
 |x::r,out,f,hr,hm,hf,hs,ho,ha=>by
  have hx:=hm x (by simp);have hfx:f=x:=by rw[hf,toI];omega
  subst hfx
  have hto:f<=toI r:=by
   cases r with
   |nil=>simpa [toI] using hx
   |cons y r=>have:=(AM.1 hr).1 y (by simp);simp only[toI];omega
  have hr':DW r:=(AM.1 hr).2;rw[Me];by_cases hp:p f=true
  ·rw[Ae hp]
   obtain⟨a1,a2,a3⟩:=z04 (x:=⟨f,toI r⟩) ho hto ha;obtain⟨b1,b2⟩:=OT p r _ (toI r+1) hr' (λy hy=>hm y (by simp[hy])) rfl hs.2 a1 a2;refine⟨b1,λv=>?_⟩;rw[b2 v,a3 v];constructor
   ·rintro ((h|h)|h)
    ·exact .inl h
    ·refine .inr ⟨h.1,?_,by rw[hs.1 v h.1 h.2];exact hp⟩
     have:toI r<=1073741824:=by
      cases r with
      |nil=>simp[toI]
      |cons y r=>have:=hm y (by simp);simp only[toI];omega
     have:=h.2;simp only at this;omega
    ·exact .inr ⟨by omega,h.2⟩
   ·rintro (h|h)
    ·exact .inl (.inl h)
    ·rcases DK (toI r) v with hlt|hle
     ·exact .inr ⟨by omega,h.2⟩
     ·exact .inl (.inr ⟨h.1,hle⟩)
  ·rw[Ab hp]
   obtain⟨b1,b2⟩:=OT p r out (toI r+1) hr' (λy hy=>hm y (by simp[hy])) rfl hs.2 ho (z05 ha (by omega));refine⟨b1,λv=>?_⟩;rw[b2 v];constructor
   ·rintro (h|h)
    ·exact .inl h
    ·exact .inr ⟨by omega,h.2⟩
   ·rintro (h|h)
    ·exact .inl h
    ·rcases DK (toI r) v with hlt|hle
     ·exact .inr ⟨by omega,h.2⟩
     ·exact absurd ((hs.1 v h.1 hle).symm.trans h.2.2) hp
theorem zf0{p:Int->Bool}:∀(l pre:List Int),DW (pre++l)->(∀x∈l,-1073741824<=x/\x<=1073741824)->(∀x v,-1073741824<=x->x<=v->v<=1073741824->(∀y∈pre++l,y<=x\/v<y)->p v=p x)->zbt p l
 |[],_,_,_,_=>trivial
 |x::r,pre,hr,hm,h=>by
  refine⟨λv h1 h2=>?_,zf0 r (pre++[x]) (by simpa using hr) (λy hy=>hm y (by simp[hy])) (by simpa using h)⟩;obtain⟨p1,p2,p3⟩:=D8.1 hr;have hx:=hm x (by simp)
  have hto:toI r<=1073741824:=by
   cases r with
   |nil=>simp[toI]
   |cons y r=>have:=hm y (by simp);simp only[toI];omega
  refine h x v hx.1 h1 (by omega) λy hy=>?_;rcases Ao.1 hy with hy|hy
  ·exact .inl (Int.le_of_lt (p3 y hy x (by simp)))
  ·rcases Af.1 hy with rfl|hy
   ·exact .inl (BJ _)
   ·right
    cases r with
    |nil=>cases hy
    |cons z r =>
     simp only[toI] at h2;rcases Af.1 hy with rfl|hy
     ·omega
     ·have:=(AM.1 (AM.1 p2).2).1 y hy;omega
def howB(h:Int)(x y:Bool):Bool:=if h=2 then x&&!y else if h=1 then x&&y else x||y
def Sr(a b:List Span)(h:Int):List Span:=Me (λv=>howB h (hasI a v) (hasI b v)) (Fg a b) []
theorem J5(a b:List Span)(h:Int):Plain (Sr a b h)/\∀v,memL (Sr a b h) v ↔ -1073741824<=v/\v<=1073741824/\howB h (hasI a v) (hasI b v)=true:=by
 obtain⟨r,hr⟩:=UE a b;have hbo:=HD (a:=a) (b:=b);have hri:=HC a b
 have hseg:zbt (λv=>howB h (hasI a v) (hasI b v)) (Fg a b):=zf0 _ [] hri hbo λx v h1 h2 h3 h4=>by
  simp only[List.nil_append] at h4;have e1:hasI a v=hasI a x:=QC h1 h2 h3 λt ht y hy=>h4 y (Iy.2 (.inr (.inl ⟨t,ht,hy⟩)));have e2:hasI b v=hasI b x:=QC h1 h2 h3 λt ht y hy=>h4 y (Iy.2 (.inr (.inr ⟨t,ht,hy⟩)));simp only[e1,e2]
 obtain⟨k1,k2⟩:=OT _ (Fg a b) [] (-1073741824) hri (λx hx=>(hbo x hx).2) (by rw[hr];simp[toI]) hseg ⟨by simp,by simp⟩ (λs hs=>by cases hs);refine⟨k1,λv=>?_⟩;rw[Sr,k2 v];simp only[Cc,Bm]
theorem z06(l:List Span):Sr l [] 0=B4 l:=by
 obtain⟨a1,a2⟩:=J5 l [] 0;obtain⟨b1,b2⟩:=B5 l;refine Hk a1 b1 λv=>?_;rw[a2 v,b2 v];have:hasI [] v=false:=by simp[hasI]
 simp only[howB,this,DX];rw[Ab (by decide),Ab (by decide),GU];constructor
 ·rintro⟨h1,h2,_,_,h3⟩;exact⟨h3,h1,h2⟩
 ·rintro⟨h3,h1,h2⟩;exact⟨h1,h2,h1,h2,h3⟩
theorem z07(a b:List Span):Sr a b 1=Ge (B4 a) (B4 b):=by
 obtain⟨a1,a2⟩:=J5 a b 1;obtain⟨p1,p2⟩:=B5 a;obtain⟨q1,q2⟩:=B5 b;obtain⟨b1,b2⟩:=Jf _ _ p1 q1;refine Hk a1 b1 λv=>?_;rw[a2 v,b2 v,p2 v,q2 v];simp only[howB];rw[Ab (by decide),Ae trivial,Ac,GU,GU];constructor
 ·rintro⟨h1,h2,⟨_,_,h3⟩,_,_,h4⟩;exact⟨⟨h3,h1,h2⟩,h4,h1,h2⟩
 ·rintro⟨⟨h3,h1,h2⟩,h4,_,_⟩;exact⟨h1,h2,⟨h1,h2,h3⟩,h1,h2,h4⟩
theorem QD(a b:List Span):Sr a b 2=Em a b:=by
 obtain⟨a1,a2⟩:=J5 a b 2;obtain⟨b1,b2⟩:=J4 a b;refine Hk a1 b1 λv=>?_;rw[a2 v,b2 v];simp only[howB];rw[Ae trivial,Ac,GU,AA,<-Bool.not_eq_true,GU];constructor
 ·rintro⟨h1,h2,⟨_,_,h3⟩,h4⟩;exact⟨h3,⟨h1,h2⟩,λh=>h4 ⟨h1,h2,h⟩⟩
 ·rintro⟨h3,⟨h1,h2⟩,h4⟩;exact⟨h1,h2,⟨h1,h2,h3⟩,λh=>h4 h.2.2⟩
theorem MU{α:Type}{f:α->AV}{m:List α}{y z:α}:((m++[y]).map f).set m.length (f z)=(m++[z]).map f:=by simp
theorem Ym{α:Type}[Inhabited α]{m:List α}{y:α}:nth (m++[y]) m.length=y:=by simp[nth,As]
theorem znv{l:List Int}{i:Nat}(h:i<l.length):toI (l.drop (i+1))=if i+1<l.length then nth l (i+1)-1 else 1073741824:=by
 split
 ·rename_i h1;rw[drop_at h1];rfl
 ·rename_i h1;rw[An (by omega)];rfl
set_option maxHeartbeats 4000000 in
theorem Mf(a b:List Span)(h:Int)(la:a.length<=10000000000)(lb:b.length<=10000000000):PC Tryz.prog 50 [Bg a,Bg b,.int .i64 h] (Bg (Sr a b h)):=by
 refine Cf Uf ?_;unfold M2;(with_reducible repeat'(first|simp(disch:=omega)only[push_cast,↓zz,seval]|refine sp_ ?_ ?_<;>try(intro hc;push_cast at hc)|(have q_:=Li a b la lb;refine ee q_ ?_;clear q_)|(have q_:=Li a b la lb;refine cc q_ ?_;clear q_;simp(disch:=omega)only[push_cast,↓zz,seval];fail_if_success change False)|omega|intro _));have hri:=HC a b;have hbo:=HD (a:=a) (b:=b)
 have hlen:(Fg a b).length<=100000000000:=by
  have h1:=Kv a (l:=[-1073741824]) (by simp[DW]);have h2:=Kv b h1.1;have h3:=h1.2;have h4:=h2.2;simp only[List.length_singleton] at h3;unfold Fg;omega
 rw[Sr];generalize Fg a b=l at *;have hp:∀v,(λv=>howB h (hasI a v) (hasI b v)) v=howB h (hasI a v) (hasI b v):=λ_=>rfl;generalize (λv=>howB h (hasI a v) (hasI b v))=p at *
 refine Br (Bs (λ(s:Nat × List Span)=>s.1<=l.length/\s.2.length<=s.1/\(∀t∈s.2,-1073741824<=t.hi/\t.hi<=1073741824)/\Me p l []=Me p (l.drop s.1) s.2) (λs=>l.length-s.1)
  (λs=>[(0,Bg a),(1,Bg b),(2,.int .i64 h),(7,.ref 0 1 0 s.2.length),(8,Nh l),(9,.int .i64 s.1)]) (λs=>[⟨2,1,false,s.2.map C2⟩]) (λenv _=>[C7 2 (env 7)]) (0,[]) (by simp) ?_ ?_)
 ·(with_reducible repeat'(first|simp(disch:=omega)only[push_cast,↓zz,seval,Hm]|refine sp_ ?_ ?_<;>try(intro hc;push_cast at hc)|omega|intro _))
 rintro⟨i,out⟩ ⟨h1,h2,h3,h4⟩;simp only at h1 h2 h3 h4;rcases Ak i l.length with hi|hi
 ·rw[drop_at hi,Me,znv hi,hp] at h4
  have hx:=hbo _ (AS hi);have hA:=OP a (nth l i) (by omega);have hB:=OP b (nth l i) (by omega);have q2:h=2->howB h (hasI a (nth l i)) (hasI b (nth l i))=(hasI a (nth l i)&&!hasI b (nth l i)):=λe=>by rw[howB,Ae e]
  have q1:¬h=2->h=1->howB h (hasI a (nth l i)) (hasI b (nth l i))=(hasI a (nth l i)&&hasI b (nth l i)):=λe1 e2=>by rw[howB,Ab e1,Ae e2]
  have q0:¬h=2->¬h=1->howB h (hasI a (nth l i)) (hasI b (nth l i))=(hasI a (nth l i)||hasI b (nth l i)):=λe1 e2=>by rw[howB,Ab e1,Ab e2]
  generalize howB h (hasI a (nth l i)) (hasI b (nth l i))=q at *;generalize hasI a (nth l i)=x at *;generalize hasI b (nth l i)=y at *
  have hto:(if i+1<l.length then nth l (i+1)-1 else 1073741824)<=1073741824/\-1073741824<=(if i+1<l.length then nth l (i+1)-1 else 1073741824):=by
   split
   ·rename_i h5;have h6:=hbo _ (AS h5);have h7:=Lf hri (Nat.lt_succ_self i) h5;simp only[Nat.succ_eq_add_one] at h7;omega
   ·omega
  have hw1:∀v,-1073741824<=v/\v<=1073741824->IntKind.i64.wrap (v-1)=v-1:=λv hv=>IntWalk.i64_in _ (by omega);have hw2:=hw1 _ hx;have hw3:i+1<l.length->IntKind.i64.wrap (nth l (i+1)-1)=nth l (i+1)-1:=λh5=>hw1 _ (hbo _ (AS h5))
  have hlast:∀(m:List Span)(z:Span),m++[z]=out->out.length=m.length+1/\nth out m.length=z/\IntKind.i64.wrap (m.length:Int)=m.length/\(∀e:Int,(out.map C2).set m.length (.agg [.int .i64 z.lo,.int .i64 e])=(m++[(⟨z.lo,e⟩:Span)]).map C2):=λm z e=>by
   subst e;exact⟨by simp,Ym,IntWalk.i64_in _ (by simp at h2;omega),λe=>MU (f:=C2) (z:=⟨z.lo,e⟩)⟩
  have hends:∀(H:List Grp)(out':List Span)(n:Nat)(xs:List AV),n=out'.length->leSL H xs (out'.map C2)->out'.length<=i+1->(∀t∈out',-1073741824<=t.hi/\t.hi<=1073741824)->Me p l []=Me p (l.drop (i+1)) out' ->
   ∃s':Nat × List Span,((n=s'.2.length/\(i:Int)+1=s'.1)/\leSL H xs (s'.2.map C2))/\(s'.1<=l.length/\s'.2.length<=s'.1/\(∀t∈s'.2,-1073741824<=t.hi/\t.hi<=1073741824)/\Me p l []=Me p (l.drop s'.1) s'.2)/\l.length-s'.1<l.length-i :=
   λH out' n xs k1 k2 k3 k4 k5=>⟨(i+1,out'),⟨⟨k1,by simp⟩,k2⟩,⟨by simp only;omega,k3,k4,k5⟩,by simp only;omega⟩
  obtain⟨c1,c2,d1,d2,hcase⟩:∃c1 c2,decide (h=1)=c1/\decide (h=2)=c2/\((c1=false/\c2=true/\q=(x&&!y))\/(c1=true/\c2=false/\q=(x&&y))\/(c1=false/\c2=false/\q=(x||y))):=by
   by_cases e2:h=2
   ·exact⟨false,true,by rw[e2];rfl,by rw[e2];rfl,.inl ⟨rfl,rfl,q2 e2⟩⟩
   ·by_cases e1:h=1
    ·exact⟨true,false,by rw[e1];rfl,by rw[e1];rfl,.inr (.inl ⟨rfl,rfl,q1 e2 e1⟩)⟩
    ·exact⟨false,false,by simp[e1],by simp[e2],.inr (.inr ⟨rfl,rfl,q0 e2 e1⟩)⟩
  clear q0 q1 q2;rcases Gh out with rfl|⟨m,z,hout⟩
  ·clear hlast
   rcases hcase with⟨rfl,rfl,rfl⟩|⟨rfl,rfl,rfl⟩|⟨rfl,rfl,rfl⟩
   all_goals
    cases x<;>cases y
    all_goals
     refine W_T ?_;(with_reducible repeat'(first|simp(disch:=omega)only[push_cast,↓zz,seval,hw2,d1,d2]|refine sp_ ?_ ?_<;>try(intro hc;push_cast at hc)|refine ee hA ?_|refine ee hB ?_|((first|refine cc hA ?_|refine cc hB ?_);simp(disch:=omega)only[push_cast,↓zz,seval,hw2,d1,d2];fail_if_success change False)|omega|intro _))
    all_goals first
     |exact⟨(i+1,[]),⟨⟨rfl,by simp⟩,rfl⟩,⟨by simp only;omega,by simp,by simp,h4⟩,by simp only;omega⟩
     |(rw[Ae (show i+1<l.length by omega)] at h4 hto
       exact hends _ [⟨nth l i,nth l (i+1)-1⟩] _ _ rfl (By _ _) (by simp) (by simp;omega) h4)
     |(rw[Ab (show ¬i+1<l.length by omega)] at h4
       exact hends _ [⟨nth l i,1073741824⟩] _ _ rfl (By _ _) (by simp) (by simp) h4)
  ·obtain⟨l1,l2,l3,l4⟩:=hlast m z hout.symm
   have hz:=h3 z (by rw[hout];simp);have h3':∀t∈m,-1073741824<=t.hi/\t.hi<=1073741824:=λt ht=>h3 t (by rw[hout];simp[ht]);have hadd:∀e:Int,addS out ⟨nth l i,e⟩=if z.hi=nth l i-1 then m++[⟨z.lo,e⟩] else out++[⟨nth l i,e⟩]:=λe=>by rw[hout,Lj]
   rw[hadd] at h4;clear hout hadd hlast;rcases hcase with⟨rfl,rfl,rfl⟩|⟨rfl,rfl,rfl⟩|⟨rfl,rfl,rfl⟩
   all_goals
    cases x<;>cases y
    all_goals
     refine W_T ?_;(with_reducible repeat'(first|simp(disch:=omega)only[push_cast,↓zz,seval,hw2,d1,d2,l1,l2,l3,l4]|refine sp_ ?_ ?_<;>try(intro hc;push_cast at hc)|refine ee hA ?_|refine ee hB ?_|((first|refine cc hA ?_|refine cc hB ?_);simp(disch:=omega)only[push_cast,↓zz,seval,hw2,d1,d2,l1,l2,l3,l4];fail_if_success change False)|omega|intro _))
    all_goals first
     |exact hends _ out _ _ (by omega) (By _ _) (by omega) h3 h4
     |(rw[Ae (show i+1<l.length by omega),Ae (show z.hi=nth l i-1 by omega)] at h4
       rw[Ae (show i+1<l.length by omega)] at hto
       exact hends _ (m++[⟨z.lo,nth l (i+1)-1⟩]) _ _ (by simp) (by rw[Aw];exact By _ _) (by simp;omega) (λt ht=>by rcases Ao.1 ht with ht|ht;exact h3' t ht;simp only[Am] at ht;subst ht;exact⟨hto.2,hto.1⟩) h4)
     |(rw[Ae (show i+1<l.length by omega),Ab (show ¬z.hi=nth l i-1 by omega)] at h4
       rw[Ae (show i+1<l.length by omega)] at hto
       exact hends _ (out++[⟨nth l i,nth l (i+1)-1⟩]) _ _ (by simp[l1]) (by rw[Aw];exact By _ _) (by simp;omega) (λt ht=>by rcases Ao.1 ht with ht|ht;exact h3 t ht;simp only[Am] at ht;subst ht;exact⟨hto.2,hto.1⟩) h4)
     |(rw[Ab (show ¬i+1<l.length by omega),Ae (show z.hi=nth l i-1 by omega)] at h4
       rw[Ab (show ¬i+1<l.length by omega)] at hto
       exact hends _ (m++[⟨z.lo,1073741824⟩]) _ _ (by simp) (by rw[Aw];exact By _ _) (by simp;omega) (λt ht=>by rcases Ao.1 ht with ht|ht;exact h3' t ht;simp only[Am] at ht;subst ht;exact⟨hto.2,hto.1⟩) h4)
     |(rw[Ab (show ¬i+1<l.length by omega),Ab (show ¬z.hi=nth l i-1 by omega)] at h4
       rw[Ab (show ¬i+1<l.length by omega)] at hto
       exact hends _ (out++[⟨nth l i,1073741824⟩]) _ _ (by simp[l1]) (by rw[Aw];exact By _ _) (by simp;omega) (λt ht=>by rcases Ao.1 ht with ht|ht;exact h3 t ht;simp only[Am] at ht;subst ht;exact⟨hto.2,hto.1⟩) h4)
 ·rw[An hi,Me] at h4
  rw[h4];refine W_T ?_;(with_reducible repeat'(first|simp(disch:=omega)only[push_cast,↓zz,seval]|refine sp_ ?_ ?_<;>try(intro hc;push_cast at hc)|omega|intro _))
theorem Mg(l:List Span)(hl:l.length<=10000000000):PC Tryz.prog 90 [Bg l] (Bg (B4 l)):=by
 have h:=Mf l [] 0 hl (by simp);rw[z06] at h;have h2:PC Tryz.prog 50 [Bg l,.nilS,.int .i64 0] (Bg (B4 l)):=Iq h (AW (AV.le_refl _) (AW (AV.le_nilS (by decide)) (AW (AV.le_refl _) D2)));refine Cf Ul ?_;unfold M8;(with_reducible repeat'(first|simp(disch:=omega)only[push_cast,↓zz,seval]|refine sp_ ?_ ?_<;>try(intro hc;push_cast at hc)|refine ee h2 ?_|(refine cc h2 ?_;simp(disch:=omega)only[push_cast,↓zz,seval];fail_if_success change False)|omega|intro _))
theorem UF{l m:List Span}{k:Nat}(h1:k<l.length)(h2:k<m.length):decide (l.drop k=m.drop k)=(decide (nth l k=nth m k)&&decide (l.drop (k+1)=m.drop (k+1))):=by
 rw[drop_at h1,drop_at h2];simp
theorem Wl(p q:Span):(decide (p.lo=q.lo)&&decide (p.hi=q.hi))=decide (p=q):=by
 cases p;cases q;simp
theorem Mh(a b:List Span)(hl:a.length<=1000000000000):PC Tryz.prog 89 [Bg a,Bg b] (.bool (decide (a=b))):=by
 refine Cf Uk ?_;unfold M7;(with_reducible repeat'(first|simp(disch:=omega)only[push_cast,↓zz,seval]|refine sp_ ?_ ?_<;>try(intro hc;push_cast at hc)|omega|intro _))
 ·have:a≠b:=by intro h;subst h;first|omega|simp_all
  simp[this]
 refine Br (Bs (λ(k:Nat)=>k<=a.length/\decide (a=b)=decide (a.drop k=b.drop k)) (λk=>a.length-k)
  (λk=>[(0,Bg a),(1,Bg b),(5,.int .i64 k)]) (λs=>[]) (λenv _=>[]) 0 (by simp) ?_ ?_)
 ·(with_reducible repeat'(first|simp(disch:=omega)only[push_cast,↓zz,seval]|refine sp_ ?_ ?_<;>try(intro hc;push_cast at hc)|omega|intro _))
 rintro k ⟨hk,hr⟩;refine W_T ?_;(with_reducible repeat'(first|simp(disch:=omega)only[push_cast,↓zz,seval,Wl]|refine sp_ ?_ ?_<;>try(intro hc;push_cast at hc)|omega|intro _))
 ·rw[hr,UF (by omega) (by omega)];simp[*]
 ·refine⟨k+1,?_⟩
  (with_reducible repeat'(first|simp(disch:=omega)only[push_cast,↓zz,seval]|refine sp_ ?_ ?_<;>try(intro hc;push_cast at hc)|omega|intro _));rw[hr,UF (by omega) (by omega)];simp[*]
 ·rw[hr,An (by omega),An (by omega)];simp
def symI(l:List Span):List Span:=Sr l [⟨0,1114111⟩] 1
theorem QE(s:Span)(l:List Span):FD (s::l)=Sp s.lo (s.hi+1-s.lo).toNat++FD l:=rfl
theorem zbu(x:Int):hasI [⟨0,1114111⟩] x=decide (0<=x/\x<=1114111):=by
 simp only[hasI,List.any_cons,List.any_nil,DX];by_cases h:0<=x/\x<=1114111
 ·simp[h];omega
 ·simp[h]
theorem Lk(l:List Span):Plain (symI l)/\∀v,memL (symI l) v↔(0<=v/\v<=1114111)/\memL l v:=by
 obtain⟨h1,h2⟩:=J5 l [⟨0,1114111⟩] 1;refine⟨h1,λv=>?_⟩;rw[symI,h2 v,zbu];simp only[howB];rw[Ab (by decide),Ae trivial,Ac,GU,Ah];constructor
 ·rintro⟨a,b,⟨_,_,c⟩,d⟩;exact⟨d,c⟩
 ·rintro⟨d,c⟩;exact⟨by omega,by omega,⟨by omega,by omega,c⟩,d⟩
def Syms(l:List Span):Prop:=Plain l/\∀s∈l,0<=s.lo/\s.lo<=s.hi/\s.hi<=1114111
theorem Wm{l:List Span}(h1:Plain l)(h2:∀v,memL l v->0<=v/\v<=1114111):Syms l :=
 ⟨h1,λs hs=>by
  have hle:=h1.1 s hs;have:=h2 s.lo ⟨s,hs,BJ _,hle⟩;have:=h2 s.hi ⟨s,hs,hle,BJ _⟩
  omega⟩
theorem UG(l:List Span):Syms (symI l):=Wm (Lk l).1 λv hv=>(((Lk l).2 v).1 hv).1
theorem Yn:∀{l:List Span}{f:Nat},Plain l->(∀s∈l,(f:Int)<=s.lo/\s.hi<=1114111)->f<=1114112->l.length+f<=1114112
 |[],f,_,_,hf=>by simpa using hf
 |s::l,f,h,hb,hf=>by
  have h1:=hb s (by simp);have h2:=h.head
  have:=Yn (l:=l) (f:=(s.hi+1).toNat) h.tail (λt ht=>by
   have:=(AM.1 h.2).1 t ht;have:=hb t (by simp[ht])
   omega) (by omega)
  simp only[List.length_cons];omega
theorem Syms.len{l:List Span}(h:Syms l):l.length<=1114112:=by
 have:=Yn (f:=0) h.1 (λs hs=>by have:=h.2 s hs;simp only[Int.ofNat_zero];omega) (by omega);omega
theorem UH:PC Tryz.prog 207 [] (Bg [⟨0,1114111⟩]):=by
 refine Cf PN ?_;unfold JN;(with_reducible repeat'(first|simp(disch:=omega)only[push_cast,↓zz,seval]|refine sp_ ?_ ?_<;>try(intro hc;push_cast at hc)|omega|intro _))
def UI(l:List Span):Option Int:=match l with
 |[]=>none
 |s::_=>some s.lo
def Wn(l:List Span):Option Int:=l.getLast?.map (·.hi)
abbrev optI(o:Option Int):AV:=.tup [.int .i64 (o.getD 0),.bool o.isSome]
theorem z08(l:List Span)(hl:l.length<=1000000000000):PC Tryz.prog 231 [Bg l] (optI (UI (B4 l))):=by
 refine Cf U4 ?_;unfold MR;(with_reducible repeat'(first|simp(disch:=omega)only[push_cast,↓zz,seval]|refine sp_ ?_ ?_<;>try(intro hc;push_cast at hc)|(have q_:=Dg l hl;refine ee q_ ?_;clear q_)|(have q_:=Dg l hl;refine cc q_ ?_;clear q_;simp(disch:=omega)only[push_cast,↓zz,seval];fail_if_success change False)|omega|intro _))
 ·have h0:B4 l=[]:=Ay (by omega)
  rw[h0];(repeat'(first|(simp(disch:=omega)only[push_cast,↓zz,seval,D3,UI,Option.getD_none,Option.isSome_none])|omega|(with_reducible refine Aa ?_ ?_)))
 ·cases hn:B4 l with
  |nil=>exact absurd (by rw[hn];rfl) hc
  |cons s r =>
   (repeat'(first|(simp(disch:=omega)only[push_cast,↓zz,seval,D3,UI,Option.getD_some,Option.isSome_some])|omega|(with_reducible refine Aa ?_ ?_)))
   all_goals simp[nth]
theorem z5g(l:List Span)(hl:l.length<=1000000000000):PC Tryz.prog 196 [Bg l] (optI (Wn (B4 l))):=by
 refine Cf VY ?_;unfold OB;have hn:=E3 l;(with_reducible repeat'(first|simp(disch:=omega)only[push_cast,↓zz,seval]|refine sp_ ?_ ?_<;>try(intro hc;push_cast at hc)|(have q_:=Dg l hl;refine ee q_ ?_;clear q_)|(have q_:=Dg l hl;refine cc q_ ?_;clear q_;simp(disch:=omega)only[push_cast,↓zz,seval];fail_if_success change False)|omega|intro _))
 ·have h0:B4 l=[]:=Ay (by omega)
  rw[h0];(repeat'(first|(simp(disch:=omega)only[push_cast,↓zz,seval,D3,Wn,List.getLast?_nil,Option.map_none,Option.getD_none,Option.isSome_none])|omega|(with_reducible refine Aa ?_ ?_)))
 ·rcases Gh (B4 l) with h0|⟨m,z,h0⟩
  ·exact absurd (by rw[h0];rfl) hc
  ·have e:((B4 l).length:Int)-1=(m.length:Int):=by rw[h0];simp
   have e2:nth (B4 l) m.length=z:=by rw[h0];simp[nth,As]
   rw[show Wn (B4 l)=some z.hi by rw[h0];simp[Wn]];(repeat'(first|(simp(disch:=omega)only[push_cast,↓zz,seval,D3,Option.getD_some,Option.isSome_some,e,e2])|omega|(with_reducible refine Aa ?_ ?_)))
   all_goals (rw[show (B4 l).length-1=m.length by rw[h0];simp];rw[e2])
def Fl(d:Int)(s:Span):Span:=⟨s.lo+d,s.hi+d⟩
def Fh(l:List Span)(d:Int):List Span:=if d < -2147483648\/2147483648<d then [] else B4 ((B4 l).map (Fl d))
def midM(d:Int)(l rest:List Span)(k:Nat):List Span:=(l.take k).map (Fl d)++(l.drop k++rest)
theorem z5h(d:Int)(l rest:List Span):midM d l rest 0=l++rest:=by simp[midM]
theorem zbv(d:Int)(l rest:List Span):midM d l rest l.length=l.map (Fl d)++rest:=by simp[midM]
theorem zbw(d:Int)(l rest:List Span)(k:Nat)(h:k<=l.length):(midM d l rest k).length=l.length+rest.length:=by simp[midM];omega
theorem zjc{d:Int}{l rest:List Span}{k:Nat}(h:k<l.length):nth (midM d l rest k) k=nth l k:=by
 rw[midM,drop_at h,nth,As,AD (by simp;omega)];simp[show min k l.length=k by omega]
theorem zbx{d:Int}{l rest:List Span}{k:Nat}(h:k<l.length):((midM d l rest k).map C2).set k (C2 ⟨(nth l k).lo+d,(nth l k).hi+d⟩)=(midM d l rest (k+1)).map C2:=by
 rw[midM,midM,take_at h,drop_at h,<-List.map_set];congr 1;rw[Dz _ _ (by simp;omega),show k-(List.map (Fl d) (List.take k l)).length=0 by simp;omega];simp[Fl]
theorem UJ(l:List Span)(d:Int)(hl:l.length<=1000000000000):PC Tryz.prog 115 [Bg l,.int .i64 d] (Bg (Fh l d)):=by
 refine Cf VS ?_;unfold O4;have hw:IntKind.i64.wrap d=IntKind.i64.wrap d:=rfl;have hz:(d < -2147483648\/2147483648<d)->Fh l d=[]:=λh=>by rw[Fh,Ae h]
 (with_reducible repeat'(first|simp(disch:=omega)only[push_cast,↓zz,seval]|refine sp_ ?_ ?_<;>try(intro hc;push_cast at hc)|omega|intro _))
 all_goals first|exact hz (by omega)|skip
 ·refine TH (l:=[]) [] (Mb l hl) (by rfl) rfl (by simp) (by simp) (by simp[ltL,ltV]) (by simp) ?_
  rintro y H' ⟨rest,rfl,rfl⟩;refine⟨_,rfl,by simp,?_⟩;have hn:=E3 l;have hbd:=EV l;have hmv:Fh l d=B4 ((B4 l).map (Fl d)):=by rw[Fh,Ab (by omega)]
  rw[hmv];generalize B4 l=m at *;(with_reducible repeat'(first|simp(disch:=omega)only[push_cast,↓zz,seval]|refine sp_ ?_ ?_<;>try(intro hc;push_cast at hc)|omega|intro _));refine Br (Bs (λ(k:Nat)=>k<=m.length) (λk=>m.length-k) (λk=>[(1,.int .i64 d),(5,.ref 0 1 0 m.length),(16,.int .i64 m.length),(17,.int .i64 k)]) (λk=>[⟨2,1,true,(midM d m rest k).map C2⟩]) (λenv _=>[C7 2 (env 5)]) 0 (by simp) ?_ ?_)
  ·(with_reducible repeat'(first|simp(disch:=omega)only[push_cast,↓zz,seval,z5h]|refine sp_ ?_ ?_<;>try(intro hc;push_cast at hc)|omega|intro _))
  intro k hk;have hlen:=zbw d m rest k hk;rcases Ak k m.length with hkm|hkm
  ·have ha:=zjc (d:=d) (rest:=rest) hkm
   have hs:=zbx (d:=d) (rest:=rest) hkm;have hx:=hbd _ (AS hkm)
   have hgs:∀v,(((midM d m rest k).map C2).set k v).getD k .any=v:=λv=>by
    rw[As,Ep (by simp[hlen];omega)];rfl
   refine W_T ?_;(with_reducible repeat'(first|simp(disch:=omega)only[push_cast,↓zz,seval,hlen,ha,hgs,List.set_set,hs]|refine sp_ ?_ ?_<;>try(intro hc;push_cast at hc)|omega|intro _));exact⟨k+1,⟨by simp,By _ _⟩,by omega,by omega⟩
  ·obtain rfl:k=m.length:=by omega
   rw[zbv];have ht:List.take m.length ((m.map (Fl d)).map C2++rest.map C2)=(m.map (Fl d)).map C2:=Ec (by simp);have hmm:=Dg (m.map (Fl d)) (by simp;omega);refine W_T ?_;(with_reducible repeat'(first|simp(disch:=omega)only[push_cast,↓zz,seval,ht,E1]|refine sp_ ?_ ?_<;>try(intro hc;push_cast at hc)|refine ee hmm ?_|(refine cc hmm ?_;simp(disch:=omega)only[push_cast,↓zz,seval,ht,E1];fail_if_success change False)|omega|intro _))
theorem OU(l:List Int):∀r∈l.map (λx=>[AV.int .i64 x]),∀x∈r,Flat x:=λr hr x hx=>by
 obtain⟨y,_,rfl⟩:=Ax.1 hr;simp only[Am] at hx;subst hx;exact λS=>rfl
theorem Ss(l:List Int):∀r∈l.map (λx=>[AV.int .i64 x]),r.length=1:=λr hr=>by
 obtain⟨y,_,rfl⟩:=Ax.1 hr;rfl
theorem z5i{l:List Int}{k:Nat}{row:List AV}(h:(l.map λx=>[AV.int .i64 x])[k]? = some row):k<l.length/\row=[.int .i64 (nth l k)]:=by
 obtain⟨hk,he⟩:=AI.1 h;have hk':k<l.length:=by simpa using hk
 refine⟨hk',?_⟩;rw[<-he];simp[nth,As,Al hk']
theorem Yo:∀{l:List Span}{f:Nat},Plain l->(∀s∈l,(f:Int)<=s.lo/\s.hi<=1114111)->f<=1114112->(FD l).length+f<=1114112
 |[],f,_,_,hf=>by simpa [FD] using hf
 |s::l,f,h,hb,hf=>by
  have h1:=hb s (by simp);have h2:=h.head
  have:=Yo (l:=l) (f:=(s.hi+1).toNat) h.tail (λt ht=>by
   have:=(AM.1 h.2).1 t ht;have:=hb t (by simp[ht])
   omega) (by omega)
  rw[QE,Aj];simp only[Sp,AY,CP];omega
theorem Syms.nums{l:List Span}(h:Syms l):(FD l).length<=1114112:=by
 have:=Yo (f:=0) h.1 (λs hs=>by have:=h.2 s hs;simp only[Int.ofNat_zero];omega) (by omega);omega
theorem I0:∀{l:List Span}{x:Int},x∈FD l↔memL l x
 |[],x=>by simp[FD,memL]
 |s::l,x=>by
  rw[QE,Ao,Bz,I0]
  have:x∈Sp s.lo (s.hi+1-s.lo).toNat↔s.lo<=x/\x<=s.hi:=by
   simp only[Sp,Ax,Bq];constructor
   ·rintro⟨i,h1,rfl⟩;omega
   ·intro h;exact⟨(x-s.lo).toNat,by omega,by omega⟩
  rw[this]
theorem Syms.mem{l:List Span}(h:Syms l){x:Int}(hx:memL l x):0<=x/\x<=1114111:=by
 obtain⟨s,hs,h1,h2⟩:=hx;have:=h.2 s hs;omega
abbrev oneS(x:Int):Span:=⟨x,x⟩
def allS(n:Nat):List Span:=[⟨0,2 ^ n-1⟩]
theorem Ll{l:List Span}(h:Plain l)(hb:∀s∈l,-1073741824<=s.lo/\s.hi<=1073741824):B4 l=l:=by
 obtain⟨h1,h2⟩:=B5 l;refine Hk h1 h λx=>?_;rw[h2 x];constructor
 ·exact λhh=>hh.1
 ·rintro⟨s,hs,k1,k2⟩
  have:=hb s hs;exact⟨⟨s,hs,k1,k2⟩,by omega,by omega⟩
theorem Wo{x:Int}{n:Nat}(hn:n<=21)(hx:0<=x/\x<=4194304):IntKind.i64.wrap (x * 2 ^ min n IntKind.i64.bits)=x * 2 ^ n:=by
 rw[show min n IntKind.i64.bits=n from Co (show n<=64 by omega)];have h:=Nl n hn;have h1:x * 2 ^ n<=4194304 * 2097152:=Int.mul_le_mul hx.2 h.2 (by omega) (by omega);have h2:0<=x * 2 ^ n:=Fs hx.1 (by omega);exact IntWalk.i64_in _ (by omega)
def imgS(d t:Nat)(s:Span):List Span :=
 if s.lo / 2 ^ d % 2 ^ t<=s.hi / 2 ^ d % 2 ^ t then [⟨s.lo / 2 ^ d % 2 ^ t,s.hi / 2 ^ d % 2 ^ t⟩] else [⟨0,s.hi / 2 ^ d % 2 ^ t⟩,⟨s.lo / 2 ^ d % 2 ^ t,2 ^ t-1⟩]
def imgF(d t:Nat):List Span->List Span->List Span
 |[],out=>out
 |s::l,out=>if 2 ^ t-1<=s.hi / 2 ^ d-s.lo / 2 ^ d then allS t else imgF d t l (out++imgS d t s)
def topS:List Span:=[⟨0,2097151⟩]
def imgL(p:Part)(s:List Span):List Span :=
 if Gd p=false then [] else
  if p.up=0 then B4 (imgF p.drop.toNat p.take.toNat (Ge (B4 s) (B4 topS)) []) else
   B4 ((FD (B4 (B4 (imgF p.drop.toNat p.take.toNat (Ge (B4 s) (B4 topS)) [])))).map λx=>oneS (x * 2 ^ p.up.toNat))
theorem Su:∀(a b:List Span),(Ge a b).length<=a.length+b.length
 |[],b=>by rw[HB];simp
 |x::a,[]=>by rw[Hl];simp
 |x::a,y::b=>by
  rw[Mc];have h1:=Su a (y::b);have h2:=Su (x::a) b;simp only[Aj,List.length_cons] at *;split<;>split<;>simp<;>omega
termination_by a b=>a.length+b.length
theorem Yp(s:List Span):Plain (Ge (B4 s) (B4 topS))/\(∀t∈Ge (B4 s) (B4 topS),0<=t.lo/\t.lo<=t.hi/\t.hi<=2097151)/\∀v,memL (Ge (B4 s) (B4 topS)) v↔memL s v/\0<=v/\v<=2097151:=by
 obtain⟨p1,p2⟩:=B5 s;obtain⟨q1,q2⟩:=B5 topS;obtain⟨b1,b2⟩:=Jf _ _ p1 q1
 have key:∀v,memL (Ge (B4 s) (B4 topS)) v↔memL s v/\0<=v/\v<=2097151:=λv=>by
  rw[b2 v,p2 v,q2 v,topS,Bz];simp only[Cc,Ap];constructor
  ·rintro⟨⟨h1,_⟩,h2,_⟩;exact⟨h1,h2⟩
  ·rintro⟨h1,h2⟩;exact⟨⟨h1,by omega⟩,h2,by omega⟩
 refine⟨b1,λt ht=>?_,key⟩;have hle:=b1.1 t ht;have k1:=((key t.lo).1 ⟨t,ht,BJ _,hle⟩).2;have k2:=((key t.hi).1 ⟨t,ht,hle,BJ _⟩).2;omega
theorem zby{x:Int}{t:Nat}(ht:t<=21)(hx:0<=x/\x<=2097151):JE .and .i64 x (2 ^ t-1)=x % 2 ^ t:=by
 have h:=Nl t ht;have m0:=BM x (b:=2 ^ t) (by omega);have m1:=BB x (b:=2 ^ t) (by omega);exact z2b t ⟨hx.1,by show _<(2:Int) ^ 64;omega⟩ (by show _<=64;omega) (IntWalk.i64_in _ (by omega))
theorem zjd{x:Int}{d:Nat}(hd:d<=21):x.fdiv (2 ^ min d IntKind.i64.bits)=x / 2 ^ d:=by
 rw[show min d IntKind.i64.bits=d from Co (show d<=64 by omega)];have:=Nl d hd;exact z2a _ _ (by omega)
theorem z5j{x:Int}{d:Nat}(hd:d<=21)(hx:0<=x/\x<=2097151):0<=x / 2 ^ d/\x / 2 ^ d<=2097151:=by
 have:=Nl d hd;have q0:0<=x / 2 ^ d:=FX hx.1 (by omega);have q1:x / 2 ^ d<=x:=Int.ediv_le_self _ hx.1;omega
theorem QF(p:Part)(s:List Span)(hs:s.length<=10000000000):PC Tryz.prog 189 [Ga p,Bg s] (Bg (imgL p s)):=by
 have hM:=OM s topS (by omega) (by simp[topS]);obtain⟨mp,mb,mm⟩:=Yp s
 have hml:(Ge (B4 s) (B4 topS)).length<=10000000001:=by
  have h1:=Su (B4 s) (B4 topS);have h2:=E3 s;have h3:=E3 topS;have h4:topS.length=1:=rfl;omega
 cases hb:Gd p with
 |false =>
  have hB:=HZ p;rw[hb] at hB;refine Cf MP ?_;unfold Jb;(with_reducible repeat'(first|simp(disch:=omega)only[push_cast,↓zz,seval]|refine sp_ ?_ ?_<;>try(intro hc;push_cast at hc)|refine ee hB ?_|(refine cc hB ?_;simp(disch:=omega)only[push_cast,↓zz,seval];fail_if_success change False)|omega|intro _))
  all_goals (rw[imgL,Ae hb])
 |true =>
 have hB:=HZ p;rw[hb] at hB;have hbi:=KZ.1 hb;have ht:=Nl p.take.toNat (by omega);have hw1:IntKind.i64.wrap (1 * 2 ^ min p.take.toNat IntKind.i64.bits)=2 ^ p.take.toNat:=by rw[Wo (by omega) (by omega)];omega
 have hw2:IntKind.i64.wrap (2 ^ p.take.toNat-1)=2 ^ p.take.toNat-1:=IntWalk.i64_in _ (by omega);refine Cf MP ?_;unfold Jb;(with_reducible repeat'(first|simp(disch:=omega)only[push_cast,↓zz,seval,hw1,hw2,topS,Bg,C2,AR,AZ,E1]|refine sp_ ?_ ?_<;>try(intro hc;push_cast at hc)|refine ee hB ?_|refine ee hM ?_|((first|refine cc hB ?_|refine cc hM ?_);simp(disch:=omega)only[push_cast,↓zz,seval,hw1,hw2,topS,Bg,C2,AR,AZ,E1];fail_if_success change False)|omega|intro _));have hI:imgL p s=if p.up=0 then B4 (imgF p.drop.toNat p.take.toNat (Ge (B4 s) (B4 topS)) []) else B4 ((FD (B4 (B4 (imgF p.drop.toNat p.take.toNat (Ge (B4 s) (B4 topS)) [])))).map λx=>oneS (x * 2 ^ p.up.toNat)):=by rw[imgL,Ab (by simp[hb])]
 have hTS:[(⟨0,2097151⟩:Span)]=topS:=rfl;rw[hTS,hI];generalize Ge (B4 s) (B4 topS)=m at *;have hd:=Nl p.drop.toNat (by omega)
 have hsh:∀x:Int,0<=x/\x<=2097151->x.fdiv (2 ^ min p.drop.toNat IntKind.i64.bits)=x / 2 ^ p.drop.toNat/\(0<=x / 2 ^ p.drop.toNat/\x / 2 ^ p.drop.toNat<=2097151)/\JE .and .i64 (x / 2 ^ p.drop.toNat) (2 ^ p.take.toNat-1)=x / 2 ^ p.drop.toNat % 2 ^ p.take.toNat:=λx hx =>
  ⟨zjd (by omega),z5j (by omega) hx,zby (by omega) (z5j (by omega) hx)⟩
 refine Br (Bs (λ(s:Nat × List Span)=>s.1<=m.length/\s.2.length<=2 * s.1/\(∀t∈s.2,0<=t.lo/\t.hi<=2 ^ p.take.toNat-1)/\imgF p.drop.toNat p.take.toNat m []=imgF p.drop.toNat p.take.toNat (m.drop s.1) s.2) (λs=>m.length-s.1)
  (λs=>[(2,.ptr 0 1 0 0),(5,.int .i64 (2 ^ p.take.toNat-1)),(6,.ref 1 1 0 s.2.length),(23,Bg m),(24,.int .i64 m.length),(25,.int .i64 s.1)]) (λs=>[⟨4,1,true,[Ga p]⟩,⟨2,1,false,s.2.map C2⟩]) (λenv _=>[C7 4 (env 2),C7 2 (env 6)]) (0,[]) ⟨by simp,by simp,by simp,by simp⟩ ?_ ?_)
 ·(with_reducible repeat'(first|simp(disch:=omega)only[push_cast,↓zz,seval]|refine sp_ ?_ ?_<;>try(intro hc;push_cast at hc)|omega|intro _))
 rintro⟨k,out⟩ ⟨h1,h2,h2b,h3⟩;simp only at h1 h2 h2b h3;rcases Ak k m.length with hk|hk
 ·have hx:=mb _ (AS hk)
  rw[drop_at hk,imgF,imgS] at h3;obtain⟨a1,a2,a3⟩:=hsh (nth m k).lo (by omega);obtain⟨b1,b2,b3⟩:=hsh (nth m k).hi (by omega);generalize (nth m k).lo / 2 ^ p.drop.toNat=u at *;generalize (nth m k).hi / 2 ^ p.drop.toNat=v at *;have hbk:2 ^ p.take.toNat-1<=v-u->imgF p.drop.toNat p.take.toNat m []=allS p.take.toNat:=λh=>by rw[h3,Ae h]
  have hN:=Dg (allS p.take.toNat) (by simp[allS]);have hEa:=OO (B4 (allS p.take.toNat)) (by have:=E3 (allS p.take.toNat);simp[allS] at this;simp[allS];omega);refine W_T ?_;(with_reducible repeat'(first|simp(disch:=omega)only[push_cast,↓zz,seval,a1,a3,b1,b3,allS,Bg,C2,AR,AZ,E1]|refine sp_ ?_ ?_<;>try(intro hc;push_cast at hc)|refine ee hN ?_|refine ee hEa ?_|((first|refine cc hN ?_|refine cc hEa ?_);simp(disch:=omega)only[push_cast,↓zz,seval,a1,a3,b1,b3,allS,Bg,C2,AR,AZ,E1];fail_if_success change False)|omega|intro _))
  ·rw[hbk (by assumption),Ae (by assumption)];rfl
  ·rw[hbk (by assumption),Ab (by assumption)]
   have hal:allS p.take.toNat=[⟨0,2 ^ p.take.toNat-1⟩]:=rfl;rw[hal];have h2c:∀t∈[(⟨0,2 ^ p.take.toNat-1⟩:Span)],0<=t.lo/\t.hi<=2 ^ p.take.toNat-1:=by simp
   have hu:p.take<=6:=by omega
   have h64:(2:Int) ^ p.take.toNat<=64:=by
    have e:=C1 (n:=2) (by decide) (show p.take.toNat<=6 by omega);have e2:((2 ^ p.take.toNat:Nat):Int)=2 ^ p.take.toNat:=by simp
    omega
   have hmm:∀v,memL (B4 [⟨0,2 ^ p.take.toNat-1⟩]) v->0<=v/\v<=2 ^ p.take.toNat-1:=λv hv=>by
    obtain⟨t,ht1,ht2,ht3⟩:=(((B5 _).2 v).1 hv).1;have:=h2c t ht1;omega
   have hsy:Syms (B4 [⟨0,2 ^ p.take.toNat-1⟩]):=Wm (B5 _).1 λv hv=>by have:=hmm v hv;omega
   have hNN:B4 (B4 [⟨0,2 ^ p.take.toNat-1⟩])=B4 [⟨0,2 ^ p.take.toNat-1⟩]:=Ll (B5 _).1 λs hs=>by have:=hsy.2 s hs;omega
   rw[hNN];have hit:=ON (B4 [⟨0,2 ^ p.take.toNat-1⟩]) (by have:=hsy.len;omega) (by intro s hs;have:=hsy.2 s hs;omega);have hln:=hsy.nums;have hmem:∀k,k<(FD (B4 [⟨0,2 ^ p.take.toNat-1⟩])).length->0<=nth (FD (B4 [⟨0,2 ^ p.take.toNat-1⟩])) k/\nth (FD (B4 [⟨0,2 ^ p.take.toNat-1⟩])) k<=63:=λk hk=>by have:=hmm _ (I0.1 (AS hk));omega
   generalize B4 [⟨0,2 ^ p.take.toNat-1⟩]=M at *;generalize FD M=l at *
   refine RI (XB (σ:=Nat × List Span) (λk s=>s.2=(l.take k).map (λx=>oneS (x * 2 ^ p.up.toNat))/\s.2.length<=k) [(2,.ptr 0 1 0 0),(11,.ptr 1 1 0 0),(84,.fn 232 [.cptr (Bg M)])] (λs=>[⟨4,1,true,[Ga p]⟩,⟨1,1,true,[.ref 2 s.1 0 s.2.length]⟩,⟨2,s.1,false,s.2.map C2⟩])
    [.grp 0,.grp 4,.virt 2] 3 (1,[]) hit ?_ (λ_=>rfl) rfl ?_ rfl rfl (OU _) (Ss _) (by simp) ⟨by simp,by simp⟩ ?_ ?_)
   ·(with_reducible repeat'(first|simp(disch:=omega)only[push_cast,↓zz,seval,hNN]|refine sp_ ?_ ?_<;>try(intro hc;push_cast at hc)|omega|intro _))
   ·(with_reducible repeat'(first|simp(disch:=omega)only[push_cast,↓zz,seval]|refine sp_ ?_ ?_<;>try(intro hc;push_cast at hc)|omega|intro _))
   ·rintro k row ⟨v,o⟩ hrow ⟨h1,h2⟩
    simp only at h1 h2;obtain⟨hk,rfl⟩:=z5i hrow;have hxb:=hmem k hk;have hw3:=Wo (x:=nth l k) (n:=p.up.toNat) (by omega) (by omega)
    have hstep:(l.take (k+1)).map (λx=>oneS (x * 2 ^ p.up.toNat))=o++[oneS (nth l k * 2 ^ p.up.toNat)]:=by
     rw[take_at hk,Aw,<-h1];rfl
    generalize nth l k=x at *;refine W_T ?_;(with_reducible repeat'(first|simp(disch:=omega)only[push_cast,↓zz,seval]|refine sp_ ?_ ?_<;>try(intro hc;push_cast at hc)|omega|intro _));refine W_T ?_;(with_reducible repeat'(first|simp(disch:=omega)only[push_cast,↓zz,seval,hw3]|refine sp_ ?_ ?_<;>try(intro hc;push_cast at hc)|omega|intro _));exact⟨(v+1,o++[oneS (x * 2 ^ p.up.toNat)]),⟨⟨rfl,by simp⟩,rfl,by rw[Aw];exact By _ _⟩,hstep.symm,by simp;omega⟩
   ·rintro⟨v,o⟩ ⟨h1,h2⟩
    simp only[AY] at h1 h2;rw[A7] at h1;rw[<-h1];have hN2:=Dg o (by omega);(with_reducible repeat'(first|simp(disch:=omega)only[push_cast,↓zz,seval,E1]|refine sp_ ?_ ?_<;>try(intro hc;push_cast at hc)|refine ee hN2 ?_|(refine cc hN2 ?_;simp(disch:=omega)only[push_cast,↓zz,seval,E1];fail_if_success change False)|omega|intro _))
  all_goals rw[Ab (by assumption)] at h3
  ·rw[Ae (by assumption)] at h3
   exact⟨(k+1,out++[⟨u % 2 ^ p.take.toNat,v % 2 ^ p.take.toNat⟩]),⟨⟨by simp,by simp⟩,by rw[Aw];exact By _ _⟩,⟨by simp only;omega,by simp;omega,λt ht=>by
    rcases Ao.1 ht with ht|ht
    ·exact h2b t ht
    ·simp only[Am] at ht
     subst ht;have m0:=BM u (b:=2 ^ p.take.toNat) (by omega);have m1:=BB v (b:=2 ^ p.take.toNat) (by omega)
     exact⟨m0,by simp only;omega⟩,h3⟩,by simp only;omega⟩
  ·rw[Ab (by assumption)] at h3
   exact⟨(k+1,out++[⟨0,v % 2 ^ p.take.toNat⟩,⟨u % 2 ^ p.take.toNat,2 ^ p.take.toNat-1⟩]),⟨⟨by simp,by simp⟩,by rw[Aw];exact By _ _⟩,⟨by simp only;omega,by simp;omega,λt ht=>by
    rcases Ao.1 ht with ht|ht
    ·exact h2b t ht
    ·have m0:=BM u (b:=2 ^ p.take.toNat) (by omega)
     have m1:=BB v (b:=2 ^ p.take.toNat) (by omega);simp only[Af,Ai,Ap] at ht;rcases ht with rfl|rfl
     ·exact⟨BJ _,by simp only;omega⟩
     ·exact⟨m0,BJ _⟩,h3⟩,by simp only;omega⟩
 ·rw[An hk,imgF] at h3
  rw[h3];have hN:=Dg out (by omega);have hEa:=OO (B4 out) (by have:=E3 out;omega);refine W_T ?_;(with_reducible repeat'(first|simp(disch:=omega)only[push_cast,↓zz,seval]|refine sp_ ?_ ?_<;>try(intro hc;push_cast at hc)|refine ee hN ?_|refine ee hEa ?_|((first|refine cc hN ?_|refine cc hEa ?_);simp(disch:=omega)only[push_cast,↓zz,seval];fail_if_success change False)|omega|intro _))
  ·rw[Ae (by assumption)]
  ·rw[Ab (by assumption)]
   have hu:p.take<=6:=by omega
   have h64:(2:Int) ^ p.take.toNat<=64:=by
    have e:=C1 (n:=2) (by decide) (show p.take.toNat<=6 by omega);have e2:((2 ^ p.take.toNat:Nat):Int)=2 ^ p.take.toNat:=by simp
    omega
   have hmm:∀v,memL (B4 out) v->0<=v/\v<=2 ^ p.take.toNat-1:=λv hv=>by
    obtain⟨t,ht1,ht2,ht3⟩:=(((B5 _).2 v).1 hv).1;have:=h2b t ht1;omega
   have hsy:Syms (B4 out):=Wm (B5 _).1 λv hv=>by have:=hmm v hv;omega
   have hNN:B4 (B4 out)=B4 out:=Ll (B5 _).1 λs hs=>by have:=hsy.2 s hs;omega
   rw[hNN];have hit:=ON (B4 out) (by have:=hsy.len;omega) (by intro s hs;have:=hsy.2 s hs;omega);have hln:=hsy.nums;have hmem:∀k,k<(FD (B4 out)).length->0<=nth (FD (B4 out)) k/\nth (FD (B4 out)) k<=63:=λk hk=>by have:=hmm _ (I0.1 (AS hk));omega
   generalize B4 out=M at *;generalize FD M=l at *
   refine RI (XB (σ:=Nat × List Span) (λk s=>s.2=(l.take k).map (λx=>oneS (x * 2 ^ p.up.toNat))/\s.2.length<=k) [(2,.ptr 0 1 0 0),(11,.ptr 1 1 0 0),(84,.fn 232 [.cptr (Bg M)])] (λs=>[⟨4,1,true,[Ga p]⟩,⟨1,1,true,[.ref 2 s.1 0 s.2.length]⟩,⟨2,s.1,false,s.2.map C2⟩])
    [.grp 0,.grp 2,.virt 2] 3 (1,[]) hit ?_ (λ_=>rfl) rfl ?_ rfl rfl (OU _) (Ss _) (by simp) ⟨by simp,by simp⟩ ?_ ?_)
   ·(with_reducible repeat'(first|simp(disch:=omega)only[push_cast,↓zz,seval,hNN]|refine sp_ ?_ ?_<;>try(intro hc;push_cast at hc)|omega|intro _))
   ·(with_reducible repeat'(first|simp(disch:=omega)only[push_cast,↓zz,seval]|refine sp_ ?_ ?_<;>try(intro hc;push_cast at hc)|omega|intro _))
   ·rintro k row ⟨v,o⟩ hrow ⟨h1,h2⟩
    simp only at h1 h2;obtain⟨hk,rfl⟩:=z5i hrow;have hxb:=hmem k hk;have hw3:=Wo (x:=nth l k) (n:=p.up.toNat) (by omega) (by omega)
    have hstep:(l.take (k+1)).map (λx=>oneS (x * 2 ^ p.up.toNat))=o++[oneS (nth l k * 2 ^ p.up.toNat)]:=by
     rw[take_at hk,Aw,<-h1];rfl
    generalize nth l k=x at *;refine W_T ?_;(with_reducible repeat'(first|simp(disch:=omega)only[push_cast,↓zz,seval]|refine sp_ ?_ ?_<;>try(intro hc;push_cast at hc)|omega|intro _));refine W_T ?_;(with_reducible repeat'(first|simp(disch:=omega)only[push_cast,↓zz,seval,hw3]|refine sp_ ?_ ?_<;>try(intro hc;push_cast at hc)|omega|intro _));exact⟨(v+1,o++[oneS (x * 2 ^ p.up.toNat)]),⟨⟨rfl,by simp⟩,rfl,by rw[Aw];exact By _ _⟩,hstep.symm,by simp;omega⟩
   ·rintro⟨v,o⟩ ⟨h1,h2⟩
    simp only[AY] at h1 h2;rw[A7] at h1;rw[<-h1];have hN2:=Dg o (by omega);(with_reducible repeat'(first|simp(disch:=omega)only[push_cast,↓zz,seval,E1]|refine sp_ ?_ ?_<;>try(intro hc;push_cast at hc)|refine ee hN2 ?_|(refine cc hN2 ?_;simp(disch:=omega)only[push_cast,↓zz,seval,E1];fail_if_success change False)|omega|intro _))
def Low(n:Nat)(l:List Span):Prop:=Plain l/\∀s∈l,0<=s.lo/\s.lo<=s.hi/\s.hi<=2 ^ n-1
theorem z5k:∀{l:List Span}{f N:Nat},Plain l->(∀s∈l,(f:Int)<=s.lo/\s.hi<N)->f<=N->l.length+f<=N
 |[],f,N,_,_,hf=>by simpa using hf
 |s::l,f,N,h,hb,hf=>by
  have h1:=hb s (by simp);have h2:=h.head
  have:=z5k (l:=l) (f:=(s.hi+1).toNat) (N:=N) h.tail (λt ht=>by
   have:=(AM.1 h.2).1 t ht;have:=hb t (by simp[ht])
   omega) (by omega)
  simp only[List.length_cons];omega
theorem Low.len{n:Nat}{l:List Span}(h:Low n l):(l.length:Int)<=2 ^ n:=by
 have e:((2 ^ n:Nat):Int)=2 ^ n:=by simp
 have:=z5k (f:=0) (N:=2 ^ n) h.1 (λs hs=>by have:=h.2 s hs;simp only[Int.ofNat_zero];omega) (Au _);omega
theorem Yq{α:Type}{f:α->List Span}:∀{l:List α}{v:Int},memL (l.flatMap f) v↔∃x∈l,memL (f x) v
 |[],v=>by simp[memL]
 |x::l,v=>by
  rw[CN,Fv,Yq];constructor
  ·rintro (h|⟨y,hy,h⟩)
   ·exact⟨x,by simp,h⟩
   ·exact⟨y,by simp[hy],h⟩
  ·rintro⟨y,hy,h⟩
   rcases Af.1 hy with rfl|hy
   ·exact .inl h
   ·exact .inr ⟨y,hy,h⟩
theorem Sv{l:List Span}{d:Int}(hd:-2147483648<=d/\d<=2147483648){v:Int}:memL (Fh l d) v↔(memL l (v-d)/\-1073741824<=v-d/\v-d<=1073741824)/\-1073741824<=v/\v<=1073741824:=by
 obtain⟨p1,p2⟩:=B5 l;obtain⟨q1,q2⟩:=B5 ((B4 l).map (Fl d));rw[Fh,Ab (by omega),q2 v,<-p2 (v-d)]
 have:memL ((B4 l).map (Fl d)) v↔memL (B4 l) (v-d):=by
  constructor
  ·rintro⟨s,hs,h1,h2⟩
   obtain⟨t,ht,rfl⟩:=Ax.1 hs;exact⟨t,ht,by simp only[Fl] at h1;omega,by simp only[Fl] at h2;omega⟩
  ·rintro⟨t,ht,h1,h2⟩
   exact⟨Fl d t,Ax.2 ⟨t,ht,rfl⟩,by simp only[Fl];omega,by simp only[Fl];omega⟩
 rw[this]
theorem FE{p:Part}{x:Int}(hb:Gd p=true)(hx:0<=x/\x<=2097151):0<=valP p x/\valP p x<=66060288:=by
 have hbi:=KZ.1 hb;have ht:=Nl p.take.toNat (by omega);have hu:=Nl p.up.toNat (by omega);have m0:=BM (x / 2 ^ p.drop.toNat) (b:=2 ^ p.take.toNat) (by omega);have m1:=BB (x / 2 ^ p.drop.toNat) (b:=2 ^ p.take.toNat) (by omega);have hq:=z5j (d:=p.drop.toNat) (by omega) hx
 have m2:x / 2 ^ p.drop.toNat % 2 ^ p.take.toNat<=x / 2 ^ p.drop.toNat:=by
  have h1:=Int.emod_add_mul_ediv (x / 2 ^ p.drop.toNat) (2 ^ p.take.toNat);have h2:0<=2 ^ p.take.toNat * (x / 2 ^ p.drop.toNat / 2 ^ p.take.toNat):=Fs (by omega) (FX hq.1 (by omega));omega
 rw[valP];refine⟨Fs m0 (by omega),?_⟩;rcases hbi.2.2.2.2.2.2 with h0|h6
 ·rw[h0,show (2:Int) ^ (0:Int).toNat=1 by decide,Int.mul_one];omega
 ·have e:=C1 (n:=2) (by decide) (show p.take.toNat<=6 by omega)
  have e2:((2 ^ p.take.toNat:Nat):Int)=2 ^ p.take.toNat:=by simp
  have e3:=C1 (n:=2) (by decide) (show p.up.toNat<=20 by omega);have e4:((2 ^ p.up.toNat:Nat):Int)=2 ^ p.up.toNat:=by simp
  have:x / 2 ^ p.drop.toNat % 2 ^ p.take.toNat * 2 ^ p.up.toNat<=63 * 1048576:=Int.mul_le_mul (by omega) (by omega) (by omega) (by omega);omega
theorem UK{t:Term}{p:Part}{x:Int}(hp:t.parts=[p])(hr:E4 p 1=true)(ho:Gd t.outer=true)(hs:Gr t.sum=true)(hbs:Gr t.base=true)(hx:0<=x/\x<=1114111):
 EH t [x]=if 0<=t.sum+valP p x/\t.sum+valP p x<=1114111 then some (t.base+valP t.outer (t.sum+valP p x)) else none:=by
 have hra:=Iv hr;have hbp:Gd p=true:=by simp only[E4,Ac] at hr;exact hr.2
 have hv:=FE hbp (x:=x) (by omega);have hsm:=GR hs;have hbm:=GR hbs;have e1:val1 p x=valP p x:=(LW hbp (by omega)).2
 have hsum:sumP [x] t.parts t.sum=some (t.sum+valP p x):=by
  rw[hp,sumP,Ae (by simpa using hr),sumP];have:nth [x] p.at_.toNat=x:=by rw[show p.at_.toNat=0 by omega];rfl
  rw[this,e1,show IntKind.i64.wrap (t.sum+valP p x)=t.sum+valP p x from IntWalk.i64_in _ (by omega)]
 have hsy:[x].all symB=true:=by simp[symB];omega
 unfold EH;rw[Ae hsy,hsum];simp only;by_cases h:0<=t.sum+valP p x/\t.sum+valP p x<=1114111
 ·have hvb:valB t.outer (t.sum+valP p x)=true:=(LW ho (by omega)).1
  have hv2:=FE ho (x:=t.sum+valP p x) (by omega);rw[Ae h,Ae (by simp[hvb];omega),show IntKind.i64.wrap (t.base+valP t.outer (t.sum+valP p x))=t.base+valP t.outer (t.sum+valP p x) from IntWalk.i64_in _ (by omega)]
 ·rw[Ab h,Ab]
  simp only[valB,ho,AO,Ac,Ah];omega
theorem zbz(s:List Span):Ge (B4 s) (B4 [⟨0,1114111⟩])=symI s:=by rw[symI,z07]
theorem zc0(l:List Span)(d:Int):(Fh l d).length<=l.length:=by
 unfold Fh;split
 ·simp
 ·have h1:=E3 ((B4 l).map (Fl d))
  have h2:=E3 l;simp only[AY] at h1;omega
def sumS(x y:Span):Span:=⟨x.lo+y.lo,x.hi+y.hi⟩
def Wp(a b:List Span):List Span:=a.flatMap λx=>b.map (sumS x)
def UL(a b:List Span):List Span:=B4 (Wp a b)
theorem z09(x:Span)(a b:List Span):Wp (x::a) b=b.map (sumS x)++Wp a b:=rfl
theorem z0a{l m:List Span}(h:∀v,-1073741824<=v/\v<=1073741824->(memL l v↔memL m v)):B4 l=B4 m:=by
 obtain⟨p1,p2⟩:=B5 l;obtain⟨q1,q2⟩:=B5 m;refine Hk p1 q1 λv=>?_;rw[p2,q2];constructor
 ·rintro⟨h1,h2,h3⟩;exact⟨(h v ⟨h2,h3⟩).1 h1,h2,h3⟩
 ·rintro⟨h1,h2,h3⟩;exact⟨(h v ⟨h2,h3⟩).2 h1,h2,h3⟩
theorem z5l{l m:List Span}:B4 (B4 l++m)=B4 (l++m):=z0a λv hv=>by
 rw[Fv,Fv,(B5 l).2 v];constructor
 ·rintro (⟨h,_⟩|h)
  ·exact .inl h
  ·exact .inr h
 ·rintro (h|h)
  ·exact .inl ⟨h,hv⟩
  ·exact .inr h
theorem UM:∀{l:List Span}{f:Nat},Plain l->(∀s∈l,(f:Int)-1073741824<=s.lo/\s.hi<=1073741824)->f<=2147483649->l.length+f<=2147483649
 |[],f,_,_,hf=>by simpa using hf
 |s::l,f,h,hb,hf=>by
  have h1:=hb s (by simp);have h2:=h.head
  have:=UM (l:=l) (f:=(s.hi+1073741825).toNat) h.tail (λt ht=>by
   have:=(AM.1 h.2).1 t ht;have:=hb t (by simp[ht])
   omega) (by omega)
  simp only[List.length_cons];omega
theorem OV(l:List Span):(B4 l).length<=2147483649:=by
 have:=UM (f:=0) (B5 l).1 (λs hs=>by have:=EV l s hs;simp only[Int.ofNat_zero];omega) (by omega);omega
def Bd(l:List Span):Prop:=∀s∈l,(-1099511627776<=s.lo/\s.lo<=1099511627776)/\-1099511627776<=s.hi/\s.hi<=1099511627776
theorem z0b(l:List Span)(hl:l.length<=1000000000000):B3 Tryz.prog 144 [Bg l] (Abs.hl []) λy H'=>y=.ref 0 1 0 (B4 l).length/\H'=Abs.hl [⟨2,1,false,(B4 l).map C2⟩] :=
 TM (by omega) ((Mb l hl).mono λy H' ⟨rest,h1,h2⟩=>⟨rest.map C2,h1,by rw[h2,Aw]⟩)
theorem z5m(a b:List Span)(la:a.length<=3000000000)(lb:b.length<=3000000000)(ha:Bd a)(hb:Bd b):PC Tryz.prog 229 [Bg a,Bg b] (Bg (UL a b)):=by
 refine Cf Wa ?_;unfold OE;(with_reducible repeat'(first|simp(disch:=omega)only[push_cast,↓zz,seval]|refine sp_ ?_ ?_<;>try(intro hc;push_cast at hc)|omega|intro _))
 refine Br (Bs (λ(s:Nat × List Span)=>s.1<=a.length/\s.2.length<=2147483649/\UL a b=B4 (s.2++Wp (a.drop s.1) b)) (λs=>a.length-s.1)
  (λs=>[(1,Bg b),(5,.ref 0 1 0 s.2.length),(10,Bg a),(11,.int .i64 a.length),(12,.int .i64 s.1)]) (λs=>[⟨2,1,false,s.2.map C2⟩]) (λenv _=>[C7 2 (env 5)]) (0,[]) ⟨by simp,by simp,by simp[UL]⟩ ?_ ?_)
 ·(with_reducible repeat'(first|simp(disch:=omega)only[push_cast,↓zz,seval]|refine sp_ ?_ ?_<;>try(intro hc;push_cast at hc)|omega|intro _))
 rintro⟨k,out⟩ ⟨h1,h2,h3⟩;simp only at h1 h2 h3;rcases Ak k a.length with hk|hk
 ·rw[drop_at hk,z09,<-A3] at h3
  have hx:=ha _ (AS hk);generalize hxe:nth a k=x at *;refine W_T ?_;(with_reducible repeat'(first|simp(disch:=omega)only[push_cast,↓zz,seval,hxe]|refine sp_ ?_ ?_<;>try(intro hc;push_cast at hc)|omega|intro _))
  refine Br (Bs (λ(s:Nat × List Span)=>s.1<=b.length/\s.2=out++(b.take s.1).map (sumS x)/\s.2.length=out.length+s.1) (λs=>b.length-s.1)
   (λs=>[(1,Bg b),(5,.ref 0 1 0 s.2.length),(7,.ptr 1 1 0 0),(10,Bg a),(11,.int .i64 a.length),(12,.int .i64 k),(16,Bg b),(17,.int .i64 b.length),(18,.int .i64 s.1)]) (λs=>[⟨2,1,false,s.2.map C2⟩,⟨2,1,true,[C2 x]⟩]) (λenv _=>[C7 2 (env 5),C7 2 (env 7)]) (0,out) ⟨by simp,by simp,by simp⟩ ?_ ?_)
  ·(with_reducible repeat'(first|simp(disch:=omega)only[push_cast,↓zz,seval]|refine sp_ ?_ ?_<;>try(intro hc;push_cast at hc)|omega|intro _))
  rintro⟨j,o⟩ ⟨g1,g2,g3⟩;simp only at g1 g2 g3;rcases Ak j b.length with hj|hj
  ·have hy:=hb _ (AS hj)
   have hstep:out++(b.take (j+1)).map (sumS x)=o++[sumS x (nth b j)]:=by rw[take_at hj,Aw,<-A3,<-g2];rfl
   generalize hye:nth b j=y at *;have hw1:IntKind.i64.wrap (x.lo+y.lo)=x.lo+y.lo:=IntWalk.i64_in _ (by omega);have hw2:IntKind.i64.wrap (x.hi+y.hi)=x.hi+y.hi:=IntWalk.i64_in _ (by omega);clear g2;refine W_T ?_;(with_reducible repeat'(first|simp(disch:=omega)only[push_cast,↓zz,seval,hye,hw1,hw2]|refine sp_ ?_ ?_<;>try(intro hc;push_cast at hc)|omega|intro _));refine⟨(j+1,o++[sumS x y]),?_⟩;(with_reducible repeat'(first|simp(disch:=omega)only[push_cast,↓zz,seval,sumS,hstep]|refine sp_ ?_ ?_<;>try(intro hc;push_cast at hc)|omega|intro _))
  ·obtain rfl:j=b.length:=by omega
   rw[A7] at g2;rw[<-g2] at h3;clear g2;have hno:=OV o;have hap:=@z5l o (Wp (a.drop (k+1)) b);refine W_T ?_;(with_reducible repeat'(first|simp(disch:=omega)only[push_cast,↓zz,seval]|refine sp_ ?_ ?_<;>try(intro hc;push_cast at hc)|omega|intro _))
   ·(refine zit (ys:=[Bg o]) ?_ ?_ ?_<;>(simp(disch:=omega)only[push_cast,↓zz,seval]))
    (refine at_c [] (z0b o (by omega)) (by decide) (by simp) (by refine⟨?_,?_,?_,?_⟩<;>(simp(disch:=omega)only[push_cast,↓zz,seval,Af,Ai,Ap,Av,AH,Ar])) ?_)
    rintro y H' ⟨rfl,rfl⟩;refine⟨_,rfl,by simp,?_⟩;(with_reducible repeat'(first|simp(disch:=omega)only[push_cast,↓zz,seval]|refine sp_ ?_ ?_<;>try(intro hc;push_cast at hc)|omega|intro _));refine⟨(k+1,B4 o),?_⟩;(with_reducible repeat'(first|simp(disch:=omega)only[push_cast,↓zz,seval,hap]|refine sp_ ?_ ?_<;>try(intro hc;push_cast at hc)|omega|intro _))
   ·refine⟨(k+1,o),?_⟩
    (with_reducible repeat'(first|simp(disch:=omega)only[push_cast,↓zz,seval]|refine sp_ ?_ ?_<;>try(intro hc;push_cast at hc)|omega|intro _))
 ·rw[An hk,show Wp [] b=[] from rfl,A4] at h3
  have hN:=Dg out (by omega);refine W_T ?_;(with_reducible repeat'(first|simp(disch:=omega)only[push_cast,↓zz,seval,h3,E1]|refine sp_ ?_ ?_<;>try(intro hc;push_cast at hc)|refine ee hN ?_|(refine cc hN ?_;simp(disch:=omega)only[push_cast,↓zz,seval,h3,E1];fail_if_success change False)|omega|intro _))
def totV(l:List Part)(x:Int):Int:=(l.map λp=>valP p x).sum
theorem zc1(x:Int):totV [] x=0:=rfl
theorem z5n(l:List Part)(p:Part)(x:Int):totV (l++[p]) x=totV l x+valP p x:=by simp[totV]
theorem OW{x:Int}(hx:0<=x/\x<=2097151):∀{l:List Part},(∀p∈l,Gd p=true)->0<=totV l x/\totV l x<=l.length * 66060288
 |[],_=>by simp[totV]
 |p::l,h=>by
  have h1:=FE (h p (by simp)) hx;have h2:=OW hx (l:=l) λq hq=>h q (by simp[hq]);have e:totV (p::l) x=valP p x+totV l x:=by simp[totV]
  rw[e,List.length_cons]
  push_cast
  omega
def togF(l:List Part)(out:List Span)(x:Int):List Span:=addS out ⟨totV l x,totV l x⟩
def togL(l:List Part)(s:List Span):List Span :=
 if l.length=1 then imgL (nth l 0) s else B4 ((FD (B4 s)).foldl (togF l) [])
theorem Sw(l:List Part)(s:List Span)(hl:l.length<=1000)(hb:∀p∈l,Gd p=true)(hs:s.length<=10000000000)(hsy:Syms (B4 s)):
 PC Tryz.prog 230 [GF l,Bg s] (Bg (togL l s)):=by
 have hln:=hsy.nums;have hls:=hsy.len;have hmem:∀k,k<(FD (B4 s)).length->0<=nth (FD (B4 s)) k/\nth (FD (B4 s)) k<=1114111:=λk hk=>hsy.mem (I0.1 (AS hk));have hit:=ON (B4 s) (by omega) (EV s);have hI:=QF (nth l 0) s hs;have hE:=OO s (by omega);refine Cf OF ?_;unfold Jc;(with_reducible repeat'(first|simp(disch:=omega)only[push_cast,↓zz,seval]|refine sp_ ?_ ?_<;>try(intro hc;push_cast at hc)|refine ee hI ?_|refine ee hE ?_|((first|refine cc hI ?_|refine cc hE ?_);simp(disch:=omega)only[push_cast,↓zz,seval];fail_if_success change False)|omega|intro _))
 ·rw[togL,Ae (by omega)]
 rw[togL,Ab (by omega)];generalize hlne:FD (B4 s)=m at *
 refine RI (XB (σ:=Nat × List Span) (λk s=>s.2=(m.take k).foldl (togF l) []/\s.2.length<=k) [(2,.ptr 0 1 0 0),(5,.ptr 1 1 0 0),(22,.fn 232 [.cptr (Bg (B4 s))])] (λs=>[⟨1,1,true,[GF l]⟩,⟨1,1,true,[.ref 2 s.1 0 s.2.length]⟩,⟨2,s.1,false,s.2.map C2⟩])
  [.grp 0,.grp 1,.virt 2] 3 (1,[]) hit ?_ (λ_=>rfl) rfl ?_ rfl rfl (OU _) (Ss _) (by simp) ⟨by simp,by simp⟩ ?_ ?_)
 ·(with_reducible repeat'(first|simp(disch:=omega)only[push_cast,↓zz,seval]|refine sp_ ?_ ?_<;>try(intro hc;push_cast at hc)|omega|intro _))
 ·(with_reducible repeat'(first|simp(disch:=omega)only[push_cast,↓zz,seval]|refine sp_ ?_ ?_<;>try(intro hc;push_cast at hc)|omega|intro _))
 ·rintro k row ⟨v,out⟩ hrow ⟨h1,h2⟩
  simp only at h1 h2;obtain⟨hk,rfl⟩:=z5i hrow;have hxb:=hmem k hk;have hstep:(m.take (k+1)).foldl (togF l) []=togF l out (nth m k):=by rw[take_at hk,CO,<-h1];rfl
  generalize nth m k=x at *;refine W_T ?_;(with_reducible repeat'(first|simp(disch:=omega)only[push_cast,↓zz,seval]|refine sp_ ?_ ?_<;>try(intro hc;push_cast at hc)|omega|intro _));refine W_T ?_;(with_reducible repeat'(first|simp(disch:=omega)only[push_cast,↓zz,seval]|refine sp_ ?_ ?_<;>try(intro hc;push_cast at hc)|omega|intro _))
  refine Br (Bs (λ(j:Nat)=>j<=l.length) (λj=>l.length-j)
   (λj=>[(2,.ptr 0 1 0 0),(5,.ptr 1 1 0 0),(6,.int .i64 x),(7,.int .i64 (totV (l.take j) x)),(24,GF l),(25,.int .i64 l.length),(26,.int .i64 j)]) (λ_=>[⟨1,1,true,[GF l]⟩,⟨1,1,true,[.ref 2 v 0 out.length]⟩,⟨2,v,false,out.map C2⟩]) (λ_ _=>[]) 0 (by simp) ?_ ?_)
  ·(with_reducible repeat'(first|simp(disch:=omega)only[push_cast,↓zz,seval,zc1]|refine sp_ ?_ ?_<;>try(intro hc;push_cast at hc)|omega|intro _))
  intro j hj;rcases Ak j l.length with hjl|hjl
  ·have hp:=hb _ (AS hjl)
   have hV:=Ia (nth l j) x
   have e1:val1 (nth l j) x=valP (nth l j) x:=by
    have hvb:valB (nth l j) x=true:=by simp[valB,hp];omega
    simp[val1,hvb]
   rw[valV,e1] at hV;have t1:=OW (x:=x) (by omega) (l:=l.take j) λq hq=>hb q (B8 hq);have t2:=FE hp (x:=x) (by omega);have hlt:(l.take j).length=j:=by simp;omega
   rw[hlt] at t1;have hw:IntKind.i64.wrap (totV (l.take j) x+valP (nth l j) x)=totV (l.take j) x+valP (nth l j) x:=IntWalk.i64_in _ (by omega);have hn:totV (l.take (j+1)) x=totV (l.take j) x+valP (nth l j) x:=by rw[take_at hjl,z5n]
   refine W_T ?_;(with_reducible repeat'(first|simp(disch:=omega)only[push_cast,↓zz,seval,hw]|refine sp_ ?_ ?_<;>try(intro hc;push_cast at hc)|refine ee hV ?_|(refine cc hV ?_;simp(disch:=omega)only[push_cast,↓zz,seval,hw];fail_if_success change False)|omega|intro _))
   all_goals exact⟨j+1,⟨hn.symm,by push_cast⟩,by omega,by omega⟩
  ·obtain rfl:j=l.length:=by omega
   rw[A7];have t1:=OW (x:=x) (by omega) (l:=l) hb;rw[togF] at hstep;generalize totV l x=n at *;have hwn:IntKind.i64.wrap (n-1)=n-1:=IntWalk.i64_in _ (by omega);rcases Gh out with rfl|⟨mm,z,hout⟩
   ·refine W_T ?_
    (with_reducible repeat'(first|simp(disch:=omega)only[push_cast,↓zz,seval,hwn]|refine sp_ ?_ ?_<;>try(intro hc;push_cast at hc)|omega|intro _))
    all_goals
     refine⟨(v+1,[⟨n,n⟩]),?_⟩;rw[Iz] at hstep;(with_reducible repeat'(first|simp(disch:=omega)only[push_cast,↓zz,seval,hstep]|refine sp_ ?_ ?_<;>try(intro hc;push_cast at hc)|omega|intro _))
   ·have l1:out.length=mm.length+1:=by rw[hout];simp
    have l2:nth out mm.length=z:=by rw[hout];exact Ym
    have l3:IntKind.i64.wrap (mm.length:Int)=mm.length:=IntWalk.i64_in _ (by omega);have l4:(out.map C2).set mm.length (.agg [.int .i64 z.lo,.int .i64 n])=(mm++[(⟨z.lo,n⟩:Span)]).map C2:=by rw[hout];exact MU (f:=C2) (z:=⟨z.lo,n⟩)
    have hadd:addS out ⟨n,n⟩=if z.hi=n-1 then mm++[⟨z.lo,n⟩] else out++[⟨n,n⟩]:=by rw[hout,Lj]
    rw[hadd] at hstep;clear hadd hout;refine W_T ?_;(with_reducible repeat'(first|simp(disch:=omega)only[push_cast,↓zz,seval,l1,l2,l3,l4,hwn]|refine sp_ ?_ ?_<;>try(intro hc;push_cast at hc)|omega|intro _))
    ·rw[Ae (by assumption)] at hstep
     refine⟨(v,mm++[⟨z.lo,n⟩]),?_⟩;(with_reducible repeat'(first|simp(disch:=omega)only[push_cast,↓zz,seval,hstep]|refine sp_ ?_ ?_<;>try(intro hc;push_cast at hc)|omega|intro _))
    ·rw[Ab (by assumption)] at hstep
     refine⟨(v+1,out++[⟨n,n⟩]),?_⟩;(with_reducible repeat'(first|simp(disch:=omega)only[push_cast,↓zz,seval,hstep,l1]|refine sp_ ?_ ?_<;>try(intro hc;push_cast at hc)|omega|intro _))
 ·rintro⟨v,out⟩ ⟨h1,h2⟩
  simp only[AY] at h1 h2;rw[A7] at h1;rw[<-h1];have hN:=Dg out (by omega);(with_reducible repeat'(first|simp(disch:=omega)only[push_cast,↓zz,seval,E1]|refine sp_ ?_ ?_<;>try(intro hc;push_cast at hc)|refine ee hN ?_|(refine cc hN ?_;simp(disch:=omega)only[push_cast,↓zz,seval,E1];fail_if_success change False)|omega|intro _))
def Fp(pl:List Int)(p:Part):List Int:=if p.at_∈pl then pl else pl++[p.at_]
def F6(l:List Part):List Int:=l.foldl Fp []
def atL(l:List Part)(a:Int):List Part:=l.filter λp=>decide (p.at_=a)
def Jg(l:List Part)(sets:List (List Span))(out:List Span)(a:Int):List Span:=UL out (togL (atL l a) (nth sets a.toNat))
def IH(t:Term)(sets:List (List Span)):List Span:=(F6 t.parts).foldl (Jg t.parts sets) [⟨t.sum,t.sum⟩]
def PO(l:List Span):Bool:=decide (0<(l.length:Int))&&(decide (0<=(UI (B4 l)).getD 0)&&decide ((Wn (B4 l)).getD 0<=1114111))
def Acc(l:List Span):Prop:=Bd l/\l.length<=2147483649
theorem OX(l:List Span):Acc (B4 l):=by
 refine⟨λs hs=>?_,OV l⟩;have:=EV l s hs;omega
theorem Sx(a b:List Span):Acc (UL a b):=OX _
theorem Sy(p:Part)(s:List Span):Acc (imgL p s):=by
 unfold imgL
 repeat' split
 all_goals first|exact OX _|exact⟨λs hs=>(by cases hs),by simp⟩
theorem Yr(l:List Part)(s:List Span):Acc (togL l s):=by
 unfold togL;split
 ·exact Sy _ _
 ·exact OX _
theorem z5o{x:Int}(h:Gr x=true):Acc [⟨x,x⟩]:=by
 refine⟨λs hs=>?_,by simp⟩;have:=GR h;simp only[Am] at hs;subst hs;simp only;omega
structure QH(l:List Part)(sets:List (List Span)):Prop where
 parts:∀p∈l,E4 p sets.length=true
 syms:∀s∈sets,Syms s
 many:sets.length<=1000
theorem UN{s:List Span}(h:Syms s):B4 s=s:=Ll h.1 λt ht=>by have:=h.2 t ht;omega
theorem Wq{l:List Part}{sets:List (List Span)}{out:List Span}{a:Int}(hS:QH l sets)(hA:Acc out)(ha:0<=a/\a<sets.length)(hl:l.length<=4):
 PC Tryz.prog 230 [GF (atL l a),Bg (nth sets a.toNat)] (Bg (togL (atL l a) (nth sets a.toNat)))/\PC Tryz.prog 229 [Bg out,Bg (togL (atL l a) (nth sets a.toNat))] (Bg (Jg l sets out a))/\Acc (Jg l sets out a):=by
 have hm:nth sets a.toNat∈sets:=AS (by omega);have hs:=hS.syms _ hm;refine⟨Sw _ _ (AJ (BI _ _) (by omega)) (λp hp=>?_) (by have:=hs.len;omega) (by rw[UN hs];exact hs),z5m _ _ (by have:=hA.2;omega) (by have:=(Yr (atL l a) (nth sets a.toNat)).2;omega) hA.1 (Yr _ _).1,Sx _ _⟩;have:=hS.parts p ((Bn.1 hp).1);simp only[E4,Ac] at this;exact this.2
theorem T_cut{σ:Type}{P:Program}{n b:Nat}{env:Env}{H:A5}{Q:Ex->Env->A5->Prop}(live:σ->List (Nat × AV))(heap:σ->List Grp)(srcs:Env->A5->List Src){x y:AC}
 (h1:T P n b x env H (Ex.then (λenv' H'=>∃s',Head b env' H' (srcs env' H') (live s') (heap s')) Q)) (h2:∀s,T P n b y (EB (live s)) (hl (heap s)) Q):T P n b (.seq x y) env H Q:=BG (T.mono h1 λx env' H' hh=>by
 cases x with
 |normal=>obtain⟨s',k⟩:=hh;exact Qk k (h2 s')
 |exit id=>exact hh
 |ret=>exact hh)
theorem pc_tt{P:Program}{f m np:Nat}{xs:List AV}{y:AV}{res:List ARes}{B:AC}(hf:Bj P f xs.length=some ⟨m,np,res,B⟩)(h:T P m 0 B (entry xs) (Abs.hl []) (Ret P res λz H=>CJ 4 H z/\ansW (frzV 4 H z) y)):PC P f xs y:=by
 refine zfz hf 4 ?_;rw[T9];exact T.mono h λx env H hh=>RA (λz H hh=>⟨hh.1,z3b hh.2⟩) hh
theorem em2(a b:Int):(a=b/\True)\/(¬a=b/\¬b=a):=by
 rcases Classical.em (a=b) with h|h
 ·exact .inl ⟨h,trivial⟩
 ·exact .inr ⟨h,λq=>h q.symm⟩
def mpO(l:List Part)(pl:List Int):List AV:=pl.flatMap λa=>[.int .i64 a,GF (atL l a)]
theorem Ys{l:List Part}{z:AV}{a:Int}:∀{pl:List Int},a∈pl->IF z a (mpO l pl)=some (GF (atL l a))
 |[],h=>by cases h
 |b::pl,h=>by
  rw[show mpO l (b::pl)=.int .i64 b::GF (atL l b)::mpO l pl from rfl,Qg];split
  ·rename_i e;rw[e]
  ·rename_i e;exact Ys ((Af.1 h).resolve_left λq=>e q.symm)
theorem Yt(l:List Part):∀pl:List Int,Bh (mpO l pl)=true
 |[]=>rfl
 |b::pl=>by
  rw[show mpO l (b::pl)=[.int .i64 b,GF (atL l b)]++mpO l pl from rfl,KE,Yt l pl];simp[Bh,AV.pure,J1]
theorem QI{a:Int}:∀{l:List Part}{pl:List Int},a∈l.foldl Fp pl->a∈pl\/∃p∈l,p.at_=a
 |[],_,h=>.inl h
 |p::l,pl,h=>by
  rcases QI (l:=l) h with h|⟨q,h1,h2⟩
  ·unfold Fp at h
   split at h
   ·exact .inl h
   ·rcases Ao.1 h with h|h
    ·exact .inl h
    ·exact .inr ⟨p,by simp,(Am.1 h).symm⟩
  ·exact .inr ⟨q,by simp[h1],h2⟩
theorem QJ:∀(l:List Part)(pl:List Int),(l.foldl Fp pl).length<=pl.length+l.length
 |[],_=>Ad _
 |p::l,pl=>by
  have h:=QJ l (Fp pl p);have k:(Fp pl p).length<=pl.length+1:=by unfold Fp;split<;>simp
  show (l.foldl Fp (Fp pl p)).length<=_;rw[List.length_cons];omega
theorem Yu{l:List Part}{sets:List (List Span)}:∀(q:List Int){out:List Span},Acc out->Acc (q.foldl (Jg l sets) out)
 |[],_,h=>h
 |_::q,_,_=>Yu q (Sx _ _)
set_option maxHeartbeats 2000000 in
theorem Wr(t:Term)(sets:List (List Span))(hl:t.parts.length<=4)(hs:Gr t.sum=true)(hS:QH t.parts sets):
 PC Tryz.prog 208 [G0 t,Du sets] (.tup [Bg (IH t sets),.bool (PO (IH t sets))]):=by
 obtain⟨bs,dr,tk,up,sm,l⟩:=t;simp only at hl hs hS;have hg:=BQ sets;have A0:=z5o hs
 have hb:∀a∈F6 l,0<=a/\a<sets.length:=λa h=>by
  rcases QI h with h|⟨p,hp,rfl⟩
  ·cases h
  ·exact Iv (hS.parts p hp)
 have hmp:∀a∈F6 l,IF .nilS a (mpO l (F6 l))=some (GF (atL l a)):=λa h=>Ys h;have hpu:=Yt l (F6 l);have hpn:(F6 l).length<=4:=AJ (QJ l []) (by simpa using hl);have hv:IH ⟨bs,dr,tk,up,sm,l⟩ sets=(F6 l).foldl (Jg l sets) [⟨sm,sm⟩]:=rfl;rw[hv];obtain⟨pl,hpl⟩:∃pl,F6 l=pl:=⟨_,rfl⟩;obtain⟨mp,hme⟩:∃mp,mpO l (F6 l)=mp:=⟨_,rfl⟩;rw[hme] at hmp hpu;rw[hpl] at hb hmp hme hpn ⊢;clear hv;refine pc_tt Sd ?_;unfold KX;refine BG (W_T ?_);(with_reducible repeat'(first|simp(disch:=omega)only[push_cast,↓zz,seval]|refine sp_ ?_ ?_<;>try(intro hc;push_cast at hc)|omega|intro _));refine BG (W_T ?_);(with_reducible repeat'(first|simp(disch:=omega)only[push_cast,↓zz,seval]|refine sp_ ?_ ?_<;>try(intro hc;push_cast at hc)|omega|intro _));refine BG (W_T ?_);(with_reducible repeat'(first|simp(disch:=omega)only[push_cast,↓zz,seval]|refine sp_ ?_ ?_<;>try(intro hc;push_cast at hc)|omega|intro _));refine T_cut (σ:=Unit) (λ_=>[(1,Du sets),(2,.ptr 0 1 0 0),(6,.map 1 1),(7,.lst 1 (pl.map (AV.int .i64)))]) (λ_=>[⟨6,1,true,[G0 ⟨bs,dr,tk,up,sm,l⟩]⟩,⟨0,1,true,mp⟩]) (λenv _=>[C7 6 (env 2),C7 1 (env 6)]) (W_T ?_) ?_
 ·clear hmp hpu hpn hb hS A0 hs
  rcases l with _|⟨⟨a0,d0,t0,u0⟩,_|⟨⟨a1,d1,t1,u1⟩,_|⟨⟨a2,d2,t2,u2⟩,_|⟨⟨a3,d3,t3,u3⟩,_|⟨p4,l⟩⟩⟩⟩⟩
  case cons.cons.cons.cons.cons=>simp at hl
  all_goals first|(refine (em2 a0 a1).elim (λq=>?_) λn01=>?_;obtain⟨rfl,n01⟩:=q)|(have n01:=trivial)
  all_goals first|(refine (em2 a0 a2).elim (λq=>?_) λn02=>?_;obtain⟨rfl,n02⟩:=q)|(have n02:=trivial)
  all_goals first|(refine (em2 a1 a2).elim (λq=>?_) λn12=>?_;obtain⟨rfl,n12⟩:=q)|(have n12:=trivial)
  all_goals first|(refine (em2 a0 a3).elim (λq=>?_) λn03=>?_;obtain⟨rfl,n03⟩:=q)|(have n03:=trivial)
  all_goals first|(refine (em2 a1 a3).elim (λq=>?_) λn13=>?_;obtain⟨rfl,n13⟩:=q)|(have n13:=trivial)
  all_goals first|(refine (em2 a2 a3).elim (λq=>?_) λn23=>?_;obtain⟨rfl,n23⟩:=q)|(have n23:=trivial)
  all_goals
   simp[F6,Fp,n01,n02,n12,n03,n13,n23] at hpl;subst hpl;simp[mpO,atL,n01,n02,n12,n03,n13,n23] at hme;subst hme
  all_goals (with_reducible repeat'(first|simp(disch:=omega)only[push_cast,↓zz,seval]|refine sp_ ?_ ?_<;>try(intro hc;push_cast at hc)|omega|intro _))
  all_goals refine TL 6 ?_
  all_goals (with_reducible repeat'(first|simp(disch:=omega)only[push_cast,↓zz,seval,xx,Af,Ai,Ap,Bm,CR,B2,BD,BC,IF,setM,n01,n02,n12,n03,n13,n23]|refine sp_ ?_ ?_<;>try(intro hc;push_cast at hc)|refine VE ?_|((first|(refine H7 [1] ?_;(simp(disch:=omega)only[push_cast,↓zz,seval,xx,Af,Ai,Ap,Bm,CR,B2,BD,BC,Grp.mk.injEq,IF,setM,n01,n02,n12,n03,n13,n23]);fail_if_success change False)|(refine H7 [1,5] ?_;(simp(disch:=omega)only[push_cast,↓zz,seval,xx,Af,Ai,Ap,Bm,CR,B2,BD,BC,Grp.mk.injEq,IF,setM,n01,n02,n12,n03,n13,n23]);fail_if_success change False)|(refine H7 [1,8] ?_;(simp(disch:=omega)only[push_cast,↓zz,seval,xx,Af,Ai,Ap,Bm,CR,B2,BD,BC,Grp.mk.injEq,IF,setM,n01,n02,n12,n03,n13,n23]);fail_if_success change False)|(refine H7 [1,9] ?_;(simp(disch:=omega)only[push_cast,↓zz,seval,xx,Af,Ai,Ap,Bm,CR,B2,BD,BC,Grp.mk.injEq,IF,setM,n01,n02,n12,n03,n13,n23]);fail_if_success change False)|(refine H7 [1,11] ?_;(simp(disch:=omega)only[push_cast,↓zz,seval,xx,Af,Ai,Ap,Bm,CR,B2,BD,BC,Grp.mk.injEq,IF,setM,n01,n02,n12,n03,n13,n23]);fail_if_success change False)))|omega|intro _))
  all_goals exact⟨(),trivial⟩
 rintro _;have hpp:=D9 .i64 pl;refine W_T ?_;(with_reducible repeat'(first|simp(disch:=omega)only[push_cast,↓zz,seval]|refine sp_ ?_ ?_<;>try(intro hc;push_cast at hc)|omega|intro _))
 refine Br (Bs (λ(j:Nat)=>j<=pl.length) (λj=>pl.length-j)
  (λj=>[(1,Du sets),(6,.map 0 1),(10,Bg ((pl.take j).foldl (Jg l sets) [⟨sm,sm⟩])),(53,.lst 1 (pl.map (AV.int .i64))),(54,.int .i64 pl.length),(55,.int .i64 j)])
  (λ_=>[⟨0,1,true,mp⟩]) (λenv _=>[C7 1 (env 6)]) 0 (Au _) ?_ ?_)
 ·(with_reducible repeat'(first|simp(disch:=omega)only[push_cast,↓zz,seval,hpu,List.foldl_nil,AR,AZ]|refine sp_ ?_ ?_<;>try(intro hc;push_cast at hc)|omega|intro _))
 intro j hj;have A1:=Yu (l:=l) (sets:=sets) (pl.take j) A0;rcases Ak j pl.length with h|h
 ·have hm:=AS h
  have hf:=hmp _ hm;have hbd:=hb _ hm;obtain⟨T1,P1,_⟩:=Wq (a:=nth pl j) hS A1 hbd hl;have hst:(pl.take (j+1)).foldl (Jg l sets) [⟨sm,sm⟩]=Jg l sets ((pl.take j).foldl (Jg l sets) [⟨sm,sm⟩]) (nth pl j):=by rw[take_at h,CO];rfl
  refine W_T ?_;generalize (pl.take j).foldl (Jg l sets) [⟨sm,sm⟩]=o at *;(with_reducible repeat'(first|simp(disch:=omega)only[push_cast,↓zz,seval,hf,hg,hpu]|refine sp_ ?_ ?_<;>try(intro hc;push_cast at hc)|refine ee T1 ?_|refine ee P1 ?_|((first|refine cc T1 ?_|refine cc P1 ?_);simp(disch:=omega)only[push_cast,↓zz,seval,hf,hg,hpu];fail_if_success change False)|omega|intro _))
  all_goals
   refine⟨j+1,?_⟩;(with_reducible repeat'(first|simp(disch:=omega)only[push_cast,↓zz,seval,hst,hpu]|refine sp_ ?_ ?_<;>try(intro hc;push_cast at hc)|omega|intro _))
 obtain rfl:j=pl.length:=by omega
 rw[A7] at A1;have htk:pl.take pl.length=pl:=A7;rw[htk];generalize pl.foldl (Jg l sets) [⟨sm,sm⟩]=o at *;have hF:=z08 o (by have:=A1.2;omega);have hL:=z5g o (by have:=A1.2;omega);refine W_T ?_;(with_reducible repeat'(first|simp(disch:=omega)only[push_cast,↓zz,seval,PO]|refine sp_ ?_ ?_<;>try(intro hc;push_cast at hc)|refine ee hF ?_|refine ee hL ?_|((first|refine cc hF ?_|refine cc hL ?_);simp(disch:=omega)only[push_cast,↓zz,seval,PO];fail_if_success change False)|omega|intro _))
 all_goals ((try simp only[*,Bu,Be,AO,Bp]);(repeat'(first|(simp(disch:=omega)only[push_cast,↓zz,seval,D3])|omega|(with_reducible refine Aa ?_ ?_))))
def midG(gs:List (List Span))(k:Nat):List (List Span):=(gs.take k).map symI++List.replicate (gs.length-k) []
theorem Yv{gs:List (List Span)}{k:Nat}(h:k<=gs.length):(midG gs k).length=gs.length:=by simp[midG];omega
theorem zc2(gs:List (List Span)):midG gs gs.length=gs.map symI:=by simp[midG]
theorem zc3{gs:List (List Span)}{k:Nat}(h:k<gs.length):((midG gs k).map Bg).set k (Bg (symI (nth gs k)))=(midG gs (k+1)).map Bg:=by
 have e:gs.length-k=(gs.length-(k+1))+1:=by omega
 rw[midG,midG,take_at h,e,List.replicate_succ,Aw,Dz _ _ (by simp;omega)];simp[show min k gs.length=k by omega]
theorem zje{gs:List (List Span)}{k:Nat}(h:k<gs.length):nth (midG gs (k+1)) k=symI (nth gs k):=by
 rw[midG,take_at h,nth,As,Aw,A3,AD (by simp;omega)];simp[show min k gs.length=k by omega]
theorem zc4(n:Nat):Bh (List.replicate n AV.nilS)=true:=by
 induction n with
 |zero=>rfl
 |succ n ih=>simp[List.replicate_succ,Bh,AV.pure,ih]
theorem zc5(l:List Grp)(gs:List (List Span)):leSL l (List.replicate gs.length .nilS) ((midG gs 0).map Bg):=by
 simp only[midG,List.take_zero,AZ,List.nil_append,Nat.sub_zero,Dm];generalize gs.length=n
 induction n with
 |zero=>rfl
 |succ n ih=>exact⟨⟨by decide,rfl⟩,ih⟩
def Mi(gs:List (List Span))(k:Nat):Bool:=(gs.take k).all λg=>decide (0<((symI g).length:Int))
theorem zc6{gs:List (List Span)}{k:Nat}(h:k<gs.length):Mi gs (k+1)=(Mi gs k&&decide (0<((symI (nth gs k)).length:Int))):=by
 rw[Mi,take_at h,List.all_append];simp[Mi]
def prtB(t:Term)(n:Int):Bool:=t.parts.all λp=>E4 p n
def FJ(t:Term)(gs:List (List Span)):List Span × Bool :=
 if 4<gs.length\/DF t=false then ([],false) else if prtB t gs.length=false then ([],false) else
  if Mi gs gs.length=false then ([],true) else (IH t (gs.map symI),PO (IH t (gs.map symI)))
theorem znw{l:List Part}{n:Int}{k:Nat}(h:k<l.length):(l.drop k).all (λp=>E4 p n)=(E4 (nth l k) n&&(l.drop (k+1)).all λp=>E4 p n):=by rw[drop_at h,List.all_cons]
theorem Mj{t:Term}{gs:List (List Span)}(h:prtB t gs.length=true)(hg:gs.length<=4):QH t.parts (gs.map symI) where
 parts p hp:=by
  rw[AY];exact AP.1 h p hp
 syms s hs:=by
  obtain⟨g,_,rfl⟩:=Ax.1 hs;exact UG g
 many:=by simp;omega
theorem z0c(t:Term)(gs:List (List Span))(ht:t.parts.length<1000000000000)(hg:∀g∈gs,g.length<=1000000)(hl:gs.length<=9223372036854775807):
 PC Tryz.prog 188 [G0 t,Du gs] (.tup [Bg (FJ t gs).1,.bool (FJ t gs).2]):=by
 have hP:=BQ gs;have hN:=Jd t ht;have hY:=UH;refine Cf U2 ?_;unfold MO;by_cases h1:4<gs.length\/DF t=false
 ·rw[FJ,Ae h1]
  (with_reducible repeat'(first|simp(disch:=omega)only[push_cast,↓zz,seval]|refine sp_ ?_ ?_<;>try(intro hc;push_cast at hc)|refine ee hN ?_|(refine cc hN ?_;simp(disch:=omega)only[push_cast,↓zz,seval];fail_if_success change False)|omega|intro _))
  all_goals first
   |((repeat'(first|(simp(disch:=omega)only[push_cast,↓zz,seval,D3])|omega|(with_reducible refine Aa ?_ ?_)));done)
   |(exfalso;rcases h1 with h1|h1<;>first|omega|simp_all)
 have h4:gs.length<=4:=by omega
 have hn:DF t=true:=by simpa using (CR.1 h1).2
 (with_reducible repeat'(first|simp(disch:=omega)only[push_cast,↓zz,seval,hn]|refine sp_ ?_ ?_<;>try(intro hc;push_cast at hc)|refine ee hN ?_|(refine cc hN ?_;simp(disch:=omega)only[push_cast,↓zz,seval,hn];fail_if_success change False)|omega|intro _))
 refine Br (Bs (λ(k:Nat)=>k<=gs.length) (λk=>gs.length-k)
  (λk=>[(1,Du gs),(2,.ptr 0 1 0 0),(6,.bool (Mi gs k)),(7,.ref 1 1 0 gs.length),(23,Du gs),(24,.int .i64 gs.length),(25,.int .i64 k)]) (λk=>[⟨6,1,true,[G0 t]⟩,⟨1,1,true,(midG gs k).map Bg⟩]) (λenv _=>[C7 1 (env 2),C7 1 (env 7)]) 0 (by simp) ?_ ?_)
 ·have e:=zc5
  have hr:Bh (List.replicate gs.length AV.nilS)=true:=zc4 gs.length;have hs0:Mi gs 0=true:=rfl;(with_reducible repeat'(first|simp(disch:=omega)only[push_cast,↓zz,seval,hs0,hP,hr]|refine sp_ ?_ ?_<;>try(intro hc;push_cast at hc)|omega|intro _))
  all_goals exact e _ gs
 intro k hk;have hml:=Yv hk;have hpm:=BQ (midG gs k);rcases Ak k gs.length with hkl|hkl
 ·have hM:=OM (nth gs k) [⟨0,1114111⟩] (by have:=hg _ (AS hkl);omega) (by simp)
  rw[zbz] at hM;have e1:=zc3 hkl;have e2:=zje hkl;have e3:=zc6 hkl;have hpm2:=BQ (midG gs (k+1));have hml2:=Yv (gs:=gs) (k:=k+1) (by omega);refine W_T ?_;(with_reducible repeat'(first|simp(disch:=omega)only[push_cast,↓zz,seval,hP,hpm,hpm2,hml,hml2,e1,e2]|refine sp_ ?_ ?_<;>try(intro hc;push_cast at hc)|refine ee hY ?_|refine ee hM ?_|((first|refine cc hY ?_|refine cc hM ?_);simp(disch:=omega)only[push_cast,↓zz,seval,hP,hpm,hpm2,hml,hml2,e1,e2];fail_if_success change False)|omega|intro _))
  all_goals
   refine⟨k+1,?_⟩;(with_reducible repeat'(first|simp(disch:=omega)only[push_cast,↓zz,seval,e3]|refine sp_ ?_ ?_<;>try(intro hc;push_cast at hc)|omega|intro _))
  all_goals (simp only[*,AO,Bp])
 ·obtain rfl:k=gs.length:=by omega
  rw[zc2] at *;refine W_T ?_;(with_reducible repeat'(first|simp(disch:=omega)only[push_cast,↓zz,seval,hP,hpm]|refine sp_ ?_ ?_<;>try(intro hc;push_cast at hc)|omega|intro _))
  refine Br (Bs (λ(k:Nat)=>k<=t.parts.length/\prtB t gs.length=(t.parts.drop k).all λp=>E4 p gs.length) (λk=>t.parts.length-k)
   (λk=>[(1,Du gs),(2,.ptr 0 1 0 0),(6,.bool (Mi gs gs.length)),(7,Du (gs.map symI)),(47,GF t.parts),(48,.int .i64 t.parts.length),(49,.int .i64 k)]) (λk=>[⟨6,1,true,[G0 t]⟩]) (λenv _=>[C7 1 (env 2)]) 0 ⟨by simp,rfl⟩ ?_ ?_)
  ·have et:List.take gs.length (gs.map symI)=gs.map symI:=Az (by simp)
   (with_reducible repeat'(first|simp(disch:=omega)only[push_cast,↓zz,seval,hP,hpm,et]|refine sp_ ?_ ?_<;>try(intro hc;push_cast at hc)|omega|intro _))
  rintro k ⟨k1,k2⟩;rcases Ak k t.parts.length with hkp|hkp
  ·have hR:=GZ (nth t.parts k) gs.length
   rw[znw hkp] at k2;refine W_T ?_;(with_reducible repeat'(first|simp(disch:=omega)only[push_cast,↓zz,seval,hP,hpm]|refine sp_ ?_ ?_<;>try(intro hc;push_cast at hc)|refine ee hR ?_|(refine cc hR ?_;simp(disch:=omega)only[push_cast,↓zz,seval,hP,hpm];fail_if_success change False)|omega|intro _))
   ·have hp:prtB t gs.length=false:=by rw[k2];simp[*]
    rw[FJ,Ab h1,Ae hp];(repeat'(first|(simp(disch:=omega)only[push_cast,↓zz,seval,D3])|omega|(with_reducible refine Aa ?_ ?_)))
   ·exact⟨k+1,by push_cast,⟨by omega,by rw[k2];simp[*]⟩,by omega⟩
  ·rw[An hkp] at k2
   have hp:prtB t gs.length=true:=k2;have hnum:=hn;simp only[DF,Ac,Ah] at hnum;have hV:=Wr t (gs.map symI) hnum.2.2 hnum.1.1.2 (Mj hp h4);have hI:FJ t gs=if Mi gs gs.length=false then ([],true) else (IH t (gs.map symI),PO (IH t (gs.map symI))):=by rw[FJ,Ab h1,Ab (by simp[hp])]
   refine W_T ?_;(with_reducible repeat'(first|simp(disch:=omega)only[push_cast,↓zz,seval,hP,hpm]|refine sp_ ?_ ?_<;>try(intro hc;push_cast at hc)|refine ee hV ?_|(refine cc hV ?_;simp(disch:=omega)only[push_cast,↓zz,seval,hP,hpm];fail_if_success change False)|omega|intro _))
   all_goals
    rw[hI]
    first
     |rw[Ae (by assumption)]
     |rw[Ab (by simp[*])]
    (repeat'(first|(simp(disch:=omega)only[push_cast,↓zz,seval,D3])|omega|(with_reducible refine Aa ?_ ?_)))
def FK(t:Term)(gs:List (List Span)):List Span × Bool :=
 if (FJ t gs).2=false then ([],false) else if (FJ t gs).1.length=0 then ([],true) else (Fh (imgL t.outer (FJ t gs).1) t.base,true)
theorem z5p(t:Term)(gs:List (List Span))(h:Gr t.sum=true):(FJ t gs).1.length<=2147483649:=by
 unfold FJ
 repeat' split
 all_goals first|(simp;done)|skip
 unfold IH
 have key:∀(pl:List Int)(out:List Span),Acc out->Acc (pl.foldl (Jg t.parts (gs.map symI)) out):=λpl=>by
  induction pl with
  |nil=>exact λout h=>h
  |cons a pl ih=>exact λout h=>ih _ (Sx _ _)
 exact (key _ _ (z5o h)).2
theorem z0d(t:Term)(gs:List (List Span))(ht:t.parts.length<1000000000000)(hg:∀g∈gs,g.length<=1000000)(hl:gs.length<=9223372036854775807):
 PC Tryz.prog 168 [G0 t,Du gs] (.tup [Bg (FK t gs).1,.bool (FK t gs).2]):=by
 have hP:=BQ gs;have hI:=z0c t gs ht hg hl;have hO:=G4 t
 have hlen:(FJ t gs).2=true->(FJ t gs).1.length<=2147483649:=λh=>by
  by_cases hs:Gr t.sum=true
  ·exact z5p t gs hs
  ·have:DF t=false:=by simp[DF,hs]
   rw[FJ,Ae (.inr this)] at h;cases h
 refine Cf U0 ?_;unfold MM;rcases Bool.eq_false_or_eq_true (FJ t gs).2 with h2|h2
 ·have hl2:=hlen h2
  have hA:=Sy t.outer (FJ t gs).1;have hM:=QF t.outer (FJ t gs).1 (by omega);have hV:=UJ (imgL t.outer (FJ t gs).1) t.base (by have:=hA.2;omega);(with_reducible repeat'(first|simp(disch:=omega)only[push_cast,↓zz,seval,hP,h2]|refine sp_ ?_ ?_<;>try(intro hc;push_cast at hc)|refine ee hI ?_|refine ee hO ?_|refine ee hM ?_|refine ee hV ?_|((first|refine cc hI ?_|refine cc hO ?_|refine cc hM ?_|refine cc hV ?_);simp(disch:=omega)only[push_cast,↓zz,seval,hP,h2];fail_if_success change False)|omega|intro _))
  all_goals
   rw[FK,Ab (by simp[h2])]
   first
    |rw[Ae (by omega)]
    |rw[Ab (by omega)]
   (repeat'(first|(simp(disch:=omega)only[push_cast,↓zz,seval,D3])|omega|(with_reducible refine Aa ?_ ?_)))
 ·(with_reducible repeat'(first|simp(disch:=omega)only[push_cast,↓zz,seval,hP,h2]|refine sp_ ?_ ?_<;>try(intro hc;push_cast at hc)|refine ee hI ?_|(refine cc hI ?_;simp(disch:=omega)only[push_cast,↓zz,seval,hP,h2];fail_if_success change False)|omega|intro _))
  all_goals
   rw[FK,Ae h2];(repeat'(first|(simp(disch:=omega)only[push_cast,↓zz,seval,D3])|omega|(with_reducible refine Aa ?_ ?_)))
def Mk(t:Term)(i o:Int)(gs:List (List Span)):Bool:=Ib t i o gs.length&&((FK t gs).2&&decide (Em (FK t gs).1 (domL o)=[]))
theorem z5q(t:Term)(gs:List (List Span)):(FK t gs).1.length<=2147483649:=by
 unfold FK
 repeat' split
 all_goals first|(simp;done)|skip
 have h1:=(Sy t.outer (FJ t gs).1).2;have h2:=zc0 (imgL t.outer (FJ t gs).1) t.base;simp only;omega
theorem z5r(s:Int):(domL s).length<=2:=by unfold domL;split<;>(try split)<;>simp
theorem z5s(t:Term)(i o:Int)(gs:List (List Span))(ht:t.parts.length<1000000000000)(hg:∀g∈gs,g.length<=1000000)(hl:gs.length<=9223372036854775807):
 PC Tryz.prog 143 [G0 t,.int .i64 i,.int .i64 o,Du gs] (.bool (Mk t i o gs)):=by
 have hP:=BQ gs;have hR:=ZR t i o gs.length ht;have hI:=z0d t gs ht hg hl;have hD:=ED o;have hW:=Iw (FK t gs).1 (domL o) (by have:=z5q t gs;omega) (by have:=z5r o;omega);refine Cf VU ?_;unfold O7 Mk;(with_reducible repeat'(first|simp(disch:=omega)only[push_cast,↓zz,seval,hP]|refine sp_ ?_ ?_<;>try(intro hc;push_cast at hc)|refine ee hR ?_|refine ee hI ?_|refine ee hD ?_|refine ee hW ?_|((first|refine cc hR ?_|refine cc hI ?_|refine cc hD ?_|refine cc hW ?_);simp(disch:=omega)only[push_cast,↓zz,seval,hP];fail_if_success change False)|omega|intro _))
 all_goals simp only[*,AO,Bp]
def Lm:Int->List Span->Bool
 |_,[]=>true
 |last,s::l=>decide (s.lo<=s.hi/\-1073741824<=s.lo/\s.hi<=1073741824/\last+1<s.lo)&&Lm s.hi l
def JP(g:List Span):Bool:=Lm (-1073741826) g
theorem QK(g:List Span)(hl:g.length<=9223372036854775807):PC Tryz.prog 142 [Bg g] (.bool (JP g)):=by
 refine Cf Ux ?_;unfold MJ;(with_reducible repeat'(first|simp(disch:=omega)only[push_cast,↓zz,seval]|refine sp_ ?_ ?_<;>try(intro hc;push_cast at hc)|omega|intro _))
 refine Br (Bs (λ(s:Nat × Int)=>s.1<=g.length/\JP g=Lm s.2 (g.drop s.1)/\-1073741826<=s.2/\s.2<=1073741824) (λs=>g.length-s.1)
  (λs=>[(3,.int .i64 s.2),(6,Bg g),(7,.int .i64 g.length),(8,.int .i64 s.1)]) (λs=>[]) (λ_ _=>[]) (0,-1073741826) ⟨by simp,rfl,by simp,by simp⟩ ?_ ?_)
 ·(with_reducible repeat'(first|simp(disch:=omega)only[push_cast,↓zz,seval]|refine sp_ ?_ ?_<;>try(intro hc;push_cast at hc)|omega|intro _))
 rintro⟨k,last⟩ ⟨h1,h2,h3,h4⟩;simp only at h1 h2 h3 h4;rcases Ak k g.length with hk|hk
 ·rw[drop_at hk,Lm] at h2
  generalize hxe:nth g k=x at *;have hw:IntKind.i64.wrap (last+1)=last+1:=IntWalk.i64_in _ (by omega);refine W_T ?_;(with_reducible repeat'(first|simp(disch:=omega)only[push_cast,↓zz,seval,hw,hxe]|refine sp_ ?_ ?_<;>try(intro hc;push_cast at hc)|omega|intro _))
  all_goals first
   |(rw[h2,Bc (by omega),Bp];done)
   |exact⟨(k+1,x.hi),⟨rfl,by push_cast⟩,⟨by simp only;omega,by rw[h2,AE (by omega),AO],by simp only;omega,by simp only;omega⟩,by simp only;omega⟩
 ·rw[An hk,Lm] at h2
  refine W_T ?_;(with_reducible repeat'(first|simp(disch:=omega)only[push_cast,↓zz,seval,h2]|refine sp_ ?_ ?_<;>try(intro hc;push_cast at hc)|omega|intro _))
def EW(i:Int)(g:List Span):Bool:=!decide ((g.length:Int)=0)&&(decide ((g.length:Int)<=64)&&(JP g&&decide (Em g (domL i)=[])))
def GM(i:Int)(gs:List (List Span)):Bool:=decide ((gs.length:Int)<=4)&&gs.all (EW i)
theorem OY(i:Int)(gs:List (List Span)):PC Tryz.prog 111 [.int .i64 i,Du gs] (.bool (GM i gs)):=by
 have hP:=BQ gs;have hD:=ED i;have hdl:=z5r i;refine Cf RY ?_;unfold KR;by_cases h4:4<gs.length
 ·rw[GM,Bc (by omega),Bp]
  (with_reducible repeat'(first|simp(disch:=omega)only[push_cast,↓zz,seval]|refine sp_ ?_ ?_<;>try(intro hc;push_cast at hc)|omega|intro _))
 rw[GM,AE (by omega),AO];(with_reducible repeat'(first|simp(disch:=omega)only[push_cast,↓zz,seval]|refine sp_ ?_ ?_<;>try(intro hc;push_cast at hc)|refine ee hD ?_|(refine cc hD ?_;simp(disch:=omega)only[push_cast,↓zz,seval];fail_if_success change False)|omega|intro _))
 refine Br (Bs (λ(k:Nat)=>k<=gs.length/\gs.all (EW i)=(gs.drop k).all (EW i)) (λk=>gs.length-k)
  (λk=>[(5,Bg (domL i)),(13,Du gs),(14,.int .i64 gs.length),(15,.int .i64 k)]) (λs=>[]) (λ_ _=>[]) 0 ⟨by simp,rfl⟩ ?_ ?_)
 ·(with_reducible repeat'(first|simp(disch:=omega)only[push_cast,↓zz,seval,hP]|refine sp_ ?_ ?_<;>try(intro hc;push_cast at hc)|omega|intro _))
 rintro k ⟨h1,h2⟩;rcases Ak k gs.length with hk|hk
 ·rw[drop_at hk,List.all_cons,EW] at h2
  generalize hge:nth gs k=g at *;refine W_T ?_;by_cases hl:(g.length:Int)=0
  ·rw[AE hl,FA,Bp,Bp] at h2
   (with_reducible repeat'(first|simp(disch:=omega)only[push_cast,↓zz,seval,hP,hge,h2]|refine sp_ ?_ ?_<;>try(intro hc;push_cast at hc)|omega|intro _))
  by_cases hl2:(g.length:Int)<=64
  ·rw[Bc hl,AE hl2,Ev,AO,AO] at h2
   have hW:=Iw g (domL i) (by omega) (by omega);have hC:=QK g (by omega);(with_reducible repeat'(first|simp(disch:=omega)only[push_cast,↓zz,seval,hP,hge]|refine sp_ ?_ ?_<;>try(intro hc;push_cast at hc)|refine ee hC ?_|refine ee hW ?_|((first|refine cc hC ?_|refine cc hW ?_);simp(disch:=omega)only[push_cast,↓zz,seval,hP,hge];fail_if_success change False)|omega|intro _))
   all_goals first
    |(rw[h2];simp[*];done)
    |exact⟨k+1,by push_cast,⟨by omega,by rw[h2];simp[*]⟩,by omega⟩
  ·rw[Bc hl2,Bp,CX,Bp] at h2
   (with_reducible repeat'(first|simp(disch:=omega)only[push_cast,↓zz,seval,hP,hge,h2]|refine sp_ ?_ ?_<;>try(intro hc;push_cast at hc)|omega|intro _))
 ·rw[An hk,List.all_nil] at h2
  refine W_T ?_;(with_reducible repeat'(first|simp(disch:=omega)only[push_cast,↓zz,seval,hP,h2]|refine sp_ ?_ ?_<;>try(intro hc;push_cast at hc)|omega|intro _))
def IE(d:Desc)(s:Int):Bool:=decide (0<=s)&&decide (s<d.states)
theorem J6(d:Desc)(s:Int):PC Tryz.prog 110 [DV d,.int .i64 s] (.bool (IE d s)):=by
 refine Cf Uo ?_;unfold MB IE;(with_reducible repeat'(first|simp(disch:=omega)only[push_cast,↓zz,seval]|refine sp_ ?_ ?_<;>try(intro hc;push_cast at hc)|omega|intro _))
 all_goals simp only[*,Bu,Be,AO,Bp]
def Sz(d:Desc):Bool:=decide (0<((domL d.in_).length:Int))&&(decide (0<((domL d.out).length:Int))&&(decide (1<=d.states)&&(decide (d.states<=1024)&&(IE d d.start&&(decide ((d.rules.length:Int)<=4096)&&decide ((d.finals.length:Int)<=4096))))))
theorem z5t(d:Desc):PC Tryz.prog 108 [DV d] (.bool (Sz d)):=by
 have h1:=ED d.in_;have h2:=ED d.out;have h3:=J6 d d.start;refine Cf VQ ?_;unfold Oz Sz;(with_reducible repeat'(first|simp(disch:=omega)only[push_cast,↓zz,seval]|refine sp_ ?_ ?_<;>try(intro hc;push_cast at hc)|refine ee h1 ?_|refine ee h2 ?_|refine ee h3 ?_|((first|refine cc h1 ?_|refine cc h2 ?_|refine cc h3 ?_);simp(disch:=omega)only[push_cast,↓zz,seval];fail_if_success change False)|omega|intro _))
 all_goals simp only[*,Bu,Be,AO,Bp]
def I1(d:Desc)(out:List Term)(gs:List (List Span)):Bool:=decide ((out.length:Int)<=64)&&out.all λt=>Mk t d.in_ d.out gs
theorem OZ(d:Desc)(out:List Term)(gs:List (List Span))(ho:∀t∈out,t.parts.length<1000000000000)(hg:∀g∈gs,g.length<=1000000)(hl:gs.length<=9223372036854775807):
 PC Tryz.prog 112 [DV d,GG out,Du gs] (.bool (I1 d out gs)):=by
 have hP:=BQ gs;have hT:=Ct out;refine Cf RZ ?_;unfold KS;by_cases h4:64<out.length
 ·rw[I1,Bc (by omega),Bp]
  (with_reducible repeat'(first|simp(disch:=omega)only[push_cast,↓zz,seval]|refine sp_ ?_ ?_<;>try(intro hc;push_cast at hc)|omega|intro _))
 rw[I1,AE (by omega),AO];(with_reducible repeat'(first|simp(disch:=omega)only[push_cast,↓zz,seval]|refine sp_ ?_ ?_<;>try(intro hc;push_cast at hc)|omega|intro _))
 refine Br (Bs (λ(k:Nat)=>k<=out.length/\(out.all λt=>Mk t d.in_ d.out gs)=(out.drop k).all λt=>Mk t d.in_ d.out gs) (λk=>out.length-k)
  (λk=>[(2,Du gs),(3,.ptr 0 1 0 0),(12,GG out),(13,.int .i64 out.length),(14,.int .i64 k)]) (λs=>[⟨6,1,true,[DV d]⟩]) (λenv _=>[C7 1 (env 3)]) 0 ⟨by simp,rfl⟩ ?_ ?_)
 ·(with_reducible repeat'(first|simp(disch:=omega)only[push_cast,↓zz,seval,hP,hT]|refine sp_ ?_ ?_<;>try(intro hc;push_cast at hc)|omega|intro _))
 rintro k ⟨h1,h2⟩;rcases Ak k out.length with hk|hk
 ·rw[drop_at hk,List.all_cons] at h2
  have hF:=z5s (nth out k) d.in_ d.out gs (ho _ (AS hk)) hg hl;refine W_T ?_;(with_reducible repeat'(first|simp(disch:=omega)only[push_cast,↓zz,seval,hP,hT]|refine sp_ ?_ ?_<;>try(intro hc;push_cast at hc)|refine ee hF ?_|(refine cc hF ?_;simp(disch:=omega)only[push_cast,↓zz,seval,hP,hT];fail_if_success change False)|omega|intro _))
  all_goals first
   |(rw[h2];simp[*];done)
   |exact⟨k+1,by push_cast,⟨by omega,by rw[h2];simp[*]⟩,by omega⟩
 ·rw[An hk,List.all_nil] at h2
  refine W_T ?_;(with_reducible repeat'(first|simp(disch:=omega)only[push_cast,↓zz,seval,hP,hT,h2]|refine sp_ ?_ ?_<;>try(intro hc;push_cast at hc)|omega|intro _))
def eatB(n e:Int):Bool:=!decide (e<min n 1)&&!decide (n<e)
def Ln(d:Desc)(r:Rule):Bool:=IE d r.from_&&(IE d r.to_&&(GM d.in_ r.guards&&(eatB r.guards.length r.eat&&I1 d r.out r.guards)))
theorem Hx{i:Int}{gs:List (List Span)}(h:GM i gs=true):gs.length<=4/\∀g∈gs,g.length<=64:=by
 simp only[GM,Ac,Ah] at h;refine⟨by omega,λg hg=>?_⟩;have:=AP.1 h.2 g hg;simp only[EW,Ac,Ah] at this;omega
theorem z5u(d:Desc)(r:Rule)(ho:∀t∈r.out,t.parts.length<1000000000000):PC Tryz.prog 109 [DV d,Hp r] (.bool (Ln d r)):=by
 have h1:=J6 d r.from_;have h2:=J6 d r.to_;have h3:=OY d.in_ r.guards;have hP:=BQ r.guards;have hT:=Ct r.out;refine Cf VR ?_;unfold O0 Ln eatB;cases hg:GM d.in_ r.guards with
 |false =>
  rw[hg] at h3;(with_reducible repeat'(first|simp(disch:=omega)only[push_cast,↓zz,seval,hP,hT]|refine sp_ ?_ ?_<;>try(intro hc;push_cast at hc)|refine ee h1 ?_|refine ee h2 ?_|refine ee h3 ?_|((first|refine cc h1 ?_|refine cc h2 ?_|refine cc h3 ?_);simp(disch:=omega)only[push_cast,↓zz,seval,hP,hT];fail_if_success change False)|omega|intro _))
  all_goals simp only[*,Bu,Be,AO,Bp,CX]
 |true =>
  rw[hg] at h3;obtain⟨g1,g2⟩:=Hx hg;have h4:=OZ d r.out r.guards ho (λg hg=>by have:=g2 g hg;omega) (by omega);(with_reducible repeat'(first|simp(disch:=omega)only[push_cast,↓zz,seval,hP,hT]|refine sp_ ?_ ?_<;>try(intro hc;push_cast at hc)|refine ee h1 ?_|refine ee h2 ?_|refine ee h3 ?_|refine ee h4 ?_|((first|refine cc h1 ?_|refine cc h2 ?_|refine cc h3 ?_|refine cc h4 ?_);simp(disch:=omega)only[push_cast,↓zz,seval,hP,hT];fail_if_success change False)|omega|intro _))
  all_goals simp only[*,Bu,Be,AO,Bp,CX,FA,Ev,Do]
abbrev Ws(v:Nat)(l:List Int):Grp:=⟨1,v,l.isEmpty,l.map (AV.int .i64)⟩
def famF(n:Nat)(V:Nat->Nat)(D:Nat->List Int):List Grp:=(List.range n).map λi=>Ws (V i) (D i)
def famT(n:Nat)(V:Nat->Nat)(D:Nat->List Int):List AV:=(List.range n).map λi=>AV.ref (i+3) (V i) 0 (D i).length
def famI(n:Nat)(f:Nat->Int):List AV:=(List.range n).map λi=>AV.int .i64 (f i)
theorem E5{α:Type}{n i:Nat}{f:Nat->α}{x:α}(h:i<n):((List.range n).map f).set i x=(List.range n).map λj=>if j=i then x else f j:=by
 refine Cm (by simp) λj h1 h2=>?_;simp only[Ea,AY,CP] at h1;simp only[List.getElem_set,EJ,Ej];by_cases e:i=j
 ·rw[Ae e,Ae e.symm]
 ·rw[Ab e,Ab λh=>e h.symm]
theorem CU{α:Type}{n i:Nat}{f:Nat->α}{z:α}(h:i<n):((List.range n).map f).getD i z=f i:=by simp[List.getD,h]
theorem Kw{ks:List Nat}{G:Grp}:∀{l:List Grp}{p i:Nat},p+i∈ks->Df p ks l (l.set i G)
 |[],p,i,h=>trivial
 |a::l,p,0,h=>⟨.inl h,sameBut_refl⟩
 |a::l,p,i+1,h=>⟨.inr rfl,Kw (by rwa [show p+1+i=p+(i+1) by omega])⟩
where sameBut_refl {ks:List Nat}:∀{l:List Grp}{p:Nat},Df p ks l l
 |[],p=>trivial
 |a::l,p=>⟨.inr rfl,sameBut_refl⟩
theorem Yw:∀(l:List Grp)(G G':Grp),setQ (l++[G]) l.length G'=some (l++[G'])
 |[],_,_=>rfl
 |a::l,G,G'=>by rw[List.cons_append,List.length_cons,setQ,Yw l G G'];rfl
theorem Yx:∀(l:List Grp)(G G':Grp){i:Nat},i<l.length->setQ (l++[G]) i G'=some (l.set i G'++[G])
 |[],_,_,i,h=>by simp at h
 |a::l,G,G',0,h=>rfl
 |a::l,G,G',i+1,h=>by rw[List.cons_append,setQ,Yx l G G' (by simpa using h)];rfl
def setV(V:Nat->Nat)(i v:Nat)(j:Nat):Nat:=if j=i then v else V j
structure CycOk(d:Desc):Prop where
 st:1<=d.states/\d.states<=1024
 len:d.rules.length<=4096
 rul:∀r∈d.rules,(0<=r.from_/\r.from_<d.states)/\0<=r.to_/\r.to_<d.states
def Pa(d:Desc)(k:Nat):Env:=EB [(1,.ptr 0 1 0 0),(3,.ref 1 1 0 d.states.toNat),(4,.ref 2 1 0 d.states.toNat),(21,FH d.rules),(22,.int .i64 d.rules.length),(23,.int .i64 k)]
def Et(d:Desc)(k:Nat)(V:Nat->Nat):A5:=Abs.hl (⟨6,1,true,[DV d]⟩::⟨1,1,true,famT d.states.toNat V (toD (d.rules.take k))⟩::⟨1,1,true,famI d.states.toNat (inD (d.rules.take k))⟩::famF d.states.toNat V (toD (d.rules.take k)))
def cycL(d:Desc)(k:Nat)(V:Nat->Nat):List Grp:=⟨6,1,true,[DV d]⟩::⟨1,1,true,famT d.states.toNat V (toD (d.rules.take k))⟩::⟨1,1,true,famI d.states.toNat (inD (d.rules.take k))⟩::famF d.states.toNat V (toD (d.rules.take k))
theorem QL(d:Desc)(k:Nat)(V:Nat->Nat):Et d k V=Abs.hl (cycL d k V):=rfl
theorem S6(d:Desc)(k:Nat)(V:Nat->Nat):(cycL d k V).length=d.states.toNat+3:=by simp[cycL,famF]
theorem Ic(d:Desc):(DV d).pure=true:=by simp[DV,AV.pure,Bh,BO,Ch]
theorem Wt(d:Desc)(k:Nat)(V:Nat->Nat):∀G∈cycL d k V,ltL (cycL d k V).length G.xs:=λG hG=>by
 rw[S6];simp only[cycL,Af] at hG;rcases hG with rfl|rfl|rfl|hG
 ·exact CK _ _ (by simp[Bh,Ic])
 ·have key:∀(l:List Nat),(∀i∈l,i<d.states.toNat)->ltL (d.states.toNat+3) (l.map λi=>AV.ref (i+3) (V i) 0 (toD (d.rules.take k) i).length):=λl=>by
   induction l with
   |nil=>exact λ_=>trivial
   |cons i l ih =>
    intro h;exact⟨by have:=h i (by simp);show i+3<_;omega,ih λj hj=>h j (by simp[hj])⟩
  exact key _ λi hi=>by simpa using hi
 ·exact CK _ _ (BZ.2 λx hx=>by
   obtain⟨i,_,rfl⟩:=Ax.1 hx
   rfl)
 ·obtain⟨i,_,rfl⟩:=Ax.1 hG
  exact CK _ _ (D9 .i64 _)
theorem z5v{d:Desc}{k:Nat}{V:Nat->Nat}{env:Env}{l gar:List Grp}(hn:1<=d.states)(hl':l=cycL d k V++gar)
 (h1:env 1=.ptr 0 1 0 0) (h3:env 3=.ref 1 1 0 d.states.toNat) (h4:env 4=.ref 2 1 0 d.states.toNat) (h21:env 21=FH d.rules) (h22:env 22=.int .i64 d.rules.length) (h23:env 23=.int .i64 k) :
 Ent 105 0 env (Abs.hl l) (Pa d k) (Et d k V):=by
 rw[hl',QL];refine (Nu [(1,.ptr 0 1 0 0),(3,.ref 1 1 0 d.states.toNat),(4,.ref 2 1 0 d.states.toNat),(21,FH d.rules),(22,.int .i64 d.rules.length),(23,.int .i64 k)] (λp hp=>?_)).trans (Og (by omega) (Wt d k V) λi _=>?_)
 ·simp only[Af,Ai,Ap] at hp
  rcases hp with rfl|rfl|rfl|rfl|rfl|rfl<;>assumption
 ·rw[S6]
  have hr:ltV (d.states.toNat+3) (FH d.rules):=Cy _ _ (by simp[FH,AV.pure,BO]);simp only[EB]
  repeat' split
  all_goals first
   |exact hr
   |trivial
   |(show _<_;omega)
theorem zc7{n i:Nat}{V:Nat->Nat}{D:Nat->List Int}{x:Int}(h:i<n):(famT n V D).set i (.ref (i+3) (V i+1) 0 ((D i).length+1))=famT n (setV V i (V i+1)) λp=>if p=i then D i++[x] else D p:=by
 rw[famT,E5 h,famT];refine AT λj _=>?_;by_cases e:j=i
 ·subst e;simp[setV]
 ·simp[setV,e]
theorem zc8{n i:Nat}{V:Nat->Nat}{D:Nat->List Int}{x:Int}(h:i<n):(famF n V D).set i ⟨1,V i+1,false,(D i).map (AV.int .i64)++[.int .i64 x]⟩=famF n (setV V i (V i+1)) λp=>if p=i then D i++[x] else D p:=by
 rw[famF,E5 h,famF];refine AT λj _=>?_;by_cases e:j=i
 ·subst e;simp[setV,Ws]
 ·simp[setV,e]
theorem Yy{n j:Nat}{f:Nat->Int}{x:Int}(h:j<n):(famI n f).set j (.int .i64 x)=famI n λp=>if p=j then x else f p:=by
 rw[famI,E5 h,famI];refine AT λp _=>?_;by_cases e:p=j
 ·subst e;simp
 ·simp[e]
theorem zc9{l:List Rule}{k i:Nat}(hk:k<l.length)(hi:(nth l k).from_=i)(he:Dk (nth l k)=true):toD (l.take (k+1))=λp=>if p=i then toD (l.take k) i++[(nth l k).to_] else toD (l.take k) p:=by
 funext p;rw[take_at hk];simp only[toD,CF,Aw,Cg,List.filter_nil,he,AO,hi,Ah];by_cases e:p=i
 ·subst e;simp
 ·rw[Ab (by omega),Ab e];simp
theorem zca{l:List Rule}{k j:Nat}(hk:k<l.length)(hj:(nth l k).to_=j)(he:Dk (nth l k)=true):inD (l.take (k+1))=λp=>if p=j then inD (l.take k) j+1 else inD (l.take k) p:=by
 funext p;rw[take_at hk];simp only[inD,CF,Aj,Cg,List.filter_nil,he,AO,hj,Ah];by_cases e:p=j
 ·subst e;simp
 ·rw[Ab (by omega),Ab e];simp
theorem zcb{l:List Rule}{k:Nat}(hk:k<l.length)(he:Dk (nth l k)=false):toD (l.take (k+1))=toD (l.take k)/\inD (l.take (k+1))=inD (l.take k):=by
 rw[take_at hk];refine⟨?_,?_⟩<;>funext p<;>simp[toD,inD,he]
theorem z5w(l:List Rule)(j:Nat):0<=inD l j/\inD l j<=l.length:=by
 have:=BI (λr=>Dk r&&decide (r.to_=j)) l;simp only[inD];omega
theorem zf1(l:List Rule)(j:Nat):(toD l j).length<=l.length:=by
 have:=BI (λr=>Dk r&&decide (r.from_=j)) l;simp only[toD,AY];omega
theorem Kx(l0:List Grp):∀l:List Grp,HJ l0 l l
 |[]=>trivial
 |G::l=>⟨⟨rfl,rfl,id,By _ _⟩,Kx l0 l⟩
theorem zcc(n:Nat):famF n (λ_=>1) (toD [])=(List.replicate n 1).map IG:=by
 rw[Dm];refine Cm (by simp[famF]) λi h1 h2=>?_;simp only[famF,EJ,Ej,List.getElem_replicate];rfl
theorem zcd(n:Nat):famI n (inD [])=List.replicate n (.int .i64 0):=by
 refine Cm (by simp[famI]) λi h1 h2=>?_;simp[famI,inD]
theorem z5x{l:List Grp}{n:Nat}(h:∀i,i<n->l.getD (i+3) default=IG 1/\i+3<l.length):leSL l (List.replicate n .nilS) (famT n (λ_=>1) (toD [])):=by
 have key:∀idx:List Nat,(∀i∈idx,i<n)->leSL l (List.replicate idx.length .nilS) (idx.map λi=>AV.ref (i+3) 1 0 (toD [] i).length):=λidx=>by
  induction idx with
  |nil=>exact λ_=>rfl
  |cons i idx ih =>
   intro hi;obtain⟨h1,h2⟩:=h i (hi i (by simp));refine⟨?_,ih λj hj=>hi j (by simp[hj])⟩;show 0=0/\(toD [] i).length=0/\(l.getD (i+3) default).ver=1/\0<(l.getD (i+3) default).w/\(l.getD (i+3) default).xs=[]/\(l.getD (i+3) default).exact=true/\i+3<l.length;rw[h1];exact⟨rfl,rfl,rfl,by decide,rfl,rfl,h2⟩
 have:=key (List.range n) λi hi=>by simpa using hi
 rwa [CP] at this
theorem z5y{d:Desc}{env:Env}(h1:env 1=.ptr 0 1 0 0)(h3:env 3=.ref 1 1 0 d.states.toNat)(h4:env 4=.ref 2 1 0 d.states.toNat)(h21:env 21=FH d.rules)(h22:env 22=.int .i64 d.rules.length)(h23:env 23=.int .i64 0):
 Ent 105 0 env (Abs.hl [⟨6,1,true,[DV d]⟩,⟨1,1,true,List.replicate d.states.toNat .nilS⟩,⟨1,1,true,List.replicate d.states.toNat (.int .i64 0)⟩]) (Pa d 0) (Et d 0 λ_=>1):=by
 refine (Nu [(1,.ptr 0 1 0 0),(3,.ref 1 1 0 d.states.toNat),(4,.ref 2 1 0 d.states.toNat),(21,FH d.rules),(22,.int .i64 d.rules.length),(23,.int .i64 0)] (λp hp=>?_)).trans
  ((RO (List.replicate d.states.toNat 1) (λw hw=>by have:=(List.mem_replicate.1 hw).2;omega)).trans (TZ ?_ λi _=>EL _ _))
 ·simp only[Af,Ai,Ap] at hp
  rcases hp with rfl|rfl|rfl|rfl|rfl|rfl<;>assumption
 ·rw[List.take_zero,zcc,zcd]
  refine⟨⟨rfl,rfl,id,By _ _⟩,⟨rfl,rfl,id,z5x λi hi=>?_⟩,⟨rfl,rfl,id,By _ _⟩,Kx _ _⟩;refine⟨?_,by simp;omega⟩;rw[Dm];simp[List.getD,hi]
def z5z(n:Nat)(D:Nat->List Int):AV:=.lst 1 ((List.range n).map λi=>Nh (D i))
theorem Pb{n b:Nat}{env:Env}{H H':A5}(hn:H'.n=H.n)(h:∀g,g<H.n->H'.at_ g=H.at_ g):Ent n b env H env H':=λS val hb hS hv=>⟨S,rfl,.refl hb,hS.congr hn h,hv⟩
def Lp(n:Nat):List Nat:=1::(List.range n).map (·+3)
theorem UO{n i:Nat}(h:i<n):i+3∈Lp n:=Af.2 (.inr (Ax.2 ⟨i,Bq.2 h,rfl⟩))
theorem zf2(d:Desc)(k:Nat)(V:Nat->Nat){i:Nat}(hi:i<d.states.toNat):(Et d k V).at_ (i+3)=Ws (V i) (toD (d.rules.take k) i):=by
 rw[Et,Dr];simp only[DU];exact CU hi
theorem zjf(d:Desc)(k:Nat)(V:Nat->Nat):CJ 2 ((Et d k V).only (Lp d.states.toNat)) (.ref 1 1 0 d.states.toNat)/\frzV 2 ((Et d k V).only (Lp d.states.toNat)) (.ref 1 1 0 d.states.toNat)=z5z d.states.toNat (toD (d.rules.take k)):=by
 have hat1:((Et d k V).only (Lp d.states.toNat)).at_ 1=⟨1,1,true,famT d.states.toNat V (toD (d.rules.take k))⟩:=by
  show (if 1∈Lp d.states.toNat then (Et d k V).at_ 1 else ((Et d k V).at_ 1).dead)=_;rw[Ae (by simp[Lp])];rfl
 have hat:∀i,i<d.states.toNat->((Et d k V).only (Lp d.states.toNat)).at_ (i+3)=Ws (V i) (toD (d.rules.take k) i):=λi hi=>by
  show (if i+3∈Lp d.states.toNat then (Et d k V).at_ (i+3) else ((Et d k V).at_ (i+3)).dead)=_;rw[Ae (UO hi)];exact zf2 d k V hi
 have htl:(((famT d.states.toNat V (toD (d.rules.take k))).drop 0).take d.states.toNat)=famT d.states.toNat V (toD (d.rules.take k)):=by
  rw[B6];exact Az (by simp[famT])
 constructor
 ·refine⟨by rw[hat1],by rw[hat1];exact Nat.one_pos,by rw[hat1];simp[famT],λy hy=>?_⟩
  rw[hat1,htl] at hy;obtain⟨i,hi,rfl⟩:=Ax.1 hy;have hi':i<d.states.toNat:=by simpa using hi
  refine⟨by rw[hat i hi'],by rw[hat i hi'];exact Nat.one_pos,by rw[hat i hi'];simp,λz hz=>?_⟩;rw[hat i hi'] at hz;obtain⟨u,_,rfl⟩:=Ax.1 (BF (B8 hz));rfl
 ·show AV.lst _ _=_
  rw[hat1,htl,z5z,famT,CH];congr 1;refine AT λi hi=>?_;have hi':i<d.states.toNat:=by simpa using hi
  show AV.lst _ _=_;rw[hat i hi']
  have e:(((Ws (V i) (toD (d.rules.take k) i)).xs.drop 0).take (toD (d.rules.take k) i).length).map (frzV 0 ((Et d k V).only (Lp d.states.toNat)))=(toD (d.rules.take k) i).map (AV.int .i64):=by
   rw[B6,Az (by simp[Ws])];refine (AT λx hx=>?_).trans (Gl _);obtain⟨u,_,rfl⟩:=Ax.1 hx;rfl
  rw[e]
def J7(d:Desc)(k:Nat):List (Nat × AV):=[(1,.ptr 0 1 0 0),(3,z5z d.states.toNat (toD (d.rules.take k))),(4,.ref 2 1 0 d.states.toNat),(7,.nilS),(52,.ref 2 1 0 d.states.toNat),(53,.int .i64 d.states.toNat),(54,.int .i64 0)]
theorem z0e{d:Desc}{k:Nat}{V:Nat->Nat}{env:Env}(h1:env 1=.ptr 0 1 0 0)(h3:env 3=.ref 1 1 0 d.states.toNat)(h4:env 4=.ref 2 1 0 d.states.toNat)(h7:env 7=.nilS)(h52:env 52=.ref 2 1 0 d.states.toNat)(h53:env 53=.int .i64 d.states.toNat)(h54:env 54=.int .i64 0):
 Ent 105 0 env (Et d k V) (EB (J7 d k)) (Abs.hl [⟨6,1,true,[DV d]⟩,⟨0,2,false,[]⟩,⟨1,1,true,famI d.states.toNat (inD (d.rules.take k))⟩]):=by
 obtain⟨f1,f2⟩:=zjf d k V;rw[<-h3] at f1 f2;refine (VF 3 2 (Lp d.states.toNat) f1).trans ((Nu (J7 d k) λp hp=>?_).trans ((Pb (H':=Abs.hl ([⟨6,1,true,[DV d]⟩,⟨0,2,false,[]⟩,⟨1,1,true,famI d.states.toNat (inD (d.rules.take k))⟩]++(famF d.states.toNat V (toD (d.rules.take k))).map Grp.dead)) ?_ ?_).trans (Og (by omega) ?_ ?_)))
 ·rw[f2]
  simp only[J7,Af,Ai,Ap] at hp;rcases hp with rfl|rfl|rfl|rfl|rfl|rfl|rfl<;>first|rfl|assumption
 ·simp[Et,A5.kill,Abs.hl]
 ·intro g hg
  show _=if g∈Lp d.states.toNat then ((Et d k V).at_ g).dead else (Et d k V).at_ g
  have hlen:(Et d k V).n=d.states.toNat+3:=S6 d k V;have hg':g<d.states.toNat+3:=by rw[<-hlen];exact hg
  match g,hg' with
  |0,_=>rw[Ab (by simp[Lp])];rfl
  |1,_=>rw[Ae (by simp[Lp])];rfl
  |2,_=>rw[Ab (by simp[Lp])];rfl
  |i+3,hi =>
   have hi':i<d.states.toNat:=by omega
   rw[Ae (UO hi'),zf2 d k V hi',Dr];simp only[List.cons_append,List.nil_append,DU,famF,CH];exact CU hi'
 ·intro G hG
  simp only[Af,Ai,Ap] at hG;rcases hG with rfl|rfl|rfl
  ·exact CK _ _ (by simp[Bh,Ic])
  ·trivial
  ·exact CK _ _ (BZ.2 λx hx=>by
    obtain⟨i,_,rfl⟩:=Ax.1 hx
    rfl)
 ·intro i _
  have hd:ltV 3 (z5z d.states.toNat (toD (d.rules.take k))):=trivial;simp only[EB,J7]
  repeat' split
  all_goals first
   |exact hd
   |trivial
   |(show _<_;simp)
theorem z0f(d:Desc)(hd:CycOk d):PC Tryz.prog 113 [DV d] (.bool (@decide (cycP d.rules d.states.toNat) (Classical.propDecidable _))):=by
 obtain⟨⟨hn1,hn2⟩,hlen,hrul⟩:=hd;have hP:=BO d.rules;refine Cf Up ?_;unfold MC;(with_reducible repeat'(first|simp(disch:=omega)only[push_cast,↓zz,seval]|refine sp_ ?_ ?_<;>try(intro hc;push_cast at hc)|omega|intro _));refine Br (Kl (λ(s:Nat × (Nat->Nat))=>s.1<=d.rules.length) (λs=>d.rules.length-s.1) (λs=>Pa d s.1) (λs=>Et d s.1 s.2) (0,λ_=>1) (by simp) ?_ ?_)
 ·exact z5y rfl rfl rfl rfl rfl rfl
 rintro⟨k,V⟩ hk;simp only at hk ⊢;rcases Ak k d.rules.length with hkl|hkl
 ·have hr:=hrul _ (AS hkl)
  generalize hre:nth d.rules k=r at *;have hgr:=BQ r.guards;have hot:=Ct r.out;obtain⟨n,hn⟩:∃n:Nat,d.states=n:=⟨d.states.toNat,by omega⟩;obtain⟨i,hi⟩:∃i:Nat,r.from_=i:=⟨r.from_.toNat,by omega⟩;obtain⟨j,hj⟩:∃j:Nat,r.to_=j:=⟨r.to_.toNat,by omega⟩;have hin:i<n:=by omega
  have hjn:j<n:=by omega
  have hni:¬n=i:=by omega
  have ee:Pa d k=EB [(1,.ptr 0 1 0 0),(3,.ref 1 1 0 n),(4,.ref 2 1 0 n),(21,FH d.rules),(22,.int .i64 d.rules.length),(23,.int .i64 k)]:=by simp only[Pa,hn,Int.toNat_natCast]
  have eh:Et d k V=Abs.hl (⟨6,1,true,[DV d]⟩::⟨1,1,true,famT n V (toD (d.rules.take k))⟩::⟨1,1,true,famI n (inD (d.rules.take k))⟩::famF n V (toD (d.rules.take k))):=by simp only[Et,hn,Int.toNat_natCast]
  rw[ee,eh];clear ee eh;have hFl:(famF n V (toD (d.rules.take k))).length=n:=by simp[famF]
  have hTl:(famT n V (toD (d.rules.take k))).length=n:=by simp[famT]
  have hIl:(famI n (inD (d.rules.take k))).length=n:=by simp[famI]
  have gI:∀G,(famF n V (toD (d.rules.take k))++[G]).getD i default=Ws (V i) (toD (d.rules.take k) i):=λG=>by
   rw[As,A9 (by omega),<-As];exact CU hin
  have gR:∀G,(famF n V (toD (d.rules.take k))++[G]).getD n default=G:=λG=>by
   rw[As,AD (by omega)];simp[hFl]
  have tI:(famT n V (toD (d.rules.take k))).getD i .any=.ref (i+3) (V i) 0 (toD (d.rules.take k) i).length:=CU hin;have iJ:(famI n (inD (d.rules.take k))).getD j .any=.int .i64 (inD (d.rules.take k) j):=CU hjn
  have sR:∀G G',setQ (famF n V (toD (d.rules.take k))++[G]) n G'=some (famF n V (toD (d.rules.take k))++[G']):=λG G'=>by
   have:=Yw (famF n V (toD (d.rules.take k))) G G'
   rwa [hFl] at this
  have sI:∀G G',setQ (famF n V (toD (d.rules.take k))++[G]) i G'=some ((famF n V (toD (d.rules.take k))).set i G'++[G]):=λG G'=>Yx _ _ _ (by omega)
  have gR2:∀G G',((famF n V (toD (d.rules.take k))).set i G'++[G]).getD n default=G:=λG G'=>by
   rw[As,AD (by simp[hFl])];simp[hFl]
  have hSB:∀R G,Df 3 [i+3] (famF n V (toD (d.rules.take k))++[R]) ((famF n V (toD (d.rules.take k))).set i G++[R]):=λR G=>by
   rw[<-EP _ _ (by omega)];exact Kw (by simp;omega)
  generalize hF:famF n V (toD (d.rules.take k))=F at *;generalize hT:famT n V (toD (d.rules.take k))=TT at *;generalize hI:famI n (inD (d.rules.take k))=II at *;generalize hD:toD (d.rules.take k) i=Di at *;generalize hJ:inD (d.rules.take k) j=Ij at *;refine W_T ?_;have hEx:(!Di.isEmpty||(Di.map (AV.int .i64)).isEmpty)=true:=by cases Di<;>rfl
  have hDl:Di.length<=4096:=by rw[<-hD];have:=zf1 (d.rules.take k) i;simp at this;omega
  have hJb:0<=Ij/\Ij<=4096:=by rw[<-hJ];have:=z5w (d.rules.take k) j;simp at this;omega
  (with_reducible repeat'(first|simp(disch:=omega)only[push_cast,↓zz,seval,hP,hre,hi,hj,hFl,hTl,hIl,gI,gR,gR2,sR,sI,tI,iJ,List.cons_append,Aj,List.length_cons]|refine sp_ ?_ ?_<;>try(intro hc;push_cast at hc)|omega|intro _))
  ·refine H7 [i+3] ?_
   (with_reducible repeat'(first|simp(disch:=omega)only[push_cast,↓zz,seval,xx,Af,Ai,Ap,Bm,CR,B2,BD,BC,hP,hre,hi,hj,hFl,hTl,hIl,gI,gR,gR2,sR,sI,tI,iJ,List.cons_append,Aj,List.length_cons,hni,hEx]|refine sp_ ?_ ?_<;>try(intro hc;push_cast at hc)|omega|intro _))
   ·exact hSB _ _
   have he:Dk (nth d.rules k)=true:=by rw[hre,Dk];simpa using ‹(r.guards.length:Int)=0›
   have e1:=zc9 (i:=i) hkl (by rw[hre];exact hi) he;have e2:=zca (j:=j) hkl (by rw[hre];exact hj) he;refine⟨(k+1,setV V i (V i+1)),z5v (gar:=[⟨5,1,true,[.agg [.int .i64 i,.int .i64 j,Du r.guards,.int .i64 r.eat,GG r.out]]⟩]) hn1 ?_ ?_ ?_ ?_ ?_ ?_ ?_,by simp only;omega,by simp only;omega⟩
   ·rw[cycL,e1,e2,hn,Int.toNat_natCast,<-hF,<-hT,<-hI,<-hD,<-hJ,hre,hj,zc7 hin,Yy hjn,zc8 hin]
    rfl
   all_goals first|rfl|(rw[hn];rfl)
  ·have he:Dk (nth d.rules k)=false:=by rw[hre,Dk];simpa using ‹¬(r.guards.length:Int)=0›
   obtain⟨e1,e2⟩:=zcb hkl he;refine⟨(k+1,V),z5v (gar:=[⟨5,1,true,[.agg [.int .i64 i,.int .i64 j,Du r.guards,.int .i64 r.eat,GG r.out]]⟩]) hn1 ?_ ?_ ?_ ?_ ?_ ?_ ?_,by simp only;omega,by simp only;omega⟩
   ·rw[cycL,e1,e2,hn,Int.toNat_natCast,hF,hT,hI]
    rfl
   all_goals first|rfl|(rw[hn];rfl)
 ·obtain rfl:k=d.rules.length:=by omega
  obtain⟨n,hn⟩:∃n:Nat,d.states=n:=⟨d.states.toNat,by omega⟩;have ee:Pa d d.rules.length=EB [(1,.ptr 0 1 0 0),(3,.ref 1 1 0 n),(4,.ref 2 1 0 n),(21,FH d.rules),(22,.int .i64 d.rules.length),(23,.int .i64 d.rules.length)]:=by simp only[Pa,hn,Int.toNat_natCast]
  refine W_T ?_;rw[ee,QL];(with_reducible repeat'(first|simp(disch:=omega)only[push_cast,↓zz,seval,hP]|refine sp_ ?_ ?_<;>try(intro hc;push_cast at hc)|omega|intro _));refine ziv (z0e rfl (by rw[hn];rfl) (by rw[hn];rfl) rfl (by rw[hn];rfl) (by rw[hn];rfl) rfl) ?_
  have el:J7 d d.rules.length=[(1,.ptr 0 1 0 0),(3,.lst 1 ((List.range n).map λi=>Nh (toD d.rules i))),(4,.ref 2 1 0 n),(7,.nilS),(52,.ref 2 1 0 n),(53,.int .i64 n),(54,.int .i64 0)]:=by
   simp only[J7,hn,Int.toNat_natCast,A7,z5z]
  rw[el,hn,Int.toNat_natCast,A7];clear el ee
  have pL:Bh ((List.range n).map λi=>Nh (toD d.rules i))=true:=BZ.2 λx hx=>by
   obtain⟨i,_,rfl⟩:=Ax.1 hx;exact D9 .i64 _
  have lL:((List.range n).map λi=>Nh (toD d.rules i)).length=n:=by simp
  have aL:∀i,i<n->((List.range n).map λi=>Nh (toD d.rules i)).getD i .any=Nh (toD d.rules i):=λi hi=>CU hi;have aL2:∀i,i<n->((List.range n).map λi=>Nh (toD d.rules i))[i]? = some (Nh (toD d.rules i)):=λi hi=>by simp[hi]
  generalize hLe:(List.range n).map (λi=>Nh (toD d.rules i))=L at *
  have pI:∀f,Bh (famI n f)=true:=λf=>BZ.2 λx hx=>by
   obtain⟨i,_,rfl⟩:=Ax.1 hx;rfl
  have lI:∀f,(famI n f).length=n:=λf=>by simp[famI]
  have aI:∀f i,i<n->(famI n f).getD i .any=.int .i64 (f i):=λf i hi=>CU hi;have hnn:(n:Int)<=1024:=by omega
  refine Br (Bs (λ(k:Nat)=>k<=n) (λk=>n-k)
   (λk=>[(1,.ptr 0 1 0 0),(3,.lst 1 L),(4,.ref 1 1 0 n),(7,.ref 2 1 0 (Kt (inD d.rules) k).length),(52,.ref 1 1 0 n),(53,.int .i64 n),(54,.int .i64 k)]) (λk=>[⟨6,1,true,[DV d]⟩,⟨1,1,true,famI n (inD d.rules)⟩,⟨1,1,false,(Kt (inD d.rules) k).map (AV.int .i64)⟩]) (λenv _=>[C7 1 (env 1),C7 1 (env 4),C7 1 (env 7)]) 0 (by simp) ?_ ?_)
  ·have z0:Kt (inD d.rules) 0=[]:=rfl
   (with_reducible repeat'(first|simp(disch:=omega)only[push_cast,↓zz,seval,pL,lL,pI,lI,z0]|refine sp_ ?_ ?_<;>try(intro hc;push_cast at hc)|omega|intro _))
  intro k hk;have zl:=z4x (inD d.rules) k;rcases Ak k n with hkn|hkn
  ·have aK:=aI (inD d.rules) k hkn
   have zs:=ZU (inD d.rules) k;have hib:=z5w d.rules k;generalize inD d.rules k=v at *;refine W_T ?_;(with_reducible repeat'(first|simp(disch:=omega)only[push_cast,↓zz,seval,pL,lL,pI,lI,aK]|refine sp_ ?_ ?_<;>try(intro hc;push_cast at hc)|omega|intro _))
   ·rw[Ae (by assumption)] at zs
    refine⟨k+1,?_⟩;(with_reducible repeat'(first|simp(disch:=omega)only[push_cast,↓zz,seval,zs]|refine sp_ ?_ ?_<;>try(intro hc;push_cast at hc)|omega|intro _))
   ·rw[Ab (by assumption)] at zs
    refine⟨k+1,?_⟩;(with_reducible repeat'(first|simp(disch:=omega)only[push_cast,↓zz,seval,zs]|refine sp_ ?_ ?_<;>try(intro hc;push_cast at hc)|omega|intro _))
  ·have hkn2:n=k:=by omega
   subst hkn2;refine W_T ?_;(with_reducible repeat'(first|simp(disch:=omega)only[push_cast,↓zz,seval,pL,lL,pI,lI]|refine sp_ ?_ ?_<;>try(intro hc;push_cast at hc)|omega|intro _))
   have hto:∀s m,m<(toD d.rules s).length->0<=nth (toD d.rules s) m/\nth (toD d.rules s) m<n:=λs m hm=>by
    have hm2:nth (toD d.rules s) m∈toD d.rules s:=AS hm;generalize nth (toD d.rules s) m=x at *;obtain⟨r,hr,rfl⟩:=Ax.1 hm2;have:=hrul r (Bn.1 hr).1;omega
   refine Br (Bs (λ(s:List Int × List Int × List Int)=>KInv d.rules n (s.1++s.2.1) (cntE d.rules s.1)) (λs=>n-s.1.length)
    (λs=>[(1,.ptr 0 1 0 0),(3,.lst 1 L),(4,.ref 1 1 0 n),(7,.ref 2 1 s.2.2.length s.2.1.length),(10,.int .i64 s.1.length)]) (λs=>[⟨6,1,true,[DV d]⟩,⟨1,1,true,famI n (cntE d.rules s.1)⟩,⟨1,1,false,(s.2.2++s.2.1).map (AV.int .i64)⟩]) (λenv _=>[C7 1 (env 1),C7 1 (env 4),C7 1 (env 7)]) ([],Kt (inD d.rules) n,[]) (ZV d.rules n) ?_ ?_)
   ·have e0:cntE d.rules []=inD d.rules:=funext λj=>Sl _ _
    (with_reducible repeat'(first|simp(disch:=omega)only[push_cast,↓zz,seval,pL,lL,pI,lI,e0]|refine sp_ ?_ ?_<;>try(intro hc;push_cast at hc)|omega|intro _))
   rintro⟨P,td,junk⟩ hK;simp only at hK;have hlen2:=hK.len;rw[Aj] at hlen2;rcases td with _|⟨x,rest⟩
   ·rw[A4] at hK
    have hdone:=z51 (λr hr=>by have:=hrul r hr;omega) hK;refine W_T ?_;(with_reducible repeat'(first|simp(disch:=omega)only[push_cast,↓zz,seval,pL,lL,pI,lI]|refine sp_ ?_ ?_<;>try(intro hc;push_cast at hc)|omega|intro _))
    all_goals exact B1.2 (by rw[<-hdone];omega)
   ·have hx:=hK.range x (by simp)
    obtain⟨s,rfl⟩:∃s:Nat,x=s:=⟨x.toNat,by omega⟩;have hsn:s<n:=by omega
    have hsP:(s:Int)∉P:=λhh=>by
     exact (CQ.1 hK.nodup).2.2 (s:Int) hh (s:Int) (by simp) rfl
    have aS:=aL s hsn;have aS2:=aL2 s hsn;have j0:(junk.map (AV.int .i64)++AV.int .i64 (s:Int)::rest.map (AV.int .i64)).getD junk.length .any=.int .i64 s:=by simp[List.getD]
    have j1:nth (junk++(s:Int)::rest) junk.length=s:=by simp[nth]
    have hjl:(junk++(s:Int)::rest).length=junk.length+(rest.length+1):=by simp
    simp only[List.length_cons] at hlen2;refine W_T ?_;(with_reducible repeat'(first|simp(disch:=omega)only[push_cast,↓zz,seval,pL,lL,pI,lI,aS,aS2,j0,j1,hjl,List.length_cons]|refine sp_ ?_ ?_<;>try(intro hc;push_cast at hc)|omega|intro _))
    have hK0:KInv d.rules n (P++[(s:Int)]++rest) (Gj d.rules P s 0):=by
     rw[Q6,A3];exact hK
    have hDb:=zf1 d.rules s
    refine Br (Bs (λ(q:Nat × List Int × List Int)=>q.1<=(toD d.rules s).length/\KInv d.rules n (P++[(s:Int)]++q.2.1) (Gj d.rules P s q.1)) (λq=>(toD d.rules s).length-q.1)
     (λq=>[(1,.ptr 0 1 0 0),(3,.lst 1 L),(4,.ref 1 1 0 n),(7,.ref 2 1 q.2.2.length q.2.1.length),(10,.int .i64 P.length),(79,Nh (toD d.rules s)),(80,.int .i64 (toD d.rules s).length),(81,.int .i64 q.1)]) (λq=>[⟨6,1,true,[DV d]⟩,⟨1,1,true,famI n (Gj d.rules P s q.1)⟩,⟨1,1,false,(q.2.2++q.2.1).map (AV.int .i64)⟩]) (λenv _=>[C7 1 (env 1),C7 1 (env 4),C7 1 (env 7)]) (0,rest,junk++[(s:Int)]) ⟨by simp,hK0⟩ ?_ ?_)
    ·have e0:=Q6 d.rules P s
     (with_reducible repeat'(first|simp(disch:=omega)only[push_cast,↓zz,seval,pL,lL,pI,lI,e0,Aw,A3,AR,AZ,List.cons_append,List.nil_append,Aj,List.length_cons,List.length_nil]|refine sp_ ?_ ?_<;>try(intro hc;push_cast at hc)|omega|intro _))
    rintro⟨m,td,jk⟩ ⟨m1,m2⟩;simp only at m1 m2;have hlen3:=m2.len;simp only[Aj,List.length_cons,List.length_nil] at hlen3;rcases Ak m (toD d.rules s).length with hm|hm
    ·obtain⟨t1,t2⟩:=hto s m hm
     obtain⟨t,ht⟩:∃t:Nat,nth (toD d.rules s) m=t:=⟨(nth (toD d.rules s) m).toNat,by omega⟩;have htn:t<n:=by omega
     have hst:=z4z hsP hm ht htn m2;have hle:=LY (P:=P) hm ht;have hps:=U5 hsP hm ht;have aT:=aI (Gj d.rules P s m) t htn;have aT2:=aI (Gj d.rules P s (m+1)) t htn;have hv:Gj d.rules P s (m+1) t=Gj d.rules P s m t-1:=by rw[hle];simp
     have hset:(famI n (Gj d.rules P s m)).set t (.int .i64 (Gj d.rules P s m t-1))=famI n (Gj d.rules P s (m+1)):=by rw[hle];exact Yy htn
     have hlb:Gj d.rules P s m t<=4096:=by
      have c1:cntE d.rules P t<=inD d.rules t:=by
       rw[<-Sl];exact zj3 _ _ _
      have c2:=z5w d.rules t;have c3:Gj d.rules P s m t<=cntE d.rules P t:=by simp only[Gj];omega
      omega
     rw[hv] at aT2;generalize Gj d.rules P s m t=v at *;refine W_T ?_
     have eD:List.drop jk.length (jk.map (AV.int .i64)++td.map (AV.int .i64))=td.map (AV.int .i64):=by
      rw[CZ (by simp),Eo (by simp),List.nil_append]
     (with_reducible repeat'(first|simp(disch:=omega)only[push_cast,↓zz,seval,pL,lL,pI,lI,ht,aT,aT2,hset,eD]|refine sp_ ?_ ?_<;>try(intro hc;push_cast at hc)|omega|intro _))
     ·rw[Ae (by assumption)] at hst
      refine⟨(m+1,td++[(t:Int)],jk),?_⟩;(with_reducible repeat'(first|simp(disch:=omega)only[push_cast,↓zz,seval,Aw,A3,AR,AZ,Aj,List.length_cons,List.length_nil]|refine sp_ ?_ ?_<;>try(intro hc;push_cast at hc)|omega|intro _));simpa [A3] using hst
     ·rw[Ae (by assumption)] at hst
      refine⟨(m+1,td++[(t:Int)],[]),?_⟩;(with_reducible repeat'(first|simp(disch:=omega)only[push_cast,↓zz,seval,Aw,A3,AR,AZ,List.nil_append,Aj,List.length_cons,List.length_nil]|refine sp_ ?_ ?_<;>try(intro hc;push_cast at hc)|omega|intro _));simpa [A3] using hst
     ·rw[Ab (by assumption)] at hst
      refine⟨(m+1,td,jk),?_⟩;(with_reducible repeat'(first|simp(disch:=omega)only[push_cast,↓zz,seval]|refine sp_ ?_ ?_<;>try(intro hc;push_cast at hc)|omega|intro _));simpa [A3] using hst
    ·have hme:m=(toD d.rules s).length:=by omega
     subst hme;have hE:=z4y (l:=d.rules) hsP;rw[hE] at m2;rw[hE];refine W_T ?_;(with_reducible repeat'(first|simp(disch:=omega)only[push_cast,↓zz,seval,pL,lL,pI,lI]|refine sp_ ?_ ?_<;>try(intro hc;push_cast at hc)|omega|intro _))
     all_goals
      refine⟨(P++[(s:Int)],td,jk),?_⟩;(with_reducible repeat'(first|simp(disch:=omega)only[push_cast,↓zz,seval,Aj,List.length_cons,List.length_nil]|refine sp_ ?_ ?_<;>try(intro hc;push_cast at hc)|omega|intro _))
     all_goals (simpa [A3] using m2)
inductive Reach(E:List (Int × Int))(F:List Int):Int->Prop where
 |base {s:Int}:s∈F->Reach E F s
 |step {s t:Int}:Reach E F s->(s,t)∈E->Reach E F t
noncomputable def Yz (E:List (Int × Int)) (F:List Int) (i:Nat):Bool:=@decide (Reach E F i) (Classical.propDecidable _)
structure InR(n:Nat)(F:List Int)(E:List (Int × Int)):Prop where
 f:∀s∈F,0<=s/\s<n
 e:∀e∈E,(0<=e.1/\e.1<n)/\0<=e.2/\e.2<n
theorem Reach.rng{n:Nat}{F:List Int}{E:List (Int × Int)}(h:InR n F E){s:Int}(hs:Reach E F s):0<=s/\s<n:=by
 cases hs with
 |base h1=>exact h.f _ h1
 |step _ h1=>exact (h.e _ h1).2
structure SpInv(n:Nat)(F:List Int)(E:List (Int × Int))(on:Nat->Bool)(todo:List Int):Prop where
 r1:∀s∈todo,Reach E F s
 r2:∀i:Nat,on i=true->Reach E F i
 base:∀s∈F,on s.toNat=true\/s∈todo
 step:∀i:Nat,on i=true->∀t,((i:Int),t)∈E->on t.toNat=true\/t∈todo
def setB(on:Nat->Bool)(s:Nat)(j:Nat):Bool:=if j=s then true else on j
theorem PP{P:Program}{f m np:Nat}{xs:List AV}{y:AV}{res:List ARes}{B:AC}(hf:Bj P f xs.length=some ⟨m,np,res,B⟩)(h:T P m 0 B (entry xs) (Abs.hl []) (Ret P res λz H=>CJ 4 H z/\ansW (frzV 4 H z) y)):PC P f xs y:=by
 refine zfz hf 4 ?_;rw[T9];exact T.mono h λx env H hh=>RA (λz H hh=>⟨hh.1,z3b hh.2⟩) hh
def spB(n:Nat)(on:Nat->Bool):List AV:=(List.range n).map λi=>AV.bool (on i)
theorem zjg{n s:Nat}{on:Nat->Bool}(h:s<n):(spB n on).set s (.bool true)=spB n (setB on s):=by
 rw[spB,E5 h,spB];refine AT λp _=>?_;by_cases e:p=s
 ·subst e;simp[setB]
 ·simp[e,setB]
noncomputable def zf3 (n:Nat) (F:List Int) (E:List (Int × Int)):List Bool:=(List.range n).map (Yz E F)
def IJ{α:Type}(p:α->Bool):List α->Nat->Option Nat
 |[],_=>none
 |x::l,i=>if p x then IJ p l (i+1) else some i
theorem Y0{α:Type}[Inhabited α]{p:α->Bool}{l:List α}{k:Nat}(h:k<l.length):IJ p (l.drop k) k=if p (nth l k) then IJ p (l.drop (k+1)) (k+1) else some k:=by rw[drop_at h,IJ]
theorem J8{α:Type}{p:α->Bool}:∀{l:List α}{i:Nat},IJ p l i=none->∀x∈l,p x=true
 |[],_,_,_,h=>by cases h
 |y::l,i,h,x,hx=>by
  rw[IJ] at h;split at h
  ·rename_i hp
   rcases Af.1 hx with rfl|hx
   ·exact hp
   ·exact J8 h x hx
  ·cases h
def Hy(d:Desc)(f:H8):Bool:=IE d f.from_&&(GM d.in_ f.guards&&I1 d f.out f.guards)
open Classical in
noncomputable def Hz (d:Desc):Int × Int :=
 if Sz d=false then (1,0) else
  match IJ (Ln d) d.rules 0 with
  |some i=>(2,i)
  |none=>match IJ (Hy d) d.finals 0 with
   |some i=>(3,i)
   |none=>if cycP d.rules d.states.toNat then (4,0) else (0,0)
def Ml(d:Desc):Prop:=(∀r∈d.rules,∀t∈r.out,t.parts.length<1000000000000)/\∀f∈d.finals,∀t∈f.out,t.parts.length<1000000000000
theorem z60{d:Desc}(h:Sz d=true):(1<=d.states/\d.states<=1024)/\d.rules.length<=4096/\d.finals.length<=4096/\0<=d.start/\d.start<d.states:=by
 simp only[Sz,IE,Ac,Ah] at h;omega
theorem z61{d:Desc}{r:Rule}(h:Ln d r=true):(0<=r.from_/\r.from_<d.states)/\0<=r.to_/\r.to_<d.states:=by
 simp only[Ln,IE,Ac,Ah] at h;omega
theorem z0g(d:Desc)(hf:Ml d):PC Tryz.prog 69 [DV d] (.tup [.int .i64 (Hz d).1,.int .i64 (Hz d).2]):=by
 have hH:=z5t d;have hPr:=BO d.rules;have hPf:=Ch d.finals;refine Cf Ui ?_;unfold M5;cases hh:Sz d with
 |false =>
  rw[hh] at hH;rw[Hz,Ae hh];(with_reducible repeat'(first|simp(disch:=omega)only[push_cast,↓zz,seval]|refine sp_ ?_ ?_<;>try(intro hc;push_cast at hc)|refine ee hH ?_|(refine cc hH ?_;simp(disch:=omega)only[push_cast,↓zz,seval];fail_if_success change False)|omega|intro _))
 |true =>
 rw[hh] at hH;obtain⟨b1,b2,b3,b4⟩:=z60 hh
 have hW:Hz d=match IJ (Ln d) d.rules 0 with
  |some i=>(2,(i:Int))
  |none=>match IJ (Hy d) d.finals 0 with
   |some i=>(3,(i:Int))
   |none=>if (@decide (cycP d.rules d.states.toNat) (Classical.propDecidable _))=true then (4,0) else (0,0):=by
  rw[Hz,Ab (by simp[hh])];split
  ·rfl
  ·split
   ·rfl
   ·by_cases hc:cycP d.rules d.states.toNat
    ·rw[Ae hc,Ae (@AE _ (Classical.propDecidable _) hc)]
    ·rw[Ab hc,Ab (by rw[@Bc _ (Classical.propDecidable _) hc];simp)]
 (with_reducible repeat'(first|simp(disch:=omega)only[push_cast,↓zz,seval]|refine sp_ ?_ ?_<;>try(intro hc;push_cast at hc)|refine ee hH ?_|(refine cc hH ?_;simp(disch:=omega)only[push_cast,↓zz,seval];fail_if_success change False)|omega|intro _))
 refine Br (Bs (λ(k:Nat)=>k<=d.rules.length/\IJ (Ln d) d.rules 0=IJ (Ln d) (d.rules.drop k) k) (λk=>d.rules.length-k)
  (λk=>[(1,.ptr 0 1 0 0),(12,FH d.rules),(13,.int .i64 d.rules.length),(14,.int .i64 k)]) (λk=>[⟨6,1,true,[DV d]⟩]) (λenv _=>[C7 1 (env 1)]) 0 ⟨by simp,rfl⟩ ?_ ?_)
 ·(with_reducible repeat'(first|simp(disch:=omega)only[push_cast,↓zz,seval,hPr,hPf]|refine sp_ ?_ ?_<;>try(intro hc;push_cast at hc)|omega|intro _))
 rintro k ⟨k1,k2⟩;rcases Ak k d.rules.length with hk|hk
 ·have hr:=z5u d (nth d.rules k) (hf.1 _ (AS hk))
  rw[Y0 hk] at k2;cases hb:Ln d (nth d.rules k) with
  |false =>
   rw[hb] at hr k2;simp only[A8,Bt] at k2;rw[hW,k2];refine W_T ?_;(with_reducible repeat'(first|simp(disch:=omega)only[push_cast,↓zz,seval,hPr,hPf]|refine sp_ ?_ ?_<;>try(intro hc;push_cast at hc)|refine ee hr ?_|(refine cc hr ?_;simp(disch:=omega)only[push_cast,↓zz,seval,hPr,hPf];fail_if_success change False)|omega|intro _))
  |true =>
   rw[hb] at hr k2;simp only[Bi] at k2;refine W_T ?_;(with_reducible repeat'(first|simp(disch:=omega)only[push_cast,↓zz,seval,hPr,hPf]|refine sp_ ?_ ?_<;>try(intro hc;push_cast at hc)|refine ee hr ?_|(refine cc hr ?_;simp(disch:=omega)only[push_cast,↓zz,seval,hPr,hPf];fail_if_success change False)|omega|intro _))
   all_goals exact⟨k+1,by push_cast,⟨by omega,k2⟩,by omega⟩
 ·rw[An hk,IJ] at k2
  have hall:=J8 k2;have hC:=z0f d ⟨b1,b2,λr hr=>z61 (hall r hr)⟩;rw[k2] at hW;simp only at hW;refine W_T ?_;(with_reducible repeat'(first|simp(disch:=omega)only[push_cast,↓zz,seval,hPr,hPf]|refine sp_ ?_ ?_<;>try(intro hc;push_cast at hc)|omega|intro _))
  refine Br (Bs (λ(k:Nat)=>k<=d.finals.length/\IJ (Hy d) d.finals 0=IJ (Hy d) (d.finals.drop k) k) (λk=>d.finals.length-k)
   (λk=>[(1,.ptr 0 1 0 0),(26,G1 d.finals),(27,.int .i64 d.finals.length),(28,.int .i64 k)]) (λk=>[⟨6,1,true,[DV d]⟩]) (λenv _=>[C7 1 (env 1)]) 0 ⟨by simp,rfl⟩ ?_ ?_)
  ·(with_reducible repeat'(first|simp(disch:=omega)only[push_cast,↓zz,seval,hPr,hPf]|refine sp_ ?_ ?_<;>try(intro hc;push_cast at hc)|omega|intro _))
  rintro j ⟨j1,j2⟩;rcases Ak j d.finals.length with hj|hj
  ·generalize hfe:nth d.finals j=f at *
   have hfm:f∈d.finals:=by rw[<-hfe];exact AS hj
   have hfo:=hf.2 f hfm;have h1:=J6 d f.from_;have h2:=OY d.in_ f.guards;have hP:=BQ f.guards;have hT:=Ct f.out;rw[Y0 hj,hfe] at j2;cases hg:GM d.in_ f.guards with
   |false =>
    have hb:Hy d f=false:=by rw[Hy,hg];simp
    rw[hg] at h2;rw[hb] at j2;simp only[A8,Bt] at j2;rw[hW,j2];refine W_T ?_;(with_reducible repeat'(first|simp(disch:=omega)only[push_cast,↓zz,seval,hPr,hPf,hfe,hP,hT]|refine sp_ ?_ ?_<;>try(intro hc;push_cast at hc)|refine ee h1 ?_|refine ee h2 ?_|((first|refine cc h1 ?_|refine cc h2 ?_);simp(disch:=omega)only[push_cast,↓zz,seval,hPr,hPf,hfe,hP,hT];fail_if_success change False)|omega|intro _))
   |true =>
    rw[hg] at h2;obtain⟨g1,g2⟩:=Hx hg;have h4:=OZ d f.out f.guards hfo (λg hg=>by have:=g2 g hg;omega) (by omega);cases hb:Hy d f with
    |false =>
     rw[hb] at j2;simp only[A8,Bt] at j2;rw[hW,j2];rw[Hy,hg,AO] at hb;refine W_T ?_;(with_reducible repeat'(first|simp(disch:=omega)only[push_cast,↓zz,seval,hPr,hPf,hfe,hP,hT]|refine sp_ ?_ ?_<;>try(intro hc;push_cast at hc)|refine ee h1 ?_|refine ee h2 ?_|refine ee h4 ?_|((first|refine cc h1 ?_|refine cc h2 ?_|refine cc h4 ?_);simp(disch:=omega)only[push_cast,↓zz,seval,hPr,hPf,hfe,hP,hT];fail_if_success change False)|omega|intro _))
     all_goals first
      |(exfalso;simp_all;done)
      
    |true =>
     rw[hb] at j2;simp only[Bi] at j2;rw[Hy,hg,AO,Ac] at hb;rw[hb.1] at h1;rw[hb.2] at h4;refine W_T ?_;(with_reducible repeat'(first|simp(disch:=omega)only[push_cast,↓zz,seval,hPr,hPf,hfe,hP,hT]|refine sp_ ?_ ?_<;>try(intro hc;push_cast at hc)|refine ee h1 ?_|refine ee h2 ?_|refine ee h4 ?_|((first|refine cc h1 ?_|refine cc h2 ?_|refine cc h4 ?_);simp(disch:=omega)only[push_cast,↓zz,seval,hPr,hPf,hfe,hP,hT];fail_if_success change False)|omega|intro _))
     all_goals exact⟨j+1,by push_cast,⟨by omega,j2⟩,by omega⟩
  ·rw[An hj,IJ] at j2
   rw[j2] at hW;simp only at hW;generalize @decide (cycP d.rules d.states.toNat) (Classical.propDecidable _)=c at *;refine W_T ?_;rw[hW];cases c
   ·(with_reducible repeat'(first|simp(disch:=omega)only[push_cast,↓zz,seval,hPr,hPf]|refine sp_ ?_ ?_<;>try(intro hc;push_cast at hc)|refine ee hC ?_|(refine cc hC ?_;simp(disch:=omega)only[push_cast,↓zz,seval,hPr,hPf];fail_if_success change False)|omega|intro _))
   ·(with_reducible repeat'(first|simp(disch:=omega)only[push_cast,↓zz,seval,hPr,hPf]|refine sp_ ?_ ?_<;>try(intro hc;push_cast at hc)|refine ee hC ?_|(refine cc hC ?_;simp(disch:=omega)only[push_cast,↓zz,seval,hPr,hPf];fail_if_success change False)|omega|intro _))
noncomputable def GI (d:Desc):Int:=if (Hz d).1=0 then 0 else 2
theorem z0h(d:Desc)(hf:Ml d):PC Tryz.prog 25 [DV d] (.int .i64 (GI d)):=by
 have hW:=z0g d hf;refine Cf Uc ?_;unfold Mz GI;generalize Hz d=w at *;by_cases h:w.1=0
 ·rw[Ae h]
  (with_reducible repeat'(first|simp(disch:=omega)only[push_cast,↓zz,seval,h]|refine sp_ ?_ ?_<;>try(intro hc;push_cast at hc)|refine ee hW ?_|(refine cc hW ?_;simp(disch:=omega)only[push_cast,↓zz,seval,h];fail_if_success change False)|omega|intro _))
 ·rw[Ab h]
  (with_reducible repeat'(first|simp(disch:=omega)only[push_cast,↓zz,seval,h]|refine sp_ ?_ ?_<;>try(intro hc;push_cast at hc)|refine ee hW ?_|(refine cc hW ?_;simp(disch:=omega)only[push_cast,↓zz,seval,h];fail_if_success change False)|omega|intro _))
theorem fold_at{α β:Type}[Inhabited α]{f:β->α->β}{l:List α}{k:Nat}{s:β}(h:k<l.length):(l.drop k).foldl f s=(l.drop (k+1)).foldl f (f s (nth l k)):=by rw[drop_at h,List.foldl_cons]
def freeB(d:Desc):Bool:=d.rules.all λr=>!Dk r
def widF(n:Int)(r:Rule):Int:=max n r.guards.length
def znx(d:Desc):Int:=d.rules.foldl widF 0
def aheF(n:Int)(r:Rule):Int:=max n (r.guards.length-max r.eat 0)
def zny(d:Desc):Int:=d.rules.foldl aheF 0
def lonF(n:Int)(r:Rule):Int:=max n r.out.length
def lonG(n:Int)(f:H8):Int:=max n f.out.length
def longV(d:Desc):Int:=d.finals.foldl lonG (d.rules.foldl lonF 0)
theorem znz{P:Program}{f:Nat}{xs:List AV}{y y2:AV}(h:PC P f xs y)(hle:AV.le y y2):PC P f xs y2:=⟨h.1,λS cargs hS hx=>(h.2 S cargs hS hx).mono λe w' hh=>by
 obtain⟨v,S',x,H',he,hw,ev,hS',hv,rfl,rfl⟩:=hh
 exact⟨v,S',_,_,he,hw,ev,hS',hle S' v hv,rfl,rfl⟩⟩
end Go.Proofs.YtflibbceibjddaaGreat
