/-
  Parts of the proof that the law holds whatever the input; without conditions.
-/
import Derived.Shelf.SlSortCmp.WholeK
import Derived.Shelf.SlicesG.Cmp
import Derived.Shelf.Small.Bits
import Derived.Ground.SlsfProg
import Derived.Ground.SlgcProg
import Derived.Ground.NamesProg
import Derived.Test.YtflibbceibjddaaGreatProg
import Derived.Test.YtflibbceibjddaaGreatCA3
import Derived.Test.YtflibbceibjddaaGreatCA4
set_option linter.unusedSimpArgs false
set_option linter.unusedVariables false
set_option linter.unusedSectionVars false
namespace Go.Proofs
open Go.Shelf
def Tryz.sortSp_ren:Go.Shelf.Ren:=⟨fun|6=>169|15=>139|14=>190|28=>164|29=>165|20=>210|21=>211|22=>212|23=>213|24=>214|25=>215|26=>216|27=>217|46=>233|47=>182|48=>183|49=>234|50=>235|57=>246|n=>n,fun|22=>22|24=>129|25=>205|3=>3|39=>179|0=>0|53=>196|55=>198|4=>4|46=>190|45=>189|50=>141|5=>5|9=>9|66=>212|70=>216|76=>237|77=>103|n=>n,fun|n=>n⟩
theorem Tryz.sortSp:Go.Proofs.SlLaysF0.n6 Tryz.prog Tryz.sortSp_ren:={
 mixed:=by kernel_rfl
 f6:=⟨Tryz.f169.name,by decide,Tryz.func169.trans (congrArg some (by kernel_rfl))⟩
 f14:=⟨Tryz.f190.name,by decide,Tryz.func190.trans (congrArg some (by kernel_rfl))⟩
 f15:=Tryz.func139.trans (congrArg some (by kernel_rfl))
 f20:=⟨Tryz.f210.name,by decide,Tryz.func210.trans (congrArg some (by kernel_rfl))⟩
 f21:=⟨Tryz.f211.name,by decide,Tryz.func211.trans (congrArg some (by kernel_rfl))⟩
 f22:=⟨Tryz.f212.name,by decide,Tryz.func212.trans (congrArg some (by kernel_rfl))⟩
 f23:=⟨Tryz.f213.name,by decide,Tryz.func213.trans (congrArg some (by kernel_rfl))⟩
 f24:=⟨Tryz.f214.name,by decide,Tryz.func214.trans (congrArg some (by kernel_rfl))⟩
 f25:=⟨Tryz.f215.name,by decide,Tryz.func215.trans (congrArg some (by kernel_rfl))⟩
 f26:=⟨Tryz.f216.name,by decide,Tryz.func216.trans (congrArg some (by kernel_rfl))⟩
 f27:=⟨Tryz.f217.name,by decide,Tryz.func217.trans (congrArg some (by kernel_rfl))⟩
 f28:=Tryz.func164.trans (congrArg some (by kernel_rfl))
 f29:=Tryz.func165.trans (congrArg some (by kernel_rfl))
 f46:=⟨Tryz.f233.name,by decide,Tryz.func233.trans (congrArg some (by kernel_rfl))⟩
 f47:=Tryz.func182.trans (congrArg some (by kernel_rfl))
 f48:=Tryz.func183.trans (congrArg some (by kernel_rfl))
 f49:=⟨Tryz.f234.name,by decide,Tryz.func234.trans (congrArg some (by kernel_rfl))⟩
 f50:=⟨Tryz.f235.name,by decide,Tryz.func235.trans (congrArg some (by kernel_rfl))⟩
 f57:=⟨Tryz.f246.name,by decide,Tryz.func246.trans (congrArg some (by kernel_rfl))⟩
 t0:=Tryz.underlying0
 a0:=Tryz.isAgg0
 z0:=Tryz.sizeOf0
 v0:=Tryz.zeroValue0
 t3:=Tryz.underlying3
 a3:=Tryz.isAgg3
 z3:=Tryz.sizeOf3
 v3:=Tryz.zeroValue3
 t4:=Tryz.underlying4
 a4:=Tryz.isAgg4
 z4:=Tryz.sizeOf4
 v4:=Tryz.zeroValue4
 t5:=Tryz.underlying5
 a5:=Tryz.isAgg5
 z5:=Tryz.sizeOf5
 v5:=Tryz.zeroValue5
 t9:=Tryz.underlying9
 a9:=Tryz.isAgg9
 z9:=Tryz.sizeOf9
 v9:=Tryz.zeroValue9
 t22:=Tryz.underlying22
 a22:=Tryz.isAgg22
 z22:=Tryz.sizeOf22
 v22:=Tryz.zeroValue22
 t25:=Tryz.underlying205
 a25:=Tryz.isAgg205
 z25:=Tryz.sizeOf205
 v25:=Tryz.zeroValue205
 t39:=Tryz.underlying179
 a39:=Tryz.isAgg179
 z39:=Tryz.sizeOf179
 v39:=Tryz.zeroValue179
 t45:=Tryz.underlying189
 a45:=Tryz.isAgg189
 z45:=Tryz.sizeOf189
 v45:=Tryz.zeroValue189
 t46:=Tryz.underlying190
 a46:=Tryz.isAgg190
 z46:=Tryz.sizeOf190
 v46:=Tryz.zeroValue190
 t50:=Tryz.underlying141
 a50:=Tryz.isAgg141
 z50:=Tryz.sizeOf141
 v50:=Tryz.zeroValue141
 t53:=Tryz.underlying196
 a53:=Tryz.isAgg196
 z53:=Tryz.sizeOf196
 v53:=Tryz.zeroValue196
 t55:=Tryz.underlying198
 a55:=Tryz.isAgg198
 z55:=Tryz.sizeOf198
 v55:=Tryz.zeroValue198
 t66:=Tryz.underlying212
 a66:=Tryz.isAgg212
 z66:=Tryz.sizeOf212
 v66:=Tryz.zeroValue212
 t70:=Tryz.underlying216
 a70:=Tryz.isAgg216
 z70:=Tryz.sizeOf216
 v70:=Tryz.zeroValue216
 t76:=Tryz.underlying237
 a76:=Tryz.isAgg237
 z76:=Tryz.sizeOf237
 v76:=Tryz.zeroValue237
 t77:=Tryz.underlying103
 a77:=Tryz.isAgg103
 z77:=Tryz.sizeOf103
 v77:=Tryz.zeroValue103 }
def Tryz.cmpSp_ren:Go.Shelf.Ren:=⟨fun|5=>171|7=>191|n=>n,fun|22=>3|3=>3|4=>4|n=>n,fun|n=>n⟩
theorem Tryz.cmpSp:Go.Proofs.SlLaysC2.n5 Tryz.prog Tryz.cmpSp_ren:={
 mixed:=by kernel_rfl
 f5:=⟨Tryz.f171.name,by decide,Tryz.func171.trans (congrArg some (by kernel_rfl))⟩
 f7:=⟨Tryz.f191.name,by decide,Tryz.func191.trans (congrArg some (by kernel_rfl))⟩
 t3:=Tryz.underlying3
 a3:=Tryz.isAgg3
 z3:=Tryz.sizeOf3
 v3:=Tryz.zeroValue3
 t4:=Tryz.underlying4
 a4:=Tryz.isAgg4
 z4:=Tryz.sizeOf4
 v4:=Tryz.zeroValue4
 t22:=Tryz.underlying3
 a22:=Tryz.isAgg3
 z22:=Tryz.sizeOf3
 v22:=Tryz.zeroValue3 }
end Go.Proofs
namespace Go.Proofs.YtflibbceibjddaaGreat
open Abs O1 O2 O3 Go.Shelf Go.RowKit Go.Lib Go.Sort
def Q1(x:Span):List Value:=[.int .i64 x.lo,.int .i64 x.hi]
def Wk(x y:Span):Int:=Lib.compareInt x.lo y.lo
theorem ltLo(x y:Span):ltOf Wk x y=decide (x.lo<y.lo):=by
 unfold ltOf Wk Lib.compareInt;by_cases h1:x.lo<y.lo
 ·simp[h1]
 ·by_cases h2:y.lo<x.lo<;>simp[h1,h2]
theorem swoLo:SWO (ltOf Wk) where
 irrefl x:=by rw[ltLo];simp
 trans x y z h1 h2:=by rw[ltLo] at *;simp at *;omega
 ntrans x y z h1 h2:=by rw[ltLo] at *;simp at *;omega
set_option maxHeartbeats 1000000 in
theorem z4y(x y:Span)(W:World):Calls Tryz.prog 170 #[.agg #[.int .i64 x.lo,.int .i64 x.hi],.agg #[.int .i64 y.lo,.int .i64 y.hi]] W λe w'=>e=.returned (.int .i64 (Wk x y))/\∃q os',w'=grow (W.drewN q) os':=by
 have hcon:=λW'=>AnyG.cmp_Compare_int Tryz.cmpSp x.lo y.lo W';change ∀W',Calls Tryz.prog 171 _ _ _ at hcon;unfold Wk;generalize Lib.compareInt x.lo y.lo=r at hcon ⊢
 go_enter Tryz.func170,Tryz.ntmps170
 go_wp2_with (go_at_call 171;refine (hcon _).mono ?_;rintro e w' ⟨rfl,rfl⟩)
 go_ret
 exact⟨rfl,0,_,by rw[alloc_eq_grow,alloc_eq_grow,grow_grow];rfl⟩
theorem z4z(blk off size:Nat)(w:World):CmpLays Tryz.prog 170 #[] Q1 2 Wk blk off size w :=
 λ_ _ _ _ x y=>z4y x y _
theorem zue:∀w,(isAgg (Tryz.sortSp_ren.t 24)).run Tryz.prog w=.ok true w:=Tryz.isAgg129
theorem zoz:∀w,(Go.sizeOf (Tryz.sortSp_ren.t 24)).run Tryz.prog w=.ok 2 w:=Tryz.sizeOf129
theorem AB.split{S:MS}:∀{xs ys:List AV}{vs:List Value},AB S (xs++ys) vs->∃v1 v2,vs=v1++v2/\AB S xs v1/\AB S ys v2
 |[],ys,vs,h=>⟨[],vs,rfl,rfl,h⟩
 |x::xs,ys,vs,⟨v,r,hv,h1,h2⟩=>by
  obtain⟨v1,v2,rfl,h3,h4⟩:=AB.split h2;exact⟨v::v1,v2,by rw[hv];rfl,⟨v,v1,rfl,h1,h3⟩,h4⟩
abbrev Jb(x:Span):Value:=.agg #[.int .i64 x.lo,.int .i64 x.hi]
theorem Sr{S:MS}:∀{l:List Span}{vs:List Value},AB S (l.map Ce) vs->vs=l.map Jb
 |[],vs,h=>h
 |x::l,vs,⟨v,r,hv,h1,h2⟩=>by
  obtain⟨ws,rfl,a,r1,rfl,rfl,c,r2,rfl,rfl,rfl⟩:=h1;rw[hv,Sr h2];rfl
theorem Ss{S:MS}:∀(l:List Span),AB S (l.map Ce) (l.map Jb)
 |[]=>rfl
 |x::l=>⟨_,_,rfl,⟨_,rfl,_,_,rfl,rfl,_,_,rfl,rfl,rfl⟩,Ss l⟩
theorem Tt(d:Array Span)(i j:Nat)(hi:i<d.size)(hj:j<2):(flatK Q1 2 d)[i * 2+j]! = (Q1 d[i]!)[j]! := by
 rw[get_flatK _ _ _ _ om,show (i * 2+j) / 2=i from by omega,show (i * 2+j) % 2=j from by omega]
theorem zgt{w:World}{b:Nat}{cells:Array Value}{T:TypeId}{l:List Span}(hb:w.heap[b]? = some (.cells cells T (0,0))){vr:List Value}(hf:Hg cells 2 (l.map Jb++vr)):HoldsK Q1 2 w b 0 l.toArray:=by
 intro j hj;rw[size_flatK,BN] at hj;have hi:j / 2<l.length:=om
 have he:(l.map Jb++vr)[j / 2]? = some (Jb l[j / 2]):=by rw[A9 (by simpa using hi)];simp[hi]
 obtain⟨_,_,h3⟩:=hf _ _ he;have h4:=h3 (j % 2) om;rw[show j / 2 * 2+j % 2=j from by omega] at h4;have h5:=Tt l.toArray (j / 2) (j % 2) (by simpa using hi) om;rw[show j / 2 * 2+j % 2=j from by omega] at h5;refine⟨?_,?_⟩
 ·simp only[World.cell?,hb,AY,Option.isSome_none,A8,Bq,h4,id,h5]
  have hg:l.toArray[j / 2]! = l[j / 2]:=by simp[hi]
  rw[hg];rcases Nat.mod_two_eq_zero_or_one j with h|h<;>rw[h]<;>simp[Jb,Value.cells,Q1]
 ·simp[World.frozen?,hb]
theorem zp0{w:World}{b n:Nat}{cells:Array Value}{T:TypeId}{d:Array Span}{os:Array Obj}(hb:w.heap[b]? = some (.cells cells T (0,0)))(hsz:d.size * 2<=cells.size){v0 vr:List Value}(h0:v0.length=d.size)(hf:Hg cells 2 (v0++vr)):
 ∃cells',(sortWorldK Q1 2 w b 0 n d os).heap[b]? = some (.cells cells' T (0,0))/\cells'.size=cells.size/\Hg cells' 2 (d.toList.map Jb++vr):=by
 have hlt:b<w.heap.size:=(AU.1 hb).1;refine⟨putCells id 0 (flatK Q1 2 d) cells,?_,by simp[putCells],λi v hv=>?_⟩
 ·show ((w.heap.modify b _)++os)[b]? = _
  rw[B2 (by rw[Ci];exact hlt),C2,Ae rfl,hb];rfl
 ·rcases Aj i d.size with hid|hid
  case inr =>
   rw[AG (by simpa using hid)] at hv;obtain⟨g1,g2,g3⟩:=hf i v (by rw[AG om,h0];simpa using hv);refine⟨g1,g2,λj hj=>?_⟩;rw[<-g3 j hj,putCells,Ev];cases hc:cells[i * 2+j]? with
   |none=>rfl
   |some c =>
    simp only[Option.map_some,Ap,Dz,AY,size_flatK];rw[Ad om]
  rw[A9 (by simpa using hid),Df] at hv;obtain⟨x,hx,rfl⟩:=Ag.1 hv;have hi:i<d.size:=by have:=(Bh.1 hx).1;simpa using this
  refine⟨rfl,λc hc=>?_,λj hj=>?_⟩
  ·simp[Jb,Value.cells] at hc
   rcases hc with rfl|rfl<;>rfl
  ·have h5:=Tt d i j hi hj
   have hlt2:i * 2+j<cells.size:=om
   have hd:d[i]! = x:=by
    rw[D2] at hx;rw[getElem!_pos d i hi];exact (AU.1 hx).2
   rw[putCells,Ev,D7 hlt2];simp only[Option.map_some,Ap,Dz,AY,size_flatK,Nat.sub_zero];rw[Ae om,h5,hd];rcases (by omega:j=0\/j=1) with rfl|rfl<;>simp[Jb,Value.cells,Q1]
def MM(l:List Span):Prop:=l.Pairwise λa b=>a.lo<=b.lo
theorem zaf{d:Array Span}(h:SortedIn (ltOf Wk) 0 d.size d):MM d.toList:=by
 rw[MM,D8];intro i j hi hj hij;have hi':i<d.size:=by simpa using hi
 have hj':j<d.size:=by simpa using hj
 have:=h i j (Ap _) hij hj';rw[ltLo,getElem!_pos d j hj',getElem!_pos d i hi'] at this;simp at this;simpa using this
theorem zp1{H:A4}{g ver:Nat}{ex:Bool}{l:List Span}{rest:List AV}(hg:g<H.n)(hG:H.at_ g=⟨2,ver,ex,l.map Ce++rest⟩)(h1:l≠[])(hl:l.length<4611686018427387904):
 B9 Tryz.prog 169 [.ref g ver 0 l.length,.fn 170 []] H λy H'=>y=.tup []/\∃l':List Span,l'.Perm l/\MM l'/\H'=H.set g ⟨2,ver,ex,l'.map Ce++rest⟩:=by
 have eg:∀args w,(callFunc 170 args).run Tryz.prog w=.ok (.enter 170 args) w:=enters_of Tryz.func170 (by kernel_rfl) rfl;refine⟨enters_of Tryz.func169 (by kernel_rfl) rfl,λS cargs hS hx=>?_⟩;obtain⟨v1,r1,rfl,⟨_,hgn,_,hv1⟩,v2,r2,rfl,⟨lb,rfl,rfl⟩,rfl⟩:=hx;have hgr:=hS.grp g hg;rw[hG] at hgr;obtain⟨a,cap',rfl,hcase⟩:=hv1 hgr.ver;have hpos:0<l.length:=by cases l;exact absurd rfl h1;simp
 obtain⟨rfl,rfl,hcap⟩:=hcase.resolve_right (λh=>by omega);have hlen:l.length+rest.length<=S.cap g:=by have:=hgr.len (show 0<2 by decide);simpa using this
 obtain⟨⟨cells,T,vs,b1,b2,b3,b4⟩,hni⟩:=hgr.live (show 0<2 by decide) om;obtain⟨vs1,vr,hvv,b31,b32⟩:=AB.split b3;have hvs:=Sr b31;subst hvs;subst hvv;have b2':cells.size=S.cap g * 2:=b2;have hblk:S.place g<S.w.heap.size:=(AU.1 b1).1;have hcon:=AnyQ.slices_SortFunc Tryz.sortSp 2 zue zoz Q1 (λ_=>rfl) (λx v hv=>by simp[Q1] at hv;rcases hv with rfl|rfl<;>rfl) Wk swoLo 170 #[] (S.place g) 0 (S.cap g-0) l.toArray S.w eg (z4z _ _ _ _) (zgt b1 b4) hblk (by simpa using hl);change Calls Tryz.prog 169 _ _ _ at hcon;rw[BN] at hcon;rw[Ft];refine hcon.mono λe w' ⟨he,d',n,os,hp,hs,hw'⟩=>?_;subst he hw';obtain⟨q1,q2,q3⟩:=hp;have q1:d'.size=l.length:=by simpa using q1
 have hperm:d'.toList.Perm l:=by
  rw[CU,CU] at q3;simpa [List.extract,q1,Ay (show d'.toList.length<=l.length by simp[q1])] using q3
 rw[<-q1] at hs;obtain⟨cells',c1,c2,c3⟩:=zp0 (n:=n) (d:=d') (os:=os) b1 om (v0:=l.map Jb) (by simp[q1]) b4
 have hh:=hS.moved hg (by rw[hG];exact (show 0<2 by decide)) (sortWorldK Q1 2 S.w (S.place g) 0 n d' os) (S.place g) (S.cap g) ⟨2,ver,ex,d'.toList.map Ce++rest⟩ rfl ⟨rfl,EM _ _⟩ rfl
  (by show _<=((S.w.heap.modify _ _)++os).size;rw[Fu,Ci];omega)
  (λb hb hlt=>by
   show ((S.w.heap.modify _ _)++os)[b]? = _
   rw[B2 (by rw[Ci];exact hlt),C2,Ad (λhh=>hb ⟨om,hh.symm⟩)])
  (.inl ⟨om,rfl⟩) (λ_=>⟨cells',T,_,c1,by rw[c2];exact b2',(Ss _).append b32,c3⟩) (by simpa [q1] using hlen)
  (λhx=>by have:=hgr.full (show 0<2 by decide) hx;simp at this;simp[q1];exact this) (show 0<2 by decide) (by rw[hgr.ver];exact Ab _) (λ_=>⟨rfl,rfl,by rw[hgr.wid]⟩)
 exact⟨_,_,.tup [],_,rfl,rfl,hh.1,hh.2,⟨[],rfl,rfl⟩,rfl,d'.toList,hperm,zaf hs,rfl⟩
theorem zgu{l:List Span}{k:Nat}(h:k<l.length):inN (l.take (k+1))=inN (l.take k)++(if (LY (nth l k)).lo<=(LY (nth l k)).hi then [LY (nth l k)] else []):=by
 rw[take_at h,inN,inN,Aw,BZ];congr 1;simp only[AD,AX,BV,List.filter_nil,Ah]
theorem zgv(m r:List Span)(hm:m.length<4611686018427387904):B9 Tryz.prog 169 [.ref 0 1 0 m.length,.fn 170 []] (Abs.hl [⟨2,1,true,(m++r).map Ce⟩]) λy H'=>y=.tup []/\∃m':List Span,m'.Perm m/\MM m'/\H'=Abs.hl [⟨2,1,true,(m'++r).map Ce⟩]:=by
 by_cases h:m=[]
 ·subst h
  refine (sort0 r).mono ?_;rintro y H' ⟨rfl,rfl⟩;exact⟨rfl,[],List.Perm.refl _,List.Pairwise.nil,rfl⟩
 ·refine (zp1 (H:=Abs.hl [⟨2,1,true,(m++r).map Ce⟩]) (g:=0) (ver:=1) (ex:=true) (l:=m) (rest:=r.map Ce) (by show 0<1;decide) (by rw[<-Aw];rfl) h hm).mono ?_
  rintro y H' ⟨rfl,m',h1,h2,rfl⟩;refine⟨rfl,m',h1,h2,?_⟩;rw[IJ _ _ _ (by show 0<1;decide),<-Aw];rfl
abbrev zgw:Span:=⟨0,0⟩
def Q2(m:List Span)(n:Nat):List Span:=m++List.replicate (n-m.length) zgw
theorem zag{m:List Span}{n:Nat}(h:m.length<=n):(Q2 m n).length=n:=by simp[Q2];omega
theorem zah{m:List Span}{n:Nat}(h:m.length<n)(s:Span):(Q2 m n).take m.length++[s]++(Q2 m n).drop (m.length+1)=Q2 (m++[s]) n:=by
 simp only[Q2];rw[CR (Ab _),As,List.drop_append,Ao om,List.nil_append,show m.length+1-m.length=1 from by omega,List.drop_replicate];simp only[Ai,List.length_singleton,Nat.sub_sub]
def mixS(out s:List Span):List Span:=out++s.drop out.length
theorem zgx{out s:List Span}(h:out.length<=s.length):(mixS out s).length=s.length:=by simp[mixS];omega
theorem zgy{out s:List Span}(h:out.length<s.length)(x:Span):(mixS out s).take out.length++[x]++(mixS out s).drop (out.length+1)=mixS (out++[x]) s:=by
 simp only[mixS];rw[CR (Ab _),As,List.drop_append,Ao om,List.nil_append,show out.length+1-out.length=1 from by omega,Fw];simp
theorem zp2{out s:List Span}{j:Nat}(h1:out.length<=j):nth (mixS out s) j=nth s j:=by
 simp only[nth,mixS,Ak];rw[AG h1,Cf,show out.length+(j-out.length)=j from by omega]
theorem zai{mm s:List Span}{y:Span}:nth (mixS (mm++[y]) s) mm.length=y:=by
 simp[nth,mixS,Ak]
theorem z0o(s:List Span):mixS [] s=s:=by simp[mixS]
theorem zgz{mm s:List Span}{y z:Span}:((mixS (mm++[y]) s).map Ce).set mm.length (Ce z)=(mixS (mm++[z]) s).map Ce:=by
 simp[mixS]
theorem Y2{l m:List Span}(hp:m.Perm (inN l))(hs:MM m)(j:Nat):∀s∈(m.take j).foldl F1 [],-1073741824<=s.lo/\s.lo<=s.hi/\s.hi<=1073741824:=by
 have hok:∀s∈m,s.lo<=s.hi:=λs h=>ZR s (hp.mem_iff.1 h);obtain⟨a1,a2⟩:=J0 (m.take j) [] ⟨oc,oc⟩ (λs h=>hok s (Be h)) (F4 (Gi j m) hs) (λs _ t ht=>by cases ht);intro s hsm;have hle:=a1.1 s hsm
 have key:∀v,memL ((m.take j).foldl F1 []) v->-1073741824<=v/\v<=1073741824:=λv hv=>by
  rcases (a2 v).1 hv with h|⟨t,ht,h1,h2⟩
  ·exact absurd h (BQ _)
  ·exact (z9e.1 ⟨t,hp.mem_iff.1 (Be ht),h1,h2⟩).2
 have k1:=key s.lo ⟨s,hsm,AE _,hle⟩;have k2:=key s.hi ⟨s,hsm,hle,AE _⟩;omega
theorem N9(l:List Span)(hl:l.length<=1000000000000):B9 Tryz.prog 144 [AA l] (Abs.hl []) λy H'=>∃rest:List Span,y=.ref 0 1 0 (AR l).length/\H'=Abs.hl [⟨2,1,true,(AR l++rest).map Ce⟩]:=by
 refine ZV (b:=0) Yl rfl ?_;unfold Qc;refine ywA ?_
 refine Ba (B7 (λ(k:Nat)=>k<=l.length) (λk=>l.length-k) (λk=>[(3,.ref 0 1 0 (inN (l.take k)).length),(13,AA l),(14,.int .i64 l.length),(15,.int .i64 k)])
  (λk=>[⟨2,1,true,(Q2 (inN (l.take k)) l.length).map Ce⟩]) (λenv _=>[D4 2 (env 3)]) 0 oc ?_ ?_)
 ·have h0:(List.replicate l.length (AV.agg [AV.int IntKind.i64 0,AV.int IntKind.i64 0]))=(Q2 [] l.length).map Ce:=by simp[Q2]
  have h1:inN ([]:List Span)=[]:=rfl;have f_:=Aa h0 (Aa h1 Cs);exact gwB
 intro k hk;have hlen:(inN (l.take k)).length<=k:=by have:=Yw (l.take k);simp at this;omega
 have hr:=zag (m:=inN (l.take k)) (n:=l.length) om;rcases Aj k l.length with hkl|hkl
 ·have hE:((Q2 (inN (l.take k)) l.length).map Ce).isEmpty=false:=by
   cases hq:Q2 (inN (l.take k)) l.length with
   |nil=>rw[hq] at hr;simp at hr;omega
   |cons _ _=>rfl
  have ht:=zgu hkl;refine W_T ?_;(with_reducible repeat'(first|simp(disch:=omega)only[push_cast,↓zz,seval,hr,hE]|refine sp_ ?_ ?_<;>try(intro hc;push_cast at hc)|omega|intro _))
  ·rw[Ae (show (LY (nth l k)).lo<=(LY (nth l k)).hi by assumption)] at ht
   refine⟨k+1,⟨⟨by rw[ht];simp,oc⟩,?_⟩,om,om⟩;rw[ht,<-zah (show (inN (l.take k)).length<l.length by omega) (LY (nth l k))];simp only[Aw,AD,AX,A3,List.singleton_append];exact AN _ _
  ·rw[Ad (show ¬(LY (nth l k)).lo<=(LY (nth l k)).hi by assumption),Ax] at ht
   refine⟨k+1,⟨⟨by rw[ht],oc⟩,?_⟩,om,om⟩;rw[ht];exact AN _ _
 ·obtain rfl:k=l.length:=om
  refine W_T ?_;have f_:=hr;refine ywB ?_;clear f_;rw[As] at *;refine B9.mono (zgv (inN l) (List.replicate (l.length-(inN l).length) zgw) om) ?_;rintro y H' ⟨rfl,m',hp,hs,rfl⟩;have hpl:=hp.length_eq;have hrl:(List.replicate (l.length-(inN l).length) zgw).length<=l.length:=oc
  generalize List.replicate (l.length-(inN l).length) zgw=rest at *;rw[<-zg5 hp hs,<-hpl];have hml:m'.length<=1000000000000:=by have:=Yw l;omega
  refine ywA ?_;have hfl:∀j,((m'.take j).foldl F1 []).length<=j:=λj=>by have:=TS (m'.take j) [];simp at this;omega
  have hmr:∀j,j<=m'.length->(mixS ((m'.take j).foldl F1 []) (m'++rest)).length=m'.length+rest.length:=λj hj=>by rw[zgx (by have:=hfl j;simp;omega)];simp
  refine Ba (B7 (λ(j:Nat)=>j<=m'.length) (λj=>m'.length-j) (λj=>[(6,.ref 0 1 0 ((m'.take j).foldl F1 []).length),(41,.ref 0 1 0 m'.length),(42,.int .i64 m'.length),(43,.int .i64 j)])
   (λj=>[⟨2,1,true,(mixS ((m'.take j).foldl F1 []) (m'++rest)).map Ce⟩]) (λenv _=>[D4 2 (env 6)]) 0 oc ?_ ?_)
  ·(with_reducible repeat'(first|simp(disch:=omega)only[push_cast,↓zz,seval,z0o,Cs,List.foldl_nil]|refine sp_ ?_ ?_<;>try(intro hc;push_cast at hc)|omega|intro _))
  intro j hj;have hlj:=hmr j hj;have hfj:=hfl j;rcases Aj j m'.length with hjm|hjm
  ·have hstep:(m'.take (j+1)).foldl F1 []=F1 ((m'.take j).foldl F1 []) (nth m' j):=by rw[take_at hjm,E2];rfl
   have hat:=zp2 (s:=m'++rest) hfj;have hat2:nth (m'++rest) j=nth m' j:=by simp[nth,Ak,A9 hjm]
   rw[hat2] at hat;have hbd:=Y2 hp hs j
   have hE:((mixS ((m'.take j).foldl F1 []) (m'++rest)).map Ce).isEmpty=false:=by
    cases hq:mixS ((m'.take j).foldl F1 []) (m'++rest) with
    |nil=>rw[hq] at hlj;simp at hlj;omega
    |cons _ _=>rfl
   generalize (m'.take j).foldl F1 []=out at *;rcases H0 out with rfl|⟨mm,y,rfl⟩
   ·refine W_T ?_
    have f_:=Aa hlj (Aa hat hE);refine ywB ?_;clear f_;refine⟨j+1,⟨⟨by rw[hstep];simp[Hz],oc⟩,?_⟩,om,om⟩;rw[hstep,Hz,z0o];exact AN _ _
   ·rw[LX] at hstep
    have hmm:mm.length+1<=j:=by simpa using hfj
    have hw:IntKind.i64.wrap (mm.length:Int)=mm.length:=IntWalk.i64_in _ om;have hy:=hbd y oc;have hwy:IntKind.i64.wrap (y.hi+1)=y.hi+1:=IntWalk.i64_in _ om;have hset:=zgz (mm:=mm) (s:=m'++rest) (y:=y) (z:=⟨y.lo,max y.hi (nth m' j).hi⟩);refine W_T ?_;(with_reducible repeat'(first|simp(disch:=omega)only[push_cast,↓zz,seval,hlj,hat,zai,hE,hw,hwy,hset,Cs]|refine sp_ ?_ ?_<;>try(intro hc;push_cast at hc)|omega|intro _))
    ·rw[Ae (show (nth m' j).lo<=y.hi+1 by first|assumption|omega)] at hstep
     refine⟨j+1,⟨⟨by rw[hstep];simp,oc⟩,?_⟩,om,om⟩;rw[hstep];exact AN _ _
    ·rw[Ad (show ¬(nth m' j).lo<=y.hi+1 by first|assumption|omega)] at hstep
     refine⟨j+1,⟨⟨by rw[hstep];simp,oc⟩,?_⟩,om,om⟩;rw[hstep,<-zgy (show (mm++[y]).length<(m'++rest).length by simp;omega) (nth m' j)];simp only[Aw,AD,AX,A3,List.singleton_append,Ai,List.length_singleton];exact AN _ _
  ·obtain rfl:j=m'.length:=om
   rw[As] at *;refine W_T ?_;have f_:=hlj;refine ywB ?_;clear f_;refine VO [.grp 0] (.ref 0 1 0 (m'.foldl F1 []).length) [⟨2,1,true,(m'.foldl F1 []++(m'++rest).drop (m'.foldl F1 []).length).map Ce⟩] ?_ ⟨_,rfl,rfl⟩;(with_reducible repeat'(first|simp(disch:=omega)only[push_cast,↓zz,seval]|refine sp_ ?_ ?_<;>try(intro hc;push_cast at hc)|omega|intro _))
   all_goals (rw[<-Aw];exact AN _ _)
theorem CE(l:List Span)(hl:l.length<=1000000000000):PC Tryz.prog 144 [AA l] (AA (AR l)):=by
 have h:B9 Tryz.prog 144 [AA l] (Abs.hl []) λy H'=>y=AA (AR l)/\H'=Abs.hl []:=by
  refine Qo ((N9 l hl).mono ?_);rintro y H' ⟨rest,rfl,rfl⟩;refine VO [] (AA (AR l)) [] ?_ ⟨rfl,rfl⟩;have ht:List.take (AR l).length ((AR l).map Ce++rest.map Ce)=(AR l).map Ce:=DF oc;have hn:(AR l).length<=(AR l).length+rest.length:=om
  have f_:=Aa ht hn;exact gwB
 rw[PC,P7];exact h
def Ii(x y:Span):Span:=⟨max x.lo y.lo,min x.hi y.hi⟩
def EN:List Span->List Span->List Span
 |x::a,y::b=>(if (Ii x y).lo<=(Ii x y).hi then [Ii x y] else [])++if x.hi<y.hi then EN a (y::b) else EN (x::a) b
 |_,_=>[]
termination_by a b=>a.length+b.length
theorem Jc(b:List Span):EN [] b=[]:=by rw[EN];simp
theorem IA(a:List Span):EN a []=[]:=by cases a<;>rw[EN]<;>simp
theorem NA(x y:Span)(a b:List Span):EN (x::a) (y::b)=(if (Ii x y).lo<=(Ii x y).hi then [Ii x y] else [])++if x.hi<y.hi then EN a (y::b) else EN (x::a) b:=by rw[EN]
theorem IB(a b:List Span)(la:a.length<=1000000000000)(lb:b.length<=1000000000000):PC Tryz.prog 172 [AA a,AA b] (AA (EN (AR a) (AR b))):=by
 refine Cd Yn ?_;unfold Qe;(with_reducible repeat'(first|simp(disch:=omega)only[push_cast,↓zz,seval]|refine sp_ ?_ ?_<;>try(intro hc;push_cast at hc)|(have q_:=CE a la;refine ee q_ ?_;clear q_)|(have q_:=CE b lb;refine ee q_ ?_;clear q_)|(have q_:=CE a la;refine cc q_ ?_;clear q_;simp(disch:=omega)only[push_cast,↓zz,seval];fail_if_success change False)|(have q_:=CE b lb;refine cc q_ ?_;clear q_;simp(disch:=omega)only[push_cast,↓zz,seval];fail_if_success change False)|omega|intro _));have ha:=En a;have hb:=En b;generalize AR a=a0 at *;generalize AR b=b0 at *
 refine Ba (B7 (λ(s:List Span × List Span × List Span)=>EN a0 b0=s.2.2++EN s.1 s.2.1/\s.1.length+s.2.1.length+s.2.2.length<=a0.length+b0.length) (λs=>s.1.length+s.2.1.length)
  (λs=>[(0,AA s.1),(1,AA s.2.1),(5,.ref 0 1 0 s.2.2.length)]) (λs=>[⟨2,1,false,s.2.2.map Ce⟩]) (λenv _=>[D4 2 (env 5)]) (a0,b0,[]) oc ?_ ?_)
 ·exact gwA
 rintro⟨a',b',out⟩ ⟨h1,h2⟩;simp only at h1 h2;cases a' with
 |nil =>
  rw[Jc,Ax] at h1;rw[h1];refine W_T ?_;exact gwA
 |cons x a' =>
  cases b' with
  |nil =>
   rw[IA,Ax] at h1;rw[h1];refine W_T ?_;exact gwA
  |cons y b' =>
   rw[NA] at h1;simp only[List.length_cons] at h2;refine W_T ?_;(with_reducible repeat'(first|simp(disch:=omega)only[push_cast,↓zz,seval,AA,Ce]|refine sp_ ?_ ?_<;>try(intro hc;push_cast at hc)|omega|intro _))
   ·rw[Ae (show (Ii x y).lo<=(Ii x y).hi from ‹max x.lo y.lo<=min x.hi y.hi›),Ae hc] at h1
    refine⟨(a',y::b',out++[Ii x y]),⟨⟨rfl,rfl,oc⟩,?_⟩,⟨by simp[h1],by first|(simp;done)|(simp;omega)⟩,oc⟩;rw[Aw];exact AN _ _
   ·rw[Ae (show (Ii x y).lo<=(Ii x y).hi from ‹max x.lo y.lo<=min x.hi y.hi›),Ad hc] at h1
    refine⟨(x::a',b',out++[Ii x y]),⟨⟨rfl,rfl,oc⟩,?_⟩,⟨by simp[h1],by first|(simp;done)|(simp;omega)⟩,by first|(simp;done)|(simp;omega)⟩;rw[Aw];exact AN _ _
   ·rw[Ad (show ¬(Ii x y).lo<=(Ii x y).hi from ‹¬max x.lo y.lo<=min x.hi y.hi›),Ae hc,List.nil_append] at h1
    refine⟨(a',y::b',out),⟨⟨rfl,rfl,rfl⟩,AN _ _⟩,⟨h1,by first|(simp;done)|(simp;omega)⟩,oc⟩
   ·rw[Ad (show ¬(Ii x y).lo<=(Ii x y).hi from ‹¬max x.lo y.lo<=min x.hi y.hi›),Ad hc,List.nil_append] at h1
    refine⟨(x::a',b',out),⟨⟨rfl,rfl,rfl⟩,AN _ _⟩,⟨h1,by first|(simp;done)|(simp;omega)⟩,by first|(simp;done)|(simp;omega)⟩
theorem HI:∀(a b:List Span),Plain a->Plain b->Plain (EN a b)/\∀v,memL (EN a b) v↔memL a v/\memL b v
 |[],b,_,_=>by
  rw[Jc];exact⟨⟨oc,oc⟩,λv=>by simp only[BQ,false_and]⟩
 |x::a,[],_,_=>by
  rw[IA];exact⟨⟨oc,oc⟩,λv=>by simp only[BQ,and_false]⟩
 |x::a,y::b,ha,hb=>by
  have hx:=ha.head;have hy:=hb.head;rw[NA]
  -- what the rest has,begins behind what ends first
  have key:∀{r:List Span},Plain r->(∀v,memL r v->min x.hi y.hi+1<v)->Plain ((if (Ii x y).lo<=(Ii x y).hi then [Ii x y] else [])++r)/\∀v,memL ((if (Ii x y).lo<=(Ii x y).hi then [Ii x y] else [])++r) v↔((x.lo<=v/\v<=x.hi)/\(y.lo<=v/\v<=y.hi))\/memL r v:=by
   intro r hr hv;split
   ·rename_i hle
    refine⟨⟨?_,?_⟩,λv=>?_⟩
    ·intro s hs
     rcases Av.1 hs with hs|hs
     ·simp only[Am] at hs;subst hs;exact hle
     ·exact hr.1 s hs
    ·rw[List.singleton_append,AH]
     exact⟨λt ht=>hv t.lo ⟨t,ht,AE _,hr.1 t ht⟩,hr.2⟩
    ·rw[List.singleton_append,Bs]
     simp only[Ii];constructor
     ·rintro (h|h)
      ·exact .inl om
      ·exact .inr h
     ·rintro (h|h)
      ·exact .inl om
      ·exact .inr h
   ·rename_i hle
    simp only[Ii] at hle;rw[List.nil_append];refine⟨hr,λv=>⟨.inr,λh=>h.resolve_left λh=>by omega⟩⟩
  by_cases hlt:x.hi<y.hi
  ·rw[Ae hlt]
   obtain⟨p1,p2⟩:=HI a (y::b) ha.tail hb;obtain⟨q1,q2⟩:=key p1 λv hv=>by have:=ha.after ((p2 v).1 hv).1;omega
   refine⟨q1,λv=>?_⟩;rw[q2 v,p2 v,Bs,Bs];constructor
   ·rintro (⟨h1,h2⟩|⟨h1,h2⟩)
    ·exact⟨.inl h1,.inl h2⟩
    ·exact⟨.inr h1,h2⟩
   ·rintro⟨h1|h1,h2⟩
    ·rcases h2 with h2|h2
     ·exact .inl ⟨h1,h2⟩
     ·have:=hb.after h2;omega
    ·exact .inr ⟨h1,h2⟩
  ·rw[Ad hlt]
   obtain⟨p1,p2⟩:=HI (x::a) b ha hb.tail;obtain⟨q1,q2⟩:=key p1 λv hv=>by have:=hb.after ((p2 v).1 hv).2;omega
   refine⟨q1,λv=>?_⟩;rw[q2 v,p2 v,Bs,Bs];constructor
   ·rintro (⟨h1,h2⟩|⟨h1,h2⟩)
    ·exact⟨.inl h1,.inl h2⟩
    ·exact⟨h1,.inr h2⟩
   ·rintro⟨h1,h2|h2⟩
    ·rcases h1 with h1|h1
     ·exact .inl ⟨h1,h2⟩
     ·have:=ha.after h1;omega
    ·exact .inr ⟨h1,h2⟩
termination_by a b=>a.length+b.length
theorem E6(l:List Span):∀s∈AR l,-1073741824<=s.lo/\s.lo<=s.hi/\s.hi<=1073741824:=by
 obtain⟨h1,h2⟩:=Bo l;intro s hs;have hle:=h1.1 s hs;have k1:=((h2 s.lo).1 ⟨s,hs,AE _,hle⟩).2;have k2:=((h2 s.hi).1 ⟨s,hs,hle,AE _⟩).2;omega
def NB:Int->List Span->List Span
 |f,[]=>[⟨f,1073741824⟩]
 |f,x::l=>⟨f,x.lo-1⟩::NB (x.hi+1) l
theorem Wl:∀(l:List Span)(f:Int),(NB f l).length=l.length+1
 |[],f=>rfl
 |x::l,f=>by rw[NB,List.length_cons,Wl l];rfl
theorem Wm:∀(l:List Span)(f:Int),Plain l->(∀s∈l,f<=s.lo/\s.hi<=1073741824)->∀v,memL (NB f l) v↔f<=v/\v<=1073741824/\¬memL l v
 |[],f,_,_,v=>by
  rw[NB,Bs];simp only[BQ,A7,AT,GV]
 |x::l,f,h,hb,v=>by
  have hx:=h.head;have hxb:=hb x oc;rw[NB,Bs,Wm l (x.hi+1) h.tail (λs hs=>⟨by have:=(AH.1 h.2).1 s hs;omega,(hb s (by simp[hs])).2⟩) v,Bs];have ha:memL l v->x.hi+1<v:=λhv=>h.after hv;dsimp only;constructor
  ·rintro (h1|⟨h1,h2,h3⟩)
   ·exact⟨h1.1,om,λhh=>hh.elim (λhh=>by omega) (λhh=>by have:=ha hh;omega)⟩
   ·exact⟨om,h2,λhh=>hh.elim (λhh=>by omega) h3⟩
  ·rintro⟨h1,h2,h3⟩
   rcases Ee v x.lo with hlt|hge
   ·exact .inl ⟨h1,om⟩
   ·refine .inr ⟨?_,h2,λhh=>h3 (.inr hh)⟩
    rcases Ee x.hi v with hlt2|hge2
    ·omega
    ·exact absurd (.inl ⟨hge,hge2⟩) h3
def Hs(a b:List Span):List Span:=EN (AR a) (AR (NB (-1073741824) (AR b)))
theorem Su(a b:List Span):Plain (Hs a b)/\∀v,memL (Hs a b) v↔memL a v/\(-1073741824<=v/\v<=1073741824)/\¬memL b v:=by
 obtain⟨a1,a2⟩:=Bo a;obtain⟨b1,b2⟩:=Bo b;obtain⟨g1,g2⟩:=Bo (NB (-1073741824) (AR b));obtain⟨m1,m2⟩:=HI _ _ a1 g1;refine⟨m1,λv=>?_⟩;rw[Hs,m2 v,a2 v,g2 v,Wm _ _ b1 (λs hs=>by have:=E6 b s hs;omega) v,b2 v];constructor
 ·rintro⟨⟨h1,h2⟩,⟨h3,h4,h5⟩,h6⟩
  exact⟨h1,h2,λh=>h5 ⟨h,h2⟩⟩
 ·rintro⟨h1,h2,h3⟩
  exact⟨⟨h1,h2⟩,⟨h2.1,h2.2,λh=>h3 h.1⟩,h2⟩
theorem Sv(a b:List Span)(la:a.length<=100000000000)(lb:b.length<=100000000000):PC Tryz.prog 145 [AA a,AA b] (AA (Hs a b)):=by
 refine Cd VC ?_;unfold Om;(with_reducible repeat'(first|simp(disch:=omega)only[push_cast,↓zz,seval]|refine sp_ ?_ ?_<;>try(intro hc;push_cast at hc)|(have q_:=CE b om;refine ee q_ ?_;clear q_)|(have q_:=CE b om;refine cc q_ ?_;clear q_;simp(disch:=omega)only[push_cast,↓zz,seval];fail_if_success change False)|omega|intro _));have hb:=En b;have hbd:=E6 b;have hgl:=Wl (AR b) (-1073741824);have hmeet:=IB a (NB (-1073741824) (AR b)) om om;rw[<-Hs] at hmeet;generalize AR b=b0 at *
 refine Ba (B7 (λ(s:Nat × Int × List Span)=>s.1<=b0.length/\s.2.2.length=s.1/\(-1073741824<=s.2.1/\s.2.1<=1073741825)/\NB (-1073741824) b0=s.2.2++NB s.2.1 (b0.drop s.1)) (λs=>b0.length-s.1)
  (λs=>[(0,AA a),(5,.ref 0 1 0 s.2.2.length),(6,.int .i64 s.2.1),(10,AA b0),(11,.int .i64 b0.length),(12,.int .i64 s.1)]) (λs=>[⟨2,1,false,s.2.2.map Ce⟩]) (λenv _=>[D4 2 (env 5)]) (0,-1073741824,[]) oc ?_ ?_)
 ·exact gwA
 rintro⟨k,f,out⟩ ⟨h1,h2,h3,h4⟩;simp only at h1 h2 h3 h4;rcases Aj k b0.length with hk|hk
 ·have hx:=hbd _ (Bi hk)
  rw[drop_at hk,NB] at h4;have w1:IntKind.i64.wrap ((nth b0 k).lo-1)=(nth b0 k).lo-1:=IntWalk.i64_in _ om;have w2:IntKind.i64.wrap ((nth b0 k).hi+1)=(nth b0 k).hi+1:=IntWalk.i64_in _ om;refine W_T ?_;have f_:=Aa w1 w2;refine ywB ?_;clear f_;refine⟨(k+1,(nth b0 k).hi+1,out++[⟨f,(nth b0 k).lo-1⟩]),⟨⟨oc,rfl,oc⟩,?_⟩,⟨om,by simp[h2],by simp only;omega,by simp[h4]⟩,om⟩;rw[Aw];exact AN _ _
 ·obtain rfl:k=b0.length:=om
  rw[Ao (Ab _),NB] at h4;rw[h4] at hmeet
  have htk:List.take (out.length+1) (out.map Ce++[AV.agg [.int .i64 f,.int .i64 1073741824]])=(out++[(⟨f,1073741824⟩:Span)]).map Ce:=by
   rw[Ay oc,Aw];rfl
  refine W_T ?_;(with_reducible repeat'(first|simp(disch:=omega)only[push_cast,↓zz,seval,AA,DC,htk,Cs]|refine sp_ ?_ ?_<;>try(intro hc;push_cast at hc)|refine ee hmeet ?_|(refine cc hmeet ?_;simp(disch:=omega)only[push_cast,↓zz,seval,AA,DC,htk,Cs];fail_if_success change False)|omega|intro _))
theorem Mc(a b:List Span)(la:a.length<=100000000000)(lb:b.length<=100000000000):PC Tryz.prog 116 [AA a,AA b] (.bool (decide (Hs a b=[]))):=by
 refine Cd TN ?_;unfold MC;(with_reducible repeat'(first|simp(disch:=omega)only[push_cast,↓zz,seval]|refine sp_ ?_ ?_<;>try(intro hc;push_cast at hc)|(have q_:=Sv a b la lb;refine ee q_ ?_;clear q_)|(have q_:=Sv a b la lb;refine cc q_ ?_;clear q_;simp(disch:=omega)only[push_cast,↓zz,seval];fail_if_success change False)|omega|intro _))
 all_goals (rw[Dv];exact⟨λh=>Az om,λh=>by rw[h];rfl⟩)
theorem TI_w{I:Itr}{n:Nat}{s:Option Nat}{env:Env}{H:A4}{Q:Option Nat->Ex->Env->A4->Prop}{ops:List AOp}{P:Program}(hP:I.P=P)(h:W P n 0 (.reg ops) env H (Q s)):TI I n (.reg ops) s env H Q:=zu0 (by
 rw[hP];rw[W] at h
 first|exact h|rwa [Ls] at h|(simpa only[Ls] using h))
theorem Y3{I:Itr}{n:Nat}{s:Option Nat}{env:Env}{H:A4}{Q Q':Option Nat->Ex->Env->A4->Prop}{c:AC}(h:TI I n c s env H Q)(hq:∀s x e H,Q s x e H->Q' s x e H):TI I n c s env H Q' :=
 λcode hc S a X hN hF hd=>wpIn_mono (h code hc S a X hN hF hd) λe a w hh=>by
  obtain⟨S',env',H',x,s',X',h1,h2,h3,h4,h5,h6⟩:=hh;exact⟨S',env',H',x,s',X',h1,h2,h3,h4,h5,hq _ _ _ _ h6⟩
def MN:AC->Bool
 |.skip|.reg _|.exit _|.ret=>true
 |.seq x y=>MN x&&MN y
 |.cond _ x y=>MN x&&MN y
 |.block _ c=>MN c
 |_=>false
theorem TI_W{I:Itr}{n:Nat}{P:Program}(hP:I.P=P):∀{c:AC}{s:Option Nat}{env:Env}{H:A4}{Q:Ex->Env->A4->Prop},MN c=true->W P n 0 c env H Q->TI I n c s env H (λs' x e H'=>s'=s/\Q x e H')
 |.skip,s,env,H,Q,_,h=>zom ⟨rfl,h⟩
 |.exit id,s,env,H,Q,_,h=>zon ⟨rfl,h⟩
 |.ret,s,env,H,Q,_,h=>ztz ⟨rfl,h⟩
 |.reg ops,s,env,H,Q,_,h=>TI_w (Q:=λs' x e H'=>s'=s/\Q x e H') hP (by
  have h':wk P ops env H _:=h;show wk P ops env H (λe H'=>s=s/\Q .normal e H');have e:(λ(e:Env) (H':A4)=>s=s/\Q .normal e H')=λe H'=>Q .normal e H':=by funext e H';simp
  rw[e]
  exact h')
 |.seq x y,s,env,H,Q,hc,h=>by
  simp only[MN,Ac] at hc;refine Hr (Y3 (TI_W hP (c:=x) hc.1 h) λs' z e H' hh=>?_);obtain⟨rfl,hh⟩:=hh;cases z with
  |normal=>exact TI_W hP (c:=y) hc.2 hh
  |exit id=>exact⟨rfl,hh⟩
  |ret=>exact⟨rfl,hh⟩
 |.cond c x y,s,env,H,Q,hc,h=>by
  simp only[MN,Ac] at hc;have h':XO (c.eval env) (W P n 0 x env H Q) (W P n 0 y env H Q):=h;unfold XO at h';split at h'
  ·rename_i q hq;exact zoo hq (λhb=>TI_W hP hc.1 (h'.1 hb)) (λhb=>TI_W hP hc.2 (h'.2 hb))
  ·exact h'.elim
 |.block id c,s,env,H,Q,hc,h=>by
  refine Ig (Y3 (TI_W hP (c:=c) hc h) λs' z e H' hh=>?_);obtain⟨rfl,hh⟩:=hh;cases z with
  |normal=>exact⟨rfl,hh⟩
  |ret=>exact⟨rfl,hh⟩
  |exit k =>
   simp only[Ex.inBlock,Ex.inBlockI] at hh ⊢;split<;>rename_i hk
   ·rw[Ae hk] at hh;exact⟨oy,hh⟩
   ·rw[Ad hk] at hh;exact⟨oy,hh⟩
theorem TI_v{I:Itr}{n:Nat}{P:Program}{c:AC}{s:Option Nat}{env:Env}{H:A4}{Q:Option Nat->Ex->Env->A4->Prop}(hP:I.P=P)(hc:MN c=true)(h:W P n 0 c env H (Q s)):TI I n c s env H Q :=
 Y3 (TI_W hP hc h) λs' x e H' hh=>by
  obtain⟨rfl,hh⟩:=hh;exact hh
theorem Wn:∀(live:List (Nat × AV))(i:Nat),BO live i=.any\/(i,BO live i)∈live:=by
 intro live i
 induction live with
 |nil=>exact .inl rfl
 |cons p l ih =>
  obtain⟨t,x⟩:=p;show (if i=t then x else BO l i)=.any\/(i,if i=t then x else BO l i)∈(t,x)::l;split
  ·rename_i h;subst h;exact .inr oc
  ·rcases ih with h|h
   ·exact .inl h
   ·exact .inr (by simp[h])
theorem zuf{I:Itr}{n:Nat}{s:Option Nat}{env:Env}{H:A4}{Q:Option Nat->Ex->Env->A4->Prop}{c:AC}{live:List (Nat × AV)}(hl:∀p∈live,env p.1=p.2)(h:TI I n c s (BO live) H Q):TI I n c s env H Q :=
 λcode hc S a X hN hF hd=>h code hc S a X hN ⟨hF.size,hF.defers,λi hi=>by
  rcases Wn live i with he|he
  ·rw[he];trivial
  ·have:=hl _ he
   simp only at this;rw[<-this]
   exact hF.val i hi⟩ hd
theorem Y4{I:Itr}{n:Nat}{s:Option Nat}{env:Env}{H:A4}{Q:Option Nat->Ex->Env->A4->Prop}{c:AC}{live:List (Nat × AV)}(hl:∀p∈live,env p.1=p.2/\p.2.pure=true)(h:TI I n c s (BO live) (Abs.hl []) Q):TI I n c s env H Q :=
 λcode hc S a X hN hF hd=>by
  have hN':I.Now s X { S with n:=0 } (Abs.hl []):=⟨⟨rfl,λg hg=>absurd hg (AZ _),λg _ hg=>absurd hg (AZ _),hN.rel.im⟩,hN.base,hN.keep,hN.im,hN.apart,hN.st⟩;refine h code hc { S with n:=0 } a X hN' ⟨hF.size,by rw[hd];exact Marks.nil hN.base,λi hi=>?_⟩ hd;rcases Wn live i with he|he
  ·rw[he];trivial
  ·obtain⟨h1,h2⟩:=hl _ he
   simp only at h1 h2;have hv:=hF.val i hi;rw[h1] at hv;exact VRel.of_pure (S:=S) (S':={ S with n:=0 }) rfl (λ_ h=>h) h2 hv
def IC(lo:Int)(n:Nat):List Int:=(List.range n).map λ(i:Nat)=>lo+(i:Int)
def Dx(l:List Span):List Int:=l.flatMap λs=>IC s.lo (s.hi+1-s.lo).toNat
theorem J3(l:List Span)(hl:l.length<=1000000000000)(hb:∀s∈l,-1073741824<=s.lo/\s.lo<=s.hi/\s.hi<=1073741824):Qn Tryz.prog 232 [.cptr (AA l)] ((Dx l).map λx=>[.int .i64 x]):=by
 refine Yx TQ λI hP hr=>?_;show TI I 25 JP _ _ _ _;unfold JP;refine Hr (TI_v hP (by rfl) ?_);refine ywA ?_;refine (Ig (TW (λ(t:Nat) s env H=>t<=l.length/\s=some (Dx (l.take t)).length/\∀p∈[(0,AV.yld I.l),(6,AA l),(7,AV.int .i64 l.length),(8,AV.int .i64 t)],env p.1=p.2) (λt=>l.length-t) 0 ?_ ?_):TI I 25 _ _ _ _ _)
 ·refine⟨Ap _,by simp[Dx],?_⟩
  simp only[Af,An,A7,B6,Cr];exact⟨rfl,rfl,rfl,rfl⟩
 rintro t s env H ⟨ht,rfl,hlv⟩;refine Y4 (live:=[(0,AV.yld I.l),(6,AA l),(7,AV.int .i64 l.length),(8,AV.int .i64 t)]) (λp hp=>⟨hlv p hp,?_⟩) ?_
 ·simp only[Af,An,A7] at hp
  rcases hp with rfl|rfl|rfl|rfl<;>first|rfl|exact Cs l
 refine Hr (TI_v hP (by rfl) ?_);refine ywA ?_;refine (Hr ?_:TI I 25 _ _ _ _ _);refine TI_v hP (by rfl) ?_;(with_reducible repeat'(first|simp(disch:=omega)only[push_cast,↓zz,seval]|refine sp_ ?_ ?_<;>try(intro hc;push_cast at hc)|omega|intro _))
 ·refine (Hr (Ig (Hr ?_)):TI I 25 _ _ _ _ _)
  refine TI_v hP (by rfl) ?_;(with_reducible repeat'(first|simp(disch:=omega)only[push_cast,↓zz,seval]|refine sp_ ?_ ?_<;>try(intro hc;push_cast at hc)|omega|intro _));refine (Hr ?_:TI I 25 _ _ _ _ _);refine TI_v hP (by rfl) ?_;refine ywA ?_;have hs:=hb _ (Bi (l:=l) (i:=t) om)
  have hrow:∀i:Nat,(nth l t).lo+i<=(nth l t).hi->I.rows[(Dx (l.take t)).length+i]? = some [AV.int .i64 ((nth l t).lo+i)]:=λi hi=>by
   have e:Dx l=Dx (l.take t)++(IC (nth l t).lo ((nth l t).hi+1-(nth l t).lo).toNat++Dx (l.drop (t+1))):=by
    conv=>lhs;rw[<-D3 t l,drop_at (show t<l.length by omega)]
    simp[Dx]
   rw[hr,e,Df,AG om,Nat.add_sub_cancel_left,A9 (by simp[IC];omega)];simp only[IC,Df];rw[List.getElem?_range om];rfl
  have hend:(Dx (l.take (t+1))).length=(Dx (l.take t)).length+((nth l t).hi+1-(nth l t).lo).toNat:=by
   rw[take_at (show t<l.length by omega)];simp[Dx,IC]
  refine (Ig (TW (λ(i:Nat) s env H=>(nth l t).lo+i<=(nth l t).hi+1/\s=some ((Dx (l.take t)).length+i)/\H=Abs.hl [⟨2,1,true,[Ce (nth l t)]⟩]/\∀p∈[(0,AV.yld I.l),(4,AV.ptr 0 1 0 0),(5,AV.int .i64 ((nth l t).lo+i)),(6,AA l),(7,AV.int .i64 l.length),(8,AV.int .i64 t)],env p.1=p.2) (λi=>((nth l t).hi+1-(nth l t).lo).toNat-i) 0 ?_ ?_):TI I 25 _ _ _ _ _)
  ·refine⟨om,oc,rfl,?_⟩
   simp only[Af,An,A7,B6,Cr];refine⟨rfl,rfl,?_,rfl,rfl,rfl⟩;show AV.int .i64 (nth l t).lo=AV.int .i64 ((nth l t).lo+(0:Nat));simp
  rintro i s env H ⟨hi,rfl,rfl,hlv2⟩;refine zuf (live:=[(0,AV.yld I.l),(4,AV.ptr 0 1 0 0),(5,AV.int .i64 ((nth l t).lo+i)),(6,AA l),(7,AV.int .i64 l.length),(8,AV.int .i64 t)]) hlv2 ?_;refine Hr ?_;refine TI_v hP (by rfl) ?_;(with_reducible repeat'(first|simp(disch:=omega)only[push_cast,↓zz,seval]|refine sp_ ?_ ?_<;>try(intro hc;push_cast at hc)|omega|intro _))
  ·refine (Hr (Ig (Hr ?_)):TI I 25 _ _ _ _ _)
   refine TX (pre:=[_,_]) (post:=[_]) rfl rfl ?_;refine⟨[AV.int .i64 ((nth l t).lo+i)],rfl,?_,hrow i hc,?_,?_⟩
   ·intro x hx
    simp only[Am] at hx;subst hx;exact λS v hv=>hv
   ·rw[hP,<-Ls]
    (with_reducible repeat'(first|simp(disch:=omega)only[push_cast,↓zz,seval]|refine sp_ ?_ ?_<;>try(intro hc;push_cast at hc)|omega|intro _));refine (TI_v hP ?q1 ?_:TI I 25 _ _ _ _ _)
    case q1=>rfl
    (with_reducible repeat'(first|simp(disch:=omega)only[push_cast,↓zz,seval]|refine sp_ ?_ ?_<;>try(intro hc;push_cast at hc)|omega|intro _));refine (TI_v hP ?q2 ?_:TI I 25 _ _ _ _ _)
    case q2=>rfl
    (with_reducible repeat'(first|simp(disch:=omega)only[push_cast,↓zz,seval]|refine sp_ ?_ ?_<;>try(intro hc;push_cast at hc)|omega|intro _));refine⟨i+1,⟨om,by rw[Bu],rfl,rfl,rfl,?_,rfl,rfl,rfl⟩,om⟩;show AV.int .i64 ((nth l t).lo+(i:Int)+1)=AV.int .i64 ((nth l t).lo+((i+1:Nat):Int))
    all_goals first|rfl|(rw[AV.int.injEq];exact⟨rfl,om⟩)
   ·rw[hP,<-Ls]
    (with_reducible repeat'(first|simp(disch:=omega)only[push_cast,↓zz,seval]|refine sp_ ?_ ?_<;>try(intro hc;push_cast at hc)|omega|intro _));refine (TI_v hP ?q3 ?_:TI I 25 _ _ _ _ _)
    case q3=>rfl
    (with_reducible repeat'(first|simp(disch:=omega)only[push_cast,↓zz,seval]|refine sp_ ?_ ?_<;>try(intro hc;push_cast at hc)|omega|intro _));exact⟨oy,.inr rfl⟩
  ·refine (TI_v hP ?q4 ?_:TI I 25 _ _ _ _ _)
   case q4=>rfl
   refine ywA ?_;refine⟨t+1,⟨om,?_,rfl,rfl,rfl,?_⟩,om⟩
   ·first|(rw[hend];congr 2;omega)
   all_goals first|rfl|(rw[AV.int.injEq];exact⟨rfl,om⟩)
 ·refine⟨oy,.inl ?_⟩
  rw[Ay om]
theorem J4(l:List Span)(hl:l.length<=1000000000000):PC Tryz.prog 209 [AA l] (.fn 232 [.cptr (AA (AR l))]):=by
 refine Cd Ys ?_;unfold Qh;(with_reducible repeat'(first|simp(disch:=omega)only[push_cast,↓zz,seval]|refine sp_ ?_ ?_<;>try(intro hc;push_cast at hc)|(have q_:=CE l hl;refine ee q_ ?_;clear q_)|(have q_:=CE l hl;refine cc q_ ?_;clear q_;simp(disch:=omega)only[push_cast,↓zz,seval];fail_if_success change False)|omega|intro _))
def hasI(l:List Span)(x:Int):Bool:=decide (-1073741824<=x/\x<=1073741824)&&l.any λp=>decide (p.lo<=x/\x<=p.hi)
theorem Uf{α:Type}[Inhabited α]{f:α->Bool}{l:List α}{k:Nat}(h:k<l.length):(l.drop k).any f=(f (nth l k)||(l.drop (k+1)).any f):=by rw[drop_at h,List.any_cons]
theorem z51{l:List Span}{x:Int}(h:-1073741824<=x/\x<=1073741824):hasI l x=l.any λp=>decide (p.lo<=x/\x<=p.hi):=by simp[hasI,h]
theorem z0p(l:List Span)(x:Int)(hl:l.length<=9223372036854775807):PC Tryz.prog 101 [AA l,.int .i64 x] (.bool (hasI l x)):=by
 refine Cd z4n ?_;unfold Sc;(with_reducible repeat'(first|simp(disch:=omega)only[push_cast,↓zz,seval]|refine sp_ ?_ ?_<;>try(intro hc;push_cast at hc)|omega|intro _))
 all_goals first|(rw[Ep];simp[hasI];omega;done)|skip
 rw[z51 om];refine Ba (B7 (λ(i:Nat)=>i<=l.length/\(l.any λp=>decide (p.lo<=x/\x<=p.hi))=(l.drop i).any λp=>decide (p.lo<=x/\x<=p.hi)) (λi=>l.length-i) (λi=>[(1,.int .i64 x),(13,AA l),(14,.int .i64 l.length),(15,.int .i64 i)]) (λ_=>[]) (λ_ _=>[]) 0 oc ?_ ?_)
 ·exact gwA
 rintro i ⟨hi,ht⟩;refine W_T ?_;(with_reducible repeat'(first|simp(disch:=omega)only[push_cast,↓zz,seval]|refine sp_ ?_ ?_<;>try(intro hc;push_cast at hc)|omega|intro _))
 ·rw[ht,Uf om];simp[*]
 ·exact⟨i+1,oc,⟨om,by rw[ht,Uf om];simp[*]⟩,om⟩
 ·exact⟨i+1,oc,⟨om,by rw[ht,Uf om];simp[*]⟩,om⟩
 ·rw[ht,Ao om];rfl
def ER(l:List Int):Prop:=l.Pairwise λa b=>a<b
structure Place(l:List Int)(x:Int)(lo hi:Nat):Prop where
 le:lo<=hi
 top:hi<=l.length
 lt:∀j,j<lo->nth l j<x
 ge:∀j,hi<=j->j<l.length->x<=nth l j
def putI(l:List Int)(x:Int):List Int:=if x∈l then l else l.takeWhile (λy=>decide (y<x))++x::l.dropWhile (λy=>decide (y<x))
theorem Ug{l:List Int}{x y:Int}:y∈putI l x↔y=x\/y∈l:=by
 unfold putI;split
 ·rename_i h
  constructor
  ·exact .inr
  ·rintro (rfl|h')
   ·exact h
   ·exact h'
 ·rw[Av,Af]
  conv=>rhs;rw[<-CG (p:=λy=>decide (y<x)) (l:=l),Av]
  constructor
  ·rintro (h|h|h)
   ·exact .inr (.inl h)
   ·exact .inl h
   ·exact .inr (.inr h)
  ·rintro (h|h|h)
   ·exact .inr (.inl h)
   ·exact .inl h
   ·exact .inr (.inr h)
def lowI(l:List Int)(x:Int):Nat:=(l.takeWhile λy=>decide (y<x)).length
theorem zh0(l:List Int)(x:Int):l.take (lowI l x)=l.takeWhile (λy=>decide (y<x))/\l.drop (lowI l x)=l.dropWhile (λy=>decide (y<x)):=by
 have key:∀(u v:List Int),u++v=l->l.take u.length=u/\l.drop u.length=v:=λu v h=>by subst h;exact⟨List.take_left,List.drop_left⟩
 exact key _ _ (CG (p:=λy=>decide (y<x)) (l:=l))
theorem zaj{l:List Int}(hr:ER l)(x:Int):Place l x (lowI l x) (lowI l x):=by
 induction l with
 |nil=>exact⟨Ab _,by simp[lowI],λj hj=>by simp[lowI] at hj,λj _ hj=>by simp at hj⟩
 |cons a l ih =>
  have hr':ER l:=(AH.1 hr).2;have hall:=(AH.1 hr).1;by_cases ha:a<x
  ·have e:lowI (a::l) x=lowI l x+1:=by simp[lowI,ha]
   have hp:=ih hr';rw[e];refine⟨Ab _,by have:=hp.top;simp;omega,λj hj=>?_,λj hj hjl=>?_⟩
   ·cases j with
    |zero=>simpa [nth] using ha
    |succ j=>have:=hp.lt j om;simpa [nth] using this
   ·cases j with
    |zero=>omega
    |succ j=>have:=hp.ge j om (by simpa using hjl);simpa [nth] using this
  ·have e:lowI (a::l) x=0:=by simp[lowI,ha]
   rw[e];refine⟨Ab _,oc,λj hj=>by omega,λj hj hjl=>?_⟩;cases j with
   |zero=>simp[nth];omega
   |succ j =>
    have hj2:j<l.length:=by simpa using hjl
    have:=hall _ (Bi hj2);have h3:nth (a::l) (j+1)=nth l j:=by simp[nth]
    rw[h3];omega
theorem Md{l:List Int}(hr:ER l)(x:Int):ER (putI l x):=by
 unfold putI;split
 ·exact hr
 ·rename_i hx
  have hp:=zaj hr x;obtain⟨e1,e2⟩:=zh0 l x;rw[<-e1,<-e2];have ht:ER (l.take (lowI l x)):=F4 (Gi _ _) hr;have hd:ER (l.drop (lowI l x)):=F4 (List.drop_sublist _ _) hr
  have k1:∀y∈l.take (lowI l x),y<x:=λy hy=>by
   obtain⟨j,hj,he⟩:=Bw hy;rw[List.getElem_take] at he;have hj':j<lowI l x:=by simp at hj;omega
   have hjl:j<l.length:=by simp at hj;omega
   have hn:nth l j=y:=by simp[nth,Ak,Ar hjl,he]
   have:=hp.lt j hj';omega
  have k2:∀y∈l.drop (lowI l x),x<y:=λy hy=>by
   obtain⟨j,hj,he⟩:=Bw hy;rw[List.getElem_drop] at he;have hj':lowI l x+j<l.length:=by simp at hj;omega
   have hn:nth l (lowI l x+j)=y:=by simp[nth,Ak,Ar hj',he]
   have:=hp.ge (lowI l x+j) om hj';have hne:y≠x:=λh=>hx (h ▸ Bc hy);omega
  rw[ER,DI,AH];refine⟨ht,⟨k2,hd⟩,λa ha b hb=>?_⟩;rcases Af.1 hb with rfl|hb
  ·exact k1 a ha
  ·have:=k1 a ha;have:=k2 b hb;omega
def z52(l:List Int)(s:Span):List Int:=if -1073741824<s.lo/\s.lo<=1073741824 then putI l s.lo else l
def z54(l:List Int)(s:Span):List Int:=if -1073741824<=s.hi/\s.hi<1073741824 then putI l (s.hi+1) else l
def addB(l:List Int)(s:Span):List Int:=z54 (z52 l s) s
def HC(a b:List Span):List Int:=b.foldl addB (a.foldl addB [-1073741824])
theorem z0q(l:List Int)(x:Int):(putI l x).length<=l.length+1:=by
 unfold putI;split
 ·omega
 ·have h:=Bt List.length (CG (p:=λy=>decide (y<x)) (l:=l))
  simp only[Ai] at h;simp only[Ai,List.length_cons];omega
theorem zh1{l:List Int}(h:ER l)(s:Span):ER (z52 l s)/\(z52 l s).length<=l.length+1:=by
 unfold z52;split
 ·exact⟨Md h _,z0q _ _⟩
 ·exact⟨h,om⟩
theorem zh2{l:List Int}(h:ER l)(s:Span):ER (z54 l s)/\(z54 l s).length<=l.length+1:=by
 unfold z54;split
 ·exact⟨Md h _,z0q _ _⟩
 ·exact⟨h,om⟩
theorem zp3{l:List Int}(h:ER l)(s:Span):ER (addB l s)/\(addB l s).length<=l.length+2:=by
 obtain⟨h1,h2⟩:=zh1 h s;obtain⟨h3,h4⟩:=zh2 h1 s;exact⟨h3,by unfold addB;omega⟩
theorem Y5:∀(s:List Span){l:List Int},ER l->ER (s.foldl addB l)/\(s.foldl addB l).length<=l.length+2 * s.length
 |[],l,h=>⟨h,oc⟩
 |x::s,l,h=>by
  obtain⟨h1,h2⟩:=zp3 h x;obtain⟨h3,h4⟩:=Y5 s h1;exact⟨h3,by simp only[List.foldl_cons,List.length_cons];omega⟩
theorem zak{l:List Int}{s:Span}{y:Int}:y∈z52 l s↔y∈l\/(y=s.lo/\-1073741824<s.lo/\s.lo<=1073741824):=by
 unfold z52;split
 ·rename_i h;rw[Ug];constructor
  ·rintro (h1|h1)
   ·exact .inr ⟨h1,h⟩
   ·exact .inl h1
  ·rintro (h1|h1)
   ·exact .inr h1
   ·exact .inl h1.1
 ·rename_i h;exact⟨.inl,λh1=>h1.resolve_right λh2=>h h2.2⟩
theorem zal{l:List Int}{s:Span}{y:Int}:y∈z54 l s↔y∈l\/(y=s.hi+1/\-1073741824<=s.hi/\s.hi<1073741824):=by
 unfold z54;split
 ·rename_i h;rw[Ug];constructor
  ·rintro (h1|h1)
   ·exact .inr ⟨h1,h⟩
   ·exact .inl h1
  ·rintro (h1|h1)
   ·exact .inr h1
   ·exact .inl h1.1
 ·rename_i h;exact⟨.inl,λh1=>h1.resolve_right λh2=>h h2.2⟩
def Sw(s:Span)(y:Int):Prop:=(y=s.lo/\-1073741824<s.lo/\s.lo<=1073741824)\/(y=s.hi+1/\-1073741824<=s.hi/\s.hi<1073741824)
theorem Q3:∀(s:List Span){l:List Int}{y:Int},y∈s.foldl addB l↔y∈l\/∃t∈s,Sw t y
 |[],l,y=>by simp
 |x::s,l,y=>by
  rw[List.foldl_cons,Q3 s,addB,zal,zak];constructor
  ·rintro (((h|h)|h)|⟨t,ht,h⟩)
   ·exact .inl h
   ·exact .inr ⟨x,oc,.inl h⟩
   ·exact .inr ⟨x,oc,.inr h⟩
   ·exact .inr ⟨t,by simp[ht],h⟩
  ·rintro (h|⟨t,ht,h⟩)
   ·exact .inl (.inl (.inl h))
   ·rcases Af.1 ht with rfl|ht
    ·rcases h with h|h
     ·exact .inl (.inl (.inr h))
     ·exact .inl (.inr h)
    ·exact .inr ⟨t,ht,h⟩
theorem JS{a b:List Span}{y:Int}:y∈HC a b↔y=-1073741824\/(∃t∈a,Sw t y)\/∃t∈b,Sw t y:=by
 rw[HC,Q3,Q3,Am,or_assoc]
theorem L4(a b:List Span):ER (HC a b):=(Y5 b (Y5 a (by simp[ER])).1).1
theorem Q4{s:Span}{y:Int}(h:Sw s y):-1073741824<y/\y<=1073741824:=by
 unfold Sw at h;omega
theorem L5{a b:List Span}:∀y∈HC a b,-1073741824<=y/\y<=1073741824:=λy hy=>by
 rcases JS.1 hy with rfl|⟨t,_,h⟩|⟨t,_,h⟩
 ·omega
 ·have:=Q4 h;omega
 ·have:=Q4 h;omega
theorem Wo(a b:List Span):∃r,HC a b=-1073741824::r:=by
 have h1:(-1073741824:Int)∈HC a b:=JS.2 (.inl rfl);have h2:=L4 a b;have h3:=L5 (a:=a) (b:=b);cases hb:HC a b with
 |nil=>rw[hb] at h1;cases h1
 |cons x r =>
  rw[hb] at h1 h2 h3;rcases Af.1 h1 with h|h
  ·exact⟨r,by rw[h]⟩
  ·have:=(AH.1 h2).1 _ h
   have:=h3 x oc;omega
theorem G5{l:List Span}{x:Int}:hasI l x=true ↔ -1073741824<=x/\x<=1073741824/\memL l x:=by
 simp only[hasI,Ac,Ah,Ct,memL,and_assoc]
theorem Sx{s:List Span}{x v:Int}(hx:-1073741824<=x)(hxv:x<=v)(hv:v<=1073741824)(h:∀t∈s,∀y,Sw t y->y<=x\/v<y):hasI s v=hasI s x:=by
 rw[Ep,G5,G5]
 have key:memL s v↔memL s x:=by
  constructor
  ·rintro⟨t,ht,h1,h2⟩
   refine⟨t,ht,?_,om⟩;rcases Ee x t.lo with hlt|hle
   ·have:=h t ht t.lo (.inl ⟨rfl,om,om⟩);omega
   ·exact hle
  ·rintro⟨t,ht,h1,h2⟩
   refine⟨t,ht,om,?_⟩;rcases Ee t.hi v with hlt|hle
   ·have:=h t ht (t.hi+1) (.inr ⟨rfl,om,om⟩);omega
   ·exact hle
 rw[key];constructor
 ·rintro⟨_,_,h⟩;exact⟨hx,om,h⟩
 ·rintro⟨_,_,h⟩;exact⟨om,hv,h⟩
def addS(out:List Span)(s:Span):List Span :=
 match out.getLast? with
 |some y=>if y.hi=s.lo-1 then out.dropLast++[⟨y.lo,s.hi⟩] else out++[s]
 |none=>[s]
theorem JU(x:Span):addS [] x=[x]:=rfl
theorem Q5(out:List Span)(y x:Span):addS (out++[y]) x=if y.hi=x.lo-1 then out++[⟨y.lo,x.hi⟩] else out++[y]++[x]:=by
 simp[addS]
def Y6(l:List Span)(f:Int):Prop:=∀s∈l,s.hi<f
theorem Sy{out:List Span}{x:Span}(h:Plain out)(hx:x.lo<=x.hi)(hb:Y6 out x.lo):Plain (addS out x)/\Y6 (addS out x) (x.hi+1)/\∀v,memL (addS out x) v↔memL out v\/(x.lo<=v/\v<=x.hi):=by
 rcases H0 out with rfl|⟨m,y,rfl⟩
 ·refine⟨⟨by simp[JU,hx],by simp[JU]⟩,by simp[JU,Y6];omega,λv=>?_⟩
  rw[JU,Bs];constructor
  ·rintro (h|h)
   ·exact .inr h
   ·exact absurd h (BQ _)
  ·rintro (h|h)
   ·exact absurd h (BQ _)
   ·exact .inl h
 ·rw[Q5]
  obtain⟨h1,h2,h3⟩:=Ip.1 h;have hy:y.hi<x.lo:=hb y oc;have hm:∀s∈m,s.hi<x.lo:=λs hs=>hb s (by simp[hs]);split
  ·rename_i he
   refine⟨Ip.2 ⟨h1,by simp only;omega,λs hs=>h3 s hs⟩,?_,λv=>?_⟩
   ·intro s hs
    rcases Av.1 hs with hs|hs
    ·have:=hm s hs;omega
    ·simp only[Am] at hs;subst hs;simp only;omega
   ·rw[FX,FX,Bs,Bs]
    simp only[BQ,A7];constructor
    ·rintro (h|h)
     ·exact .inl (.inl h)
     ·by_cases hv:v<=y.hi
      ·exact .inl (.inr ⟨h.1,hv⟩)
      ·exact .inr ⟨om,om⟩
    ·rintro ((h|h)|h)
     ·exact .inl h
     ·exact .inr ⟨h.1,om⟩
     ·exact .inr ⟨om,om⟩
  ·rename_i he
   refine⟨Ip.2 ⟨h,hx,λs hs=>?_⟩,?_,λv=>?_⟩
   ·rcases Av.1 hs with hs|hs
    ·have:=h3 s hs;omega
    ·simp only[Am] at hs;subst hs;omega
   ·intro s hs
    rcases Av.1 hs with hs|hs
    ·have:=hb s hs;omega
    ·simp only[Am] at hs;subst hs;omega
   ·rw[FX,Bs]
    simp only[BQ,A7]
def toI:List Int->Int
 |[]=>1073741824
 |y::_=>y-1
def zam(p:Int->Bool):List Int->List Span->List Span
 |[],out=>out
 |x::r,out=>zam p r (if p x then addS out ⟨x,toI r⟩ else out)
def zh3(p:Int->Bool):List Int->Prop
 |[]=>True
 |x::r=>(∀v,x<=v->v<=toI r->p v=p x)/\zh3 p r
theorem Sz{l:List Span}{f g:Int}(h:Y6 l f)(hg:f<=g):Y6 l g:=λs hs=>by have:=h s hs;omega
theorem Q6(p:Int->Bool):∀(l:List Int)(out:List Span)(f:Int),ER l->(∀x∈l,x<=1073741824)->(f=toI l+1)->zh3 p l->Plain out->Y6 out f ->
 Plain (zam p l out)/\∀v,memL (zam p l out) v↔memL out v\/(f<=v/\v<=1073741824/\p v=true)
 |[],out,f,_,_,hf,_,ho,_=>⟨ho,λv=>by
  simp only[toI] at hf
  exact⟨.inl,λh=>h.resolve_right λh=>by omega⟩⟩
 |x::r,out,f,hr,hm,hf,hs,ho,ha=>by
  have hx:=hm x oc;have hfx:f=x:=by rw[hf,toI];omega
  subst hfx
  have hto:f<=toI r:=by
   cases r with
   |nil=>simpa [toI] using hx
   |cons y r=>have:=(AH.1 hr).1 y oc;simp only[toI];omega
  have hr':ER r:=(AH.1 hr).2;rw[zam];by_cases hp:p f=true
  ·rw[Ae hp]
   obtain⟨a1,a2,a3⟩:=Sy (x:=⟨f,toI r⟩) ho hto ha;obtain⟨b1,b2⟩:=Q6 p r _ (toI r+1) hr' (λy hy=>hm y (by simp[hy])) rfl hs.2 a1 a2;refine⟨b1,λv=>?_⟩;rw[b2 v,a3 v];constructor
   ·rintro ((h|h)|h)
    ·exact .inl h
    ·refine .inr ⟨h.1,?_,by rw[hs.1 v h.1 h.2];exact hp⟩
     have:toI r<=1073741824:=by
      cases r with
      |nil=>simp[toI]
      |cons y r=>have:=hm y oc;simp only[toI];omega
     have:=h.2;simp only at this;omega
    ·exact .inr ⟨om,h.2⟩
   ·rintro (h|h)
    ·exact .inl (.inl h)
    ·rcases Ee (toI r) v with hlt|hle
     ·exact .inr ⟨om,h.2⟩
     ·exact .inl (.inr ⟨h.1,hle⟩)
  ·rw[Ad hp]
   obtain⟨b1,b2⟩:=Q6 p r out (toI r+1) hr' (λy hy=>hm y (by simp[hy])) rfl hs.2 ho (Sz ha om);refine⟨b1,λv=>?_⟩;rw[b2 v];constructor
   ·rintro (h|h)
    ·exact .inl h
    ·exact .inr ⟨om,h.2⟩
   ·rintro (h|h)
    ·exact .inl h
    ·rcases Ee (toI r) v with hlt|hle
     ·exact .inr ⟨om,h.2⟩
     ·exact absurd ((hs.1 v h.1 hle).symm.trans h.2.2) hp
theorem zkk{p:Int->Bool}:∀(l pre:List Int),ER (pre++l)->(∀x∈l,-1073741824<=x/\x<=1073741824)->(∀x v,-1073741824<=x->x<=v->v<=1073741824->(∀y∈pre++l,y<=x\/v<y)->p v=p x)->zh3 p l
 |[],_,_,_,_=>trivial
 |x::r,pre,hr,hm,h=>by
  refine⟨λv h1 h2=>?_,zkk r (pre++[x]) (by simpa using hr) (λy hy=>hm y (by simp[hy])) (by simpa using h)⟩;obtain⟨p1,p2,p3⟩:=DI.1 hr;have hx:=hm x oc
  have hto:toI r<=1073741824:=by
   cases r with
   |nil=>simp[toI]
   |cons y r=>have:=hm y oc;simp only[toI];omega
  refine h x v hx.1 h1 om λy hy=>?_;rcases Av.1 hy with hy|hy
  ·exact .inl (Int.le_of_lt (p3 y hy x oc))
  ·rcases Af.1 hy with rfl|hy
   ·exact .inl (AE _)
   ·right
    cases r with
    |nil=>cases hy
    |cons z r =>
     simp only[toI] at h2;rcases Af.1 hy with rfl|hy
     ·omega
     ·have:=(AH.1 (AH.1 p2).2).1 y hy;omega
def howB(h:Int)(x y:Bool):Bool:=if h=2 then x&&!y else if h=1 then x&&y else x||y
def zan(a b:List Span)(h:Int):List Span:=zam (λv=>howB h (hasI a v) (hasI b v)) (HC a b) []
theorem S6(a b:List Span)(h:Int):Plain (zan a b h)/\∀v,memL (zan a b h) v ↔ -1073741824<=v/\v<=1073741824/\howB h (hasI a v) (hasI b v)=true:=by
 obtain⟨r,hr⟩:=Wo a b;have hbo:=L5 (a:=a) (b:=b);have hri:=L4 a b
 have hseg:zh3 (λv=>howB h (hasI a v) (hasI b v)) (HC a b):=zkk _ [] hri hbo λx v h1 h2 h3 h4=>by
  simp only[List.nil_append] at h4;have e1:hasI a v=hasI a x:=Sx h1 h2 h3 λt ht y hy=>h4 y (JS.2 (.inr (.inl ⟨t,ht,hy⟩)));have e2:hasI b v=hasI b x:=Sx h1 h2 h3 λt ht y hy=>h4 y (JS.2 (.inr (.inr ⟨t,ht,hy⟩)));simp only[e1,e2]
 obtain⟨k1,k2⟩:=Q6 _ (HC a b) [] (-1073741824) hri (λx hx=>(hbo x hx).2) (by rw[hr];simp[toI]) hseg ⟨oc,oc⟩ (λs hs=>by cases hs);refine⟨k1,λv=>?_⟩;rw[zan,k2 v];simp only[BQ,BC]
theorem z56(a b:List Span):zan a b 1=EN (AR a) (AR b):=by
 obtain⟨a1,a2⟩:=S6 a b 1;obtain⟨p1,p2⟩:=Bo a;obtain⟨q1,q2⟩:=Bo b;obtain⟨b1,b2⟩:=HI _ _ p1 q1;refine Jz a1 b1 λv=>?_;rw[a2 v,b2 v,p2 v,q2 v];simp only[howB];rw[Ad ox,Ae trivial,Ac,G5,G5];constructor
 ·rintro⟨h1,h2,⟨_,_,h3⟩,_,_,h4⟩;exact⟨⟨h3,h1,h2⟩,h4,h1,h2⟩
 ·rintro⟨⟨h3,h1,h2⟩,h4,_,_⟩;exact⟨h1,h2,⟨h1,h2,h3⟩,h1,h2,h4⟩
theorem Wp{α:Type}{f:α->AV}{m:List α}{y z:α}:((m++[y]).map f).set m.length (f z)=(m++[z]).map f:=oc
theorem zh4{α:Type}[Inhabited α]{m:List α}{y:α}:nth (m++[y]) m.length=y:=by simp[nth,Ak]
theorem Y7(p q:Span):(decide (p.lo=q.lo)&&decide (p.hi=q.hi))=decide (p=q):=by
 cases p;cases q;simp
def cntI:List Span->Int
 |[]=>0
 |s::l=>s.hi-s.lo+1+cntI l
def zp4(l:List Span):Prop:=∀s∈l,-1073741824<=s.lo/\s.lo<=s.hi/\s.hi<=1073741824
def symI(l:List Span):List Span:=zan l [⟨0,1114111⟩] 1
def Uh(p:Int->Bool)(l:List Int):List Span:=l.foldl (λout x=>if p x then addS out ⟨x,x⟩ else out) []
def gF(p:Int->Bool)(out:List Span)(x:Int):List Span:=if p x then addS out ⟨x,x⟩ else out
theorem zao(p:Int->Bool)(l:List Int):Uh p l=l.foldl (gF p) []:=rfl
theorem z57(lo:Int):IC lo 0=[]:=rfl
theorem z58(lo:Int)(n:Nat):IC lo (n+1)=lo::IC (lo+1) n:=by
 simp only[IC,List.range_succ_eq_map,AD,BP];congr 1
 ·simp
 ·apply A6
  intro i _;simp only[Function.comp];omega
theorem zp5{x hi:Int}(h:x<=hi):IC x (hi+1-x).toNat=x::IC (x+1) (hi+1-(x+1)).toNat:=by
 rw[show (hi+1-x).toNat=(hi+1-(x+1)).toNat+1 by omega,z58]
theorem zh5{x hi:Int}(h:hi<x):IC x (hi+1-x).toNat=[]:=by
 rw[show (hi+1-x).toNat=0 by omega,z57]
theorem KZ(s:Span)(l:List Span):Dx (s::l)=IC s.lo (s.hi+1-s.lo).toNat++Dx l:=rfl
theorem zh6(x:Int):hasI [⟨0,1114111⟩] x=decide (0<=x/\x<=1114111):=by
 simp only[hasI,List.any_cons,List.any_nil,Hu];by_cases h:0<=x/\x<=1114111
 ·simp[h];omega
 ·simp[h]
theorem MO(l:List Span):Plain (symI l)/\∀v,memL (symI l) v↔(0<=v/\v<=1114111)/\memL l v:=by
 obtain⟨h1,h2⟩:=S6 l [⟨0,1114111⟩] 1;refine⟨h1,λv=>?_⟩;rw[symI,h2 v,zh6];simp only[howB];rw[Ad ox,Ae trivial,Ac,G5,Ah];constructor
 ·rintro⟨a,b,⟨_,_,c⟩,d⟩;exact⟨d,c⟩
 ·rintro⟨d,c⟩;exact⟨om,om,⟨om,om,c⟩,d⟩
def Syms(l:List Span):Prop:=Plain l/\∀s∈l,0<=s.lo/\s.lo<=s.hi/\s.hi<=1114111
theorem Me{l:List Span}(h1:Plain l)(h2:∀v,memL l v->0<=v/\v<=1114111):Syms l :=
 ⟨h1,λs hs=>by
  have hle:=h1.1 s hs;have:=h2 s.lo ⟨s,hs,AE _,hle⟩;have:=h2 s.hi ⟨s,hs,hle,AE _⟩
  omega⟩
theorem Q7(l:List Span):Syms (symI l):=Me (MO l).1 λv hv=>(((MO l).2 v).1 hv).1
theorem z0r:∀{l:List Span}{f:Nat},Plain l->(∀s∈l,(f:Int)<=s.lo/\s.hi<=1114111)->f<=1114112->l.length+f<=1114112
 |[],f,_,_,hf=>by simpa using hf
 |s::l,f,h,hb,hf=>by
  have h1:=hb s oc;have h2:=h.head
  have:=z0r (l:=l) (f:=(s.hi+1).toNat) h.tail (λt ht=>by
   have:=(AH.1 h.2).1 t ht;have:=hb t (by simp[ht])
   omega) om
  simp only[List.length_cons];omega
theorem Syms.len{l:List Span}(h:Syms l):l.length<=1114112:=by
 have:=z0r (f:=0) h.1 (λs hs=>by have:=h.2 s hs;simp only[Int.ofNat_zero];omega) om;omega
theorem Wq:PC Tryz.prog 207 [] (AA [⟨0,1114111⟩]):=by
 refine Cd Rz ?_;unfold L1;exact gwA
def Wr(l:List Span):Option Int:=match l with
 |[]=>none
 |s::_=>some s.lo
def Lu(l:List Span):Option Int:=l.getLast?.map (·.hi)
abbrev optI(o:Option Int):AV:=.tup [.int .i64 (o.getD 0),.bool o.isSome]
theorem z59(l:List Span)(hl:l.length<=1000000000000):PC Tryz.prog 231 [AA l] (optI (Wr (AR l))):=by
 refine Cd VL ?_;unfold Oz;(with_reducible repeat'(first|simp(disch:=omega)only[push_cast,↓zz,seval]|refine sp_ ?_ ?_<;>try(intro hc;push_cast at hc)|(have q_:=CE l hl;refine ee q_ ?_;clear q_)|(have q_:=CE l hl;refine cc q_ ?_;clear q_;simp(disch:=omega)only[push_cast,↓zz,seval];fail_if_success change False)|omega|intro _))
 ·have h0:AR l=[]:=Az om
  rw[h0];(repeat'(first|(simp(disch:=omega)only[push_cast,↓zz,seval,GX,Wr,Option.getD_none,Option.isSome_none])|omega|(with_reducible refine Aa ?_ ?_)))
 ·cases hn:AR l with
  |nil=>exact absurd (by rw[hn];rfl) hc
  |cons s r =>
   (repeat'(first|(simp(disch:=omega)only[push_cast,↓zz,seval,GX,Wr,Option.getD_some,Option.isSome_some])|omega|(with_reducible refine Aa ?_ ?_)))
   all_goals simp[nth]
theorem Ws(l:List Span)(hl:l.length<=1000000000000):PC Tryz.prog 196 [AA l] (optI (Lu (AR l))):=by
 refine Cd Yr ?_;unfold Qg;have hn:=En l;(with_reducible repeat'(first|simp(disch:=omega)only[push_cast,↓zz,seval]|refine sp_ ?_ ?_<;>try(intro hc;push_cast at hc)|(have q_:=CE l hl;refine ee q_ ?_;clear q_)|(have q_:=CE l hl;refine cc q_ ?_;clear q_;simp(disch:=omega)only[push_cast,↓zz,seval];fail_if_success change False)|omega|intro _))
 ·have h0:AR l=[]:=Az om
  rw[h0];(repeat'(first|(simp(disch:=omega)only[push_cast,↓zz,seval,GX,Lu,List.getLast?_nil,Option.map_none,Option.getD_none,Option.isSome_none])|omega|(with_reducible refine Aa ?_ ?_)))
 ·rcases H0 (AR l) with h0|⟨m,z,h0⟩
  ·exact absurd (by rw[h0];rfl) hc
  ·have e:((AR l).length:Int)-1=(m.length:Int):=by rw[h0];simp
   have e2:nth (AR l) m.length=z:=by rw[h0];simp[nth,Ak]
   rw[show Lu (AR l)=some z.hi by rw[h0];simp[Lu]];(repeat'(first|(simp(disch:=omega)only[push_cast,↓zz,seval,GX,Option.getD_some,Option.isSome_some,e,e2])|omega|(with_reducible refine Aa ?_ ?_)))
   all_goals (rw[show (AR l).length-1=m.length by rw[h0];simp];rw[e2])
def HJ(d:Int)(s:Span):Span:=⟨s.lo+d,s.hi+d⟩
def Gs(l:List Span)(d:Int):List Span:=if d < -2147483648\/2147483648<d then [] else AR ((AR l).map (HJ d))
def midM(d:Int)(l rest:List Span)(k:Nat):List Span:=(l.take k).map (HJ d)++(l.drop k++rest)
theorem zap(d:Int)(l rest:List Span):midM d l rest 0=l++rest:=by simp[midM]
theorem zh7(d:Int)(l rest:List Span):midM d l rest l.length=l.map (HJ d)++rest:=by simp[midM]
theorem zh8(d:Int)(l rest:List Span)(k:Nat)(h:k<=l.length):(midM d l rest k).length=l.length+rest.length:=by simp[midM];omega
theorem zp6{d:Int}{l rest:List Span}{k:Nat}(h:k<l.length):nth (midM d l rest k) k=nth l k:=by
 rw[midM,drop_at h,nth,Ak,AG (by simp;omega)];simp[show min k l.length=k by omega]
theorem zh9{d:Int}{l rest:List Span}{k:Nat}(h:k<l.length):((midM d l rest k).map Ce).set k (Ce ⟨(nth l k).lo+d,(nth l k).hi+d⟩)=(midM d l rest (k+1)).map Ce:=by
 rw[midM,midM,take_at h,drop_at h,<-List.map_set];congr 1;rw[F5 _ _ (by simp;omega),show k-(List.map (HJ d) (List.take k l)).length=0 by simp;omega];simp[HJ]
theorem MP(l:List Span)(d:Int)(hl:l.length<=1000000000000):PC Tryz.prog 115 [AA l,.int .i64 d] (AA (Gs l d)):=by
 refine Cd Yi ?_;unfold PY;have hw:IntKind.i64.wrap d=IntKind.i64.wrap d:=rfl;have hz:(d < -2147483648\/2147483648<d)->Gs l d=[]:=λh=>by rw[Gs,Ae h]
 (with_reducible repeat'(first|simp(disch:=omega)only[push_cast,↓zz,seval]|refine sp_ ?_ ?_<;>try(intro hc;push_cast at hc)|omega|intro _))
 all_goals first|exact hz om|skip
 ·refine VN (l:=[]) [] (N9 l hl) (by rfl) rfl oc oc (by simp[ltL,ltV]) oc ?_
  rintro y H' ⟨rest,rfl,rfl⟩;refine⟨_,rfl,oc,?_⟩;have hn:=En l;have hbd:=E6 l;have hmv:Gs l d=AR ((AR l).map (HJ d)):=by rw[Gs,Ad om]
  rw[hmv];generalize AR l=m at *;refine ywA ?_;refine Ba (B7 (λ(k:Nat)=>k<=m.length) (λk=>m.length-k) (λk=>[(1,.int .i64 d),(5,.ref 0 1 0 m.length),(16,.int .i64 m.length),(17,.int .i64 k)]) (λk=>[⟨2,1,true,(midM d m rest k).map Ce⟩]) (λenv _=>[D4 2 (env 5)]) 0 oc ?_ ?_)
  ·have f_:=zap;exact gwB
  intro k hk;have hlen:=zh8 d m rest k hk;rcases Aj k m.length with hkm|hkm
  ·have ha:=zp6 (d:=d) (rest:=rest) hkm
   have hs:=zh9 (d:=d) (rest:=rest) hkm;have hx:=hbd _ (Bi hkm)
   have hgs:∀v,(((midM d m rest k).map Ce).set k v).getD k .any=v:=λv=>by
    rw[Ak,Fj (by simp[hlen];omega)];rfl
   refine W_T ?_;(with_reducible repeat'(first|simp(disch:=omega)only[push_cast,↓zz,seval,hlen,ha,hgs,List.set_set,hs]|refine sp_ ?_ ?_<;>try(intro hc;push_cast at hc)|omega|intro _));exact⟨k+1,⟨oc,AN _ _⟩,om,om⟩
  ·obtain rfl:k=m.length:=om
   rw[zh7];have ht:List.take m.length ((m.map (HJ d)).map Ce++rest.map Ce)=(m.map (HJ d)).map Ce:=DF oc;have hmm:=CE (m.map (HJ d)) (by simp;omega);refine W_T ?_;(with_reducible repeat'(first|simp(disch:=omega)only[push_cast,↓zz,seval,ht,DC]|refine sp_ ?_ ?_<;>try(intro hc;push_cast at hc)|refine ee hmm ?_|(refine cc hmm ?_;simp(disch:=omega)only[push_cast,↓zz,seval,ht,DC];fail_if_success change False)|omega|intro _))
theorem J5(l:List Int):∀r∈l.map (λx=>[AV.int .i64 x]),∀x∈r,Flat x:=λr hr x hx=>by
 obtain⟨y,_,rfl⟩:=Al.1 hr;simp only[Am] at hx;subst hx;exact λS=>rfl
theorem La(l:List Int):∀r∈l.map (λx=>[AV.int .i64 x]),r.length=1:=λr hr=>by
 obtain⟨y,_,rfl⟩:=Al.1 hr;rfl
theorem S7{l:List Int}{k:Nat}{row:List AV}(h:(l.map λx=>[AV.int .i64 x])[k]? = some row):k<l.length/\row=[.int .i64 (nth l k)]:=by
 obtain⟨hk,he⟩:=Bh.1 h;have hk':k<l.length:=by simpa using hk
 refine⟨hk',?_⟩;rw[<-he];simp[nth,Ak,Ar hk']
theorem z0s:∀{l:List Span}{f:Nat},Plain l->(∀s∈l,(f:Int)<=s.lo/\s.hi<=1114111)->f<=1114112->(Dx l).length+f<=1114112
 |[],f,_,_,hf=>by simpa [Dx] using hf
 |s::l,f,h,hb,hf=>by
  have h1:=hb s oc;have h2:=h.head
  have:=z0s (l:=l) (f:=(s.hi+1).toNat) h.tail (λt ht=>by
   have:=(AH.1 h.2).1 t ht;have:=hb t (by simp[ht])
   omega) om
  rw[KZ,Ai];simp only[IC,Au,C0];omega
theorem Syms.nums{l:List Span}(h:Syms l):(Dx l).length<=1114112:=by
 have:=z0s (f:=0) h.1 (λs hs=>by have:=h.2 s hs;simp only[Int.ofNat_zero];omega) om;omega
theorem Ff:∀{l:List Span}{x:Int},x∈Dx l↔memL l x
 |[],x=>by simp[Dx,memL]
 |s::l,x=>by
  rw[KZ,Av,Bs,Ff]
  have:x∈IC s.lo (s.hi+1-s.lo).toNat↔s.lo<=x/\x<=s.hi:=by
   simp only[IC,Al,AF];constructor
   ·rintro⟨i,h1,rfl⟩;omega
   ·intro h;exact⟨(x-s.lo).toNat,om,om⟩
  rw[this]
theorem Syms.mem{l:List Span}(h:Syms l){x:Int}(hx:memL l x):0<=x/\x<=1114111:=by
 obtain⟨s,hs,h1,h2⟩:=hx;have:=h.2 s hs;omega
abbrev oneS(x:Int):Span:=⟨x,x⟩
def allS(n:Nat):List Span:=[⟨0,2 ^ n-1⟩]
def J6(p:Part)(g:List Span):List Span :=
 if p.up=0 then EN (AR g) (AR (allS p.take.toNat)) else AR (((Dx (AR (allS p.take.toNat))).filter λx=>hasI g (x * 2 ^ p.up.toNat)).map oneS)
theorem Gt{l:List Span}(h:Plain l)(hb:∀s∈l,-1073741824<=s.lo/\s.hi<=1073741824):AR l=l:=by
 obtain⟨h1,h2⟩:=Bo l;refine Jz h1 h λx=>?_;rw[h2 x];constructor
 ·exact λhh=>hh.1
 ·rintro⟨s,hs,k1,k2⟩
  have:=hb s hs;exact⟨⟨s,hs,k1,k2⟩,om,om⟩
theorem Wt{n:Nat}(h:n<=21):AR (allS n)=allS n:=by
 have:=Ke n h;exact Gt ⟨by simp[allS];omega,by simp[allS]⟩ (by simp[allS];omega)
theorem zaq{n:Nat}(h:n<=20):Syms (allS n):=by
 have e:((2 ^ n:Nat):Int)=2 ^ n:=oc
 have h2:=C8 (n:=2) ox h;have h3:=Nat.one_le_two_pow (n:=n);exact⟨⟨by simp[allS];omega,by simp[allS]⟩,by simp[allS];omega⟩
theorem Kz{x:Int}{n:Nat}(hn:n<=21)(hx:0<=x/\x<=4194304):IntKind.i64.wrap (x * 2 ^ min n IntKind.i64.bits)=x * 2 ^ n:=by
 rw[show min n IntKind.i64.bits=n from Dj (show n<=64 by omega)];have h:=Ke n hn;have h1:x * 2 ^ n<=4194304 * 2097152:=Fv hx.2 h.2 om om;have h2:0<=x * 2 ^ n:=DU hx.1 om;exact IntWalk.i64_in _ om
theorem z5a(p:Part)(g:List Span)(hb:EJ p=true)(hg:g.length<=100000000000):PC Tryz.prog 218 [Dp p,AA g] (AA (J6 p g)):=by
 have hbi:=Ih.1 hb;have ht:=Ke p.take.toNat om;have hw1:IntKind.i64.wrap (1 * 2 ^ min p.take.toNat IntKind.i64.bits)=2 ^ p.take.toNat:=by rw[Kz om om];omega
 have hw2:IntKind.i64.wrap (2 ^ p.take.toNat-1)=2 ^ p.take.toNat-1:=IntWalk.i64_in _ om;have hT:J6 p g=if p.up=0 then EN (AR g) (AR (allS p.take.toNat)) else AR (((Dx (AR (allS p.take.toNat))).filter λx=>hasI g (x * 2 ^ p.up.toNat)).map oneS):=rfl
 rw[hT];have hM:=IB g (allS p.take.toNat) om (by simp[allS]);have hE:=J4 (allS p.take.toNat) (by simp[allS]);have hA:=Wt (n:=p.take.toNat) om;rw[hA] at hE;refine Cd VI ?_;unfold Ow;(with_reducible repeat'(first|simp(disch:=omega)only[push_cast,↓zz,seval,hw1,hw2,allS,AA,Ce,AD,AX,DC]|refine sp_ ?_ ?_<;>try(intro hc;push_cast at hc)|refine ee hM ?_|refine ee hE ?_|((first|refine cc hM ?_|refine cc hE ?_);simp(disch:=omega)only[push_cast,↓zz,seval,hw1,hw2,allS,AA,Ce,AD,AX,DC];fail_if_success change False)|omega|intro _))
 ·rw[Ae (by assumption)]
 ·rw[Ad (by assumption)]
  have hu:p.take<=6:=om
  have hsy:=zaq (n:=p.take.toNat) om;rw[hA];have hit:=J3 (allS p.take.toNat) (by simp[allS]) (by rw[<-hA];exact E6 _);have hln:=hsy.nums;have hmem:∀k,k<(Dx (allS p.take.toNat)).length->0<=nth (Dx (allS p.take.toNat)) k/\nth (Dx (allS p.take.toNat)) k<=1114111:=λk hk=>hsy.mem (Ff.1 (Bi hk));generalize Dx (allS p.take.toNat)=l at *
  refine Kv (Sf (σ:=Nat × List Span) (λk s=>s.2=((l.take k).filter λx=>hasI g (x * 2 ^ p.up.toNat)).map oneS/\s.2.length<=k) [(2,.ptr 0 1 0 0),(3,.ptr 1 1 0 0),(6,.ptr 2 1 0 0),(21,.fn 232 [.cptr (AA (allS p.take.toNat))])] (λs=>[⟨4,1,true,[Dp p]⟩,⟨1,1,true,[AA g]⟩,⟨1,1,true,[.ref 3 s.1 0 s.2.length]⟩,⟨2,s.1,false,s.2.map Ce⟩])
   [.grp 0,.grp 1,.grp 3,.virt 2] 4 (1,[]) hit ?_ (λ_=>rfl) rfl ?_ rfl rfl (J5 _) (La _) oc ⟨oc,oc⟩ ?_ ?_)
  ·refine ywA ?_
   all_goals rfl
  ·exact gwA
  ·rintro k row ⟨v,out⟩ hrow ⟨h1,h2⟩
   simp only at h1 h2;obtain⟨hk,rfl⟩:=S7 hrow;have hxb:=hmem k hk;have hw3:=Kz (x:=nth l k) (n:=p.up.toNat) om om;have hH:=z0p g (nth l k * 2 ^ p.up.toNat) om
   have hstep:((l.take (k+1)).filter λx=>hasI g (x * 2 ^ p.up.toNat)).map oneS=out++if hasI g (nth l k * 2 ^ p.up.toNat) then [oneS (nth l k)] else []:=by
    rw[take_at hk,BZ,Aw,<-h1];cases hq:hasI g (nth l k * 2 ^ p.up.toNat)<;>simp[hq]
   generalize hasI g (nth l k * 2 ^ p.up.toNat)=q at *;generalize nth l k=x at *;refine W_T ?_;refine ywA ?_;refine W_T ?_;(with_reducible repeat'(first|simp(disch:=omega)only[push_cast,↓zz,seval,hw3]|refine sp_ ?_ ?_<;>try(intro hc;push_cast at hc)|refine ee hH ?_|(refine cc hH ?_;simp(disch:=omega)only[push_cast,↓zz,seval,hw3];fail_if_success change False)|omega|intro _))
   ·rw[Ae hc] at hstep
    exact⟨(v+1,out++[oneS x]),⟨⟨rfl,oc⟩,rfl,by rw[Aw];exact AN _ _⟩,hstep.symm,by simp;omega⟩
   ·rw[Ad (by simp[hc]),Ax] at hstep
    exact⟨(v,out),⟨⟨rfl,rfl⟩,rfl,AN _ _⟩,hstep.symm,by simp only;omega⟩
  ·rintro⟨v,out⟩ ⟨h1,h2⟩
   simp only[Au] at h1 h2;rw[As] at h1;rw[<-h1];have hN:=CE out om;(with_reducible repeat'(first|simp(disch:=omega)only[push_cast,↓zz,seval,DC]|refine sp_ ?_ ?_<;>try(intro hc;push_cast at hc)|refine ee hN ?_|(refine cc hN ?_;simp(disch:=omega)only[push_cast,↓zz,seval,DC];fail_if_success change False)|omega|intro _))
def imgS(d t:Nat)(s:Span):List Span :=
 if s.lo / 2 ^ d % 2 ^ t<=s.hi / 2 ^ d % 2 ^ t then [⟨s.lo / 2 ^ d % 2 ^ t,s.hi / 2 ^ d % 2 ^ t⟩] else [⟨0,s.hi / 2 ^ d % 2 ^ t⟩,⟨s.lo / 2 ^ d % 2 ^ t,2 ^ t-1⟩]
def imgF(d t:Nat):List Span->List Span->List Span
 |[],out=>out
 |s::l,out=>if 2 ^ t-1<=s.hi / 2 ^ d-s.lo / 2 ^ d then allS t else imgF d t l (out++imgS d t s)
def topS:List Span:=[⟨0,2097151⟩]
def imgL(p:Part)(s:List Span):List Span :=
 if EJ p=false then [] else
  if p.up=0 then AR (imgF p.drop.toNat p.take.toNat (EN (AR s) (AR topS)) []) else
   AR ((Dx (AR (AR (imgF p.drop.toNat p.take.toNat (EN (AR s) (AR topS)) [])))).map λx=>oneS (x * 2 ^ p.up.toNat))
theorem MQ:∀(a b:List Span),(EN a b).length<=a.length+b.length
 |[],b=>by rw[Jc];simp
 |x::a,[]=>by rw[IA];simp
 |x::a,y::b=>by
  rw[NA];have h1:=MQ a (y::b);have h2:=MQ (x::a) b;simp only[Ai,List.length_cons] at *;split<;>split<;>simp<;>omega
termination_by a b=>a.length+b.length
theorem OZ(s:List Span):Plain (EN (AR s) (AR topS))/\(∀t∈EN (AR s) (AR topS),0<=t.lo/\t.lo<=t.hi/\t.hi<=2097151)/\∀v,memL (EN (AR s) (AR topS)) v↔memL s v/\0<=v/\v<=2097151:=by
 obtain⟨p1,p2⟩:=Bo s;obtain⟨q1,q2⟩:=Bo topS;obtain⟨b1,b2⟩:=HI _ _ p1 q1
 have key:∀v,memL (EN (AR s) (AR topS)) v↔memL s v/\0<=v/\v<=2097151:=λv=>by
  rw[b2 v,p2 v,q2 v,topS,Bs];simp only[BQ,A7];constructor
  ·rintro⟨⟨h1,_⟩,h2,_⟩;exact⟨h1,h2⟩
  ·rintro⟨h1,h2⟩;exact⟨⟨h1,om⟩,h2,om⟩
 refine⟨b1,λt ht=>?_,key⟩;have hle:=b1.1 t ht;have k1:=((key t.lo).1 ⟨t,ht,AE _,hle⟩).2;have k2:=((key t.hi).1 ⟨t,ht,hle,AE _⟩).2;omega
theorem zha{x:Int}{t:Nat}(ht:t<=21)(hx:0<=x/\x<=2097151):JF .and .i64 x (2 ^ t-1)=x % 2 ^ t:=by
 have h:=Ke t ht;have m0:=BR x (b:=2 ^ t) om;have m1:=BF x (b:=2 ^ t) om;exact z7v t ⟨hx.1,by show _<(2:Int) ^ 64;omega⟩ (by show _<=64;omega) (IntWalk.i64_in _ om)
theorem Y8{x:Int}{d:Nat}(hd:d<=21):x.fdiv (2 ^ min d IntKind.i64.bits)=x / 2 ^ d:=by
 rw[show min d IntKind.i64.bits=d from Dj (show d<=64 by omega)];have:=Ke d hd;exact z7u _ _ om
theorem Wu{x:Int}{d:Nat}(hd:d<=21)(hx:0<=x/\x<=2097151):0<=x / 2 ^ d/\x / 2 ^ d<=2097151:=by
 have:=Ke d hd;have q0:0<=x / 2 ^ d:=GK hx.1 om;have q1:x / 2 ^ d<=x:=Int.ediv_le_self _ hx.1;omega
theorem Lb(p:Part)(s:List Span)(hs:s.length<=10000000000):PC Tryz.prog 189 [Dp p,AA s] (AA (imgL p s)):=by
 have hM:=IB s topS om (by simp[topS]);obtain⟨mp,mb,mm⟩:=OZ s
 have hml:(EN (AR s) (AR topS)).length<=10000000001:=by
  have h1:=MQ (AR s) (AR topS);have h2:=En s;have h3:=En topS;have h4:topS.length=1:=rfl;omega
 cases hb:EJ p with
 |false =>
  have hB:=I7 p;rw[hb] at hB;refine Cd Ou ?_;unfold Ks;have e_:=hB;refine ywC ?_;clear e_
  all_goals (rw[imgL,Ae hb])
 |true =>
 have hB:=I7 p;rw[hb] at hB;have hbi:=Ih.1 hb;have ht:=Ke p.take.toNat om;have hw1:IntKind.i64.wrap (1 * 2 ^ min p.take.toNat IntKind.i64.bits)=2 ^ p.take.toNat:=by rw[Kz om om];omega
 have hw2:IntKind.i64.wrap (2 ^ p.take.toNat-1)=2 ^ p.take.toNat-1:=IntWalk.i64_in _ om;refine Cd Ou ?_;unfold Ks;(with_reducible repeat'(first|simp(disch:=omega)only[push_cast,↓zz,seval,hw1,hw2,topS,AA,Ce,AD,AX,DC]|refine sp_ ?_ ?_<;>try(intro hc;push_cast at hc)|refine ee hB ?_|refine ee hM ?_|((first|refine cc hB ?_|refine cc hM ?_);simp(disch:=omega)only[push_cast,↓zz,seval,hw1,hw2,topS,AA,Ce,AD,AX,DC];fail_if_success change False)|omega|intro _));have hI:imgL p s=if p.up=0 then AR (imgF p.drop.toNat p.take.toNat (EN (AR s) (AR topS)) []) else AR ((Dx (AR (AR (imgF p.drop.toNat p.take.toNat (EN (AR s) (AR topS)) [])))).map λx=>oneS (x * 2 ^ p.up.toNat)):=by rw[imgL,Ad (by simp[hb])]
 have hTS:[(⟨0,2097151⟩:Span)]=topS:=rfl;rw[hTS,hI];generalize EN (AR s) (AR topS)=m at *;have hd:=Ke p.drop.toNat om
 have hsh:∀x:Int,0<=x/\x<=2097151->x.fdiv (2 ^ min p.drop.toNat IntKind.i64.bits)=x / 2 ^ p.drop.toNat/\(0<=x / 2 ^ p.drop.toNat/\x / 2 ^ p.drop.toNat<=2097151)/\JF .and .i64 (x / 2 ^ p.drop.toNat) (2 ^ p.take.toNat-1)=x / 2 ^ p.drop.toNat % 2 ^ p.take.toNat:=λx hx =>
  ⟨Y8 om,Wu om hx,zha om (Wu om hx)⟩
 refine Ba (B7 (λ(s:Nat × List Span)=>s.1<=m.length/\s.2.length<=2 * s.1/\(∀t∈s.2,0<=t.lo/\t.hi<=2 ^ p.take.toNat-1)/\imgF p.drop.toNat p.take.toNat m []=imgF p.drop.toNat p.take.toNat (m.drop s.1) s.2) (λs=>m.length-s.1)
  (λs=>[(2,.ptr 0 1 0 0),(5,.int .i64 (2 ^ p.take.toNat-1)),(6,.ref 1 1 0 s.2.length),(23,AA m),(24,.int .i64 m.length),(25,.int .i64 s.1)]) (λs=>[⟨4,1,true,[Dp p]⟩,⟨2,1,false,s.2.map Ce⟩]) (λenv _=>[D4 4 (env 2),D4 2 (env 6)]) (0,[]) ⟨oc,oc,oc,oc⟩ ?_ ?_)
 ·exact gwA
 rintro⟨k,out⟩ ⟨h1,h2,h2b,h3⟩;simp only at h1 h2 h2b h3;rcases Aj k m.length with hk|hk
 ·have hx:=mb _ (Bi hk)
  rw[drop_at hk,imgF,imgS] at h3;obtain⟨a1,a2,a3⟩:=hsh (nth m k).lo om;obtain⟨b1,b2,b3⟩:=hsh (nth m k).hi om;generalize (nth m k).lo / 2 ^ p.drop.toNat=u at *;generalize (nth m k).hi / 2 ^ p.drop.toNat=v at *;have hbk:2 ^ p.take.toNat-1<=v-u->imgF p.drop.toNat p.take.toNat m []=allS p.take.toNat:=λh=>by rw[h3,Ae h]
  have hN:=CE (allS p.take.toNat) (by simp[allS]);have hEa:=J4 (AR (allS p.take.toNat)) (by have:=En (allS p.take.toNat);simp[allS] at this;simp[allS];omega);refine W_T ?_;(with_reducible repeat'(first|simp(disch:=omega)only[push_cast,↓zz,seval,a1,a3,b1,b3,allS,AA,Ce,AD,AX,DC]|refine sp_ ?_ ?_<;>try(intro hc;push_cast at hc)|refine ee hN ?_|refine ee hEa ?_|((first|refine cc hN ?_|refine cc hEa ?_);simp(disch:=omega)only[push_cast,↓zz,seval,a1,a3,b1,b3,allS,AA,Ce,AD,AX,DC];fail_if_success change False)|omega|intro _))
  ·rw[hbk (by assumption),Ae (by assumption)];rfl
  ·rw[hbk (by assumption),Ad (by assumption)]
   have hal:allS p.take.toNat=[⟨0,2 ^ p.take.toNat-1⟩]:=rfl;rw[hal];have h2c:∀t∈[(⟨0,2 ^ p.take.toNat-1⟩:Span)],0<=t.lo/\t.hi<=2 ^ p.take.toNat-1:=oc
   have hu:p.take<=6:=om
   have h64:(2:Int) ^ p.take.toNat<=64:=by
    have e:=C8 (n:=2) ox (show p.take.toNat<=6 by omega);have e2:((2 ^ p.take.toNat:Nat):Int)=2 ^ p.take.toNat:=oc
    omega
   have hmm:∀v,memL (AR [⟨0,2 ^ p.take.toNat-1⟩]) v->0<=v/\v<=2 ^ p.take.toNat-1:=λv hv=>by
    obtain⟨t,ht1,ht2,ht3⟩:=(((Bo _).2 v).1 hv).1;have:=h2c t ht1;omega
   have hsy:Syms (AR [⟨0,2 ^ p.take.toNat-1⟩]):=Me (Bo _).1 λv hv=>by have:=hmm v hv;omega
   have hNN:AR (AR [⟨0,2 ^ p.take.toNat-1⟩])=AR [⟨0,2 ^ p.take.toNat-1⟩]:=Gt (Bo _).1 λs hs=>by have:=hsy.2 s hs;omega
   rw[hNN];have hit:=J3 (AR [⟨0,2 ^ p.take.toNat-1⟩]) (by have:=hsy.len;omega) (by intro s hs;have:=hsy.2 s hs;omega);have hln:=hsy.nums;have hmem:∀k,k<(Dx (AR [⟨0,2 ^ p.take.toNat-1⟩])).length->0<=nth (Dx (AR [⟨0,2 ^ p.take.toNat-1⟩])) k/\nth (Dx (AR [⟨0,2 ^ p.take.toNat-1⟩])) k<=63:=λk hk=>by have:=hmm _ (Ff.1 (Bi hk));omega
   generalize AR [⟨0,2 ^ p.take.toNat-1⟩]=M at *;generalize Dx M=l at *
   refine Kv (Sf (σ:=Nat × List Span) (λk s=>s.2=(l.take k).map (λx=>oneS (x * 2 ^ p.up.toNat))/\s.2.length<=k) [(2,.ptr 0 1 0 0),(11,.ptr 1 1 0 0),(84,.fn 232 [.cptr (AA M)])] (λs=>[⟨4,1,true,[Dp p]⟩,⟨1,1,true,[.ref 2 s.1 0 s.2.length]⟩,⟨2,s.1,false,s.2.map Ce⟩])
    [.grp 0,.grp 4,.virt 2] 3 (1,[]) hit ?_ (λ_=>rfl) rfl ?_ rfl rfl (J5 _) (La _) oc ⟨oc,oc⟩ ?_ ?_)
   ·have f_:=hNN;exact gwB
   ·exact gwA
   ·rintro k row ⟨v,o⟩ hrow ⟨h1,h2⟩
    simp only at h1 h2;obtain⟨hk,rfl⟩:=S7 hrow;have hxb:=hmem k hk;have hw3:=Kz (x:=nth l k) (n:=p.up.toNat) om om
    have hstep:(l.take (k+1)).map (λx=>oneS (x * 2 ^ p.up.toNat))=o++[oneS (nth l k * 2 ^ p.up.toNat)]:=by
     rw[take_at hk,Aw,<-h1];rfl
    generalize nth l k=x at *;refine W_T ?_;refine ywA ?_;refine W_T ?_;have f_:=hw3;refine ywB ?_;clear f_;exact⟨(v+1,o++[oneS (x * 2 ^ p.up.toNat)]),⟨⟨rfl,oc⟩,rfl,by rw[Aw];exact AN _ _⟩,hstep.symm,by simp;omega⟩
   ·rintro⟨v,o⟩ ⟨h1,h2⟩
    simp only[Au] at h1 h2;rw[As] at h1;rw[<-h1];have hN2:=CE o om;(with_reducible repeat'(first|simp(disch:=omega)only[push_cast,↓zz,seval,DC]|refine sp_ ?_ ?_<;>try(intro hc;push_cast at hc)|refine ee hN2 ?_|(refine cc hN2 ?_;simp(disch:=omega)only[push_cast,↓zz,seval,DC];fail_if_success change False)|omega|intro _))
  all_goals rw[Ad (by assumption)] at h3
  ·rw[Ae (by assumption)] at h3
   exact⟨(k+1,out++[⟨u % 2 ^ p.take.toNat,v % 2 ^ p.take.toNat⟩]),⟨⟨oc,oc⟩,by rw[Aw];exact AN _ _⟩,⟨by simp only;omega,by simp;omega,λt ht=>by
    rcases Av.1 ht with ht|ht
    ·exact h2b t ht
    ·simp only[Am] at ht
     subst ht;have m0:=BR u (b:=2 ^ p.take.toNat) om;have m1:=BF v (b:=2 ^ p.take.toNat) om
     exact⟨m0,by simp only;omega⟩,h3⟩,by simp only;omega⟩
  ·rw[Ad (by assumption)] at h3
   exact⟨(k+1,out++[⟨0,v % 2 ^ p.take.toNat⟩,⟨u % 2 ^ p.take.toNat,2 ^ p.take.toNat-1⟩]),⟨⟨oc,oc⟩,by rw[Aw];exact AN _ _⟩,⟨by simp only;omega,by simp;omega,λt ht=>by
    rcases Av.1 ht with ht|ht
    ·exact h2b t ht
    ·have m0:=BR u (b:=2 ^ p.take.toNat) om
     have m1:=BF v (b:=2 ^ p.take.toNat) om;simp only[Af,An,A7] at ht;rcases ht with rfl|rfl
     ·exact⟨AE _,by simp only;omega⟩
     ·exact⟨m0,AE _⟩,h3⟩,by simp only;omega⟩
 ·rw[Ao hk,imgF] at h3
  rw[h3];have hN:=CE out om;have hEa:=J4 (AR out) (by have:=En out;omega);refine W_T ?_;(with_reducible repeat'(first|simp(disch:=omega)only[push_cast,↓zz,seval]|refine sp_ ?_ ?_<;>try(intro hc;push_cast at hc)|refine ee hN ?_|refine ee hEa ?_|((first|refine cc hN ?_|refine cc hEa ?_);simp(disch:=omega)only[push_cast,↓zz,seval];fail_if_success change False)|omega|intro _))
  ·rw[Ae (by assumption)]
  ·rw[Ad (by assumption)]
   have hu:p.take<=6:=om
   have h64:(2:Int) ^ p.take.toNat<=64:=by
    have e:=C8 (n:=2) ox (show p.take.toNat<=6 by omega);have e2:((2 ^ p.take.toNat:Nat):Int)=2 ^ p.take.toNat:=oc
    omega
   have hmm:∀v,memL (AR out) v->0<=v/\v<=2 ^ p.take.toNat-1:=λv hv=>by
    obtain⟨t,ht1,ht2,ht3⟩:=(((Bo _).2 v).1 hv).1;have:=h2b t ht1;omega
   have hsy:Syms (AR out):=Me (Bo _).1 λv hv=>by have:=hmm v hv;omega
   have hNN:AR (AR out)=AR out:=Gt (Bo _).1 λs hs=>by have:=hsy.2 s hs;omega
   rw[hNN];have hit:=J3 (AR out) (by have:=hsy.len;omega) (by intro s hs;have:=hsy.2 s hs;omega);have hln:=hsy.nums;have hmem:∀k,k<(Dx (AR out)).length->0<=nth (Dx (AR out)) k/\nth (Dx (AR out)) k<=63:=λk hk=>by have:=hmm _ (Ff.1 (Bi hk));omega
   generalize AR out=M at *;generalize Dx M=l at *
   refine Kv (Sf (σ:=Nat × List Span) (λk s=>s.2=(l.take k).map (λx=>oneS (x * 2 ^ p.up.toNat))/\s.2.length<=k) [(2,.ptr 0 1 0 0),(11,.ptr 1 1 0 0),(84,.fn 232 [.cptr (AA M)])] (λs=>[⟨4,1,true,[Dp p]⟩,⟨1,1,true,[.ref 2 s.1 0 s.2.length]⟩,⟨2,s.1,false,s.2.map Ce⟩])
    [.grp 0,.grp 2,.virt 2] 3 (1,[]) hit ?_ (λ_=>rfl) rfl ?_ rfl rfl (J5 _) (La _) oc ⟨oc,oc⟩ ?_ ?_)
   ·have f_:=hNN;exact gwB
   ·exact gwA
   ·rintro k row ⟨v,o⟩ hrow ⟨h1,h2⟩
    simp only at h1 h2;obtain⟨hk,rfl⟩:=S7 hrow;have hxb:=hmem k hk;have hw3:=Kz (x:=nth l k) (n:=p.up.toNat) om om
    have hstep:(l.take (k+1)).map (λx=>oneS (x * 2 ^ p.up.toNat))=o++[oneS (nth l k * 2 ^ p.up.toNat)]:=by
     rw[take_at hk,Aw,<-h1];rfl
    generalize nth l k=x at *;refine W_T ?_;refine ywA ?_;refine W_T ?_;have f_:=hw3;refine ywB ?_;clear f_;exact⟨(v+1,o++[oneS (x * 2 ^ p.up.toNat)]),⟨⟨rfl,oc⟩,rfl,by rw[Aw];exact AN _ _⟩,hstep.symm,by simp;omega⟩
   ·rintro⟨v,o⟩ ⟨h1,h2⟩
    simp only[Au] at h1 h2;rw[As] at h1;rw[<-h1];have hN2:=CE o om;(with_reducible repeat'(first|simp(disch:=omega)only[push_cast,↓zz,seval,DC]|refine sp_ ?_ ?_<;>try(intro hc;push_cast at hc)|refine ee hN2 ?_|(refine cc hN2 ?_;simp(disch:=omega)only[push_cast,↓zz,seval,DC];fail_if_success change False)|omega|intro _))
def preY(d t:Nat)(x:Span)(j:Int)(y:Span):Span:=⟨max x.lo ((j * 2 ^ t+y.lo) * 2 ^ d),min x.hi ((j * 2 ^ t+y.hi+1) * 2 ^ d-1)⟩
def Ui(s:Span):List Span:=if s.lo<=s.hi then [s] else []
def preW(d t:Nat)(want:List Span)(x:Span)(j:Int):List Span:=want.flatMap λy=>Ui (preY d t x j y)
def preX(d t:Nat)(want:List Span)(x:Span):List Span:=(IC (x.lo / 2 ^ d / 2 ^ t) (x.hi / 2 ^ d / 2 ^ t+1-x.lo / 2 ^ d / 2 ^ t).toNat).flatMap λj=>preW d t want x j
def preL(p:Part)(s g:List Span):List Span :=
 if EJ p=false then [] else AR ((EN (AR s) (AR topS)).flatMap λx=>preX p.drop.toNat p.take.toNat (J6 p g) x)
def Low(n:Nat)(l:List Span):Prop:=Plain l/\∀s∈l,0<=s.lo/\s.lo<=s.hi/\s.hi<=2 ^ n-1
theorem zar:∀{l:List Span}{f N:Nat},Plain l->(∀s∈l,(f:Int)<=s.lo/\s.hi<N)->f<=N->l.length+f<=N
 |[],f,N,_,_,hf=>by simpa using hf
 |s::l,f,N,h,hb,hf=>by
  have h1:=hb s oc;have h2:=h.head
  have:=zar (l:=l) (f:=(s.hi+1).toNat) (N:=N) h.tail (λt ht=>by
   have:=(AH.1 h.2).1 t ht;have:=hb t (by simp[ht])
   omega) om
  simp only[List.length_cons];omega
theorem Low.len{n:Nat}{l:List Span}(h:Low n l):(l.length:Int)<=2 ^ n:=by
 have e:((2 ^ n:Nat):Int)=2 ^ n:=oc
 have:=zar (f:=0) (N:=2 ^ n) h.1 (λs hs=>by have:=h.2 s hs;simp only[Int.ofNat_zero];omega) (Ap _);omega
theorem zug{n:Nat}{l:List Span}(h1:Plain l)(h2:∀v,memL l v->0<=v/\v<=2 ^ n-1):Low n l :=
 ⟨h1,λs hs=>by
  have hle:=h1.1 s hs;have:=h2 s.lo ⟨s,hs,AE _,hle⟩;have:=h2 s.hi ⟨s,hs,hle,AE _⟩
  omega⟩
theorem S8{p:Part}(g:List Span)(hb:EJ p=true):Low p.take.toNat (J6 p g)/\∀w,memL (J6 p g) w↔(0<=w/\w<=2 ^ p.take.toNat-1)/\hasI g (w * 2 ^ p.up.toNat)=true:=by
 have hbi:=Ih.1 hb;have ht:=Ke p.take.toNat om
 have key:Plain (J6 p g)/\∀w,memL (J6 p g) w↔(0<=w/\w<=2 ^ p.take.toNat-1)/\hasI g (w * 2 ^ p.up.toNat)=true:=by
  unfold J6;rw[Wt om];split
  ·rename_i hu
   obtain⟨p1,p2⟩:=Bo g;obtain⟨q1,q2⟩:=HI (AR g) (allS p.take.toNat) p1 ⟨by simp[allS];omega,by simp[allS]⟩;refine⟨q1,λw=>?_⟩;rw[q2 w,p2 w,allS,Bs,hu,G5];simp only[BQ,A7];rw[show w * 2 ^ (0:Int).toNat=w by simp];constructor
   ·rintro⟨⟨h1,h2⟩,h3⟩;exact⟨h3,h2.1,h2.2,h1⟩
   ·rintro⟨h3,h1,h2,h4⟩;exact⟨⟨h4,h1,h2⟩,h3⟩
  ·obtain⟨p1,p2⟩:=Bo (((Dx (allS p.take.toNat)).filter λx=>hasI g (x * 2 ^ p.up.toNat)).map oneS)
   refine⟨p1,λw=>?_⟩;rw[p2 w]
   have hm:memL (((Dx (allS p.take.toNat)).filter λx=>hasI g (x * 2 ^ p.up.toNat)).map oneS) w↔(0<=w/\w<=2 ^ p.take.toNat-1)/\hasI g (w * 2 ^ p.up.toNat)=true:=by
    constructor
    ·rintro⟨s,hs,h1,h2⟩
     obtain⟨x,hx,rfl⟩:=Al.1 hs;simp only at h1 h2;obtain rfl:w=x:=om
     obtain⟨k1,k2⟩:=AW.1 hx;rw[Ff,allS,Bs] at k1;simp only[BQ,A7] at k1;exact⟨k1,k2⟩
    ·rintro⟨h1,h2⟩
     refine⟨oneS w,Al.2 ⟨w,AW.2 ⟨?_,h2⟩,rfl⟩,AE _,AE _⟩;rw[Ff,allS,Bs];exact .inl h1
   rw[hm];constructor
   ·exact λh=>h.1
   ·exact λh=>⟨h,om,om⟩
 exact⟨zug key.1 λv hv=>((key.2 v).1 hv).1,key.2⟩
theorem zhb(s:Span):(Ui s).length<=1:=by unfold Ui;split<;>simp
theorem zas{d t:Nat}{want:List Span}{x:Span}{j:Int}{i:Nat}(h:i<want.length):preW d t (want.take (i+1)) x j=preW d t (want.take i) x j++Ui (preY d t x j (nth want i)):=by
 rw[take_at h,preW,Do];simp[preW]
theorem z0t{d t:Nat}{x:Span}{j:Int}:∀(want:List Span),(preW d t want x j).length<=want.length
 |[]=>by simp[preW]
 |y::w=>by
  have h1:=z0t (d:=d) (t:=t) (x:=x) (j:=j) w;have h2:=zhb (preY d t x j y);simp only[preW,BI,Ai,List.length_cons] at *;omega
set_option maxHeartbeats 2000000 in
theorem Uj(p:Part)(s g:List Span)(hs:s.length<=100000)(hg:g.length<=100000000000):PC Tryz.prog 193 [Dp p,AA s,AA g] (AA (preL p s g)):=by
 have hM:=IB s topS om (by simp[topS]);obtain⟨mp,mb,mm⟩:=OZ s
 have hml:(EN (AR s) (AR topS)).length<=100001:=by
  have h1:=MQ (AR s) (AR topS);have h2:=En s;have h3:=En topS;have h4:topS.length=1:=rfl;omega
 have hB:=I7 p;cases hb:EJ p with
 |false =>
  rw[hb] at hB;refine Cd Se ?_;unfold Nz;have e_:=hB;refine ywC ?_;clear e_
  all_goals (rw[preL,Ae hb])
 |true =>
 rw[hb] at hB;have hbi:=Ih.1 hb;have hT:=z5a p g hb hg;obtain⟨wl,_⟩:=S8 g hb;have hI:preL p s g=AR ((EN (AR s) (AR topS)).flatMap λx=>preX p.drop.toNat p.take.toNat (J6 p g) x):=by rw[preL,Ad (by simp[hb])]
 have hTS:[(⟨0,2097151⟩:Span)]=topS:=rfl;refine Cd Se ?_;unfold Nz;(with_reducible repeat'(first|simp(disch:=omega)only[push_cast,↓zz,seval,topS,AA,Ce,AD,AX,DC]|refine sp_ ?_ ?_<;>try(intro hc;push_cast at hc)|refine ee hB ?_|refine ee hT ?_|refine ee hM ?_|((first|refine cc hB ?_|refine cc hT ?_|refine cc hM ?_);simp(disch:=omega)only[push_cast,↓zz,seval,topS,AA,Ce,AD,AX,DC];fail_if_success change False)|omega|intro _));rw[hTS,hI];generalize EN (AR s) (AR topS)=m at *;generalize J6 p g=want at *;have hwl:=wl.len;have htk:=Ke p.take.toNat om;have hdr:=Ke p.drop.toNat om;have hd21:p.drop.toNat<=21:=om
 have ht21:p.take.toNat<=21:=om
 generalize hdd:p.drop.toNat=d at *;generalize htt:p.take.toNat=t at *
 have hsh:∀x:Int,0<=x/\x<=2097151->x.fdiv (2 ^ min d IntKind.i64.bits)=x / 2 ^ d/\(x / 2 ^ d).fdiv (2 ^ min t IntKind.i64.bits)=x / 2 ^ d / 2 ^ t/\(0<=x / 2 ^ d / 2 ^ t/\x / 2 ^ d / 2 ^ t * 2 ^ t<=2097151):=λx hx=>by
  have h1:=Wu hd21 hx;have h2:=Wu ht21 h1;have h3:=Int.ediv_mul_le (x / 2 ^ d) (b:=2 ^ t) om;exact⟨Y8 hd21,Y8 ht21,h2.1,om⟩
 refine Ba (B7 (λ(s:Nat × List Span)=>s.1<=m.length/\s.2.length<=s.1 * 4194304/\(m.flatMap λx=>preX d t want x)=s.2++(m.drop s.1).flatMap λx=>preX d t want x) (λs=>m.length-s.1)
  (λs=>[(3,.ptr 0 1 0 0),(7,AA want),(8,.ref 1 1 0 s.2.length),(25,AA m),(26,.int .i64 m.length),(27,.int .i64 s.1)]) (λs=>[⟨4,1,true,[Dp p]⟩,⟨2,1,false,s.2.map Ce⟩]) (λenv _=>[D4 4 (env 3),D4 2 (env 8)]) (0,[]) ⟨oc,oc,oc⟩ ?_ ?_)
 ·exact gwA
 rintro⟨k,out⟩ ⟨h1,h2,h3⟩;simp only at h1 h2 h3;rcases Aj k m.length with hk|hk
 ·have hx:=mb _ (Bi hk)
  rw[drop_at hk,BI,preX] at h3;obtain⟨a1,a2,a3⟩:=hsh (nth m k).lo om;obtain⟨b1,b2,b3⟩:=hsh (nth m k).hi om;refine W_T ?_;have f_:=Aa hdd (Aa htt (Aa a1 (Aa a2 (Aa b1 b2))));refine ywB ?_;clear f_;generalize hjl:(nth m k).lo / 2 ^ d / 2 ^ t=jl at *;generalize hjh:(nth m k).hi / 2 ^ d / 2 ^ t=jh at *;generalize nth m k=x at *;generalize haf:(m.drop (k+1)).flatMap (λx=>preX d t want x)=after at *;generalize hT2:(2:Int) ^ t=T at *
  refine Ba (B7 (λ(s:Int × List Span)=>(jl<=s.1/\(s.1<=jh+1\/s.1=jl))/\(s.2.length:Int)<=k * 4194304+(s.1-jl) * T/\(m.flatMap λx=>preX d t want x)=s.2++((IC s.1 (jh+1-s.1).toNat).flatMap (λj=>preW d t want x j)++after)) (λs=>(jh+1-s.1).toNat)
   (λs=>[(3,.ptr 0 1 0 0),(7,AA want),(8,.ref 1 1 0 s.2.length),(10,.ptr 2 1 0 0),(11,.int .i64 s.1),(25,AA m),(26,.int .i64 m.length),(27,.int .i64 k)]) (λs=>[⟨4,1,true,[Dp p]⟩,⟨2,1,false,s.2.map Ce⟩,⟨2,1,true,[Ce x]⟩]) (λenv _=>[D4 4 (env 3),D4 2 (env 8),D4 2 (env 10)]) (jl,out) ⟨⟨oc,oc⟩,by simp only[Int.sub_self,Int.zero_mul];omega,h3⟩ ?_ ?_)
  ·exact gwA
  rintro⟨j,o⟩ ⟨⟨g1,g2⟩,g3,g4⟩;simp only at g1 g2 g3 g4
  have hTb:(j-jl) * T<=4194304:=by
   have:(j-jl) * T<=(jh+1) * T:=CN om om;rw[Int.add_mul] at this;omega
  rcases Ee jh j with hj|hj
  ·rw[zh5 hj,List.flatMap_nil,List.nil_append] at g4
   refine W_T ?_;have f_:=Aa hdd (Aa htt (Aa b1 b2));refine ywB ?_;clear f_;exact⟨(k+1,o),⟨⟨rfl,oc⟩,AN _ _⟩,⟨by simp only;omega,by simp only;omega,by rw[haf];exact g4⟩,by simp only;omega⟩
  ·rw[zp5 hj,BI,A3] at g4
   have hjb:0<=j * T/\j * T<=2097151:=by
    have q1:0<=j * T:=DU om om;have q2:j * T<=jh * T:=CN hj om;omega
   have hj4:j<=2097151:=by
    have:j * 1<=j * T:=CQ om om;omega
   have w1:IntKind.i64.wrap (j * 2 ^ min t IntKind.i64.bits)=j * T:=by rw[Kz ht21 om,hT2]
   refine W_T ?_;have f_:=Aa hdd (Aa htt (Aa b1 b2));refine ywB ?_;clear f_
   refine Ba (B7 (λ(s:Nat × List Span)=>s.1<=want.length/\s.2=o++preW d t (want.take s.1) x j) (λs=>want.length-s.1)
    (λs=>[(3,.ptr 0 1 0 0),(7,AA want),(8,.ref 1 1 0 s.2.length),(10,.ptr 2 1 0 0),(11,.int .i64 j),(25,AA m),(26,.int .i64 m.length),(27,.int .i64 k),(51,AA want),(52,.int .i64 want.length),(53,.int .i64 s.1)]) (λs=>[⟨4,1,true,[Dp p]⟩,⟨2,1,false,s.2.map Ce⟩,⟨2,1,true,[Ce x]⟩]) (λenv _=>[D4 4 (env 3),D4 2 (env 8),D4 2 (env 10)]) (0,o) ⟨oc,by simp[preW]⟩ ?_ ?_)
   ·exact gwA
   rintro⟨i,q⟩ ⟨f1,f2⟩;simp only at f1 f2
   have hql:(q.length:Int)<=k * 4194304+(j-jl) * T+T:=by
    have:=z0t (d:=d) (t:=t) (x:=x) (j:=j) (want.take i);rw[f2];simp only[Ai,Bb] at *;omega
   rcases Aj i want.length with hi|hi
   ·have hy:=wl.2 _ (Bi hi)
    rw[hT2] at hy;have hsn:=zas (d:=d) (t:=t) (x:=x) (j:=j) hi;generalize hyy:nth want i=y at *;have hya:y.lo<T/\y.hi<T:=om
    have w2:JF .or .i64 (j * T) y.lo=j * T+y.lo:=zjw t j.toNat (by rw[hT2,EG,BS om]) (by rw[hT2];omega) (by show _<(2:Int) ^ 64;omega) (IntWalk.i64_in _ om);have w3:JF .or .i64 (j * T) y.hi=j * T+y.hi:=zjw t j.toNat (by rw[hT2,EG,BS om]) (by rw[hT2];omega) (by show _<(2:Int) ^ 64;omega) (IntWalk.i64_in _ om);have w4:=Kz (x:=j * T+y.lo) hd21 om;have w5:IntKind.i64.wrap (j * T+y.hi+1)=j * T+y.hi+1:=IntWalk.i64_in _ om;have w6:=Kz (x:=j * T+y.hi+1) hd21 om
    have w7:IntKind.i64.wrap ((j * T+y.hi+1) * 2 ^ d-1)=(j * T+y.hi+1) * 2 ^ d-1:=by
     have r1:(j * T+y.hi+1) * 2 ^ d<=4194304 * 2097152:=Fv om hdr.2 om om;have r2:0<=(j * T+y.hi+1) * 2 ^ d:=DU om om;exact IntWalk.i64_in _ om
    simp only[preY,hT2] at hsn;refine W_T ?_;(with_reducible repeat'(first|simp(disch:=omega)only[push_cast,↓zz,seval,hdd,htt,hyy,w1,w2,w3,w4,w5,w6,w7]|refine sp_ ?_ ?_<;>try(intro hc;push_cast at hc)|omega|intro _))
    ·rw[Ui,Ae (by assumption)] at hsn
     exact⟨(i+1,q++[⟨max x.lo ((j * T+y.lo) * 2 ^ d),min x.hi ((j * T+y.hi+1) * 2 ^ d-1)⟩]),⟨⟨oc,oc⟩,by rw[Aw];exact AN _ _⟩,⟨by simp only;omega,by simp only;rw[f2,hsn,A3]⟩,by simp only;omega⟩
    ·rw[Ui,Ad (by assumption),Ax] at hsn
     exact⟨(i+1,q),⟨⟨rfl,oc⟩,AN _ _⟩,⟨by simp only;omega,by simp only;rw[f2,hsn]⟩,by simp only;omega⟩
   ·obtain rfl:i=want.length:=om
    rw[As] at f2;rw[<-A3,<-f2] at g4;refine W_T ?_;refine ywA ?_;exact⟨(j+1,q),⟨⟨rfl,rfl⟩,AN _ _⟩,⟨⟨by simp only;omega,by simp only;omega⟩,by simp only;rw[show j+1-jl=j-jl+1 by omega,Int.add_mul];omega,g4⟩,by simp only;omega⟩
 ·rw[Ao hk,List.flatMap_nil,Ax] at h3
  rw[h3];have hN:=CE out om;refine W_T ?_;(with_reducible repeat'(first|simp(disch:=omega)only[push_cast,↓zz,seval,DC]|refine sp_ ?_ ?_<;>try(intro hc;push_cast at hc)|refine ee hN ?_|(refine cc hN ?_;simp(disch:=omega)only[push_cast,↓zz,seval,DC];fail_if_success change False)|omega|intro _))
theorem zhc{s:Span}{v:Int}:memL (Ui s) v↔s.lo<=v/\v<=s.hi:=by
 unfold Ui;split
 ·rw[Bs];simp only[BQ,A7]
 ·rename_i h
  exact⟨λhh=>absurd hh (BQ _),λhh=>by omega⟩
theorem Lc{α:Type}{f:α->List Span}:∀{l:List α}{v:Int},memL (l.flatMap f) v↔∃x∈l,memL (f x) v
 |[],v=>by simp[memL]
 |x::l,v=>by
  rw[BI,FX,Lc];constructor
  ·rintro (h|⟨y,hy,h⟩)
   ·exact⟨x,oc,h⟩
   ·exact⟨y,by simp[hy],h⟩
  ·rintro⟨y,hy,h⟩
   rcases Af.1 hy with rfl|hy
   ·exact .inl h
   ·exact .inr ⟨y,hy,h⟩
theorem Y9{a b v D:Int}(hD:0<D):(a * D<=v/\v<=(b+1) * D-1)↔(a<=v / D/\v / D<=b):=by
 rw[Int.le_ediv_iff_mul_le hD]
 have:v / D<=b↔v<=(b+1) * D-1:=by
  rw[show v / D<=b↔v / D<b+1 by omega,Int.ediv_lt_iff_lt_mul hD];omega
 rw[this]
theorem z0u{d t:Nat}{want:List Span}{x:Span}{v:Int}(hw:Low t want)(hx:x.lo<=x.hi):memL (preX d t want x) v↔(x.lo<=v/\v<=x.hi)/\memL want (v / 2 ^ d % 2 ^ t):=by
 have hD:(0:Int)<2 ^ d:=E1 ox;have hT:(0:Int)<2 ^ t:=E1 ox
 have hone:∀j y,y∈want->(memL (Ui (preY d t x j y)) v↔(x.lo<=v/\v<=x.hi)/\(j * 2 ^ t+y.lo<=v / 2 ^ d/\v / 2 ^ d<=j * 2 ^ t+y.hi)):=λj y hy=>by
  have hb:=Y9 (a:=j * 2 ^ t+y.lo) (b:=j * 2 ^ t+y.hi) (v:=v) hD;rw[zhc,<-hb];simp only[preY];omega
 rw[preX,Lc];constructor
 ·rintro⟨j,hj,h⟩
  rw[preW,Lc] at h;obtain⟨y,hy,h⟩:=h;obtain⟨h1,h2,h3⟩:=(hone j y hy).1 h;have hyb:=hw.2 y hy;refine⟨h1,y,hy,?_⟩;have e:v / 2 ^ d=j * 2 ^ t+(v / 2 ^ d-j * 2 ^ t):=om
  have e2:v / 2 ^ d % 2 ^ t=v / 2 ^ d-j * 2 ^ t:=by
   rw[e,Int.add_comm (j * 2 ^ t),Int.add_mul_emod_self_right];rw[Int.emod_eq_of_lt om om];omega
  rw[e2];omega
 ·rintro⟨h1,y,hy,h2⟩
  have hq:=Int.emod_add_mul_ediv (v / 2 ^ d) (2 ^ t);refine⟨v / 2 ^ d / 2 ^ t,?_,?_⟩
  ·have m1:x.lo / 2 ^ d / 2 ^ t<=v / 2 ^ d / 2 ^ t:=Cg hT (Cg hD h1.1)
   have m2:v / 2 ^ d / 2 ^ t<=x.hi / 2 ^ d / 2 ^ t:=Cg hT (Cg hD h1.2);simp only[IC,Al,AF];exact⟨(v / 2 ^ d / 2 ^ t-x.lo / 2 ^ d / 2 ^ t).toNat,om,om⟩
  ·rw[preW,Lc]
   refine⟨y,hy,(hone _ y hy).2 ⟨h1,?_⟩⟩;rw[EG] at hq;omega
theorem Uk{p:Part}(s g:List Span)(hb:EJ p=true):Plain (preL p s g)/\∀v,memL (preL p s g) v↔memL s v/\(0<=v/\v<=2097151)/\hasI g (valP p v)=true:=by
 have hbi:=Ih.1 hb;have ht:=Ke p.take.toNat om;obtain⟨wl,wm⟩:=S8 g hb;obtain⟨mp,mb,mm⟩:=OZ s;have e:preL p s g=AR ((EN (AR s) (AR topS)).flatMap λx=>preX p.drop.toNat p.take.toNat (J6 p g) x):=by rw[preL,Ad (by simp[hb])]
 obtain⟨n1,n2⟩:=Bo ((EN (AR s) (AR topS)).flatMap λx=>preX p.drop.toNat p.take.toNat (J6 p g) x);rw[e];refine⟨n1,λv=>?_⟩
 have hkey:memL ((EN (AR s) (AR topS)).flatMap λx=>preX p.drop.toNat p.take.toNat (J6 p g) x) v↔memL s v/\(0<=v/\v<=2097151)/\hasI g (valP p v)=true:=by
  rw[Lc];constructor
  ·rintro⟨x,hx,h⟩
   obtain⟨h1,h2⟩:=(z0u wl (mb x hx).2.1).1 h;obtain⟨h3,h4⟩:=(mm v).1 ⟨x,hx,h1⟩;exact⟨h3,h4,((wm _).1 h2).2⟩
  ·rintro⟨h1,h2,h3⟩
   obtain⟨x,hx,h4⟩:=(mm v).2 ⟨h1,h2⟩;have m0:=BR (v / 2 ^ p.drop.toNat) (b:=2 ^ p.take.toNat) om;have m1:=BF (v / 2 ^ p.drop.toNat) (b:=2 ^ p.take.toNat) om;exact⟨x,hx,(z0u wl (mb x hx).2.1).2 ⟨h4,(wm _).2 ⟨⟨m0,om⟩,h3⟩⟩⟩
 rw[n2 v,hkey];constructor
 ·exact λh=>h.1
 ·exact λh=>⟨h,om,om⟩
theorem Mf(p:Int->Bool):∀(l:List Int)(out:List Span),ER l->Plain out->(∀x∈l,Y6 out x)->Plain (l.foldl (gF p) out)/\∀v,memL (l.foldl (gF p) out) v↔memL out v\/(v∈l/\p v=true)
 |[],out,_,h,_=>⟨h,λv=>by simp⟩
 |x::l,out,hr,h,ha=>by
  have hr':ER l:=(AH.1 hr).2;have hgt:=(AH.1 hr).1;have hax:=ha x oc;rw[List.foldl_cons,gF];cases hp:p x
  ·obtain⟨b1,b2⟩:=Mf p l out hr' h (λy hy=>ha y (by simp[hy]))
   refine⟨by simpa using b1,λv=>?_⟩;have:=b2 v;simp only[A8,Bq];rw[this,Af];constructor
   ·rintro (h|⟨h1,h2⟩)
    ·exact .inl h
    ·exact .inr ⟨.inr h1,h2⟩
   ·rintro (h|⟨rfl|h1,h2⟩)
    ·exact .inl h
    ·rw[hp] at h2;cases h2
    ·exact .inr ⟨h1,h2⟩
  ·obtain⟨a1,a2,a3⟩:=Sy (x:=⟨x,x⟩) h (AE _) hax
   obtain⟨b1,b2⟩:=Mf p l (addS out ⟨x,x⟩) hr' a1 (λy hy=>Sz a2 (by have:=hgt y hy;simp only;omega));refine⟨by simpa using b1,λv=>?_⟩;have:=b2 v;simp only[Br];rw[this,a3 v,Af];simp only;constructor
   ·rintro ((h|h)|⟨h1,h2⟩)
    ·exact .inl h
    ·obtain rfl:v=x:=om
     exact .inr ⟨.inl rfl,hp⟩
    ·exact .inr ⟨.inr h1,h2⟩
   ·rintro (h|⟨rfl|h1,h2⟩)
    ·exact .inl (.inl h)
    ·exact .inl (.inr ⟨AE _,AE _⟩)
    ·exact .inr ⟨h1,h2⟩
theorem Wv(lo:Int)(n:Nat):ER (IC lo n):=by
 unfold ER IC;rw[DJ];exact (List.pairwise_lt_range (n:=n)).imp (by intro a b h;omega)
theorem Q8:∀{l:List Span},Plain l->ER (Dx l)
 |[],_=>by simp[Dx,ER]
 |s::l,h=>by
  rw[KZ,ER,DI];refine⟨Wv _ _,Q8 h.tail,λa ha b hb=>?_⟩;have h1:=h.after (Ff.1 hb);simp only[IC,Al,AF] at ha;obtain⟨i,h2,rfl⟩:=ha;have:=h.head;omega
theorem YA(p:Int->Bool){l:List Span}(h:Plain l):Plain (Uh p (Dx l))/\∀v,memL (Uh p (Dx l)) v↔memL l v/\p v=true:=by
 obtain⟨h1,h2⟩:=Mf p (Dx l) [] (Q8 h) ⟨oc,oc⟩ (λx _ s hs=>by cases hs);refine⟨h1,λv=>?_⟩;rw[zao,h2 v,Ff];simp only[BQ,BC]
theorem z0v{l:List Span}{d:Int}(hd:-2147483648<=d/\d<=2147483648){v:Int}:memL (Gs l d) v↔(memL l (v-d)/\-1073741824<=v-d/\v-d<=1073741824)/\-1073741824<=v/\v<=1073741824:=by
 obtain⟨p1,p2⟩:=Bo l;obtain⟨q1,q2⟩:=Bo ((AR l).map (HJ d));rw[Gs,Ad om,q2 v,<-p2 (v-d)]
 have:memL ((AR l).map (HJ d)) v↔memL (AR l) (v-d):=by
  constructor
  ·rintro⟨s,hs,h1,h2⟩
   obtain⟨t,ht,rfl⟩:=Al.1 hs;exact⟨t,ht,by simp only[HJ] at h1;omega,by simp only[HJ] at h2;omega⟩
  ·rintro⟨t,ht,h1,h2⟩
   exact⟨HJ d t,Al.2 ⟨t,ht,rfl⟩,by simp only[HJ];omega,by simp only[HJ];omega⟩
 rw[this]
theorem CZ{p:Part}{x:Int}(hb:EJ p=true)(hx:0<=x/\x<=2097151):0<=valP p x/\valP p x<=66060288:=by
 have hbi:=Ih.1 hb;have ht:=Ke p.take.toNat om;have hu:=Ke p.up.toNat om;have m0:=BR (x / 2 ^ p.drop.toNat) (b:=2 ^ p.take.toNat) om;have m1:=BF (x / 2 ^ p.drop.toNat) (b:=2 ^ p.take.toNat) om;have hq:=Wu (d:=p.drop.toNat) om hx
 have m2:x / 2 ^ p.drop.toNat % 2 ^ p.take.toNat<=x / 2 ^ p.drop.toNat:=by
  have h1:=Int.emod_add_mul_ediv (x / 2 ^ p.drop.toNat) (2 ^ p.take.toNat);have h2:0<=2 ^ p.take.toNat * (x / 2 ^ p.drop.toNat / 2 ^ p.take.toNat):=DU om (GK hq.1 om);omega
 rw[valP];refine⟨DU m0 om,?_⟩;rcases hbi.2.2.2.2.2.2 with h0|h6
 ·rw[h0,show (2:Int) ^ (0:Int).toNat=1 by decide,Int.mul_one];omega
 ·have e:=C8 (n:=2) ox (show p.take.toNat<=6 by omega)
  have e2:((2 ^ p.take.toNat:Nat):Int)=2 ^ p.take.toNat:=oc
  have e3:=C8 (n:=2) ox (show p.up.toNat<=20 by omega);have e4:((2 ^ p.up.toNat:Nat):Int)=2 ^ p.up.toNat:=oc
  have:x / 2 ^ p.drop.toNat % 2 ^ p.take.toNat * 2 ^ p.up.toNat<=63 * 1048576:=Fv om om om om;omega
def eqP(a b:Term)(x:Int):Bool:=(Ga a [x]).isSome&&((Ga b [x]).isSome&&decide ((Ga a [x]).getD 0=(Ga b [x]).getD 0))
def eqT(a b:Term)(s:List Span):List Span:=Uh (eqP a b) (Dx (symI s))
theorem Ul(s:List Span):EN (AR s) (AR [⟨0,1114111⟩])=symI s:=by rw[symI,z56]
theorem Pa(l:List Span)(d:Int):(Gs l d).length<=l.length:=by
 unfold Gs;split
 ·simp
 ·have h1:=En ((AR l).map (HJ d))
  have h2:=En l;simp only[Au] at h1;omega
theorem eq_nil{a b:Term}{s:List Span}(h:∀x,0<=x/\x<=1114111->eqP a b x=false):eqT a b s=[]:=by
 obtain⟨h1,h2⟩:=MO s;obtain⟨b1,b2⟩:=YA (eqP a b) h1;refine Jz b1 ⟨oc,oc⟩ λv=>?_;rw[show memL (eqT a b s) v↔_ from b2 v];constructor
 ·rintro⟨h3,h4⟩
  rw[h v ((h2 v).1 h3).1] at h4;cases h4
 ·exact λh=>absurd h (BQ _)
def sumS(x y:Span):Span:=⟨x.lo+y.lo,x.hi+y.hi⟩
def YB(a b:List Span):List Span:=a.flatMap λx=>b.map (sumS x)
def Ww(a b:List Span):List Span:=AR (YB a b)
theorem z5b(x:Span)(a b:List Span):YB (x::a) b=b.map (sumS x)++YB a b:=rfl
theorem z5c{l m:List Span}(h:∀v,-1073741824<=v/\v<=1073741824->(memL l v↔memL m v)):AR l=AR m:=by
 obtain⟨p1,p2⟩:=Bo l;obtain⟨q1,q2⟩:=Bo m;refine Jz p1 q1 λv=>?_;rw[p2,q2];constructor
 ·rintro⟨h1,h2,h3⟩;exact⟨(h v ⟨h2,h3⟩).1 h1,h2,h3⟩
 ·rintro⟨h1,h2,h3⟩;exact⟨(h v ⟨h2,h3⟩).2 h1,h2,h3⟩
theorem zat{l m:List Span}:AR (AR l++m)=AR (l++m):=z5c λv hv=>by
 rw[FX,FX,(Bo l).2 v];constructor
 ·rintro (⟨h,_⟩|h)
  ·exact .inl h
  ·exact .inr h
 ·rintro (h|h)
  ·exact .inl ⟨h,hv⟩
  ·exact .inr h
theorem Wx:∀{l:List Span}{f:Nat},Plain l->(∀s∈l,(f:Int)-1073741824<=s.lo/\s.hi<=1073741824)->f<=2147483649->l.length+f<=2147483649
 |[],f,_,_,hf=>by simpa using hf
 |s::l,f,h,hb,hf=>by
  have h1:=hb s oc;have h2:=h.head
  have:=Wx (l:=l) (f:=(s.hi+1073741825).toNat) h.tail (λt ht=>by
   have:=(AH.1 h.2).1 t ht;have:=hb t (by simp[ht])
   omega) om
  simp only[List.length_cons];omega
theorem Q9(l:List Span):(AR l).length<=2147483649:=by
 have:=Wx (f:=0) (Bo l).1 (λs hs=>by have:=E6 l s hs;simp only[Int.ofNat_zero];omega) om;omega
def Bd(l:List Span):Prop:=∀s∈l,(-1099511627776<=s.lo/\s.lo<=1099511627776)/\-1099511627776<=s.hi/\s.hi<=1099511627776
theorem z5d(l:List Span)(hl:l.length<=1000000000000):B9 Tryz.prog 144 [AA l] (Abs.hl []) λy H'=>y=.ref 0 1 0 (AR l).length/\H'=Abs.hl [⟨2,1,false,(AR l).map Ce⟩] :=
 VU om ((N9 l hl).mono λy H' ⟨rest,h1,h2⟩=>⟨rest.map Ce,h1,by rw[h2,Aw]⟩)
theorem zau(a b:List Span)(la:a.length<=3000000000)(lb:b.length<=3000000000)(ha:Bd a)(hb:Bd b):PC Tryz.prog 229 [AA a,AA b] (AA (Ww a b)):=by
 refine Cd Yu ?_;unfold Qj;refine ywA ?_
 refine Ba (B7 (λ(s:Nat × List Span)=>s.1<=a.length/\s.2.length<=2147483649/\Ww a b=AR (s.2++YB (a.drop s.1) b)) (λs=>a.length-s.1)
  (λs=>[(1,AA b),(5,.ref 0 1 0 s.2.length),(10,AA a),(11,.int .i64 a.length),(12,.int .i64 s.1)]) (λs=>[⟨2,1,false,s.2.map Ce⟩]) (λenv _=>[D4 2 (env 5)]) (0,[]) ⟨oc,oc,by simp[Ww]⟩ ?_ ?_)
 ·exact gwA
 rintro⟨k,out⟩ ⟨h1,h2,h3⟩;simp only at h1 h2 h3;rcases Aj k a.length with hk|hk
 ·rw[drop_at hk,z5b,<-A3] at h3
  have hx:=ha _ (Bi hk);generalize hxe:nth a k=x at *;refine W_T ?_;have f_:=hxe;refine ywB ?_;clear f_
  refine Ba (B7 (λ(s:Nat × List Span)=>s.1<=b.length/\s.2=out++(b.take s.1).map (sumS x)/\s.2.length=out.length+s.1) (λs=>b.length-s.1)
   (λs=>[(1,AA b),(5,.ref 0 1 0 s.2.length),(7,.ptr 1 1 0 0),(10,AA a),(11,.int .i64 a.length),(12,.int .i64 k),(16,AA b),(17,.int .i64 b.length),(18,.int .i64 s.1)]) (λs=>[⟨2,1,false,s.2.map Ce⟩,⟨2,1,true,[Ce x]⟩]) (λenv _=>[D4 2 (env 5),D4 2 (env 7)]) (0,out) ⟨oc,oc,oc⟩ ?_ ?_)
  ·exact gwA
  rintro⟨j,o⟩ ⟨g1,g2,g3⟩;simp only at g1 g2 g3;rcases Aj j b.length with hj|hj
  ·have hy:=hb _ (Bi hj)
   have hstep:out++(b.take (j+1)).map (sumS x)=o++[sumS x (nth b j)]:=by rw[take_at hj,Aw,<-A3,<-g2];rfl
   generalize hye:nth b j=y at *;have hw1:IntKind.i64.wrap (x.lo+y.lo)=x.lo+y.lo:=IntWalk.i64_in _ om;have hw2:IntKind.i64.wrap (x.hi+y.hi)=x.hi+y.hi:=IntWalk.i64_in _ om;clear g2;refine W_T ?_;have f_:=Aa hye (Aa hw1 hw2);refine ywB ?_;clear f_;refine⟨(j+1,o++[sumS x y]),?_⟩;(with_reducible repeat'(first|simp(disch:=omega)only[push_cast,↓zz,seval,sumS,hstep]|refine sp_ ?_ ?_<;>try(intro hc;push_cast at hc)|omega|intro _))
  ·obtain rfl:j=b.length:=om
   rw[As] at g2;rw[<-g2] at h3;clear g2;have hno:=Q9 o;have hap:=@zat o (YB (a.drop (k+1)) b);refine W_T ?_;(with_reducible repeat'(first|simp(disch:=omega)only[push_cast,↓zz,seval]|refine sp_ ?_ ?_<;>try(intro hc;push_cast at hc)|omega|intro _))
   ·(refine zot (ys:=[AA o]) ?_ ?_ ?_<;>(simp(disch:=omega)only[push_cast,↓zz,seval]))
    (refine at_c [] (z5d o om) ox oc (by refine⟨?_,?_,?_,?_⟩<;>(simp(disch:=omega)only[push_cast,↓zz,seval,Af,An,A7,B6,Cr,BG])) ?_)
    rintro y H' ⟨rfl,rfl⟩;refine⟨_,rfl,oc,?_⟩;(with_reducible repeat'(first|simp(disch:=omega)only[push_cast,↓zz,seval]|refine sp_ ?_ ?_<;>try(intro hc;push_cast at hc)|omega|intro _));refine⟨(k+1,AR o),?_⟩;(with_reducible repeat'(first|simp(disch:=omega)only[push_cast,↓zz,seval,hap]|refine sp_ ?_ ?_<;>try(intro hc;push_cast at hc)|omega|intro _))
   ·refine⟨(k+1,o),?_⟩
    (with_reducible repeat'(first|simp(disch:=omega)only[push_cast,↓zz,seval]|refine sp_ ?_ ?_<;>try(intro hc;push_cast at hc)|omega|intro _))
 ·rw[Ao hk,show YB [] b=[] from rfl,Ax] at h3
  have hN:=CE out om;refine W_T ?_;(with_reducible repeat'(first|simp(disch:=omega)only[push_cast,↓zz,seval,h3,DC]|refine sp_ ?_ ?_<;>try(intro hc;push_cast at hc)|refine ee hN ?_|(refine cc hN ?_;simp(disch:=omega)only[push_cast,↓zz,seval,h3,DC];fail_if_success change False)|omega|intro _))
def totV(l:List Part)(x:Int):Int:=(l.map λp=>valP p x).sum
theorem zhd(x:Int):totV [] x=0:=rfl
theorem Wy(l:List Part)(p:Part)(x:Int):totV (l++[p]) x=totV l x+valP p x:=by simp[totV]
theorem K1{x:Int}(hx:0<=x/\x<=2097151):∀{l:List Part},(∀p∈l,EJ p=true)->0<=totV l x/\totV l x<=l.length * 66060288
 |[],_=>by simp[totV]
 |p::l,h=>by
  have h1:=CZ (h p oc) hx;have h2:=K1 hx (l:=l) λq hq=>h q (by simp[hq]);have e:totV (p::l) x=valP p x+totV l x:=by simp[totV]
  rw[e,List.length_cons]
  push_cast
  omega
def togF(l:List Part)(out:List Span)(x:Int):List Span:=addS out ⟨totV l x,totV l x⟩
def togL(l:List Part)(s:List Span):List Span :=
 if l.length=1 then imgL (nth l 0) s else AR ((Dx (AR s)).foldl (togF l) [])
theorem Um(l:List Part)(s:List Span)(hl:l.length<=1000)(hb:∀p∈l,EJ p=true)(hs:s.length<=10000000000)(hsy:Syms (AR s)):
 PC Tryz.prog 230 [Cu l,AA s] (AA (togL l s)):=by
 have hln:=hsy.nums;have hls:=hsy.len;have hmem:∀k,k<(Dx (AR s)).length->0<=nth (Dx (AR s)) k/\nth (Dx (AR s)) k<=1114111:=λk hk=>hsy.mem (Ff.1 (Bi hk));have hit:=J3 (AR s) om (E6 s);have hI:=Lb (nth l 0) s hs;have hE:=J4 s om;refine Cd Qk ?_;unfold Kt;(with_reducible repeat'(first|simp(disch:=omega)only[push_cast,↓zz,seval]|refine sp_ ?_ ?_<;>try(intro hc;push_cast at hc)|refine ee hI ?_|refine ee hE ?_|((first|refine cc hI ?_|refine cc hE ?_);simp(disch:=omega)only[push_cast,↓zz,seval];fail_if_success change False)|omega|intro _))
 ·rw[togL,Ae om]
 rw[togL,Ad om];generalize hlne:Dx (AR s)=m at *
 refine Kv (Sf (σ:=Nat × List Span) (λk s=>s.2=(m.take k).foldl (togF l) []/\s.2.length<=k) [(2,.ptr 0 1 0 0),(5,.ptr 1 1 0 0),(22,.fn 232 [.cptr (AA (AR s))])] (λs=>[⟨1,1,true,[Cu l]⟩,⟨1,1,true,[.ref 2 s.1 0 s.2.length]⟩,⟨2,s.1,false,s.2.map Ce⟩])
  [.grp 0,.grp 1,.virt 2] 3 (1,[]) hit ?_ (λ_=>rfl) rfl ?_ rfl rfl (J5 _) (La _) oc ⟨oc,oc⟩ ?_ ?_)
 ·exact gwA
 ·exact gwA
 ·rintro k row ⟨v,out⟩ hrow ⟨h1,h2⟩
  simp only at h1 h2;obtain⟨hk,rfl⟩:=S7 hrow;have hxb:=hmem k hk;have hstep:(m.take (k+1)).foldl (togF l) []=togF l out (nth m k):=by rw[take_at hk,E2,<-h1];rfl
  generalize nth m k=x at *;refine W_T ?_;refine ywA ?_;refine W_T ?_;refine ywA ?_
  refine Ba (B7 (λ(j:Nat)=>j<=l.length) (λj=>l.length-j)
   (λj=>[(2,.ptr 0 1 0 0),(5,.ptr 1 1 0 0),(6,.int .i64 x),(7,.int .i64 (totV (l.take j) x)),(24,Cu l),(25,.int .i64 l.length),(26,.int .i64 j)]) (λ_=>[⟨1,1,true,[Cu l]⟩,⟨1,1,true,[.ref 2 v 0 out.length]⟩,⟨2,v,false,out.map Ce⟩]) (λ_ _=>[]) 0 oc ?_ ?_)
  ·have f_:=zhd;exact gwB
  intro j hj;rcases Aj j l.length with hjl|hjl
  ·have hp:=hb _ (Bi hjl)
   have hV:=Ir (nth l j) x
   have e1:val1 (nth l j) x=valP (nth l j) x:=by
    have hvb:valB (nth l j) x=true:=by simp[valB,hp];omega
    simp[val1,hvb]
   rw[valV,e1] at hV;have t1:=K1 (x:=x) om (l:=l.take j) λq hq=>hb q (Be hq);have t2:=CZ hp (x:=x) om;have hlt:(l.take j).length=j:=by simp;omega
   rw[hlt] at t1;have hw:IntKind.i64.wrap (totV (l.take j) x+valP (nth l j) x)=totV (l.take j) x+valP (nth l j) x:=IntWalk.i64_in _ om;have hn:totV (l.take (j+1)) x=totV (l.take j) x+valP (nth l j) x:=by rw[take_at hjl,Wy]
   refine W_T ?_;have f_:=hw;have e_:=hV;refine ywD ?_;clear f_ e_
   all_goals exact⟨j+1,⟨hn.symm,by push_cast⟩,om,om⟩
  ·obtain rfl:j=l.length:=om
   rw[As];have t1:=K1 (x:=x) om (l:=l) hb;rw[togF] at hstep;generalize totV l x=n at *;have hwn:IntKind.i64.wrap (n-1)=n-1:=IntWalk.i64_in _ om;rcases H0 out with rfl|⟨mm,z,hout⟩
   ·refine W_T ?_
    have f_:=hwn;refine ywB ?_;clear f_
    all_goals
     refine⟨(v+1,[⟨n,n⟩]),?_⟩;rw[JU] at hstep;have f_:=hstep;exact gwB
   ·have l1:out.length=mm.length+1:=by rw[hout];simp
    have l2:nth out mm.length=z:=by rw[hout];exact zh4
    have l3:IntKind.i64.wrap (mm.length:Int)=mm.length:=IntWalk.i64_in _ om;have l4:(out.map Ce).set mm.length (.agg [.int .i64 z.lo,.int .i64 n])=(mm++[(⟨z.lo,n⟩:Span)]).map Ce:=by rw[hout];exact Wp (f:=Ce) (z:=⟨z.lo,n⟩)
    have hadd:addS out ⟨n,n⟩=if z.hi=n-1 then mm++[⟨z.lo,n⟩] else out++[⟨n,n⟩]:=by rw[hout,Q5]
    rw[hadd] at hstep;clear hadd hout;refine W_T ?_;(with_reducible repeat'(first|simp(disch:=omega)only[push_cast,↓zz,seval,l1,l2,l3,l4,hwn]|refine sp_ ?_ ?_<;>try(intro hc;push_cast at hc)|omega|intro _))
    ·rw[Ae (by assumption)] at hstep
     refine⟨(v,mm++[⟨z.lo,n⟩]),?_⟩;have f_:=hstep;exact gwB
    ·rw[Ad (by assumption)] at hstep
     refine⟨(v+1,out++[⟨n,n⟩]),?_⟩;have f_:=Aa hstep l1;exact gwB
 ·rintro⟨v,out⟩ ⟨h1,h2⟩
  simp only[Au] at h1 h2;rw[As] at h1;rw[<-h1];have hN:=CE out om;(with_reducible repeat'(first|simp(disch:=omega)only[push_cast,↓zz,seval,DC]|refine sp_ ?_ ?_<;>try(intro hc;push_cast at hc)|refine ee hN ?_|(refine cc hN ?_;simp(disch:=omega)only[push_cast,↓zz,seval,DC];fail_if_success change False)|omega|intro _))
def Fl(pl:List Int)(p:Part):List Int:=if p.at_∈pl then pl else pl++[p.at_]
def Gu(l:List Part):List Int:=l.foldl Fl []
def atL(l:List Part)(a:Int):List Part:=l.filter λp=>decide (p.at_=a)
def K2(l:List Part)(sets:List (List Span))(out:List Span)(a:Int):List Span:=Ww out (togL (atL l a) (nth sets a.toNat))
def Kf(t:Term)(sets:List (List Span)):List Span:=(Gu t.parts).foldl (K2 t.parts sets) [⟨t.sum,t.sum⟩]
def R0(l:List Span):Bool:=decide (0<(l.length:Int))&&(decide (0<=(Wr (AR l)).getD 0)&&decide ((Lu (AR l)).getD 0<=1114111))
def Acc(l:List Span):Prop:=Bd l/\l.length<=2147483649
theorem QA(l:List Span):Acc (AR l):=by
 refine⟨λs hs=>?_,Q9 l⟩;have:=E6 l s hs;omega
theorem Un(a b:List Span):Acc (Ww a b):=QA _
theorem Uo(p:Part)(s:List Span):Acc (imgL p s):=by
 unfold imgL
 repeat' split
 all_goals first|exact QA _|exact⟨λs hs=>(by cases hs),oc⟩
theorem z0w(l:List Part)(s:List Span):Acc (togL l s):=by
 unfold togL;split
 ·exact Uo _ _
 ·exact QA _
theorem zav{x:Int}(h:Gq x=true):Acc [⟨x,x⟩]:=by
 refine⟨λs hs=>?_,oc⟩;have:=GH h;simp only[Am] at hs;subst hs;simp only;omega
structure SA(l:List Part)(sets:List (List Span)):Prop where
 parts:∀p∈l,EP p sets.length=true
 syms:∀s∈sets,Syms s
 many:sets.length<=1000
theorem K3{s:List Span}(h:Syms s):AR s=s:=Gt h.1 λt ht=>by have:=h.2 t ht;omega
theorem YC{l:List Part}{sets:List (List Span)}{out:List Span}{a:Int}(hS:SA l sets)(hA:Acc out)(ha:0<=a/\a<sets.length)(hl:l.length<=4):
 PC Tryz.prog 230 [Cu (atL l a),AA (nth sets a.toNat)] (AA (togL (atL l a) (nth sets a.toNat)))/\PC Tryz.prog 229 [AA out,AA (togL (atL l a) (nth sets a.toNat))] (AA (K2 l sets out a))/\Acc (K2 l sets out a):=by
 have hm:nth sets a.toNat∈sets:=Bi om;have hs:=hS.syms _ hm;refine⟨Um _ _ (Bl (Bg _ _) om) (λp hp=>?_) (by have:=hs.len;omega) (by rw[K3 hs];exact hs),zau _ _ (by have:=hA.2;omega) (by have:=(z0w (atL l a) (nth sets a.toNat)).2;omega) hA.1 (z0w _ _).1,Un _ _⟩;have:=hS.parts p ((AW.1 hp).1);simp only[EP,Ac] at this;exact this.2
theorem T_cut{σ:Type}{P:Program}{n b:Nat}{env:Env}{H:A4}{Q:Ex->Env->A4->Prop}(live:σ->List (Nat × AV))(heap:σ->List Grp)(srcs:Env->A4->List Src){x y:AC}
 (h1:T P n b x env H (Ex.then (λenv' H'=>∃s',Head b env' H' (srcs env' H') (live s') (heap s')) Q)) (h2:∀s,T P n b y (BO (live s)) (hl (heap s)) Q):T P n b (.seq x y) env H Q:=DK (T.mono h1 λx env' H' hh=>by
 cases x with
 |normal=>obtain⟨s',k⟩:=hh;exact PH k (h2 s')
 |exit id=>exact hh
 |ret=>exact hh)
theorem pc_tt{P:Program}{f m np:Nat}{xs:List AV}{y:AV}{res:List ARes}{B:AC}(hf:Bm P f xs.length=some ⟨m,np,res,B⟩)(h:T P m 0 B (entry xs) (Abs.hl []) (Ret P res λz H=>DX 4 H z/\ansW (frzV 4 H z) y)):PC P f xs y:=by
 refine zlr hf 4 ?_;rw[P7];exact T.mono h λx env H hh=>T8 (λz H hh=>⟨hh.1,z8m hh.2⟩) hh
theorem em2(a b:Int):(a=b/\True)\/(¬a=b/\¬b=a):=by
 rcases Classical.em (a=b) with h|h
 ·exact .inl ⟨h,oy⟩
 ·exact .inr ⟨h,λq=>h q.symm⟩
def mpO(l:List Part)(pl:List Int):List AV:=pl.flatMap λa=>[.int .i64 a,Cu (atL l a)]
theorem z0x{l:List Part}{z:AV}{a:Int}:∀{pl:List Int},a∈pl->HR z a (mpO l pl)=some (Cu (atL l a))
 |[],h=>by cases h
 |b::pl,h=>by
  rw[show mpO l (b::pl)=.int .i64 b::Cu (atL l b)::mpO l pl from rfl,Jm];split
  ·rename_i e;rw[e]
  ·rename_i e;exact z0x ((Af.1 h).resolve_left λq=>e q.symm)
theorem z0y(l:List Part):∀pl:List Int,AJ (mpO l pl)=true
 |[]=>rfl
 |b::pl=>by
  rw[show mpO l (b::pl)=[.int .i64 b,Cu (atL l b)]++mpO l pl from rfl,Jp,z0y l pl];simp[AJ,AV.pure,Cx]
theorem SB{a:Int}:∀{l:List Part}{pl:List Int},a∈l.foldl Fl pl->a∈pl\/∃p∈l,p.at_=a
 |[],_,h=>.inl h
 |p::l,pl,h=>by
  rcases SB (l:=l) h with h|⟨q,h1,h2⟩
  ·unfold Fl at h
   split at h
   ·exact .inl h
   ·rcases Av.1 h with h|h
    ·exact .inl h
    ·exact .inr ⟨p,oc,(Am.1 h).symm⟩
  ·exact .inr ⟨q,by simp[h1],h2⟩
theorem SC:∀(l:List Part)(pl:List Int),(l.foldl Fl pl).length<=pl.length+l.length
 |[],_=>Ab _
 |p::l,pl=>by
  have h:=SC l (Fl pl p);have k:(Fl pl p).length<=pl.length+1:=by unfold Fl;split<;>simp
  show (l.foldl Fl (Fl pl p)).length<=_;rw[List.length_cons];omega
theorem z0z{l:List Part}{sets:List (List Span)}:∀(q:List Int){out:List Span},Acc out->Acc (q.foldl (K2 l sets) out)
 |[],_,h=>h
 |_::q,_,_=>z0z q (Un _ _)
set_option maxHeartbeats 2000000 in
theorem YD(t:Term)(sets:List (List Span))(hl:t.parts.length<=4)(hs:Gq t.sum=true)(hS:SA t.parts sets):
 PC Tryz.prog 208 [C9 t,AQ sets] (.tup [AA (Kf t sets),.bool (R0 (Kf t sets))]):=by
 obtain⟨bs,dr,tk,up,sm,l⟩:=t;simp only at hl hs hS;have A0:=zav hs
 have hb:∀a∈Gu l,0<=a/\a<sets.length:=λa h=>by
  rcases SB h with h|⟨p,hp,rfl⟩
  ·cases h
  ·exact JR (hS.parts p hp)
 have hmp:∀a∈Gu l,HR .nilS a (mpO l (Gu l))=some (Cu (atL l a)):=λa h=>z0x h;have hpu:=z0y l (Gu l);have hpn:(Gu l).length<=4:=Bl (SC l []) (by simpa using hl);have hv:Kf ⟨bs,dr,tk,up,sm,l⟩ sets=(Gu l).foldl (K2 l sets) [⟨sm,sm⟩]:=rfl;rw[hv];obtain⟨pl,hpl⟩:∃pl,Gu l=pl:=⟨_,rfl⟩;obtain⟨mp,hme⟩:∃mp,mpO l (Gu l)=mp:=⟨_,rfl⟩;rw[hme] at hmp hpu;rw[hpl] at hb hmp hme hpn ⊢;clear hv;refine pc_tt TP ?_;unfold MH;refine DK (W_T ?_);refine ywA ?_;refine DK (W_T ?_);refine ywA ?_;refine DK (W_T ?_);refine ywA ?_;refine T_cut (σ:=Unit) (λ_=>[(1,AQ sets),(2,.ptr 0 1 0 0),(6,.map 1 1),(7,.lst 1 (pl.map (AV.int .i64)))]) (λ_=>[⟨6,1,true,[C9 ⟨bs,dr,tk,up,sm,l⟩]⟩,⟨0,1,true,mp⟩]) (λenv _=>[D4 6 (env 2),D4 1 (env 6)]) (W_T ?_) ?_
 ·clear hmp hpu hpn hb hS A0 hs
  rcases l with _|⟨⟨a0,d0,t0,u0⟩,_|⟨⟨a1,d1,t1,u1⟩,_|⟨⟨a2,d2,t2,u2⟩,_|⟨⟨a3,d3,t3,u3⟩,_|⟨p4,l⟩⟩⟩⟩⟩
  case cons.cons.cons.cons.cons=>simp at hl
  all_goals first|(refine (em2 a0 a1).elim (λq=>?_) λn01=>?_;obtain⟨rfl,n01⟩:=q)|(have n01:=trivial)
  all_goals first|(refine (em2 a0 a2).elim (λq=>?_) λn02=>?_;obtain⟨rfl,n02⟩:=q)|(have n02:=trivial)
  all_goals first|(refine (em2 a1 a2).elim (λq=>?_) λn12=>?_;obtain⟨rfl,n12⟩:=q)|(have n12:=trivial)
  all_goals first|(refine (em2 a0 a3).elim (λq=>?_) λn03=>?_;obtain⟨rfl,n03⟩:=q)|(have n03:=trivial)
  all_goals first|(refine (em2 a1 a3).elim (λq=>?_) λn13=>?_;obtain⟨rfl,n13⟩:=q)|(have n13:=trivial)
  all_goals first|(refine (em2 a2 a3).elim (λq=>?_) λn23=>?_;obtain⟨rfl,n23⟩:=q)|(have n23:=trivial)
  all_goals
   simp[Gu,Fl,n01,n02,n12,n03,n13,n23] at hpl;subst hpl;simp[mpO,atL,n01,n02,n12,n03,n13,n23] at hme;subst hme
  all_goals (with_reducible repeat'(first|simp(disch:=omega)only[push_cast,↓zz,seval]|refine sp_ ?_ ?_<;>try(intro hc;push_cast at hc)|omega|intro _))
  all_goals refine VT 6 ?_
  all_goals (with_reducible repeat'(first|simp(disch:=omega)only[push_cast,↓zz,seval,xx,Af,An,A7,BC,Ch,AT,Co,Cn,HR,setM,n01,n02,n12,n03,n13,n23]|refine sp_ ?_ ?_<;>try(intro hc;push_cast at hc)|refine Y1 ?_|((first|(refine Gr [1] ?_;(simp(disch:=omega)only[push_cast,↓zz,seval,xx,Af,An,A7,BC,Ch,AT,Co,Cn,Grp.mk.injEq,HR,setM,n01,n02,n12,n03,n13,n23]);fail_if_success change False)|(refine Gr [1,5] ?_;(simp(disch:=omega)only[push_cast,↓zz,seval,xx,Af,An,A7,BC,Ch,AT,Co,Cn,Grp.mk.injEq,HR,setM,n01,n02,n12,n03,n13,n23]);fail_if_success change False)|(refine Gr [1,8] ?_;(simp(disch:=omega)only[push_cast,↓zz,seval,xx,Af,An,A7,BC,Ch,AT,Co,Cn,Grp.mk.injEq,HR,setM,n01,n02,n12,n03,n13,n23]);fail_if_success change False)|(refine Gr [1,9] ?_;(simp(disch:=omega)only[push_cast,↓zz,seval,xx,Af,An,A7,BC,Ch,AT,Co,Cn,Grp.mk.injEq,HR,setM,n01,n02,n12,n03,n13,n23]);fail_if_success change False)|(refine Gr [1,11] ?_;(simp(disch:=omega)only[push_cast,↓zz,seval,xx,Af,An,A7,BC,Ch,AT,Co,Cn,Grp.mk.injEq,HR,setM,n01,n02,n12,n03,n13,n23]);fail_if_success change False)))|omega|intro _))
  all_goals exact⟨(),oy⟩
 rintro _;have hpp:=C4 .i64 pl;refine W_T ?_;refine ywA ?_
 refine Ba (B7 (λ(j:Nat)=>j<=pl.length) (λj=>pl.length-j)
  (λj=>[(1,AQ sets),(6,.map 0 1),(10,AA ((pl.take j).foldl (K2 l sets) [⟨sm,sm⟩])),(53,.lst 1 (pl.map (AV.int .i64))),(54,.int .i64 pl.length),(55,.int .i64 j)])
  (λ_=>[⟨0,1,true,mp⟩]) (λenv _=>[D4 1 (env 6)]) 0 (Ap _) ?_ ?_)
 ·(with_reducible repeat'(first|simp(disch:=omega)only[push_cast,↓zz,seval,hpu,List.foldl_nil,AD,AX]|refine sp_ ?_ ?_<;>try(intro hc;push_cast at hc)|omega|intro _))
 intro j hj;have A1:=z0z (l:=l) (sets:=sets) (pl.take j) A0;rcases Aj j pl.length with h|h
 ·have hm:=Bi h
  have hf:=hmp _ hm;have hbd:=hb _ hm;obtain⟨T1,P1,_⟩:=YC (a:=nth pl j) hS A1 hbd hl;have hst:(pl.take (j+1)).foldl (K2 l sets) [⟨sm,sm⟩]=K2 l sets ((pl.take j).foldl (K2 l sets) [⟨sm,sm⟩]) (nth pl j):=by rw[take_at h,E2];rfl
  refine W_T ?_;generalize (pl.take j).foldl (K2 l sets) [⟨sm,sm⟩]=o at *;have f_:=Aa hf hpu;have e_:=T1;have e_1:=P1;refine ywD ?_;clear f_ e_ e_1
  all_goals
   refine⟨j+1,?_⟩;have f_:=Aa hst hpu;exact gwB
 obtain rfl:j=pl.length:=om
 rw[As] at A1;have htk:pl.take pl.length=pl:=As;rw[htk];generalize pl.foldl (K2 l sets) [⟨sm,sm⟩]=o at *;have hF:=z59 o (by have:=A1.2;omega);have hL:=Ws o (by have:=A1.2;omega);refine W_T ?_;(with_reducible repeat'(first|simp(disch:=omega)only[push_cast,↓zz,seval,R0]|refine sp_ ?_ ?_<;>try(intro hc;push_cast at hc)|refine ee hF ?_|refine ee hL ?_|((first|refine cc hF ?_|refine cc hL ?_);simp(disch:=omega)only[push_cast,↓zz,seval,R0];fail_if_success change False)|omega|intro _))
 all_goals ((try simp only[*,DW,C7,Bj,B4]);(repeat'(first|(simp(disch:=omega)only[push_cast,↓zz,seval,GX])|omega|(with_reducible refine Aa ?_ ?_))))
theorem zkl{lo hi D q:Int}(hD:0<D)(h:lo<=hi):(∃x,lo<=x/\x<=hi/\x / D=q)↔lo / D<=q/\q<=hi / D:=by
 constructor
 ·rintro⟨x,h1,h2,rfl⟩
  exact⟨Cg hD h1,Cg hD h2⟩
 ·rintro⟨h1,h2⟩
  rcases Int.lt_or_eq_of_le h1 with h3|h3
  ·refine⟨q * D,?_,?_,Int.mul_ediv_cancel _ om⟩
   ·have:=(Int.ediv_lt_iff_lt_mul hD).1 h3;omega
   ·exact (Int.le_ediv_iff_mul_le hD).1 h2
  ·exact⟨lo,AE _,h,h3⟩
theorem Up{x y M:Int}(hM:0<M)(h1:x<=y)(h2:y-x<M):y / M=x / M\/y / M=x / M+1:=by
 have a:=Cg hM h1;have c:y / M<=(x+M * 1) / M:=Cg hM om;rw[Int.add_mul_ediv_left _ _ om] at c;omega
theorem Pb{w M k:Int}(h:0<=w/\w<M):(M * k+w) % M=w:=by
 rw[Int.add_comm,Int.add_mul_emod_self_left,Int.emod_eq_of_lt h.1 h.2]
theorem zaw{a b M w:Int}(hM:0<M)(hab:a<=b)(hs:b-a<M-1):
 (∃q,a<=q/\q<=b/\q % M=w)↔if a % M<=b % M then a % M<=w/\w<=b % M else (0<=w/\w<=b % M)\/(a % M<=w/\w<=M-1):=by
 have ea:=Ew a M;have eb:=Ew b M;have a1:=BR a (by omega:M≠0);have a2:=BF a hM;have b1:=BR b (by omega:M≠0);have b2:=BF b hM;constructor
 ·rintro⟨q,h1,h2,rfl⟩
  have eq:=Ew q M;have q1:=BR q (by omega:M≠0);have q2:=BF q hM;have k1:=Up hM hab om;have k2:=Up hM h1 om;have e1:M * (a / M+1)=M * (a / M)+M:=by rw[Int.mul_add,Int.mul_one]
  rcases k1 with k1|k1<;>rcases k2 with k2|k2<;>rw[k1] at eb<;>rw[k2] at eq<;>(try rw[e1] at eb)<;>(try rw[e1] at eq)<;>split<;>omega
 ·intro h
  have k1:=Up hM hab om;have e1:M * (a / M+1)=M * (a / M)+M:=by rw[Int.mul_add,Int.mul_one]
  rcases k1 with k1|k1
  ·rw[k1] at eb
   rw[Ae om] at h;exact⟨M * (a / M)+w,om,om,Pb om⟩
  ·rw[k1,e1] at eb
   rw[Ad om] at h;rcases h with h|h
   ·exact⟨M * (a / M+1)+w,om,om,Pb om⟩
   ·exact⟨M * (a / M)+w,om,om,Pb om⟩
theorem zhe{a b M w:Int}(hM:0<M)(hs:M-1<=b-a):(∃q,a<=q/\q<=b/\q % M=w)↔0<=w/\w<=M-1:=by
 constructor
 ·rintro⟨q,_,_,rfl⟩
  have q1:=BR q (by omega:M≠0);have q2:=BF q hM;omega
 ·intro h
  have e:=Ew (w-a) M;have q1:=BR (w-a) (by omega:M≠0);have q2:=BF (w-a) hM;refine⟨a+(w-a) % M,om,om,?_⟩;have:a+(w-a) % M=M * (-((w-a) / M))+w:=by rw[Int.mul_neg];omega
  rw[this,Pb om]
theorem z1a{d t:Nat}{s:Span}{w:Int}(hs:s.lo<=s.hi)(hn:¬(2 ^ t-1:Int)<=s.hi / 2 ^ d-s.lo / 2 ^ d):memL (imgS d t s) w↔∃x,(s.lo<=x/\x<=s.hi)/\x / 2 ^ d % 2 ^ t=w:=by
 have hD:(0:Int)<2 ^ d:=E1 ox;have hT:(0:Int)<2 ^ t:=E1 ox;have hab:=Cg hD hs
 have key:(∃x,(s.lo<=x/\x<=s.hi)/\x / 2 ^ d % 2 ^ t=w)↔∃q,s.lo / 2 ^ d<=q/\q<=s.hi / 2 ^ d/\q % 2 ^ t=w:=by
  constructor
  ·rintro⟨x,⟨h1,h2⟩,h3⟩
   exact⟨x / 2 ^ d,Cg hD h1,Cg hD h2,h3⟩
  ·rintro⟨q,h1,h2,h3⟩
   obtain⟨x,k1,k2,k3⟩:=(zkl hD hs).2 ⟨h1,h2⟩;exact⟨x,⟨k1,k2⟩,by rw[k3];exact h3⟩
 rw[key,zaw hT hab om,imgS];split
 ·simp[Bs,BQ]
 ·simp[Bs,BQ]
theorem z1b{d t:Nat}{w:Int}:∀(l out:List Span),(∀s∈l,s.lo<=s.hi)->(∀v,memL out v->0<=v/\v<=2 ^ t-1)->(memL (imgF d t l out) w↔memL out w\/∃x,memL l x/\x / 2 ^ d % 2 ^ t=w)
 |[],out,_,_=>by simp[imgF,BQ]
 |s::l,out,h,ho=>by
  have hD:(0:Int)<2 ^ d:=E1 ox;have hT:(0:Int)<2 ^ t:=E1 ox;have hs:=h s oc;rw[imgF];split
  ·rename_i hb
   have hf:=zhe (w:=w) hT hb;constructor
   ·intro hw
    have hw':0<=w/\w<=2 ^ t-1:=by simpa [allS,Bs,BQ] using hw
    obtain⟨q,h1,h2,h3⟩:=hf.2 hw';obtain⟨x,k1,k2,k3⟩:=(zkl hD hs).2 ⟨h1,h2⟩;exact .inr ⟨x,Bs.2 (.inl ⟨k1,k2⟩),by rw[k3];exact h3⟩
   ·intro hw
    have:0<=w/\w<=2 ^ t-1:=by
     rcases hw with hw|⟨x,_,rfl⟩
     ·exact ho w hw
     ·have q1:=BR (x / 2 ^ d) (by omega:(2:Int) ^ t≠0)
      have q2:=BF (x / 2 ^ d) hT;omega
    simpa [allS,Bs,BQ] using this
  ·rename_i hb
   rw[z1b l _ (λs hs=>h s (by simp[hs])) (λv hv=>?_),FX,z1a hs hb]
   ·constructor
    ·rintro ((h1|⟨x,h1,h2⟩)|⟨x,h1,h2⟩)
     ·exact .inl h1
     ·exact .inr ⟨x,Bs.2 (.inl h1),h2⟩
     ·exact .inr ⟨x,Bs.2 (.inr h1),h2⟩
    ·rintro (h1|⟨x,h1,h2⟩)
     ·exact .inl (.inl h1)
     ·rcases Bs.1 h1 with h1|h1
      ·exact .inl (.inr ⟨x,h1,h2⟩)
      ·exact .inr ⟨x,h1,h2⟩
   ·rcases FX.1 hv with hv|hv
    ·exact ho v hv
    ·obtain⟨x,_,rfl⟩:=(z1a hs hb).1 hv
     have q1:=BR (x / 2 ^ d) (by omega:(2:Int) ^ t≠0);have q2:=BF (x / 2 ^ d) hT;omega
theorem mem_map{α:Type}{f:α->Span}{l:List α}{v:Int}:memL (l.map f) v↔∃a∈l,(f a).lo<=v/\v<=(f a).hi:=by
 simp only[memL,Al];exact⟨λ⟨_,⟨a,h,rfl⟩,h2⟩=>⟨a,h,h2⟩,λ⟨a,h,h2⟩=>⟨_,⟨a,h,rfl⟩,h2⟩⟩
theorem GI{p:Part}(s:List Span)(hb:EJ p=true):Plain (imgL p s)/\∀v,memL (imgL p s) v↔∃x,memL s x/\(0<=x/\x<=2097151)/\valP p x=v:=by
 have hbi:=Ih.1 hb;have ht:=Ke p.take.toNat om;have hT:(0:Int)<2 ^ p.take.toNat:=E1 ox;obtain⟨m1,m2,m3⟩:=OZ s
 have hF:∀w,memL (imgF p.drop.toNat p.take.toNat (EN (AR s) (AR topS)) []) w↔∃x,(memL s x/\0<=x/\x<=2097151)/\x / 2 ^ p.drop.toNat % 2 ^ p.take.toNat=w:=λw=>by
  rw[z1b _ _ (λt ht=>(m2 t ht).2.1) (λv hv=>absurd hv (BQ v))];simp only[BQ,BC,m3]
 have hr:∀w,memL (imgF p.drop.toNat p.take.toNat (EN (AR s) (AR topS)) []) w->0<=w/\w<=2 ^ p.take.toNat-1:=λw hw=>by
  obtain⟨x,_,rfl⟩:=(hF w).1 hw;have q1:=BR (x / 2 ^ p.drop.toNat) (by omega:(2:Int) ^ p.take.toNat≠0);have q2:=BF (x / 2 ^ p.drop.toNat) hT;omega
 unfold imgL;rw[Ad (by simp[hb])];split
 ·rename_i hu
  refine⟨(Bo _).1,λv=>?_⟩;rw[(Bo _).2 v,hF];have e:∀x,valP p x=x / 2 ^ p.drop.toNat % 2 ^ p.take.toNat:=λx=>by simp[valP,hu]
  constructor
  ·rintro⟨⟨x,⟨h1,h2⟩,h3⟩,_⟩
   exact⟨x,h1,h2,by rw[e];exact h3⟩
  ·rintro⟨x,h1,h2,h3⟩
   rw[e] at h3;have:=hr v ((hF v).2 ⟨x,⟨h1,h2⟩,h3⟩);exact⟨⟨x,⟨h1,h2⟩,h3⟩,om⟩
 ·rename_i hu
  refine⟨(Bo _).1,λv=>?_⟩;rw[(Bo _).2 v,mem_map];constructor
  ·rintro⟨⟨n,hn,h1,h2⟩,_⟩
   simp only[oneS] at h1 h2;have hn':=Ff.1 hn;rw[(Bo _).2,(Bo _).2] at hn';obtain⟨x,⟨k1,k2⟩,k3⟩:=(hF n).1 hn'.1.1;exact⟨x,k1,k2,by rw[valP,k3];omega⟩
  ·rintro⟨x,h1,h2,h3⟩
   have hv:=CZ hb h2;have hm:=(hF (x / 2 ^ p.drop.toNat % 2 ^ p.take.toNat)).2 ⟨x,⟨h1,h2⟩,rfl⟩;have:=hr _ hm;refine⟨⟨x / 2 ^ p.drop.toNat % 2 ^ p.take.toNat,Ff.2 ?_,?_⟩,om⟩
   ·rw[(Bo _).2,(Bo _).2]
    exact⟨⟨hm,om⟩,om⟩
   ·rw[valP] at h3
    simp only[oneS];omega
def Full(l:List Span):Prop:=∀s∈l,s.lo<=s.hi
theorem zax{a b:List Span}(ha:Full a)(hb:Full b):Plain (Ww a b)/\∀v,memL (Ww a b) v↔(∃x y,memL a x/\memL b y/\x+y=v)/\-1073741824<=v/\v<=1073741824:=by
 refine⟨(Bo _).1,λv=>?_⟩;rw[Ww,(Bo _).2 v,YB,Lc];refine and_congr_left λ_=>?_;constructor
 ·rintro⟨s,hs,h⟩
  obtain⟨r,hr,h1,h2⟩:=mem_map.1 h;simp only[sumS] at h1 h2;have k1:=ha s hs;have k2:=hb r hr;refine⟨max s.lo (v-r.hi),v-max s.lo (v-r.hi),⟨s,hs,om,om⟩,⟨r,hr,om,om⟩,om⟩
 ·rintro⟨x,y,⟨s,hs,h1,h2⟩,⟨r,hr,h3,h4⟩,rfl⟩
  exact⟨s,hs,mem_map.2 ⟨r,hr,by simp only[sumS];omega,by simp only[sumS];omega⟩⟩
theorem zay{out:List Span}{n:Int}(h:Full out):Full (addS out ⟨n,n⟩)/\∀v,memL (addS out ⟨n,n⟩) v↔memL out v\/v=n:=by
 rcases H0 out with rfl|⟨m,y,rfl⟩
 ·refine⟨λs hs=>?_,λv=>?_⟩
  ·simp only[JU,Am] at hs;subst hs;simp
  ·rw[JU,Bs];simp only[BQ,A7,BC];omega
 ·have hy:=h y oc
  rw[Q5];simp only;split
  ·rename_i he
   refine⟨λs hs=>?_,λv=>?_⟩
   ·rcases Av.1 hs with hs|hs
    ·exact h s (by simp[hs])
    ·simp only[Am] at hs;subst hs;simp only;omega
   ·rw[FX,FX,Bs,Bs]
    simp only[BQ,A7];constructor
    ·rintro (h1|h1)
     ·exact .inl (.inl h1)
     ·by_cases hv:v=n
      ·exact .inr hv
      ·exact .inl (.inr om)
    ·rintro ((h1|h1)|h1)
     ·exact .inl h1
     ·exact .inr om
     ·exact .inr om
  ·refine⟨λs hs=>?_,λv=>?_⟩
   ·rcases Av.1 hs with hs|hs
    ·exact h s hs
    ·simp only[Am] at hs;subst hs;simp
   ·rw[FX,Bs]
    simp only[BQ,A7];have:(n<=v/\v<=n)↔v=n:=om
    rw[this]
theorem z1c(l:List Part){v:Int}:∀(m:List Int)(out:List Span),Full out->(memL (m.foldl (togF l) out) v↔memL out v\/∃x∈m,totV l x=v)
 |[],out,_=>by simp
 |x::m,out,h=>by
  obtain⟨h1,h2⟩:=zay (n:=totV l x) h;rw[List.foldl_cons,togF,z1c l m _ h1,h2];simp only[Af,exists_eq_or_imp];constructor
  ·rintro ((h|h)|h)
   ·exact .inl h
   ·exact .inr (.inl h.symm)
   ·exact .inr (.inr h)
  ·rintro (h|h|h)
   ·exact .inl (.inl h)
   ·exact .inl (.inr h.symm)
   ·exact .inr h
theorem zhf{l:List Part}{s:List Span}(hl:l.length<=4)(hb:∀p∈l,EJ p=true)(hs:Syms s):Plain (togL l s)/\∀v,memL (togL l s) v↔∃x,memL s x/\totV l x=v:=by
 unfold togL;split
 ·rename_i h1
  obtain⟨p,rfl⟩:=List.length_eq_one_iff.1 h1;obtain⟨i1,i2⟩:=GI s (hb p oc);refine⟨i1,λv=>?_⟩;have e:nth [p] 0=p:=rfl;rw[e,i2];have e2:∀x,totV [p] x=valP p x:=λx=>by simp[totV]
  constructor
  ·rintro⟨x,h1,_,h3⟩;exact⟨x,h1,by rw[e2];exact h3⟩
  ·rintro⟨x,h1,h3⟩
   have:=hs.mem h1;exact⟨x,h1,om,by rw[<-e2];exact h3⟩
 ·refine⟨(Bo _).1,λv=>?_⟩
  rw[(Bo _).2 v,z1c l _ _ (λs hs=>by cases hs),K3 hs];simp only[BQ,BC,Ff];constructor
  ·rintro⟨h,_⟩;exact h
  ·rintro⟨x,h1,rfl⟩
   have:=hs.mem h1;have:=K1 (x:=x) om hb;exact⟨⟨x,h1,rfl⟩,om⟩
def Win(sets:List (List Span))(w:List Int):Prop:=w.length=sets.length/\∀i,i<sets.length->memL (nth sets i) (nth w i)
def QB(l:List Part)(pl:List Int)(w:List Int):Int:=(pl.map λa=>totV (atL l a) (nth w a.toNat)).sum
def totW(w:List Int)(l:List Part):Int:=(l.map λp=>valP p (nth w p.at_.toNat)).sum
theorem YE{w:List Int}{i j:Nat}{x:Int}(h:i<w.length):nth (w.set i x) j=if j=i then x else nth w j:=by
 simp only[nth,Ak,List.getElem?_set];split
 ·subst_vars;simp[h]
 ·rename_i hne;rw[Ad (λe=>hne e.symm)]
theorem Ik{α:Type}{f g:α->Int}:∀{l:List α},(∀a∈l,f a=g a)->(l.map f).sum=(l.map g).sum
 |[],_=>rfl
 |a::l,h=>by simp[h a oc,Ik (l:=l) λb hb=>h b (by simp[hb])]
theorem Mg{α:Type}{f g:α->Int}:∀{l:List α},(l.map λa=>f a+g a).sum=(l.map f).sum+(l.map g).sum
 |[]=>rfl
 |a::l=>by
  have:=Mg (f:=f) (g:=g) (l:=l);simp only[AD,List.sum_cons,this];omega
theorem IP{α:Type}{f:α->Int}:∀{l:List α},(∀a∈l,f a=0)->(l.map f).sum=0
 |[],_=>rfl
 |a::l,h=>by simp[h a oc,IP (l:=l) λb hb=>h b (by simp[hb])]
theorem Mh{c:Int}{g:Int->Int}:∀{l:List Int},l.Nodup->c∈l->(l.map λa=>if c=a then g a else 0).sum=g c
 |[],_,h=>by cases h
 |a::l,hn,h=>by
  obtain⟨h1,h2⟩:=Cc.1 hn;by_cases e:c=a
  ·subst e
   have:(l.map λa=>if c=a then g a else 0).sum=0:=IP λb hb=>Ad λ(e2:c=b)=>h1 (by rw[e2];exact hb);simp[this]
  ·have hm:c∈l:=by simpa [e] using h
   simp[e,Mh h2 hm]
theorem NC(w:List Int):∀(l:List Part)(pl:List Int),pl.Nodup->(∀p∈l,p.at_∈pl)->QB l pl w=totW w l
 |[],pl,_,_=>IP λa _=>rfl
 |p::l,pl,hn,h=>by
  have ih:=NC w l pl hn λq hq=>h q (by simp[hq])
  have e:∀a∈pl,totV (atL (p::l) a) (nth w a.toNat)=(if p.at_=a then valP p (nth w a.toNat) else 0)+totV (atL l a) (nth w a.toNat):=λa _=>by
   simp only[atL,BV,Ah];split
   ·simp[totV]
   ·simp[totV]
  rw[QB,Ik e,Mg,Mh (g:=λa=>valP p (nth w a.toNat)) hn (h p oc)];rw[QB] at ih;rw[ih];simp[totW]
theorem H7:∀(l:List Part)(pl:List Int),pl.Nodup->(l.foldl Fl pl).Nodup/\(∀a,a∈l.foldl Fl pl↔a∈pl\/∃p∈l,p.at_=a)/\(l.foldl Fl pl).length<=pl.length+l.length
 |[],pl,h=>⟨h,λa=>by simp,oc⟩
 |p::l,pl,h=>by
  have h1:(Fl pl p).Nodup/\(∀a,a∈Fl pl p↔a∈pl\/p.at_=a)/\(Fl pl p).length<=pl.length+1:=by
   unfold Fl;split
   ·rename_i hm
    exact⟨h,λa=>⟨.inl,λhh=>hh.elim id λe=>e ▸ hm⟩,om⟩
   ·rename_i hm
    refine⟨Dg.2 ⟨h,oc,λa ha b hb=>?_⟩,λa=>by simp[eq_comm],oc⟩;simp only[Am] at hb;subst hb;exact λe=>hm (e ▸ ha)
  obtain⟨k1,k2,k3⟩:=H7 l (Fl pl p) h1.1;refine⟨k1,λa=>?_,by have:=h1.2.2;simp only[List.foldl_cons,List.length_cons];omega⟩;rw[List.foldl_cons,k2,h1.2.1];simp only[Af,exists_eq_or_imp,or_assoc]
theorem SD{l:List Span}(h:Plain l):Full l:=h.1
theorem zp7{sets:List (List Span)}{w:List Int}{a:Nat}{x:Int}(hw:Win sets w)(ha:a<sets.length)(hx:memL (nth sets a) x):Win sets (w.set a x):=by
 refine⟨by simp[hw.1],λi hi=>?_⟩;rw[YE (by rw[hw.1];exact ha)];split
 ·subst_vars;exact hx
 ·exact hw.2 i hi
theorem Wz{l:List Part}{sets:List (List Span)}(hS:SA l sets)(hl:l.length<=4)(hne:∃w,Win sets w):∀(pl:List Int)(out:List Span),pl.Nodup->(∀a∈pl,0<=a/\a<sets.length)->Full out->pl.length<=4 ->
 (∀v,memL out v->-1114111<=v/\v<=1114111+(4-(pl.length:Int)) * 264241152)->Full (pl.foldl (K2 l sets) out)/\∀v,memL (pl.foldl (K2 l sets) out) v↔∃o w,memL out o/\Win sets w/\o+QB l pl w=v
 |[],out,_,_,hf,_,_=>⟨hf,λv=>by
  obtain⟨w,hw⟩:=hne;simp only[List.foldl_nil,QB,AX,List.sum_nil,Int.add_zero]
  exact⟨λh=>⟨v,w,h,hw,rfl⟩,λ⟨o,_,h,_,e⟩=>e ▸ h⟩⟩
 |a::pl,out,hn,hp,hf,hlen,hb=>by
  obtain⟨n1,n2⟩:=Cc.1 hn;have ha:=hp a oc;have hm:nth sets a.toNat∈sets:=Bi om;have hsy:=hS.syms _ hm
  have hbits:∀p∈atL l a,EJ p=true:=λp hp=>by
   have:=hS.parts p ((AW.1 hp).1);simp only[EP,Ac] at this;exact this.2
  have hla:(atL l a).length<=4:=Bl (Bg _ _) hl;obtain⟨t1,t2⟩:=zhf hla hbits hsy;obtain⟨p1,p2⟩:=zax hf (SD t1)
  have htot:∀x,memL (nth sets a.toNat) x->0<=totV (atL l a) x/\totV (atL l a) x<=264241152:=λx hx=>by
   have:=hsy.mem hx;have:=K1 (x:=x) om hbits;omega
  simp only[List.length_cons] at hlen hb
  have hv:∀v,memL (K2 l sets out a) v↔∃o x,memL out o/\memL (nth sets a.toNat) x/\o+totV (atL l a) x=v:=λv=>by
   rw[K2,p2];constructor
   ·rintro⟨⟨o,y,h1,h2,h3⟩,_⟩
    obtain⟨x,k1,k2⟩:=(t2 y).1 h2;exact⟨o,x,h1,k1,by rw[k2];exact h3⟩
   ·rintro⟨o,x,h1,h2,rfl⟩
    have:=hb o h1;have:=htot x h2
    push_cast at *
    exact⟨⟨o,_,h1,(t2 _).2 ⟨x,h2,rfl⟩,rfl⟩,om,om⟩
  obtain⟨i1,i2⟩:=Wz hS hl hne pl (K2 l sets out a) n2 (λb hb=>hp b (by simp[hb])) (SD p1) om (λv h=>by
   obtain⟨o,x,h1,h2,rfl⟩:=(hv v).1 h;have:=hb o h1;have:=htot x h2
   push_cast at *
   omega)
  refine⟨i1,λv=>?_⟩;rw[List.foldl_cons,i2];constructor
  ·rintro⟨u,w,h1,hw,rfl⟩
   obtain⟨o,x,k1,k2,rfl⟩:=(hv u).1 h1;refine⟨o,w.set a.toNat x,k1,zp7 hw om k2,?_⟩
   have e1:QB l pl (w.set a.toNat x)=QB l pl w:=Ik λb hb=>by
    have:=hp b (by simp[hb]);rw[YE (by rw[hw.1];omega),Ad];intro e;exact n1 ((show b=a by omega) ▸ hb)
   have e2:QB l (a::pl) (w.set a.toNat x)=totV (atL l a) x+QB l pl (w.set a.toNat x):=by
    simp only[QB,AD,List.sum_cons];rw[YE (by rw[hw.1];omega),Ae rfl]
   rw[e2,e1];omega
  ·rintro⟨o,w,h1,hw,rfl⟩
   have hx:=hw.2 a.toNat om;refine⟨o+totV (atL l a) (nth w a.toNat),w,(hv _).2 ⟨o,_,h1,hx,rfl⟩,hw,?_⟩;simp only[QB,AD,List.sum_cons];omega
theorem zhg(x:Int):Full [⟨x,x⟩]:=λs hs=>by simp only[Am] at hs;subst hs;simp
theorem YF{x v:Int}:memL [⟨x,x⟩] v↔v=x:=by rw[Bs];simp only[BQ,A7];omega
theorem zaz{t:Term}{sets:List (List Span)}(hS:SA t.parts sets)(hl:t.parts.length<=4)(hs:Gq t.sum=true)(hne:∃w,Win sets w):Full (Kf t sets)/\∀v,memL (Kf t sets) v↔∃w,Win sets w/\t.sum+totW w t.parts=v:=by
 obtain⟨k1,k2,k3⟩:=H7 t.parts [] oc;have hsm:=GH hs;simp only[List.length_nil] at k3
 have hat:∀a,a∈Gu t.parts->0<=a/\a<sets.length:=λa ha=>by
  obtain h|⟨p,hp,rfl⟩:=(k2 a).1 ha
  ·cases h
  ·exact JR (hS.parts p hp)
 obtain⟨h1,h2⟩:=Wz hS hl hne (Gu t.parts) [⟨t.sum,t.sum⟩] k1 hat (zhg _) (by rw[Gu];omega) (λv hv=>by
  rw[YF] at hv;have:(Gu t.parts).length<=4:=by rw[Gu];omega
  omega)
 refine⟨h1,λv=>?_⟩;rw[Kf,h2];constructor
 ·rintro⟨o,w,e,hw,rfl⟩
  rw[YF] at e;exact⟨w,hw,by rw[e,Gu,NC w _ _ k1 λp hp=>(k2 _).2 (.inr ⟨p,hp,rfl⟩)]⟩
 ·rintro⟨w,hw,rfl⟩
  exact⟨_,w,YF.2 rfl,hw,by rw[Gu,NC w _ _ k1 λp hp=>(k2 _).2 (.inr ⟨p,hp,rfl⟩)]⟩
theorem YG{w:List Int}{n:Int}:∀{l:List Part},(∀p∈l,EP p n=true)->(∀p∈l,0<=nth w p.at_.toNat/\nth w p.at_.toNat<=1114111)->totP w l=totW w l/\0<=totW w l/\totW w l<=l.length * 66060288
 |[],_,_=>by simp[totP,totW]
 |p::l,h,hx=>by
  obtain⟨i1,i2,i3⟩:=YG (l:=l) (λq hq=>h q (by simp[hq])) (λq hq=>hx q (by simp[hq]));have hr:=h p oc;simp only[EP,Ac] at hr;have hxp:=hx p oc;have hv:=CZ hr.2 (x:=nth w p.at_.toNat) om;have e1:val1 p (nth w p.at_.toNat)=valP p (nth w p.at_.toNat):=(TY hr.2 om).2;have e2:totW w (p::l)=valP p (nth w p.at_.toNat)+totW w l:=by simp[totW]
  rw[totP,e1,e2,i1];refine⟨rfl,om,?_⟩
  push_cast [List.length_cons]
  omega
theorem K4{t:Term}{sets:List (List Span)}{w:List Int}(hS:SA t.parts sets)(hn:DN t=true)(hw:Win sets w):
 Ga t w=if 0<=t.sum+totW w t.parts/\t.sum+totW w t.parts<=1114111 then some (t.base+valP t.outer (t.sum+totW w t.parts)) else none:=by
 simp only[DN,Ac,Ah] at hn;obtain⟨⟨⟨hb,hs⟩,ho⟩,_,hl⟩:=hn;have hsm:=GH hs;have hbm:=GH hb;have hsym:∀i,i<sets.length->0<=nth w i/\nth w i<=1114111:=λi hi=>(hS.syms _ (Bi hi)).mem (hw.2 i hi)
 obtain⟨e1,b1,b2⟩:=YG (w:=w) hS.parts (λp hp=>by
  have:=JR (hS.parts p hp)
  exact hsym _ om)
 have hall:w.all symB=true:=by
  rw[AP];intro x hx;obtain⟨i,hi,rfl⟩:=Bw hx;have:=hsym i (by rw[<-hw.1];exact hi);have e:nth w i=w[i]:=by simp[nth,hi]
  rw[e] at this;simp[symB];omega
 have hright:N4 w t.parts=true:=by
  rw[N4,AP];intro p hp;rw[hw.1];exact hS.parts p hp
 have hsum:=z9o w t.parts t.sum (zoq om);rw[Ae hright,e1,zoq om] at hsum;unfold Ga;rw[Ae hall,hsum];simp only;by_cases h:0<=t.sum+totW w t.parts/\t.sum+totW w t.parts<=1114111
 ·have hvb:valB t.outer (t.sum+totW w t.parts)=true:=(TY ho om).1
  have hv2:=CZ ho (x:=t.sum+totW w t.parts) om;rw[Ae h,Ae (by simp[hvb];omega),show IntKind.i64.wrap (t.base+valP t.outer (t.sum+totW w t.parts))=t.base+valP t.outer (t.sum+totW w t.parts) from IntWalk.i64_in _ om]
 ·rw[Ad h,Ad]
  simp only[valB,ho,Bj,Ac,Ah];omega
def midG(gs:List (List Span))(k:Nat):List (List Span):=(gs.take k).map symI++List.replicate (gs.length-k) []
theorem z1d{gs:List (List Span)}{k:Nat}(h:k<=gs.length):(midG gs k).length=gs.length:=by simp[midG];omega
theorem zhh(gs:List (List Span)):midG gs gs.length=gs.map symI:=by simp[midG]
theorem zhi{gs:List (List Span)}{k:Nat}(h:k<gs.length):((midG gs k).map AA).set k (AA (symI (nth gs k)))=(midG gs (k+1)).map AA:=by
 have e:gs.length-k=(gs.length-(k+1))+1:=om
 rw[midG,midG,take_at h,e,List.replicate_succ,Aw,F5 _ _ (by simp;omega)];simp[show min k gs.length=k by omega]
theorem zp8{gs:List (List Span)}{k:Nat}(h:k<gs.length):nth (midG gs (k+1)) k=symI (nth gs k):=by
 rw[midG,take_at h,nth,Ak,Aw,A3,AG (by simp;omega)];simp[show min k gs.length=k by omega]
theorem zhj(n:Nat):AJ (List.replicate n AV.nilS)=true:=by
 induction n with
 |zero=>rfl
 |succ n ih=>simp[List.replicate_succ,AJ,AV.pure,ih]
theorem zhk(l:List Grp)(gs:List (List Span)):leSL l (List.replicate gs.length .nilS) ((midG gs 0).map AA):=by
 simp only[midG,List.take_zero,AX,List.nil_append,Nat.sub_zero,Ek];generalize gs.length=n
 induction n with
 |zero=>rfl
 |succ n ih=>exact⟨⟨ox,rfl⟩,ih⟩
def ND(gs:List (List Span))(k:Nat):Bool:=(gs.take k).all λg=>decide (0<((symI g).length:Int))
theorem zhl{gs:List (List Span)}{k:Nat}(h:k<gs.length):ND gs (k+1)=(ND gs k&&decide (0<((symI (nth gs k)).length:Int))):=by
 rw[ND,take_at h,List.all_append];simp[ND]
def prtB(t:Term)(n:Int):Bool:=t.parts.all λp=>EP p n
def G7(t:Term)(gs:List (List Span)):List Span × Bool :=
 if 4<gs.length\/DN t=false then ([],false) else if prtB t gs.length=false then ([],false) else
  if ND gs gs.length=false then ([],true) else (Kf t (gs.map symI),R0 (Kf t (gs.map symI)))
theorem z1e{l:List Part}{n:Int}{k:Nat}(h:k<l.length):(l.drop k).all (λp=>EP p n)=(EP (nth l k) n&&(l.drop (k+1)).all λp=>EP p n):=by rw[drop_at h,List.all_cons]
theorem NF{t:Term}{gs:List (List Span)}(h:prtB t gs.length=true)(hg:gs.length<=4):SA t.parts (gs.map symI) where
 parts p hp:=by
  rw[Au];exact AP.1 h p hp
 syms s hs:=by
  obtain⟨g,_,rfl⟩:=Al.1 hs;exact Q7 g
 many:=by simp;omega
theorem z5e(t:Term)(gs:List (List Span))(ht:t.parts.length<1000000000000)(hg:∀g∈gs,g.length<=1000000)(hl:gs.length<=9223372036854775807):
 PC Tryz.prog 188 [C9 t,AQ gs] (.tup [AA (G7 t gs).1,.bool (G7 t gs).2]):=by
 have hN:=Kx t ht;have hY:=Wq;refine Cd VG ?_;unfold Ot;by_cases h1:4<gs.length\/DN t=false
 ·rw[G7,Ae h1]
  (with_reducible repeat'(first|simp(disch:=omega)only[push_cast,↓zz,seval]|refine sp_ ?_ ?_<;>try(intro hc;push_cast at hc)|refine ee hN ?_|(refine cc hN ?_;simp(disch:=omega)only[push_cast,↓zz,seval];fail_if_success change False)|omega|intro _))
  all_goals first
   |((repeat'(first|(simp(disch:=omega)only[push_cast,↓zz,seval,GX])|omega|(with_reducible refine Aa ?_ ?_)));done)
   |(exfalso;rcases h1 with h1|h1<;>first|omega|simp_all)
 have h4:gs.length<=4:=om
 have hn:DN t=true:=by simpa using (Ch.1 h1).2
 (with_reducible repeat'(first|simp(disch:=omega)only[push_cast,↓zz,seval,hn]|refine sp_ ?_ ?_<;>try(intro hc;push_cast at hc)|refine ee hN ?_|(refine cc hN ?_;simp(disch:=omega)only[push_cast,↓zz,seval,hn];fail_if_success change False)|omega|intro _))
 refine Ba (B7 (λ(k:Nat)=>k<=gs.length) (λk=>gs.length-k)
  (λk=>[(1,AQ gs),(2,.ptr 0 1 0 0),(6,.bool (ND gs k)),(7,.ref 1 1 0 gs.length),(23,AQ gs),(24,.int .i64 gs.length),(25,.int .i64 k)]) (λk=>[⟨6,1,true,[C9 t]⟩,⟨1,1,true,(midG gs k).map AA⟩]) (λenv _=>[D4 1 (env 2),D4 1 (env 7)]) 0 oc ?_ ?_)
 ·have e:=zhk
  have hr:AJ (List.replicate gs.length AV.nilS)=true:=zhj gs.length;have hs0:ND gs 0=true:=rfl;(with_reducible repeat'(first|simp(disch:=omega)only[push_cast,↓zz,seval,hs0,hr]|refine sp_ ?_ ?_<;>try(intro hc;push_cast at hc)|omega|intro _))
  all_goals exact e _ gs
 intro k hk;have hml:=z1d hk;rcases Aj k gs.length with hkl|hkl
 ·have hM:=IB (nth gs k) [⟨0,1114111⟩] (by have:=hg _ (Bi hkl);omega) oc
  rw[Ul] at hM;have e1:=zhi hkl;have e2:=zp8 hkl;have e3:=zhl hkl;have hml2:=z1d (gs:=gs) (k:=k+1) om;refine W_T ?_;(with_reducible repeat'(first|simp(disch:=omega)only[push_cast,↓zz,seval,hml,hml2,e1,e2]|refine sp_ ?_ ?_<;>try(intro hc;push_cast at hc)|refine ee hY ?_|refine ee hM ?_|((first|refine cc hY ?_|refine cc hM ?_);simp(disch:=omega)only[push_cast,↓zz,seval,hml,hml2,e1,e2];fail_if_success change False)|omega|intro _))
  all_goals
   refine⟨k+1,?_⟩;(with_reducible repeat'(first|simp(disch:=omega)only[push_cast,↓zz,seval,e3]|refine sp_ ?_ ?_<;>try(intro hc;push_cast at hc)|omega|intro _))
  all_goals (simp only[*,Bj,B4])
 ·obtain rfl:k=gs.length:=om
  rw[zhh] at *;refine W_T ?_;(with_reducible repeat'(first|simp(disch:=omega)only[push_cast,↓zz,seval]|refine sp_ ?_ ?_<;>try(intro hc;push_cast at hc)|omega|intro _))
  refine Ba (B7 (λ(k:Nat)=>k<=t.parts.length/\prtB t gs.length=(t.parts.drop k).all λp=>EP p gs.length) (λk=>t.parts.length-k)
   (λk=>[(1,AQ gs),(2,.ptr 0 1 0 0),(6,.bool (ND gs gs.length)),(7,AQ (gs.map symI)),(47,Cu t.parts),(48,.int .i64 t.parts.length),(49,.int .i64 k)]) (λk=>[⟨6,1,true,[C9 t]⟩]) (λenv _=>[D4 1 (env 2)]) 0 ⟨oc,rfl⟩ ?_ ?_)
  ·have et:List.take gs.length (gs.map symI)=gs.map symI:=Ay oc
   (with_reducible repeat'(first|simp(disch:=omega)only[push_cast,↓zz,seval,et]|refine sp_ ?_ ?_<;>try(intro hc;push_cast at hc)|omega|intro _))
  rintro k ⟨k1,k2⟩;rcases Aj k t.parts.length with hkp|hkp
  ·have hR:=H5 (nth t.parts k) gs.length
   rw[z1e hkp] at k2;refine W_T ?_;(with_reducible repeat'(first|simp(disch:=omega)only[push_cast,↓zz,seval]|refine sp_ ?_ ?_<;>try(intro hc;push_cast at hc)|refine ee hR ?_|(refine cc hR ?_;simp(disch:=omega)only[push_cast,↓zz,seval];fail_if_success change False)|omega|intro _))
   ·have hp:prtB t gs.length=false:=by rw[k2];simp[*]
    rw[G7,Ad h1,Ae hp];(repeat'(first|(simp(disch:=omega)only[push_cast,↓zz,seval,GX])|omega|(with_reducible refine Aa ?_ ?_)))
   ·exact⟨k+1,by push_cast,⟨om,by rw[k2];simp[*]⟩,om⟩
  ·rw[Ao hkp] at k2
   have hp:prtB t gs.length=true:=k2;have hnum:=hn;simp only[DN,Ac,Ah] at hnum;have hV:=YD t (gs.map symI) hnum.2.2 hnum.1.1.2 (NF hp h4);have hI:G7 t gs=if ND gs gs.length=false then ([],true) else (Kf t (gs.map symI),R0 (Kf t (gs.map symI))):=by rw[G7,Ad h1,Ad (by simp[hp])]
   refine W_T ?_;(with_reducible repeat'(first|simp(disch:=omega)only[push_cast,↓zz,seval]|refine sp_ ?_ ?_<;>try(intro hc;push_cast at hc)|refine ee hV ?_|(refine cc hV ?_;simp(disch:=omega)only[push_cast,↓zz,seval];fail_if_success change False)|omega|intro _))
   all_goals
    rw[hI]
    first
     |rw[Ae (by assumption)]
     |rw[Ad (by simp[*])]
    (repeat'(first|(simp(disch:=omega)only[push_cast,↓zz,seval,GX])|omega|(with_reducible refine Aa ?_ ?_)))
def G8(t:Term)(gs:List (List Span)):List Span × Bool :=
 if (G7 t gs).2=false then ([],false) else if (G7 t gs).1.length=0 then ([],true) else (Gs (imgL t.outer (G7 t gs).1) t.base,true)
theorem zb0(t:Term)(gs:List (List Span))(h:Gq t.sum=true):(G7 t gs).1.length<=2147483649:=by
 unfold G7
 repeat' split
 all_goals first|(simp;done)|skip
 unfold Kf
 have key:∀(pl:List Int)(out:List Span),Acc out->Acc (pl.foldl (K2 t.parts (gs.map symI)) out):=λpl=>by
  induction pl with
  |nil=>exact λout h=>h
  |cons a pl ih=>exact λout h=>ih _ (Un _ _)
 exact (key _ _ (zav h)).2
theorem z5f(t:Term)(gs:List (List Span))(ht:t.parts.length<1000000000000)(hg:∀g∈gs,g.length<=1000000)(hl:gs.length<=9223372036854775807):
 PC Tryz.prog 168 [C9 t,AQ gs] (.tup [AA (G8 t gs).1,.bool (G8 t gs).2]):=by
 have hI:=z5e t gs ht hg hl;have hO:=H6 t
 have hlen:(G7 t gs).2=true->(G7 t gs).1.length<=2147483649:=λh=>by
  by_cases hs:Gq t.sum=true
  ·exact zb0 t gs hs
  ·have:DN t=false:=by simp[DN,hs]
   rw[G7,Ae (.inr this)] at h;cases h
 refine Cd VE ?_;unfold Oo;rcases Bool.eq_false_or_eq_true (G7 t gs).2 with h2|h2
 ·have hl2:=hlen h2
  have hA:=Uo t.outer (G7 t gs).1;have hM:=Lb t.outer (G7 t gs).1 om;have hV:=MP (imgL t.outer (G7 t gs).1) t.base (by have:=hA.2;omega);(with_reducible repeat'(first|simp(disch:=omega)only[push_cast,↓zz,seval,h2]|refine sp_ ?_ ?_<;>try(intro hc;push_cast at hc)|refine ee hI ?_|refine ee hO ?_|refine ee hM ?_|refine ee hV ?_|((first|refine cc hI ?_|refine cc hO ?_|refine cc hM ?_|refine cc hV ?_);simp(disch:=omega)only[push_cast,↓zz,seval,h2];fail_if_success change False)|omega|intro _))
  all_goals
   rw[G8,Ad (by simp[h2])]
   first
    |rw[Ae om]
    |rw[Ad om]
   (repeat'(first|(simp(disch:=omega)only[push_cast,↓zz,seval,GX])|omega|(with_reducible refine Aa ?_ ?_)))
 ·(with_reducible repeat'(first|simp(disch:=omega)only[push_cast,↓zz,seval,h2]|refine sp_ ?_ ?_<;>try(intro hc;push_cast at hc)|refine ee hI ?_|(refine cc hI ?_;simp(disch:=omega)only[push_cast,↓zz,seval,h2];fail_if_success change False)|omega|intro _))
  all_goals
   rw[G8,Ae h2];(repeat'(first|(simp(disch:=omega)only[push_cast,↓zz,seval,GX])|omega|(with_reducible refine Aa ?_ ?_)))
def Kg(t:Term)(i o:Int)(gs:List (List Span)):Bool:=J2 t i o gs.length&&((G8 t gs).2&&decide (Hs (G8 t gs).1 (domL o)=[]))
theorem zb1(t:Term)(gs:List (List Span)):(G8 t gs).1.length<=2147483649:=by
 unfold G8
 repeat' split
 all_goals first|(simp;done)|skip
 have h1:=(Uo t.outer (G7 t gs).1).2;have h2:=Pa (imgL t.outer (G7 t gs).1) t.base;simp only;omega
theorem zb2(s:Int):(domL s).length<=2:=by unfold domL;split<;>(try split)<;>simp
theorem zb3(t:Term)(i o:Int)(gs:List (List Span))(ht:t.parts.length<1000000000000)(hg:∀g∈gs,g.length<=1000000)(hl:gs.length<=9223372036854775807):
 PC Tryz.prog 143 [C9 t,.int .i64 i,.int .i64 o,AQ gs] (.bool (Kg t i o gs)):=by
 have hR:=z4r t i o gs.length ht;have hI:=z5f t gs ht hg hl;have hD:=Gp o;have hW:=Mc (G8 t gs).1 (domL o) (by have:=zb1 t gs;omega) (by have:=zb2 o;omega);refine Cd Yk ?_;unfold Qb Kg;(with_reducible repeat'(first|simp(disch:=omega)only[push_cast,↓zz,seval]|refine sp_ ?_ ?_<;>try(intro hc;push_cast at hc)|refine ee hR ?_|refine ee hI ?_|refine ee hD ?_|refine ee hW ?_|((first|refine cc hR ?_|refine cc hI ?_|refine cc hD ?_|refine cc hW ?_);simp(disch:=omega)only[push_cast,↓zz,seval];fail_if_success change False)|omega|intro _))
 all_goals simp only[*,Bj,B4]
theorem Ld:∀{m:List Span},Plain m->m≠[]->∃a b,Wr m=some a/\Lu m=some b/\memL m a/\memL m b/\∀v,memL m v->a<=v/\v<=b
 |[],_,h=>absurd rfl h
 |[s],h,_=>by
  have:=h.head;refine⟨s.lo,s.hi,rfl,rfl,Bs.2 (.inl om),Bs.2 (.inl om),λv hv=>?_⟩;rw[Bs] at hv;simpa [BQ] using hv
 |s::r::m,h,_=>by
  have hs:=h.head;obtain⟨a,b,e1,e2,h1,h2,h3⟩:=Ld h.tail oc;have hb:=h.after h2;refine⟨s.lo,b,rfl,?_,Bs.2 (.inl om),Bs.2 (.inr h2),λv hv=>?_⟩
  ·simpa [Lu] using e2
  ·rcases Bs.1 hv with h4|h4
   ·omega
   ·have:=h.after h4
    have:=h3 v h4;omega
theorem K5{l:List Span}{v:Int}(h:memL l v):l≠[]:=by rintro rfl;exact BQ v h
theorem z5g{l:List Span}{u:Int}(hu:memL l u)(hb:∀v,memL l v->-1073741824<=v/\v<=1073741824):R0 l=true↔∀v,memL l v->0<=v/\v<=1114111:=by
 obtain⟨p1,p2⟩:=Bo l;have hm:∀v,memL (AR l) v↔memL l v:=λv=>by rw[p2];exact⟨λh=>h.1,λh=>⟨h,hb v h⟩⟩
 obtain⟨a,b,e1,e2,h1,h2,h3⟩:=Ld p1 (K5 ((hm u).2 hu))
 have hl:0<(l.length:Int):=by
  have:=Cz.2 (K5 hu);omega
 simp only[R0,e1,e2,Option.getD_some,Ac,Ah];constructor
 ·rintro⟨_,k1,k2⟩ v hv
  have:=h3 v ((hm v).2 hv);omega
 ·intro h
  exact⟨hl,(h a ((hm a).1 h1)).1,(h b ((hm b).1 h2)).2⟩
theorem zhm{gs:List (List Span)}:ND gs gs.length=true↔∃w,Win (gs.map symI) w:=by
 rw[ND,As,AP];constructor
 ·intro h
  refine⟨(gs.map symI).map λs=>(nth s 0).lo,oc,λi hi=>?_⟩;have hi':i<gs.length:=by simpa using hi
  have h1:=h _ (Bi hi');have e1:nth (gs.map symI) i=symI (nth gs i):=by simp[nth,hi']
  have e2:nth ((gs.map symI).map λs=>(nth s 0).lo) i=(nth (symI (nth gs i)) 0).lo:=by simp[nth,hi']
  rw[e1,e2];simp only[Ah] at h1;have hm:=Bi (l:=symI (nth gs i)) (i:=0) om;have hs:=(Q7 (nth gs i)).2 _ hm;exact⟨_,hm,om,om⟩
 ·rintro⟨w,hw⟩ g hg
  obtain⟨i,hi,rfl⟩:=Bw hg;have h1:=hw.2 i (by simpa using hi);have e1:nth (gs.map symI) i=symI gs[i]:=by simp[nth,hi]
  rw[e1] at h1;have:=Cz.2 (K5 h1);simp only[Ah];omega
theorem z5h{t:Term}{gs:List (List Span)}(h4:gs.length<=4)(hn:DN t=true)(hp:prtB t gs.length=true):
 ((G8 t gs).2=true↔∀w,Win (gs.map symI) w->(Ga t w).isSome=true)/\((G8 t gs).2=false->(G8 t gs).1=[]) /\
 ((G8 t gs).2=true->Plain (G8 t gs).1/\∀v,memL (G8 t gs).1 v↔∃w,Win (gs.map symI) w/\Ga t w=some v):=by
 have hS:=NF hp h4;have hnum:=hn;simp only[DN,Ac,Ah] at hnum;obtain⟨⟨⟨hb,hs⟩,ho⟩,_,hl⟩:=hnum;have hsm:=GH hs;have hbm:=GH hb
 have hI:G7 t gs=if ND gs gs.length=false then ([],true) else (Kf t (gs.map symI),R0 (Kf t (gs.map symI))):=by
  rw[G7,Ad (by simp[hn];omega),Ad (by simp[hp])]
 have hsome:=@zhm gs;cases hB:ND gs gs.length
 ·rw[hB] at hI hsome
  have hno:∀w,¬Win (gs.map symI) w:=λw hw=>by have:=hsome.2 ⟨w,hw⟩;cases this
  have e:G8 t gs=([],true):=by rw[G8,hI];simp
  rw[e];refine⟨⟨λ_ w hw=>absurd hw (hno w),λ_=>rfl⟩,λh=>(by cases h),λ_=>⟨⟨oc,oc⟩,λv=>⟨λh=>absurd h (BQ v),λ⟨w,hw,_⟩=>absurd hw (hno w)⟩⟩⟩
 ·rw[hB] at hI hsome
  obtain⟨w0,hw0⟩:=hsome.1 rfl;obtain⟨v1,v2⟩:=zaz hS hl hs ⟨w0,hw0⟩
  have hbd:∀w,Win (gs.map symI) w->0<=totW w t.parts/\totW w t.parts<=264241152:=λw hw=>by
   obtain⟨_,b1,b2⟩:=YG (w:=w) hS.parts (λp hp=>by
    have:=JR (hS.parts p hp)
    exact (hS.syms _ (Bi om)).mem (hw.2 _ om))
   omega
  have hin:=z5g ((v2 _).2 ⟨w0,hw0,rfl⟩) (λv hv=>by
   obtain⟨w,hw,rfl⟩:=(v2 v).1 hv;have:=hbd w hw
   omega)
  have hin2:R0 (Kf t (gs.map symI))=true↔∀w,Win (gs.map symI) w->(Ga t w).isSome=true:=by
   rw[hin];constructor
   ·intro h w hw
    rw[K4 hS hn hw,Ae (h _ ((v2 _).2 ⟨w,hw,rfl⟩))];rfl
   ·intro h v hv
    obtain⟨w,hw,rfl⟩:=(v2 v).1 hv;have:=h w hw;rw[K4 hS hn hw] at this;split at this
    ·assumption
    ·cases this
  have hne:(Kf t (gs.map symI)).length≠0:=λh=>K5 ((v2 _).2 ⟨w0,hw0,rfl⟩) (Az h);cases hi:R0 (Kf t (gs.map symI))
  ·have e:G8 t gs=([],false):=by rw[G8,hI];simp[hi]
   rw[e];rw[hi] at hin2;exact⟨hin2,λ_=>rfl,λh=>by cases h⟩
  ·have e:G8 t gs=(Gs (imgL t.outer (Kf t (gs.map symI))) t.base,true):=by
    rw[G8,hI];simp[hi,hne]
   rw[e];rw[hi] at hin2;refine⟨hin2,λh=>(by cases h),λ_=>⟨?_,λv=>?_⟩⟩
   ·unfold Gs
    split
    ·exact⟨oc,oc⟩
    ·exact (Bo _).1
   ·obtain⟨_,i2⟩:=GI (Kf t (gs.map symI)) ho
    rw[z0v om,i2];constructor
    ·rintro⟨⟨⟨x,h1,h2,h3⟩,_⟩,_⟩
     obtain⟨w,hw,rfl⟩:=(v2 x).1 h1;have hv:=hin.1 hi _ h1;exact⟨w,hw,by rw[K4 hS hn hw,Ae hv,h3];congr 1;omega⟩
    ·rintro⟨w,hw,h⟩
     have hm:=(v2 _).2 ⟨w,hw,rfl⟩;have hv:=hin.1 hi _ hm;rw[K4 hS hn hw,Ae hv] at h;have hvs:=CZ ho (x:=t.sum+totW w t.parts) om;simp only[Aq] at h;exact⟨⟨⟨_,hm,om,om⟩,om⟩,om⟩
def L6:Int->List Span->Bool
 |_,[]=>true
 |last,s::l=>decide (s.lo<=s.hi/\-1073741824<=s.lo/\s.hi<=1073741824/\last+1<s.lo)&&L6 s.hi l
def SE(g:List Span):Bool:=L6 (-1073741826) g
theorem z5i(g:List Span)(hl:g.length<=9223372036854775807):PC Tryz.prog 142 [AA g] (.bool (SE g)):=by
 refine Cd VB ?_;unfold Ol;refine ywA ?_
 refine Ba (B7 (λ(s:Nat × Int)=>s.1<=g.length/\SE g=L6 s.2 (g.drop s.1)/\-1073741826<=s.2/\s.2<=1073741824) (λs=>g.length-s.1)
  (λs=>[(3,.int .i64 s.2),(6,AA g),(7,.int .i64 g.length),(8,.int .i64 s.1)]) (λs=>[]) (λ_ _=>[]) (0,-1073741826) ⟨oc,rfl,oc,oc⟩ ?_ ?_)
 ·exact gwA
 rintro⟨k,last⟩ ⟨h1,h2,h3,h4⟩;simp only at h1 h2 h3 h4;rcases Aj k g.length with hk|hk
 ·rw[drop_at hk,L6] at h2
  generalize hxe:nth g k=x at *;have hw:IntKind.i64.wrap (last+1)=last+1:=IntWalk.i64_in _ om;refine W_T ?_;(with_reducible repeat'(first|simp(disch:=omega)only[push_cast,↓zz,seval,hw,hxe]|refine sp_ ?_ ?_<;>try(intro hc;push_cast at hc)|omega|intro _))
  all_goals first
   |(rw[h2,By om,B4];done)
   |exact⟨(k+1,x.hi),⟨rfl,by push_cast⟩,⟨by simp only;omega,by rw[h2,Bv om,Bj],by simp only;omega,by simp only;omega⟩,by simp only;omega⟩
 ·rw[Ao hk,L6] at h2
  refine W_T ?_;have f_:=h2;exact gwB
def K6(i:Int)(g:List Span):Bool:=!decide ((g.length:Int)=0)&&(decide ((g.length:Int)<=64)&&(SE g&&decide (Hs g (domL i)=[])))
def Fo(i:Int)(gs:List (List Span)):Bool:=decide ((gs.length:Int)<=4)&&gs.all (K6 i)
theorem QC(i:Int)(gs:List (List Span)):PC Tryz.prog 111 [.int .i64 i,AQ gs] (.bool (Fo i gs)):=by
 have hD:=Gp i;have hdl:=zb2 i;refine Cd TL ?_;unfold MA;by_cases h4:4<gs.length
 ·rw[Fo,By om,B4]
  exact gwA
 rw[Fo,Bv om,Bj];have e_:=hD;refine ywC ?_;clear e_
 refine Ba (B7 (λ(k:Nat)=>k<=gs.length/\gs.all (K6 i)=(gs.drop k).all (K6 i)) (λk=>gs.length-k)
  (λk=>[(5,AA (domL i)),(13,AQ gs),(14,.int .i64 gs.length),(15,.int .i64 k)]) (λs=>[]) (λ_ _=>[]) 0 ⟨oc,rfl⟩ ?_ ?_)
 ·exact gwA
 rintro k ⟨h1,h2⟩;rcases Aj k gs.length with hk|hk
 ·rw[drop_at hk,List.all_cons,K6] at h2
  generalize hge:nth gs k=g at *;refine W_T ?_;by_cases hl:(g.length:Int)=0
  ·rw[Bv hl,Gz,B4,B4] at h2
   have f_:=Aa hge h2;exact gwB
  by_cases hl2:(g.length:Int)<=64
  ·rw[By hl,Bv hl2,Gf,Bj,Bj] at h2
   have hW:=Mc g (domL i) om om;have hC:=z5i g om;(with_reducible repeat'(first|simp(disch:=omega)only[push_cast,↓zz,seval,hge]|refine sp_ ?_ ?_<;>try(intro hc;push_cast at hc)|refine ee hC ?_|refine ee hW ?_|((first|refine cc hC ?_|refine cc hW ?_);simp(disch:=omega)only[push_cast,↓zz,seval,hge];fail_if_success change False)|omega|intro _))
   all_goals first
    |(rw[h2];simp[*];done)
    |exact⟨k+1,by push_cast,⟨om,by rw[h2];simp[*]⟩,om⟩
  ·rw[By hl2,B4,E8,B4] at h2
   have f_:=Aa hge h2;exact gwB
 ·rw[Ao hk,List.all_nil] at h2
  refine W_T ?_;have f_:=h2;exact gwB
def IQ(d:Desc)(s:Int):Bool:=decide (0<=s)&&decide (s<d.states)
theorem Le(d:Desc)(s:Int):PC Tryz.prog 110 [C6 d,.int .i64 s] (.bool (IQ d s)):=by
 refine Cd V3 ?_;unfold Od IQ;(with_reducible repeat'(first|simp(disch:=omega)only[push_cast,↓zz,seval]|refine sp_ ?_ ?_<;>try(intro hc;push_cast at hc)|omega|intro _))
 all_goals simp only[*,DW,C7,Bj,B4]
def R2(d:Desc):Bool:=decide (0<((domL d.in_).length:Int))&&(decide (0<((domL d.out).length:Int))&&(decide (1<=d.states)&&(decide (d.states<=1024)&&(IQ d d.start&&(decide ((d.rules.length:Int)<=4096)&&decide ((d.finals.length:Int)<=4096))))))
theorem zb4(d:Desc):PC Tryz.prog 108 [C6 d] (.bool (R2 d)):=by
 have h1:=Gp d.in_;have h2:=Gp d.out;have h3:=Le d d.start;refine Cd Yg ?_;unfold PW R2;(with_reducible repeat'(first|simp(disch:=omega)only[push_cast,↓zz,seval]|refine sp_ ?_ ?_<;>try(intro hc;push_cast at hc)|refine ee h1 ?_|refine ee h2 ?_|refine ee h3 ?_|((first|refine cc h1 ?_|refine cc h2 ?_|refine cc h3 ?_);simp(disch:=omega)only[push_cast,↓zz,seval];fail_if_success change False)|omega|intro _))
 all_goals simp only[*,DW,C7,Bj,B4]
def H8(d:Desc)(out:List Term)(gs:List (List Span)):Bool:=decide ((out.length:Int)<=64)&&out.all λt=>Kg t d.in_ d.out gs
theorem QD(d:Desc)(out:List Term)(gs:List (List Span))(ho:∀t∈out,t.parts.length<1000000000000)(hg:∀g∈gs,g.length<=1000000)(hl:gs.length<=9223372036854775807):
 PC Tryz.prog 112 [C6 d,C5 out,AQ gs] (.bool (H8 d out gs)):=by
 refine Cd TM ?_;unfold MB;by_cases h4:64<out.length
 ·rw[H8,By om,B4]
  exact gwA
 rw[H8,Bv om,Bj];refine ywA ?_
 refine Ba (B7 (λ(k:Nat)=>k<=out.length/\(out.all λt=>Kg t d.in_ d.out gs)=(out.drop k).all λt=>Kg t d.in_ d.out gs) (λk=>out.length-k)
  (λk=>[(2,AQ gs),(3,.ptr 0 1 0 0),(12,C5 out),(13,.int .i64 out.length),(14,.int .i64 k)]) (λs=>[⟨6,1,true,[C6 d]⟩]) (λenv _=>[D4 1 (env 3)]) 0 ⟨oc,rfl⟩ ?_ ?_)
 ·exact gwA
 rintro k ⟨h1,h2⟩;rcases Aj k out.length with hk|hk
 ·rw[drop_at hk,List.all_cons] at h2
  have hF:=zb3 (nth out k) d.in_ d.out gs (ho _ (Bi hk)) hg hl;refine W_T ?_;(with_reducible repeat'(first|simp(disch:=omega)only[push_cast,↓zz,seval]|refine sp_ ?_ ?_<;>try(intro hc;push_cast at hc)|refine ee hF ?_|(refine cc hF ?_;simp(disch:=omega)only[push_cast,↓zz,seval];fail_if_success change False)|omega|intro _))
  all_goals first
   |(rw[h2];simp[*];done)
   |exact⟨k+1,by push_cast,⟨om,by rw[h2];simp[*]⟩,om⟩
 ·rw[Ao hk,List.all_nil] at h2
  refine W_T ?_;have f_:=h2;exact gwB
def eatB(n e:Int):Bool:=!decide (e<min n 1)&&!decide (n<e)
def Kh(d:Desc)(r:Rule):Bool:=IQ d r.from_&&(IQ d r.to_&&(Fo d.in_ r.guards&&(eatB r.guards.length r.eat&&H8 d r.out r.guards)))
theorem GZ{i:Int}{gs:List (List Span)}(h:Fo i gs=true):gs.length<=4/\∀g∈gs,g.length<=64:=by
 simp only[Fo,Ac,Ah] at h;refine⟨om,λg hg=>?_⟩;have:=AP.1 h.2 g hg;simp only[K6,Ac,Ah] at this;omega
theorem zb5(d:Desc)(r:Rule)(ho:∀t∈r.out,t.parts.length<1000000000000):PC Tryz.prog 109 [C6 d,DD r] (.bool (Kh d r)):=by
 have h1:=Le d r.from_;have h2:=Le d r.to_;have h3:=QC d.in_ r.guards;refine Cd Yh ?_;unfold PX Kh eatB;cases hg:Fo d.in_ r.guards with
 |false =>
  rw[hg] at h3;have e_:=h1;have e_1:=h2;have e_2:=h3;exact gwC
  all_goals simp only[*,DW,C7,Bj,B4,E8]
 |true =>
  rw[hg] at h3;obtain⟨g1,g2⟩:=GZ hg;have h4:=QD d r.out r.guards ho (λg hg=>by have:=g2 g hg;omega) om;(with_reducible repeat'(first|simp(disch:=omega)only[push_cast,↓zz,seval]|refine sp_ ?_ ?_<;>try(intro hc;push_cast at hc)|refine ee h1 ?_|refine ee h2 ?_|refine ee h3 ?_|refine ee h4 ?_|((first|refine cc h1 ?_|refine cc h2 ?_|refine cc h3 ?_|refine cc h4 ?_);simp(disch:=omega)only[push_cast,↓zz,seval];fail_if_success change False)|omega|intro _))
  all_goals simp only[*,DW,C7,Bj,B4,E8,Gz,Gf,Gy]
abbrev YH(v:Nat)(l:List Int):Grp:=⟨1,v,l.isEmpty,l.map (AV.int .i64)⟩
def famF(n:Nat)(V:Nat->Nat)(D:Nat->List Int):List Grp:=(List.range n).map λi=>YH (V i) (D i)
def famT(n:Nat)(V:Nat->Nat)(D:Nat->List Int):List AV:=(List.range n).map λi=>AV.ref (i+3) (V i) 0 (D i).length
def famI(n:Nat)(f:Nat->Int):List AV:=(List.range n).map λi=>AV.int .i64 (f i)
theorem E0{α:Type}{n i:Nat}{f:Nat->α}{x:α}(h:i<n):((List.range n).map f).set i x=(List.range n).map λj=>if j=i then x else f j:=by
 refine BL oc λj h1 h2=>?_;simp only[C3,Au,C0] at h1;simp only[List.getElem_set,Dt,D1];by_cases e:i=j
 ·rw[Ae e,Ae e.symm]
 ·rw[Ad e,Ad λh=>e h.symm]
theorem Dn{α:Type}{n i:Nat}{f:Nat->α}{z:α}(h:i<n):((List.range n).map f).getD i z=f i:=by simp[List.getD,h]
theorem ID{ks:List Nat}{G:Grp}:∀{l:List Grp}{p i:Nat},p+i∈ks->Cw p ks l (l.set i G)
 |[],p,i,h=>trivial
 |a::l,p,0,h=>⟨.inl h,sameBut_refl⟩
 |a::l,p,i+1,h=>⟨.inr rfl,ID (by rwa [show p+1+i=p+(i+1) by omega])⟩
where sameBut_refl {ks:List Nat}:∀{l:List Grp}{p:Nat},Cw p ks l l
 |[],p=>trivial
 |a::l,p=>⟨.inr rfl,sameBut_refl⟩
theorem z1f:∀(l:List Grp)(G G':Grp),setQ (l++[G]) l.length G'=some (l++[G'])
 |[],_,_=>rfl
 |a::l,G,G'=>by rw[List.cons_append,List.length_cons,setQ,z1f l G G'];rfl
theorem z1g:∀(l:List Grp)(G G':Grp){i:Nat},i<l.length->setQ (l++[G]) i G'=some (l.set i G'++[G])
 |[],_,_,i,h=>by simp at h
 |a::l,G,G',0,h=>rfl
 |a::l,G,G',i+1,h=>by rw[List.cons_append,setQ,z1g l G G' (by simpa using h)];rfl
def setV(V:Nat->Nat)(i v:Nat)(j:Nat):Nat:=if j=i then v else V j
structure CycOk(d:Desc):Prop where
 st:1<=d.states/\d.states<=1024
 len:d.rules.length<=4096
 rul:∀r∈d.rules,(0<=r.from_/\r.from_<d.states)/\0<=r.to_/\r.to_<d.states
def QE(d:Desc)(k:Nat):Env:=BO [(1,.ptr 0 1 0 0),(3,.ref 1 1 0 d.states.toNat),(4,.ref 2 1 0 d.states.toNat),(21,CB d.rules),(22,.int .i64 d.rules.length),(23,.int .i64 k)]
def Fq(d:Desc)(k:Nat)(V:Nat->Nat):A4:=Abs.hl (⟨6,1,true,[C6 d]⟩::⟨1,1,true,famT d.states.toNat V (toD (d.rules.take k))⟩::⟨1,1,true,famI d.states.toNat (inD (d.rules.take k))⟩::famF d.states.toNat V (toD (d.rules.take k)))
def cycL(d:Desc)(k:Nat)(V:Nat->Nat):List Grp:=⟨6,1,true,[C6 d]⟩::⟨1,1,true,famT d.states.toNat V (toD (d.rules.take k))⟩::⟨1,1,true,famI d.states.toNat (inD (d.rules.take k))⟩::famF d.states.toNat V (toD (d.rules.take k))
theorem SF(d:Desc)(k:Nat)(V:Nat->Nat):Fq d k V=Abs.hl (cycL d k V):=rfl
theorem Uq(d:Desc)(k:Nat)(V:Nat->Nat):(cycL d k V).length=d.states.toNat+3:=by simp[cycL,famF]
theorem J7(d:Desc):(C6 d).pure=true:=by simp[C6,AV.pure,AJ,BJ,BD]
theorem YI(d:Desc)(k:Nat)(V:Nat->Nat):∀G∈cycL d k V,ltL (cycL d k V).length G.xs:=λG hG=>by
 rw[Uq];simp only[cycL,Af] at hG;rcases hG with rfl|rfl|rfl|hG
 ·exact BU _ _ (by simp[AJ,J7])
 ·have key:∀(l:List Nat),(∀i∈l,i<d.states.toNat)->ltL (d.states.toNat+3) (l.map λi=>AV.ref (i+3) (V i) 0 (toD (d.rules.take k) i).length):=λl=>by
   induction l with
   |nil=>exact λ_=>trivial
   |cons i l ih =>
    intro h;exact⟨by have:=h i oc;show i+3<_;omega,ih λj hj=>h j (by simp[hj])⟩
  exact key _ λi hi=>by simpa using hi
 ·exact BU _ _ (Bz.2 λx hx=>by
   obtain⟨i,_,rfl⟩:=Al.1 hx
   rfl)
 ·obtain⟨i,_,rfl⟩:=Al.1 hG
  exact BU _ _ (C4 .i64 _)
theorem zb6{d:Desc}{k:Nat}{V:Nat->Nat}{env:Env}{l gar:List Grp}(hn:1<=d.states)(hl':l=cycL d k V++gar)
 (h1:env 1=.ptr 0 1 0 0) (h3:env 3=.ref 1 1 0 d.states.toNat) (h4:env 4=.ref 2 1 0 d.states.toNat) (h21:env 21=CB d.rules) (h22:env 22=.int .i64 d.rules.length) (h23:env 23=.int .i64 k) :
 Ent 105 0 env (Abs.hl l) (QE d k) (Fq d k V):=by
 rw[hl',SF];refine (Ea [(1,.ptr 0 1 0 0),(3,.ref 1 1 0 d.states.toNat),(4,.ref 2 1 0 d.states.toNat),(21,CB d.rules),(22,.int .i64 d.rules.length),(23,.int .i64 k)] (λp hp=>?_)).trans (I9 om (YI d k V) λi _=>?_)
 ·simp only[Af,An,A7] at hp
  rcases hp with rfl|rfl|rfl|rfl|rfl|rfl<;>assumption
 ·rw[Uq]
  have hr:ltV (d.states.toNat+3) (CB d.rules):=AL _ _ (by simp[CB,AV.pure,BJ]);simp only[BO]
  repeat' split
  all_goals first
   |exact hr
   |trivial
   |(show _<_;omega)
theorem zhn{n i:Nat}{V:Nat->Nat}{D:Nat->List Int}{x:Int}(h:i<n):(famT n V D).set i (.ref (i+3) (V i+1) 0 ((D i).length+1))=famT n (setV V i (V i+1)) λp=>if p=i then D i++[x] else D p:=by
 rw[famT,E0 h,famT];refine A6 λj _=>?_;by_cases e:j=i
 ·subst e;simp[setV]
 ·simp[setV,e]
theorem zho{n i:Nat}{V:Nat->Nat}{D:Nat->List Int}{x:Int}(h:i<n):(famF n V D).set i ⟨1,V i+1,false,(D i).map (AV.int .i64)++[.int .i64 x]⟩=famF n (setV V i (V i+1)) λp=>if p=i then D i++[x] else D p:=by
 rw[famF,E0 h,famF];refine A6 λj _=>?_;by_cases e:j=i
 ·subst e;simp[setV,YH]
 ·simp[setV,e]
theorem z1h{n j:Nat}{f:Nat->Int}{x:Int}(h:j<n):(famI n f).set j (.int .i64 x)=famI n λp=>if p=j then x else f p:=by
 rw[famI,E0 h,famI];refine A6 λp _=>?_;by_cases e:p=j
 ·subst e;simp
 ·simp[e]
theorem zhp{l:List Rule}{k i:Nat}(hk:k<l.length)(hi:(nth l k).from_=i)(he:DL (nth l k)=true):toD (l.take (k+1))=λp=>if p=i then toD (l.take k) i++[(nth l k).to_] else toD (l.take k) p:=by
 funext p;rw[take_at hk];simp only[toD,BZ,Aw,BV,List.filter_nil,he,Bj,hi,Ah];by_cases e:p=i
 ·subst e;simp
 ·rw[Ad om,Ad e];simp
theorem zhq{l:List Rule}{k j:Nat}(hk:k<l.length)(hj:(nth l k).to_=j)(he:DL (nth l k)=true):inD (l.take (k+1))=λp=>if p=j then inD (l.take k) j+1 else inD (l.take k) p:=by
 funext p;rw[take_at hk];simp only[inD,BZ,Ai,BV,List.filter_nil,he,Bj,hj,Ah];by_cases e:p=j
 ·subst e;simp
 ·rw[Ad om,Ad e];simp
theorem zhr{l:List Rule}{k:Nat}(hk:k<l.length)(he:DL (nth l k)=false):toD (l.take (k+1))=toD (l.take k)/\inD (l.take (k+1))=inD (l.take k):=by
 rw[take_at hk];refine⟨?_,?_⟩<;>funext p<;>simp[toD,inD,he]
theorem zb7(l:List Rule)(j:Nat):0<=inD l j/\inD l j<=l.length:=by
 have:=Bg (λr=>DL r&&decide (r.to_=j)) l;simp only[inD];omega
theorem zkm(l:List Rule)(j:Nat):(toD l j).length<=l.length:=by
 have:=Bg (λr=>DL r&&decide (r.from_=j)) l;simp only[toD,Au];omega
theorem H9(l0:List Grp):∀l:List Grp,IM l0 l l
 |[]=>trivial
 |G::l=>⟨⟨rfl,rfl,id,AN _ _⟩,H9 l0 l⟩
theorem zhs(n:Nat):famF n (λ_=>1) (toD [])=(List.replicate n 1).map Jo:=by
 rw[Ek];refine BL (by simp[famF]) λi h1 h2=>?_;simp only[famF,Dt,D1,List.getElem_replicate];rfl
theorem zht(n:Nat):famI n (inD [])=List.replicate n (.int .i64 0):=by
 refine BL (by simp[famI]) λi h1 h2=>?_;simp[famI,inD]
theorem zb8{l:List Grp}{n:Nat}(h:∀i,i<n->l.getD (i+3) default=Jo 1/\i+3<l.length):leSL l (List.replicate n .nilS) (famT n (λ_=>1) (toD [])):=by
 have key:∀idx:List Nat,(∀i∈idx,i<n)->leSL l (List.replicate idx.length .nilS) (idx.map λi=>AV.ref (i+3) 1 0 (toD [] i).length):=λidx=>by
  induction idx with
  |nil=>exact λ_=>rfl
  |cons i idx ih =>
   intro hi;obtain⟨h1,h2⟩:=h i (hi i oc);refine⟨?_,ih λj hj=>hi j (by simp[hj])⟩;show 0=0/\(toD [] i).length=0/\(l.getD (i+3) default).ver=1/\0<(l.getD (i+3) default).w/\(l.getD (i+3) default).xs=[]/\(l.getD (i+3) default).exact=true/\i+3<l.length;rw[h1];exact⟨rfl,rfl,rfl,ox,rfl,rfl,h2⟩
 have:=key (List.range n) λi hi=>by simpa using hi
 rwa [C0] at this
theorem zb9{d:Desc}{env:Env}(h1:env 1=.ptr 0 1 0 0)(h3:env 3=.ref 1 1 0 d.states.toNat)(h4:env 4=.ref 2 1 0 d.states.toNat)(h21:env 21=CB d.rules)(h22:env 22=.int .i64 d.rules.length)(h23:env 23=.int .i64 0):
 Ent 105 0 env (Abs.hl [⟨6,1,true,[C6 d]⟩,⟨1,1,true,List.replicate d.states.toNat .nilS⟩,⟨1,1,true,List.replicate d.states.toNat (.int .i64 0)⟩]) (QE d 0) (Fq d 0 λ_=>1):=by
 refine (Ea [(1,.ptr 0 1 0 0),(3,.ref 1 1 0 d.states.toNat),(4,.ref 2 1 0 d.states.toNat),(21,CB d.rules),(22,.int .i64 d.rules.length),(23,.int .i64 0)] (λp hp=>?_)).trans
  ((Hk (List.replicate d.states.toNat 1) (λw hw=>by have:=(List.mem_replicate.1 hw).2;omega)).trans (GY ?_ λi _=>Bn _ _))
 ·simp only[Af,An,A7] at hp
  rcases hp with rfl|rfl|rfl|rfl|rfl|rfl<;>assumption
 ·rw[List.take_zero,zhs,zht]
  refine⟨⟨rfl,rfl,id,AN _ _⟩,⟨rfl,rfl,id,zb8 λi hi=>?_⟩,⟨rfl,rfl,id,AN _ _⟩,H9 _ _⟩;refine⟨?_,by simp;omega⟩;rw[Ek];simp[List.getD,hi]
def zba(n:Nat)(D:Nat->List Int):AV:=.lst 1 ((List.range n).map λi=>FY (D i))
theorem K7{n b:Nat}{env:Env}{H H':A4}(hn:H'.n=H.n)(h:∀g,g<H.n->H'.at_ g=H.at_ g):Ent n b env H env H':=λS val hb hS hv=>⟨S,rfl,.refl hb,hS.congr hn h,hv⟩
def MR(n:Nat):List Nat:=1::(List.range n).map (·+3)
theorem W0{n i:Nat}(h:i<n):i+3∈MR n:=Af.2 (.inr (Al.2 ⟨i,AF.2 h,rfl⟩))
theorem zkn(d:Desc)(k:Nat)(V:Nat->Nat){i:Nat}(hi:i<d.states.toNat):(Fq d k V).at_ (i+3)=YH (V i) (toD (d.rules.take k) i):=by
 rw[Fq,Da];simp only[BK];exact Dn hi
theorem zp9(d:Desc)(k:Nat)(V:Nat->Nat):DX 2 ((Fq d k V).only (MR d.states.toNat)) (.ref 1 1 0 d.states.toNat)/\frzV 2 ((Fq d k V).only (MR d.states.toNat)) (.ref 1 1 0 d.states.toNat)=zba d.states.toNat (toD (d.rules.take k)):=by
 have hat1:((Fq d k V).only (MR d.states.toNat)).at_ 1=⟨1,1,true,famT d.states.toNat V (toD (d.rules.take k))⟩:=by
  show (if 1∈MR d.states.toNat then (Fq d k V).at_ 1 else ((Fq d k V).at_ 1).dead)=_;rw[Ae (by simp[MR])];rfl
 have hat:∀i,i<d.states.toNat->((Fq d k V).only (MR d.states.toNat)).at_ (i+3)=YH (V i) (toD (d.rules.take k) i):=λi hi=>by
  show (if i+3∈MR d.states.toNat then (Fq d k V).at_ (i+3) else ((Fq d k V).at_ (i+3)).dead)=_;rw[Ae (W0 hi)];exact zkn d k V hi
 have htl:(((famT d.states.toNat V (toD (d.rules.take k))).drop 0).take d.states.toNat)=famT d.states.toNat V (toD (d.rules.take k)):=by
  rw[BH];exact Ay (by simp[famT])
 constructor
 ·refine⟨by rw[hat1],by rw[hat1];exact Nat.one_pos,by rw[hat1];simp[famT],λy hy=>?_⟩
  rw[hat1,htl] at hy;obtain⟨i,hi,rfl⟩:=Al.1 hy;have hi':i<d.states.toNat:=by simpa using hi
  refine⟨by rw[hat i hi'],by rw[hat i hi'];exact Nat.one_pos,by rw[hat i hi'];simp,λz hz=>?_⟩;rw[hat i hi'] at hz;obtain⟨u,_,rfl⟩:=Al.1 (Bc (Be hz));rfl
 ·show AV.lst _ _=_
  rw[hat1,htl,zba,famT,BP];congr 1;refine A6 λi hi=>?_;have hi':i<d.states.toNat:=by simpa using hi
  show AV.lst _ _=_;rw[hat i hi']
  have e:(((YH (V i) (toD (d.rules.take k) i)).xs.drop 0).take (toD (d.rules.take k) i).length).map (frzV 0 ((Fq d k V).only (MR d.states.toNat)))=(toD (d.rules.take k) i).map (AV.int .i64):=by
   rw[BH,Ay (by simp[YH])];refine (A6 λx hx=>?_).trans (DV _);obtain⟨u,_,rfl⟩:=Al.1 hx;rfl
  rw[e]
def Lf(d:Desc)(k:Nat):List (Nat × AV):=[(1,.ptr 0 1 0 0),(3,zba d.states.toNat (toD (d.rules.take k))),(4,.ref 2 1 0 d.states.toNat),(7,.nilS),(52,.ref 2 1 0 d.states.toNat),(53,.int .i64 d.states.toNat),(54,.int .i64 0)]
theorem z5j{d:Desc}{k:Nat}{V:Nat->Nat}{env:Env}(h1:env 1=.ptr 0 1 0 0)(h3:env 3=.ref 1 1 0 d.states.toNat)(h4:env 4=.ref 2 1 0 d.states.toNat)(h7:env 7=.nilS)(h52:env 52=.ref 2 1 0 d.states.toNat)(h53:env 53=.int .i64 d.states.toNat)(h54:env 54=.int .i64 0):
 Ent 105 0 env (Fq d k V) (BO (Lf d k)) (Abs.hl [⟨6,1,true,[C6 d]⟩,⟨0,2,false,[]⟩,⟨1,1,true,famI d.states.toNat (inD (d.rules.take k))⟩]):=by
 obtain⟨f1,f2⟩:=zp9 d k V;rw[<-h3] at f1 f2;refine (Qz 3 2 (MR d.states.toNat) f1).trans ((Ea (Lf d k) λp hp=>?_).trans ((K7 (H':=Abs.hl ([⟨6,1,true,[C6 d]⟩,⟨0,2,false,[]⟩,⟨1,1,true,famI d.states.toNat (inD (d.rules.take k))⟩]++(famF d.states.toNat V (toD (d.rules.take k))).map Grp.dead)) ?_ ?_).trans (I9 om ?_ ?_)))
 ·rw[f2]
  simp only[Lf,Af,An,A7] at hp;rcases hp with rfl|rfl|rfl|rfl|rfl|rfl|rfl<;>first|rfl|assumption
 ·simp[Fq,A4.kill,Abs.hl]
 ·intro g hg
  show _=if g∈MR d.states.toNat then ((Fq d k V).at_ g).dead else (Fq d k V).at_ g
  have hlen:(Fq d k V).n=d.states.toNat+3:=Uq d k V;have hg':g<d.states.toNat+3:=by rw[<-hlen];exact hg
  match g,hg' with
  |0,_=>rw[Ad (by simp[MR])];rfl
  |1,_=>rw[Ae (by simp[MR])];rfl
  |2,_=>rw[Ad (by simp[MR])];rfl
  |i+3,hi =>
   have hi':i<d.states.toNat:=om
   rw[Ae (W0 hi'),zkn d k V hi',Da];simp only[List.cons_append,List.nil_append,BK,famF,BP];exact Dn hi'
 ·intro G hG
  simp only[Af,An,A7] at hG;rcases hG with rfl|rfl|rfl
  ·exact BU _ _ (by simp[AJ,J7])
  ·trivial
  ·exact BU _ _ (Bz.2 λx hx=>by
    obtain⟨i,_,rfl⟩:=Al.1 hx
    rfl)
 ·intro i _
  have hd:ltV 3 (zba d.states.toNat (toD (d.rules.take k))):=trivial;simp only[BO,Lf]
  repeat' split
  all_goals first
   |exact hd
   |trivial
   |(show _<_;simp)
theorem z5k(d:Desc)(hd:CycOk d):PC Tryz.prog 113 [C6 d] (.bool (@decide (cycP d.rules d.states.toNat) (Classical.propDecidable _))):=by
 obtain⟨⟨hn1,hn2⟩,hlen,hrul⟩:=hd;refine Cd V4 ?_;unfold Oe;refine ywA ?_;refine Ba (D6 (λ(s:Nat × (Nat->Nat))=>s.1<=d.rules.length) (λs=>d.rules.length-s.1) (λs=>QE d s.1) (λs=>Fq d s.1 s.2) (0,λ_=>1) oc ?_ ?_)
 ·exact zb9 rfl rfl rfl rfl rfl rfl
 rintro⟨k,V⟩ hk;simp only at hk ⊢;rcases Aj k d.rules.length with hkl|hkl
 ·have hr:=hrul _ (Bi hkl)
  generalize hre:nth d.rules k=r at *;obtain⟨n,hn⟩:∃n:Nat,d.states=n:=⟨d.states.toNat,om⟩;obtain⟨i,hi⟩:∃i:Nat,r.from_=i:=⟨r.from_.toNat,om⟩;obtain⟨j,hj⟩:∃j:Nat,r.to_=j:=⟨r.to_.toNat,om⟩;have hin:i<n:=om
  have hjn:j<n:=om
  have hni:¬n=i:=om
  have ee:QE d k=BO [(1,.ptr 0 1 0 0),(3,.ref 1 1 0 n),(4,.ref 2 1 0 n),(21,CB d.rules),(22,.int .i64 d.rules.length),(23,.int .i64 k)]:=by simp only[QE,hn,Int.toNat_natCast]
  have eh:Fq d k V=Abs.hl (⟨6,1,true,[C6 d]⟩::⟨1,1,true,famT n V (toD (d.rules.take k))⟩::⟨1,1,true,famI n (inD (d.rules.take k))⟩::famF n V (toD (d.rules.take k))):=by simp only[Fq,hn,Int.toNat_natCast]
  rw[ee,eh];clear ee eh;have hFl:(famF n V (toD (d.rules.take k))).length=n:=by simp[famF]
  have hTl:(famT n V (toD (d.rules.take k))).length=n:=by simp[famT]
  have hIl:(famI n (inD (d.rules.take k))).length=n:=by simp[famI]
  have gI:∀G,(famF n V (toD (d.rules.take k))++[G]).getD i default=YH (V i) (toD (d.rules.take k) i):=λG=>by
   rw[Ak,A9 om,<-Ak];exact Dn hin
  have gR:∀G,(famF n V (toD (d.rules.take k))++[G]).getD n default=G:=λG=>by
   rw[Ak,AG om];simp[hFl]
  have tI:(famT n V (toD (d.rules.take k))).getD i .any=.ref (i+3) (V i) 0 (toD (d.rules.take k) i).length:=Dn hin;have iJ:(famI n (inD (d.rules.take k))).getD j .any=.int .i64 (inD (d.rules.take k) j):=Dn hjn
  have sR:∀G G',setQ (famF n V (toD (d.rules.take k))++[G]) n G'=some (famF n V (toD (d.rules.take k))++[G']):=λG G'=>by
   have:=z1f (famF n V (toD (d.rules.take k))) G G'
   rwa [hFl] at this
  have sI:∀G G',setQ (famF n V (toD (d.rules.take k))++[G]) i G'=some ((famF n V (toD (d.rules.take k))).set i G'++[G]):=λG G'=>z1g _ _ _ om
  have gR2:∀G G',((famF n V (toD (d.rules.take k))).set i G'++[G]).getD n default=G:=λG G'=>by
   rw[Ak,AG (by simp[hFl])];simp[hFl]
  have hSB:∀R G,Cw 3 [i+3] (famF n V (toD (d.rules.take k))++[R]) ((famF n V (toD (d.rules.take k))).set i G++[R]):=λR G=>by
   rw[<-FF _ _ om];exact ID (by simp;omega)
  generalize hF:famF n V (toD (d.rules.take k))=F at *;generalize hT:famT n V (toD (d.rules.take k))=TT at *;generalize hI:famI n (inD (d.rules.take k))=II at *;generalize hD:toD (d.rules.take k) i=Di at *;generalize hJ:inD (d.rules.take k) j=Ij at *;refine W_T ?_;have hEx:(!Di.isEmpty||(Di.map (AV.int .i64)).isEmpty)=true:=by cases Di<;>rfl
  have hDl:Di.length<=4096:=by rw[<-hD];have:=zkm (d.rules.take k) i;simp at this;omega
  have hJb:0<=Ij/\Ij<=4096:=by rw[<-hJ];have:=zb7 (d.rules.take k) j;simp at this;omega
  (with_reducible repeat'(first|simp(disch:=omega)only[push_cast,↓zz,seval,hre,hi,hj,hFl,hTl,hIl,gI,gR,gR2,sR,sI,tI,iJ,List.cons_append,Ai,List.length_cons]|refine sp_ ?_ ?_<;>try(intro hc;push_cast at hc)|omega|intro _))
  ·refine Gr [i+3] ?_
   (with_reducible repeat'(first|simp(disch:=omega)only[push_cast,↓zz,seval,xx,Af,An,A7,BC,Ch,AT,Co,Cn,hre,hi,hj,hFl,hTl,hIl,gI,gR,gR2,sR,sI,tI,iJ,List.cons_append,Ai,List.length_cons,hni,hEx]|refine sp_ ?_ ?_<;>try(intro hc;push_cast at hc)|omega|intro _))
   ·exact hSB _ _
   have he:DL (nth d.rules k)=true:=by rw[hre,DL];simpa using ‹(r.guards.length:Int)=0›
   have e1:=zhp (i:=i) hkl (by rw[hre];exact hi) he;have e2:=zhq (j:=j) hkl (by rw[hre];exact hj) he;refine⟨(k+1,setV V i (V i+1)),zb6 (gar:=[⟨5,1,true,[.agg [.int .i64 i,.int .i64 j,AQ r.guards,.int .i64 r.eat,C5 r.out]]⟩]) hn1 ?_ ?_ ?_ ?_ ?_ ?_ ?_,by simp only;omega,by simp only;omega⟩
   ·rw[cycL,e1,e2,hn,Int.toNat_natCast,<-hF,<-hT,<-hI,<-hD,<-hJ,hre,hj,zhn hin,z1h hjn,zho hin]
    rfl
   all_goals first|rfl|(rw[hn];rfl)
  ·have he:DL (nth d.rules k)=false:=by rw[hre,DL];simpa using ‹¬(r.guards.length:Int)=0›
   obtain⟨e1,e2⟩:=zhr hkl he;refine⟨(k+1,V),zb6 (gar:=[⟨5,1,true,[.agg [.int .i64 i,.int .i64 j,AQ r.guards,.int .i64 r.eat,C5 r.out]]⟩]) hn1 ?_ ?_ ?_ ?_ ?_ ?_ ?_,by simp only;omega,by simp only;omega⟩
   ·rw[cycL,e1,e2,hn,Int.toNat_natCast,hF,hT,hI]
    rfl
   all_goals first|rfl|(rw[hn];rfl)
 ·obtain rfl:k=d.rules.length:=om
  obtain⟨n,hn⟩:∃n:Nat,d.states=n:=⟨d.states.toNat,om⟩;have ee:QE d d.rules.length=BO [(1,.ptr 0 1 0 0),(3,.ref 1 1 0 n),(4,.ref 2 1 0 n),(21,CB d.rules),(22,.int .i64 d.rules.length),(23,.int .i64 d.rules.length)]:=by simp only[QE,hn,Int.toNat_natCast]
  refine W_T ?_;rw[ee,SF];refine ywA ?_;refine zov (z5j rfl (by rw[hn];rfl) (by rw[hn];rfl) rfl (by rw[hn];rfl) (by rw[hn];rfl) rfl) ?_
  have el:Lf d d.rules.length=[(1,.ptr 0 1 0 0),(3,.lst 1 ((List.range n).map λi=>FY (toD d.rules i))),(4,.ref 2 1 0 n),(7,.nilS),(52,.ref 2 1 0 n),(53,.int .i64 n),(54,.int .i64 0)]:=by
   simp only[Lf,hn,Int.toNat_natCast,As,zba]
  rw[el,hn,Int.toNat_natCast,As];clear el ee
  have pL:AJ ((List.range n).map λi=>FY (toD d.rules i))=true:=Bz.2 λx hx=>by
   obtain⟨i,_,rfl⟩:=Al.1 hx;exact C4 .i64 _
  have lL:((List.range n).map λi=>FY (toD d.rules i)).length=n:=oc
  have aL:∀i,i<n->((List.range n).map λi=>FY (toD d.rules i)).getD i .any=FY (toD d.rules i):=λi hi=>Dn hi;have aL2:∀i,i<n->((List.range n).map λi=>FY (toD d.rules i))[i]? = some (FY (toD d.rules i)):=λi hi=>by simp[hi]
  generalize hLe:(List.range n).map (λi=>FY (toD d.rules i))=L at *
  have pI:∀f,AJ (famI n f)=true:=λf=>Bz.2 λx hx=>by
   obtain⟨i,_,rfl⟩:=Al.1 hx;rfl
  have lI:∀f,(famI n f).length=n:=λf=>by simp[famI]
  have aI:∀f i,i<n->(famI n f).getD i .any=.int .i64 (f i):=λf i hi=>Dn hi;have hnn:(n:Int)<=1024:=om
  refine Ba (B7 (λ(k:Nat)=>k<=n) (λk=>n-k)
   (λk=>[(1,.ptr 0 1 0 0),(3,.lst 1 L),(4,.ref 1 1 0 n),(7,.ref 2 1 0 (Mb (inD d.rules) k).length),(52,.ref 1 1 0 n),(53,.int .i64 n),(54,.int .i64 k)]) (λk=>[⟨6,1,true,[C6 d]⟩,⟨1,1,true,famI n (inD d.rules)⟩,⟨1,1,false,(Mb (inD d.rules) k).map (AV.int .i64)⟩]) (λenv _=>[D4 1 (env 1),D4 1 (env 4),D4 1 (env 7)]) 0 oc ?_ ?_)
  ·have z0:Mb (inD d.rules) 0=[]:=rfl
   have f_:=Aa pL (Aa lL (Aa pI (Aa lI z0)));exact gwB
  intro k hk;have zl:=za8 (inD d.rules) k;rcases Aj k n with hkn|hkn
  ·have aK:=aI (inD d.rules) k hkn
   have zs:=z4u (inD d.rules) k;have hib:=zb7 d.rules k;generalize inD d.rules k=v at *;refine W_T ?_;(with_reducible repeat'(first|simp(disch:=omega)only[push_cast,↓zz,seval,pL,lL,pI,lI,aK]|refine sp_ ?_ ?_<;>try(intro hc;push_cast at hc)|omega|intro _))
   ·rw[Ae (by assumption)] at zs
    refine⟨k+1,?_⟩;have f_:=zs;exact gwB
   ·rw[Ad (by assumption)] at zs
    refine⟨k+1,?_⟩;have f_:=zs;exact gwB
  ·have hkn2:n=k:=om
   subst hkn2;refine W_T ?_;have f_:=Aa pL (Aa lL (Aa pI lI));refine ywB ?_;clear f_
   have hto:∀s m,m<(toD d.rules s).length->0<=nth (toD d.rules s) m/\nth (toD d.rules s) m<n:=λs m hm=>by
    have hm2:nth (toD d.rules s) m∈toD d.rules s:=Bi hm;generalize nth (toD d.rules s) m=x at *;obtain⟨r,hr,rfl⟩:=Al.1 hm2;have:=hrul r (AW.1 hr).1;omega
   refine Ba (B7 (λ(s:List Int × List Int × List Int)=>KInv d.rules n (s.1++s.2.1) (cntE d.rules s.1)) (λs=>n-s.1.length)
    (λs=>[(1,.ptr 0 1 0 0),(3,.lst 1 L),(4,.ref 1 1 0 n),(7,.ref 2 1 s.2.2.length s.2.1.length),(10,.int .i64 s.1.length)]) (λs=>[⟨6,1,true,[C6 d]⟩,⟨1,1,true,famI n (cntE d.rules s.1)⟩,⟨1,1,false,(s.2.2++s.2.1).map (AV.int .i64)⟩]) (λenv _=>[D4 1 (env 1),D4 1 (env 4),D4 1 (env 7)]) ([],Mb (inD d.rules) n,[]) (z4v d.rules n) ?_ ?_)
   ·have e0:cntE d.rules []=inD d.rules:=funext λj=>Uc _ _
    have f_:=Aa pL (Aa lL (Aa pI (Aa lI e0)));exact gwB
   rintro⟨P,td,junk⟩ hK;simp only at hK;have hlen2:=hK.len;rw[Ai] at hlen2;rcases td with _|⟨x,rest⟩
   ·rw[Ax] at hK
    have hdone:=zab (λr hr=>by have:=hrul r hr;omega) hK;refine W_T ?_;have f_:=Aa pL (Aa lL (Aa pI lI));refine ywB ?_;clear f_
    all_goals exact Dv.2 (by rw[<-hdone];omega)
   ·have hx:=hK.range x oc
    obtain⟨s,rfl⟩:∃s:Nat,x=s:=⟨x.toNat,om⟩;have hsn:s<n:=om
    have hsP:(s:Int)∉P:=λhh=>by
     exact (Dg.1 hK.nodup).2.2 (s:Int) hh (s:Int) oc rfl
    have aS:=aL s hsn;have aS2:=aL2 s hsn;have j0:(junk.map (AV.int .i64)++AV.int .i64 (s:Int)::rest.map (AV.int .i64)).getD junk.length .any=.int .i64 s:=by simp[List.getD]
    have j1:nth (junk++(s:Int)::rest) junk.length=s:=by simp[nth]
    have hjl:(junk++(s:Int)::rest).length=junk.length+(rest.length+1):=oc
    simp only[List.length_cons] at hlen2;refine W_T ?_;(with_reducible repeat'(first|simp(disch:=omega)only[push_cast,↓zz,seval,pL,lL,pI,lI,aS,aS2,j0,j1,hjl,List.length_cons]|refine sp_ ?_ ?_<;>try(intro hc;push_cast at hc)|omega|intro _))
    have hK0:KInv d.rules n (P++[(s:Int)]++rest) (Hd d.rules P s 0):=by
     rw[Sp,A3];exact hK
    have hDb:=zkm d.rules s
    refine Ba (B7 (λ(q:Nat × List Int × List Int)=>q.1<=(toD d.rules s).length/\KInv d.rules n (P++[(s:Int)]++q.2.1) (Hd d.rules P s q.1)) (λq=>(toD d.rules s).length-q.1)
     (λq=>[(1,.ptr 0 1 0 0),(3,.lst 1 L),(4,.ref 1 1 0 n),(7,.ref 2 1 q.2.2.length q.2.1.length),(10,.int .i64 P.length),(79,FY (toD d.rules s)),(80,.int .i64 (toD d.rules s).length),(81,.int .i64 q.1)]) (λq=>[⟨6,1,true,[C6 d]⟩,⟨1,1,true,famI n (Hd d.rules P s q.1)⟩,⟨1,1,false,(q.2.2++q.2.1).map (AV.int .i64)⟩]) (λenv _=>[D4 1 (env 1),D4 1 (env 4),D4 1 (env 7)]) (0,rest,junk++[(s:Int)]) ⟨oc,hK0⟩ ?_ ?_)
    ·have e0:=Sp d.rules P s
     (with_reducible repeat'(first|simp(disch:=omega)only[push_cast,↓zz,seval,pL,lL,pI,lI,e0,Aw,A3,AD,AX,List.cons_append,List.nil_append,Ai,List.length_cons,List.length_nil]|refine sp_ ?_ ?_<;>try(intro hc;push_cast at hc)|omega|intro _))
    rintro⟨m,td,jk⟩ ⟨m1,m2⟩;simp only at m1 m2;have hlen3:=m2.len;simp only[Ai,List.length_cons,List.length_nil] at hlen3;rcases Aj m (toD d.rules s).length with hm|hm
    ·obtain⟨t1,t2⟩:=hto s m hm
     obtain⟨t,ht⟩:∃t:Nat,nth (toD d.rules s) m=t:=⟨(nth (toD d.rules s) m).toNat,om⟩;have htn:t<n:=om
     have hst:=zaa hsP hm ht htn m2;have hle:=N7 (P:=P) hm ht;have hps:=Wi hsP hm ht;have aT:=aI (Hd d.rules P s m) t htn;have aT2:=aI (Hd d.rules P s (m+1)) t htn;have hv:Hd d.rules P s (m+1) t=Hd d.rules P s m t-1:=by rw[hle];simp
     have hset:(famI n (Hd d.rules P s m)).set t (.int .i64 (Hd d.rules P s m t-1))=famI n (Hd d.rules P s (m+1)):=by rw[hle];exact z1h htn
     have hlb:Hd d.rules P s m t<=4096:=by
      have c1:cntE d.rules P t<=inD d.rules t:=by
       rw[<-Uc];exact zox _ _ _
      have c2:=zb7 d.rules t;have c3:Hd d.rules P s m t<=cntE d.rules P t:=by simp only[Hd];omega
      omega
     rw[hv] at aT2;generalize Hd d.rules P s m t=v at *;refine W_T ?_
     have eD:List.drop jk.length (jk.map (AV.int .i64)++td.map (AV.int .i64))=td.map (AV.int .i64):=by
      rw[List.drop_append_of_le_length oc,Fi oc,List.nil_append]
     (with_reducible repeat'(first|simp(disch:=omega)only[push_cast,↓zz,seval,pL,lL,pI,lI,ht,aT,aT2,hset,eD]|refine sp_ ?_ ?_<;>try(intro hc;push_cast at hc)|omega|intro _))
     ·rw[Ae (by assumption)] at hst
      refine⟨(m+1,td++[(t:Int)],jk),?_⟩;(with_reducible repeat'(first|simp(disch:=omega)only[push_cast,↓zz,seval,Aw,A3,AD,AX,Ai,List.length_cons,List.length_nil]|refine sp_ ?_ ?_<;>try(intro hc;push_cast at hc)|omega|intro _));simpa [A3] using hst
     ·rw[Ae (by assumption)] at hst
      refine⟨(m+1,td++[(t:Int)],[]),?_⟩;(with_reducible repeat'(first|simp(disch:=omega)only[push_cast,↓zz,seval,Aw,A3,AD,AX,List.nil_append,Ai,List.length_cons,List.length_nil]|refine sp_ ?_ ?_<;>try(intro hc;push_cast at hc)|omega|intro _));simpa [A3] using hst
     ·rw[Ad (by assumption)] at hst
      refine⟨(m+1,td,jk),?_⟩;refine ywA ?_;simpa [A3] using hst
    ·have hme:m=(toD d.rules s).length:=om
     subst hme;have hE:=za9 (l:=d.rules) hsP;rw[hE] at m2;rw[hE];refine W_T ?_;have f_:=Aa pL (Aa lL (Aa pI lI));refine ywB ?_;clear f_
     all_goals
      refine⟨(P++[(s:Int)],td,jk),?_⟩;(with_reducible repeat'(first|simp(disch:=omega)only[push_cast,↓zz,seval,Ai,List.length_cons,List.length_nil]|refine sp_ ?_ ?_<;>try(intro hc;push_cast at hc)|omega|intro _))
     all_goals (simpa [A3] using m2)
def FM{α:Type}(p:α->Bool):List α->Nat->Option Nat
 |[],_=>none
 |x::l,i=>if p x then FM p l (i+1) else some i
theorem Lg{α:Type}[Inhabited α]{p:α->Bool}{l:List α}{k:Nat}(h:k<l.length):FM p (l.drop k) k=if p (nth l k) then FM p (l.drop (k+1)) (k+1) else some k:=by rw[drop_at h,FM]
theorem Lh{α:Type}{p:α->Bool}:∀{l:List α}{i:Nat},FM p l i=none->∀x∈l,p x=true
 |[],_,_,_,h=>by cases h
 |y::l,i,h,x,hx=>by
  rw[FM] at h;split at h
  ·rename_i hp
   rcases Af.1 hx with rfl|hx
   ·exact hp
   ·exact Lh h x hx
  ·cases h
def Ht(d:Desc)(f:DO):Bool:=IQ d f.from_&&(Fo d.in_ f.guards&&H8 d f.out f.guards)
open Classical in
noncomputable def IR (d:Desc):Int × Int :=
 if R2 d=false then (1,0) else
  match FM (Kh d) d.rules 0 with
  |some i=>(2,i)
  |none=>match FM (Ht d) d.finals 0 with
   |some i=>(3,i)
   |none=>if cycP d.rules d.states.toNat then (4,0) else (0,0)
def K8(d:Desc):Prop:=(∀r∈d.rules,∀t∈r.out,t.parts.length<1000000000000)/\∀f∈d.finals,∀t∈f.out,t.parts.length<1000000000000
theorem zbb{d:Desc}(h:R2 d=true):(1<=d.states/\d.states<=1024)/\d.rules.length<=4096/\d.finals.length<=4096/\0<=d.start/\d.start<d.states:=by
 simp only[R2,IQ,Ac,Ah] at h;omega
theorem zbc{d:Desc}{r:Rule}(h:Kh d r=true):(0<=r.from_/\r.from_<d.states)/\0<=r.to_/\r.to_<d.states:=by
 simp only[Kh,IQ,Ac,Ah] at h;omega
theorem z5l(d:Desc)(hf:K8 d):PC Tryz.prog 69 [C6 d] (.tup [.int .i64 (IR d).1,.int .i64 (IR d).2]):=by
 have hH:=zb4 d;refine Cd V1 ?_;unfold Ob;cases hh:R2 d with
 |false =>
  rw[hh] at hH;rw[IR,Ae hh];(with_reducible repeat'(first|simp(disch:=omega)only[push_cast,↓zz,seval]|refine sp_ ?_ ?_<;>try(intro hc;push_cast at hc)|refine ee hH ?_|(refine cc hH ?_;simp(disch:=omega)only[push_cast,↓zz,seval];fail_if_success change False)|omega|intro _))
 |true =>
 rw[hh] at hH;obtain⟨b1,b2,b3,b4⟩:=zbb hh
 have hW:IR d=match FM (Kh d) d.rules 0 with
  |some i=>(2,(i:Int))
  |none=>match FM (Ht d) d.finals 0 with
   |some i=>(3,(i:Int))
   |none=>if (@decide (cycP d.rules d.states.toNat) (Classical.propDecidable _))=true then (4,0) else (0,0):=by
  rw[IR,Ad (by simp[hh])];split
  ·rfl
  ·split
   ·rfl
   ·by_cases hc:cycP d.rules d.states.toNat
    ·rw[Ae hc,Ae (@Bv _ (Classical.propDecidable _) hc)]
    ·rw[Ad hc,Ad (by rw[@By _ (Classical.propDecidable _) hc];simp)]
 (with_reducible repeat'(first|simp(disch:=omega)only[push_cast,↓zz,seval]|refine sp_ ?_ ?_<;>try(intro hc;push_cast at hc)|refine ee hH ?_|(refine cc hH ?_;simp(disch:=omega)only[push_cast,↓zz,seval];fail_if_success change False)|omega|intro _))
 refine Ba (B7 (λ(k:Nat)=>k<=d.rules.length/\FM (Kh d) d.rules 0=FM (Kh d) (d.rules.drop k) k) (λk=>d.rules.length-k)
  (λk=>[(1,.ptr 0 1 0 0),(12,CB d.rules),(13,.int .i64 d.rules.length),(14,.int .i64 k)]) (λk=>[⟨6,1,true,[C6 d]⟩]) (λenv _=>[D4 1 (env 1)]) 0 ⟨oc,rfl⟩ ?_ ?_)
 ·(with_reducible repeat'(first|simp(disch:=omega)only[push_cast,↓zz,seval]|refine sp_ ?_ ?_<;>try(intro hc;push_cast at hc)|omega|intro _))
 rintro k ⟨k1,k2⟩;rcases Aj k d.rules.length with hk|hk
 ·have hr:=zb5 d (nth d.rules k) (hf.1 _ (Bi hk))
  rw[Lg hk] at k2;cases hb:Kh d (nth d.rules k) with
  |false =>
   rw[hb] at hr k2;simp only[A8,Bq] at k2;rw[hW,k2];refine W_T ?_;(with_reducible repeat'(first|simp(disch:=omega)only[push_cast,↓zz,seval]|refine sp_ ?_ ?_<;>try(intro hc;push_cast at hc)|refine ee hr ?_|(refine cc hr ?_;simp(disch:=omega)only[push_cast,↓zz,seval];fail_if_success change False)|omega|intro _))
  |true =>
   rw[hb] at hr k2;simp only[Br] at k2;refine W_T ?_;(with_reducible repeat'(first|simp(disch:=omega)only[push_cast,↓zz,seval]|refine sp_ ?_ ?_<;>try(intro hc;push_cast at hc)|refine ee hr ?_|(refine cc hr ?_;simp(disch:=omega)only[push_cast,↓zz,seval];fail_if_success change False)|omega|intro _))
   all_goals exact⟨k+1,by push_cast,⟨om,k2⟩,om⟩
 ·rw[Ao hk,FM] at k2
  have hall:=Lh k2;have hC:=z5k d ⟨b1,b2,λr hr=>zbc (hall r hr)⟩;rw[k2] at hW;simp only at hW;refine W_T ?_;(with_reducible repeat'(first|simp(disch:=omega)only[push_cast,↓zz,seval]|refine sp_ ?_ ?_<;>try(intro hc;push_cast at hc)|omega|intro _))
  refine Ba (B7 (λ(k:Nat)=>k<=d.finals.length/\FM (Ht d) d.finals 0=FM (Ht d) (d.finals.drop k) k) (λk=>d.finals.length-k)
   (λk=>[(1,.ptr 0 1 0 0),(26,Cv d.finals),(27,.int .i64 d.finals.length),(28,.int .i64 k)]) (λk=>[⟨6,1,true,[C6 d]⟩]) (λenv _=>[D4 1 (env 1)]) 0 ⟨oc,rfl⟩ ?_ ?_)
  ·(with_reducible repeat'(first|simp(disch:=omega)only[push_cast,↓zz,seval]|refine sp_ ?_ ?_<;>try(intro hc;push_cast at hc)|omega|intro _))
  rintro j ⟨j1,j2⟩;rcases Aj j d.finals.length with hj|hj
  ·generalize hfe:nth d.finals j=f at *
   have hfm:f∈d.finals:=by rw[<-hfe];exact Bi hj
   have hfo:=hf.2 f hfm;have h1:=Le d f.from_;have h2:=QC d.in_ f.guards;rw[Lg hj,hfe] at j2;cases hg:Fo d.in_ f.guards with
   |false =>
    have hb:Ht d f=false:=by rw[Ht,hg];simp
    rw[hg] at h2;rw[hb] at j2;simp only[A8,Bq] at j2;rw[hW,j2];refine W_T ?_;(with_reducible repeat'(first|simp(disch:=omega)only[push_cast,↓zz,seval,hfe]|refine sp_ ?_ ?_<;>try(intro hc;push_cast at hc)|refine ee h1 ?_|refine ee h2 ?_|((first|refine cc h1 ?_|refine cc h2 ?_);simp(disch:=omega)only[push_cast,↓zz,seval,hfe];fail_if_success change False)|omega|intro _))
   |true =>
    rw[hg] at h2;obtain⟨g1,g2⟩:=GZ hg;have h4:=QD d f.out f.guards hfo (λg hg=>by have:=g2 g hg;omega) om;cases hb:Ht d f with
    |false =>
     rw[hb] at j2;simp only[A8,Bq] at j2;rw[hW,j2];rw[Ht,hg,Bj] at hb;refine W_T ?_;(with_reducible repeat'(first|simp(disch:=omega)only[push_cast,↓zz,seval,hfe]|refine sp_ ?_ ?_<;>try(intro hc;push_cast at hc)|refine ee h1 ?_|refine ee h2 ?_|refine ee h4 ?_|((first|refine cc h1 ?_|refine cc h2 ?_|refine cc h4 ?_);simp(disch:=omega)only[push_cast,↓zz,seval,hfe];fail_if_success change False)|omega|intro _))
     all_goals first
      |(exfalso;simp_all;done)
      
    |true =>
     rw[hb] at j2;simp only[Br] at j2;rw[Ht,hg,Bj,Ac] at hb;rw[hb.1] at h1;rw[hb.2] at h4;refine W_T ?_;(with_reducible repeat'(first|simp(disch:=omega)only[push_cast,↓zz,seval,hfe]|refine sp_ ?_ ?_<;>try(intro hc;push_cast at hc)|refine ee h1 ?_|refine ee h2 ?_|refine ee h4 ?_|((first|refine cc h1 ?_|refine cc h2 ?_|refine cc h4 ?_);simp(disch:=omega)only[push_cast,↓zz,seval,hfe];fail_if_success change False)|omega|intro _))
     all_goals exact⟨j+1,by push_cast,⟨om,j2⟩,om⟩
  ·rw[Ao hj,FM] at j2
   rw[j2] at hW;simp only at hW;generalize @decide (cycP d.rules d.states.toNat) (Classical.propDecidable _)=c at *;refine W_T ?_;rw[hW];cases c
   ·have e_:=hC;exact gwC
   ·have e_:=hC;exact gwC
noncomputable def FB (d:Desc):Int:=if (IR d).1=0 then 0 else 2
theorem NG(d:Desc)(hf:K8 d):PC Tryz.prog 25 [C6 d] (.int .i64 (FB d)):=by
 have hW:=z5l d hf;refine Cd V0 ?_;unfold Oa FB;generalize IR d=w at *;by_cases h:w.1=0
 ·rw[Ae h]
  have f_:=h;have e_:=hW;exact gwD
 ·rw[Ad h]
  have f_:=h;have e_:=hW;exact gwD
theorem fold_at{α β:Type}[Inhabited α]{f:β->α->β}{l:List α}{k:Nat}{s:β}(h:k<l.length):(l.drop k).foldl f s=(l.drop (k+1)).foldl f (f s (nth l k)):=by rw[drop_at h,List.foldl_cons]
def z5m(d:Desc):Bool:=d.rules.all λr=>!DL r
def idxE(l:List Rule):Option Nat:=FM (λr=>!DL r) l 0
theorem zhu(r:Rule):PC Tryz.prog 85 [DD r] (.bool (DL r)):=by
 refine Cd TJ ?_;unfold M8 DL;exact gwA
theorem zbd(l:List Rule)(hl:l.length<=9223372036854775807):PC Tryz.prog 117 [CB l,.fn 85 []] (.int .i64 (match idxE l with|some i=>i|none=>-1)):=by
 refine Cd EO ?_;unfold D5;refine ywA ?_
 refine Ba (B7 (λ(k:Nat)=>k<=l.length/\idxE l=FM (λr=>!DL r) (l.drop k) k) (λk=>l.length-k)
  (λk=>[(0,CB l),(1,.fn 85 []),(7,.int .i64 l.length),(8,.int .i64 k)]) (λk=>[]) (λ_ _=>[]) 0 ⟨oc,rfl⟩ ?_ ?_)
 ·exact gwA
 rintro k ⟨k1,k2⟩;rcases Aj k l.length with hk|hk
 ·have hF:=zhu (nth l k)
  rw[Lg hk] at k2;refine W_T ?_;cases he:DL (nth l k) with
  |true =>
   rw[he] at hF k2;rw[k2];have e_:=hF;exact gwC
  |false =>
   rw[he] at hF k2;have e_:=hF;refine ywC ?_;clear e_
   all_goals exact⟨k+1,by push_cast,⟨om,k2⟩,om⟩
 ·rw[Ao hk,FM] at k2
  rw[k2];refine W_T ?_;exact gwA
theorem zhv(l:List Rule):(idxE l).isSome=!(l.all λr=>!DL r):=by
 have key:∀(l:List Rule)(i:Nat),(FM (λr=>!DL r) l i).isSome=!(l.all λr=>!DL r):=λl=>by
  induction l with
  |nil=>intro i;rfl
  |cons r l ih =>
   intro i;rw[FM,List.all_cons];cases h:DL r
   ·simp[ih]
   ·simp
 exact key l 0
theorem W2(l:List Rule)(hl:l.length<=9223372036854775807):PC Tryz.prog 71 [CB l,.fn 85 []] (.bool (idxE l).isSome):=by
 have hI:=zbd l hl;refine Cd E4 ?_;unfold Dm;cases h:idxE l with
 |none =>
  rw[h] at hI;have e_:=hI;exact gwC
 |some i =>
  rw[h] at hI;simp only at hI;have e_:=hI;exact gwC
theorem zbe(d:Desc)(hl:d.rules.length<=9223372036854775807):PC Tryz.prog 41 [C6 d] (.bool (z5m d)):=by
 have hC:=W2 d.rules hl;rw[zhv] at hC;refine Cd Ya ?_;unfold PP z5m;have e_:=hC;refine ywC ?_;clear e_
 all_goals exact Bool.not_not _
def widF(n:Int)(r:Rule):Int:=max n r.guards.length
def zuh(d:Desc):Int:=d.rules.foldl widF 0
def lenR(l:List Rule):Prop:=∀r∈l,r.guards.length<=9223372036854775807/\r.out.length<=9223372036854775807
def aheF(n:Int)(r:Rule):Int:=max n (r.guards.length-max r.eat 0)
def zui(d:Desc):Int:=d.rules.foldl aheF 0
def lonF(n:Int)(r:Rule):Int:=max n r.out.length
def lonG(n:Int)(f:DO):Int:=max n f.out.length
def W3(d:Desc):Int:=d.finals.foldl lonG (d.rules.foldl lonF 0)
theorem W4(d:Desc)(hl:d.rules.length<=9223372036854775807)(hlf:d.finals.length<=9223372036854775807)(hr:lenR d.rules):PC Tryz.prog 123 [C6 d] (.int .i64 (W3 d)):=by
 refine Cd Rx ?_;unfold Ly;refine ywA ?_
 refine Ba (B7 (λ(s:Nat × Int)=>s.1<=d.rules.length/\W3 d=d.finals.foldl lonG ((d.rules.drop s.1).foldl lonF s.2)) (λs=>d.rules.length-s.1)
  (λs=>[(1,.ptr 0 1 0 0),(3,.int .i64 s.2),(9,CB d.rules),(10,.int .i64 d.rules.length),(11,.int .i64 s.1)]) (λk=>[⟨6,1,true,[C6 d]⟩]) (λenv _=>[D4 1 (env 1)]) (0,0) ⟨oc,rfl⟩ ?_ ?_)
 ·exact gwA
 rintro⟨k,n⟩ ⟨k1,k2⟩;simp only at k1 k2;rcases Aj k d.rules.length with hk|hk
 ·rw[fold_at hk] at k2
  generalize hre:nth d.rules k=r at *;refine W_T ?_;have f_:=hre;refine ywB ?_;clear f_
  all_goals exact⟨(k+1,max n r.out.length),⟨rfl,by push_cast⟩,⟨by simp only;omega,k2⟩,by simp only;omega⟩
 ·rw[Ao hk,List.foldl_nil] at k2
  refine W_T ?_;refine ywA ?_
  refine Ba (B7 (λ(s:Nat × Int)=>s.1<=d.finals.length/\W3 d=(d.finals.drop s.1).foldl lonG s.2) (λs=>d.finals.length-s.1)
   (λs=>[(3,.int .i64 s.2),(22,Cv d.finals),(23,.int .i64 d.finals.length),(24,.int .i64 s.1)]) (λk=>[]) (λ_ _=>[]) (0,n) ⟨oc,k2⟩ ?_ ?_)
  ·exact gwA
  rintro⟨j,m⟩ ⟨j1,j2⟩;simp only at j1 j2;rcases Aj j d.finals.length with hj|hj
  ·rw[fold_at hj] at j2
   generalize hfe:nth d.finals j=f at *;refine W_T ?_;have f_:=hfe;refine ywB ?_;clear f_
   all_goals exact⟨(j+1,max m f.out.length),⟨rfl,by push_cast⟩,⟨by simp only;omega,j2⟩,by simp only;omega⟩
  ·rw[Ao hj,List.foldl_nil] at j2
   refine W_T ?_;have f_:=j2;exact gwB
theorem zuj{P:Program}{f:Nat}{xs:List AV}{y y2:AV}(h:PC P f xs y)(hle:AV.le y y2):PC P f xs y2:=⟨h.1,λS cargs hS hx=>(h.2 S cargs hS hx).mono λe w' hh=>by
 obtain⟨v,S',x,H',he,hw,ev,hS',hv,rfl,rfl⟩:=hh
 exact⟨v,S',_,_,he,hw,ev,hS',hle S' v hv,rfl,rfl⟩⟩
theorem QF(l:List Span)(hl:l.length<=1000000000000):PC Tryz.prog 198 [AA l] (AA l):=by
 by_cases h0:l=[]
 ·subst h0
  refine z97 ?_ ?_
  ·refine Cd Ei ?_
   unfold Dd;exact gwA
  ·refine Cd Ei ?_
   unfold Dd;exact gwA
 refine Cd Ei ?_;unfold Dd;exact gwA
def IE(s x:Int):Bool:=decide ((s=1/\0<=x/\x<256)\/(s=2/\0<=x/\x<1114112/\(x<55296\/57344<=x)))
def fitW(t:Term)(o:Int)(w:List Int):Bool:=match Ga t w with
 |some v=>decide (0<=v/\v<=1114111)&&IE o v
 |none=>false
end Go.Proofs.YtflibbceibjddaaGreat
