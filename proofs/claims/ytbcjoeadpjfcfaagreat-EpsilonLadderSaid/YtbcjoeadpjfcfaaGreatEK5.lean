/-
  Parts of the proof that the law holds whatever the input; without conditions.
-/
import Derived.Shelf.SlSortCmp.WholeK
import Derived.Shelf.SlicesG.Cmp
import Derived.Shelf.Small.Bits
import Derived.Ground.SlsfProg
import Derived.Ground.SlgcProg
import Derived.Ground.NamesProg
import Derived.Test.YtbcjoeadpjfcfaaGreatProg
import Derived.Test.YtbcjoeadpjfcfaaGreatEK3
import Derived.Test.YtbcjoeadpjfcfaaGreatEK4
set_option linter.unusedSimpArgs false
set_option linter.unusedVariables false
namespace Go.Proofs
open Go.Shelf
def Tryz.sortSp_ren:Go.Shelf.Ren:=⟨fun|6=>190|15=>139|14=>198|28=>162|29=>163|20=>205|21=>206|22=>207|23=>208|24=>209|25=>210|26=>211|27=>212|46=>213|47=>177|48=>178|49=>214|50=>215|57=>216|n=>n,fun|22=>79|24=>78|25=>228|3=>3|39=>187|0=>0|53=>205|55=>207|4=>4|46=>199|45=>198|50=>32|5=>5|9=>9|66=>216|70=>220|76=>224|77=>84|n=>n,fun|n=>n⟩
theorem Tryz.sortSp:Go.Proofs.SlLaysF0.n6 Tryz.prog Tryz.sortSp_ren:={
 mixed:=by kernel_rfl
 f6:=⟨Tryz.f190.name,by decide,Tryz.func190.trans (congrArg some (by kernel_rfl))⟩
 f14:=⟨Tryz.f198.name,by decide,Tryz.func198.trans (congrArg some (by kernel_rfl))⟩
 f15:=Tryz.func139.trans (congrArg some (by kernel_rfl))
 f20:=⟨Tryz.f205.name,by decide,Tryz.func205.trans (congrArg some (by kernel_rfl))⟩
 f21:=⟨Tryz.f206.name,by decide,Tryz.func206.trans (congrArg some (by kernel_rfl))⟩
 f22:=⟨Tryz.f207.name,by decide,Tryz.func207.trans (congrArg some (by kernel_rfl))⟩
 f23:=⟨Tryz.f208.name,by decide,Tryz.func208.trans (congrArg some (by kernel_rfl))⟩
 f24:=⟨Tryz.f209.name,by decide,Tryz.func209.trans (congrArg some (by kernel_rfl))⟩
 f25:=⟨Tryz.f210.name,by decide,Tryz.func210.trans (congrArg some (by kernel_rfl))⟩
 f26:=⟨Tryz.f211.name,by decide,Tryz.func211.trans (congrArg some (by kernel_rfl))⟩
 f27:=⟨Tryz.f212.name,by decide,Tryz.func212.trans (congrArg some (by kernel_rfl))⟩
 f28:=Tryz.func162.trans (congrArg some (by kernel_rfl))
 f29:=Tryz.func163.trans (congrArg some (by kernel_rfl))
 f46:=⟨Tryz.f213.name,by decide,Tryz.func213.trans (congrArg some (by kernel_rfl))⟩
 f47:=Tryz.func177.trans (congrArg some (by kernel_rfl))
 f48:=Tryz.func178.trans (congrArg some (by kernel_rfl))
 f49:=⟨Tryz.f214.name,by decide,Tryz.func214.trans (congrArg some (by kernel_rfl))⟩
 f50:=⟨Tryz.f215.name,by decide,Tryz.func215.trans (congrArg some (by kernel_rfl))⟩
 f57:=⟨Tryz.f216.name,by decide,Tryz.func216.trans (congrArg some (by kernel_rfl))⟩
 t0:=Tryz.underlying0
 a0:=Tryz.isAgg0
 z0:=Tryz.sizeOf0
 v0:=Tryz.zeroValue0
 t3:=Tryz.underlying3
 a3:=Tryz.isAgg3
 z3:=Tryz.sizeOf3
 v3:=Tryz.zeroValue3
 t4:=Tryz.underlying4
 a4:=Tryz.isAgg4
 z4:=Tryz.sizeOf4
 v4:=Tryz.zeroValue4
 t5:=Tryz.underlying5
 a5:=Tryz.isAgg5
 z5:=Tryz.sizeOf5
 v5:=Tryz.zeroValue5
 t9:=Tryz.underlying9
 a9:=Tryz.isAgg9
 z9:=Tryz.sizeOf9
 v9:=Tryz.zeroValue9
 t22:=Tryz.underlying79
 a22:=Tryz.isAgg79
 z22:=Tryz.sizeOf79
 v22:=Tryz.zeroValue79
 t25:=Tryz.underlying228
 a25:=Tryz.isAgg228
 z25:=Tryz.sizeOf228
 v25:=Tryz.zeroValue228
 t39:=Tryz.underlying187
 a39:=Tryz.isAgg187
 z39:=Tryz.sizeOf187
 v39:=Tryz.zeroValue187
 t45:=Tryz.underlying198
 a45:=Tryz.isAgg198
 z45:=Tryz.sizeOf198
 v45:=Tryz.zeroValue198
 t46:=Tryz.underlying199
 a46:=Tryz.isAgg199
 z46:=Tryz.sizeOf199
 v46:=Tryz.zeroValue199
 t50:=Tryz.underlying32
 a50:=Tryz.isAgg32
 z50:=Tryz.sizeOf32
 v50:=Tryz.zeroValue32
 t53:=Tryz.underlying205
 a53:=Tryz.isAgg205
 z53:=Tryz.sizeOf205
 v53:=Tryz.zeroValue205
 t55:=Tryz.underlying207
 a55:=Tryz.isAgg207
 z55:=Tryz.sizeOf207
 v55:=Tryz.zeroValue207
 t66:=Tryz.underlying216
 a66:=Tryz.isAgg216
 z66:=Tryz.sizeOf216
 v66:=Tryz.zeroValue216
 t70:=Tryz.underlying220
 a70:=Tryz.isAgg220
 z70:=Tryz.sizeOf220
 v70:=Tryz.zeroValue220
 t76:=Tryz.underlying224
 a76:=Tryz.isAgg224
 z76:=Tryz.sizeOf224
 v76:=Tryz.zeroValue224
 t77:=Tryz.underlying84
 a77:=Tryz.isAgg84
 z77:=Tryz.sizeOf84
 v77:=Tryz.zeroValue84 }
def Tryz.cmpSp_ren:Go.Shelf.Ren:=⟨fun|5=>192|7=>199|n=>n,fun|22=>3|3=>3|4=>4|n=>n,fun|n=>n⟩
theorem Tryz.cmpSp:Go.Proofs.SlLaysC2.n5 Tryz.prog Tryz.cmpSp_ren:={
 mixed:=by kernel_rfl
 f5:=⟨Tryz.f192.name,by decide,Tryz.func192.trans (congrArg some (by kernel_rfl))⟩
 f7:=⟨Tryz.f199.name,by decide,Tryz.func199.trans (congrArg some (by kernel_rfl))⟩
 t3:=Tryz.underlying3
 a3:=Tryz.isAgg3
 z3:=Tryz.sizeOf3
 v3:=Tryz.zeroValue3
 t4:=Tryz.underlying4
 a4:=Tryz.isAgg4
 z4:=Tryz.sizeOf4
 v4:=Tryz.zeroValue4
 t22:=Tryz.underlying3
 a22:=Tryz.isAgg3
 z22:=Tryz.sizeOf3
 v22:=Tryz.zeroValue3 }
end Go.Proofs
namespace Go.Proofs.YtbcjoeadpjfcfaaGreat
open Abs Go.Shelf Go.RowKit Go.Lib Go.Sort
def NQ(x:Span):List Value:=[.int .i64 x.lo,.int .i64 x.hi]
def Tk(x y:Span):Int:=Lib.compareInt x.lo y.lo
theorem ltLo(x y:Span):ltOf Tk x y=decide (x.lo<y.lo):=by
 unfold ltOf Tk Lib.compareInt;by_cases h1:x.lo<y.lo
 ·simp[h1]
 ·by_cases h2:y.lo<x.lo<;>simp[h1,h2]
theorem swoLo:SWO (ltOf Tk) where
 irrefl x:=by rw[ltLo];simp
 trans x y z h1 h2:=by rw[ltLo] at *;simp at *;omega
 ntrans x y z h1 h2:=by rw[ltLo] at *;simp at *;omega
set_option maxHeartbeats 1000000 in
theorem YN(x y:Span)(W:World):Calls Tryz.prog 191 #[.agg #[.int .i64 x.lo,.int .i64 x.hi],.agg #[.int .i64 y.lo,.int .i64 y.hi]] W λe w'=>e=.returned (.int .i64 (Tk x y))/\∃q os',w'=grow (W.drewN q) os':=by
 have hcon:=λW'=>AnyG.cmp_Compare_int Tryz.cmpSp x.lo y.lo W';change ∀W',Calls Tryz.prog 192 _ _ _ at hcon;unfold Tk;generalize Lib.compareInt x.lo y.lo=r at hcon ⊢
 go_enter Tryz.func191,Tryz.ntmps191
 go_wp2_with (go_at_call 192;refine (hcon _).mono ?_;rintro e w' ⟨rfl,rfl⟩)
 go_ret
 exact⟨rfl,0,_,by rw[alloc_eq_grow,alloc_eq_grow,grow_grow];rfl⟩
theorem YO(blk off size:Nat)(w:World):CmpLays Tryz.prog 191 #[] NQ 2 Tk blk off size w :=
 λ_ _ _ _ x y=>YN x y _
theorem zl3:∀w,(isAgg (Tryz.sortSp_ren.t 24)).run Tryz.prog w=.ok true w:=Tryz.isAgg78
theorem zgo:∀w,(Go.sizeOf (Tryz.sortSp_ren.t 24)).run Tryz.prog w=.ok 2 w:=Tryz.sizeOf78
theorem AI.split{S:MS}:∀{xs ys:List AV}{vs:List Value},AI S (xs++ys) vs->∃v1 v2,vs=v1++v2/\AI S xs v1/\AI S ys v2
 |[],ys,vs,h=>⟨[],vs,rfl,rfl,h⟩
 |x::xs,ys,vs,⟨v,r,hv,h1,h2⟩=>by
  obtain⟨v1,v2,rfl,h3,h4⟩:=AI.split h2;exact⟨v::v1,v2,by rw[hv];rfl,⟨v,v1,rfl,h1,h3⟩,h4⟩
abbrev Ib(x:Span):Value:=.agg #[.int .i64 x.lo,.int .i64 x.hi]
theorem PF{S:MS}:∀{l:List Span}{vs:List Value},AI S (l.map Dl) vs->vs=l.map Ib
 |[],vs,h=>h
 |x::l,vs,⟨v,r,hv,h1,h2⟩=>by
  obtain⟨ws,rfl,a,r1,rfl,rfl,c,r2,rfl,rfl,rfl⟩:=h1;rw[hv,PF h2];rfl
theorem PG{S:MS}:∀(l:List Span),AI S (l.map Dl) (l.map Ib)
 |[]=>rfl
 |x::l=>⟨_,_,rfl,⟨_,rfl,_,_,rfl,rfl,_,_,rfl,rfl,rfl⟩,PG l⟩
theorem Q0(d:Array Span)(i j:Nat)(hi:i<d.size)(hj:j<2):(flatK NQ 2 d)[i * 2+j]! = (NQ d[i]!)[j]! := by
 rw[get_flatK _ _ _ _ (by omega),show (i * 2+j) / 2=i from by omega,show (i * 2+j) % 2=j from by omega]
theorem z9h{w:World}{b:Nat}{cells:Array Value}{T:TypeId}{l:List Span}(hb:w.heap[b]? = some (.cells cells T (0,0))){vr:List Value}(hf:GG cells 2 (l.map Ib++vr)):HoldsK NQ 2 w b 0 l.toArray:=by
 intro j hj;rw[size_flatK,Cj] at hj;have hi:j / 2<l.length:=by omega
 have he:(l.map Ib++vr)[j / 2]? = some (Ib l[j / 2]):=by rw[AE (by simpa using hi)];simp[hi]
 obtain⟨_,_,h3⟩:=hf _ _ he;have h4:=h3 (j % 2) (by omega);rw[show j / 2 * 2+j % 2=j from by omega] at h4;have h5:=Q0 l.toArray (j / 2) (j % 2) (by simpa using hi) (by omega);rw[show j / 2 * 2+j % 2=j from by omega] at h5;refine⟨?_,?_⟩
 ·simp only[World.cell?,hb,Bn,Option.isSome_none,AB,Bt,h4,id,h5]
  have hg:l.toArray[j / 2]! = l[j / 2]:=by simp[hi]
  rw[hg];rcases Nat.mod_two_eq_zero_or_one j with h|h<;>rw[h]<;>simp[Ib,Value.cells,NQ]
 ·simp[World.frozen?,hb]
theorem zgp{w:World}{b n:Nat}{cells:Array Value}{T:TypeId}{d:Array Span}{os:Array Obj}(hb:w.heap[b]? = some (.cells cells T (0,0)))(hsz:d.size * 2<=cells.size){v0 vr:List Value}(h0:v0.length=d.size)(hf:GG cells 2 (v0++vr)):
 ∃cells',(sortWorldK NQ 2 w b 0 n d os).heap[b]? = some (.cells cells' T (0,0))/\cells'.size=cells.size/\GG cells' 2 (d.toList.map Ib++vr):=by
 have hlt:b<w.heap.size:=(Bl.1 hb).1;refine⟨putCells id 0 (flatK NQ 2 d) cells,?_,by simp[putCells],λi v hv=>?_⟩
 ·show ((w.heap.modify b _)++os)[b]? = _
  rw[BS (by rw[Dp];exact hlt),DW,Ai rfl,hb];rfl
 ·rcases An i d.size with hid|hid
  case inr =>
   rw[AG (by simpa using hid)] at hv;obtain⟨g1,g2,g3⟩:=hf i v (by rw[AG (by omega),h0];simpa using hv);refine⟨g1,g2,λj hj=>?_⟩;rw[<-g3 j hj,putCells,EX];cases hc:cells[i * 2+j]? with
   |none=>rfl
   |some c =>
    simp only[Option.map_some,AD,EN,Bn,size_flatK];rw[Ah (by omega)]
  rw[AE (by simpa using hid),Eb] at hv;obtain⟨x,hx,rfl⟩:=Af.1 hv;have hi:i<d.size:=by have:=(Bq.1 hx).1;simpa using this
  refine⟨rfl,λc hc=>?_,λj hj=>?_⟩
  ·simp[Ib,Value.cells] at hc
   rcases hc with rfl|rfl<;>rfl
  ·have h5:=Q0 d i j hi hj
   have hlt2:i * 2+j<cells.size:=by omega
   have hd:d[i]! = x:=by
    rw[EY] at hx;rw[getElem!_pos d i hi];exact (Bl.1 hx).2
   rw[putCells,EX,Ek hlt2];simp only[Option.map_some,AD,EN,Bn,size_flatK,Nat.sub_zero];rw[Ai (by omega),h5,hd];rcases (by omega:j=0\/j=1) with rfl|rfl<;>simp[Ib,Value.cells,NQ]
def KS(l:List Span):Prop:=l.Pairwise λa b=>a.lo<=b.lo
theorem z3n{d:Array Span}(h:SortedIn (ltOf Tk) 0 d.size d):KS d.toList:=by
 rw[KS,En];intro i j hi hj hij;have hi':i<d.size:=by simpa using hi
 have hj':j<d.size:=by simpa using hj
 have:=h i j (AD _) hij hj';rw[ltLo,getElem!_pos d j hj',getElem!_pos d i hi'] at this;simp at this;simpa using this
theorem zgq{H:A7}{g ver:Nat}{ex:Bool}{l:List Span}{rest:List AV}(hg:g<H.n)(hG:H.at_ g=⟨2,ver,ex,l.map Dl++rest⟩)(h1:l≠[])(hl:l.length<4611686018427387904):
 BZ Tryz.prog 190 [.ref g ver 0 l.length,.fn 191 []] H λy H'=>y=.tup []/\∃l':List Span,l'.Perm l/\KS l'/\H'=H.set g ⟨2,ver,ex,l'.map Dl++rest⟩:=by
 have eg:∀args w,(callFunc 191 args).run Tryz.prog w=.ok (.enter 191 args) w:=enters_of Tryz.func191 (by kernel_rfl) rfl;refine⟨enters_of Tryz.func190 (by kernel_rfl) rfl,λS cargs hS hx=>?_⟩;obtain⟨v1,r1,rfl,⟨_,hgn,_,hv1⟩,v2,r2,rfl,⟨lb,rfl,rfl⟩,rfl⟩:=hx;have hgr:=hS.grp g hg;rw[hG] at hgr;obtain⟨a,cap',rfl,hcase⟩:=hv1 hgr.ver;have hpos:0<l.length:=by cases l;exact absurd rfl h1;simp
 obtain⟨rfl,rfl,hcap⟩:=hcase.resolve_right (λh=>by omega);have hlen:l.length+rest.length<=S.cap g:=by have:=hgr.len (show 0<2 by decide);simpa using this
 obtain⟨⟨cells,T,vs,b1,b2,b3,b4⟩,hni⟩:=hgr.live (show 0<2 by decide) (by omega);obtain⟨vs1,vr,hvv,b31,b32⟩:=AI.split b3;have hvs:=PF b31;subst hvs;subst hvv;have b2':cells.size=S.cap g * 2:=b2;have hblk:S.place g<S.w.heap.size:=(Bl.1 b1).1;have hcon:=AnyQ.slices_SortFunc Tryz.sortSp 2 zl3 zgo NQ (λ_=>rfl) (λx v hv=>by simp[NQ] at hv;rcases hv with rfl|rfl<;>rfl) Tk swoLo 191 #[] (S.place g) 0 (S.cap g-0) l.toArray S.w eg (YO _ _ _ _) (z9h b1 b4) hblk (by simpa using hl);change Calls Tryz.prog 190 _ _ _ at hcon;rw[Cj] at hcon;rw[F9];refine hcon.mono λe w' ⟨he,d',n,os,hp,hs,hw'⟩=>?_;subst he hw';obtain⟨q1,q2,q3⟩:=hp;have q1:d'.size=l.length:=by simpa using q1
 have hperm:d'.toList.Perm l:=by
  rw[Ef,Ef] at q3;simpa [List.extract,q1,Ar (show d'.toList.length<=l.length by simp[q1])] using q3
 rw[<-q1] at hs;obtain⟨cells',c1,c2,c3⟩:=zgp (n:=n) (d:=d') (os:=os) b1 (by omega) (v0:=l.map Ib) (by simp[q1]) b4
 have hh:=hS.moved hg (by rw[hG];exact (show 0<2 by decide)) (sortWorldK NQ 2 S.w (S.place g) 0 n d' os) (S.place g) (S.cap g) ⟨2,ver,ex,d'.toList.map Dl++rest⟩ rfl ⟨rfl,Fh _ _⟩ rfl
  (by show _<=((S.w.heap.modify _ _)++os).size;rw[FL,Dp];omega)
  (λb hb hlt=>by
   show ((S.w.heap.modify _ _)++os)[b]? = _
   rw[BS (by rw[Dp];exact hlt),DW,Ah (λhh=>hb ⟨by omega,hh.symm⟩)])
  (.inl ⟨by omega,rfl⟩) (λ_=>⟨cells',T,_,c1,by rw[c2];exact b2',(PG _).append b32,c3⟩) (by simpa [q1] using hlen)
  (λhx=>by have:=hgr.full (show 0<2 by decide) hx;simp at this;simp[q1];exact this) (show 0<2 by decide) (by rw[hgr.ver];exact Ae _) (λ_=>⟨rfl,rfl,by rw[hgr.wid]⟩)
 exact⟨_,_,.tup [],_,rfl,rfl,hh.1,hh.2,⟨[],rfl,rfl⟩,rfl,d'.toList,hperm,z3n hs,rfl⟩
theorem z9i{l:List Span}{k:Nat}(h:k<l.length):inN (l.take (k+1))=inN (l.take k)++(if (Ku (nth l k)).lo<=(Ku (nth l k)).hi then [Ku (nth l k)] else []):=by
 rw[take_at h,inN,inN,A9,BM];congr 1;simp only[BB,BF,BH,List.filter_nil,Aj]
theorem z9j(m r:List Span)(hm:m.length<4611686018427387904):BZ Tryz.prog 190 [.ref 0 1 0 m.length,.fn 191 []] (Abs.hl [⟨2,1,true,(m++r).map Dl⟩]) λy H'=>y=.tup []/\∃m':List Span,m'.Perm m/\KS m'/\H'=Abs.hl [⟨2,1,true,(m'++r).map Dl⟩]:=by
 by_cases h:m=[]
 ·subst h
  refine (sort0 r).mono ?_;rintro y H' ⟨rfl,rfl⟩;exact⟨rfl,[],List.Perm.refl _,List.Pairwise.nil,rfl⟩
 ·refine (zgq (H:=Abs.hl [⟨2,1,true,(m++r).map Dl⟩]) (g:=0) (ver:=1) (ex:=true) (l:=m) (rest:=r.map Dl) (by show 0<1;decide) (by rw[<-A9];rfl) h hm).mono ?_
  rintro y H' ⟨rfl,m',h1,h2,rfl⟩;refine⟨rfl,m',h1,h2,?_⟩;rw[HL _ _ _ (by show 0<1;decide),<-A9];rfl
abbrev z9k:Span:=⟨0,0⟩
def NR(m:List Span)(n:Nat):List Span:=m++List.replicate (n-m.length) z9k
theorem z3o{m:List Span}{n:Nat}(h:m.length<=n):(NR m n).length=n:=by simp[NR];omega
theorem z3p{m:List Span}{n:Nat}(h:m.length<n)(s:Span):(NR m n).take m.length++[s]++(NR m n).drop (m.length+1)=NR (m++[s]) n:=by
 simp only[NR];rw[C2 (Ae _),AH,List.drop_append,A6 (by omega),List.nil_append,show m.length+1-m.length=1 from by omega,List.drop_replicate];simp only[Ak,List.length_singleton,Nat.sub_sub]
def mixS(out s:List Span):List Span:=out++s.drop out.length
theorem z9l{out s:List Span}(h:out.length<=s.length):(mixS out s).length=s.length:=by simp[mixS];omega
theorem z9m{out s:List Span}(h:out.length<s.length)(x:Span):(mixS out s).take out.length++[x]++(mixS out s).drop (out.length+1)=mixS (out++[x]) s:=by
 simp only[mixS];rw[C2 (Ae _),AH,List.drop_append,A6 (by omega),List.nil_append,show out.length+1-out.length=1 from by omega,FE];simp
theorem zgr{out s:List Span}{j:Nat}(h1:out.length<=j):nth (mixS out s) j=nth s j:=by
 simp only[nth,mixS,Av];rw[AG h1,Cl,show out.length+(j-out.length)=j from by omega]
theorem z3q{mm s:List Span}{y:Span}:nth (mixS (mm++[y]) s) mm.length=y:=by
 simp[nth,mixS,Av]
theorem WW(s:List Span):mixS [] s=s:=by simp[mixS]
theorem z9n{mm s:List Span}{y z:Span}:((mixS (mm++[y]) s).map Dl).set mm.length (Dl z)=(mixS (mm++[z]) s).map Dl:=by
 simp[mixS]
theorem UL{l m:List Span}(hp:m.Perm (inN l))(hs:KS m)(j:Nat):∀s∈(m.take j).foldl ES [],-1073741824<=s.lo/\s.lo<=s.hi/\s.hi<=1073741824:=by
 have hok:∀s∈m,s.lo<=s.hi:=λs h=>Wo s (hp.mem_iff.1 h);obtain⟨a1,a2⟩:=Iw (m.take j) [] ⟨by simp,by simp⟩ (λs h=>hok s (BP h)) (EZ (FO j m) hs) (λs _ t ht=>by cases ht);intro s hsm;have hle:=a1.1 s hsm
 have key:∀v,memL ((m.take j).foldl ES []) v->-1073741824<=v/\v<=1073741824:=λv hv=>by
  rcases (a2 v).1 hv with h|⟨t,ht,h1,h2⟩
  ·exact absurd h (Cw _)
  ·exact (z2c.1 ⟨t,hp.mem_iff.1 (BP ht),h1,h2⟩).2
 have k1:=key s.lo ⟨s,hsm,BY _,hle⟩;have k2:=key s.hi ⟨s,hsm,hle,BY _⟩;omega
theorem LC(l:List Span)(hl:l.length<=1000000000000):BZ Tryz.prog 181 [AY l] (Abs.hl []) λy H'=>∃rest:List Span,y=.ref 0 1 0 (BI l).length/\H'=Abs.hl [⟨2,1,true,(BI l++rest).map Dl⟩]:=by
 refine Wt (b:=0) U7 rfl ?_;unfold N6;(with_reducible repeat'(first|(simp(disch:=omega)only[push_cast,↓zz,seval])|refine Aa ?_ ?_|(first|refine Ac ?_ ?_|refine Ab ?_ ?_)<;>intro hc<;>(try simp only[push_cast] at hc)|omega|intro _))
 refine B4 (BK (λ(k:Nat)=>k<=l.length) (λk=>l.length-k) (λk=>[(3,.ref 0 1 0 (inN (l.take k)).length),(13,AY l),(14,.int .i64 l.length),(15,.int .i64 k)])
  (λk=>[⟨2,1,true,(NR (inN (l.take k)) l.length).map Dl⟩]) (λenv _=>[C0 2 (env 3)]) 0 (by simp) ?_ ?_)
 ·have h0:(List.replicate l.length (AV.agg [AV.int IntKind.i64 0,AV.int IntKind.i64 0]))=(NR [] l.length).map Dl:=by simp[NR]
  have h1:inN ([]:List Span)=[]:=rfl;(with_reducible repeat'(first|(simp(disch:=omega)only[push_cast,↓zz,seval,h0,h1,FC])|refine Aa ?_ ?_|(first|refine Ac ?_ ?_|refine Ab ?_ ?_)<;>intro hc<;>(try simp only[push_cast] at hc)|omega|intro _))
 intro k hk;have hlen:(inN (l.take k)).length<=k:=by have:=UE (l.take k);simp at this;omega
 have hr:=z3o (m:=inN (l.take k)) (n:=l.length) (by omega);rcases An k l.length with hkl|hkl
 ·have hE:((NR (inN (l.take k)) l.length).map Dl).isEmpty=false:=by
   cases hq:NR (inN (l.take k)) l.length with
   |nil=>rw[hq] at hr;simp at hr;omega
   |cons _ _=>rfl
  have ht:=z9i hkl;refine W_T ?_;(with_reducible repeat'(first|(simp(disch:=omega)only[push_cast,↓zz,seval,hr,hE])|refine Aa ?_ ?_|(first|refine Ac ?_ ?_|refine Ab ?_ ?_)<;>intro hc<;>(try simp only[push_cast] at hc)|omega|intro _))
  ·rw[Ai (show (Ku (nth l k)).lo<=(Ku (nth l k)).hi from hc)] at ht
   refine⟨k+1,⟨⟨by rw[ht];simp,by simp⟩,?_⟩,by omega,by omega⟩;rw[ht,<-z3p (show (inN (l.take k)).length<l.length by omega) (Ku (nth l k))];simp only[A9,BB,BF,Aw,List.singleton_append];exact Ck _ _
  ·rw[Ah (show ¬(Ku (nth l k)).lo<=(Ku (nth l k)).hi from hc),A8] at ht
   refine⟨k+1,⟨⟨by rw[ht],by simp⟩,?_⟩,by omega,by omega⟩;rw[ht];exact Ck _ _
 ·obtain rfl:k=l.length:=by omega
  refine W_T ?_;(with_reducible repeat'(first|(simp(disch:=omega)only[push_cast,↓zz,seval,hr])|refine Aa ?_ ?_|(first|refine Ac ?_ ?_|refine Ab ?_ ?_)<;>intro hc<;>(try simp only[push_cast] at hc)|omega|intro _));rw[AH] at *;refine BZ.mono (z9j (inN l) (List.replicate (l.length-(inN l).length) z9k) (by omega)) ?_;rintro y H' ⟨rfl,m',hp,hs,rfl⟩;have hpl:=hp.length_eq;have hrl:(List.replicate (l.length-(inN l).length) z9k).length<=l.length:=by simp
  generalize List.replicate (l.length-(inN l).length) z9k=rest at *;rw[<-z8v hp hs,<-hpl];have hml:m'.length<=1000000000000:=by have:=UE l;omega
  (with_reducible repeat'(first|(simp(disch:=omega)only[push_cast,↓zz,seval])|refine Aa ?_ ?_|(first|refine Ac ?_ ?_|refine Ab ?_ ?_)<;>intro hc<;>(try simp only[push_cast] at hc)|omega|intro _));have hfl:∀j,((m'.take j).foldl ES []).length<=j:=λj=>by have:=QP (m'.take j) [];simp at this;omega
  have hmr:∀j,j<=m'.length->(mixS ((m'.take j).foldl ES []) (m'++rest)).length=m'.length+rest.length:=λj hj=>by rw[z9l (by have:=hfl j;simp;omega)];simp
  refine B4 (BK (λ(j:Nat)=>j<=m'.length) (λj=>m'.length-j) (λj=>[(6,.ref 0 1 0 ((m'.take j).foldl ES []).length),(41,.ref 0 1 0 m'.length),(42,.int .i64 m'.length),(43,.int .i64 j)])
   (λj=>[⟨2,1,true,(mixS ((m'.take j).foldl ES []) (m'++rest)).map Dl⟩]) (λenv _=>[C0 2 (env 6)]) 0 (by simp) ?_ ?_)
  ·(with_reducible repeat'(first|(simp(disch:=omega)only[push_cast,↓zz,seval,WW,FC,List.foldl_nil])|refine Aa ?_ ?_|(first|refine Ac ?_ ?_|refine Ab ?_ ?_)<;>intro hc<;>(try simp only[push_cast] at hc)|omega|intro _))
  intro j hj;have hlj:=hmr j hj;have hfj:=hfl j;rcases An j m'.length with hjm|hjm
  ·have hstep:(m'.take (j+1)).foldl ES []=ES ((m'.take j).foldl ES []) (nth m' j):=by rw[take_at hjm,FM];rfl
   have hat:=zgr (s:=m'++rest) hfj;have hat2:nth (m'++rest) j=nth m' j:=by simp[nth,Av,AE hjm]
   rw[hat2] at hat;have hbd:=UL hp hs j
   have hE:((mixS ((m'.take j).foldl ES []) (m'++rest)).map Dl).isEmpty=false:=by
    cases hq:mixS ((m'.take j).foldl ES []) (m'++rest) with
    |nil=>rw[hq] at hlj;simp at hlj;omega
    |cons _ _=>rfl
   generalize (m'.take j).foldl ES []=out at *;rcases GM out with rfl|⟨mm,y,rfl⟩
   ·refine W_T ?_
    (with_reducible repeat'(first|(simp(disch:=omega)only[push_cast,↓zz,seval,hlj,hat,hE])|refine Aa ?_ ?_|(first|refine Ac ?_ ?_|refine Ab ?_ ?_)<;>intro hc<;>(try simp only[push_cast] at hc)|omega|intro _));refine⟨j+1,⟨⟨by rw[hstep];simp[GL],by simp⟩,?_⟩,by omega,by omega⟩;rw[hstep,GL,WW];exact Ck _ _
   ·rw[Kt] at hstep
    have hmm:mm.length+1<=j:=by simpa using hfj
    have hw:IntKind.i64.wrap (mm.length:Int)=mm.length:=IntWalk.i64_in _ (by omega);have hy:=hbd y (by simp);have hwy:IntKind.i64.wrap (y.hi+1)=y.hi+1:=IntWalk.i64_in _ (by omega);have hset:=z9n (mm:=mm) (s:=m'++rest) (y:=y) (z:=⟨y.lo,max y.hi (nth m' j).hi⟩);refine W_T ?_;(with_reducible repeat'(first|(simp(disch:=omega)only[push_cast,↓zz,seval,hlj,hat,z3q,hE,hw,hwy,hset,FC])|refine Aa ?_ ?_|(first|refine Ac ?_ ?_|refine Ab ?_ ?_)<;>intro hc<;>(try simp only[push_cast] at hc)|omega|intro _))
    ·rw[Ai hc] at hstep
     refine⟨j+1,⟨⟨by rw[hstep];simp,by simp⟩,?_⟩,by omega,by omega⟩;rw[hstep];exact Ck _ _
    ·rw[Ah hc] at hstep
     refine⟨j+1,⟨⟨by rw[hstep];simp,by simp⟩,?_⟩,by omega,by omega⟩;rw[hstep,<-z9m (show (mm++[y]).length<(m'++rest).length by simp;omega) (nth m' j)];simp only[A9,BB,BF,Aw,List.singleton_append,Ak,List.length_singleton];exact Ck _ _
  ·obtain rfl:j=m'.length:=by omega
   rw[AH] at *;refine W_T ?_;(with_reducible repeat'(first|(simp(disch:=omega)only[push_cast,↓zz,seval,hlj])|refine Aa ?_ ?_|(first|refine Ac ?_ ?_|refine Ab ?_ ?_)<;>intro hc<;>(try simp only[push_cast] at hc)|omega|intro _));refine SQ [.grp 0] (.ref 0 1 0 (m'.foldl ES []).length) [⟨2,1,true,(m'.foldl ES []++(m'++rest).drop (m'.foldl ES []).length).map Dl⟩] ?_ ⟨_,rfl,rfl⟩;(with_reducible repeat'(first|(simp(disch:=omega)only[push_cast,↓zz,seval])|refine Aa ?_ ?_|(first|refine Ac ?_ ?_|refine Ab ?_ ?_)<;>intro hc<;>(try simp only[push_cast] at hc)|omega|intro _))
   all_goals (rw[<-A9];exact Ck _ _)
theorem D8(l:List Span)(hl:l.length<=1000000000000):PC Tryz.prog 181 [AY l] (AY (BI l)):=by
 have h:BZ Tryz.prog 181 [AY l] (Abs.hl []) λy H'=>y=AY (BI l)/\H'=Abs.hl []:=by
  refine NG ((LC l hl).mono ?_);rintro y H' ⟨rest,rfl,rfl⟩;refine SQ [] (AY (BI l)) [] ?_ ⟨rfl,rfl⟩;have ht:List.take (BI l).length ((BI l).map Dl++rest.map Dl)=(BI l).map Dl:=DL (by simp);have hn:(BI l).length<=(BI l).length+rest.length:=by omega
  (with_reducible repeat'(first|(simp(disch:=omega)only[push_cast,↓zz,seval,ht,hn])|refine Aa ?_ ?_|(first|refine Ac ?_ ?_|refine Ab ?_ ?_)<;>intro hc<;>(try simp only[push_cast] at hc)|omega|intro _))
 rw[PC,Wi];exact h
def Hp(x y:Span):Span:=⟨max x.lo y.lo,min x.hi y.hi⟩
def Gy:List Span->List Span->List Span
 |x::a,y::b=>(if (Hp x y).lo<=(Hp x y).hi then [Hp x y] else [])++if x.hi<y.hi then Gy a (y::b) else Gy (x::a) b
 |_,_=>[]
termination_by a b=>a.length+b.length
theorem Ic(b:List Span):Gy [] b=[]:=by rw[Gy];simp
theorem H9(a:List Span):Gy a []=[]:=by cases a<;>rw[Gy]<;>simp
theorem LD(x y:Span)(a b:List Span):Gy (x::a) (y::b)=(if (Hp x y).lo<=(Hp x y).hi then [Hp x y] else [])++if x.hi<y.hi then Gy a (y::b) else Gy (x::a) b:=by rw[Gy]
theorem NS(a b:List Span)(la:a.length<=1000000000000)(lb:b.length<=1000000000000):PC Tryz.prog 182 [AY a,AY b] (AY (Gy (BI a) (BI b))):=by
 refine BV U8 ?_;unfold N7;(with_reducible repeat'(first|(simp(disch:=omega)only[push_cast,↓zz,seval])|refine Aa ?_ ?_|(first|refine Ac ?_ ?_|refine Ab ?_ ?_)<;>intro hc<;>(try simp only[push_cast] at hc)|(have q_:=D8 a la;(first|refine eK q_ ?_|refine eQ q_ ?_|refine eG q_ ?_);clear q_)|(have q_:=D8 b lb;(first|refine eK q_ ?_|refine eQ q_ ?_|refine eG q_ ?_);clear q_)|(have q_:=D8 a la;(first|refine cK q_ ?_|refine cQ q_ ?_|refine cG q_ ?_);clear q_;(simp(disch:=omega)only[push_cast,↓zz,seval]);(fail_if_success change False))|(have q_:=D8 b lb;(first|refine cK q_ ?_|refine cQ q_ ?_|refine cG q_ ?_);clear q_;(simp(disch:=omega)only[push_cast,↓zz,seval]);(fail_if_success change False))|omega|intro _));have ha:=FV a;have hb:=FV b;generalize BI a=a0 at *;generalize BI b=b0 at *
 refine B4 (BK (λ(s:List Span × List Span × List Span)=>Gy a0 b0=s.2.2++Gy s.1 s.2.1/\s.1.length+s.2.1.length+s.2.2.length<=a0.length+b0.length) (λs=>s.1.length+s.2.1.length)
  (λs=>[(0,AY s.1),(1,AY s.2.1),(5,.ref 0 1 0 s.2.2.length)]) (λs=>[⟨2,1,false,s.2.2.map Dl⟩]) (λenv _=>[C0 2 (env 5)]) (a0,b0,[]) (by simp) ?_ ?_)
 ·(with_reducible repeat'(first|(simp(disch:=omega)only[push_cast,↓zz,seval])|refine Aa ?_ ?_|(first|refine Ac ?_ ?_|refine Ab ?_ ?_)<;>intro hc<;>(try simp only[push_cast] at hc)|omega|intro _))
 rintro⟨a',b',out⟩ ⟨h1,h2⟩;simp only at h1 h2;cases a' with
 |nil =>
  rw[Ic,A8] at h1;rw[h1];refine W_T ?_;(with_reducible repeat'(first|(simp(disch:=omega)only[push_cast,↓zz,seval])|refine Aa ?_ ?_|(first|refine Ac ?_ ?_|refine Ab ?_ ?_)<;>intro hc<;>(try simp only[push_cast] at hc)|omega|intro _))
 |cons x a' =>
  cases b' with
  |nil =>
   rw[H9,A8] at h1;rw[h1];refine W_T ?_;(with_reducible repeat'(first|(simp(disch:=omega)only[push_cast,↓zz,seval])|refine Aa ?_ ?_|(first|refine Ac ?_ ?_|refine Ab ?_ ?_)<;>intro hc<;>(try simp only[push_cast] at hc)|omega|intro _))
  |cons y b' =>
   rw[LD] at h1;simp only[List.length_cons] at h2;refine W_T ?_;(with_reducible repeat'(first|(simp(disch:=omega)only[push_cast,↓zz,seval,AY,Dl])|refine Aa ?_ ?_|(first|refine Ac ?_ ?_|refine Ab ?_ ?_)<;>intro hc<;>(try simp only[push_cast] at hc)|omega|intro _))
   ·rw[Ai (show (Hp x y).lo<=(Hp x y).hi from ‹max x.lo y.lo<=min x.hi y.hi›),Ai hc] at h1
    refine⟨(a',y::b',out++[Hp x y]),⟨⟨rfl,rfl,by simp⟩,?_⟩,⟨by simp[h1],by first|(simp;done)|(simp;omega)⟩,by simp⟩;rw[A9];exact Ck _ _
   ·rw[Ai (show (Hp x y).lo<=(Hp x y).hi from ‹max x.lo y.lo<=min x.hi y.hi›),Ah hc] at h1
    refine⟨(x::a',b',out++[Hp x y]),⟨⟨rfl,rfl,by simp⟩,?_⟩,⟨by simp[h1],by first|(simp;done)|(simp;omega)⟩,by first|(simp;done)|(simp;omega)⟩;rw[A9];exact Ck _ _
   ·rw[Ah (show ¬(Hp x y).lo<=(Hp x y).hi from ‹¬max x.lo y.lo<=min x.hi y.hi›),Ai hc,List.nil_append] at h1
    refine⟨(a',y::b',out),⟨⟨rfl,rfl,rfl⟩,Ck _ _⟩,⟨h1,by first|(simp;done)|(simp;omega)⟩,by simp⟩
   ·rw[Ah (show ¬(Hp x y).lo<=(Hp x y).hi from ‹¬max x.lo y.lo<=min x.hi y.hi›),Ah hc,List.nil_append] at h1
    refine⟨(x::a',b',out),⟨⟨rfl,rfl,rfl⟩,Ck _ _⟩,⟨h1,by first|(simp;done)|(simp;omega)⟩,by first|(simp;done)|(simp;omega)⟩
theorem Jt:∀(a b:List Span),Plain a->Plain b->Plain (Gy a b)/\∀v,memL (Gy a b) v↔memL a v/\memL b v
 |[],b,_,_=>by
  rw[Ic];exact⟨⟨by simp,by simp⟩,λv=>by simp only[Cw,false_and]⟩
 |x::a,[],_,_=>by
  rw[H9];exact⟨⟨by simp,by simp⟩,λv=>by simp only[Cw,and_false]⟩
 |x::a,y::b,ha,hb=>by
  have hx:=ha.head;have hy:=hb.head;rw[LD]
  -- what the rest has,begins behind what ends first
  have key:∀{r:List Span},Plain r->(∀v,memL r v->min x.hi y.hi+1<v)->Plain ((if (Hp x y).lo<=(Hp x y).hi then [Hp x y] else [])++r)/\∀v,memL ((if (Hp x y).lo<=(Hp x y).hi then [Hp x y] else [])++r) v↔((x.lo<=v/\v<=x.hi)/\(y.lo<=v/\v<=y.hi))\/memL r v:=by
   intro r hr hv;split
   ·rename_i hle
    refine⟨⟨?_,?_⟩,λv=>?_⟩
    ·intro s hs
     rcases Au.1 hs with hs|hs
     ·simp only[As] at hs;subst hs;exact hle
     ·exact hr.1 s hs
    ·rw[List.singleton_append,AW]
     exact⟨λt ht=>hv t.lo ⟨t,ht,BY _,hr.1 t ht⟩,hr.2⟩
    ·rw[List.singleton_append,B3]
     simp only[Hp];constructor
     ·rintro (h|h)
      ·exact .inl (by omega)
      ·exact .inr h
     ·rintro (h|h)
      ·exact .inl (by omega)
      ·exact .inr h
   ·rename_i hle
    simp only[Hp] at hle;rw[List.nil_append];refine⟨hr,λv=>⟨.inr,λh=>h.resolve_left λh=>by omega⟩⟩
  by_cases hlt:x.hi<y.hi
  ·rw[Ai hlt]
   obtain⟨p1,p2⟩:=Jt a (y::b) ha.tail hb;obtain⟨q1,q2⟩:=key p1 λv hv=>by have:=ha.after ((p2 v).1 hv).1;omega
   refine⟨q1,λv=>?_⟩;rw[q2 v,p2 v,B3,B3];constructor
   ·rintro (⟨h1,h2⟩|⟨h1,h2⟩)
    ·exact⟨.inl h1,.inl h2⟩
    ·exact⟨.inr h1,h2⟩
   ·rintro⟨h1|h1,h2⟩
    ·rcases h2 with h2|h2
     ·exact .inl ⟨h1,h2⟩
     ·have:=hb.after h2;omega
    ·exact .inr ⟨h1,h2⟩
  ·rw[Ah hlt]
   obtain⟨p1,p2⟩:=Jt (x::a) b ha hb.tail;obtain⟨q1,q2⟩:=key p1 λv hv=>by have:=hb.after ((p2 v).1 hv).2;omega
   refine⟨q1,λv=>?_⟩;rw[q2 v,p2 v,B3,B3];constructor
   ·rintro (⟨h1,h2⟩|⟨h1,h2⟩)
    ·exact⟨.inl h1,.inl h2⟩
    ·exact⟨h1,.inr h2⟩
   ·rintro⟨h1,h2|h2⟩
    ·rcases h1 with h1|h1
     ·exact .inl ⟨h1,h2⟩
     ·have:=ha.after h1;omega
    ·exact .inr ⟨h1,h2⟩
termination_by a b=>a.length+b.length
theorem Gz(l:List Span):∀s∈BI l,-1073741824<=s.lo/\s.lo<=s.hi/\s.hi<=1073741824:=by
 obtain⟨h1,h2⟩:=BD l;intro s hs;have hle:=h1.1 s hs;have k1:=((h2 s.lo).1 ⟨s,hs,BY _,hle⟩).2;have k2:=((h2 s.hi).1 ⟨s,hs,hle,BY _⟩).2;omega
def LG:Int->List Span->List Span
 |f,[]=>[⟨f,1073741824⟩]
 |f,x::l=>⟨f,x.lo-1⟩::LG (x.hi+1) l
theorem Tl:∀(l:List Span)(f:Int),(LG f l).length=l.length+1
 |[],f=>rfl
 |x::l,f=>by rw[LG,List.length_cons,Tl l];rfl
theorem Tm:∀(l:List Span)(f:Int),Plain l->(∀s∈l,f<=s.lo/\s.hi<=1073741824)->∀v,memL (LG f l) v↔f<=v/\v<=1073741824/\¬memL l v
 |[],f,_,_,v=>by
  rw[LG,B3];simp only[Cw,A5,Ay,and_true]
 |x::l,f,h,hb,v=>by
  have hx:=h.head;have hxb:=hb x (by simp);rw[LG,B3,Tm l (x.hi+1) h.tail (λs hs=>⟨by have:=(AW.1 h.2).1 s hs;omega,(hb s (by simp[hs])).2⟩) v,B3];have ha:memL l v->x.hi+1<v:=λhv=>h.after hv;dsimp only;constructor
  ·rintro (h1|⟨h1,h2,h3⟩)
   ·exact⟨h1.1,by omega,λhh=>hh.elim (λhh=>by omega) (λhh=>by have:=ha hh;omega)⟩
   ·exact⟨by omega,h2,λhh=>hh.elim (λhh=>by omega) h3⟩
  ·rintro⟨h1,h2,h3⟩
   rcases Em v x.lo with hlt|hge
   ·exact .inl ⟨h1,by omega⟩
   ·refine .inr ⟨?_,h2,λhh=>h3 (.inr hh)⟩
    rcases Em x.hi v with hlt2|hge2
    ·omega
    ·exact absurd (.inl ⟨hge,hge2⟩) h3
def Ju(a b:List Span):List Span:=Gy (BI a) (BI (LG (-1073741824) (BI b)))
theorem YP(a b:List Span):Plain (Ju a b)/\∀v,memL (Ju a b) v↔memL a v/\(-1073741824<=v/\v<=1073741824)/\¬memL b v:=by
 obtain⟨a1,a2⟩:=BD a;obtain⟨b1,b2⟩:=BD b;obtain⟨g1,g2⟩:=BD (LG (-1073741824) (BI b));obtain⟨m1,m2⟩:=Jt _ _ a1 g1;refine⟨m1,λv=>?_⟩;rw[Ju,m2 v,a2 v,g2 v,Tm _ _ b1 (λs hs=>by have:=Gz b s hs;omega) v,b2 v];constructor
 ·rintro⟨⟨h1,h2⟩,⟨h3,h4,h5⟩,h6⟩
  exact⟨h1,h2,λh=>h5 ⟨h,h2⟩⟩
 ·rintro⟨h1,h2,h3⟩
  exact⟨⟨h1,h2⟩,⟨h2.1,h2.2,λh=>h3 h.1⟩,h2⟩
theorem PH(a b:List Span)(la:a.length<=100000000000)(lb:b.length<=100000000000):PC Tryz.prog 165 [AY a,AY b] (AY (Ju a b)):=by
 refine BV SG ?_;unfold Mj;(with_reducible repeat'(first|(simp(disch:=omega)only[push_cast,↓zz,seval])|refine Aa ?_ ?_|(first|refine Ac ?_ ?_|refine Ab ?_ ?_)<;>intro hc<;>(try simp only[push_cast] at hc)|(have q_:=D8 b (by omega);(first|refine eK q_ ?_|refine eQ q_ ?_|refine eG q_ ?_);clear q_)|(have q_:=D8 b (by omega);(first|refine cK q_ ?_|refine cQ q_ ?_|refine cG q_ ?_);clear q_;(simp(disch:=omega)only[push_cast,↓zz,seval]);(fail_if_success change False))|omega|intro _));have hb:=FV b;have hbd:=Gz b;have hgl:=Tl (BI b) (-1073741824);have hmeet:=NS a (LG (-1073741824) (BI b)) (by omega) (by omega);rw[<-Ju] at hmeet;generalize BI b=b0 at *
 refine B4 (BK (λ(s:Nat × Int × List Span)=>s.1<=b0.length/\s.2.2.length=s.1/\(-1073741824<=s.2.1/\s.2.1<=1073741825)/\LG (-1073741824) b0=s.2.2++LG s.2.1 (b0.drop s.1)) (λs=>b0.length-s.1)
  (λs=>[(0,AY a),(5,.ref 0 1 0 s.2.2.length),(6,.int .i64 s.2.1),(10,AY b0),(11,.int .i64 b0.length),(12,.int .i64 s.1)]) (λs=>[⟨2,1,false,s.2.2.map Dl⟩]) (λenv _=>[C0 2 (env 5)]) (0,-1073741824,[]) (by simp) ?_ ?_)
 ·(with_reducible repeat'(first|(simp(disch:=omega)only[push_cast,↓zz,seval])|refine Aa ?_ ?_|(first|refine Ac ?_ ?_|refine Ab ?_ ?_)<;>intro hc<;>(try simp only[push_cast] at hc)|omega|intro _))
 rintro⟨k,f,out⟩ ⟨h1,h2,h3,h4⟩;simp only at h1 h2 h3 h4;rcases An k b0.length with hk|hk
 ·have hx:=hbd _ (B2 hk)
  rw[drop_at hk,LG] at h4;have w1:IntKind.i64.wrap ((nth b0 k).lo-1)=(nth b0 k).lo-1:=IntWalk.i64_in _ (by omega);have w2:IntKind.i64.wrap ((nth b0 k).hi+1)=(nth b0 k).hi+1:=IntWalk.i64_in _ (by omega);refine W_T ?_;(with_reducible repeat'(first|(simp(disch:=omega)only[push_cast,↓zz,seval,w1,w2])|refine Aa ?_ ?_|(first|refine Ac ?_ ?_|refine Ab ?_ ?_)<;>intro hc<;>(try simp only[push_cast] at hc)|omega|intro _));refine⟨(k+1,(nth b0 k).hi+1,out++[⟨f,(nth b0 k).lo-1⟩]),⟨⟨by simp,rfl,by simp⟩,?_⟩,⟨by omega,by simp[h2],by simp only;omega,by simp[h4]⟩,by omega⟩;rw[A9];exact Ck _ _
 ·obtain rfl:k=b0.length:=by omega
  rw[A6 (Ae _),LG] at h4;rw[h4] at hmeet
  have htk:List.take (out.length+1) (out.map Dl++[AV.agg [.int .i64 f,.int .i64 1073741824]])=(out++[(⟨f,1073741824⟩:Span)]).map Dl:=by
   rw[Ar (by simp),A9];rfl
  refine W_T ?_;(with_reducible repeat'(first|(simp(disch:=omega)only[push_cast,↓zz,seval,AY,EP,htk,FC])|refine Aa ?_ ?_|(first|refine Ac ?_ ?_|refine Ab ?_ ?_)<;>intro hc<;>(try simp only[push_cast] at hc)|refine eK hmeet ?_|refine eQ hmeet ?_|refine eG hmeet ?_|((first|refine cK hmeet ?_|refine cQ hmeet ?_|refine cG hmeet ?_);(simp(disch:=omega)only[push_cast,↓zz,seval,AY,EP,htk,FC]);(fail_if_success change False))|omega|intro _))
  all_goals trace_state
theorem NT(a b:List Span)(la:a.length<=100000000000)(lb:b.length<=100000000000):PC Tryz.prog 146 [AY a,AY b] (.bool (decide (Ju a b=[]))):=by
 refine BV QM ?_;unfold KN;(with_reducible repeat'(first|(simp(disch:=omega)only[push_cast,↓zz,seval])|refine Aa ?_ ?_|(first|refine Ac ?_ ?_|refine Ab ?_ ?_)<;>intro hc<;>(try simp only[push_cast] at hc)|(have q_:=PH a b la lb;(first|refine eK q_ ?_|refine eQ q_ ?_|refine eG q_ ?_);clear q_)|(have q_:=PH a b la lb;(first|refine cK q_ ?_|refine cQ q_ ?_|refine cG q_ ?_);clear q_;(simp(disch:=omega)only[push_cast,↓zz,seval]);(fail_if_success change False))|omega|intro _))
 all_goals (rw[DC];exact⟨λh=>Az (by omega),λh=>by rw[h];rfl⟩)
theorem TI_w{I:Itr}{n:Nat}{s:Option Nat}{env:Env}{H:A7}{Q:Option Nat->Ex->Env->A7->Prop}{ops:List AOp}{P:Program}(hP:I.P=P)(h:W P n 0 (.reg ops) env H (Q s)):TI I n (.reg ops) s env H Q:=zkt (by
 rw[hP];rw[W] at h
 first|exact h|rwa [Lu] at h|(simpa only[Lu] using h))
theorem UM{I:Itr}{n:Nat}{s:Option Nat}{env:Env}{H:A7}{Q Q':Option Nat->Ex->Env->A7->Prop}{c:AC}(h:TI I n c s env H Q)(hq:∀s x e H,Q s x e H->Q' s x e H):TI I n c s env H Q' :=
 λcode hc S a X hN hF hd=>wpIn_mono (h code hc S a X hN hF hd) λe a w hh=>by
  obtain⟨S',env',H',x,s',X',h1,h2,h3,h4,h5,h6⟩:=hh;exact⟨S',env',H',x,s',X',h1,h2,h3,h4,h5,hq _ _ _ _ h6⟩
def KT:AC->Bool
 |.skip|.reg _|.exit _|.ret=>true
 |.seq x y=>KT x&&KT y
 |.cond _ x y=>KT x&&KT y
 |.block _ c=>KT c
 |_=>false
theorem TI_W{I:Itr}{n:Nat}{P:Program}(hP:I.P=P):∀{c:AC}{s:Option Nat}{env:Env}{H:A7}{Q:Ex->Env->A7->Prop},KT c=true->W P n 0 c env H Q->TI I n c s env H (λs' x e H'=>s'=s/\Q x e H')
 |.skip,s,env,H,Q,_,h=>zg9 ⟨rfl,h⟩
 |.exit id,s,env,H,Q,_,h=>zga ⟨rfl,h⟩
 |.ret,s,env,H,Q,_,h=>zks ⟨rfl,h⟩
 |.reg ops,s,env,H,Q,_,h=>TI_w (Q:=λs' x e H'=>s'=s/\Q x e H') hP (by
  have h':wk P ops env H _:=h;show wk P ops env H (λe H'=>s=s/\Q .normal e H');have e:(λ(e:Env) (H':A7)=>s=s/\Q .normal e H')=λe H'=>Q .normal e H':=by funext e H';simp
  rw[e]
  exact h')
 |.seq x y,s,env,H,Q,hc,h=>by
  simp only[KT,Ad] at hc;refine HS (UM (TI_W hP (c:=x) hc.1 h) λs' z e H' hh=>?_);obtain⟨rfl,hh⟩:=hh;cases z with
  |normal=>exact TI_W hP (c:=y) hc.2 hh
  |exit id=>exact⟨rfl,hh⟩
  |ret=>exact⟨rfl,hh⟩
 |.cond c x y,s,env,H,Q,hc,h=>by
  simp only[KT,Ad] at hc;have h':Uo (c.eval env) (W P n 0 x env H Q) (W P n 0 y env H Q):=h;unfold Uo at h';split at h'
  ·rename_i q hq;exact zgb hq (λhb=>TI_W hP hc.1 (h'.1 hb)) (λhb=>TI_W hP hc.2 (h'.2 hb))
  ·exact h'.elim
 |.block id c,s,env,H,Q,hc,h=>by
  refine IE (UM (TI_W hP (c:=c) hc h) λs' z e H' hh=>?_);obtain⟨rfl,hh⟩:=hh;cases z with
  |normal=>exact⟨rfl,hh⟩
  |ret=>exact⟨rfl,hh⟩
  |exit k =>
   simp only[Ex.inBlock,Ex.inBlockI] at hh ⊢;split<;>rename_i hk
   ·rw[Ai hk] at hh;exact⟨trivial,hh⟩
   ·rw[Ah hk] at hh;exact⟨trivial,hh⟩
theorem TI_v{I:Itr}{n:Nat}{P:Program}{c:AC}{s:Option Nat}{env:Env}{H:A7}{Q:Option Nat->Ex->Env->A7->Prop}(hP:I.P=P)(hc:KT c=true)(h:W P n 0 c env H (Q s)):TI I n c s env H Q :=
 UM (TI_W hP hc h) λs' x e H' hh=>by
  obtain⟨rfl,hh⟩:=hh;exact hh
theorem Tn:∀(live:List (Nat × AV))(i:Nat),E4 live i=.any\/(i,E4 live i)∈live:=by
 intro live i
 induction live with
 |nil=>exact .inl rfl
 |cons p l ih =>
  obtain⟨t,x⟩:=p;show (if i=t then x else E4 l i)=.any\/(i,if i=t then x else E4 l i)∈(t,x)::l;split
  ·rename_i h;subst h;exact .inr (by simp)
  ·rcases ih with h|h
   ·exact .inl h
   ·exact .inr (by simp[h])
theorem zl4{I:Itr}{n:Nat}{s:Option Nat}{env:Env}{H:A7}{Q:Option Nat->Ex->Env->A7->Prop}{c:AC}{live:List (Nat × AV)}(hl:∀p∈live,env p.1=p.2)(h:TI I n c s (E4 live) H Q):TI I n c s env H Q :=
 λcode hc S a X hN hF hd=>h code hc S a X hN ⟨hF.size,hF.defers,λi hi=>by
  rcases Tn live i with he|he
  ·rw[he];trivial
  ·have:=hl _ he
   simp only at this;rw[<-this]
   exact hF.val i hi⟩ hd
theorem z3r{I:Itr}{n:Nat}{s:Option Nat}{env:Env}{H:A7}{Q:Option Nat->Ex->Env->A7->Prop}{c:AC}{live:List (Nat × AV)}(hl:∀p∈live,env p.1=p.2/\p.2.pure=true)(h:TI I n c s (E4 live) (Abs.hl []) Q):TI I n c s env H Q :=
 λcode hc S a X hN hF hd=>by
  have hN':I.Now s X { S with n:=0 } (Abs.hl []):=⟨⟨rfl,λg hg=>absurd hg (Bh _),λg _ hg=>absurd hg (Bh _),hN.rel.im⟩,hN.base,hN.keep,hN.im,hN.apart,hN.st⟩;refine h code hc { S with n:=0 } a X hN' ⟨hF.size,by rw[hd];exact Marks.nil hN.base,λi hi=>?_⟩ hd;rcases Tn live i with he|he
  ·rw[he];trivial
  ·obtain⟨h1,h2⟩:=hl _ he
   simp only at h1 h2;have hv:=hF.val i hi;rw[h1] at hv;exact VRel.of_pure (S:=S) (S':={ S with n:=0 }) rfl (λ_ h=>h) h2 hv
def Rh(lo:Int)(n:Nat):List Int:=(List.range n).map λ(i:Nat)=>lo+(i:Int)
def Ge(l:List Span):List Int:=l.flatMap λs=>Rh s.lo (s.hi+1-s.lo).toNat
theorem NU(l:List Span)(hl:l.length<=1000000000000)(hb:∀s∈l,-1073741824<=s.lo/\s.lo<=s.hi/\s.hi<=1073741824):SO Tryz.prog 204 [.cptr (AY l)] ((Ge l).map λx=>[.int .i64 x]):=by
 refine z2i QO λI hP hr=>?_;show TI I 25 ID _ _ _ _;unfold ID;refine HS (TI_v hP (by rfl) ?_);(with_reducible repeat'(first|(simp(disch:=omega)only[push_cast,↓zz,seval])|refine Aa ?_ ?_|(first|refine Ac ?_ ?_|refine Ab ?_ ?_)<;>intro hc<;>(try simp only[push_cast] at hc)|omega|intro _));refine (IE (UF (λ(t:Nat) s env H=>t<=l.length/\s=some (Ge (l.take t)).length/\∀p∈[(0,AV.yld I.l),(6,AY l),(7,AV.int .i64 l.length),(8,AV.int .i64 t)],env p.1=p.2) (λt=>l.length-t) 0 ?_ ?_):TI I 25 _ _ _ _ _)
 ·refine⟨AD _,by simp[Ge],?_⟩
  simp only[Ag,Am,A5,C8,EM];exact⟨rfl,rfl,rfl,rfl⟩
 rintro t s env H ⟨ht,rfl,hlv⟩;refine z3r (live:=[(0,AV.yld I.l),(6,AY l),(7,AV.int .i64 l.length),(8,AV.int .i64 t)]) (λp hp=>⟨hlv p hp,?_⟩) ?_
 ·simp only[Ag,Am,A5] at hp
  rcases hp with rfl|rfl|rfl|rfl<;>first|rfl|exact FC l
 refine HS (TI_v hP (by rfl) ?_);(with_reducible repeat'(first|(simp(disch:=omega)only[push_cast,↓zz,seval])|refine Aa ?_ ?_|(first|refine Ac ?_ ?_|refine Ab ?_ ?_)<;>intro hc<;>(try simp only[push_cast] at hc)|omega|intro _));refine (HS ?_:TI I 25 _ _ _ _ _);refine TI_v hP (by rfl) ?_;(with_reducible repeat'(first|(simp(disch:=omega)only[push_cast,↓zz,seval])|refine Aa ?_ ?_|(first|refine Ac ?_ ?_|refine Ab ?_ ?_)<;>intro hc<;>(try simp only[push_cast] at hc)|omega|intro _))
 ·refine (HS (IE (HS ?_)):TI I 25 _ _ _ _ _)
  refine TI_v hP (by rfl) ?_;(with_reducible repeat'(first|(simp(disch:=omega)only[push_cast,↓zz,seval])|refine Aa ?_ ?_|(first|refine Ac ?_ ?_|refine Ab ?_ ?_)<;>intro hc<;>(try simp only[push_cast] at hc)|omega|intro _));refine (HS ?_:TI I 25 _ _ _ _ _);refine TI_v hP (by rfl) ?_;(with_reducible repeat'(first|(simp(disch:=omega)only[push_cast,↓zz,seval])|refine Aa ?_ ?_|(first|refine Ac ?_ ?_|refine Ab ?_ ?_)<;>intro hc<;>(try simp only[push_cast] at hc)|omega|intro _));have hs:=hb _ (B2 (l:=l) (i:=t) (by omega))
  have hrow:∀i:Nat,(nth l t).lo+i<=(nth l t).hi->I.rows[(Ge (l.take t)).length+i]? = some [AV.int .i64 ((nth l t).lo+i)]:=λi hi=>by
   have e:Ge l=Ge (l.take t)++(Rh (nth l t).lo ((nth l t).hi+1-(nth l t).lo).toNat++Ge (l.drop (t+1))):=by
    conv=>lhs;rw[<-Ch t l,drop_at (show t<l.length by omega)]
    simp[Ge]
   rw[hr,e,Eb,AG (by omega),Nat.add_sub_cancel_left,AE (by simp[Rh];omega)];simp only[Rh,Eb];rw[List.getElem?_range (by omega)];rfl
  have hend:(Ge (l.take (t+1))).length=(Ge (l.take t)).length+((nth l t).hi+1-(nth l t).lo).toNat:=by
   rw[take_at (show t<l.length by omega)];simp[Ge,Rh]
  refine (IE (UF (λ(i:Nat) s env H=>(nth l t).lo+i<=(nth l t).hi+1/\s=some ((Ge (l.take t)).length+i)/\H=Abs.hl [⟨2,1,true,[Dl (nth l t)]⟩]/\∀p∈[(0,AV.yld I.l),(4,AV.ptr 0 1 0 0),(5,AV.int .i64 ((nth l t).lo+i)),(6,AY l),(7,AV.int .i64 l.length),(8,AV.int .i64 t)],env p.1=p.2) (λi=>((nth l t).hi+1-(nth l t).lo).toNat-i) 0 ?_ ?_):TI I 25 _ _ _ _ _)
  ·refine⟨by omega,by simp,rfl,?_⟩
   simp only[Ag,Am,A5,C8,EM];refine⟨rfl,rfl,?_,rfl,rfl,rfl⟩;show AV.int .i64 (nth l t).lo=AV.int .i64 ((nth l t).lo+(0:Nat));simp
  rintro i s env H ⟨hi,rfl,rfl,hlv2⟩;refine zl4 (live:=[(0,AV.yld I.l),(4,AV.ptr 0 1 0 0),(5,AV.int .i64 ((nth l t).lo+i)),(6,AY l),(7,AV.int .i64 l.length),(8,AV.int .i64 t)]) hlv2 ?_;refine HS ?_;refine TI_v hP (by rfl) ?_;(with_reducible repeat'(first|(simp(disch:=omega)only[push_cast,↓zz,seval])|refine Aa ?_ ?_|(first|refine Ac ?_ ?_|refine Ab ?_ ?_)<;>intro hc<;>(try simp only[push_cast] at hc)|omega|intro _))
  ·refine (HS (IE (HS ?_)):TI I 25 _ _ _ _ _)
   refine Wu (pre:=[_,_]) (post:=[_]) rfl rfl ?_;refine⟨[AV.int .i64 ((nth l t).lo+i)],rfl,?_,hrow i hc,?_,?_⟩
   ·intro x hx
    simp only[As] at hx;subst hx;exact λS v hv=>hv
   ·rw[hP,<-Lu]
    (with_reducible repeat'(first|(simp(disch:=omega)only[push_cast,↓zz,seval])|refine Aa ?_ ?_|(first|refine Ac ?_ ?_|refine Ab ?_ ?_)<;>intro hc<;>(try simp only[push_cast] at hc)|omega|intro _));refine (TI_v hP ?q1 ?_:TI I 25 _ _ _ _ _)
    case q1=>rfl
    (with_reducible repeat'(first|(simp(disch:=omega)only[push_cast,↓zz,seval])|refine Aa ?_ ?_|(first|refine Ac ?_ ?_|refine Ab ?_ ?_)<;>intro hc<;>(try simp only[push_cast] at hc)|omega|intro _));refine (TI_v hP ?q2 ?_:TI I 25 _ _ _ _ _)
    case q2=>rfl
    (with_reducible repeat'(first|(simp(disch:=omega)only[push_cast,↓zz,seval])|refine Aa ?_ ?_|(first|refine Ac ?_ ?_|refine Ab ?_ ?_)<;>intro hc<;>(try simp only[push_cast] at hc)|omega|intro _));refine⟨i+1,⟨by omega,by rw[Bu],rfl,rfl,rfl,?_,rfl,rfl,rfl⟩,by omega⟩;show AV.int .i64 ((nth l t).lo+(i:Int)+1)=AV.int .i64 ((nth l t).lo+((i+1:Nat):Int))
    all_goals first|rfl|(rw[AV.int.injEq];exact⟨rfl,by omega⟩)
   ·rw[hP,<-Lu]
    (with_reducible repeat'(first|(simp(disch:=omega)only[push_cast,↓zz,seval])|refine Aa ?_ ?_|(first|refine Ac ?_ ?_|refine Ab ?_ ?_)<;>intro hc<;>(try simp only[push_cast] at hc)|omega|intro _));refine (TI_v hP ?q3 ?_:TI I 25 _ _ _ _ _)
    case q3=>rfl
    (with_reducible repeat'(first|(simp(disch:=omega)only[push_cast,↓zz,seval])|refine Aa ?_ ?_|(first|refine Ac ?_ ?_|refine Ab ?_ ?_)<;>intro hc<;>(try simp only[push_cast] at hc)|omega|intro _));exact⟨trivial,.inr rfl⟩
  ·refine (TI_v hP ?q4 ?_:TI I 25 _ _ _ _ _)
   case q4=>rfl
   (with_reducible repeat'(first|(simp(disch:=omega)only[push_cast,↓zz,seval])|refine Aa ?_ ?_|(first|refine Ac ?_ ?_|refine Ab ?_ ?_)<;>intro hc<;>(try simp only[push_cast] at hc)|omega|intro _));refine⟨t+1,⟨by omega,?_,rfl,rfl,rfl,?_⟩,by omega⟩
   ·first|(rw[hend];congr 2;omega)|trace_state
   all_goals first|rfl|(rw[AV.int.injEq];exact⟨rfl,by omega⟩)
 ·refine⟨trivial,.inl ?_⟩
  rw[Ar (by omega)]
theorem NV(l:List Span)(hl:l.length<=1000000000000):PC Tryz.prog 197 [AY l] (.fn 204 [.cptr (AY (BI l))]):=by
 refine BV UA ?_;unfold N9;(with_reducible repeat'(first|(simp(disch:=omega)only[push_cast,↓zz,seval])|refine Aa ?_ ?_|(first|refine Ac ?_ ?_|refine Ab ?_ ?_)<;>intro hc<;>(try simp only[push_cast] at hc)|(have q_:=D8 l hl;(first|refine eK q_ ?_|refine eQ q_ ?_|refine eG q_ ?_);clear q_)|(have q_:=D8 l hl;(first|refine cK q_ ?_|refine cQ q_ ?_|refine cG q_ ?_);clear q_;(simp(disch:=omega)only[push_cast,↓zz,seval]);(fail_if_success change False))|omega|intro _))
 all_goals trace_state
def hasI(l:List Span)(x:Int):Bool:=decide (-1073741824<=x/\x<=1073741824)&&l.any λp=>decide (p.lo<=x/\x<=p.hi)
theorem Ri{α:Type}[Inhabited α]{f:α->Bool}{l:List α}{k:Nat}(h:k<l.length):(l.drop k).any f=(f (nth l k)||(l.drop (k+1)).any f):=by rw[drop_at h,List.any_cons]
theorem YQ{l:List Span}{x:Int}(h:-1073741824<=x/\x<=1073741824):hasI l x=l.any λp=>decide (p.lo<=x/\x<=p.hi):=by simp[hasI,h]
theorem z9o(l:List Span)(x:Int)(hl:l.length<=9223372036854775807):PC Tryz.prog 104 [AY l,.int .i64 x] (.bool (hasI l x)):=by
 refine BV YE ?_;unfold Pv;(with_reducible repeat'(first|(simp(disch:=omega)only[push_cast,↓zz,seval])|refine Aa ?_ ?_|(first|refine Ac ?_ ?_|refine Ab ?_ ?_)<;>intro hc<;>(try simp only[push_cast] at hc)|omega|intro _))
 all_goals first|(rw[Fz];simp[hasI];omega;done)|skip
 rw[YQ (by omega)];refine B4 (BK (λ(i:Nat)=>i<=l.length/\(l.any λp=>decide (p.lo<=x/\x<=p.hi))=(l.drop i).any λp=>decide (p.lo<=x/\x<=p.hi)) (λi=>l.length-i) (λi=>[(1,.int .i64 x),(13,AY l),(14,.int .i64 l.length),(15,.int .i64 i)]) (λ_=>[]) (λ_ _=>[]) 0 (by simp) ?_ ?_)
 ·(with_reducible repeat'(first|(simp(disch:=omega)only[push_cast,↓zz,seval])|refine Aa ?_ ?_|(first|refine Ac ?_ ?_|refine Ab ?_ ?_)<;>intro hc<;>(try simp only[push_cast] at hc)|omega|intro _))
 rintro i ⟨hi,ht⟩;refine W_T ?_;(with_reducible repeat'(first|(simp(disch:=omega)only[push_cast,↓zz,seval])|refine Aa ?_ ?_|(first|refine Ac ?_ ?_|refine Ab ?_ ?_)<;>intro hc<;>(try simp only[push_cast] at hc)|omega|intro _))
 ·rw[ht,Ri (by omega)];simp[*]
 ·exact⟨i+1,by simp,⟨by omega,by rw[ht,Ri (by omega)];simp[*]⟩,by omega⟩
 ·exact⟨i+1,by simp,⟨by omega,by rw[ht,Ri (by omega)];simp[*]⟩,by omega⟩
 ·rw[ht,A6 (by omega)];rfl
end Go.Proofs.YtbcjoeadpjfcfaaGreat
namespace Go.Proofs.YtbcjoeadpjfcfaaGreat
open Abs
def Gj(l:List Int):Prop:=l.Pairwise λa b=>a<b
structure Place(l:List Int)(x:Int)(lo hi:Nat):Prop where
 le:lo<=hi
 top:hi<=l.length
 lt:∀j,j<lo->nth l j<x
 ge:∀j,hi<=j->j<l.length->x<=nth l j
def putI(l:List Int)(x:Int):List Int:=if x∈l then l else l.takeWhile (λy=>decide (y<x))++x::l.dropWhile (λy=>decide (y<x))
theorem WX{l:List Int}{x y:Int}:y∈putI l x↔y=x\/y∈l:=by
 unfold putI;split
 ·rename_i h
  constructor
  ·exact .inr
  ·rintro (rfl|h')
   ·exact h
   ·exact h'
 ·rw[Au,Ag]
  conv=>rhs;rw[<-Dn (p:=λy=>decide (y<x)) (l:=l),Au]
  constructor
  ·rintro (h|h|h)
   ·exact .inr (.inl h)
   ·exact .inl h
   ·exact .inr (.inr h)
  ·rintro (h|h|h)
   ·exact .inr (.inl h)
   ·exact .inl h
   ·exact .inr (.inr h)
def lowI(l:List Int)(x:Int):Nat:=(l.takeWhile λy=>decide (y<x)).length
theorem z9p(l:List Int)(x:Int):l.take (lowI l x)=l.takeWhile (λy=>decide (y<x))/\l.drop (lowI l x)=l.dropWhile (λy=>decide (y<x)):=by
 have key:∀(u v:List Int),u++v=l->l.take u.length=u/\l.drop u.length=v:=λu v h=>by subst h;exact⟨List.take_left,List.drop_left⟩
 exact key _ _ (Dn (p:=λy=>decide (y<x)) (l:=l))
theorem z3s{l:List Int}(hr:Gj l)(x:Int):Place l x (lowI l x) (lowI l x):=by
 induction l with
 |nil=>exact⟨Ae _,by simp[lowI],λj hj=>by simp[lowI] at hj,λj _ hj=>by simp at hj⟩
 |cons a l ih =>
  have hr':Gj l:=(AW.1 hr).2;have hall:=(AW.1 hr).1;by_cases ha:a<x
  ·have e:lowI (a::l) x=lowI l x+1:=by simp[lowI,ha]
   have hp:=ih hr';rw[e];refine⟨Ae _,by have:=hp.top;simp;omega,λj hj=>?_,λj hj hjl=>?_⟩
   ·cases j with
    |zero=>simpa [nth] using ha
    |succ j=>have:=hp.lt j (by omega);simpa [nth] using this
   ·cases j with
    |zero=>omega
    |succ j=>have:=hp.ge j (by omega) (by simpa using hjl);simpa [nth] using this
  ·have e:lowI (a::l) x=0:=by simp[lowI,ha]
   rw[e];refine⟨Ae _,by simp,λj hj=>by omega,λj hj hjl=>?_⟩;cases j with
   |zero=>simp[nth];omega
   |succ j =>
    have hj2:j<l.length:=by simpa using hjl
    have:=hall _ (B2 hj2);have h3:nth (a::l) (j+1)=nth l j:=by simp[nth]
    rw[h3];omega
theorem NW{l:List Int}(hr:Gj l)(x:Int):Gj (putI l x):=by
 unfold putI;split
 ·exact hr
 ·rename_i hx
  have hp:=z3s hr x;obtain⟨e1,e2⟩:=z9p l x;rw[<-e1,<-e2];have ht:Gj (l.take (lowI l x)):=EZ (FO _ _) hr;have hd:Gj (l.drop (lowI l x)):=EZ (List.drop_sublist _ _) hr
  have k1:∀y∈l.take (lowI l x),y<x:=λy hy=>by
   obtain⟨j,hj,he⟩:=Bw hy;rw[List.getElem_take] at he;have hj':j<lowI l x:=by simp at hj;omega
   have hjl:j<l.length:=by simp at hj;omega
   have hn:nth l j=y:=by simp[nth,Av,Ao hjl,he]
   have:=hp.lt j hj';omega
  have k2:∀y∈l.drop (lowI l x),x<y:=λy hy=>by
   obtain⟨j,hj,he⟩:=Bw hy;rw[List.getElem_drop] at he;have hj':lowI l x+j<l.length:=by simp at hj;omega
   have hn:nth l (lowI l x+j)=y:=by simp[nth,Av,Ao hj',he]
   have:=hp.ge (lowI l x+j) (by omega) hj';have hne:y≠x:=λh=>hx (h ▸ BX hy);omega
  rw[Gj,Dt,AW];refine⟨ht,⟨k2,hd⟩,λa ha b hb=>?_⟩;rcases Ag.1 hb with rfl|hb
  ·exact k1 a ha
  ·have:=k1 a ha;have:=k2 b hb;omega
def YR(l:List Int)(s:Span):List Int:=if -1073741824<s.lo/\s.lo<=1073741824 then putI l s.lo else l
def YS(l:List Int)(s:Span):List Int:=if -1073741824<=s.hi/\s.hi<1073741824 then putI l (s.hi+1) else l
def addB(l:List Int)(s:Span):List Int:=YS (YR l s) s
def GW(a b:List Span):List Int:=b.foldl addB (a.foldl addB [-1073741824])
theorem WY(l:List Int)(x:Int):(putI l x).length<=l.length+1:=by
 unfold putI;split
 ·omega
 ·have h:=EL List.length (Dn (p:=λy=>decide (y<x)) (l:=l))
  simp only[Ak] at h;simp only[Ak,List.length_cons];omega
theorem z9q{l:List Int}(h:Gj l)(s:Span):Gj (YR l s)/\(YR l s).length<=l.length+1:=by
 unfold YR;split
 ·exact⟨NW h _,WY _ _⟩
 ·exact⟨h,by omega⟩
theorem z9r{l:List Int}(h:Gj l)(s:Span):Gj (YS l s)/\(YS l s).length<=l.length+1:=by
 unfold YS;split
 ·exact⟨NW h _,WY _ _⟩
 ·exact⟨h,by omega⟩
theorem zgs{l:List Int}(h:Gj l)(s:Span):Gj (addB l s)/\(addB l s).length<=l.length+2:=by
 obtain⟨h1,h2⟩:=z9q h s;obtain⟨h3,h4⟩:=z9r h1 s;exact⟨h3,by unfold addB;omega⟩
theorem UN:∀(s:List Span){l:List Int},Gj l->Gj (s.foldl addB l)/\(s.foldl addB l).length<=l.length+2 * s.length
 |[],l,h=>⟨h,by simp⟩
 |x::s,l,h=>by
  obtain⟨h1,h2⟩:=zgs h x;obtain⟨h3,h4⟩:=UN s h1;exact⟨h3,by simp only[List.foldl_cons,List.length_cons];omega⟩
theorem z3t{l:List Int}{s:Span}{y:Int}:y∈YR l s↔y∈l\/(y=s.lo/\-1073741824<s.lo/\s.lo<=1073741824):=by
 unfold YR;split
 ·rename_i h;rw[WX];constructor
  ·rintro (h1|h1)
   ·exact .inr ⟨h1,h⟩
   ·exact .inl h1
  ·rintro (h1|h1)
   ·exact .inr h1
   ·exact .inl h1.1
 ·rename_i h;exact⟨.inl,λh1=>h1.resolve_right λh2=>h h2.2⟩
theorem z3u{l:List Int}{s:Span}{y:Int}:y∈YS l s↔y∈l\/(y=s.hi+1/\-1073741824<=s.hi/\s.hi<1073741824):=by
 unfold YS;split
 ·rename_i h;rw[WX];constructor
  ·rintro (h1|h1)
   ·exact .inr ⟨h1,h⟩
   ·exact .inl h1
  ·rintro (h1|h1)
   ·exact .inr h1
   ·exact .inl h1.1
 ·rename_i h;exact⟨.inl,λh1=>h1.resolve_right λh2=>h h2.2⟩
def PI(s:Span)(y:Int):Prop:=(y=s.lo/\-1073741824<s.lo/\s.lo<=1073741824)\/(y=s.hi+1/\-1073741824<=s.hi/\s.hi<1073741824)
theorem NX:∀(s:List Span){l:List Int}{y:Int},y∈s.foldl addB l↔y∈l\/∃t∈s,PI t y
 |[],l,y=>by simp
 |x::s,l,y=>by
  rw[List.foldl_cons,NX s,addB,z3u,z3t];constructor
  ·rintro (((h|h)|h)|⟨t,ht,h⟩)
   ·exact .inl h
   ·exact .inr ⟨x,by simp,.inl h⟩
   ·exact .inr ⟨x,by simp,.inr h⟩
   ·exact .inr ⟨t,by simp[ht],h⟩
  ·rintro (h|⟨t,ht,h⟩)
   ·exact .inl (.inl (.inl h))
   ·rcases Ag.1 ht with rfl|ht
    ·rcases h with h|h
     ·exact .inl (.inl (.inr h))
     ·exact .inl (.inr h)
    ·exact .inr ⟨t,ht,h⟩
theorem IG{a b:List Span}{y:Int}:y∈GW a b↔y=-1073741824\/(∃t∈a,PI t y)\/∃t∈b,PI t y:=by
 rw[GW,NX,NX,As,or_assoc]
theorem Kd(a b:List Span):Gj (GW a b):=(UN b (UN a (by simp[Gj])).1).1
theorem NY{s:Span}{y:Int}(h:PI s y):-1073741824<y/\y<=1073741824:=by
 unfold PI at h;omega
theorem Ke{a b:List Span}:∀y∈GW a b,-1073741824<=y/\y<=1073741824:=λy hy=>by
 rcases IG.1 hy with rfl|⟨t,_,h⟩|⟨t,_,h⟩
 ·omega
 ·have:=NY h;omega
 ·have:=NY h;omega
theorem To(a b:List Span):∃r,GW a b=-1073741824::r:=by
 have h1:(-1073741824:Int)∈GW a b:=IG.2 (.inl rfl);have h2:=Kd a b;have h3:=Ke (a:=a) (b:=b);cases hb:GW a b with
 |nil=>rw[hb] at h1;cases h1
 |cons x r =>
  rw[hb] at h1 h2 h3;rcases Ag.1 h1 with h|h
  ·exact⟨r,by rw[h]⟩
  ·have:=(AW.1 h2).1 _ h
   have:=h3 x (by simp);omega
theorem KU{l:List Span}{x:Int}:hasI l x=true ↔ -1073741824<=x/\x<=1073741824/\memL l x:=by
 simp only[hasI,Ad,Aj,C6,memL,and_assoc]
theorem PK{s:List Span}{x v:Int}(hx:-1073741824<=x)(hxv:x<=v)(hv:v<=1073741824)(h:∀t∈s,∀y,PI t y->y<=x\/v<y):hasI s v=hasI s x:=by
 rw[Fz,KU,KU]
 have key:memL s v↔memL s x:=by
  constructor
  ·rintro⟨t,ht,h1,h2⟩
   refine⟨t,ht,?_,by omega⟩;rcases Em x t.lo with hlt|hle
   ·have:=h t ht t.lo (.inl ⟨rfl,by omega,by omega⟩);omega
   ·exact hle
  ·rintro⟨t,ht,h1,h2⟩
   refine⟨t,ht,by omega,?_⟩;rcases Em t.hi v with hlt|hle
   ·have:=h t ht (t.hi+1) (.inr ⟨rfl,by omega,by omega⟩);omega
   ·exact hle
 rw[key];constructor
 ·rintro⟨_,_,h⟩;exact⟨hx,by omega,h⟩
 ·rintro⟨_,_,h⟩;exact⟨by omega,hv,h⟩
def addS(out:List Span)(s:Span):List Span :=
 match out.getLast? with
 |some y=>if y.hi=s.lo-1 then out.dropLast++[⟨y.lo,s.hi⟩] else out++[s]
 |none=>[s]
theorem IH(x:Span):addS [] x=[x]:=rfl
theorem NZ(out:List Span)(y x:Span):addS (out++[y]) x=if y.hi=x.lo-1 then out++[⟨y.lo,x.hi⟩] else out++[y]++[x]:=by
 simp[addS]
def YT(l:List Span)(f:Int):Prop:=∀s∈l,s.hi<f
theorem YU{out:List Span}{x:Span}(h:Plain out)(hx:x.lo<=x.hi)(hb:YT out x.lo):Plain (addS out x)/\YT (addS out x) (x.hi+1)/\∀v,memL (addS out x) v↔memL out v\/(x.lo<=v/\v<=x.hi):=by
 rcases GM out with rfl|⟨m,y,rfl⟩
 ·refine⟨⟨by simp[IH,hx],by simp[IH]⟩,by simp[IH,YT];omega,λv=>?_⟩
  rw[IH,B3];constructor
  ·rintro (h|h)
   ·exact .inr h
   ·exact absurd h (Cw _)
  ·rintro (h|h)
   ·exact absurd h (Cw _)
   ·exact .inl h
 ·rw[NZ]
  obtain⟨h1,h2,h3⟩:=Ht.1 h;have hy:y.hi<x.lo:=hb y (by simp);have hm:∀s∈m,s.hi<x.lo:=λs hs=>hb s (by simp[hs]);split
  ·rename_i he
   refine⟨Ht.2 ⟨h1,by simp only;omega,λs hs=>h3 s hs⟩,?_,λv=>?_⟩
   ·intro s hs
    rcases Au.1 hs with hs|hs
    ·have:=hm s hs;omega
    ·simp only[As] at hs;subst hs;simp only;omega
   ·rw[FG,FG,B3,B3]
    simp only[Cw,A5];constructor
    ·rintro (h|h)
     ·exact .inl (.inl h)
     ·by_cases hv:v<=y.hi
      ·exact .inl (.inr ⟨h.1,hv⟩)
      ·exact .inr ⟨by omega,by omega⟩
    ·rintro ((h|h)|h)
     ·exact .inl h
     ·exact .inr ⟨h.1,by omega⟩
     ·exact .inr ⟨by omega,by omega⟩
  ·rename_i he
   refine⟨Ht.2 ⟨h,hx,λs hs=>?_⟩,?_,λv=>?_⟩
   ·rcases Au.1 hs with hs|hs
    ·have:=h3 s hs;omega
    ·simp only[As] at hs;subst hs;omega
   ·intro s hs
    rcases Au.1 hs with hs|hs
    ·have:=hb s hs;omega
    ·simp only[As] at hs;subst hs;omega
   ·rw[FG,B3]
    simp only[Cw,A5]
def toI:List Int->Int
 |[]=>1073741824
 |y::_=>y-1
def z3v(p:Int->Bool):List Int->List Span->List Span
 |[],out=>out
 |x::r,out=>z3v p r (if p x then addS out ⟨x,toI r⟩ else out)
def z9s(p:Int->Bool):List Int->Prop
 |[]=>True
 |x::r=>(∀v,x<=v->v<=toI r->p v=p x)/\z9s p r
theorem YV{l:List Span}{f g:Int}(h:YT l f)(hg:f<=g):YT l g:=λs hs=>by have:=h s hs;omega
theorem Oa(p:Int->Bool):∀(l:List Int)(out:List Span)(f:Int),Gj l->(∀x∈l,x<=1073741824)->(f=toI l+1)->z9s p l->Plain out->YT out f ->
 Plain (z3v p l out)/\∀v,memL (z3v p l out) v↔memL out v\/(f<=v/\v<=1073741824/\p v=true)
 |[],out,f,_,_,hf,_,ho,_=>⟨ho,λv=>by
  simp only[toI] at hf
  exact⟨.inl,λh=>h.resolve_right λh=>by omega⟩⟩
 |x::r,out,f,hr,hm,hf,hs,ho,ha=>by
  have hx:=hm x (by simp);have hfx:f=x:=by rw[hf,toI];omega
  subst hfx
  have hto:f<=toI r:=by
   cases r with
   |nil=>simpa [toI] using hx
   |cons y r=>have:=(AW.1 hr).1 y (by simp);simp only[toI];omega
  have hr':Gj r:=(AW.1 hr).2;rw[z3v];by_cases hp:p f=true
  ·rw[Ai hp]
   obtain⟨a1,a2,a3⟩:=YU (x:=⟨f,toI r⟩) ho hto ha;obtain⟨b1,b2⟩:=Oa p r _ (toI r+1) hr' (λy hy=>hm y (by simp[hy])) rfl hs.2 a1 a2;refine⟨b1,λv=>?_⟩;rw[b2 v,a3 v];constructor
   ·rintro ((h|h)|h)
    ·exact .inl h
    ·refine .inr ⟨h.1,?_,by rw[hs.1 v h.1 h.2];exact hp⟩
     have:toI r<=1073741824:=by
      cases r with
      |nil=>simp[toI]
      |cons y r=>have:=hm y (by simp);simp only[toI];omega
     have:=h.2;simp only at this;omega
    ·exact .inr ⟨by omega,h.2⟩
   ·rintro (h|h)
    ·exact .inl (.inl h)
    ·rcases Em (toI r) v with hlt|hle
     ·exact .inr ⟨by omega,h.2⟩
     ·exact .inl (.inr ⟨h.1,hle⟩)
  ·rw[Ah hp]
   obtain⟨b1,b2⟩:=Oa p r out (toI r+1) hr' (λy hy=>hm y (by simp[hy])) rfl hs.2 ho (YV ha (by omega));refine⟨b1,λv=>?_⟩;rw[b2 v];constructor
   ·rintro (h|h)
    ·exact .inl h
    ·exact .inr ⟨by omega,h.2⟩
   ·rintro (h|h)
    ·exact .inl h
    ·rcases Em (toI r) v with hlt|hle
     ·exact .inr ⟨by omega,h.2⟩
     ·exact absurd ((hs.1 v h.1 hle).symm.trans h.2.2) hp
theorem zco{p:Int->Bool}:∀(l pre:List Int),Gj (pre++l)->(∀x∈l,-1073741824<=x/\x<=1073741824)->(∀x v,-1073741824<=x->x<=v->v<=1073741824->(∀y∈pre++l,y<=x\/v<y)->p v=p x)->z9s p l
 |[],_,_,_,_=>trivial
 |x::r,pre,hr,hm,h=>by
  refine⟨λv h1 h2=>?_,zco r (pre++[x]) (by simpa using hr) (λy hy=>hm y (by simp[hy])) (by simpa using h)⟩;obtain⟨p1,p2,p3⟩:=Dt.1 hr;have hx:=hm x (by simp)
  have hto:toI r<=1073741824:=by
   cases r with
   |nil=>simp[toI]
   |cons y r=>have:=hm y (by simp);simp only[toI];omega
  refine h x v hx.1 h1 (by omega) λy hy=>?_;rcases Au.1 hy with hy|hy
  ·exact .inl (Int.le_of_lt (p3 y hy x (by simp)))
  ·rcases Ag.1 hy with rfl|hy
   ·exact .inl (BY _)
   ·right
    cases r with
    |nil=>cases hy
    |cons z r =>
     simp only[toI] at h2;rcases Ag.1 hy with rfl|hy
     ·omega
     ·have:=(AW.1 (AW.1 p2).2).1 y hy;omega
def howB(h:Int)(x y:Bool):Bool:=if h=2 then x&&!y else if h=1 then x&&y else x||y
def z3w(a b:List Span)(h:Int):List Span:=z3v (λv=>howB h (hasI a v) (hasI b v)) (GW a b) []
theorem PL(a b:List Span)(h:Int):Plain (z3w a b h)/\∀v,memL (z3w a b h) v ↔ -1073741824<=v/\v<=1073741824/\howB h (hasI a v) (hasI b v)=true:=by
 obtain⟨r,hr⟩:=To a b;have hbo:=Ke (a:=a) (b:=b);have hri:=Kd a b
 have hseg:z9s (λv=>howB h (hasI a v) (hasI b v)) (GW a b):=zco _ [] hri hbo λx v h1 h2 h3 h4=>by
  simp only[List.nil_append] at h4;have e1:hasI a v=hasI a x:=PK h1 h2 h3 λt ht y hy=>h4 y (IG.2 (.inr (.inl ⟨t,ht,hy⟩)));have e2:hasI b v=hasI b x:=PK h1 h2 h3 λt ht y hy=>h4 y (IG.2 (.inr (.inr ⟨t,ht,hy⟩)));simp only[e1,e2]
 obtain⟨k1,k2⟩:=Oa _ (GW a b) [] (-1073741824) hri (λx hx=>(hbo x hx).2) (by rw[hr];simp[toI]) hseg ⟨by simp,by simp⟩ (λs hs=>by cases hs);refine⟨k1,λv=>?_⟩;rw[z3w,k2 v];simp only[Cw,Bg]
theorem YW(a b:List Span):z3w a b 1=Gy (BI a) (BI b):=by
 obtain⟨a1,a2⟩:=PL a b 1;obtain⟨p1,p2⟩:=BD a;obtain⟨q1,q2⟩:=BD b;obtain⟨b1,b2⟩:=Jt _ _ p1 q1;refine Jn a1 b1 λv=>?_;rw[a2 v,b2 v,p2 v,q2 v];simp only[howB];rw[Ah (by decide),Ai trivial,Ad,KU,KU];constructor
 ·rintro⟨h1,h2,⟨_,_,h3⟩,_,_,h4⟩;exact⟨⟨h3,h1,h2⟩,h4,h1,h2⟩
 ·rintro⟨⟨h3,h1,h2⟩,h4,_,_⟩;exact⟨h1,h2,⟨h1,h2,h3⟩,h1,h2,h4⟩
theorem Tp{α:Type}{f:α->AV}{m:List α}{y z:α}:((m++[y]).map f).set m.length (f z)=(m++[z]).map f:=by simp
theorem z9t{α:Type}[Inhabited α]{m:List α}{y:α}:nth (m++[y]) m.length=y:=by simp[nth,Av]
def symI(l:List Span):List Span:=z3w l [⟨0,1114111⟩] 1
theorem PM(s:Span)(l:List Span):Ge (s::l)=Rh s.lo (s.hi+1-s.lo).toNat++Ge l:=rfl
theorem z9u(x:Int):hasI [⟨0,1114111⟩] x=decide (0<=x/\x<=1114111):=by
 simp only[hasI,List.any_cons,List.any_nil,GF];by_cases h:0<=x/\x<=1114111
 ·simp[h];omega
 ·simp[h]
theorem Ob(l:List Span):Plain (symI l)/\∀v,memL (symI l) v↔(0<=v/\v<=1114111)/\memL l v:=by
 obtain⟨h1,h2⟩:=PL l [⟨0,1114111⟩] 1;refine⟨h1,λv=>?_⟩;rw[symI,h2 v,z9u];simp only[howB];rw[Ah (by decide),Ai trivial,Ad,KU,Aj];constructor
 ·rintro⟨a,b,⟨_,_,c⟩,d⟩;exact⟨d,c⟩
 ·rintro⟨d,c⟩;exact⟨by omega,by omega,⟨by omega,by omega,c⟩,d⟩
def Syms(l:List Span):Prop:=Plain l/\∀s∈l,0<=s.lo/\s.lo<=s.hi/\s.hi<=1114111
theorem UO{l:List Span}(h1:Plain l)(h2:∀v,memL l v->0<=v/\v<=1114111):Syms l :=
 ⟨h1,λs hs=>by
  have hle:=h1.1 s hs;have:=h2 s.lo ⟨s,hs,BY _,hle⟩;have:=h2 s.hi ⟨s,hs,hle,BY _⟩
  omega⟩
theorem Tq(l:List Span):Syms (symI l):=UO (Ob l).1 λv hv=>(((Ob l).2 v).1 hv).1
theorem WZ:∀{l:List Span}{f:Nat},Plain l->(∀s∈l,(f:Int)<=s.lo/\s.hi<=1114111)->f<=1114112->l.length+f<=1114112
 |[],f,_,_,hf=>by simpa using hf
 |s::l,f,h,hb,hf=>by
  have h1:=hb s (by simp);have h2:=h.head
  have:=WZ (l:=l) (f:=(s.hi+1).toNat) h.tail (λt ht=>by
   have:=(AW.1 h.2).1 t ht;have:=hb t (by simp[ht])
   omega) (by omega)
  simp only[List.length_cons];omega
theorem Syms.len{l:List Span}(h:Syms l):l.length<=1114112:=by
 have:=WZ (f:=0) h.1 (λs hs=>by have:=h.2 s hs;simp only[Int.ofNat_zero];omega) (by omega);omega
theorem Tr:PC Tryz.prog 195 [] (AY [⟨0,1114111⟩]):=by
 refine BV OR ?_;unfold Kc;(with_reducible repeat'(first|(simp(disch:=omega)only[push_cast,↓zz,seval])|refine Aa ?_ ?_|(first|refine Ac ?_ ?_|refine Ab ?_ ?_)<;>intro hc<;>(try simp only[push_cast] at hc)|omega|intro _))
def Ts(l:List Span):Option Int:=match l with
 |[]=>none
 |s::_=>some s.lo
def UP(l:List Span):Option Int:=l.getLast?.map (·.hi)
abbrev optI(o:Option Int):AV:=.tup [.int .i64 (o.getD 0),.bool o.isSome]
theorem C5(l:List Span)(hl:l.length<=1000000000000):PC Tryz.prog 202 [AY l] (optI (Ts (BI l))):=by
 refine BV SN ?_;unfold Mq;(with_reducible repeat'(first|(simp(disch:=omega)only[push_cast,↓zz,seval])|refine Aa ?_ ?_|(first|refine Ac ?_ ?_|refine Ab ?_ ?_)<;>intro hc<;>(try simp only[push_cast] at hc)|(have q_:=D8 l hl;(first|refine eK q_ ?_|refine eQ q_ ?_|refine eG q_ ?_);clear q_)|(have q_:=D8 l hl;(first|refine cK q_ ?_|refine cQ q_ ?_|refine cG q_ ?_);clear q_;(simp(disch:=omega)only[push_cast,↓zz,seval]);(fail_if_success change False))|omega|intro _))
 ·have h0:BI l=[]:=Az (by omega)
  rw[h0];(repeat'(first|(simp(disch:=omega)only[push_cast,↓zz,seval,Du,Ts,Option.getD_none,Option.isSome_none])|omega|(with_reducible refine Aa ?_ ?_)))
 ·cases hn:BI l with
  |nil=>exact absurd (by rw[hn];rfl) hc
  |cons s r =>
   (repeat'(first|(simp(disch:=omega)only[push_cast,↓zz,seval,Du,Ts,Option.getD_some,Option.isSome_some])|omega|(with_reducible refine Aa ?_ ?_)))
   all_goals simp[nth]
theorem CO(l:List Span)(hl:l.length<=1000000000000):PC Tryz.prog 203 [AY l] (optI (UP (BI l))):=by
 refine BV UC ?_;unfold NC;have hn:=FV l;(with_reducible repeat'(first|(simp(disch:=omega)only[push_cast,↓zz,seval])|refine Aa ?_ ?_|(first|refine Ac ?_ ?_|refine Ab ?_ ?_)<;>intro hc<;>(try simp only[push_cast] at hc)|(have q_:=D8 l hl;(first|refine eK q_ ?_|refine eQ q_ ?_|refine eG q_ ?_);clear q_)|(have q_:=D8 l hl;(first|refine cK q_ ?_|refine cQ q_ ?_|refine cG q_ ?_);clear q_;(simp(disch:=omega)only[push_cast,↓zz,seval]);(fail_if_success change False))|omega|intro _))
 ·have h0:BI l=[]:=Az (by omega)
  rw[h0];(repeat'(first|(simp(disch:=omega)only[push_cast,↓zz,seval,Du,UP,List.getLast?_nil,Option.map_none,Option.getD_none,Option.isSome_none])|omega|(with_reducible refine Aa ?_ ?_)))
 ·rcases GM (BI l) with h0|⟨m,z,h0⟩
  ·exact absurd (by rw[h0];rfl) hc
  ·have e:((BI l).length:Int)-1=(m.length:Int):=by rw[h0];simp
   have e2:nth (BI l) m.length=z:=by rw[h0];simp[nth,Av]
   rw[show UP (BI l)=some z.hi by rw[h0];simp[UP]];(repeat'(first|(simp(disch:=omega)only[push_cast,↓zz,seval,Du,Option.getD_some,Option.isSome_some,e,e2])|omega|(with_reducible refine Aa ?_ ?_)))
   all_goals (rw[show (BI l).length-1=m.length by rw[h0];simp];rw[e2])
def Hd(d:Int)(s:Span):Span:=⟨s.lo+d,s.hi+d⟩
def M7(l:List Span)(d:Int):List Span:=if d < -2147483648\/2147483648<d then [] else BI ((BI l).map (Hd d))
def midM(d:Int)(l rest:List Span)(k:Nat):List Span:=(l.take k).map (Hd d)++(l.drop k++rest)
theorem z3x(d:Int)(l rest:List Span):midM d l rest 0=l++rest:=by simp[midM]
theorem z9v(d:Int)(l rest:List Span):midM d l rest l.length=l.map (Hd d)++rest:=by simp[midM]
theorem z9w(d:Int)(l rest:List Span)(k:Nat)(h:k<=l.length):(midM d l rest k).length=l.length+rest.length:=by simp[midM];omega
theorem zgt{d:Int}{l rest:List Span}{k:Nat}(h:k<l.length):nth (midM d l rest k) k=nth l k:=by
 rw[midM,drop_at h,nth,Av,AG (by simp;omega)];simp[show min k l.length=k by omega]
theorem z9x{d:Int}{l rest:List Span}{k:Nat}(h:k<l.length):((midM d l rest k).map Dl).set k (Dl ⟨(nth l k).lo+d,(nth l k).hi+d⟩)=(midM d l rest (k+1)).map Dl:=by
 rw[midM,midM,take_at h,drop_at h,<-List.map_set];congr 1;rw[Fa _ _ (by simp;omega),show k-(List.map (Hd d) (List.take k l)).length=0 by simp;omega];simp[Hd]
theorem z3y(l:List Span)(d:Int)(hl:l.length<=1000000000000):PC Tryz.prog 186 [AY l,.int .i64 d] (AY (M7 l d)):=by
 refine BV U9 ?_;unfold N8;have hw:IntKind.i64.wrap d=IntKind.i64.wrap d:=rfl;have hz:(d < -2147483648\/2147483648<d)->M7 l d=[]:=λh=>by rw[M7,Ai h]
 (with_reducible repeat'(first|(simp(disch:=omega)only[push_cast,↓zz,seval])|refine Aa ?_ ?_|(first|refine Ac ?_ ?_|refine Ab ?_ ?_)<;>intro hc<;>(try simp only[push_cast] at hc)|omega|intro _))
 all_goals first|exact hz (by omega)|skip
 ·refine SP (l:=[]) [] (LC l hl) (by rfl) rfl (by simp) (by simp) (by simp[ltL,ltV]) (by simp) ?_
  rintro y H' ⟨rest,rfl,rfl⟩;refine⟨_,rfl,by simp,?_⟩;have hn:=FV l;have hbd:=Gz l;have hmv:M7 l d=BI ((BI l).map (Hd d)):=by rw[M7,Ah (by omega)]
  rw[hmv];generalize BI l=m at *;(with_reducible repeat'(first|(simp(disch:=omega)only[push_cast,↓zz,seval])|refine Aa ?_ ?_|(first|refine Ac ?_ ?_|refine Ab ?_ ?_)<;>intro hc<;>(try simp only[push_cast] at hc)|omega|intro _));refine B4 (BK (λ(k:Nat)=>k<=m.length) (λk=>m.length-k) (λk=>[(1,.int .i64 d),(5,.ref 0 1 0 m.length),(16,.int .i64 m.length),(17,.int .i64 k)]) (λk=>[⟨2,1,true,(midM d m rest k).map Dl⟩]) (λenv _=>[C0 2 (env 5)]) 0 (by simp) ?_ ?_)
  ·(with_reducible repeat'(first|(simp(disch:=omega)only[push_cast,↓zz,seval,z3x])|refine Aa ?_ ?_|(first|refine Ac ?_ ?_|refine Ab ?_ ?_)<;>intro hc<;>(try simp only[push_cast] at hc)|omega|intro _))
  intro k hk;have hlen:=z9w d m rest k hk;rcases An k m.length with hkm|hkm
  ·have ha:=zgt (d:=d) (rest:=rest) hkm
   have hs:=z9x (d:=d) (rest:=rest) hkm;have hx:=hbd _ (B2 hkm)
   have hgs:∀v,(((midM d m rest k).map Dl).set k v).getD k .any=v:=λv=>by
    rw[Av,EF (by simp[hlen];omega)];rfl
   refine W_T ?_;(with_reducible repeat'(first|(simp(disch:=omega)only[push_cast,↓zz,seval,hlen,ha,hgs,List.set_set,hs])|refine Aa ?_ ?_|(first|refine Ac ?_ ?_|refine Ab ?_ ?_)<;>intro hc<;>(try simp only[push_cast] at hc)|omega|intro _));exact⟨k+1,⟨by simp,Ck _ _⟩,by omega,by omega⟩
  ·obtain rfl:k=m.length:=by omega
   rw[z9v];have ht:List.take m.length ((m.map (Hd d)).map Dl++rest.map Dl)=(m.map (Hd d)).map Dl:=DL (by simp);have hmm:=D8 (m.map (Hd d)) (by simp;omega);refine W_T ?_;(with_reducible repeat'(first|(simp(disch:=omega)only[push_cast,↓zz,seval,ht,EP])|refine Aa ?_ ?_|(first|refine Ac ?_ ?_|refine Ab ?_ ?_)<;>intro hc<;>(try simp only[push_cast] at hc)|refine eK hmm ?_|refine eQ hmm ?_|refine eG hmm ?_|((first|refine cK hmm ?_|refine cQ hmm ?_|refine cG hmm ?_);(simp(disch:=omega)only[push_cast,↓zz,seval,ht,EP]);(fail_if_success change False))|omega|intro _))
   all_goals trace_state
theorem Oc(l:List Int):∀r∈l.map (λx=>[AV.int .i64 x]),∀x∈r,Flat x:=λr hr x hx=>by
 obtain⟨y,_,rfl⟩:=Aq.1 hr;simp only[As] at hx;subst hx;exact λS=>rfl
theorem Rj(l:List Int):∀r∈l.map (λx=>[AV.int .i64 x]),r.length=1:=λr hr=>by
 obtain⟨y,_,rfl⟩:=Aq.1 hr;rfl
theorem z3z{l:List Int}{k:Nat}{row:List AV}(h:(l.map λx=>[AV.int .i64 x])[k]? = some row):k<l.length/\row=[.int .i64 (nth l k)]:=by
 obtain⟨hk,he⟩:=Bq.1 h;have hk':k<l.length:=by simpa using hk
 refine⟨hk',?_⟩;rw[<-he];simp[nth,Av,Ao hk']
theorem Xa:∀{l:List Span}{f:Nat},Plain l->(∀s∈l,(f:Int)<=s.lo/\s.hi<=1114111)->f<=1114112->(Ge l).length+f<=1114112
 |[],f,_,_,hf=>by simpa [Ge] using hf
 |s::l,f,h,hb,hf=>by
  have h1:=hb s (by simp);have h2:=h.head
  have:=Xa (l:=l) (f:=(s.hi+1).toNat) h.tail (λt ht=>by
   have:=(AW.1 h.2).1 t ht;have:=hb t (by simp[ht])
   omega) (by omega)
  rw[PM,Ak];simp only[Rh,AM,CU];omega
theorem Syms.nums{l:List Span}(h:Syms l):(Ge l).length<=1114112:=by
 have:=Xa (f:=0) h.1 (λs hs=>by have:=h.2 s hs;simp only[Int.ofNat_zero];omega) (by omega);omega
theorem IJ:∀{l:List Span}{x:Int},x∈Ge l↔memL l x
 |[],x=>by simp[Ge,memL]
 |s::l,x=>by
  rw[PM,Au,B3,IJ]
  have:x∈Rh s.lo (s.hi+1-s.lo).toNat↔s.lo<=x/\x<=s.hi:=by
   simp only[Rh,Aq,Bo];constructor
   ·rintro⟨i,h1,rfl⟩;omega
   ·intro h;exact⟨(x-s.lo).toNat,by omega,by omega⟩
  rw[this]
theorem Syms.mem{l:List Span}(h:Syms l){x:Int}(hx:memL l x):0<=x/\x<=1114111:=by
 obtain⟨s,hs,h1,h2⟩:=hx;have:=h.2 s hs;omega
abbrev oneS(x:Int):Span:=⟨x,x⟩
def allS(n:Nat):List Span:=[⟨0,2 ^ n-1⟩]
theorem Od{l:List Span}(h:Plain l)(hb:∀s∈l,-1073741824<=s.lo/\s.hi<=1073741824):BI l=l:=by
 obtain⟨h1,h2⟩:=BD l;refine Jn h1 h λx=>?_;rw[h2 x];constructor
 ·exact λhh=>hh.1
 ·rintro⟨s,hs,k1,k2⟩
  have:=hb s hs;exact⟨⟨s,hs,k1,k2⟩,by omega,by omega⟩
theorem UQ{x:Int}{n:Nat}(hn:n<=21)(hx:0<=x/\x<=4194304):IntKind.i64.wrap (x * 2 ^ min n IntKind.i64.bits)=x * 2 ^ n:=by
 rw[show min n IntKind.i64.bits=n from CW (show n<=64 by omega)];have h:=M6 n hn;have h1:x * 2 ^ n<=4194304 * 2097152:=Int.mul_le_mul hx.2 h.2 (by omega) (by omega);have h2:0<=x * 2 ^ n:=FD hx.1 (by omega);exact IntWalk.i64_in _ (by omega)
def imgS(d t:Nat)(s:Span):List Span :=
 if s.lo / 2 ^ d % 2 ^ t<=s.hi / 2 ^ d % 2 ^ t then [⟨s.lo / 2 ^ d % 2 ^ t,s.hi / 2 ^ d % 2 ^ t⟩] else [⟨0,s.hi / 2 ^ d % 2 ^ t⟩,⟨s.lo / 2 ^ d % 2 ^ t,2 ^ t-1⟩]
def imgF(d t:Nat):List Span->List Span->List Span
 |[],out=>out
 |s::l,out=>if 2 ^ t-1<=s.hi / 2 ^ d-s.lo / 2 ^ d then allS t else imgF d t l (out++imgS d t s)
def topS:List Span:=[⟨0,2097151⟩]
def imgL(p:Part)(s:List Span):List Span :=
 if GN p=false then [] else
  if p.up=0 then BI (imgF p.drop.toNat p.take.toNat (Gy (BI s) (BI topS)) []) else
   BI ((Ge (BI (BI (imgF p.drop.toNat p.take.toNat (Gy (BI s) (BI topS)) [])))).map λx=>oneS (x * 2 ^ p.up.toNat))
theorem Rk:∀(a b:List Span),(Gy a b).length<=a.length+b.length
 |[],b=>by rw[Ic];simp
 |x::a,[]=>by rw[H9];simp
 |x::a,y::b=>by
  rw[LD];have h1:=Rk a (y::b);have h2:=Rk (x::a) b;simp only[Ak,List.length_cons] at *;split<;>split<;>simp<;>omega
termination_by a b=>a.length+b.length
theorem Xb(s:List Span):Plain (Gy (BI s) (BI topS))/\(∀t∈Gy (BI s) (BI topS),0<=t.lo/\t.lo<=t.hi/\t.hi<=2097151)/\∀v,memL (Gy (BI s) (BI topS)) v↔memL s v/\0<=v/\v<=2097151:=by
 obtain⟨p1,p2⟩:=BD s;obtain⟨q1,q2⟩:=BD topS;obtain⟨b1,b2⟩:=Jt _ _ p1 q1
 have key:∀v,memL (Gy (BI s) (BI topS)) v↔memL s v/\0<=v/\v<=2097151:=λv=>by
  rw[b2 v,p2 v,q2 v,topS,B3];simp only[Cw,A5];constructor
  ·rintro⟨⟨h1,_⟩,h2,_⟩;exact⟨h1,h2⟩
  ·rintro⟨h1,h2⟩;exact⟨⟨h1,by omega⟩,h2,by omega⟩
 refine⟨b1,λt ht=>?_,key⟩;have hle:=b1.1 t ht;have k1:=((key t.lo).1 ⟨t,ht,BY _,hle⟩).2;have k2:=((key t.hi).1 ⟨t,ht,hle,BY _⟩).2;omega
theorem z9y{x:Int}{t:Nat}(ht:t<=21)(hx:0<=x/\x<=2097151):JS .and .i64 x (2 ^ t-1)=x % 2 ^ t:=by
 have h:=M6 t ht;have m0:=Cc x (b:=2 ^ t) (by omega);have m1:=BL x (b:=2 ^ t) (by omega);exact z08 t ⟨hx.1,by show _<(2:Int) ^ 64;omega⟩ (by show _<=64;omega) (IntWalk.i64_in _ (by omega))
theorem zgu{x:Int}{d:Nat}(hd:d<=21):x.fdiv (2 ^ min d IntKind.i64.bits)=x / 2 ^ d:=by
 rw[show min d IntKind.i64.bits=d from CW (show d<=64 by omega)];have:=M6 d hd;exact z07 _ _ (by omega)
theorem z40{x:Int}{d:Nat}(hd:d<=21)(hx:0<=x/\x<=2097151):0<=x / 2 ^ d/\x / 2 ^ d<=2097151:=by
 have:=M6 d hd;have q0:0<=x / 2 ^ d:=Gt hx.1 (by omega);have q1:x / 2 ^ d<=x:=Int.ediv_le_self _ hx.1;omega
theorem PN(p:Part)(s:List Span)(hs:s.length<=10000000000):PC Tryz.prog 187 [DO p,AY s] (AY (imgL p s)):=by
 have hM:=NS s topS (by omega) (by simp[topS]);obtain⟨mp,mb,mm⟩:=Xb s
 have hml:(Gy (BI s) (BI topS)).length<=10000000001:=by
  have h1:=Rk (BI s) (BI topS);have h2:=FV s;have h3:=FV topS;have h4:topS.length=1:=rfl;omega
 cases hb:GN p with
 |false =>
  have hB:=Iy p;rw[hb] at hB;refine BV Mo ?_;unfold Jl;(with_reducible repeat'(first|(simp(disch:=omega)only[push_cast,↓zz,seval])|refine Aa ?_ ?_|(first|refine Ac ?_ ?_|refine Ab ?_ ?_)<;>intro hc<;>(try simp only[push_cast] at hc)|refine eK hB ?_|refine eQ hB ?_|refine eG hB ?_|((first|refine cK hB ?_|refine cQ hB ?_|refine cG hB ?_);(simp(disch:=omega)only[push_cast,↓zz,seval]);(fail_if_success change False))|omega|intro _))
  all_goals (rw[imgL,Ai hb])
 |true =>
 have hB:=Iy p;rw[hb] at hB;have hbi:=KR.1 hb;have ht:=M6 p.take.toNat (by omega);have hw1:IntKind.i64.wrap (1 * 2 ^ min p.take.toNat IntKind.i64.bits)=2 ^ p.take.toNat:=by rw[UQ (by omega) (by omega)];omega
 have hw2:IntKind.i64.wrap (2 ^ p.take.toNat-1)=2 ^ p.take.toNat-1:=IntWalk.i64_in _ (by omega);refine BV Mo ?_;unfold Jl;(with_reducible repeat'(first|(simp(disch:=omega)only[push_cast,↓zz,seval,hw1,hw2,topS,AY,Dl,BB,BF,EP])|refine Aa ?_ ?_|(first|refine Ac ?_ ?_|refine Ab ?_ ?_)<;>intro hc<;>(try simp only[push_cast] at hc)|refine eK hB ?_|refine eQ hB ?_|refine eG hB ?_|refine eK hM ?_|refine eQ hM ?_|refine eG hM ?_|((first|refine cK hB ?_|refine cQ hB ?_|refine cG hB ?_|refine cK hM ?_|refine cQ hM ?_|refine cG hM ?_);(simp(disch:=omega)only[push_cast,↓zz,seval,hw1,hw2,topS,AY,Dl,BB,BF,EP]);(fail_if_success change False))|omega|intro _));have hI:imgL p s=if p.up=0 then BI (imgF p.drop.toNat p.take.toNat (Gy (BI s) (BI topS)) []) else BI ((Ge (BI (BI (imgF p.drop.toNat p.take.toNat (Gy (BI s) (BI topS)) [])))).map λx=>oneS (x * 2 ^ p.up.toNat)):=by rw[imgL,Ah (by simp[hb])]
 have hTS:[(⟨0,2097151⟩:Span)]=topS:=rfl;rw[hTS,hI];generalize Gy (BI s) (BI topS)=m at *;have hd:=M6 p.drop.toNat (by omega)
 have hsh:∀x:Int,0<=x/\x<=2097151->x.fdiv (2 ^ min p.drop.toNat IntKind.i64.bits)=x / 2 ^ p.drop.toNat/\(0<=x / 2 ^ p.drop.toNat/\x / 2 ^ p.drop.toNat<=2097151)/\JS .and .i64 (x / 2 ^ p.drop.toNat) (2 ^ p.take.toNat-1)=x / 2 ^ p.drop.toNat % 2 ^ p.take.toNat:=λx hx =>
  ⟨zgu (by omega),z40 (by omega) hx,z9y (by omega) (z40 (by omega) hx)⟩
 refine B4 (BK (λ(s:Nat × List Span)=>s.1<=m.length/\s.2.length<=2 * s.1/\(∀t∈s.2,0<=t.lo/\t.hi<=2 ^ p.take.toNat-1)/\imgF p.drop.toNat p.take.toNat m []=imgF p.drop.toNat p.take.toNat (m.drop s.1) s.2) (λs=>m.length-s.1)
  (λs=>[(2,.ptr 0 1 0 0),(5,.int .i64 (2 ^ p.take.toNat-1)),(6,.ref 1 1 0 s.2.length),(23,AY m),(24,.int .i64 m.length),(25,.int .i64 s.1)]) (λs=>[⟨4,1,true,[DO p]⟩,⟨2,1,false,s.2.map Dl⟩]) (λenv _=>[C0 4 (env 2),C0 2 (env 6)]) (0,[]) ⟨by simp,by simp,by simp,by simp⟩ ?_ ?_)
 ·(with_reducible repeat'(first|(simp(disch:=omega)only[push_cast,↓zz,seval])|refine Aa ?_ ?_|(first|refine Ac ?_ ?_|refine Ab ?_ ?_)<;>intro hc<;>(try simp only[push_cast] at hc)|omega|intro _))
 rintro⟨k,out⟩ ⟨h1,h2,h2b,h3⟩;simp only at h1 h2 h2b h3;rcases An k m.length with hk|hk
 ·have hx:=mb _ (B2 hk)
  rw[drop_at hk,imgF,imgS] at h3;obtain⟨a1,a2,a3⟩:=hsh (nth m k).lo (by omega);obtain⟨b1,b2,b3⟩:=hsh (nth m k).hi (by omega);generalize (nth m k).lo / 2 ^ p.drop.toNat=u at *;generalize (nth m k).hi / 2 ^ p.drop.toNat=v at *;have hbk:2 ^ p.take.toNat-1<=v-u->imgF p.drop.toNat p.take.toNat m []=allS p.take.toNat:=λh=>by rw[h3,Ai h]
  have hN:=D8 (allS p.take.toNat) (by simp[allS]);have hEa:=NV (BI (allS p.take.toNat)) (by have:=FV (allS p.take.toNat);simp[allS] at this;simp[allS];omega);refine W_T ?_;(with_reducible repeat'(first|(simp(disch:=omega)only[push_cast,↓zz,seval,a1,a3,b1,b3,allS,AY,Dl,BB,BF,EP])|refine Aa ?_ ?_|(first|refine Ac ?_ ?_|refine Ab ?_ ?_)<;>intro hc<;>(try simp only[push_cast] at hc)|refine eK hN ?_|refine eQ hN ?_|refine eG hN ?_|refine eK hEa ?_|refine eQ hEa ?_|refine eG hEa ?_|((first|refine cK hN ?_|refine cQ hN ?_|refine cG hN ?_|refine cK hEa ?_|refine cQ hEa ?_|refine cG hEa ?_);(simp(disch:=omega)only[push_cast,↓zz,seval,a1,a3,b1,b3,allS,AY,Dl,BB,BF,EP]);(fail_if_success change False))|omega|intro _))
  ·rw[hbk (by assumption),Ai (by assumption)];rfl
  ·rw[hbk (by assumption),Ah (by assumption)]
   have hal:allS p.take.toNat=[⟨0,2 ^ p.take.toNat-1⟩]:=rfl;rw[hal];have h2c:∀t∈[(⟨0,2 ^ p.take.toNat-1⟩:Span)],0<=t.lo/\t.hi<=2 ^ p.take.toNat-1:=by simp
   have hu:p.take<=6:=by omega
   have h64:(2:Int) ^ p.take.toNat<=64:=by
    have e:=Cx (n:=2) (by decide) (show p.take.toNat<=6 by omega);have e2:((2 ^ p.take.toNat:Nat):Int)=2 ^ p.take.toNat:=by simp
    omega
   have hmm:∀v,memL (BI [⟨0,2 ^ p.take.toNat-1⟩]) v->0<=v/\v<=2 ^ p.take.toNat-1:=λv hv=>by
    obtain⟨t,ht1,ht2,ht3⟩:=(((BD _).2 v).1 hv).1;have:=h2c t ht1;omega
   have hsy:Syms (BI [⟨0,2 ^ p.take.toNat-1⟩]):=UO (BD _).1 λv hv=>by have:=hmm v hv;omega
   have hNN:BI (BI [⟨0,2 ^ p.take.toNat-1⟩])=BI [⟨0,2 ^ p.take.toNat-1⟩]:=Od (BD _).1 λs hs=>by have:=hsy.2 s hs;omega
   rw[hNN];have hit:=NU (BI [⟨0,2 ^ p.take.toNat-1⟩]) (by have:=hsy.len;omega) (by intro s hs;have:=hsy.2 s hs;omega);have hln:=hsy.nums;have hmem:∀k,k<(Ge (BI [⟨0,2 ^ p.take.toNat-1⟩])).length->0<=nth (Ge (BI [⟨0,2 ^ p.take.toNat-1⟩])) k/\nth (Ge (BI [⟨0,2 ^ p.take.toNat-1⟩])) k<=63:=λk hk=>by have:=hmm _ (IJ.1 (B2 hk));omega
   generalize BI [⟨0,2 ^ p.take.toNat-1⟩]=M at *;generalize Ge M=l at *
   refine QQ (Wr (σ:=Nat × List Span) (λk s=>s.2=(l.take k).map (λx=>oneS (x * 2 ^ p.up.toNat))/\s.2.length<=k) [(2,.ptr 0 1 0 0),(11,.ptr 1 1 0 0),(84,.fn 204 [.cptr (AY M)])] (λs=>[⟨4,1,true,[DO p]⟩,⟨1,1,true,[.ref 2 s.1 0 s.2.length]⟩,⟨2,s.1,false,s.2.map Dl⟩])
    [.grp 0,.grp 4,.virt 2] 3 (1,[]) hit ?_ (λ_=>rfl) rfl ?_ rfl rfl (Oc _) (Rj _) (by simp) ⟨by simp,by simp⟩ ?_ ?_)
   ·(with_reducible repeat'(first|(simp(disch:=omega)only[push_cast,↓zz,seval,hNN])|refine Aa ?_ ?_|(first|refine Ac ?_ ?_|refine Ab ?_ ?_)<;>intro hc<;>(try simp only[push_cast] at hc)|omega|intro _))
   ·(with_reducible repeat'(first|(simp(disch:=omega)only[push_cast,↓zz,seval])|refine Aa ?_ ?_|(first|refine Ac ?_ ?_|refine Ab ?_ ?_)<;>intro hc<;>(try simp only[push_cast] at hc)|omega|intro _))
   ·rintro k row ⟨v,o⟩ hrow ⟨h1,h2⟩
    simp only at h1 h2;obtain⟨hk,rfl⟩:=z3z hrow;have hxb:=hmem k hk;have hw3:=UQ (x:=nth l k) (n:=p.up.toNat) (by omega) (by omega)
    have hstep:(l.take (k+1)).map (λx=>oneS (x * 2 ^ p.up.toNat))=o++[oneS (nth l k * 2 ^ p.up.toNat)]:=by
     rw[take_at hk,A9,<-h1];rfl
    generalize nth l k=x at *;refine W_T ?_;(with_reducible repeat'(first|(simp(disch:=omega)only[push_cast,↓zz,seval])|refine Aa ?_ ?_|(first|refine Ac ?_ ?_|refine Ab ?_ ?_)<;>intro hc<;>(try simp only[push_cast] at hc)|omega|intro _));refine W_T ?_;(with_reducible repeat'(first|(simp(disch:=omega)only[push_cast,↓zz,seval,hw3])|refine Aa ?_ ?_|(first|refine Ac ?_ ?_|refine Ab ?_ ?_)<;>intro hc<;>(try simp only[push_cast] at hc)|omega|intro _));exact⟨(v+1,o++[oneS (x * 2 ^ p.up.toNat)]),⟨⟨rfl,by simp⟩,rfl,by rw[A9];exact Ck _ _⟩,hstep.symm,by simp;omega⟩
   ·rintro⟨v,o⟩ ⟨h1,h2⟩
    simp only[AM] at h1 h2;rw[AH] at h1;rw[<-h1];have hN2:=D8 o (by omega);(with_reducible repeat'(first|(simp(disch:=omega)only[push_cast,↓zz,seval,EP])|refine Aa ?_ ?_|(first|refine Ac ?_ ?_|refine Ab ?_ ?_)<;>intro hc<;>(try simp only[push_cast] at hc)|refine eK hN2 ?_|refine eQ hN2 ?_|refine eG hN2 ?_|((first|refine cK hN2 ?_|refine cQ hN2 ?_|refine cG hN2 ?_);(simp(disch:=omega)only[push_cast,↓zz,seval,EP]);(fail_if_success change False))|omega|intro _))
  all_goals rw[Ah (by assumption)] at h3
  ·rw[Ai (by assumption)] at h3
   exact⟨(k+1,out++[⟨u % 2 ^ p.take.toNat,v % 2 ^ p.take.toNat⟩]),⟨⟨by simp,by simp⟩,by rw[A9];exact Ck _ _⟩,⟨by simp only;omega,by simp;omega,λt ht=>by
    rcases Au.1 ht with ht|ht
    ·exact h2b t ht
    ·simp only[As] at ht
     subst ht;have m0:=Cc u (b:=2 ^ p.take.toNat) (by omega);have m1:=BL v (b:=2 ^ p.take.toNat) (by omega)
     exact⟨m0,by simp only;omega⟩,h3⟩,by simp only;omega⟩
  ·rw[Ah (by assumption)] at h3
   exact⟨(k+1,out++[⟨0,v % 2 ^ p.take.toNat⟩,⟨u % 2 ^ p.take.toNat,2 ^ p.take.toNat-1⟩]),⟨⟨by simp,by simp⟩,by rw[A9];exact Ck _ _⟩,⟨by simp only;omega,by simp;omega,λt ht=>by
    rcases Au.1 ht with ht|ht
    ·exact h2b t ht
    ·have m0:=Cc u (b:=2 ^ p.take.toNat) (by omega)
     have m1:=BL v (b:=2 ^ p.take.toNat) (by omega);simp only[Ag,Am,A5] at ht;rcases ht with rfl|rfl
     ·exact⟨BY _,by simp only;omega⟩
     ·exact⟨m0,BY _⟩,h3⟩,by simp only;omega⟩
 ·rw[A6 hk,imgF] at h3
  rw[h3];have hN:=D8 out (by omega);have hEa:=NV (BI out) (by have:=FV out;omega);refine W_T ?_;(with_reducible repeat'(first|(simp(disch:=omega)only[push_cast,↓zz,seval])|refine Aa ?_ ?_|(first|refine Ac ?_ ?_|refine Ab ?_ ?_)<;>intro hc<;>(try simp only[push_cast] at hc)|refine eK hN ?_|refine eQ hN ?_|refine eG hN ?_|refine eK hEa ?_|refine eQ hEa ?_|refine eG hEa ?_|((first|refine cK hN ?_|refine cQ hN ?_|refine cG hN ?_|refine cK hEa ?_|refine cQ hEa ?_|refine cG hEa ?_);(simp(disch:=omega)only[push_cast,↓zz,seval]);(fail_if_success change False))|omega|intro _))
  ·rw[Ai (by assumption)]
  ·rw[Ah (by assumption)]
   have hu:p.take<=6:=by omega
   have h64:(2:Int) ^ p.take.toNat<=64:=by
    have e:=Cx (n:=2) (by decide) (show p.take.toNat<=6 by omega);have e2:((2 ^ p.take.toNat:Nat):Int)=2 ^ p.take.toNat:=by simp
    omega
   have hmm:∀v,memL (BI out) v->0<=v/\v<=2 ^ p.take.toNat-1:=λv hv=>by
    obtain⟨t,ht1,ht2,ht3⟩:=(((BD _).2 v).1 hv).1;have:=h2b t ht1;omega
   have hsy:Syms (BI out):=UO (BD _).1 λv hv=>by have:=hmm v hv;omega
   have hNN:BI (BI out)=BI out:=Od (BD _).1 λs hs=>by have:=hsy.2 s hs;omega
   rw[hNN];have hit:=NU (BI out) (by have:=hsy.len;omega) (by intro s hs;have:=hsy.2 s hs;omega);have hln:=hsy.nums;have hmem:∀k,k<(Ge (BI out)).length->0<=nth (Ge (BI out)) k/\nth (Ge (BI out)) k<=63:=λk hk=>by have:=hmm _ (IJ.1 (B2 hk));omega
   generalize BI out=M at *;generalize Ge M=l at *
   refine QQ (Wr (σ:=Nat × List Span) (λk s=>s.2=(l.take k).map (λx=>oneS (x * 2 ^ p.up.toNat))/\s.2.length<=k) [(2,.ptr 0 1 0 0),(11,.ptr 1 1 0 0),(84,.fn 204 [.cptr (AY M)])] (λs=>[⟨4,1,true,[DO p]⟩,⟨1,1,true,[.ref 2 s.1 0 s.2.length]⟩,⟨2,s.1,false,s.2.map Dl⟩])
    [.grp 0,.grp 2,.virt 2] 3 (1,[]) hit ?_ (λ_=>rfl) rfl ?_ rfl rfl (Oc _) (Rj _) (by simp) ⟨by simp,by simp⟩ ?_ ?_)
   ·(with_reducible repeat'(first|(simp(disch:=omega)only[push_cast,↓zz,seval,hNN])|refine Aa ?_ ?_|(first|refine Ac ?_ ?_|refine Ab ?_ ?_)<;>intro hc<;>(try simp only[push_cast] at hc)|omega|intro _))
   ·(with_reducible repeat'(first|(simp(disch:=omega)only[push_cast,↓zz,seval])|refine Aa ?_ ?_|(first|refine Ac ?_ ?_|refine Ab ?_ ?_)<;>intro hc<;>(try simp only[push_cast] at hc)|omega|intro _))
   ·rintro k row ⟨v,o⟩ hrow ⟨h1,h2⟩
    simp only at h1 h2;obtain⟨hk,rfl⟩:=z3z hrow;have hxb:=hmem k hk;have hw3:=UQ (x:=nth l k) (n:=p.up.toNat) (by omega) (by omega)
    have hstep:(l.take (k+1)).map (λx=>oneS (x * 2 ^ p.up.toNat))=o++[oneS (nth l k * 2 ^ p.up.toNat)]:=by
     rw[take_at hk,A9,<-h1];rfl
    generalize nth l k=x at *;refine W_T ?_;(with_reducible repeat'(first|(simp(disch:=omega)only[push_cast,↓zz,seval])|refine Aa ?_ ?_|(first|refine Ac ?_ ?_|refine Ab ?_ ?_)<;>intro hc<;>(try simp only[push_cast] at hc)|omega|intro _));refine W_T ?_;(with_reducible repeat'(first|(simp(disch:=omega)only[push_cast,↓zz,seval,hw3])|refine Aa ?_ ?_|(first|refine Ac ?_ ?_|refine Ab ?_ ?_)<;>intro hc<;>(try simp only[push_cast] at hc)|omega|intro _));exact⟨(v+1,o++[oneS (x * 2 ^ p.up.toNat)]),⟨⟨rfl,by simp⟩,rfl,by rw[A9];exact Ck _ _⟩,hstep.symm,by simp;omega⟩
   ·rintro⟨v,o⟩ ⟨h1,h2⟩
    simp only[AM] at h1 h2;rw[AH] at h1;rw[<-h1];have hN2:=D8 o (by omega);(with_reducible repeat'(first|(simp(disch:=omega)only[push_cast,↓zz,seval,EP])|refine Aa ?_ ?_|(first|refine Ac ?_ ?_|refine Ab ?_ ?_)<;>intro hc<;>(try simp only[push_cast] at hc)|refine eK hN2 ?_|refine eQ hN2 ?_|refine eG hN2 ?_|((first|refine cK hN2 ?_|refine cQ hN2 ?_|refine cG hN2 ?_);(simp(disch:=omega)only[push_cast,↓zz,seval,EP]);(fail_if_success change False))|omega|intro _))
    all_goals trace_state
def Low(n:Nat)(l:List Span):Prop:=Plain l/\∀s∈l,0<=s.lo/\s.lo<=s.hi/\s.hi<=2 ^ n-1
theorem z41:∀{l:List Span}{f N:Nat},Plain l->(∀s∈l,(f:Int)<=s.lo/\s.hi<N)->f<=N->l.length+f<=N
 |[],f,N,_,_,hf=>by simpa using hf
 |s::l,f,N,h,hb,hf=>by
  have h1:=hb s (by simp);have h2:=h.head
  have:=z41 (l:=l) (f:=(s.hi+1).toNat) (N:=N) h.tail (λt ht=>by
   have:=(AW.1 h.2).1 t ht;have:=hb t (by simp[ht])
   omega) (by omega)
  simp only[List.length_cons];omega
theorem Low.len{n:Nat}{l:List Span}(h:Low n l):(l.length:Int)<=2 ^ n:=by
 have e:((2 ^ n:Nat):Int)=2 ^ n:=by simp
 have:=z41 (f:=0) (N:=2 ^ n) h.1 (λs hs=>by have:=h.2 s hs;simp only[Int.ofNat_zero];omega) (AD _);omega
theorem Xc{α:Type}{f:α->List Span}:∀{l:List α}{v:Int},memL (l.flatMap f) v↔∃x∈l,memL (f x) v
 |[],v=>by simp[memL]
 |x::l,v=>by
  rw[BJ,FG,Xc];constructor
  ·rintro (h|⟨y,hy,h⟩)
   ·exact⟨x,by simp,h⟩
   ·exact⟨y,by simp[hy],h⟩
  ·rintro⟨y,hy,h⟩
   rcases Ag.1 hy with rfl|hy
   ·exact .inl h
   ·exact .inr ⟨y,hy,h⟩
theorem z9z{l:List Span}{d:Int}(hd:-2147483648<=d/\d<=2147483648){v:Int}:memL (M7 l d) v↔(memL l (v-d)/\-1073741824<=v-d/\v-d<=1073741824)/\-1073741824<=v/\v<=1073741824:=by
 obtain⟨p1,p2⟩:=BD l;obtain⟨q1,q2⟩:=BD ((BI l).map (Hd d));rw[M7,Ah (by omega),q2 v,<-p2 (v-d)]
 have:memL ((BI l).map (Hd d)) v↔memL (BI l) (v-d):=by
  constructor
  ·rintro⟨s,hs,h1,h2⟩
   obtain⟨t,ht,rfl⟩:=Aq.1 hs;exact⟨t,ht,by simp only[Hd] at h1;omega,by simp only[Hd] at h2;omega⟩
  ·rintro⟨t,ht,h1,h2⟩
   exact⟨Hd d t,Aq.2 ⟨t,ht,rfl⟩,by simp only[Hd];omega,by simp only[Hd];omega⟩
 rw[this]
theorem GQ{p:Part}{x:Int}(hb:GN p=true)(hx:0<=x/\x<=2097151):0<=valP p x/\valP p x<=66060288:=by
 have hbi:=KR.1 hb;have ht:=M6 p.take.toNat (by omega);have hu:=M6 p.up.toNat (by omega);have m0:=Cc (x / 2 ^ p.drop.toNat) (b:=2 ^ p.take.toNat) (by omega);have m1:=BL (x / 2 ^ p.drop.toNat) (b:=2 ^ p.take.toNat) (by omega);have hq:=z40 (d:=p.drop.toNat) (by omega) hx
 have m2:x / 2 ^ p.drop.toNat % 2 ^ p.take.toNat<=x / 2 ^ p.drop.toNat:=by
  have h1:=Int.emod_add_mul_ediv (x / 2 ^ p.drop.toNat) (2 ^ p.take.toNat);have h2:0<=2 ^ p.take.toNat * (x / 2 ^ p.drop.toNat / 2 ^ p.take.toNat):=FD (by omega) (Gt hq.1 (by omega));omega
 rw[valP];refine⟨FD m0 (by omega),?_⟩;rcases hbi.2.2.2.2.2.2 with h0|h6
 ·rw[h0,show (2:Int) ^ (0:Int).toNat=1 by decide,Int.mul_one];omega
 ·have e:=Cx (n:=2) (by decide) (show p.take.toNat<=6 by omega)
  have e2:((2 ^ p.take.toNat:Nat):Int)=2 ^ p.take.toNat:=by simp
  have e3:=Cx (n:=2) (by decide) (show p.up.toNat<=20 by omega);have e4:((2 ^ p.up.toNat:Nat):Int)=2 ^ p.up.toNat:=by simp
  have:x / 2 ^ p.drop.toNat % 2 ^ p.take.toNat * 2 ^ p.up.toNat<=63 * 1048576:=Int.mul_le_mul (by omega) (by omega) (by omega) (by omega);omega
theorem za0(s:List Span):Gy (BI s) (BI [⟨0,1114111⟩])=symI s:=by rw[symI,YW]
theorem za1(l:List Span)(d:Int):(M7 l d).length<=l.length:=by
 unfold M7;split
 ·simp
 ·have h1:=FV ((BI l).map (Hd d))
  have h2:=FV l;simp only[AM] at h1;omega
end Go.Proofs.YtbcjoeadpjfcfaaGreat
namespace Go.Proofs.YtbcjoeadpjfcfaaGreat
open Abs
def sumS(x y:Span):Span:=⟨x.lo+y.lo,x.hi+y.hi⟩
def UR(a b:List Span):List Span:=a.flatMap λx=>b.map (sumS x)
def Tt(a b:List Span):List Span:=BI (UR a b)
theorem YX(x:Span)(a b:List Span):UR (x::a) b=b.map (sumS x)++UR a b:=rfl
theorem YY{l m:List Span}(h:∀v,-1073741824<=v/\v<=1073741824->(memL l v↔memL m v)):BI l=BI m:=by
 obtain⟨p1,p2⟩:=BD l;obtain⟨q1,q2⟩:=BD m;refine Jn p1 q1 λv=>?_;rw[p2,q2];constructor
 ·rintro⟨h1,h2,h3⟩;exact⟨(h v ⟨h2,h3⟩).1 h1,h2,h3⟩
 ·rintro⟨h1,h2,h3⟩;exact⟨(h v ⟨h2,h3⟩).2 h1,h2,h3⟩
theorem z42{l m:List Span}:BI (BI l++m)=BI (l++m):=YY λv hv=>by
 rw[FG,FG,(BD l).2 v];constructor
 ·rintro (⟨h,_⟩|h)
  ·exact .inl h
  ·exact .inr h
 ·rintro (h|h)
  ·exact .inl ⟨h,hv⟩
  ·exact .inr h
theorem Tu:∀{l:List Span}{f:Nat},Plain l->(∀s∈l,(f:Int)-1073741824<=s.lo/\s.hi<=1073741824)->f<=2147483649->l.length+f<=2147483649
 |[],f,_,_,hf=>by simpa using hf
 |s::l,f,h,hb,hf=>by
  have h1:=hb s (by simp);have h2:=h.head
  have:=Tu (l:=l) (f:=(s.hi+1073741825).toNat) h.tail (λt ht=>by
   have:=(AW.1 h.2).1 t ht;have:=hb t (by simp[ht])
   omega) (by omega)
  simp only[List.length_cons];omega
theorem Oe(l:List Span):(BI l).length<=2147483649:=by
 have:=Tu (f:=0) (BD l).1 (λs hs=>by have:=Gz l s hs;simp only[Int.ofNat_zero];omega) (by omega);omega
def Bd(l:List Span):Prop:=∀s∈l,(-1099511627776<=s.lo/\s.lo<=1099511627776)/\-1099511627776<=s.hi/\s.hi<=1099511627776
theorem YZ(l:List Span)(hl:l.length<=1000000000000):BZ Tryz.prog 181 [AY l] (Abs.hl []) λy H'=>y=.ref 0 1 0 (BI l).length/\H'=Abs.hl [⟨2,1,false,(BI l).map Dl⟩] :=
 SV (by omega) ((LC l hl).mono λy H' ⟨rest,h1,h2⟩=>⟨rest.map Dl,h1,by rw[h2,A9]⟩)
theorem z43(a b:List Span)(la:a.length<=3000000000)(lb:b.length<=3000000000)(ha:Bd a)(hb:Bd b):PC Tryz.prog 200 [AY a,AY b] (AY (Tt a b)):=by
 refine BV UB ?_;unfold NA;(with_reducible repeat'(first|(simp(disch:=omega)only[push_cast,↓zz,seval])|refine Aa ?_ ?_|(first|refine Ac ?_ ?_|refine Ab ?_ ?_)<;>intro hc<;>(try simp only[push_cast] at hc)|omega|intro _))
 refine B4 (BK (λ(s:Nat × List Span)=>s.1<=a.length/\s.2.length<=2147483649/\Tt a b=BI (s.2++UR (a.drop s.1) b)) (λs=>a.length-s.1)
  (λs=>[(1,AY b),(5,.ref 0 1 0 s.2.length),(10,AY a),(11,.int .i64 a.length),(12,.int .i64 s.1)]) (λs=>[⟨2,1,false,s.2.map Dl⟩]) (λenv _=>[C0 2 (env 5)]) (0,[]) ⟨by simp,by simp,by simp[Tt]⟩ ?_ ?_)
 ·(with_reducible repeat'(first|(simp(disch:=omega)only[push_cast,↓zz,seval])|refine Aa ?_ ?_|(first|refine Ac ?_ ?_|refine Ab ?_ ?_)<;>intro hc<;>(try simp only[push_cast] at hc)|omega|intro _))
 rintro⟨k,out⟩ ⟨h1,h2,h3⟩;simp only at h1 h2 h3;rcases An k a.length with hk|hk
 ·rw[drop_at hk,YX,<-Aw] at h3
  have hx:=ha _ (B2 hk);generalize hxe:nth a k=x at *;refine W_T ?_;(with_reducible repeat'(first|(simp(disch:=omega)only[push_cast,↓zz,seval,hxe])|refine Aa ?_ ?_|(first|refine Ac ?_ ?_|refine Ab ?_ ?_)<;>intro hc<;>(try simp only[push_cast] at hc)|omega|intro _))
  refine B4 (BK (λ(s:Nat × List Span)=>s.1<=b.length/\s.2=out++(b.take s.1).map (sumS x)/\s.2.length=out.length+s.1) (λs=>b.length-s.1)
   (λs=>[(1,AY b),(5,.ref 0 1 0 s.2.length),(7,.ptr 1 1 0 0),(10,AY a),(11,.int .i64 a.length),(12,.int .i64 k),(16,AY b),(17,.int .i64 b.length),(18,.int .i64 s.1)]) (λs=>[⟨2,1,false,s.2.map Dl⟩,⟨2,1,true,[Dl x]⟩]) (λenv _=>[C0 2 (env 5),C0 2 (env 7)]) (0,out) ⟨by simp,by simp,by simp⟩ ?_ ?_)
  ·(with_reducible repeat'(first|(simp(disch:=omega)only[push_cast,↓zz,seval])|refine Aa ?_ ?_|(first|refine Ac ?_ ?_|refine Ab ?_ ?_)<;>intro hc<;>(try simp only[push_cast] at hc)|omega|intro _))
  rintro⟨j,o⟩ ⟨g1,g2,g3⟩;simp only at g1 g2 g3;rcases An j b.length with hj|hj
  ·have hy:=hb _ (B2 hj)
   have hstep:out++(b.take (j+1)).map (sumS x)=o++[sumS x (nth b j)]:=by rw[take_at hj,A9,<-Aw,<-g2];rfl
   generalize hye:nth b j=y at *;have hw1:IntKind.i64.wrap (x.lo+y.lo)=x.lo+y.lo:=IntWalk.i64_in _ (by omega);have hw2:IntKind.i64.wrap (x.hi+y.hi)=x.hi+y.hi:=IntWalk.i64_in _ (by omega);clear g2;refine W_T ?_;(with_reducible repeat'(first|(simp(disch:=omega)only[push_cast,↓zz,seval,hye,hw1,hw2])|refine Aa ?_ ?_|(first|refine Ac ?_ ?_|refine Ab ?_ ?_)<;>intro hc<;>(try simp only[push_cast] at hc)|omega|intro _));refine⟨(j+1,o++[sumS x y]),?_⟩;(with_reducible repeat'(first|(simp(disch:=omega)only[push_cast,↓zz,seval,sumS,hstep])|refine Aa ?_ ?_|(first|refine Ac ?_ ?_|refine Ab ?_ ?_)<;>intro hc<;>(try simp only[push_cast] at hc)|omega|intro _))
  ·obtain rfl:j=b.length:=by omega
   rw[AH] at g2;rw[<-g2] at h3;clear g2;have hno:=Oe o;have hap:=@z42 o (UR (a.drop (k+1)) b);refine W_T ?_;(with_reducible repeat'(first|(simp(disch:=omega)only[push_cast,↓zz,seval])|refine Aa ?_ ?_|(first|refine Ac ?_ ?_|refine Ab ?_ ?_)<;>intro hc<;>(try simp only[push_cast] at hc)|omega|intro _))
   ·(refine zgi (ys:=[AY o]) ?_ ?_ ?_<;>(simp(disch:=omega)only[push_cast,↓zz,seval]))
    (refine NF [] (YZ o (by omega)) (by decide) (by simp) (by (simp(disch:=omega)only[push_cast,↓zz,seval])) (by (simp(disch:=omega)only[push_cast,↓zz,seval])) (by (simp(disch:=omega)only[push_cast,↓zz,seval])) (by (simp(disch:=omega)only[push_cast,↓zz,seval,Ag,Am,A5,C8,EM,Ez])) ?_)
    rintro y H' ⟨rfl,rfl⟩;refine⟨_,rfl,by simp,?_⟩;(with_reducible repeat'(first|(simp(disch:=omega)only[push_cast,↓zz,seval])|refine Aa ?_ ?_|(first|refine Ac ?_ ?_|refine Ab ?_ ?_)<;>intro hc<;>(try simp only[push_cast] at hc)|omega|intro _));refine⟨(k+1,BI o),?_⟩;(with_reducible repeat'(first|(simp(disch:=omega)only[push_cast,↓zz,seval,hap])|refine Aa ?_ ?_|(first|refine Ac ?_ ?_|refine Ab ?_ ?_)<;>intro hc<;>(try simp only[push_cast] at hc)|omega|intro _))
   ·refine⟨(k+1,o),?_⟩
    (with_reducible repeat'(first|(simp(disch:=omega)only[push_cast,↓zz,seval])|refine Aa ?_ ?_|(first|refine Ac ?_ ?_|refine Ab ?_ ?_)<;>intro hc<;>(try simp only[push_cast] at hc)|omega|intro _))
 ·rw[A6 hk,show UR [] b=[] from rfl,A8] at h3
  have hN:=D8 out (by omega);refine W_T ?_;(with_reducible repeat'(first|(simp(disch:=omega)only[push_cast,↓zz,seval,h3,EP])|refine Aa ?_ ?_|(first|refine Ac ?_ ?_|refine Ab ?_ ?_)<;>intro hc<;>(try simp only[push_cast] at hc)|refine eK hN ?_|refine eQ hN ?_|refine eG hN ?_|((first|refine cK hN ?_|refine cQ hN ?_|refine cG hN ?_);(simp(disch:=omega)only[push_cast,↓zz,seval,h3,EP]);(fail_if_success change False))|omega|intro _))
  all_goals trace_state
def totV(l:List Part)(x:Int):Int:=(l.map λp=>valP p x).sum
theorem za2(x:Int):totV [] x=0:=rfl
theorem z44(l:List Part)(p:Part)(x:Int):totV (l++[p]) x=totV l x+valP p x:=by simp[totV]
theorem Of{x:Int}(hx:0<=x/\x<=2097151):∀{l:List Part},(∀p∈l,GN p=true)->0<=totV l x/\totV l x<=l.length * 66060288
 |[],_=>by simp[totV]
 |p::l,h=>by
  have h1:=GQ (h p (by simp)) hx;have h2:=Of hx (l:=l) λq hq=>h q (by simp[hq]);have e:totV (p::l) x=valP p x+totV l x:=by simp[totV]
  rw[e,List.length_cons]
  push_cast
  omega
def togF(l:List Part)(out:List Span)(x:Int):List Span:=addS out ⟨totV l x,totV l x⟩
def togL(l:List Part)(s:List Span):List Span :=
 if l.length=1 then imgL (nth l 0) s else BI ((Ge (BI s)).foldl (togF l) [])
theorem Rl(l:List Part)(s:List Span)(hl:l.length<=1000)(hb:∀p∈l,GN p=true)(hs:s.length<=10000000000)(hsy:Syms (BI s)):
 PC Tryz.prog 201 [Co l,AY s] (AY (togL l s)):=by
 have hln:=hsy.nums;have hls:=hsy.len;have hmem:∀k,k<(Ge (BI s)).length->0<=nth (Ge (BI s)) k/\nth (Ge (BI s)) k<=1114111:=λk hk=>hsy.mem (IJ.1 (B2 hk));have hit:=NU (BI s) (by omega) (Gz s);have hI:=PN (nth l 0) s hs;have hE:=NV s (by omega);refine BV NB ?_;unfold Jm;(with_reducible repeat'(first|(simp(disch:=omega)only[push_cast,↓zz,seval])|refine Aa ?_ ?_|(first|refine Ac ?_ ?_|refine Ab ?_ ?_)<;>intro hc<;>(try simp only[push_cast] at hc)|refine eK hI ?_|refine eQ hI ?_|refine eG hI ?_|refine eK hE ?_|refine eQ hE ?_|refine eG hE ?_|((first|refine cK hI ?_|refine cQ hI ?_|refine cG hI ?_|refine cK hE ?_|refine cQ hE ?_|refine cG hE ?_);(simp(disch:=omega)only[push_cast,↓zz,seval]);(fail_if_success change False))|omega|intro _))
 ·rw[togL,Ai (by omega)]
 rw[togL,Ah (by omega)];generalize hlne:Ge (BI s)=m at *
 refine QQ (Wr (σ:=Nat × List Span) (λk s=>s.2=(m.take k).foldl (togF l) []/\s.2.length<=k) [(2,.ptr 0 1 0 0),(5,.ptr 1 1 0 0),(22,.fn 204 [.cptr (AY (BI s))])] (λs=>[⟨1,1,true,[Co l]⟩,⟨1,1,true,[.ref 2 s.1 0 s.2.length]⟩,⟨2,s.1,false,s.2.map Dl⟩])
  [.grp 0,.grp 1,.virt 2] 3 (1,[]) hit ?_ (λ_=>rfl) rfl ?_ rfl rfl (Oc _) (Rj _) (by simp) ⟨by simp,by simp⟩ ?_ ?_)
 ·(with_reducible repeat'(first|(simp(disch:=omega)only[push_cast,↓zz,seval])|refine Aa ?_ ?_|(first|refine Ac ?_ ?_|refine Ab ?_ ?_)<;>intro hc<;>(try simp only[push_cast] at hc)|omega|intro _))
 ·(with_reducible repeat'(first|(simp(disch:=omega)only[push_cast,↓zz,seval])|refine Aa ?_ ?_|(first|refine Ac ?_ ?_|refine Ab ?_ ?_)<;>intro hc<;>(try simp only[push_cast] at hc)|omega|intro _))
 ·rintro k row ⟨v,out⟩ hrow ⟨h1,h2⟩
  simp only at h1 h2;obtain⟨hk,rfl⟩:=z3z hrow;have hxb:=hmem k hk;have hstep:(m.take (k+1)).foldl (togF l) []=togF l out (nth m k):=by rw[take_at hk,FM,<-h1];rfl
  generalize nth m k=x at *;refine W_T ?_;(with_reducible repeat'(first|(simp(disch:=omega)only[push_cast,↓zz,seval])|refine Aa ?_ ?_|(first|refine Ac ?_ ?_|refine Ab ?_ ?_)<;>intro hc<;>(try simp only[push_cast] at hc)|omega|intro _));refine W_T ?_;(with_reducible repeat'(first|(simp(disch:=omega)only[push_cast,↓zz,seval])|refine Aa ?_ ?_|(first|refine Ac ?_ ?_|refine Ab ?_ ?_)<;>intro hc<;>(try simp only[push_cast] at hc)|omega|intro _))
  refine B4 (BK (λ(j:Nat)=>j<=l.length) (λj=>l.length-j)
   (λj=>[(2,.ptr 0 1 0 0),(5,.ptr 1 1 0 0),(6,.int .i64 x),(7,.int .i64 (totV (l.take j) x)),(24,Co l),(25,.int .i64 l.length),(26,.int .i64 j)]) (λ_=>[⟨1,1,true,[Co l]⟩,⟨1,1,true,[.ref 2 v 0 out.length]⟩,⟨2,v,false,out.map Dl⟩]) (λ_ _=>[]) 0 (by simp) ?_ ?_)
  ·(with_reducible repeat'(first|(simp(disch:=omega)only[push_cast,↓zz,seval,za2])|refine Aa ?_ ?_|(first|refine Ac ?_ ?_|refine Ab ?_ ?_)<;>intro hc<;>(try simp only[push_cast] at hc)|omega|intro _))
  intro j hj;rcases An j l.length with hjl|hjl
  ·have hp:=hb _ (B2 hjl)
   have hV:=Iz (nth l j) x
   have e1:val1 (nth l j) x=valP (nth l j) x:=by
    have hvb:valB (nth l j) x=true:=by simp[valB,hp];omega
    simp[val1,hvb]
   rw[valV,e1] at hV;have t1:=Of (x:=x) (by omega) (l:=l.take j) λq hq=>hb q (BP hq);have t2:=GQ hp (x:=x) (by omega);have hlt:(l.take j).length=j:=by simp;omega
   rw[hlt] at t1;have hw:IntKind.i64.wrap (totV (l.take j) x+valP (nth l j) x)=totV (l.take j) x+valP (nth l j) x:=IntWalk.i64_in _ (by omega);have hn:totV (l.take (j+1)) x=totV (l.take j) x+valP (nth l j) x:=by rw[take_at hjl,z44]
   refine W_T ?_;(with_reducible repeat'(first|(simp(disch:=omega)only[push_cast,↓zz,seval,hw])|refine Aa ?_ ?_|(first|refine Ac ?_ ?_|refine Ab ?_ ?_)<;>intro hc<;>(try simp only[push_cast] at hc)|refine eK hV ?_|refine eQ hV ?_|refine eG hV ?_|((first|refine cK hV ?_|refine cQ hV ?_|refine cG hV ?_);(simp(disch:=omega)only[push_cast,↓zz,seval,hw]);(fail_if_success change False))|omega|intro _))
   all_goals exact⟨j+1,⟨hn.symm,by push_cast⟩,by omega,by omega⟩
  ·obtain rfl:j=l.length:=by omega
   rw[AH];have t1:=Of (x:=x) (by omega) (l:=l) hb;rw[togF] at hstep;generalize totV l x=n at *;have hwn:IntKind.i64.wrap (n-1)=n-1:=IntWalk.i64_in _ (by omega);rcases GM out with rfl|⟨mm,z,hout⟩
   ·refine W_T ?_
    (with_reducible repeat'(first|(simp(disch:=omega)only[push_cast,↓zz,seval,hwn])|refine Aa ?_ ?_|(first|refine Ac ?_ ?_|refine Ab ?_ ?_)<;>intro hc<;>(try simp only[push_cast] at hc)|omega|intro _))
    all_goals
     refine⟨(v+1,[⟨n,n⟩]),?_⟩;rw[IH] at hstep;(with_reducible repeat'(first|(simp(disch:=omega)only[push_cast,↓zz,seval,hstep])|refine Aa ?_ ?_|(first|refine Ac ?_ ?_|refine Ab ?_ ?_)<;>intro hc<;>(try simp only[push_cast] at hc)|omega|intro _))
   ·have l1:out.length=mm.length+1:=by rw[hout];simp
    have l2:nth out mm.length=z:=by rw[hout];exact z9t
    have l3:IntKind.i64.wrap (mm.length:Int)=mm.length:=IntWalk.i64_in _ (by omega);have l4:(out.map Dl).set mm.length (.agg [.int .i64 z.lo,.int .i64 n])=(mm++[(⟨z.lo,n⟩:Span)]).map Dl:=by rw[hout];exact Tp (f:=Dl) (z:=⟨z.lo,n⟩)
    have hadd:addS out ⟨n,n⟩=if z.hi=n-1 then mm++[⟨z.lo,n⟩] else out++[⟨n,n⟩]:=by rw[hout,NZ]
    rw[hadd] at hstep;clear hadd hout;refine W_T ?_;(with_reducible repeat'(first|(simp(disch:=omega)only[push_cast,↓zz,seval,l1,l2,l3,l4,hwn])|refine Aa ?_ ?_|(first|refine Ac ?_ ?_|refine Ab ?_ ?_)<;>intro hc<;>(try simp only[push_cast] at hc)|omega|intro _))
    ·rw[Ai (by assumption)] at hstep
     refine⟨(v,mm++[⟨z.lo,n⟩]),?_⟩;(with_reducible repeat'(first|(simp(disch:=omega)only[push_cast,↓zz,seval,hstep])|refine Aa ?_ ?_|(first|refine Ac ?_ ?_|refine Ab ?_ ?_)<;>intro hc<;>(try simp only[push_cast] at hc)|omega|intro _))
    ·rw[Ah (by assumption)] at hstep
     refine⟨(v+1,out++[⟨n,n⟩]),?_⟩;(with_reducible repeat'(first|(simp(disch:=omega)only[push_cast,↓zz,seval,hstep,l1])|refine Aa ?_ ?_|(first|refine Ac ?_ ?_|refine Ab ?_ ?_)<;>intro hc<;>(try simp only[push_cast] at hc)|omega|intro _))
 ·rintro⟨v,out⟩ ⟨h1,h2⟩
  simp only[AM] at h1 h2;rw[AH] at h1;rw[<-h1];have hN:=D8 out (by omega);(with_reducible repeat'(first|(simp(disch:=omega)only[push_cast,↓zz,seval,EP])|refine Aa ?_ ?_|(first|refine Ac ?_ ?_|refine Ab ?_ ?_)<;>intro hc<;>(try simp only[push_cast] at hc)|refine eK hN ?_|refine eQ hN ?_|refine eG hN ?_|((first|refine cK hN ?_|refine cQ hN ?_|refine cG hN ?_);(simp(disch:=omega)only[push_cast,↓zz,seval,EP]);(fail_if_success change False))|omega|intro _))
  all_goals trace_state
def Df(pl:List Int)(p:Part):List Int:=if p.at_∈pl then pl else pl++[p.at_]
def Dh(l:List Part):List Int:=l.foldl Df []
def atL(l:List Part)(a:Int):List Part:=l.filter λp=>decide (p.at_=a)
def Cf(l:List Part)(sets:List (List Span))(out:List Span)(a:Int):List Span:=Tt out (togL (atL l a) (nth sets a.toNat))
def BR(t:Term)(sets:List (List Span)):List Span:=(Dh t.parts).foldl (Cf t.parts sets) [⟨t.sum,t.sum⟩]
def Dx(l:List Span):Bool:=decide (0<(l.length:Int))&&(decide (0<=(Ts (BI l)).getD 0)&&decide ((UP (BI l)).getD 0<=1114111))
def Acc(l:List Span):Prop:=Bd l/\l.length<=2147483649
theorem Og(l:List Span):Acc (BI l):=by
 refine⟨λs hs=>?_,Oe l⟩;have:=Gz l s hs;omega
theorem Xd(a b:List Span):Acc (Tt a b):=Og _
theorem Rm(p:Part)(s:List Span):Acc (imgL p s):=by
 unfold imgL
 repeat' split
 all_goals first|exact Og _|exact⟨λs hs=>(by cases hs),by simp⟩
theorem Xe(l:List Part)(s:List Span):Acc (togL l s):=by
 unfold togL;split
 ·exact Rm _ _
 ·exact Og _
theorem Et{x:Int}(h:Dw x=true):Acc [⟨x,x⟩]:=by
 refine⟨λs hs=>?_,by simp⟩;have:=IF h;simp only[As] at hs;subst hs;simp only;omega
structure Ee(l:List Part)(sets:List (List Span)):Prop where
 parts:∀p∈l,FH p sets.length=true
 syms:∀s∈sets,Syms s
 many:sets.length<=1000
theorem Tv{s:List Span}(h:Syms s):BI s=s:=Od h.1 λt ht=>by have:=h.2 t ht;omega
theorem Be{l:List Part}{sets:List (List Span)}{out:List Span}{a:Int}(hS:Ee l sets)(hA:Acc out)(ha:0<=a/\a<sets.length)(hl:l.length<=4):
 PC Tryz.prog 201 [Co (atL l a),AY (nth sets a.toNat)] (AY (togL (atL l a) (nth sets a.toNat)))/\PC Tryz.prog 200 [AY out,AY (togL (atL l a) (nth sets a.toNat))] (AY (Cf l sets out a))/\Acc (Cf l sets out a):=by
 have hm:nth sets a.toNat∈sets:=B2 (by omega);have hs:=hS.syms _ hm;refine⟨Rl _ _ (Bm (B7 _ _) (by omega)) (λp hp=>?_) (by have:=hs.len;omega) (by rw[Tv hs];exact hs),z43 _ _ (by have:=hA.2;omega) (by have:=(Xe (atL l a) (nth sets a.toNat)).2;omega) hA.1 (Xe _ _).1,Xd _ _⟩;have:=hS.parts p ((AX.1 hp).1);simp only[FH,Ad] at this;exact this.2
theorem Za(bs dr tk up sm:Int)(sets:List (List Span))(hs:Dw sm=true)(hS:Ee [] sets):
 PC Tryz.prog 196 [Dv ⟨bs,dr,tk,up,sm,[]⟩,Bs sets] (.tup [AY (BR ⟨bs,dr,tk,up,sm,[]⟩ sets),.bool (Dx (BR ⟨bs,dr,tk,up,sm,[]⟩ sets))]):=by
 have hg:=AL sets;have A0:=Et hs;have hv:BR ⟨bs,dr,tk,up,sm,[]⟩ sets=[⟨sm,sm⟩]:=by simp[BR,Dh,Df]
 rw[hv];have hF:=C5 ([⟨sm,sm⟩]) (by have:=A0.2;omega);have hL:=CO ([⟨sm,sm⟩]) (by have:=A0.2;omega);clear hS hv;refine BV BQ ?_;unfold BO;(with_reducible repeat'(first|(simp(disch:=omega)only[push_cast,↓zz,seval])|refine Aa ?_ ?_|(first|refine Ac ?_ ?_|refine Ab ?_ ?_)<;>intro hc<;>(try simp only[push_cast] at hc)|omega|intro _));refine BW 6 ?_;(with_reducible repeat'(first|(simp(disch:=omega)only[push_cast,↓zz,seval,xx,Ag,Am,A5,Bg,B9,Ay,B0,Bz,D5,setM])|refine Aa ?_ ?_|(first|refine Ac ?_ ?_|refine Ab ?_ ?_)<;>intro hc<;>(try simp only[push_cast] at hc)|refine Bj ?_|refine De [1] ?_|omega|intro _));refine C4 6 (λenv=>[C0 1 (env 6)]) [(1,Bs sets),(6,.map 0 1),(10,AY [⟨sm,sm⟩]),(53,.lst 1 []),(54,.int .i64 0),(55,.int .i64 0)] [⟨0,1,true,[]⟩] ?_ ?_
 ·(with_reducible repeat'(first|(simp(disch:=omega)only[push_cast,↓zz,seval])|refine Aa ?_ ?_|(first|refine Ac ?_ ?_|refine Ab ?_ ?_)<;>intro hc<;>(try simp only[push_cast] at hc)|omega|intro _))
  all_goals (simp only[DO];done)
 (with_reducible repeat'(first|(simp(disch:=omega)only[push_cast,↓zz,seval,D5,Dx,hg])|refine Aa ?_ ?_|(first|refine Ac ?_ ?_|refine Ab ?_ ?_)<;>intro hc<;>(try simp only[push_cast] at hc)|refine eK hF ?_|refine eQ hF ?_|refine eG hF ?_|refine eK hL ?_|refine eQ hL ?_|refine eG hL ?_|refine Bj ?_|((first|refine cK hF ?_|refine cQ hF ?_|refine cG hF ?_|refine cK hL ?_|refine cQ hL ?_|refine cG hL ?_);(simp(disch:=omega)only[push_cast,↓zz,seval,D5,Dx,hg]);(fail_if_success change False))|omega|intro _))
 all_goals ((try simp only[*,Bi,AP,Ax,AA]);(repeat'(first|(simp(disch:=omega)only[push_cast,↓zz,seval,Du])|omega|(with_reducible refine Aa ?_ ?_))))
theorem za3(bs dr tk up sm:Int)(sets:List (List Span))(hs:Dw sm=true)(hS:Ee [] sets):
 PC Tryz.prog 196 [Dv ⟨bs,dr,tk,up,sm,[]⟩,Bs sets] (.tup [AY (BR ⟨bs,dr,tk,up,sm,[]⟩ sets),.bool (Dx (BR ⟨bs,dr,tk,up,sm,[]⟩ sets))]):=by
 exact Za bs dr tk up sm  sets hs hS 
theorem Zb(bs dr tk up sm:Int)(p0:Part)(sets:List (List Span))(hs:Dw sm=true)(hS:Ee [p0] sets):
 PC Tryz.prog 196 [Dv ⟨bs,dr,tk,up,sm,[p0]⟩,Bs sets] (.tup [AY (BR ⟨bs,dr,tk,up,sm,[p0]⟩ sets),.bool (Dx (BR ⟨bs,dr,tk,up,sm,[p0]⟩ sets))]):=by
 have hg:=AL sets;have b0:=AU (hS.parts p0 (by simp));have A0:=Et hs;obtain⟨T1,P1,A1⟩:=Be (a:=p0.at_) hS A0 (by omega) (by simp);have l1:atL [p0] p0.at_=[p0]:=by simp[atL]
 rw[l1] at T1 P1;have hv:BR ⟨bs,dr,tk,up,sm,[p0]⟩ sets=Cf [p0] sets ([⟨sm,sm⟩]) p0.at_:=by simp[BR,Dh,Df]
 rw[hv];generalize ho1:Cf [p0] sets ([⟨sm,sm⟩]) p0.at_=o1 at *;generalize ht1:togL [p0] (nth sets p0.at_.toNat)=t1 at *;have hF:=C5 o1 (by have:=A1.2;omega);have hL:=CO o1 (by have:=A1.2;omega);clear hS hv ho1 ht1 l1;refine BV BQ ?_;unfold BO;(with_reducible repeat'(first|(simp(disch:=omega)only[push_cast,↓zz,seval])|refine Aa ?_ ?_|(first|refine Ac ?_ ?_|refine Ab ?_ ?_)<;>intro hc<;>(try simp only[push_cast] at hc)|omega|intro _));refine BW 6 ?_;(with_reducible repeat'(first|(simp(disch:=omega)only[push_cast,↓zz,seval,xx,Ag,Am,A5,Bg,B9,Ay,B0,Bz,D5,setM])|refine Aa ?_ ?_|(first|refine Ac ?_ ?_|refine Ab ?_ ?_)<;>intro hc<;>(try simp only[push_cast] at hc)|refine Bj ?_|refine De [1] ?_|omega|intro _));refine C4 6 (λenv=>[C0 1 (env 6)]) [(1,Bs sets),(6,.map 0 1),(10,AY [⟨sm,sm⟩]),(53,.lst 1 [.int .i64 p0.at_]),(54,.int .i64 1),(55,.int .i64 0)] [⟨0,1,true,[.int .i64 p0.at_,Co [p0]]⟩] ?_ ?_
 ·(with_reducible repeat'(first|(simp(disch:=omega)only[push_cast,↓zz,seval])|refine Aa ?_ ?_|(first|refine Ac ?_ ?_|refine Ab ?_ ?_)<;>intro hc<;>(try simp only[push_cast] at hc)|omega|intro _))
  all_goals (simp only[DO];done)
 (with_reducible repeat'(first|(simp(disch:=omega)only[push_cast,↓zz,seval,D5,Dx,hg])|refine Aa ?_ ?_|(first|refine Ac ?_ ?_|refine Ab ?_ ?_)<;>intro hc<;>(try simp only[push_cast] at hc)|refine Bj ?_|refine eQ T1 ?_|refine eQ P1 ?_|refine eK T1 ?_|refine eK P1 ?_|refine eK hF ?_|refine eK hL ?_|omega|intro _))
 all_goals ((try simp only[*,Bi,AP,Ax,AA]);(repeat'(first|(simp(disch:=omega)only[push_cast,↓zz,seval,Du])|omega|(with_reducible refine Aa ?_ ?_))))
theorem za4(bs dr tk up sm:Int)(p0:Part)(sets:List (List Span))(hs:Dw sm=true)(hS:Ee [p0] sets):
 PC Tryz.prog 196 [Dv ⟨bs,dr,tk,up,sm,[p0]⟩,Bs sets] (.tup [AY (BR ⟨bs,dr,tk,up,sm,[p0]⟩ sets),.bool (Dx (BR ⟨bs,dr,tk,up,sm,[p0]⟩ sets))]):=by
 exact Zb bs dr tk up sm p0 sets hs hS 
theorem Zc(bs dr tk up sm:Int)(p0 p1:Part)(sets:List (List Span))(hs:Dw sm=true)(hS:Ee [p0,p1] sets)(e1:p1.at_=p0.at_):
 PC Tryz.prog 196 [Dv ⟨bs,dr,tk,up,sm,[p0,p1]⟩,Bs sets] (.tup [AY (BR ⟨bs,dr,tk,up,sm,[p0,p1]⟩ sets),.bool (Dx (BR ⟨bs,dr,tk,up,sm,[p0,p1]⟩ sets))]):=by
 have hg:=AL sets;have b0:=AU (hS.parts p0 (by simp));have b1:=AU (hS.parts p1 (by simp));have A0:=Et hs;obtain⟨T1,P1,A1⟩:=Be (a:=p0.at_) hS A0 (by omega) (by simp);have l1:atL [p0,p1] p0.at_=[p0,p1]:=by simp[atL,e1]
 rw[l1] at T1 P1;have hv:BR ⟨bs,dr,tk,up,sm,[p0,p1]⟩ sets=Cf [p0,p1] sets ([⟨sm,sm⟩]) p0.at_:=by simp[BR,Dh,Df,e1]
 rw[hv];generalize ho1:Cf [p0,p1] sets ([⟨sm,sm⟩]) p0.at_=o1 at *;generalize ht1:togL [p0,p1] (nth sets p0.at_.toNat)=t1 at *;have hF:=C5 o1 (by have:=A1.2;omega);have hL:=CO o1 (by have:=A1.2;omega);clear hS hv ho1 ht1 l1;refine BV BQ ?_;unfold BO;(with_reducible repeat'(first|(simp(disch:=omega)only[push_cast,↓zz,seval])|refine Aa ?_ ?_|(first|refine Ac ?_ ?_|refine Ab ?_ ?_)<;>intro hc<;>(try simp only[push_cast] at hc)|omega|intro _));refine BW 6 ?_;(with_reducible repeat'(first|(simp(disch:=omega)only[push_cast,↓zz,seval,xx,Ag,Am,A5,Bg,B9,Ay,B0,Bz,D5,setM,e1])|refine Aa ?_ ?_|(first|refine Ac ?_ ?_|refine Ab ?_ ?_)<;>intro hc<;>(try simp only[push_cast] at hc)|refine Bj ?_|refine De [1,5] ?_|omega|intro _));refine C4 6 (λenv=>[C0 1 (env 6)]) [(1,Bs sets),(6,.map 0 1),(10,AY [⟨sm,sm⟩]),(53,.lst 1 [.int .i64 p0.at_]),(54,.int .i64 1),(55,.int .i64 0)] [⟨0,1,true,[.int .i64 p0.at_,Co [p0,p1]]⟩] ?_ ?_
 ·(with_reducible repeat'(first|(simp(disch:=omega)only[push_cast,↓zz,seval,e1])|refine Aa ?_ ?_|(first|refine Ac ?_ ?_|refine Ab ?_ ?_)<;>intro hc<;>(try simp only[push_cast] at hc)|omega|intro _))
  all_goals (simp only[DO,e1];done)
 (with_reducible repeat'(first|(simp(disch:=omega)only[push_cast,↓zz,seval,D5,Dx,hg,e1])|refine Aa ?_ ?_|(first|refine Ac ?_ ?_|refine Ab ?_ ?_)<;>intro hc<;>(try simp only[push_cast] at hc)|refine Bj ?_|refine eQ T1 ?_|refine eQ P1 ?_|refine eK T1 ?_|refine eK P1 ?_|refine eK hF ?_|refine eK hL ?_|omega|intro _))
 all_goals ((try simp only[*,Bi,AP,Ax,AA]);(repeat'(first|(simp(disch:=omega)only[push_cast,↓zz,seval,Du])|omega|(with_reducible refine Aa ?_ ?_))))
theorem Zd(bs dr tk up sm:Int)(p0 p1:Part)(sets:List (List Span))(hs:Dw sm=true)(hS:Ee [p0,p1] sets)(n01:¬p0.at_=p1.at_):
 PC Tryz.prog 196 [Dv ⟨bs,dr,tk,up,sm,[p0,p1]⟩,Bs sets] (.tup [AY (BR ⟨bs,dr,tk,up,sm,[p0,p1]⟩ sets),.bool (Dx (BR ⟨bs,dr,tk,up,sm,[p0,p1]⟩ sets))]):=by
 have hg:=AL sets;have b0:=AU (hS.parts p0 (by simp));have b1:=AU (hS.parts p1 (by simp));have A0:=Et hs;obtain⟨T1,P1,A1⟩:=Be (a:=p0.at_) hS A0 (by omega) (by simp);have l1:atL [p0,p1] p0.at_=[p0]:=by simp[atL,n01,Al (show p0.at_≠p1.at_ from n01)]
 rw[l1] at T1 P1;obtain⟨T2,P2,A2⟩:=Be (a:=p1.at_) hS A1 (by omega) (by simp);have l2:atL [p0,p1] p1.at_=[p1]:=by simp[atL,n01,Al (show p0.at_≠p1.at_ from n01)]
 rw[l2] at T2 P2;have hv:BR ⟨bs,dr,tk,up,sm,[p0,p1]⟩ sets=Cf [p0,p1] sets (Cf [p0,p1] sets ([⟨sm,sm⟩]) p0.at_) p1.at_:=by simp[BR,Dh,Df,n01,Al (show p0.at_≠p1.at_ from n01)]
 rw[hv];generalize ho1:Cf [p0,p1] sets ([⟨sm,sm⟩]) p0.at_=o1 at *;generalize ht1:togL [p0] (nth sets p0.at_.toNat)=t1 at *;generalize ho2:Cf [p0,p1] sets (o1) p1.at_=o2 at *;generalize ht2:togL [p1] (nth sets p1.at_.toNat)=t2 at *;have hF:=C5 o2 (by have:=A2.2;omega);have hL:=CO o2 (by have:=A2.2;omega);clear hS hv ho1 ht1 l1 ho2 ht2 l2;refine BV BQ ?_;unfold BO;(with_reducible repeat'(first|(simp(disch:=omega)only[push_cast,↓zz,seval])|refine Aa ?_ ?_|(first|refine Ac ?_ ?_|refine Ab ?_ ?_)<;>intro hc<;>(try simp only[push_cast] at hc)|omega|intro _));refine BW 6 ?_;(with_reducible repeat'(first|(simp(disch:=omega)only[push_cast,↓zz,seval,xx,Ag,Am,A5,Bg,B9,Ay,B0,Bz,D5,setM,n01])|refine Aa ?_ ?_|(first|refine Ac ?_ ?_|refine Ab ?_ ?_)<;>intro hc<;>(try simp only[push_cast] at hc)|refine Bj ?_|refine De [1] ?_|omega|intro _));refine C4 6 (λenv=>[C0 1 (env 6)]) [(1,Bs sets),(6,.map 0 1),(10,AY [⟨sm,sm⟩]),(53,.lst 1 [.int .i64 p0.at_,.int .i64 p1.at_]),(54,.int .i64 2),(55,.int .i64 0)] [⟨0,1,true,[.int .i64 p0.at_,Co [p0],.int .i64 p1.at_,Co [p1]]⟩] ?_ ?_
 ·(with_reducible repeat'(first|(simp(disch:=omega)only[push_cast,↓zz,seval,n01])|refine Aa ?_ ?_|(first|refine Ac ?_ ?_|refine Ab ?_ ?_)<;>intro hc<;>(try simp only[push_cast] at hc)|omega|intro _))
  all_goals (simp only[DO,n01];done)
 (with_reducible repeat'(first|(simp(disch:=omega)only[push_cast,↓zz,seval,D5,Dx,hg,n01])|refine Aa ?_ ?_|(first|refine Ac ?_ ?_|refine Ab ?_ ?_)<;>intro hc<;>(try simp only[push_cast] at hc)|refine Bj ?_|refine eQ T1 ?_|refine eQ P1 ?_|refine eK T1 ?_|refine eK P1 ?_|refine eQ T2 ?_|refine eQ P2 ?_|refine eK T2 ?_|refine eK P2 ?_|refine eK hF ?_|refine eK hL ?_|omega|intro _))
 all_goals ((try simp only[*,Bi,AP,Ax,AA]);(repeat'(first|(simp(disch:=omega)only[push_cast,↓zz,seval,Du])|omega|(with_reducible refine Aa ?_ ?_))))
theorem za5(bs dr tk up sm:Int)(p0 p1:Part)(sets:List (List Span))(hs:Dw sm=true)(hS:Ee [p0,p1] sets):
 PC Tryz.prog 196 [Dv ⟨bs,dr,tk,up,sm,[p0,p1]⟩,Bs sets] (.tup [AY (BR ⟨bs,dr,tk,up,sm,[p0,p1]⟩ sets),.bool (Dx (BR ⟨bs,dr,tk,up,sm,[p0,p1]⟩ sets))]):=by
 rcases BN (p1.at_=p0.at_) with e1|x01
 ·skip
  exact Zc bs dr tk up sm p0 p1 sets hs hS e1
 have n01:¬p0.at_=p1.at_:=λh=>x01 h.symm;exact Zd bs dr tk up sm p0 p1 sets hs hS n01
theorem Ze(bs dr tk up sm:Int)(p0 p1 p2:Part)(sets:List (List Span))(hs:Dw sm=true)(hS:Ee [p0,p1,p2] sets)(e1:p1.at_=p0.at_)(e2:p2.at_=p0.at_):
 PC Tryz.prog 196 [Dv ⟨bs,dr,tk,up,sm,[p0,p1,p2]⟩,Bs sets] (.tup [AY (BR ⟨bs,dr,tk,up,sm,[p0,p1,p2]⟩ sets),.bool (Dx (BR ⟨bs,dr,tk,up,sm,[p0,p1,p2]⟩ sets))]):=by
 have hg:=AL sets;have b0:=AU (hS.parts p0 (by simp));have b1:=AU (hS.parts p1 (by simp));have b2:=AU (hS.parts p2 (by simp));have A0:=Et hs;obtain⟨T1,P1,A1⟩:=Be (a:=p0.at_) hS A0 (by omega) (by simp);have l1:atL [p0,p1,p2] p0.at_=[p0,p1,p2]:=by simp[atL,e1,e2]
 rw[l1] at T1 P1;have hv:BR ⟨bs,dr,tk,up,sm,[p0,p1,p2]⟩ sets=Cf [p0,p1,p2] sets ([⟨sm,sm⟩]) p0.at_:=by simp[BR,Dh,Df,e1,e2]
 rw[hv];generalize ho1:Cf [p0,p1,p2] sets ([⟨sm,sm⟩]) p0.at_=o1 at *;generalize ht1:togL [p0,p1,p2] (nth sets p0.at_.toNat)=t1 at *;have hF:=C5 o1 (by have:=A1.2;omega);have hL:=CO o1 (by have:=A1.2;omega);clear hS hv ho1 ht1 l1;refine BV BQ ?_;unfold BO;(with_reducible repeat'(first|(simp(disch:=omega)only[push_cast,↓zz,seval])|refine Aa ?_ ?_|(first|refine Ac ?_ ?_|refine Ab ?_ ?_)<;>intro hc<;>(try simp only[push_cast] at hc)|omega|intro _));refine BW 6 ?_;(with_reducible repeat'(first|(simp(disch:=omega)only[push_cast,↓zz,seval,xx,Ag,Am,A5,Bg,B9,Ay,B0,Bz,D5,setM,e1,e2])|refine Aa ?_ ?_|(first|refine Ac ?_ ?_|refine Ab ?_ ?_)<;>intro hc<;>(try simp only[push_cast] at hc)|refine Bj ?_|refine De [1,5] ?_|omega|intro _));refine C4 6 (λenv=>[C0 1 (env 6)]) [(1,Bs sets),(6,.map 0 1),(10,AY [⟨sm,sm⟩]),(53,.lst 1 [.int .i64 p0.at_]),(54,.int .i64 1),(55,.int .i64 0)] [⟨0,1,true,[.int .i64 p0.at_,Co [p0,p1,p2]]⟩] ?_ ?_
 ·(with_reducible repeat'(first|(simp(disch:=omega)only[push_cast,↓zz,seval,e1,e2])|refine Aa ?_ ?_|(first|refine Ac ?_ ?_|refine Ab ?_ ?_)<;>intro hc<;>(try simp only[push_cast] at hc)|omega|intro _))
  all_goals (simp only[DO,e1,e2];done)
 (with_reducible repeat'(first|(simp(disch:=omega)only[push_cast,↓zz,seval,D5,Dx,hg,e1,e2])|refine Aa ?_ ?_|(first|refine Ac ?_ ?_|refine Ab ?_ ?_)<;>intro hc<;>(try simp only[push_cast] at hc)|refine Bj ?_|refine eQ T1 ?_|refine eQ P1 ?_|refine eK T1 ?_|refine eK P1 ?_|refine eK hF ?_|refine eK hL ?_|omega|intro _))
 all_goals ((try simp only[*,Bi,AP,Ax,AA]);(repeat'(first|(simp(disch:=omega)only[push_cast,↓zz,seval,Du])|omega|(with_reducible refine Aa ?_ ?_))))
theorem Zf(bs dr tk up sm:Int)(p0 p1 p2:Part)(sets:List (List Span))(hs:Dw sm=true)(hS:Ee [p0,p1,p2] sets)(e1:p1.at_=p0.at_)(n02:¬p0.at_=p2.at_):
 PC Tryz.prog 196 [Dv ⟨bs,dr,tk,up,sm,[p0,p1,p2]⟩,Bs sets] (.tup [AY (BR ⟨bs,dr,tk,up,sm,[p0,p1,p2]⟩ sets),.bool (Dx (BR ⟨bs,dr,tk,up,sm,[p0,p1,p2]⟩ sets))]):=by
 have hg:=AL sets;have b0:=AU (hS.parts p0 (by simp));have b1:=AU (hS.parts p1 (by simp));have b2:=AU (hS.parts p2 (by simp));have A0:=Et hs;obtain⟨T1,P1,A1⟩:=Be (a:=p0.at_) hS A0 (by omega) (by simp);have l1:atL [p0,p1,p2] p0.at_=[p0,p1]:=by simp[atL,e1,n02,Al (show p0.at_≠p2.at_ from n02)]
 rw[l1] at T1 P1;obtain⟨T2,P2,A2⟩:=Be (a:=p2.at_) hS A1 (by omega) (by simp);have l2:atL [p0,p1,p2] p2.at_=[p2]:=by simp[atL,e1,n02,Al (show p0.at_≠p2.at_ from n02)]
 rw[l2] at T2 P2;have hv:BR ⟨bs,dr,tk,up,sm,[p0,p1,p2]⟩ sets=Cf [p0,p1,p2] sets (Cf [p0,p1,p2] sets ([⟨sm,sm⟩]) p0.at_) p2.at_:=by simp[BR,Dh,Df,e1,n02,Al (show p0.at_≠p2.at_ from n02)]
 rw[hv];generalize ho1:Cf [p0,p1,p2] sets ([⟨sm,sm⟩]) p0.at_=o1 at *;generalize ht1:togL [p0,p1] (nth sets p0.at_.toNat)=t1 at *;generalize ho2:Cf [p0,p1,p2] sets (o1) p2.at_=o2 at *;generalize ht2:togL [p2] (nth sets p2.at_.toNat)=t2 at *;have hF:=C5 o2 (by have:=A2.2;omega);have hL:=CO o2 (by have:=A2.2;omega);clear hS hv ho1 ht1 l1 ho2 ht2 l2;refine BV BQ ?_;unfold BO;(with_reducible repeat'(first|(simp(disch:=omega)only[push_cast,↓zz,seval])|refine Aa ?_ ?_|(first|refine Ac ?_ ?_|refine Ab ?_ ?_)<;>intro hc<;>(try simp only[push_cast] at hc)|omega|intro _));refine BW 6 ?_;(with_reducible repeat'(first|(simp(disch:=omega)only[push_cast,↓zz,seval,xx,Ag,Am,A5,Bg,B9,Ay,B0,Bz,D5,setM,e1,n02])|refine Aa ?_ ?_|(first|refine Ac ?_ ?_|refine Ab ?_ ?_)<;>intro hc<;>(try simp only[push_cast] at hc)|refine Bj ?_|refine De [1,5] ?_|omega|intro _));refine C4 6 (λenv=>[C0 1 (env 6)]) [(1,Bs sets),(6,.map 0 1),(10,AY [⟨sm,sm⟩]),(53,.lst 1 [.int .i64 p0.at_,.int .i64 p2.at_]),(54,.int .i64 2),(55,.int .i64 0)] [⟨0,1,true,[.int .i64 p0.at_,Co [p0,p1],.int .i64 p2.at_,Co [p2]]⟩] ?_ ?_
 ·(with_reducible repeat'(first|(simp(disch:=omega)only[push_cast,↓zz,seval,e1,n02])|refine Aa ?_ ?_|(first|refine Ac ?_ ?_|refine Ab ?_ ?_)<;>intro hc<;>(try simp only[push_cast] at hc)|omega|intro _))
  all_goals (simp only[DO,e1,n02];done)
 (with_reducible repeat'(first|(simp(disch:=omega)only[push_cast,↓zz,seval,D5,Dx,hg,e1,n02])|refine Aa ?_ ?_|(first|refine Ac ?_ ?_|refine Ab ?_ ?_)<;>intro hc<;>(try simp only[push_cast] at hc)|refine Bj ?_|refine eQ T1 ?_|refine eQ P1 ?_|refine eK T1 ?_|refine eK P1 ?_|refine eQ T2 ?_|refine eQ P2 ?_|refine eK T2 ?_|refine eK P2 ?_|refine eK hF ?_|refine eK hL ?_|omega|intro _))
 all_goals ((try simp only[*,Bi,AP,Ax,AA]);(repeat'(first|(simp(disch:=omega)only[push_cast,↓zz,seval,Du])|omega|(with_reducible refine Aa ?_ ?_))))
theorem Zg(bs dr tk up sm:Int)(p0 p1 p2:Part)(sets:List (List Span))(hs:Dw sm=true)(hS:Ee [p0,p1,p2] sets)(e2:p2.at_=p0.at_)(n01:¬p0.at_=p1.at_):
 PC Tryz.prog 196 [Dv ⟨bs,dr,tk,up,sm,[p0,p1,p2]⟩,Bs sets] (.tup [AY (BR ⟨bs,dr,tk,up,sm,[p0,p1,p2]⟩ sets),.bool (Dx (BR ⟨bs,dr,tk,up,sm,[p0,p1,p2]⟩ sets))]):=by
 have hg:=AL sets;have b0:=AU (hS.parts p0 (by simp));have b1:=AU (hS.parts p1 (by simp));have b2:=AU (hS.parts p2 (by simp));have A0:=Et hs;obtain⟨T1,P1,A1⟩:=Be (a:=p0.at_) hS A0 (by omega) (by simp);have l1:atL [p0,p1,p2] p0.at_=[p0,p2]:=by simp[atL,e2,n01,Al (show p0.at_≠p1.at_ from n01)]
 rw[l1] at T1 P1;obtain⟨T2,P2,A2⟩:=Be (a:=p1.at_) hS A1 (by omega) (by simp);have l2:atL [p0,p1,p2] p1.at_=[p1]:=by simp[atL,e2,n01,Al (show p0.at_≠p1.at_ from n01)]
 rw[l2] at T2 P2;have hv:BR ⟨bs,dr,tk,up,sm,[p0,p1,p2]⟩ sets=Cf [p0,p1,p2] sets (Cf [p0,p1,p2] sets ([⟨sm,sm⟩]) p0.at_) p1.at_:=by simp[BR,Dh,Df,e2,n01,Al (show p0.at_≠p1.at_ from n01)]
 rw[hv];generalize ho1:Cf [p0,p1,p2] sets ([⟨sm,sm⟩]) p0.at_=o1 at *;generalize ht1:togL [p0,p2] (nth sets p0.at_.toNat)=t1 at *;generalize ho2:Cf [p0,p1,p2] sets (o1) p1.at_=o2 at *;generalize ht2:togL [p1] (nth sets p1.at_.toNat)=t2 at *;have hF:=C5 o2 (by have:=A2.2;omega);have hL:=CO o2 (by have:=A2.2;omega);clear hS hv ho1 ht1 l1 ho2 ht2 l2;refine BV BQ ?_;unfold BO;(with_reducible repeat'(first|(simp(disch:=omega)only[push_cast,↓zz,seval])|refine Aa ?_ ?_|(first|refine Ac ?_ ?_|refine Ab ?_ ?_)<;>intro hc<;>(try simp only[push_cast] at hc)|omega|intro _));refine BW 6 ?_;(with_reducible repeat'(first|(simp(disch:=omega)only[push_cast,↓zz,seval,xx,Ag,Am,A5,Bg,B9,Ay,B0,Bz,D5,setM,e2,n01])|refine Aa ?_ ?_|(first|refine Ac ?_ ?_|refine Ab ?_ ?_)<;>intro hc<;>(try simp only[push_cast] at hc)|refine Bj ?_|refine De [1,5] ?_|omega|intro _));refine C4 6 (λenv=>[C0 1 (env 6)]) [(1,Bs sets),(6,.map 0 1),(10,AY [⟨sm,sm⟩]),(53,.lst 1 [.int .i64 p0.at_,.int .i64 p1.at_]),(54,.int .i64 2),(55,.int .i64 0)] [⟨0,1,true,[.int .i64 p0.at_,Co [p0,p2],.int .i64 p1.at_,Co [p1]]⟩] ?_ ?_
 ·(with_reducible repeat'(first|(simp(disch:=omega)only[push_cast,↓zz,seval,e2,n01])|refine Aa ?_ ?_|(first|refine Ac ?_ ?_|refine Ab ?_ ?_)<;>intro hc<;>(try simp only[push_cast] at hc)|omega|intro _))
  all_goals (simp only[DO,e2,n01];done)
 (with_reducible repeat'(first|(simp(disch:=omega)only[push_cast,↓zz,seval,D5,Dx,hg,e2,n01])|refine Aa ?_ ?_|(first|refine Ac ?_ ?_|refine Ab ?_ ?_)<;>intro hc<;>(try simp only[push_cast] at hc)|refine Bj ?_|refine eQ T1 ?_|refine eQ P1 ?_|refine eK T1 ?_|refine eK P1 ?_|refine eQ T2 ?_|refine eQ P2 ?_|refine eK T2 ?_|refine eK P2 ?_|refine eK hF ?_|refine eK hL ?_|omega|intro _))
 all_goals ((try simp only[*,Bi,AP,Ax,AA]);(repeat'(first|(simp(disch:=omega)only[push_cast,↓zz,seval,Du])|omega|(with_reducible refine Aa ?_ ?_))))
theorem Zh(bs dr tk up sm:Int)(p0 p1 p2:Part)(sets:List (List Span))(hs:Dw sm=true)(hS:Ee [p0,p1,p2] sets)(e2:p2.at_=p1.at_)(n01:¬p0.at_=p1.at_):
 PC Tryz.prog 196 [Dv ⟨bs,dr,tk,up,sm,[p0,p1,p2]⟩,Bs sets] (.tup [AY (BR ⟨bs,dr,tk,up,sm,[p0,p1,p2]⟩ sets),.bool (Dx (BR ⟨bs,dr,tk,up,sm,[p0,p1,p2]⟩ sets))]):=by
 have hg:=AL sets;have b0:=AU (hS.parts p0 (by simp));have b1:=AU (hS.parts p1 (by simp));have b2:=AU (hS.parts p2 (by simp));have A0:=Et hs;obtain⟨T1,P1,A1⟩:=Be (a:=p0.at_) hS A0 (by omega) (by simp);have l1:atL [p0,p1,p2] p0.at_=[p0]:=by simp[atL,e2,n01,Al (show p0.at_≠p1.at_ from n01)]
 rw[l1] at T1 P1;obtain⟨T2,P2,A2⟩:=Be (a:=p1.at_) hS A1 (by omega) (by simp);have l2:atL [p0,p1,p2] p1.at_=[p1,p2]:=by simp[atL,e2,n01,Al (show p0.at_≠p1.at_ from n01)]
 rw[l2] at T2 P2;have hv:BR ⟨bs,dr,tk,up,sm,[p0,p1,p2]⟩ sets=Cf [p0,p1,p2] sets (Cf [p0,p1,p2] sets ([⟨sm,sm⟩]) p0.at_) p1.at_:=by simp[BR,Dh,Df,e2,n01,Al (show p0.at_≠p1.at_ from n01)]
 rw[hv];generalize ho1:Cf [p0,p1,p2] sets ([⟨sm,sm⟩]) p0.at_=o1 at *;generalize ht1:togL [p0] (nth sets p0.at_.toNat)=t1 at *;generalize ho2:Cf [p0,p1,p2] sets (o1) p1.at_=o2 at *;generalize ht2:togL [p1,p2] (nth sets p1.at_.toNat)=t2 at *;have hF:=C5 o2 (by have:=A2.2;omega);have hL:=CO o2 (by have:=A2.2;omega);clear hS hv ho1 ht1 l1 ho2 ht2 l2;refine BV BQ ?_;unfold BO;(with_reducible repeat'(first|(simp(disch:=omega)only[push_cast,↓zz,seval])|refine Aa ?_ ?_|(first|refine Ac ?_ ?_|refine Ab ?_ ?_)<;>intro hc<;>(try simp only[push_cast] at hc)|omega|intro _));refine BW 6 ?_;(with_reducible repeat'(first|(simp(disch:=omega)only[push_cast,↓zz,seval,xx,Ag,Am,A5,Bg,B9,Ay,B0,Bz,D5,setM,e2,n01])|refine Aa ?_ ?_|(first|refine Ac ?_ ?_|refine Ab ?_ ?_)<;>intro hc<;>(try simp only[push_cast] at hc)|refine Bj ?_|refine De [1,8] ?_|omega|intro _));refine C4 6 (λenv=>[C0 1 (env 6)]) [(1,Bs sets),(6,.map 0 1),(10,AY [⟨sm,sm⟩]),(53,.lst 1 [.int .i64 p0.at_,.int .i64 p1.at_]),(54,.int .i64 2),(55,.int .i64 0)] [⟨0,1,true,[.int .i64 p0.at_,Co [p0],.int .i64 p1.at_,Co [p1,p2]]⟩] ?_ ?_
 ·(with_reducible repeat'(first|(simp(disch:=omega)only[push_cast,↓zz,seval,e2,n01])|refine Aa ?_ ?_|(first|refine Ac ?_ ?_|refine Ab ?_ ?_)<;>intro hc<;>(try simp only[push_cast] at hc)|omega|intro _))
  all_goals (simp only[DO,e2,n01];done)
 (with_reducible repeat'(first|(simp(disch:=omega)only[push_cast,↓zz,seval,D5,Dx,hg,e2,n01])|refine Aa ?_ ?_|(first|refine Ac ?_ ?_|refine Ab ?_ ?_)<;>intro hc<;>(try simp only[push_cast] at hc)|refine Bj ?_|refine eQ T1 ?_|refine eQ P1 ?_|refine eK T1 ?_|refine eK P1 ?_|refine eQ T2 ?_|refine eQ P2 ?_|refine eK T2 ?_|refine eK P2 ?_|refine eK hF ?_|refine eK hL ?_|omega|intro _))
 all_goals ((try simp only[*,Bi,AP,Ax,AA]);(repeat'(first|(simp(disch:=omega)only[push_cast,↓zz,seval,Du])|omega|(with_reducible refine Aa ?_ ?_))))
theorem Zi(bs dr tk up sm:Int)(p0 p1 p2:Part)(sets:List (List Span))(hs:Dw sm=true)(hS:Ee [p0,p1,p2] sets)(n01:¬p0.at_=p1.at_)(n02:¬p0.at_=p2.at_)(n12:¬p1.at_=p2.at_):
 PC Tryz.prog 196 [Dv ⟨bs,dr,tk,up,sm,[p0,p1,p2]⟩,Bs sets] (.tup [AY (BR ⟨bs,dr,tk,up,sm,[p0,p1,p2]⟩ sets),.bool (Dx (BR ⟨bs,dr,tk,up,sm,[p0,p1,p2]⟩ sets))]):=by
 have hg:=AL sets;have b0:=AU (hS.parts p0 (by simp));have b1:=AU (hS.parts p1 (by simp));have b2:=AU (hS.parts p2 (by simp));have A0:=Et hs;obtain⟨T1,P1,A1⟩:=Be (a:=p0.at_) hS A0 (by omega) (by simp);have l1:atL [p0,p1,p2] p0.at_=[p0]:=by simp[atL,n01,n02,n12,Al (show p0.at_≠p1.at_ from n01),Al (show p0.at_≠p2.at_ from n02),Al (show p1.at_≠p2.at_ from n12)]
 rw[l1] at T1 P1;obtain⟨T2,P2,A2⟩:=Be (a:=p1.at_) hS A1 (by omega) (by simp);have l2:atL [p0,p1,p2] p1.at_=[p1]:=by simp[atL,n01,n02,n12,Al (show p0.at_≠p1.at_ from n01),Al (show p0.at_≠p2.at_ from n02),Al (show p1.at_≠p2.at_ from n12)]
 rw[l2] at T2 P2;obtain⟨T3,P3,A3⟩:=Be (a:=p2.at_) hS A2 (by omega) (by simp);have l3:atL [p0,p1,p2] p2.at_=[p2]:=by simp[atL,n01,n02,n12,Al (show p0.at_≠p1.at_ from n01),Al (show p0.at_≠p2.at_ from n02),Al (show p1.at_≠p2.at_ from n12)]
 rw[l3] at T3 P3;have hv:BR ⟨bs,dr,tk,up,sm,[p0,p1,p2]⟩ sets=Cf [p0,p1,p2] sets (Cf [p0,p1,p2] sets (Cf [p0,p1,p2] sets ([⟨sm,sm⟩]) p0.at_) p1.at_) p2.at_:=by simp[BR,Dh,Df,n01,n02,n12,Al (show p0.at_≠p1.at_ from n01),Al (show p0.at_≠p2.at_ from n02),Al (show p1.at_≠p2.at_ from n12)]
 rw[hv];generalize ho1:Cf [p0,p1,p2] sets ([⟨sm,sm⟩]) p0.at_=o1 at *;generalize ht1:togL [p0] (nth sets p0.at_.toNat)=t1 at *;generalize ho2:Cf [p0,p1,p2] sets (o1) p1.at_=o2 at *;generalize ht2:togL [p1] (nth sets p1.at_.toNat)=t2 at *;generalize ho3:Cf [p0,p1,p2] sets (o2) p2.at_=o3 at *;generalize ht3:togL [p2] (nth sets p2.at_.toNat)=t3 at *;have hF:=C5 o3 (by have:=A3.2;omega);have hL:=CO o3 (by have:=A3.2;omega);clear hS hv ho1 ht1 l1 ho2 ht2 l2 ho3 ht3 l3;refine BV BQ ?_;unfold BO;(with_reducible repeat'(first|(simp(disch:=omega)only[push_cast,↓zz,seval])|refine Aa ?_ ?_|(first|refine Ac ?_ ?_|refine Ab ?_ ?_)<;>intro hc<;>(try simp only[push_cast] at hc)|omega|intro _));refine BW 6 ?_;(with_reducible repeat'(first|(simp(disch:=omega)only[push_cast,↓zz,seval,xx,Ag,Am,A5,Bg,B9,Ay,B0,Bz,D5,setM,n01,n02,n12])|refine Aa ?_ ?_|(first|refine Ac ?_ ?_|refine Ab ?_ ?_)<;>intro hc<;>(try simp only[push_cast] at hc)|refine Bj ?_|refine De [1] ?_|omega|intro _));refine C4 6 (λenv=>[C0 1 (env 6)]) [(1,Bs sets),(6,.map 0 1),(10,AY [⟨sm,sm⟩]),(53,.lst 1 [.int .i64 p0.at_,.int .i64 p1.at_,.int .i64 p2.at_]),(54,.int .i64 3),(55,.int .i64 0)] [⟨0,1,true,[.int .i64 p0.at_,Co [p0],.int .i64 p1.at_,Co [p1],.int .i64 p2.at_,Co [p2]]⟩] ?_ ?_
 ·(with_reducible repeat'(first|(simp(disch:=omega)only[push_cast,↓zz,seval,n01,n02,n12])|refine Aa ?_ ?_|(first|refine Ac ?_ ?_|refine Ab ?_ ?_)<;>intro hc<;>(try simp only[push_cast] at hc)|omega|intro _))
  all_goals (simp only[DO,n01,n02,n12];done)
 (with_reducible repeat'(first|(simp(disch:=omega)only[push_cast,↓zz,seval,D5,Dx,hg,n01,n02,n12])|refine Aa ?_ ?_|(first|refine Ac ?_ ?_|refine Ab ?_ ?_)<;>intro hc<;>(try simp only[push_cast] at hc)|refine Bj ?_|refine eQ T1 ?_|refine eQ P1 ?_|refine eK T1 ?_|refine eK P1 ?_|refine eQ T2 ?_|refine eQ P2 ?_|refine eK T2 ?_|refine eK P2 ?_|refine eQ T3 ?_|refine eQ P3 ?_|refine eK T3 ?_|refine eK P3 ?_|refine eK hF ?_|refine eK hL ?_|omega|intro _))
 all_goals ((try simp only[*,Bi,AP,Ax,AA]);(repeat'(first|(simp(disch:=omega)only[push_cast,↓zz,seval,Du])|omega|(with_reducible refine Aa ?_ ?_))))
theorem za6(bs dr tk up sm:Int)(p0 p1 p2:Part)(sets:List (List Span))(hs:Dw sm=true)(hS:Ee [p0,p1,p2] sets):
 PC Tryz.prog 196 [Dv ⟨bs,dr,tk,up,sm,[p0,p1,p2]⟩,Bs sets] (.tup [AY (BR ⟨bs,dr,tk,up,sm,[p0,p1,p2]⟩ sets),.bool (Dx (BR ⟨bs,dr,tk,up,sm,[p0,p1,p2]⟩ sets))]):=by
 rcases BN (p1.at_=p0.at_) with e1|x01
 ·skip
  rcases BN (p2.at_=p0.at_) with e2|x02
  ·skip
   exact Ze bs dr tk up sm p0 p1 p2 sets hs hS e1 e2
  have n02:¬p0.at_=p2.at_:=λh=>x02 h.symm;exact Zf bs dr tk up sm p0 p1 p2 sets hs hS e1 n02
 have n01:¬p0.at_=p1.at_:=λh=>x01 h.symm;rcases BN (p2.at_=p0.at_) with e2|x02
 ·skip
  exact Zg bs dr tk up sm p0 p1 p2 sets hs hS e2 n01
 have n02:¬p0.at_=p2.at_:=λh=>x02 h.symm;rcases BN (p2.at_=p1.at_) with e2|x12
 ·skip
  exact Zh bs dr tk up sm p0 p1 p2 sets hs hS e2 n01
 have n12:¬p1.at_=p2.at_:=λh=>x12 h.symm;exact Zi bs dr tk up sm p0 p1 p2 sets hs hS n01 n02 n12
theorem Zj(bs dr tk up sm:Int)(p0 p1 p2 p3:Part)(sets:List (List Span))(hs:Dw sm=true)(hS:Ee [p0,p1,p2,p3] sets)(e1:p1.at_=p0.at_)(e2:p2.at_=p0.at_)(e3:p3.at_=p0.at_):
 PC Tryz.prog 196 [Dv ⟨bs,dr,tk,up,sm,[p0,p1,p2,p3]⟩,Bs sets] (.tup [AY (BR ⟨bs,dr,tk,up,sm,[p0,p1,p2,p3]⟩ sets),.bool (Dx (BR ⟨bs,dr,tk,up,sm,[p0,p1,p2,p3]⟩ sets))]):=by
 have hg:=AL sets;have b0:=AU (hS.parts p0 (by simp));have b1:=AU (hS.parts p1 (by simp));have b2:=AU (hS.parts p2 (by simp));have b3:=AU (hS.parts p3 (by simp));have A0:=Et hs;obtain⟨T1,P1,A1⟩:=Be (a:=p0.at_) hS A0 (by omega) (by simp);have l1:atL [p0,p1,p2,p3] p0.at_=[p0,p1,p2,p3]:=by simp[atL,e1,e2,e3]
 rw[l1] at T1 P1;have hv:BR ⟨bs,dr,tk,up,sm,[p0,p1,p2,p3]⟩ sets=Cf [p0,p1,p2,p3] sets ([⟨sm,sm⟩]) p0.at_:=by simp[BR,Dh,Df,e1,e2,e3]
 rw[hv];generalize ho1:Cf [p0,p1,p2,p3] sets ([⟨sm,sm⟩]) p0.at_=o1 at *;generalize ht1:togL [p0,p1,p2,p3] (nth sets p0.at_.toNat)=t1 at *;have hF:=C5 o1 (by have:=A1.2;omega);have hL:=CO o1 (by have:=A1.2;omega);clear hS hv ho1 ht1 l1;refine BV BQ ?_;unfold BO;(with_reducible repeat'(first|(simp(disch:=omega)only[push_cast,↓zz,seval])|refine Aa ?_ ?_|(first|refine Ac ?_ ?_|refine Ab ?_ ?_)<;>intro hc<;>(try simp only[push_cast] at hc)|omega|intro _));refine BW 6 ?_;(with_reducible repeat'(first|(simp(disch:=omega)only[push_cast,↓zz,seval,xx,Ag,Am,A5,Bg,B9,Ay,B0,Bz,D5,setM,e1,e2,e3])|refine Aa ?_ ?_|(first|refine Ac ?_ ?_|refine Ab ?_ ?_)<;>intro hc<;>(try simp only[push_cast] at hc)|refine Bj ?_|refine De [1,5] ?_|omega|intro _));refine C4 6 (λenv=>[C0 1 (env 6)]) [(1,Bs sets),(6,.map 0 1),(10,AY [⟨sm,sm⟩]),(53,.lst 1 [.int .i64 p0.at_]),(54,.int .i64 1),(55,.int .i64 0)] [⟨0,1,true,[.int .i64 p0.at_,Co [p0,p1,p2,p3]]⟩] ?_ ?_
 ·(with_reducible repeat'(first|(simp(disch:=omega)only[push_cast,↓zz,seval,e1,e2,e3])|refine Aa ?_ ?_|(first|refine Ac ?_ ?_|refine Ab ?_ ?_)<;>intro hc<;>(try simp only[push_cast] at hc)|omega|intro _))
  all_goals (simp only[DO,e1,e2,e3];done)
 (with_reducible repeat'(first|(simp(disch:=omega)only[push_cast,↓zz,seval,D5,Dx,hg,e1,e2,e3])|refine Aa ?_ ?_|(first|refine Ac ?_ ?_|refine Ab ?_ ?_)<;>intro hc<;>(try simp only[push_cast] at hc)|refine Bj ?_|refine eQ T1 ?_|refine eQ P1 ?_|refine eK T1 ?_|refine eK P1 ?_|refine eK hF ?_|refine eK hL ?_|omega|intro _))
 all_goals ((try simp only[*,Bi,AP,Ax,AA]);(repeat'(first|(simp(disch:=omega)only[push_cast,↓zz,seval,Du])|omega|(with_reducible refine Aa ?_ ?_))))
theorem Zk(bs dr tk up sm:Int)(p0 p1 p2 p3:Part)(sets:List (List Span))(hs:Dw sm=true)(hS:Ee [p0,p1,p2,p3] sets)(e1:p1.at_=p0.at_)(e2:p2.at_=p0.at_)(n03:¬p0.at_=p3.at_):
 PC Tryz.prog 196 [Dv ⟨bs,dr,tk,up,sm,[p0,p1,p2,p3]⟩,Bs sets] (.tup [AY (BR ⟨bs,dr,tk,up,sm,[p0,p1,p2,p3]⟩ sets),.bool (Dx (BR ⟨bs,dr,tk,up,sm,[p0,p1,p2,p3]⟩ sets))]):=by
 have hg:=AL sets;have b0:=AU (hS.parts p0 (by simp));have b1:=AU (hS.parts p1 (by simp));have b2:=AU (hS.parts p2 (by simp));have b3:=AU (hS.parts p3 (by simp));have A0:=Et hs;obtain⟨T1,P1,A1⟩:=Be (a:=p0.at_) hS A0 (by omega) (by simp);have l1:atL [p0,p1,p2,p3] p0.at_=[p0,p1,p2]:=by simp[atL,e1,e2,n03,Al (show p0.at_≠p3.at_ from n03)]
 rw[l1] at T1 P1;obtain⟨T2,P2,A2⟩:=Be (a:=p3.at_) hS A1 (by omega) (by simp);have l2:atL [p0,p1,p2,p3] p3.at_=[p3]:=by simp[atL,e1,e2,n03,Al (show p0.at_≠p3.at_ from n03)]
 rw[l2] at T2 P2;have hv:BR ⟨bs,dr,tk,up,sm,[p0,p1,p2,p3]⟩ sets=Cf [p0,p1,p2,p3] sets (Cf [p0,p1,p2,p3] sets ([⟨sm,sm⟩]) p0.at_) p3.at_:=by simp[BR,Dh,Df,e1,e2,n03,Al (show p0.at_≠p3.at_ from n03)]
 rw[hv];generalize ho1:Cf [p0,p1,p2,p3] sets ([⟨sm,sm⟩]) p0.at_=o1 at *;generalize ht1:togL [p0,p1,p2] (nth sets p0.at_.toNat)=t1 at *;generalize ho2:Cf [p0,p1,p2,p3] sets (o1) p3.at_=o2 at *;generalize ht2:togL [p3] (nth sets p3.at_.toNat)=t2 at *;have hF:=C5 o2 (by have:=A2.2;omega);have hL:=CO o2 (by have:=A2.2;omega);clear hS hv ho1 ht1 l1 ho2 ht2 l2;refine BV BQ ?_;unfold BO;(with_reducible repeat'(first|(simp(disch:=omega)only[push_cast,↓zz,seval])|refine Aa ?_ ?_|(first|refine Ac ?_ ?_|refine Ab ?_ ?_)<;>intro hc<;>(try simp only[push_cast] at hc)|omega|intro _));refine BW 6 ?_;(with_reducible repeat'(first|(simp(disch:=omega)only[push_cast,↓zz,seval,xx,Ag,Am,A5,Bg,B9,Ay,B0,Bz,D5,setM,e1,e2,n03])|refine Aa ?_ ?_|(first|refine Ac ?_ ?_|refine Ab ?_ ?_)<;>intro hc<;>(try simp only[push_cast] at hc)|refine Bj ?_|refine De [1,5] ?_|omega|intro _));refine C4 6 (λenv=>[C0 1 (env 6)]) [(1,Bs sets),(6,.map 0 1),(10,AY [⟨sm,sm⟩]),(53,.lst 1 [.int .i64 p0.at_,.int .i64 p3.at_]),(54,.int .i64 2),(55,.int .i64 0)] [⟨0,1,true,[.int .i64 p0.at_,Co [p0,p1,p2],.int .i64 p3.at_,Co [p3]]⟩] ?_ ?_
 ·(with_reducible repeat'(first|(simp(disch:=omega)only[push_cast,↓zz,seval,e1,e2,n03])|refine Aa ?_ ?_|(first|refine Ac ?_ ?_|refine Ab ?_ ?_)<;>intro hc<;>(try simp only[push_cast] at hc)|omega|intro _))
  all_goals (simp only[DO,e1,e2,n03];done)
 (with_reducible repeat'(first|(simp(disch:=omega)only[push_cast,↓zz,seval,D5,Dx,hg,e1,e2,n03])|refine Aa ?_ ?_|(first|refine Ac ?_ ?_|refine Ab ?_ ?_)<;>intro hc<;>(try simp only[push_cast] at hc)|refine Bj ?_|refine eQ T1 ?_|refine eQ P1 ?_|refine eK T1 ?_|refine eK P1 ?_|refine eQ T2 ?_|refine eQ P2 ?_|refine eK T2 ?_|refine eK P2 ?_|refine eK hF ?_|refine eK hL ?_|omega|intro _))
 all_goals ((try simp only[*,Bi,AP,Ax,AA]);(repeat'(first|(simp(disch:=omega)only[push_cast,↓zz,seval,Du])|omega|(with_reducible refine Aa ?_ ?_))))
theorem Zl(bs dr tk up sm:Int)(p0 p1 p2 p3:Part)(sets:List (List Span))(hs:Dw sm=true)(hS:Ee [p0,p1,p2,p3] sets)(e1:p1.at_=p0.at_)(e3:p3.at_=p0.at_)(n02:¬p0.at_=p2.at_):
 PC Tryz.prog 196 [Dv ⟨bs,dr,tk,up,sm,[p0,p1,p2,p3]⟩,Bs sets] (.tup [AY (BR ⟨bs,dr,tk,up,sm,[p0,p1,p2,p3]⟩ sets),.bool (Dx (BR ⟨bs,dr,tk,up,sm,[p0,p1,p2,p3]⟩ sets))]):=by
 have hg:=AL sets;have b0:=AU (hS.parts p0 (by simp));have b1:=AU (hS.parts p1 (by simp));have b2:=AU (hS.parts p2 (by simp));have b3:=AU (hS.parts p3 (by simp));have A0:=Et hs;obtain⟨T1,P1,A1⟩:=Be (a:=p0.at_) hS A0 (by omega) (by simp);have l1:atL [p0,p1,p2,p3] p0.at_=[p0,p1,p3]:=by simp[atL,e1,e3,n02,Al (show p0.at_≠p2.at_ from n02)]
 rw[l1] at T1 P1;obtain⟨T2,P2,A2⟩:=Be (a:=p2.at_) hS A1 (by omega) (by simp);have l2:atL [p0,p1,p2,p3] p2.at_=[p2]:=by simp[atL,e1,e3,n02,Al (show p0.at_≠p2.at_ from n02)]
 rw[l2] at T2 P2;have hv:BR ⟨bs,dr,tk,up,sm,[p0,p1,p2,p3]⟩ sets=Cf [p0,p1,p2,p3] sets (Cf [p0,p1,p2,p3] sets ([⟨sm,sm⟩]) p0.at_) p2.at_:=by simp[BR,Dh,Df,e1,e3,n02,Al (show p0.at_≠p2.at_ from n02)]
 rw[hv];generalize ho1:Cf [p0,p1,p2,p3] sets ([⟨sm,sm⟩]) p0.at_=o1 at *;generalize ht1:togL [p0,p1,p3] (nth sets p0.at_.toNat)=t1 at *;generalize ho2:Cf [p0,p1,p2,p3] sets (o1) p2.at_=o2 at *;generalize ht2:togL [p2] (nth sets p2.at_.toNat)=t2 at *;have hF:=C5 o2 (by have:=A2.2;omega);have hL:=CO o2 (by have:=A2.2;omega);clear hS hv ho1 ht1 l1 ho2 ht2 l2;refine BV BQ ?_;unfold BO;(with_reducible repeat'(first|(simp(disch:=omega)only[push_cast,↓zz,seval])|refine Aa ?_ ?_|(first|refine Ac ?_ ?_|refine Ab ?_ ?_)<;>intro hc<;>(try simp only[push_cast] at hc)|omega|intro _));refine BW 6 ?_;(with_reducible repeat'(first|(simp(disch:=omega)only[push_cast,↓zz,seval,xx,Ag,Am,A5,Bg,B9,Ay,B0,Bz,D5,setM,e1,e3,n02])|refine Aa ?_ ?_|(first|refine Ac ?_ ?_|refine Ab ?_ ?_)<;>intro hc<;>(try simp only[push_cast] at hc)|refine Bj ?_|refine De [1,5] ?_|omega|intro _));refine C4 6 (λenv=>[C0 1 (env 6)]) [(1,Bs sets),(6,.map 0 1),(10,AY [⟨sm,sm⟩]),(53,.lst 1 [.int .i64 p0.at_,.int .i64 p2.at_]),(54,.int .i64 2),(55,.int .i64 0)] [⟨0,1,true,[.int .i64 p0.at_,Co [p0,p1,p3],.int .i64 p2.at_,Co [p2]]⟩] ?_ ?_
 ·(with_reducible repeat'(first|(simp(disch:=omega)only[push_cast,↓zz,seval,e1,e3,n02])|refine Aa ?_ ?_|(first|refine Ac ?_ ?_|refine Ab ?_ ?_)<;>intro hc<;>(try simp only[push_cast] at hc)|omega|intro _))
  all_goals (simp only[DO,e1,e3,n02];done)
 (with_reducible repeat'(first|(simp(disch:=omega)only[push_cast,↓zz,seval,D5,Dx,hg,e1,e3,n02])|refine Aa ?_ ?_|(first|refine Ac ?_ ?_|refine Ab ?_ ?_)<;>intro hc<;>(try simp only[push_cast] at hc)|refine Bj ?_|refine eQ T1 ?_|refine eQ P1 ?_|refine eK T1 ?_|refine eK P1 ?_|refine eQ T2 ?_|refine eQ P2 ?_|refine eK T2 ?_|refine eK P2 ?_|refine eK hF ?_|refine eK hL ?_|omega|intro _))
 all_goals ((try simp only[*,Bi,AP,Ax,AA]);(repeat'(first|(simp(disch:=omega)only[push_cast,↓zz,seval,Du])|omega|(with_reducible refine Aa ?_ ?_))))
theorem Zm(bs dr tk up sm:Int)(p0 p1 p2 p3:Part)(sets:List (List Span))(hs:Dw sm=true)(hS:Ee [p0,p1,p2,p3] sets)(e1:p1.at_=p0.at_)(e3:p3.at_=p2.at_)(n02:¬p0.at_=p2.at_):
 PC Tryz.prog 196 [Dv ⟨bs,dr,tk,up,sm,[p0,p1,p2,p3]⟩,Bs sets] (.tup [AY (BR ⟨bs,dr,tk,up,sm,[p0,p1,p2,p3]⟩ sets),.bool (Dx (BR ⟨bs,dr,tk,up,sm,[p0,p1,p2,p3]⟩ sets))]):=by
 have hg:=AL sets;have b0:=AU (hS.parts p0 (by simp));have b1:=AU (hS.parts p1 (by simp));have b2:=AU (hS.parts p2 (by simp));have b3:=AU (hS.parts p3 (by simp));have A0:=Et hs;obtain⟨T1,P1,A1⟩:=Be (a:=p0.at_) hS A0 (by omega) (by simp);have l1:atL [p0,p1,p2,p3] p0.at_=[p0,p1]:=by simp[atL,e1,e3,n02,Al (show p0.at_≠p2.at_ from n02)]
 rw[l1] at T1 P1;obtain⟨T2,P2,A2⟩:=Be (a:=p2.at_) hS A1 (by omega) (by simp);have l2:atL [p0,p1,p2,p3] p2.at_=[p2,p3]:=by simp[atL,e1,e3,n02,Al (show p0.at_≠p2.at_ from n02)]
 rw[l2] at T2 P2;have hv:BR ⟨bs,dr,tk,up,sm,[p0,p1,p2,p3]⟩ sets=Cf [p0,p1,p2,p3] sets (Cf [p0,p1,p2,p3] sets ([⟨sm,sm⟩]) p0.at_) p2.at_:=by simp[BR,Dh,Df,e1,e3,n02,Al (show p0.at_≠p2.at_ from n02)]
 rw[hv];generalize ho1:Cf [p0,p1,p2,p3] sets ([⟨sm,sm⟩]) p0.at_=o1 at *;generalize ht1:togL [p0,p1] (nth sets p0.at_.toNat)=t1 at *;generalize ho2:Cf [p0,p1,p2,p3] sets (o1) p2.at_=o2 at *;generalize ht2:togL [p2,p3] (nth sets p2.at_.toNat)=t2 at *;have hF:=C5 o2 (by have:=A2.2;omega);have hL:=CO o2 (by have:=A2.2;omega);clear hS hv ho1 ht1 l1 ho2 ht2 l2;refine BV BQ ?_;unfold BO;(with_reducible repeat'(first|(simp(disch:=omega)only[push_cast,↓zz,seval])|refine Aa ?_ ?_|(first|refine Ac ?_ ?_|refine Ab ?_ ?_)<;>intro hc<;>(try simp only[push_cast] at hc)|omega|intro _));refine BW 6 ?_;(with_reducible repeat'(first|(simp(disch:=omega)only[push_cast,↓zz,seval,xx,Ag,Am,A5,Bg,B9,Ay,B0,Bz,D5,setM,e1,e3,n02])|refine Aa ?_ ?_|(first|refine Ac ?_ ?_|refine Ab ?_ ?_)<;>intro hc<;>(try simp only[push_cast] at hc)|refine Bj ?_|refine De [1,5,9] ?_|omega|intro _));refine C4 6 (λenv=>[C0 1 (env 6)]) [(1,Bs sets),(6,.map 0 1),(10,AY [⟨sm,sm⟩]),(53,.lst 1 [.int .i64 p0.at_,.int .i64 p2.at_]),(54,.int .i64 2),(55,.int .i64 0)] [⟨0,1,true,[.int .i64 p0.at_,Co [p0,p1],.int .i64 p2.at_,Co [p2,p3]]⟩] ?_ ?_
 ·(with_reducible repeat'(first|(simp(disch:=omega)only[push_cast,↓zz,seval,e1,e3,n02])|refine Aa ?_ ?_|(first|refine Ac ?_ ?_|refine Ab ?_ ?_)<;>intro hc<;>(try simp only[push_cast] at hc)|omega|intro _))
  all_goals (simp only[DO,e1,e3,n02];done)
 (with_reducible repeat'(first|(simp(disch:=omega)only[push_cast,↓zz,seval,D5,Dx,hg,e1,e3,n02])|refine Aa ?_ ?_|(first|refine Ac ?_ ?_|refine Ab ?_ ?_)<;>intro hc<;>(try simp only[push_cast] at hc)|refine Bj ?_|refine eQ T1 ?_|refine eQ P1 ?_|refine eK T1 ?_|refine eK P1 ?_|refine eQ T2 ?_|refine eQ P2 ?_|refine eK T2 ?_|refine eK P2 ?_|refine eK hF ?_|refine eK hL ?_|omega|intro _))
 all_goals ((try simp only[*,Bi,AP,Ax,AA]);(repeat'(first|(simp(disch:=omega)only[push_cast,↓zz,seval,Du])|omega|(with_reducible refine Aa ?_ ?_))))
theorem Zn(bs dr tk up sm:Int)(p0 p1 p2 p3:Part)(sets:List (List Span))(hs:Dw sm=true)(hS:Ee [p0,p1,p2,p3] sets)(e1:p1.at_=p0.at_)(n02:¬p0.at_=p2.at_)(n03:¬p0.at_=p3.at_)(n23:¬p2.at_=p3.at_):
 PC Tryz.prog 196 [Dv ⟨bs,dr,tk,up,sm,[p0,p1,p2,p3]⟩,Bs sets] (.tup [AY (BR ⟨bs,dr,tk,up,sm,[p0,p1,p2,p3]⟩ sets),.bool (Dx (BR ⟨bs,dr,tk,up,sm,[p0,p1,p2,p3]⟩ sets))]):=by
 have hg:=AL sets;have b0:=AU (hS.parts p0 (by simp));have b1:=AU (hS.parts p1 (by simp));have b2:=AU (hS.parts p2 (by simp));have b3:=AU (hS.parts p3 (by simp));have A0:=Et hs;obtain⟨T1,P1,A1⟩:=Be (a:=p0.at_) hS A0 (by omega) (by simp);have l1:atL [p0,p1,p2,p3] p0.at_=[p0,p1]:=by simp[atL,e1,n02,n03,n23,Al (show p0.at_≠p2.at_ from n02),Al (show p0.at_≠p3.at_ from n03),Al (show p2.at_≠p3.at_ from n23)]
 rw[l1] at T1 P1;obtain⟨T2,P2,A2⟩:=Be (a:=p2.at_) hS A1 (by omega) (by simp);have l2:atL [p0,p1,p2,p3] p2.at_=[p2]:=by simp[atL,e1,n02,n03,n23,Al (show p0.at_≠p2.at_ from n02),Al (show p0.at_≠p3.at_ from n03),Al (show p2.at_≠p3.at_ from n23)]
 rw[l2] at T2 P2;obtain⟨T3,P3,A3⟩:=Be (a:=p3.at_) hS A2 (by omega) (by simp);have l3:atL [p0,p1,p2,p3] p3.at_=[p3]:=by simp[atL,e1,n02,n03,n23,Al (show p0.at_≠p2.at_ from n02),Al (show p0.at_≠p3.at_ from n03),Al (show p2.at_≠p3.at_ from n23)]
 rw[l3] at T3 P3;have hv:BR ⟨bs,dr,tk,up,sm,[p0,p1,p2,p3]⟩ sets=Cf [p0,p1,p2,p3] sets (Cf [p0,p1,p2,p3] sets (Cf [p0,p1,p2,p3] sets ([⟨sm,sm⟩]) p0.at_) p2.at_) p3.at_:=by simp[BR,Dh,Df,e1,n02,n03,n23,Al (show p0.at_≠p2.at_ from n02),Al (show p0.at_≠p3.at_ from n03),Al (show p2.at_≠p3.at_ from n23)]
 rw[hv];generalize ho1:Cf [p0,p1,p2,p3] sets ([⟨sm,sm⟩]) p0.at_=o1 at *;generalize ht1:togL [p0,p1] (nth sets p0.at_.toNat)=t1 at *;generalize ho2:Cf [p0,p1,p2,p3] sets (o1) p2.at_=o2 at *;generalize ht2:togL [p2] (nth sets p2.at_.toNat)=t2 at *;generalize ho3:Cf [p0,p1,p2,p3] sets (o2) p3.at_=o3 at *;generalize ht3:togL [p3] (nth sets p3.at_.toNat)=t3 at *;have hF:=C5 o3 (by have:=A3.2;omega);have hL:=CO o3 (by have:=A3.2;omega);clear hS hv ho1 ht1 l1 ho2 ht2 l2 ho3 ht3 l3;refine BV BQ ?_;unfold BO;(with_reducible repeat'(first|(simp(disch:=omega)only[push_cast,↓zz,seval])|refine Aa ?_ ?_|(first|refine Ac ?_ ?_|refine Ab ?_ ?_)<;>intro hc<;>(try simp only[push_cast] at hc)|omega|intro _));refine BW 6 ?_;(with_reducible repeat'(first|(simp(disch:=omega)only[push_cast,↓zz,seval,xx,Ag,Am,A5,Bg,B9,Ay,B0,Bz,D5,setM,e1,n02,n03,n23])|refine Aa ?_ ?_|(first|refine Ac ?_ ?_|refine Ab ?_ ?_)<;>intro hc<;>(try simp only[push_cast] at hc)|refine Bj ?_|refine De [1,5] ?_|omega|intro _));refine C4 6 (λenv=>[C0 1 (env 6)]) [(1,Bs sets),(6,.map 0 1),(10,AY [⟨sm,sm⟩]),(53,.lst 1 [.int .i64 p0.at_,.int .i64 p2.at_,.int .i64 p3.at_]),(54,.int .i64 3),(55,.int .i64 0)] [⟨0,1,true,[.int .i64 p0.at_,Co [p0,p1],.int .i64 p2.at_,Co [p2],.int .i64 p3.at_,Co [p3]]⟩] ?_ ?_
 ·(with_reducible repeat'(first|(simp(disch:=omega)only[push_cast,↓zz,seval,e1,n02,n03,n23])|refine Aa ?_ ?_|(first|refine Ac ?_ ?_|refine Ab ?_ ?_)<;>intro hc<;>(try simp only[push_cast] at hc)|omega|intro _))
  all_goals (simp only[DO,e1,n02,n03,n23];done)
 (with_reducible repeat'(first|(simp(disch:=omega)only[push_cast,↓zz,seval,D5,Dx,hg,e1,n02,n03,n23])|refine Aa ?_ ?_|(first|refine Ac ?_ ?_|refine Ab ?_ ?_)<;>intro hc<;>(try simp only[push_cast] at hc)|refine Bj ?_|refine eQ T1 ?_|refine eQ P1 ?_|refine eK T1 ?_|refine eK P1 ?_|refine eQ T2 ?_|refine eQ P2 ?_|refine eK T2 ?_|refine eK P2 ?_|refine eQ T3 ?_|refine eQ P3 ?_|refine eK T3 ?_|refine eK P3 ?_|refine eK hF ?_|refine eK hL ?_|omega|intro _))
 all_goals ((try simp only[*,Bi,AP,Ax,AA]);(repeat'(first|(simp(disch:=omega)only[push_cast,↓zz,seval,Du])|omega|(with_reducible refine Aa ?_ ?_))))
theorem Zo(bs dr tk up sm:Int)(p0 p1 p2 p3:Part)(sets:List (List Span))(hs:Dw sm=true)(hS:Ee [p0,p1,p2,p3] sets)(e2:p2.at_=p0.at_)(e3:p3.at_=p0.at_)(n01:¬p0.at_=p1.at_):
 PC Tryz.prog 196 [Dv ⟨bs,dr,tk,up,sm,[p0,p1,p2,p3]⟩,Bs sets] (.tup [AY (BR ⟨bs,dr,tk,up,sm,[p0,p1,p2,p3]⟩ sets),.bool (Dx (BR ⟨bs,dr,tk,up,sm,[p0,p1,p2,p3]⟩ sets))]):=by
 have hg:=AL sets;have b0:=AU (hS.parts p0 (by simp));have b1:=AU (hS.parts p1 (by simp));have b2:=AU (hS.parts p2 (by simp));have b3:=AU (hS.parts p3 (by simp));have A0:=Et hs;obtain⟨T1,P1,A1⟩:=Be (a:=p0.at_) hS A0 (by omega) (by simp);have l1:atL [p0,p1,p2,p3] p0.at_=[p0,p2,p3]:=by simp[atL,e2,e3,n01,Al (show p0.at_≠p1.at_ from n01)]
 rw[l1] at T1 P1;obtain⟨T2,P2,A2⟩:=Be (a:=p1.at_) hS A1 (by omega) (by simp);have l2:atL [p0,p1,p2,p3] p1.at_=[p1]:=by simp[atL,e2,e3,n01,Al (show p0.at_≠p1.at_ from n01)]
 rw[l2] at T2 P2;have hv:BR ⟨bs,dr,tk,up,sm,[p0,p1,p2,p3]⟩ sets=Cf [p0,p1,p2,p3] sets (Cf [p0,p1,p2,p3] sets ([⟨sm,sm⟩]) p0.at_) p1.at_:=by simp[BR,Dh,Df,e2,e3,n01,Al (show p0.at_≠p1.at_ from n01)]
 rw[hv];generalize ho1:Cf [p0,p1,p2,p3] sets ([⟨sm,sm⟩]) p0.at_=o1 at *;generalize ht1:togL [p0,p2,p3] (nth sets p0.at_.toNat)=t1 at *;generalize ho2:Cf [p0,p1,p2,p3] sets (o1) p1.at_=o2 at *;generalize ht2:togL [p1] (nth sets p1.at_.toNat)=t2 at *;have hF:=C5 o2 (by have:=A2.2;omega);have hL:=CO o2 (by have:=A2.2;omega);clear hS hv ho1 ht1 l1 ho2 ht2 l2;refine BV BQ ?_;unfold BO;(with_reducible repeat'(first|(simp(disch:=omega)only[push_cast,↓zz,seval])|refine Aa ?_ ?_|(first|refine Ac ?_ ?_|refine Ab ?_ ?_)<;>intro hc<;>(try simp only[push_cast] at hc)|omega|intro _));refine BW 6 ?_;(with_reducible repeat'(first|(simp(disch:=omega)only[push_cast,↓zz,seval,xx,Ag,Am,A5,Bg,B9,Ay,B0,Bz,D5,setM,e2,e3,n01])|refine Aa ?_ ?_|(first|refine Ac ?_ ?_|refine Ab ?_ ?_)<;>intro hc<;>(try simp only[push_cast] at hc)|refine Bj ?_|refine De [1,5] ?_|omega|intro _));refine C4 6 (λenv=>[C0 1 (env 6)]) [(1,Bs sets),(6,.map 0 1),(10,AY [⟨sm,sm⟩]),(53,.lst 1 [.int .i64 p0.at_,.int .i64 p1.at_]),(54,.int .i64 2),(55,.int .i64 0)] [⟨0,1,true,[.int .i64 p0.at_,Co [p0,p2,p3],.int .i64 p1.at_,Co [p1]]⟩] ?_ ?_
 ·(with_reducible repeat'(first|(simp(disch:=omega)only[push_cast,↓zz,seval,e2,e3,n01])|refine Aa ?_ ?_|(first|refine Ac ?_ ?_|refine Ab ?_ ?_)<;>intro hc<;>(try simp only[push_cast] at hc)|omega|intro _))
  all_goals (simp only[DO,e2,e3,n01];done)
 (with_reducible repeat'(first|(simp(disch:=omega)only[push_cast,↓zz,seval,D5,Dx,hg,e2,e3,n01])|refine Aa ?_ ?_|(first|refine Ac ?_ ?_|refine Ab ?_ ?_)<;>intro hc<;>(try simp only[push_cast] at hc)|refine Bj ?_|refine eQ T1 ?_|refine eQ P1 ?_|refine eK T1 ?_|refine eK P1 ?_|refine eQ T2 ?_|refine eQ P2 ?_|refine eK T2 ?_|refine eK P2 ?_|refine eK hF ?_|refine eK hL ?_|omega|intro _))
 all_goals ((try simp only[*,Bi,AP,Ax,AA]);(repeat'(first|(simp(disch:=omega)only[push_cast,↓zz,seval,Du])|omega|(with_reducible refine Aa ?_ ?_))))
theorem Zp(bs dr tk up sm:Int)(p0 p1 p2 p3:Part)(sets:List (List Span))(hs:Dw sm=true)(hS:Ee [p0,p1,p2,p3] sets)(e2:p2.at_=p0.at_)(e3:p3.at_=p1.at_)(n01:¬p0.at_=p1.at_):
 PC Tryz.prog 196 [Dv ⟨bs,dr,tk,up,sm,[p0,p1,p2,p3]⟩,Bs sets] (.tup [AY (BR ⟨bs,dr,tk,up,sm,[p0,p1,p2,p3]⟩ sets),.bool (Dx (BR ⟨bs,dr,tk,up,sm,[p0,p1,p2,p3]⟩ sets))]):=by
 have hg:=AL sets;have b0:=AU (hS.parts p0 (by simp));have b1:=AU (hS.parts p1 (by simp));have b2:=AU (hS.parts p2 (by simp));have b3:=AU (hS.parts p3 (by simp));have A0:=Et hs;obtain⟨T1,P1,A1⟩:=Be (a:=p0.at_) hS A0 (by omega) (by simp);have l1:atL [p0,p1,p2,p3] p0.at_=[p0,p2]:=by simp[atL,e2,e3,n01,Al (show p0.at_≠p1.at_ from n01)]
 rw[l1] at T1 P1;obtain⟨T2,P2,A2⟩:=Be (a:=p1.at_) hS A1 (by omega) (by simp);have l2:atL [p0,p1,p2,p3] p1.at_=[p1,p3]:=by simp[atL,e2,e3,n01,Al (show p0.at_≠p1.at_ from n01)]
 rw[l2] at T2 P2;have hv:BR ⟨bs,dr,tk,up,sm,[p0,p1,p2,p3]⟩ sets=Cf [p0,p1,p2,p3] sets (Cf [p0,p1,p2,p3] sets ([⟨sm,sm⟩]) p0.at_) p1.at_:=by simp[BR,Dh,Df,e2,e3,n01,Al (show p0.at_≠p1.at_ from n01)]
 rw[hv];generalize ho1:Cf [p0,p1,p2,p3] sets ([⟨sm,sm⟩]) p0.at_=o1 at *;generalize ht1:togL [p0,p2] (nth sets p0.at_.toNat)=t1 at *;generalize ho2:Cf [p0,p1,p2,p3] sets (o1) p1.at_=o2 at *;generalize ht2:togL [p1,p3] (nth sets p1.at_.toNat)=t2 at *;have hF:=C5 o2 (by have:=A2.2;omega);have hL:=CO o2 (by have:=A2.2;omega);clear hS hv ho1 ht1 l1 ho2 ht2 l2;refine BV BQ ?_;unfold BO;(with_reducible repeat'(first|(simp(disch:=omega)only[push_cast,↓zz,seval])|refine Aa ?_ ?_|(first|refine Ac ?_ ?_|refine Ab ?_ ?_)<;>intro hc<;>(try simp only[push_cast] at hc)|omega|intro _));refine BW 6 ?_;(with_reducible repeat'(first|(simp(disch:=omega)only[push_cast,↓zz,seval,xx,Ag,Am,A5,Bg,B9,Ay,B0,Bz,D5,setM,e2,e3,n01])|refine Aa ?_ ?_|(first|refine Ac ?_ ?_|refine Ab ?_ ?_)<;>intro hc<;>(try simp only[push_cast] at hc)|refine Bj ?_|refine De [1,5,8] ?_|omega|intro _));refine C4 6 (λenv=>[C0 1 (env 6)]) [(1,Bs sets),(6,.map 0 1),(10,AY [⟨sm,sm⟩]),(53,.lst 1 [.int .i64 p0.at_,.int .i64 p1.at_]),(54,.int .i64 2),(55,.int .i64 0)] [⟨0,1,true,[.int .i64 p0.at_,Co [p0,p2],.int .i64 p1.at_,Co [p1,p3]]⟩] ?_ ?_
 ·(with_reducible repeat'(first|(simp(disch:=omega)only[push_cast,↓zz,seval,e2,e3,n01])|refine Aa ?_ ?_|(first|refine Ac ?_ ?_|refine Ab ?_ ?_)<;>intro hc<;>(try simp only[push_cast] at hc)|omega|intro _))
  all_goals (simp only[DO,e2,e3,n01];done)
 (with_reducible repeat'(first|(simp(disch:=omega)only[push_cast,↓zz,seval,D5,Dx,hg,e2,e3,n01])|refine Aa ?_ ?_|(first|refine Ac ?_ ?_|refine Ab ?_ ?_)<;>intro hc<;>(try simp only[push_cast] at hc)|refine Bj ?_|refine eQ T1 ?_|refine eQ P1 ?_|refine eK T1 ?_|refine eK P1 ?_|refine eQ T2 ?_|refine eQ P2 ?_|refine eK T2 ?_|refine eK P2 ?_|refine eK hF ?_|refine eK hL ?_|omega|intro _))
 all_goals ((try simp only[*,Bi,AP,Ax,AA]);(repeat'(first|(simp(disch:=omega)only[push_cast,↓zz,seval,Du])|omega|(with_reducible refine Aa ?_ ?_))))
theorem Zq(bs dr tk up sm:Int)(p0 p1 p2 p3:Part)(sets:List (List Span))(hs:Dw sm=true)(hS:Ee [p0,p1,p2,p3] sets)(e2:p2.at_=p0.at_)(n01:¬p0.at_=p1.at_)(n03:¬p0.at_=p3.at_)(n13:¬p1.at_=p3.at_):
 PC Tryz.prog 196 [Dv ⟨bs,dr,tk,up,sm,[p0,p1,p2,p3]⟩,Bs sets] (.tup [AY (BR ⟨bs,dr,tk,up,sm,[p0,p1,p2,p3]⟩ sets),.bool (Dx (BR ⟨bs,dr,tk,up,sm,[p0,p1,p2,p3]⟩ sets))]):=by
 have hg:=AL sets;have b0:=AU (hS.parts p0 (by simp));have b1:=AU (hS.parts p1 (by simp));have b2:=AU (hS.parts p2 (by simp));have b3:=AU (hS.parts p3 (by simp));have A0:=Et hs;obtain⟨T1,P1,A1⟩:=Be (a:=p0.at_) hS A0 (by omega) (by simp);have l1:atL [p0,p1,p2,p3] p0.at_=[p0,p2]:=by simp[atL,e2,n01,n03,n13,Al (show p0.at_≠p1.at_ from n01),Al (show p0.at_≠p3.at_ from n03),Al (show p1.at_≠p3.at_ from n13)]
 rw[l1] at T1 P1;obtain⟨T2,P2,A2⟩:=Be (a:=p1.at_) hS A1 (by omega) (by simp);have l2:atL [p0,p1,p2,p3] p1.at_=[p1]:=by simp[atL,e2,n01,n03,n13,Al (show p0.at_≠p1.at_ from n01),Al (show p0.at_≠p3.at_ from n03),Al (show p1.at_≠p3.at_ from n13)]
 rw[l2] at T2 P2;obtain⟨T3,P3,A3⟩:=Be (a:=p3.at_) hS A2 (by omega) (by simp);have l3:atL [p0,p1,p2,p3] p3.at_=[p3]:=by simp[atL,e2,n01,n03,n13,Al (show p0.at_≠p1.at_ from n01),Al (show p0.at_≠p3.at_ from n03),Al (show p1.at_≠p3.at_ from n13)]
 rw[l3] at T3 P3;have hv:BR ⟨bs,dr,tk,up,sm,[p0,p1,p2,p3]⟩ sets=Cf [p0,p1,p2,p3] sets (Cf [p0,p1,p2,p3] sets (Cf [p0,p1,p2,p3] sets ([⟨sm,sm⟩]) p0.at_) p1.at_) p3.at_:=by simp[BR,Dh,Df,e2,n01,n03,n13,Al (show p0.at_≠p1.at_ from n01),Al (show p0.at_≠p3.at_ from n03),Al (show p1.at_≠p3.at_ from n13)]
 rw[hv];generalize ho1:Cf [p0,p1,p2,p3] sets ([⟨sm,sm⟩]) p0.at_=o1 at *;generalize ht1:togL [p0,p2] (nth sets p0.at_.toNat)=t1 at *;generalize ho2:Cf [p0,p1,p2,p3] sets (o1) p1.at_=o2 at *;generalize ht2:togL [p1] (nth sets p1.at_.toNat)=t2 at *;generalize ho3:Cf [p0,p1,p2,p3] sets (o2) p3.at_=o3 at *;generalize ht3:togL [p3] (nth sets p3.at_.toNat)=t3 at *;have hF:=C5 o3 (by have:=A3.2;omega);have hL:=CO o3 (by have:=A3.2;omega);clear hS hv ho1 ht1 l1 ho2 ht2 l2 ho3 ht3 l3;refine BV BQ ?_;unfold BO;(with_reducible repeat'(first|(simp(disch:=omega)only[push_cast,↓zz,seval])|refine Aa ?_ ?_|(first|refine Ac ?_ ?_|refine Ab ?_ ?_)<;>intro hc<;>(try simp only[push_cast] at hc)|omega|intro _));refine BW 6 ?_;(with_reducible repeat'(first|(simp(disch:=omega)only[push_cast,↓zz,seval,xx,Ag,Am,A5,Bg,B9,Ay,B0,Bz,D5,setM,e2,n01,n03,n13])|refine Aa ?_ ?_|(first|refine Ac ?_ ?_|refine Ab ?_ ?_)<;>intro hc<;>(try simp only[push_cast] at hc)|refine Bj ?_|refine De [1,5] ?_|omega|intro _));refine C4 6 (λenv=>[C0 1 (env 6)]) [(1,Bs sets),(6,.map 0 1),(10,AY [⟨sm,sm⟩]),(53,.lst 1 [.int .i64 p0.at_,.int .i64 p1.at_,.int .i64 p3.at_]),(54,.int .i64 3),(55,.int .i64 0)] [⟨0,1,true,[.int .i64 p0.at_,Co [p0,p2],.int .i64 p1.at_,Co [p1],.int .i64 p3.at_,Co [p3]]⟩] ?_ ?_
 ·(with_reducible repeat'(first|(simp(disch:=omega)only[push_cast,↓zz,seval,e2,n01,n03,n13])|refine Aa ?_ ?_|(first|refine Ac ?_ ?_|refine Ab ?_ ?_)<;>intro hc<;>(try simp only[push_cast] at hc)|omega|intro _))
  all_goals (simp only[DO,e2,n01,n03,n13];done)
 (with_reducible repeat'(first|(simp(disch:=omega)only[push_cast,↓zz,seval,D5,Dx,hg,e2,n01,n03,n13])|refine Aa ?_ ?_|(first|refine Ac ?_ ?_|refine Ab ?_ ?_)<;>intro hc<;>(try simp only[push_cast] at hc)|refine Bj ?_|refine eQ T1 ?_|refine eQ P1 ?_|refine eK T1 ?_|refine eK P1 ?_|refine eQ T2 ?_|refine eQ P2 ?_|refine eK T2 ?_|refine eK P2 ?_|refine eQ T3 ?_|refine eQ P3 ?_|refine eK T3 ?_|refine eK P3 ?_|refine eK hF ?_|refine eK hL ?_|omega|intro _))
 all_goals ((try simp only[*,Bi,AP,Ax,AA]);(repeat'(first|(simp(disch:=omega)only[push_cast,↓zz,seval,Du])|omega|(with_reducible refine Aa ?_ ?_))))
theorem Zr(bs dr tk up sm:Int)(p0 p1 p2 p3:Part)(sets:List (List Span))(hs:Dw sm=true)(hS:Ee [p0,p1,p2,p3] sets)(e2:p2.at_=p1.at_)(e3:p3.at_=p0.at_)(n01:¬p0.at_=p1.at_):
 PC Tryz.prog 196 [Dv ⟨bs,dr,tk,up,sm,[p0,p1,p2,p3]⟩,Bs sets] (.tup [AY (BR ⟨bs,dr,tk,up,sm,[p0,p1,p2,p3]⟩ sets),.bool (Dx (BR ⟨bs,dr,tk,up,sm,[p0,p1,p2,p3]⟩ sets))]):=by
 have hg:=AL sets;have b0:=AU (hS.parts p0 (by simp));have b1:=AU (hS.parts p1 (by simp));have b2:=AU (hS.parts p2 (by simp));have b3:=AU (hS.parts p3 (by simp));have A0:=Et hs;obtain⟨T1,P1,A1⟩:=Be (a:=p0.at_) hS A0 (by omega) (by simp);have l1:atL [p0,p1,p2,p3] p0.at_=[p0,p3]:=by simp[atL,e2,e3,n01,Al (show p0.at_≠p1.at_ from n01)]
 rw[l1] at T1 P1;obtain⟨T2,P2,A2⟩:=Be (a:=p1.at_) hS A1 (by omega) (by simp);have l2:atL [p0,p1,p2,p3] p1.at_=[p1,p2]:=by simp[atL,e2,e3,n01,Al (show p0.at_≠p1.at_ from n01)]
 rw[l2] at T2 P2;have hv:BR ⟨bs,dr,tk,up,sm,[p0,p1,p2,p3]⟩ sets=Cf [p0,p1,p2,p3] sets (Cf [p0,p1,p2,p3] sets ([⟨sm,sm⟩]) p0.at_) p1.at_:=by simp[BR,Dh,Df,e2,e3,n01,Al (show p0.at_≠p1.at_ from n01)]
 rw[hv];generalize ho1:Cf [p0,p1,p2,p3] sets ([⟨sm,sm⟩]) p0.at_=o1 at *;generalize ht1:togL [p0,p3] (nth sets p0.at_.toNat)=t1 at *;generalize ho2:Cf [p0,p1,p2,p3] sets (o1) p1.at_=o2 at *;generalize ht2:togL [p1,p2] (nth sets p1.at_.toNat)=t2 at *;have hF:=C5 o2 (by have:=A2.2;omega);have hL:=CO o2 (by have:=A2.2;omega);clear hS hv ho1 ht1 l1 ho2 ht2 l2;refine BV BQ ?_;unfold BO;(with_reducible repeat'(first|(simp(disch:=omega)only[push_cast,↓zz,seval])|refine Aa ?_ ?_|(first|refine Ac ?_ ?_|refine Ab ?_ ?_)<;>intro hc<;>(try simp only[push_cast] at hc)|omega|intro _));refine BW 6 ?_;(with_reducible repeat'(first|(simp(disch:=omega)only[push_cast,↓zz,seval,xx,Ag,Am,A5,Bg,B9,Ay,B0,Bz,D5,setM,e2,e3,n01])|refine Aa ?_ ?_|(first|refine Ac ?_ ?_|refine Ab ?_ ?_)<;>intro hc<;>(try simp only[push_cast] at hc)|refine Bj ?_|refine De [1,5,8] ?_|omega|intro _));refine C4 6 (λenv=>[C0 1 (env 6)]) [(1,Bs sets),(6,.map 0 1),(10,AY [⟨sm,sm⟩]),(53,.lst 1 [.int .i64 p0.at_,.int .i64 p1.at_]),(54,.int .i64 2),(55,.int .i64 0)] [⟨0,1,true,[.int .i64 p0.at_,Co [p0,p3],.int .i64 p1.at_,Co [p1,p2]]⟩] ?_ ?_
 ·(with_reducible repeat'(first|(simp(disch:=omega)only[push_cast,↓zz,seval,e2,e3,n01])|refine Aa ?_ ?_|(first|refine Ac ?_ ?_|refine Ab ?_ ?_)<;>intro hc<;>(try simp only[push_cast] at hc)|omega|intro _))
  all_goals (simp only[DO,e2,e3,n01];done)
 (with_reducible repeat'(first|(simp(disch:=omega)only[push_cast,↓zz,seval,D5,Dx,hg,e2,e3,n01])|refine Aa ?_ ?_|(first|refine Ac ?_ ?_|refine Ab ?_ ?_)<;>intro hc<;>(try simp only[push_cast] at hc)|refine Bj ?_|refine eQ T1 ?_|refine eQ P1 ?_|refine eK T1 ?_|refine eK P1 ?_|refine eQ T2 ?_|refine eQ P2 ?_|refine eK T2 ?_|refine eK P2 ?_|refine eK hF ?_|refine eK hL ?_|omega|intro _))
 all_goals ((try simp only[*,Bi,AP,Ax,AA]);(repeat'(first|(simp(disch:=omega)only[push_cast,↓zz,seval,Du])|omega|(with_reducible refine Aa ?_ ?_))))
theorem Zs(bs dr tk up sm:Int)(p0 p1 p2 p3:Part)(sets:List (List Span))(hs:Dw sm=true)(hS:Ee [p0,p1,p2,p3] sets)(e2:p2.at_=p1.at_)(e3:p3.at_=p1.at_)(n01:¬p0.at_=p1.at_):
 PC Tryz.prog 196 [Dv ⟨bs,dr,tk,up,sm,[p0,p1,p2,p3]⟩,Bs sets] (.tup [AY (BR ⟨bs,dr,tk,up,sm,[p0,p1,p2,p3]⟩ sets),.bool (Dx (BR ⟨bs,dr,tk,up,sm,[p0,p1,p2,p3]⟩ sets))]):=by
 have hg:=AL sets;have b0:=AU (hS.parts p0 (by simp));have b1:=AU (hS.parts p1 (by simp));have b2:=AU (hS.parts p2 (by simp));have b3:=AU (hS.parts p3 (by simp));have A0:=Et hs;obtain⟨T1,P1,A1⟩:=Be (a:=p0.at_) hS A0 (by omega) (by simp);have l1:atL [p0,p1,p2,p3] p0.at_=[p0]:=by simp[atL,e2,e3,n01,Al (show p0.at_≠p1.at_ from n01)]
 rw[l1] at T1 P1;obtain⟨T2,P2,A2⟩:=Be (a:=p1.at_) hS A1 (by omega) (by simp);have l2:atL [p0,p1,p2,p3] p1.at_=[p1,p2,p3]:=by simp[atL,e2,e3,n01,Al (show p0.at_≠p1.at_ from n01)]
 rw[l2] at T2 P2;have hv:BR ⟨bs,dr,tk,up,sm,[p0,p1,p2,p3]⟩ sets=Cf [p0,p1,p2,p3] sets (Cf [p0,p1,p2,p3] sets ([⟨sm,sm⟩]) p0.at_) p1.at_:=by simp[BR,Dh,Df,e2,e3,n01,Al (show p0.at_≠p1.at_ from n01)]
 rw[hv];generalize ho1:Cf [p0,p1,p2,p3] sets ([⟨sm,sm⟩]) p0.at_=o1 at *;generalize ht1:togL [p0] (nth sets p0.at_.toNat)=t1 at *;generalize ho2:Cf [p0,p1,p2,p3] sets (o1) p1.at_=o2 at *;generalize ht2:togL [p1,p2,p3] (nth sets p1.at_.toNat)=t2 at *;have hF:=C5 o2 (by have:=A2.2;omega);have hL:=CO o2 (by have:=A2.2;omega);clear hS hv ho1 ht1 l1 ho2 ht2 l2;refine BV BQ ?_;unfold BO;(with_reducible repeat'(first|(simp(disch:=omega)only[push_cast,↓zz,seval])|refine Aa ?_ ?_|(first|refine Ac ?_ ?_|refine Ab ?_ ?_)<;>intro hc<;>(try simp only[push_cast] at hc)|omega|intro _));refine BW 6 ?_;(with_reducible repeat'(first|(simp(disch:=omega)only[push_cast,↓zz,seval,xx,Ag,Am,A5,Bg,B9,Ay,B0,Bz,D5,setM,e2,e3,n01])|refine Aa ?_ ?_|(first|refine Ac ?_ ?_|refine Ab ?_ ?_)<;>intro hc<;>(try simp only[push_cast] at hc)|refine Bj ?_|refine De [1,8] ?_|omega|intro _));refine C4 6 (λenv=>[C0 1 (env 6)]) [(1,Bs sets),(6,.map 0 1),(10,AY [⟨sm,sm⟩]),(53,.lst 1 [.int .i64 p0.at_,.int .i64 p1.at_]),(54,.int .i64 2),(55,.int .i64 0)] [⟨0,1,true,[.int .i64 p0.at_,Co [p0],.int .i64 p1.at_,Co [p1,p2,p3]]⟩] ?_ ?_
 ·(with_reducible repeat'(first|(simp(disch:=omega)only[push_cast,↓zz,seval,e2,e3,n01])|refine Aa ?_ ?_|(first|refine Ac ?_ ?_|refine Ab ?_ ?_)<;>intro hc<;>(try simp only[push_cast] at hc)|omega|intro _))
  all_goals (simp only[DO,e2,e3,n01];done)
 (with_reducible repeat'(first|(simp(disch:=omega)only[push_cast,↓zz,seval,D5,Dx,hg,e2,e3,n01])|refine Aa ?_ ?_|(first|refine Ac ?_ ?_|refine Ab ?_ ?_)<;>intro hc<;>(try simp only[push_cast] at hc)|refine Bj ?_|refine eQ T1 ?_|refine eQ P1 ?_|refine eK T1 ?_|refine eK P1 ?_|refine eQ T2 ?_|refine eQ P2 ?_|refine eK T2 ?_|refine eK P2 ?_|refine eK hF ?_|refine eK hL ?_|omega|intro _))
 all_goals ((try simp only[*,Bi,AP,Ax,AA]);(repeat'(first|(simp(disch:=omega)only[push_cast,↓zz,seval,Du])|omega|(with_reducible refine Aa ?_ ?_))))
theorem US(bs dr tk up sm:Int)(p0 p1 p2 p3:Part)(sets:List (List Span))(hs:Dw sm=true)(hS:Ee [p0,p1,p2,p3] sets)(e2:p2.at_=p1.at_)(n01:¬p0.at_=p1.at_)(n03:¬p0.at_=p3.at_)(n13:¬p1.at_=p3.at_):
 PC Tryz.prog 196 [Dv ⟨bs,dr,tk,up,sm,[p0,p1,p2,p3]⟩,Bs sets] (.tup [AY (BR ⟨bs,dr,tk,up,sm,[p0,p1,p2,p3]⟩ sets),.bool (Dx (BR ⟨bs,dr,tk,up,sm,[p0,p1,p2,p3]⟩ sets))]):=by
 have hg:=AL sets;have b0:=AU (hS.parts p0 (by simp));have b1:=AU (hS.parts p1 (by simp));have b2:=AU (hS.parts p2 (by simp));have b3:=AU (hS.parts p3 (by simp));have A0:=Et hs;obtain⟨T1,P1,A1⟩:=Be (a:=p0.at_) hS A0 (by omega) (by simp);have l1:atL [p0,p1,p2,p3] p0.at_=[p0]:=by simp[atL,e2,n01,n03,n13,Al (show p0.at_≠p1.at_ from n01),Al (show p0.at_≠p3.at_ from n03),Al (show p1.at_≠p3.at_ from n13)]
 rw[l1] at T1 P1;obtain⟨T2,P2,A2⟩:=Be (a:=p1.at_) hS A1 (by omega) (by simp);have l2:atL [p0,p1,p2,p3] p1.at_=[p1,p2]:=by simp[atL,e2,n01,n03,n13,Al (show p0.at_≠p1.at_ from n01),Al (show p0.at_≠p3.at_ from n03),Al (show p1.at_≠p3.at_ from n13)]
 rw[l2] at T2 P2;obtain⟨T3,P3,A3⟩:=Be (a:=p3.at_) hS A2 (by omega) (by simp);have l3:atL [p0,p1,p2,p3] p3.at_=[p3]:=by simp[atL,e2,n01,n03,n13,Al (show p0.at_≠p1.at_ from n01),Al (show p0.at_≠p3.at_ from n03),Al (show p1.at_≠p3.at_ from n13)]
 rw[l3] at T3 P3;have hv:BR ⟨bs,dr,tk,up,sm,[p0,p1,p2,p3]⟩ sets=Cf [p0,p1,p2,p3] sets (Cf [p0,p1,p2,p3] sets (Cf [p0,p1,p2,p3] sets ([⟨sm,sm⟩]) p0.at_) p1.at_) p3.at_:=by simp[BR,Dh,Df,e2,n01,n03,n13,Al (show p0.at_≠p1.at_ from n01),Al (show p0.at_≠p3.at_ from n03),Al (show p1.at_≠p3.at_ from n13)]
 rw[hv];generalize ho1:Cf [p0,p1,p2,p3] sets ([⟨sm,sm⟩]) p0.at_=o1 at *;generalize ht1:togL [p0] (nth sets p0.at_.toNat)=t1 at *;generalize ho2:Cf [p0,p1,p2,p3] sets (o1) p1.at_=o2 at *;generalize ht2:togL [p1,p2] (nth sets p1.at_.toNat)=t2 at *;generalize ho3:Cf [p0,p1,p2,p3] sets (o2) p3.at_=o3 at *;generalize ht3:togL [p3] (nth sets p3.at_.toNat)=t3 at *;have hF:=C5 o3 (by have:=A3.2;omega);have hL:=CO o3 (by have:=A3.2;omega);clear hS hv ho1 ht1 l1 ho2 ht2 l2 ho3 ht3 l3;refine BV BQ ?_;unfold BO;(with_reducible repeat'(first|(simp(disch:=omega)only[push_cast,↓zz,seval])|refine Aa ?_ ?_|(first|refine Ac ?_ ?_|refine Ab ?_ ?_)<;>intro hc<;>(try simp only[push_cast] at hc)|omega|intro _));refine BW 6 ?_;(with_reducible repeat'(first|(simp(disch:=omega)only[push_cast,↓zz,seval,xx,Ag,Am,A5,Bg,B9,Ay,B0,Bz,D5,setM,e2,n01,n03,n13])|refine Aa ?_ ?_|(first|refine Ac ?_ ?_|refine Ab ?_ ?_)<;>intro hc<;>(try simp only[push_cast] at hc)|refine Bj ?_|refine De [1,8] ?_|omega|intro _));refine C4 6 (λenv=>[C0 1 (env 6)]) [(1,Bs sets),(6,.map 0 1),(10,AY [⟨sm,sm⟩]),(53,.lst 1 [.int .i64 p0.at_,.int .i64 p1.at_,.int .i64 p3.at_]),(54,.int .i64 3),(55,.int .i64 0)] [⟨0,1,true,[.int .i64 p0.at_,Co [p0],.int .i64 p1.at_,Co [p1,p2],.int .i64 p3.at_,Co [p3]]⟩] ?_ ?_
 ·(with_reducible repeat'(first|(simp(disch:=omega)only[push_cast,↓zz,seval,e2,n01,n03,n13])|refine Aa ?_ ?_|(first|refine Ac ?_ ?_|refine Ab ?_ ?_)<;>intro hc<;>(try simp only[push_cast] at hc)|omega|intro _))
  all_goals (simp only[DO,e2,n01,n03,n13];done)
 (with_reducible repeat'(first|(simp(disch:=omega)only[push_cast,↓zz,seval,D5,Dx,hg,e2,n01,n03,n13])|refine Aa ?_ ?_|(first|refine Ac ?_ ?_|refine Ab ?_ ?_)<;>intro hc<;>(try simp only[push_cast] at hc)|refine Bj ?_|refine eQ T1 ?_|refine eQ P1 ?_|refine eK T1 ?_|refine eK P1 ?_|refine eQ T2 ?_|refine eQ P2 ?_|refine eK T2 ?_|refine eK P2 ?_|refine eQ T3 ?_|refine eQ P3 ?_|refine eK T3 ?_|refine eK P3 ?_|refine eK hF ?_|refine eK hL ?_|omega|intro _))
 all_goals ((try simp only[*,Bi,AP,Ax,AA]);(repeat'(first|(simp(disch:=omega)only[push_cast,↓zz,seval,Du])|omega|(with_reducible refine Aa ?_ ?_))))
theorem UT(bs dr tk up sm:Int)(p0 p1 p2 p3:Part)(sets:List (List Span))(hs:Dw sm=true)(hS:Ee [p0,p1,p2,p3] sets)(e3:p3.at_=p0.at_)(n01:¬p0.at_=p1.at_)(n02:¬p0.at_=p2.at_)(n12:¬p1.at_=p2.at_):
 PC Tryz.prog 196 [Dv ⟨bs,dr,tk,up,sm,[p0,p1,p2,p3]⟩,Bs sets] (.tup [AY (BR ⟨bs,dr,tk,up,sm,[p0,p1,p2,p3]⟩ sets),.bool (Dx (BR ⟨bs,dr,tk,up,sm,[p0,p1,p2,p3]⟩ sets))]):=by
 have hg:=AL sets;have b0:=AU (hS.parts p0 (by simp));have b1:=AU (hS.parts p1 (by simp));have b2:=AU (hS.parts p2 (by simp));have b3:=AU (hS.parts p3 (by simp));have A0:=Et hs;obtain⟨T1,P1,A1⟩:=Be (a:=p0.at_) hS A0 (by omega) (by simp);have l1:atL [p0,p1,p2,p3] p0.at_=[p0,p3]:=by simp[atL,e3,n01,n02,n12,Al (show p0.at_≠p1.at_ from n01),Al (show p0.at_≠p2.at_ from n02),Al (show p1.at_≠p2.at_ from n12)]
 rw[l1] at T1 P1;obtain⟨T2,P2,A2⟩:=Be (a:=p1.at_) hS A1 (by omega) (by simp);have l2:atL [p0,p1,p2,p3] p1.at_=[p1]:=by simp[atL,e3,n01,n02,n12,Al (show p0.at_≠p1.at_ from n01),Al (show p0.at_≠p2.at_ from n02),Al (show p1.at_≠p2.at_ from n12)]
 rw[l2] at T2 P2;obtain⟨T3,P3,A3⟩:=Be (a:=p2.at_) hS A2 (by omega) (by simp);have l3:atL [p0,p1,p2,p3] p2.at_=[p2]:=by simp[atL,e3,n01,n02,n12,Al (show p0.at_≠p1.at_ from n01),Al (show p0.at_≠p2.at_ from n02),Al (show p1.at_≠p2.at_ from n12)]
 rw[l3] at T3 P3;have hv:BR ⟨bs,dr,tk,up,sm,[p0,p1,p2,p3]⟩ sets=Cf [p0,p1,p2,p3] sets (Cf [p0,p1,p2,p3] sets (Cf [p0,p1,p2,p3] sets ([⟨sm,sm⟩]) p0.at_) p1.at_) p2.at_:=by simp[BR,Dh,Df,e3,n01,n02,n12,Al (show p0.at_≠p1.at_ from n01),Al (show p0.at_≠p2.at_ from n02),Al (show p1.at_≠p2.at_ from n12)]
 rw[hv];generalize ho1:Cf [p0,p1,p2,p3] sets ([⟨sm,sm⟩]) p0.at_=o1 at *;generalize ht1:togL [p0,p3] (nth sets p0.at_.toNat)=t1 at *;generalize ho2:Cf [p0,p1,p2,p3] sets (o1) p1.at_=o2 at *;generalize ht2:togL [p1] (nth sets p1.at_.toNat)=t2 at *;generalize ho3:Cf [p0,p1,p2,p3] sets (o2) p2.at_=o3 at *;generalize ht3:togL [p2] (nth sets p2.at_.toNat)=t3 at *;have hF:=C5 o3 (by have:=A3.2;omega);have hL:=CO o3 (by have:=A3.2;omega);clear hS hv ho1 ht1 l1 ho2 ht2 l2 ho3 ht3 l3;refine BV BQ ?_;unfold BO;(with_reducible repeat'(first|(simp(disch:=omega)only[push_cast,↓zz,seval])|refine Aa ?_ ?_|(first|refine Ac ?_ ?_|refine Ab ?_ ?_)<;>intro hc<;>(try simp only[push_cast] at hc)|omega|intro _));refine BW 6 ?_;(with_reducible repeat'(first|(simp(disch:=omega)only[push_cast,↓zz,seval,xx,Ag,Am,A5,Bg,B9,Ay,B0,Bz,D5,setM,e3,n01,n02,n12])|refine Aa ?_ ?_|(first|refine Ac ?_ ?_|refine Ab ?_ ?_)<;>intro hc<;>(try simp only[push_cast] at hc)|refine Bj ?_|refine De [1,5] ?_|omega|intro _));refine C4 6 (λenv=>[C0 1 (env 6)]) [(1,Bs sets),(6,.map 0 1),(10,AY [⟨sm,sm⟩]),(53,.lst 1 [.int .i64 p0.at_,.int .i64 p1.at_,.int .i64 p2.at_]),(54,.int .i64 3),(55,.int .i64 0)] [⟨0,1,true,[.int .i64 p0.at_,Co [p0,p3],.int .i64 p1.at_,Co [p1],.int .i64 p2.at_,Co [p2]]⟩] ?_ ?_
 ·(with_reducible repeat'(first|(simp(disch:=omega)only[push_cast,↓zz,seval,e3,n01,n02,n12])|refine Aa ?_ ?_|(first|refine Ac ?_ ?_|refine Ab ?_ ?_)<;>intro hc<;>(try simp only[push_cast] at hc)|omega|intro _))
  all_goals (simp only[DO,e3,n01,n02,n12];done)
 (with_reducible repeat'(first|(simp(disch:=omega)only[push_cast,↓zz,seval,D5,Dx,hg,e3,n01,n02,n12])|refine Aa ?_ ?_|(first|refine Ac ?_ ?_|refine Ab ?_ ?_)<;>intro hc<;>(try simp only[push_cast] at hc)|refine Bj ?_|refine eQ T1 ?_|refine eQ P1 ?_|refine eK T1 ?_|refine eK P1 ?_|refine eQ T2 ?_|refine eQ P2 ?_|refine eK T2 ?_|refine eK P2 ?_|refine eQ T3 ?_|refine eQ P3 ?_|refine eK T3 ?_|refine eK P3 ?_|refine eK hF ?_|refine eK hL ?_|omega|intro _))
 all_goals ((try simp only[*,Bi,AP,Ax,AA]);(repeat'(first|(simp(disch:=omega)only[push_cast,↓zz,seval,Du])|omega|(with_reducible refine Aa ?_ ?_))))
theorem UU(bs dr tk up sm:Int)(p0 p1 p2 p3:Part)(sets:List (List Span))(hs:Dw sm=true)(hS:Ee [p0,p1,p2,p3] sets)(e3:p3.at_=p1.at_)(n01:¬p0.at_=p1.at_)(n02:¬p0.at_=p2.at_)(n12:¬p1.at_=p2.at_):
 PC Tryz.prog 196 [Dv ⟨bs,dr,tk,up,sm,[p0,p1,p2,p3]⟩,Bs sets] (.tup [AY (BR ⟨bs,dr,tk,up,sm,[p0,p1,p2,p3]⟩ sets),.bool (Dx (BR ⟨bs,dr,tk,up,sm,[p0,p1,p2,p3]⟩ sets))]):=by
 have hg:=AL sets;have b0:=AU (hS.parts p0 (by simp));have b1:=AU (hS.parts p1 (by simp));have b2:=AU (hS.parts p2 (by simp));have b3:=AU (hS.parts p3 (by simp));have A0:=Et hs;obtain⟨T1,P1,A1⟩:=Be (a:=p0.at_) hS A0 (by omega) (by simp);have l1:atL [p0,p1,p2,p3] p0.at_=[p0]:=by simp[atL,e3,n01,n02,n12,Al (show p0.at_≠p1.at_ from n01),Al (show p0.at_≠p2.at_ from n02),Al (show p1.at_≠p2.at_ from n12)]
 rw[l1] at T1 P1;obtain⟨T2,P2,A2⟩:=Be (a:=p1.at_) hS A1 (by omega) (by simp);have l2:atL [p0,p1,p2,p3] p1.at_=[p1,p3]:=by simp[atL,e3,n01,n02,n12,Al (show p0.at_≠p1.at_ from n01),Al (show p0.at_≠p2.at_ from n02),Al (show p1.at_≠p2.at_ from n12)]
 rw[l2] at T2 P2;obtain⟨T3,P3,A3⟩:=Be (a:=p2.at_) hS A2 (by omega) (by simp);have l3:atL [p0,p1,p2,p3] p2.at_=[p2]:=by simp[atL,e3,n01,n02,n12,Al (show p0.at_≠p1.at_ from n01),Al (show p0.at_≠p2.at_ from n02),Al (show p1.at_≠p2.at_ from n12)]
 rw[l3] at T3 P3;have hv:BR ⟨bs,dr,tk,up,sm,[p0,p1,p2,p3]⟩ sets=Cf [p0,p1,p2,p3] sets (Cf [p0,p1,p2,p3] sets (Cf [p0,p1,p2,p3] sets ([⟨sm,sm⟩]) p0.at_) p1.at_) p2.at_:=by simp[BR,Dh,Df,e3,n01,n02,n12,Al (show p0.at_≠p1.at_ from n01),Al (show p0.at_≠p2.at_ from n02),Al (show p1.at_≠p2.at_ from n12)]
 rw[hv];generalize ho1:Cf [p0,p1,p2,p3] sets ([⟨sm,sm⟩]) p0.at_=o1 at *;generalize ht1:togL [p0] (nth sets p0.at_.toNat)=t1 at *;generalize ho2:Cf [p0,p1,p2,p3] sets (o1) p1.at_=o2 at *;generalize ht2:togL [p1,p3] (nth sets p1.at_.toNat)=t2 at *;generalize ho3:Cf [p0,p1,p2,p3] sets (o2) p2.at_=o3 at *;generalize ht3:togL [p2] (nth sets p2.at_.toNat)=t3 at *;have hF:=C5 o3 (by have:=A3.2;omega);have hL:=CO o3 (by have:=A3.2;omega);clear hS hv ho1 ht1 l1 ho2 ht2 l2 ho3 ht3 l3;refine BV BQ ?_;unfold BO;(with_reducible repeat'(first|(simp(disch:=omega)only[push_cast,↓zz,seval])|refine Aa ?_ ?_|(first|refine Ac ?_ ?_|refine Ab ?_ ?_)<;>intro hc<;>(try simp only[push_cast] at hc)|omega|intro _));refine BW 6 ?_;(with_reducible repeat'(first|(simp(disch:=omega)only[push_cast,↓zz,seval,xx,Ag,Am,A5,Bg,B9,Ay,B0,Bz,D5,setM,e3,n01,n02,n12])|refine Aa ?_ ?_|(first|refine Ac ?_ ?_|refine Ab ?_ ?_)<;>intro hc<;>(try simp only[push_cast] at hc)|refine Bj ?_|refine De [1,8] ?_|omega|intro _));refine C4 6 (λenv=>[C0 1 (env 6)]) [(1,Bs sets),(6,.map 0 1),(10,AY [⟨sm,sm⟩]),(53,.lst 1 [.int .i64 p0.at_,.int .i64 p1.at_,.int .i64 p2.at_]),(54,.int .i64 3),(55,.int .i64 0)] [⟨0,1,true,[.int .i64 p0.at_,Co [p0],.int .i64 p1.at_,Co [p1,p3],.int .i64 p2.at_,Co [p2]]⟩] ?_ ?_
 ·(with_reducible repeat'(first|(simp(disch:=omega)only[push_cast,↓zz,seval,e3,n01,n02,n12])|refine Aa ?_ ?_|(first|refine Ac ?_ ?_|refine Ab ?_ ?_)<;>intro hc<;>(try simp only[push_cast] at hc)|omega|intro _))
  all_goals (simp only[DO,e3,n01,n02,n12];done)
 (with_reducible repeat'(first|(simp(disch:=omega)only[push_cast,↓zz,seval,D5,Dx,hg,e3,n01,n02,n12])|refine Aa ?_ ?_|(first|refine Ac ?_ ?_|refine Ab ?_ ?_)<;>intro hc<;>(try simp only[push_cast] at hc)|refine Bj ?_|refine eQ T1 ?_|refine eQ P1 ?_|refine eK T1 ?_|refine eK P1 ?_|refine eQ T2 ?_|refine eQ P2 ?_|refine eK T2 ?_|refine eK P2 ?_|refine eQ T3 ?_|refine eQ P3 ?_|refine eK T3 ?_|refine eK P3 ?_|refine eK hF ?_|refine eK hL ?_|omega|intro _))
 all_goals ((try simp only[*,Bi,AP,Ax,AA]);(repeat'(first|(simp(disch:=omega)only[push_cast,↓zz,seval,Du])|omega|(with_reducible refine Aa ?_ ?_))))
theorem UV(bs dr tk up sm:Int)(p0 p1 p2 p3:Part)(sets:List (List Span))(hs:Dw sm=true)(hS:Ee [p0,p1,p2,p3] sets)(e3:p3.at_=p2.at_)(n01:¬p0.at_=p1.at_)(n02:¬p0.at_=p2.at_)(n12:¬p1.at_=p2.at_):
 PC Tryz.prog 196 [Dv ⟨bs,dr,tk,up,sm,[p0,p1,p2,p3]⟩,Bs sets] (.tup [AY (BR ⟨bs,dr,tk,up,sm,[p0,p1,p2,p3]⟩ sets),.bool (Dx (BR ⟨bs,dr,tk,up,sm,[p0,p1,p2,p3]⟩ sets))]):=by
 have hg:=AL sets;have b0:=AU (hS.parts p0 (by simp));have b1:=AU (hS.parts p1 (by simp));have b2:=AU (hS.parts p2 (by simp));have b3:=AU (hS.parts p3 (by simp));have A0:=Et hs;obtain⟨T1,P1,A1⟩:=Be (a:=p0.at_) hS A0 (by omega) (by simp);have l1:atL [p0,p1,p2,p3] p0.at_=[p0]:=by simp[atL,e3,n01,n02,n12,Al (show p0.at_≠p1.at_ from n01),Al (show p0.at_≠p2.at_ from n02),Al (show p1.at_≠p2.at_ from n12)]
 rw[l1] at T1 P1;obtain⟨T2,P2,A2⟩:=Be (a:=p1.at_) hS A1 (by omega) (by simp);have l2:atL [p0,p1,p2,p3] p1.at_=[p1]:=by simp[atL,e3,n01,n02,n12,Al (show p0.at_≠p1.at_ from n01),Al (show p0.at_≠p2.at_ from n02),Al (show p1.at_≠p2.at_ from n12)]
 rw[l2] at T2 P2;obtain⟨T3,P3,A3⟩:=Be (a:=p2.at_) hS A2 (by omega) (by simp);have l3:atL [p0,p1,p2,p3] p2.at_=[p2,p3]:=by simp[atL,e3,n01,n02,n12,Al (show p0.at_≠p1.at_ from n01),Al (show p0.at_≠p2.at_ from n02),Al (show p1.at_≠p2.at_ from n12)]
 rw[l3] at T3 P3;have hv:BR ⟨bs,dr,tk,up,sm,[p0,p1,p2,p3]⟩ sets=Cf [p0,p1,p2,p3] sets (Cf [p0,p1,p2,p3] sets (Cf [p0,p1,p2,p3] sets ([⟨sm,sm⟩]) p0.at_) p1.at_) p2.at_:=by simp[BR,Dh,Df,e3,n01,n02,n12,Al (show p0.at_≠p1.at_ from n01),Al (show p0.at_≠p2.at_ from n02),Al (show p1.at_≠p2.at_ from n12)]
 rw[hv];generalize ho1:Cf [p0,p1,p2,p3] sets ([⟨sm,sm⟩]) p0.at_=o1 at *;generalize ht1:togL [p0] (nth sets p0.at_.toNat)=t1 at *;generalize ho2:Cf [p0,p1,p2,p3] sets (o1) p1.at_=o2 at *;generalize ht2:togL [p1] (nth sets p1.at_.toNat)=t2 at *;generalize ho3:Cf [p0,p1,p2,p3] sets (o2) p2.at_=o3 at *;generalize ht3:togL [p2,p3] (nth sets p2.at_.toNat)=t3 at *;have hF:=C5 o3 (by have:=A3.2;omega);have hL:=CO o3 (by have:=A3.2;omega);clear hS hv ho1 ht1 l1 ho2 ht2 l2 ho3 ht3 l3;refine BV BQ ?_;unfold BO;(with_reducible repeat'(first|(simp(disch:=omega)only[push_cast,↓zz,seval])|refine Aa ?_ ?_|(first|refine Ac ?_ ?_|refine Ab ?_ ?_)<;>intro hc<;>(try simp only[push_cast] at hc)|omega|intro _));refine BW 6 ?_;(with_reducible repeat'(first|(simp(disch:=omega)only[push_cast,↓zz,seval,xx,Ag,Am,A5,Bg,B9,Ay,B0,Bz,D5,setM,e3,n01,n02,n12])|refine Aa ?_ ?_|(first|refine Ac ?_ ?_|refine Ab ?_ ?_)<;>intro hc<;>(try simp only[push_cast] at hc)|refine Bj ?_|refine De [1,11] ?_|omega|intro _));refine C4 6 (λenv=>[C0 1 (env 6)]) [(1,Bs sets),(6,.map 0 1),(10,AY [⟨sm,sm⟩]),(53,.lst 1 [.int .i64 p0.at_,.int .i64 p1.at_,.int .i64 p2.at_]),(54,.int .i64 3),(55,.int .i64 0)] [⟨0,1,true,[.int .i64 p0.at_,Co [p0],.int .i64 p1.at_,Co [p1],.int .i64 p2.at_,Co [p2,p3]]⟩] ?_ ?_
 ·(with_reducible repeat'(first|(simp(disch:=omega)only[push_cast,↓zz,seval,e3,n01,n02,n12])|refine Aa ?_ ?_|(first|refine Ac ?_ ?_|refine Ab ?_ ?_)<;>intro hc<;>(try simp only[push_cast] at hc)|omega|intro _))
  all_goals (simp only[DO,e3,n01,n02,n12];done)
 (with_reducible repeat'(first|(simp(disch:=omega)only[push_cast,↓zz,seval,D5,Dx,hg,e3,n01,n02,n12])|refine Aa ?_ ?_|(first|refine Ac ?_ ?_|refine Ab ?_ ?_)<;>intro hc<;>(try simp only[push_cast] at hc)|refine Bj ?_|refine eQ T1 ?_|refine eQ P1 ?_|refine eK T1 ?_|refine eK P1 ?_|refine eQ T2 ?_|refine eQ P2 ?_|refine eK T2 ?_|refine eK P2 ?_|refine eQ T3 ?_|refine eQ P3 ?_|refine eK T3 ?_|refine eK P3 ?_|refine eK hF ?_|refine eK hL ?_|omega|intro _))
 all_goals ((try simp only[*,Bi,AP,Ax,AA]);(repeat'(first|(simp(disch:=omega)only[push_cast,↓zz,seval,Du])|omega|(with_reducible refine Aa ?_ ?_))))
theorem UW(bs dr tk up sm:Int)(p0 p1 p2 p3:Part)(sets:List (List Span))(hs:Dw sm=true)(hS:Ee [p0,p1,p2,p3] sets)(n01:¬p0.at_=p1.at_)(n02:¬p0.at_=p2.at_)(n03:¬p0.at_=p3.at_)(n12:¬p1.at_=p2.at_)(n13:¬p1.at_=p3.at_)(n23:¬p2.at_=p3.at_):
 PC Tryz.prog 196 [Dv ⟨bs,dr,tk,up,sm,[p0,p1,p2,p3]⟩,Bs sets] (.tup [AY (BR ⟨bs,dr,tk,up,sm,[p0,p1,p2,p3]⟩ sets),.bool (Dx (BR ⟨bs,dr,tk,up,sm,[p0,p1,p2,p3]⟩ sets))]):=by
 have hg:=AL sets;have b0:=AU (hS.parts p0 (by simp));have b1:=AU (hS.parts p1 (by simp));have b2:=AU (hS.parts p2 (by simp));have b3:=AU (hS.parts p3 (by simp));have A0:=Et hs;obtain⟨T1,P1,A1⟩:=Be (a:=p0.at_) hS A0 (by omega) (by simp);have l1:atL [p0,p1,p2,p3] p0.at_=[p0]:=by simp[atL,n01,n02,n03,n12,n13,n23,Al (show p0.at_≠p1.at_ from n01),Al (show p0.at_≠p2.at_ from n02),Al (show p0.at_≠p3.at_ from n03),Al (show p1.at_≠p2.at_ from n12),Al (show p1.at_≠p3.at_ from n13),Al (show p2.at_≠p3.at_ from n23)]
 rw[l1] at T1 P1;obtain⟨T2,P2,A2⟩:=Be (a:=p1.at_) hS A1 (by omega) (by simp);have l2:atL [p0,p1,p2,p3] p1.at_=[p1]:=by simp[atL,n01,n02,n03,n12,n13,n23,Al (show p0.at_≠p1.at_ from n01),Al (show p0.at_≠p2.at_ from n02),Al (show p0.at_≠p3.at_ from n03),Al (show p1.at_≠p2.at_ from n12),Al (show p1.at_≠p3.at_ from n13),Al (show p2.at_≠p3.at_ from n23)]
 rw[l2] at T2 P2;obtain⟨T3,P3,A3⟩:=Be (a:=p2.at_) hS A2 (by omega) (by simp);have l3:atL [p0,p1,p2,p3] p2.at_=[p2]:=by simp[atL,n01,n02,n03,n12,n13,n23,Al (show p0.at_≠p1.at_ from n01),Al (show p0.at_≠p2.at_ from n02),Al (show p0.at_≠p3.at_ from n03),Al (show p1.at_≠p2.at_ from n12),Al (show p1.at_≠p3.at_ from n13),Al (show p2.at_≠p3.at_ from n23)]
 rw[l3] at T3 P3;obtain⟨T4,P4,A4⟩:=Be (a:=p3.at_) hS A3 (by omega) (by simp);have l4:atL [p0,p1,p2,p3] p3.at_=[p3]:=by simp[atL,n01,n02,n03,n12,n13,n23,Al (show p0.at_≠p1.at_ from n01),Al (show p0.at_≠p2.at_ from n02),Al (show p0.at_≠p3.at_ from n03),Al (show p1.at_≠p2.at_ from n12),Al (show p1.at_≠p3.at_ from n13),Al (show p2.at_≠p3.at_ from n23)]
 rw[l4] at T4 P4;have hv:BR ⟨bs,dr,tk,up,sm,[p0,p1,p2,p3]⟩ sets=Cf [p0,p1,p2,p3] sets (Cf [p0,p1,p2,p3] sets (Cf [p0,p1,p2,p3] sets (Cf [p0,p1,p2,p3] sets ([⟨sm,sm⟩]) p0.at_) p1.at_) p2.at_) p3.at_:=by simp[BR,Dh,Df,n01,n02,n03,n12,n13,n23,Al (show p0.at_≠p1.at_ from n01),Al (show p0.at_≠p2.at_ from n02),Al (show p0.at_≠p3.at_ from n03),Al (show p1.at_≠p2.at_ from n12),Al (show p1.at_≠p3.at_ from n13),Al (show p2.at_≠p3.at_ from n23)]
 rw[hv];generalize ho1:Cf [p0,p1,p2,p3] sets ([⟨sm,sm⟩]) p0.at_=o1 at *;generalize ht1:togL [p0] (nth sets p0.at_.toNat)=t1 at *;generalize ho2:Cf [p0,p1,p2,p3] sets (o1) p1.at_=o2 at *;generalize ht2:togL [p1] (nth sets p1.at_.toNat)=t2 at *;generalize ho3:Cf [p0,p1,p2,p3] sets (o2) p2.at_=o3 at *;generalize ht3:togL [p2] (nth sets p2.at_.toNat)=t3 at *;generalize ho4:Cf [p0,p1,p2,p3] sets (o3) p3.at_=o4 at *;generalize ht4:togL [p3] (nth sets p3.at_.toNat)=t4 at *;have hF:=C5 o4 (by have:=A4.2;omega);have hL:=CO o4 (by have:=A4.2;omega);clear hS hv ho1 ht1 l1 ho2 ht2 l2 ho3 ht3 l3 ho4 ht4 l4;refine BV BQ ?_;unfold BO;(with_reducible repeat'(first|(simp(disch:=omega)only[push_cast,↓zz,seval])|refine Aa ?_ ?_|(first|refine Ac ?_ ?_|refine Ab ?_ ?_)<;>intro hc<;>(try simp only[push_cast] at hc)|omega|intro _));refine BW 6 ?_;(with_reducible repeat'(first|(simp(disch:=omega)only[push_cast,↓zz,seval,xx,Ag,Am,A5,Bg,B9,Ay,B0,Bz,D5,setM,n01,n02,n03,n12,n13,n23])|refine Aa ?_ ?_|(first|refine Ac ?_ ?_|refine Ab ?_ ?_)<;>intro hc<;>(try simp only[push_cast] at hc)|refine Bj ?_|refine De [1] ?_|omega|intro _));refine C4 6 (λenv=>[C0 1 (env 6)]) [(1,Bs sets),(6,.map 0 1),(10,AY [⟨sm,sm⟩]),(53,.lst 1 [.int .i64 p0.at_,.int .i64 p1.at_,.int .i64 p2.at_,.int .i64 p3.at_]),(54,.int .i64 4),(55,.int .i64 0)] [⟨0,1,true,[.int .i64 p0.at_,Co [p0],.int .i64 p1.at_,Co [p1],.int .i64 p2.at_,Co [p2],.int .i64 p3.at_,Co [p3]]⟩] ?_ ?_
 ·(with_reducible repeat'(first|(simp(disch:=omega)only[push_cast,↓zz,seval,n01,n02,n03,n12,n13,n23])|refine Aa ?_ ?_|(first|refine Ac ?_ ?_|refine Ab ?_ ?_)<;>intro hc<;>(try simp only[push_cast] at hc)|omega|intro _))
  all_goals (simp only[DO,n01,n02,n03,n12,n13,n23];done)
 (with_reducible repeat'(first|(simp(disch:=omega)only[push_cast,↓zz,seval,D5,Dx,hg,n01,n02,n03,n12,n13,n23])|refine Aa ?_ ?_|(first|refine Ac ?_ ?_|refine Ab ?_ ?_)<;>intro hc<;>(try simp only[push_cast] at hc)|refine Bj ?_|refine eQ T1 ?_|refine eQ P1 ?_|refine eK T1 ?_|refine eK P1 ?_|refine eQ T2 ?_|refine eQ P2 ?_|refine eK T2 ?_|refine eK P2 ?_|refine eQ T3 ?_|refine eQ P3 ?_|refine eK T3 ?_|refine eK P3 ?_|refine eQ T4 ?_|refine eQ P4 ?_|refine eK T4 ?_|refine eK P4 ?_|refine eK hF ?_|refine eK hL ?_|omega|intro _))
 all_goals ((try simp only[*,Bi,AP,Ax,AA]);(repeat'(first|(simp(disch:=omega)only[push_cast,↓zz,seval,Du])|omega|(with_reducible refine Aa ?_ ?_))))
theorem za7(bs dr tk up sm:Int)(p0 p1 p2 p3:Part)(sets:List (List Span))(hs:Dw sm=true)(hS:Ee [p0,p1,p2,p3] sets):
 PC Tryz.prog 196 [Dv ⟨bs,dr,tk,up,sm,[p0,p1,p2,p3]⟩,Bs sets] (.tup [AY (BR ⟨bs,dr,tk,up,sm,[p0,p1,p2,p3]⟩ sets),.bool (Dx (BR ⟨bs,dr,tk,up,sm,[p0,p1,p2,p3]⟩ sets))]):=by
 rcases BN (p1.at_=p0.at_) with e1|x01
 ·skip
  rcases BN (p2.at_=p0.at_) with e2|x02
  ·skip
   rcases BN (p3.at_=p0.at_) with e3|x03
   ·skip
    exact Zj bs dr tk up sm p0 p1 p2 p3 sets hs hS e1 e2 e3
   have n03:¬p0.at_=p3.at_:=λh=>x03 h.symm;exact Zk bs dr tk up sm p0 p1 p2 p3 sets hs hS e1 e2 n03
  have n02:¬p0.at_=p2.at_:=λh=>x02 h.symm;rcases BN (p3.at_=p0.at_) with e3|x03
  ·skip
   exact Zl bs dr tk up sm p0 p1 p2 p3 sets hs hS e1 e3 n02
  have n03:¬p0.at_=p3.at_:=λh=>x03 h.symm;rcases BN (p3.at_=p2.at_) with e3|x23
  ·skip
   exact Zm bs dr tk up sm p0 p1 p2 p3 sets hs hS e1 e3 n02
  have n23:¬p2.at_=p3.at_:=λh=>x23 h.symm;exact Zn bs dr tk up sm p0 p1 p2 p3 sets hs hS e1 n02 n03 n23
 have n01:¬p0.at_=p1.at_:=λh=>x01 h.symm;rcases BN (p2.at_=p0.at_) with e2|x02
 ·skip
  rcases BN (p3.at_=p0.at_) with e3|x03
  ·skip
   exact Zo bs dr tk up sm p0 p1 p2 p3 sets hs hS e2 e3 n01
  have n03:¬p0.at_=p3.at_:=λh=>x03 h.symm;rcases BN (p3.at_=p1.at_) with e3|x13
  ·skip
   exact Zp bs dr tk up sm p0 p1 p2 p3 sets hs hS e2 e3 n01
  have n13:¬p1.at_=p3.at_:=λh=>x13 h.symm;exact Zq bs dr tk up sm p0 p1 p2 p3 sets hs hS e2 n01 n03 n13
 have n02:¬p0.at_=p2.at_:=λh=>x02 h.symm;rcases BN (p2.at_=p1.at_) with e2|x12
 ·skip
  rcases BN (p3.at_=p0.at_) with e3|x03
  ·skip
   exact Zr bs dr tk up sm p0 p1 p2 p3 sets hs hS e2 e3 n01
  have n03:¬p0.at_=p3.at_:=λh=>x03 h.symm;rcases BN (p3.at_=p1.at_) with e3|x13
  ·skip
   exact Zs bs dr tk up sm p0 p1 p2 p3 sets hs hS e2 e3 n01
  have n13:¬p1.at_=p3.at_:=λh=>x13 h.symm;exact US bs dr tk up sm p0 p1 p2 p3 sets hs hS e2 n01 n03 n13
 have n12:¬p1.at_=p2.at_:=λh=>x12 h.symm;rcases BN (p3.at_=p0.at_) with e3|x03
 ·skip
  exact UT bs dr tk up sm p0 p1 p2 p3 sets hs hS e3 n01 n02 n12
 have n03:¬p0.at_=p3.at_:=λh=>x03 h.symm;rcases BN (p3.at_=p1.at_) with e3|x13
 ·skip
  exact UU bs dr tk up sm p0 p1 p2 p3 sets hs hS e3 n01 n02 n12
 have n13:¬p1.at_=p3.at_:=λh=>x13 h.symm;rcases BN (p3.at_=p2.at_) with e3|x23
 ·skip
  exact UV bs dr tk up sm p0 p1 p2 p3 sets hs hS e3 n01 n02 n12
 have n23:¬p2.at_=p3.at_:=λh=>x23 h.symm;exact UW bs dr tk up sm p0 p1 p2 p3 sets hs hS n01 n02 n03 n12 n13 n23
theorem UX(t:Term)(sets:List (List Span))(hl:t.parts.length<=4)(hs:Dw t.sum=true)(hS:Ee t.parts sets):
 PC Tryz.prog 196 [Dv t,Bs sets] (.tup [AY (BR t sets),.bool (Dx (BR t sets))]):=by
 obtain⟨bs,dr,tk,up,sm,l⟩:=t
 match l,hl,hS with
 |[],_,hS=>exact za3 bs dr tk up sm sets hs hS
 |[p0],_,hS=>exact za4 bs dr tk up sm p0 sets hs hS
 |[p0,p1],_,hS=>exact za5 bs dr tk up sm p0 p1 sets hs hS
 |[p0,p1,p2],_,hS=>exact za6 bs dr tk up sm p0 p1 p2 sets hs hS
 |[p0,p1,p2,p3],_,hS=>exact za7 bs dr tk up sm p0 p1 p2 p3 sets hs hS
 |_::_::_::_::_::_,hl,_=>simp at hl
def midG(gs:List (List Span))(k:Nat):List (List Span):=(gs.take k).map symI++List.replicate (gs.length-k) []
theorem Xf{gs:List (List Span)}{k:Nat}(h:k<=gs.length):(midG gs k).length=gs.length:=by simp[midG];omega
theorem za8(gs:List (List Span)):midG gs gs.length=gs.map symI:=by simp[midG]
theorem za9{gs:List (List Span)}{k:Nat}(h:k<gs.length):((midG gs k).map AY).set k (AY (symI (nth gs k)))=(midG gs (k+1)).map AY:=by
 have e:gs.length-k=(gs.length-(k+1))+1:=by omega
 rw[midG,midG,take_at h,e,List.replicate_succ,A9,Fa _ _ (by simp;omega)];simp[show min k gs.length=k by omega]
theorem zgv{gs:List (List Span)}{k:Nat}(h:k<gs.length):nth (midG gs (k+1)) k=symI (nth gs k):=by
 rw[midG,take_at h,nth,Av,A9,Aw,AG (by simp;omega)];simp[show min k gs.length=k by omega]
theorem zaa(n:Nat):AT (List.replicate n AV.nilS)=true:=by
 induction n with
 |zero=>rfl
 |succ n ih=>simp[List.replicate_succ,AT,AV.pure,ih]
theorem zab(l:List Grp)(gs:List (List Span)):leSL l (List.replicate gs.length .nilS) ((midG gs 0).map AY):=by
 simp only[midG,List.take_zero,BF,List.nil_append,Nat.sub_zero,DJ];generalize gs.length=n
 induction n with
 |zero=>rfl
 |succ n ih=>exact⟨⟨by decide,rfl⟩,ih⟩
def LH(gs:List (List Span))(k:Nat):Bool:=(gs.take k).all λg=>decide (0<((symI g).length:Int))
theorem zac{gs:List (List Span)}{k:Nat}(h:k<gs.length):LH gs (k+1)=(LH gs k&&decide (0<((symI (nth gs k)).length:Int))):=by
 rw[LH,take_at h,List.all_append];simp[LH]
def prtB(t:Term)(n:Int):Bool:=t.parts.all λp=>FH p n
def Gk(t:Term)(gs:List (List Span)):List Span × Bool :=
 if 4<gs.length\/ET t=false then ([],false) else if prtB t gs.length=false then ([],false) else
  if LH gs gs.length=false then ([],true) else (BR t (gs.map symI),Dx (BR t (gs.map symI)))
theorem zl5{l:List Part}{n:Int}{k:Nat}(h:k<l.length):(l.drop k).all (λp=>FH p n)=(FH (nth l k) n&&(l.drop (k+1)).all λp=>FH p n):=by rw[drop_at h,List.all_cons]
theorem LI{t:Term}{gs:List (List Span)}(h:prtB t gs.length=true)(hg:gs.length<=4):Ee t.parts (gs.map symI) where
 parts p hp:=by
  rw[AM];exact AO.1 h p hp
 syms s hs:=by
  obtain⟨g,_,rfl⟩:=Aq.1 hs;exact Tq g
 many:=by simp;omega
theorem Zt(t:Term)(gs:List (List Span))(ht:t.parts.length<1000000000000)(hg:∀g∈gs,g.length<=1000000)(hl:gs.length<=9223372036854775807):
 PC Tryz.prog 185 [Dv t,Bs gs] (.tup [AY (Gk t gs).1,.bool (Gk t gs).2]):=by
 have hP:=AL gs;have hN:=Jq t ht;have hY:=Tr;refine BV SK ?_;unfold Mn;by_cases h1:4<gs.length\/ET t=false
 ·rw[Gk,Ai h1]
  (with_reducible repeat'(first|(simp(disch:=omega)only[push_cast,↓zz,seval])|refine Aa ?_ ?_|(first|refine Ac ?_ ?_|refine Ab ?_ ?_)<;>intro hc<;>(try simp only[push_cast] at hc)|refine eK hN ?_|refine eQ hN ?_|refine eG hN ?_|((first|refine cK hN ?_|refine cQ hN ?_|refine cG hN ?_);(simp(disch:=omega)only[push_cast,↓zz,seval]);(fail_if_success change False))|omega|intro _))
  all_goals first
   |((repeat'(first|(simp(disch:=omega)only[push_cast,↓zz,seval,Du])|omega|(with_reducible refine Aa ?_ ?_)));done)
   |(exfalso;rcases h1 with h1|h1<;>first|omega|simp_all)
 have h4:gs.length<=4:=by omega
 have hn:ET t=true:=by simpa using (B9.1 h1).2
 (with_reducible repeat'(first|(simp(disch:=omega)only[push_cast,↓zz,seval,hn])|refine Aa ?_ ?_|(first|refine Ac ?_ ?_|refine Ab ?_ ?_)<;>intro hc<;>(try simp only[push_cast] at hc)|refine eK hN ?_|refine eQ hN ?_|refine eG hN ?_|((first|refine cK hN ?_|refine cQ hN ?_|refine cG hN ?_);(simp(disch:=omega)only[push_cast,↓zz,seval,hn]);(fail_if_success change False))|omega|intro _))
 refine B4 (BK (λ(k:Nat)=>k<=gs.length) (λk=>gs.length-k)
  (λk=>[(1,Bs gs),(2,.ptr 0 1 0 0),(6,.bool (LH gs k)),(7,.ref 1 1 0 gs.length),(23,Bs gs),(24,.int .i64 gs.length),(25,.int .i64 k)]) (λk=>[⟨6,1,true,[Dv t]⟩,⟨1,1,true,(midG gs k).map AY⟩]) (λenv _=>[C0 1 (env 2),C0 1 (env 7)]) 0 (by simp) ?_ ?_)
 ·have e:=zab
  have hr:AT (List.replicate gs.length AV.nilS)=true:=zaa gs.length;have hs0:LH gs 0=true:=rfl;(with_reducible repeat'(first|(simp(disch:=omega)only[push_cast,↓zz,seval,hs0,hP,hr])|refine Aa ?_ ?_|(first|refine Ac ?_ ?_|refine Ab ?_ ?_)<;>intro hc<;>(try simp only[push_cast] at hc)|omega|intro _))
  all_goals exact e _ gs
 intro k hk;have hml:=Xf hk;have hpm:=AL (midG gs k);rcases An k gs.length with hkl|hkl
 ·have hM:=NS (nth gs k) [⟨0,1114111⟩] (by have:=hg _ (B2 hkl);omega) (by simp)
  rw[za0] at hM;have e1:=za9 hkl;have e2:=zgv hkl;have e3:=zac hkl;have hpm2:=AL (midG gs (k+1));have hml2:=Xf (gs:=gs) (k:=k+1) (by omega);refine W_T ?_;(with_reducible repeat'(first|(simp(disch:=omega)only[push_cast,↓zz,seval,hP,hpm,hpm2,hml,hml2,e1,e2])|refine Aa ?_ ?_|(first|refine Ac ?_ ?_|refine Ab ?_ ?_)<;>intro hc<;>(try simp only[push_cast] at hc)|refine eK hY ?_|refine eQ hY ?_|refine eG hY ?_|refine eK hM ?_|refine eQ hM ?_|refine eG hM ?_|((first|refine cK hY ?_|refine cQ hY ?_|refine cG hY ?_|refine cK hM ?_|refine cQ hM ?_|refine cG hM ?_);(simp(disch:=omega)only[push_cast,↓zz,seval,hP,hpm,hpm2,hml,hml2,e1,e2]);(fail_if_success change False))|omega|intro _))
  all_goals
   refine⟨k+1,?_⟩;(with_reducible repeat'(first|(simp(disch:=omega)only[push_cast,↓zz,seval,e3])|refine Aa ?_ ?_|(first|refine Ac ?_ ?_|refine Ab ?_ ?_)<;>intro hc<;>(try simp only[push_cast] at hc)|omega|intro _))
  all_goals (simp only[*,Ax,AA])
 ·obtain rfl:k=gs.length:=by omega
  rw[za8] at *;refine W_T ?_;(with_reducible repeat'(first|(simp(disch:=omega)only[push_cast,↓zz,seval,hP,hpm])|refine Aa ?_ ?_|(first|refine Ac ?_ ?_|refine Ab ?_ ?_)<;>intro hc<;>(try simp only[push_cast] at hc)|omega|intro _))
  refine B4 (BK (λ(k:Nat)=>k<=t.parts.length/\prtB t gs.length=(t.parts.drop k).all λp=>FH p gs.length) (λk=>t.parts.length-k)
   (λk=>[(1,Bs gs),(2,.ptr 0 1 0 0),(6,.bool (LH gs gs.length)),(7,Bs (gs.map symI)),(47,Co t.parts),(48,.int .i64 t.parts.length),(49,.int .i64 k)]) (λk=>[⟨6,1,true,[Dv t]⟩]) (λenv _=>[C0 1 (env 2)]) 0 ⟨by simp,rfl⟩ ?_ ?_)
  ·have et:List.take gs.length (gs.map symI)=gs.map symI:=Ar (by simp)
   (with_reducible repeat'(first|(simp(disch:=omega)only[push_cast,↓zz,seval,hP,hpm,et])|refine Aa ?_ ?_|(first|refine Ac ?_ ?_|refine Ab ?_ ?_)<;>intro hc<;>(try simp only[push_cast] at hc)|omega|intro _))
  rintro k ⟨k1,k2⟩;rcases An k t.parts.length with hkp|hkp
  ·have hR:=Hu (nth t.parts k) gs.length
   rw[zl5 hkp] at k2;refine W_T ?_;(with_reducible repeat'(first|(simp(disch:=omega)only[push_cast,↓zz,seval,hP,hpm])|refine Aa ?_ ?_|(first|refine Ac ?_ ?_|refine Ab ?_ ?_)<;>intro hc<;>(try simp only[push_cast] at hc)|refine eK hR ?_|refine eQ hR ?_|refine eG hR ?_|((first|refine cK hR ?_|refine cQ hR ?_|refine cG hR ?_);(simp(disch:=omega)only[push_cast,↓zz,seval,hP,hpm]);(fail_if_success change False))|omega|intro _))
   ·have hp:prtB t gs.length=false:=by rw[k2];simp[*]
    rw[Gk,Ah h1,Ai hp];(repeat'(first|(simp(disch:=omega)only[push_cast,↓zz,seval,Du])|omega|(with_reducible refine Aa ?_ ?_)))
   ·exact⟨k+1,by push_cast,⟨by omega,by rw[k2];simp[*]⟩,by omega⟩
  ·rw[A6 hkp] at k2
   have hp:prtB t gs.length=true:=k2;have hnum:=hn;simp only[ET,Ad,Aj] at hnum;have hV:=UX t (gs.map symI) hnum.2.2 hnum.1.1.2 (LI hp h4);have hI:Gk t gs=if LH gs gs.length=false then ([],true) else (BR t (gs.map symI),Dx (BR t (gs.map symI))):=by rw[Gk,Ah h1,Ah (by simp[hp])]
   refine W_T ?_;(with_reducible repeat'(first|(simp(disch:=omega)only[push_cast,↓zz,seval,hP,hpm])|refine Aa ?_ ?_|(first|refine Ac ?_ ?_|refine Ab ?_ ?_)<;>intro hc<;>(try simp only[push_cast] at hc)|refine eK hV ?_|refine eQ hV ?_|refine eG hV ?_|((first|refine cK hV ?_|refine cQ hV ?_|refine cG hV ?_);(simp(disch:=omega)only[push_cast,↓zz,seval,hP,hpm]);(fail_if_success change False))|omega|intro _))
   all_goals
    rw[hI]
    first
     |rw[Ai (by assumption)]
     |rw[Ah (by simp[*])]
    (repeat'(first|(simp(disch:=omega)only[push_cast,↓zz,seval,Du])|omega|(with_reducible refine Aa ?_ ?_)))
   all_goals trace_state
def Gl(t:Term)(gs:List (List Span)):List Span × Bool :=
 if (Gk t gs).2=false then ([],false) else if (Gk t gs).1.length=0 then ([],true) else (M7 (imgL t.outer (Gk t gs).1) t.base,true)
theorem z47(t:Term)(gs:List (List Span))(h:Dw t.sum=true):(Gk t gs).1.length<=2147483649:=by
 unfold Gk
 repeat' split
 all_goals first|(simp;done)|skip
 unfold BR
 have key:∀(pl:List Int)(out:List Span),Acc out->Acc (pl.foldl (Cf t.parts (gs.map symI)) out):=λpl=>by
  induction pl with
  |nil=>exact λout h=>h
  |cons a pl ih=>exact λout h=>ih _ (Xd _ _)
 exact (key _ _ (Et h)).2
theorem Zu(t:Term)(gs:List (List Span))(ht:t.parts.length<1000000000000)(hg:∀g∈gs,g.length<=1000000)(hl:gs.length<=9223372036854775807):
 PC Tryz.prog 167 [Dv t,Bs gs] (.tup [AY (Gl t gs).1,.bool (Gl t gs).2]):=by
 have hP:=AL gs;have hI:=Zt t gs ht hg hl;have hO:=GO t
 have hlen:(Gk t gs).2=true->(Gk t gs).1.length<=2147483649:=λh=>by
  by_cases hs:Dw t.sum=true
  ·exact z47 t gs hs
  ·have:ET t=false:=by simp[ET,hs]
   rw[Gk,Ai (.inr this)] at h;cases h
 refine BV SI ?_;unfold Ml;rcases Bool.eq_false_or_eq_true (Gk t gs).2 with h2|h2
 ·have hl2:=hlen h2
  have hA:=Rm t.outer (Gk t gs).1;have hM:=PN t.outer (Gk t gs).1 (by omega);have hV:=z3y (imgL t.outer (Gk t gs).1) t.base (by have:=hA.2;omega);(with_reducible repeat'(first|(simp(disch:=omega)only[push_cast,↓zz,seval,hP,h2])|refine Aa ?_ ?_|(first|refine Ac ?_ ?_|refine Ab ?_ ?_)<;>intro hc<;>(try simp only[push_cast] at hc)|refine eK hI ?_|refine eQ hI ?_|refine eG hI ?_|refine eK hO ?_|refine eQ hO ?_|refine eG hO ?_|refine eK hM ?_|refine eQ hM ?_|refine eG hM ?_|refine eK hV ?_|refine eQ hV ?_|refine eG hV ?_|((first|refine cK hI ?_|refine cQ hI ?_|refine cG hI ?_|refine cK hO ?_|refine cQ hO ?_|refine cG hO ?_|refine cK hM ?_|refine cQ hM ?_|refine cG hM ?_|refine cK hV ?_|refine cQ hV ?_|refine cG hV ?_);(simp(disch:=omega)only[push_cast,↓zz,seval,hP,h2]);(fail_if_success change False))|omega|intro _))
  all_goals
   rw[Gl,Ah (by simp[h2])]
   first
    |rw[Ai (by omega)]
    |rw[Ah (by omega)]
   (repeat'(first|(simp(disch:=omega)only[push_cast,↓zz,seval,Du])|omega|(with_reducible refine Aa ?_ ?_)))
 ·(with_reducible repeat'(first|(simp(disch:=omega)only[push_cast,↓zz,seval,hP,h2])|refine Aa ?_ ?_|(first|refine Ac ?_ ?_|refine Ab ?_ ?_)<;>intro hc<;>(try simp only[push_cast] at hc)|refine eK hI ?_|refine eQ hI ?_|refine eG hI ?_|((first|refine cK hI ?_|refine cQ hI ?_|refine cG hI ?_);(simp(disch:=omega)only[push_cast,↓zz,seval,hP,h2]);(fail_if_success change False))|omega|intro _))
  all_goals
   rw[Gl,Ai h2];(repeat'(first|(simp(disch:=omega)only[push_cast,↓zz,seval,Du])|omega|(with_reducible refine Aa ?_ ?_)))
def KV(t:Term)(i o:Int)(gs:List (List Span)):Bool:=I0 t i o gs.length&&((Gl t gs).2&&decide (Ju (Gl t gs).1 (domL o)=[]))
theorem z48(t:Term)(gs:List (List Span)):(Gl t gs).1.length<=2147483649:=by
 unfold Gl
 repeat' split
 all_goals first|(simp;done)|skip
 have h1:=(Rm t.outer (Gk t gs).1).2;have h2:=za1 (imgL t.outer (Gk t gs).1) t.base;simp only;omega
theorem z49(s:Int):(domL s).length<=2:=by unfold domL;split<;>(try split)<;>simp
theorem z4a(t:Term)(i o:Int)(gs:List (List Span))(ht:t.parts.length<1000000000000)(hg:∀g∈gs,g.length<=1000000)(hl:gs.length<=9223372036854775807):
 PC Tryz.prog 147 [Dv t,.int .i64 i,.int .i64 o,Bs gs] (.bool (KV t i o gs)):=by
 have hP:=AL gs;have hR:=YH t i o gs.length ht;have hI:=Zu t gs ht hg hl;have hD:=FW o;have hW:=NT (Gl t gs).1 (domL o) (by have:=z48 t gs;omega) (by have:=z49 o;omega);refine BV U5 ?_;unfold N4 KV;(with_reducible repeat'(first|(simp(disch:=omega)only[push_cast,↓zz,seval,hP])|refine Aa ?_ ?_|(first|refine Ac ?_ ?_|refine Ab ?_ ?_)<;>intro hc<;>(try simp only[push_cast] at hc)|refine eK hR ?_|refine eQ hR ?_|refine eG hR ?_|refine eK hI ?_|refine eQ hI ?_|refine eG hI ?_|refine eK hD ?_|refine eQ hD ?_|refine eG hD ?_|refine eK hW ?_|refine eQ hW ?_|refine eG hW ?_|((first|refine cK hR ?_|refine cQ hR ?_|refine cG hR ?_|refine cK hI ?_|refine cQ hI ?_|refine cG hI ?_|refine cK hD ?_|refine cQ hD ?_|refine cG hD ?_|refine cK hW ?_|refine cQ hW ?_|refine cG hW ?_);(simp(disch:=omega)only[push_cast,↓zz,seval,hP]);(fail_if_success change False))|omega|intro _))
 all_goals simp only[*,Ax,AA]
end Go.Proofs.YtbcjoeadpjfcfaaGreat
