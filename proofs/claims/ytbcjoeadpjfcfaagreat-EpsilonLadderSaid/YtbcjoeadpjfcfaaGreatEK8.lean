/-
  Parts of the proof that the law holds whatever the input; without conditions.
-/
import Derived.Test.YtbcjoeadpjfcfaaGreatEK7
import Derived.Test.YtbcjoeadpjfcfaaGreatEK5
import Derived.Test.YtbcjoeadpjfcfaaGreatEK3
import Derived.Test.YtbcjoeadpjfcfaaGreatEK4
set_option linter.unusedSimpArgs false
set_option linter.unusedVariables false
set_option linter.unusedSectionVars false
set_option maxRecDepth 100000
namespace Go.Proofs.YtbcjoeadpjfcfaaGreat
open Abs Go.Shelf Go.RowKit Go.Lib Go.Sort
def WV(S:MS):Type:={ p:List Int × Value // VRel S (Bf p.1) p.2/\p.1.length<=1000000000 }
instance (S:MS):Inhabited (WV S):=⟨⟨([],.slice none 0 0),⟨rfl,Nat.one_pos,none,0,[],rfl,⟨Ae _,λ_=>rfl⟩,rfl,λh=>absurd rfl h⟩,AD _⟩⟩
def encW(S:MS)(p:WV S):Value:=p.val.2
def cfW(S:MS)(p q:WV S):Int:=cmpL p.val.1 q.val.1
theorem ltCW(S:MS)(p q:WV S):ltOf (cfW S) p q=ltW p.val.1 q.val.1:=by
 unfold ltOf cfW;cases h:ltW p.val.1 q.val.1 with
 |true=>exact Ba ((z5r _ _).2 h)
 |false=>exact By λhh=>by rw[(z5r _ _).1 hh] at h;cases h
theorem ZJ(a b c:List Int)(h1:ltW a b=false)(h2:ltW b c=false):ltW a c=false:=by
 cases h:ltW a c with
 |false=>rfl
 |true =>
  exfalso;cases hba:ltW b a with
  |true=>have:=J2 b a c hba h;rw[h2] at this;cases this
  |false =>
   have e:=J3 a b h1 hba;subst e;rw[h2] at h;cases h
theorem swoW(S:MS):SWO (ltOf (cfW S)) where
 irrefl x:=by rw[ltCW];exact Hv _
 trans x y z h1 h2:=by rw[ltCW] at *;exact J2 _ _ _ h1 h2
 ntrans x y z h1 h2:=by rw[ltCW] at *;exact ZJ _ _ _ h1 h2
theorem z5y:∀{a b:World},a.heap=b.heap->a.tape=b.tape->a.drawn=b.drawn->a.os=b.os->a.output=b.output->a=b
 |⟨_,_,_,_,_⟩,⟨_,_,_,_,_⟩,rfl,rfl,rfl,rfl,rfl=>rfl
theorem Kg{α:Type}[Inhabited α](enc:α->Value)(w:World)(b m:Nat)(d:Array α)(os:Array Obj):w.heap.size<=(sortWorld enc w b 0 m d os).heap.size:=by
 show _<=((w.heap.modify _ _)++os).size;rw[FL,Dp];omega
theorem J6{α:Type}[Inhabited α](enc:α->Value)(w:World)(b m:Nat)(d:Array α)(os:Array Obj){k:Nat}(hk:k<w.heap.size)(hb:b≠k):(sortWorld enc w b 0 m d os).heap[k]? = w.heap[k]? := by
 show ((w.heap.modify _ _)++os)[k]? = _;rw[BS (by rw[Dp];exact hk),DW,Ah hb]
theorem ZK(S:MS){H:A7}(hS:SRel S H){blk:Nat}(hni:¬(S.im blk\/S.keep blk))(size:Nat):CmpLays1 Tryz.prog 77 #[] (encW S) (cfW S) blk 0 size S.w:=by
 intro m os dk _ x y;obtain⟨W,hW⟩:∃W,W=sortWorld (encW S) S.w blk 0 m dk os:=⟨_,rfl⟩;rw[<-hW];have hsz:S.w.heap.size<=W.heap.size:=by rw[hW];exact Kg ..
 have hkept:∀b,S.im b->W.heap[b]? = S.w.heap[b]? := λb hb=>by rw[hW];exact J6 _ _ _ _ _ _ (hS.im b (.inl hb)) λe=>hni (e ▸ .inl hb)
 have ev1:Evi S { S with w:=W }:=⟨hkept,λ_ h=>h,Ae _,λ_ _=>Ae _,λ_ _ _=>⟨rfl,rfl,rfl⟩⟩
 let S2:MS:=⟨W,S.im,λb=>b<W.heap.size,0,λ_=>0,λ_=>0,λ_=>0,λ_=>0,0⟩
 have down:∀p:WV S,VRel S2 (Bf p.val.1) p.val.2:=λp=>by
  have h:=VRel.moni ev1 _ p.property.1;rw[<-Ra (Bf p.val.1)] at h;exact QR (A:=S2) (B:={ S with w:=W }) (σ:=λg=>g) (m:=0) rfl (λb hb=>hb) (λg hg=>absurd hg (Bh _)) (Bf p.val.1) trivial h
 have hS2:SRel S2 A7.nil:=⟨rfl,λg hg=>absurd hg (Bh _),λg _ hg=>absurd hg (Bh _),λb hb=>hb.elim (λh=>Bb (hS.im b (.inl h)) hsz) id⟩;refine ((My x.val.1 y.val.1 x.property.2 y.property.2).2 S2 [encW S x,encW S y] hS2 ⟨_,_,rfl,down x,_,_,rfl,down y,rfl⟩).mono λe w' hh=>?_;obtain⟨v,S',z,H',rfl,rfl,ev,_,hv,rfl,_⟩:=hh;have hv':v=.int .i64 (cmpL x.val.1 y.val.1):=hv;subst hv';have hsz2:W.heap.size<=S'.w.heap.size:=ev.size;refine⟨rfl,S'.w.drawn-W.drawn,S'.w.heap.extract W.heap.size S'.w.heap.size,z5y ?_ ev.tape.1 ?_ ev.os ev.output⟩
 ·show S'.w.heap=W.heap++_
  refine Array.ext_getElem? λi=>?_;rcases An i W.heap.size with hi|hi
  ·rw[BS hi]
   exact ev.kept i (.inr hi)
  ·rw[Array.getElem?_append_right hi,Array.getElem?_extract]
   rcases An i S'.w.heap.size with h2|h2
   ·rw[Ai (by omega)];congr 1;omega
   ·rw[Ah (by omega),CY (by omega)]
 ·show S'.w.drawn=W.drawn+(S'.w.drawn-W.drawn)
  have:=ev.tape.2;have h2:W.drawn<=S'.w.drawn:=this;omega
theorem Qr{S:MS}:∀{l:List (List Int)}{vs:List Value},(∀w∈l,w.length<=1000000000)->AI S (l.map Bf) vs->∃pl:List (WV S),pl.map (λp=>p.val.1)=l/\pl.map (encW S)=vs
 |[],vs,_,h=>⟨[],rfl,h.symm⟩
 |x::l,vs,hl,⟨v,r,hv,h1,h2⟩=>by
  obtain⟨pl,a,b⟩:=Qr (λw hw=>hl w (by simp[hw])) h2;exact⟨⟨(x,v),h1,hl x (by simp)⟩::pl,by show x::pl.map _=x::l;rw[a],by rw[hv,<-b];rfl⟩
theorem TY{S:MS}(p:WV S):∃a n c,encW S p=.slice a n c:=by
 obtain⟨_,_,a,cap,vs,hv,_⟩:=p.property.1;exact⟨a,_,cap,hv⟩
theorem oneW(S:MS):OneCell (encW S):=λp=>by
 obtain⟨a,n,c,h⟩:=TY p;rw[h];rfl
theorem XP{S:MS}(p:WV S):(encW S p).cells=#[encW S p]:=by
 obtain⟨a,n,c,h⟩:=TY p;rw[h];rfl
theorem zbo{S:MS}{b:Nat}{cells:Array Value}{T:TypeId}{pl:List (WV S)}(hb:S.w.heap[b]? = some (.cells cells T (0,0)))(hf:GG cells 1 (pl.map (encW S))):Holds (encW S) S.w b 0 pl.toArray:=by
 intro j hj;have hi:j<pl.length:=by simpa using hj
 have he:(pl.map (encW S))[j]? = some (encW S pl[j]):=by simp[hi]
 obtain⟨_,_,h3⟩:=hf _ _ he;have h4:=h3 0 Nat.one_pos;rw[Nat.mul_one,Nat.add_zero,XP] at h4;have hg:pl.toArray[j]! = pl[j]:=by simp[hi]
 refine⟨?_,?_⟩
 ·rw[hg]
  simp only[World.cell?,hb,Bn,Option.isSome_none,AB,Bt,h4,id];rfl
 ·simp[World.frozen?,hb]
theorem zhk{S:MS}{b n:Nat}{cells:Array Value}{T:TypeId}{d:Array (WV S)}{os:Array Obj}(hb:S.w.heap[b]? = some (.cells cells T (0,0)))(hsz:d.size<=cells.size):
 ∃cells',(sortWorld (encW S) S.w b 0 n d os).heap[b]? = some (.cells cells' T (0,0))/\cells'.size=cells.size/\GG cells' 1 (d.toList.map (encW S)):=by
 have hlt:b<S.w.heap.size:=(Bl.1 hb).1;refine⟨putCells (encW S) 0 d cells,?_,by simp[putCells],λi v hv=>?_⟩
 ·show ((S.w.heap.modify b _)++os)[b]? = _
  rw[BS (by rw[Dp];exact hlt),DW,Ai rfl,hb];rfl
 ·rw[Eb] at hv
  obtain⟨x,hx,rfl⟩:=Af.1 hv;have hi:i<d.size:=by have:=(Bq.1 hx).1;simpa using this
  refine⟨by rw[XP];rfl,λc hc=>?_,λj hj=>?_⟩
  ·rw[XP] at hc
   obtain rfl:c=encW S x:=by simpa using hc
   exact oneW S x
  ·obtain rfl:j=0:=by omega
   have hlt2:i<cells.size:=by omega
   have hd:d[i]! = x:=by
    rw[EY] at hx;rw[getElem!_pos d i hi];exact (Bl.1 hx).2
   rw[Nat.mul_one,Nat.add_zero,putCells,EX,Ek hlt2];simp only[Option.map_some,AD,EN,Bn,Nat.sub_zero];rw[Ai hi,hd,XP];rfl
def V5(l:List (List Int)):Prop:=l.Pairwise λa b=>ltW b a=false
theorem z5z{S:MS}{d:Array (WV S)}(h:SortedIn (ltOf (cfW S)) 0 d.size d):V5 (d.toList.map λp=>p.val.1):=by
 rw[V5,FN,En];intro i j hi hj hij;have hi':i<d.size:=by simpa using hi
 have hj':j<d.size:=by simpa using hj
 have:=h i j (AD _) hij hj';rw[ltCW,getElem!_pos d j hj',getElem!_pos d i hi'] at this;simpa using this
theorem z60{S:MS}:∀(pl:List (WV S)),AI S (pl.map λp=>Bf p.val.1) (pl.map (encW S))
 |[]=>rfl
 |p::pl=>⟨_,_,rfl,p.property.1,z60 pl⟩
theorem zhl{H:A7}{g ver:Nat}{ex:Bool}{l:List (List Int)}(hg:g<H.n)(hG:H.at_ g=⟨1,ver,ex,l.map Bf⟩)(h1:l≠[])(hl:l.length<4611686018427387904)(hw:∀w∈l,w.length<=1000000000):
 BZ Tryz.prog 107 [.ref g ver 0 l.length,.fn 77 []] H λy H'=>y=.tup []/\∃l':List (List Int),l'.Perm l/\V5 l'/\H'=H.set g ⟨1,ver,ex,l'.map Bf⟩:=by
 have eg:∀args w,(callFunc 77 args).run Tryz.prog w=.ok (.enter 77 args) w:=enters_of Tryz.func77 (by kernel_rfl) rfl;refine⟨enters_of Tryz.func107 (by kernel_rfl) rfl,λS cargs hS hx=>?_⟩;obtain⟨v1,r1,rfl,⟨_,hgn,_,hv1⟩,v2,r2,rfl,⟨lb,rfl,rfl⟩,rfl⟩:=hx;have hgr:=hS.grp g hg;rw[hG] at hgr;obtain⟨a,cap',rfl,hcase⟩:=hv1 hgr.ver;have hpos:0<l.length:=by cases l;exact absurd rfl h1;simp
 obtain⟨rfl,rfl,hcap⟩:=hcase.resolve_right (λh=>by omega);have hlen:l.length<=S.cap g:=by have:=hgr.len (show 0<1 by decide);simpa using this
 obtain⟨⟨cells,T,vs,b1,b2,b3,b4⟩,hni⟩:=hgr.live (show 0<1 by decide) (by omega);obtain⟨pl,e1,rfl⟩:=Qr hw b3;have b2':cells.size=S.cap g * 1:=b2;have hpl:pl.length=l.length:=by rw[<-e1,AM]
 have hblk:S.place g<S.w.heap.size:=(Bl.1 b1).1;have hcon:=Any.slices_SortFunc Tryz.sortWd (encW S) (oneW S) (cfW S) (swoW S) 77 #[] (S.place g) 0 (S.cap g-0) pl.toArray S.w eg (ZK S hS hni _) (zbo b1 b4) hblk (by simp;omega);change Calls Tryz.prog 107 _ _ _ at hcon;rw[Cj,hpl] at hcon;rw[F9];refine hcon.mono λe w' ⟨he,d',n,os,hp,hs,hw'⟩=>?_;subst he hw';obtain⟨q1,q2,q3⟩:=hp;have q1:d'.size=l.length:=by simpa [hpl] using q1
 have hperm:(d'.toList.map λp=>p.val.1).Perm l:=by
  rw[Ef,Ef] at q3;have q4:d'.toList.Perm pl:=by simpa [List.extract,q1,hpl,Ar (show d'.toList.length<=l.length by simp[q1]),Ar (show pl.length<=l.length by omega)] using q3
  rw[<-e1];exact q4.map _
 rw[<-q1] at hs;obtain⟨cells',c1,c2,c3⟩:=zhk (n:=n) (d:=d') (os:=os) b1 (by omega);have hoth:∀b,b≠S.place g->b<S.w.heap.size->(sortWorld (encW S) S.w (S.place g) 0 n d' os).heap[b]? = S.w.heap[b]? := λb hb hlt=>J6 _ _ _ _ _ _ hlt (Al hb);have ev1:Evi S { S with w:=sortWorld (encW S) S.w (S.place g) 0 n d' os }:=⟨λb hb=>hoth b (λe=>hni (e ▸ .inl hb)) (hS.im b (.inl hb)),λ_ h=>h,Ae _,λ_ _=>Ae _,λ_ _ _=>⟨rfl,rfl,rfl⟩⟩;have hmm:(d'.toList.map λp=>p.val.1).map Bf=d'.toList.map λp=>Bf p.val.1:=by rw[Dj];rfl
 have hh:=hS.moved hg (by rw[hG];exact (show 0<1 by decide)) (sortWorld (encW S) S.w (S.place g) 0 n d' os) (S.place g) (S.cap g) ⟨1,ver,ex,(d'.toList.map λp=>p.val.1).map Bf⟩ rfl ⟨rfl,Fh _ _⟩ rfl
  (Kg ..)
  (λb hb hlt=>hoth b (λe=>hb ⟨by omega,e⟩) hlt)
  (.inl ⟨by omega,rfl⟩) (λ_=>⟨cells',T,_,c1,by rw[c2];exact b2',by rw[hmm];exact z60 _,c3⟩) (by simp[q1];exact hlen)
  (λhx=>by have:=hgr.full (show 0<1 by decide) hx;simp at this;simp[q1];exact this) (show 0<1 by decide) (by rw[hgr.ver];exact Ae _) (λ_=>⟨rfl,rfl,by rw[hgr.wid]⟩)
 exact⟨_,_,.tup [],_,rfl,rfl,hh.1,hh.2,⟨[],rfl,rfl⟩,rfl,_,hperm,z5z hs,rfl⟩
set_option maxRecDepth 100000
theorem zbp(l:List (List Int)):BZ Tryz.prog 154 [.ref 0 1 0 0,.int .i64 0,.int .i64 0,.fn 77 []] (Abs.hl [⟨1,1,true,l.map Bf⟩]) λy H'=>y=.tup []/\H'=Abs.hl [⟨1,1,true,l.map Bf⟩]:=by
 refine HR (b:=1) G1 rfl ?_;unfold ED;(with_reducible repeat'(first|(simp(disch:=omega)only[push_cast,↓zz,seval])|refine Aa ?_ ?_|(first|refine Ac ?_ ?_|refine Ab ?_ ?_)<;>intro hc<;>(try simp only[push_cast] at hc)|omega|intro _))
 refine B4 (BK (λ(_:Unit)=>True) (λ_=>0) (λ_=>[(0,.ref 0 1 0 0),(1,.int .i64 0),(2,.int .i64 0),(3,.fn 77 []),(8,.int .i64 1)])
  (λ_=>[⟨1,1,true,l.map Bf⟩]) (λ_ _=>[]) () trivial ?_ ?_)
 ·(with_reducible repeat'(first|(simp(disch:=omega)only[push_cast,↓zz,seval])|refine Aa ?_ ?_|(first|refine Ac ?_ ?_|refine Ab ?_ ?_)<;>intro hc<;>(try simp only[push_cast] at hc)|omega|intro _))
 rintro _ _;refine W_T ?_;(with_reducible repeat'(first|(simp(disch:=omega)only[push_cast,↓zz,seval])|refine Aa ?_ ?_|(first|refine Ac ?_ ?_|refine Ab ?_ ?_)<;>intro hc<;>(try simp only[push_cast] at hc)|omega|intro _))
 all_goals trace_state
theorem pdqW0(l:List (List Int)):BZ Tryz.prog 138 [.ref 0 1 0 0,.int .i64 0,.int .i64 0,.int .i64 0,.fn 77 []] (Abs.hl [⟨1,1,true,l.map Bf⟩]) λy H'=>y=.tup []/\H'=Abs.hl [⟨1,1,true,l.map Bf⟩]:=by
 refine HR (b:=1) Ho rfl ?_;unfold FF;(with_reducible repeat'(first|(simp(disch:=omega)only[push_cast,↓zz,seval])|refine Aa ?_ ?_|(first|refine Ac ?_ ?_|refine Ab ?_ ?_)<;>intro hc<;>(try simp only[push_cast] at hc)|omega|intro _))
 refine B4 (BK (λ(_:Unit)=>True) (λ_=>0) (λ_=>[(0,.ref 0 1 0 0),(1,.int .i64 0),(2,.int .i64 0),(3,.int .i64 0),(4,.fn 77 []),(10,.bool true),(11,.bool true)])
  (λ_=>[⟨1,1,true,l.map Bf⟩]) (λ_ _=>[]) () trivial ?_ ?_)
 ·(with_reducible repeat'(first|(simp(disch:=omega)only[push_cast,↓zz,seval])|refine Aa ?_ ?_|(first|refine Ac ?_ ?_|refine Ab ?_ ?_)<;>intro hc<;>(try simp only[push_cast] at hc)|omega|intro _))
 rintro _ _;refine W_T ?_;(with_reducible repeat'(first|(simp(disch:=omega)only[push_cast,↓zz,seval])|refine Aa ?_ ?_|(first|refine Ac ?_ ?_|refine Ab ?_ ?_)<;>intro hc<;>(try simp only[push_cast] at hc)|omega|intro _));refine BZ.mono (zbp l) ?_;rintro y H' ⟨rfl,rfl⟩;(with_reducible repeat'(first|(simp(disch:=omega)only[push_cast,↓zz,seval])|refine Aa ?_ ?_|(first|refine Ac ?_ ?_|refine Ab ?_ ?_)<;>intro hc<;>(try simp only[push_cast] at hc)|omega|intro _))
 all_goals trace_state
theorem zlo(l:List (List Int)):BZ Tryz.prog 107 [.ref 0 1 0 0,.fn 77 []] (Abs.hl [⟨1,1,true,l.map Bf⟩]) λy H'=>y=.tup []/\H'=Abs.hl [⟨1,1,true,l.map Bf⟩]:=by
 refine HR (b:=1) Hh rfl ?_;unfold FB;(with_reducible repeat'(first|(simp(disch:=omega)only[push_cast,↓zz,seval])|refine Aa ?_ ?_|(first|refine Ac ?_ ?_|refine Ab ?_ ?_)<;>intro hc<;>(try simp only[push_cast] at hc)|refine eK M5 ?_|refine eQ M5 ?_|refine eG M5 ?_|((first|refine cK M5 ?_|refine cQ M5 ?_|refine cG M5 ?_);(simp(disch:=omega)only[push_cast,↓zz,seval]);(fail_if_success change False))|omega|intro _));refine BZ.mono (pdqW0 l) ?_;rintro y H' ⟨rfl,rfl⟩;(with_reducible repeat'(first|(simp(disch:=omega)only[push_cast,↓zz,seval])|refine Aa ?_ ?_|(first|refine Ac ?_ ?_|refine Ab ?_ ?_)<;>intro hc<;>(try simp only[push_cast] at hc)|omega|intro _))
 all_goals trace_state
theorem V6(l:List Int)(hl:l.length<=1000000000000):PC Tryz.prog 106 [Bf l] (Bf l):=by
 have hp:AT (l.map (AV.int .i32))=true:=Cv .i32 _;cases l with
 |nil =>
  refine z1v ?_ ?_
  ·refine BV Fw ?_
   unfold Ei;(with_reducible repeat'(first|(simp(disch:=omega)only[push_cast,↓zz,seval])|refine Aa ?_ ?_|(first|refine Ac ?_ ?_|refine Ab ?_ ?_)<;>intro hc<;>(try simp only[push_cast] at hc)|omega|intro _))
  ·refine BV Fw ?_
   unfold Ei;(with_reducible repeat'(first|(simp(disch:=omega)only[push_cast,↓zz,seval])|refine Aa ?_ ?_|(first|refine Ac ?_ ?_|refine Ab ?_ ?_)<;>intro hc<;>(try simp only[push_cast] at hc)|omega|intro _))
 |cons a l =>
  have hne:((a::l).map (AV.int .i32)).isEmpty=false:=rfl;have hm0:¬(a::l)=[]:=by simp
  generalize (a::l)=m at *;refine BV Fw ?_;unfold Ei;(with_reducible repeat'(first|(simp(disch:=omega)only[push_cast,↓zz,seval,hne,hp,hm0])|refine Aa ?_ ?_|(first|refine Ac ?_ ?_|refine Ab ?_ ?_)<;>intro hc<;>(try simp only[push_cast] at hc)|omega|intro _))
  all_goals trace_state
theorem z61(l:List (List Int))(hl:l.length<=1000000000)(hw:∀w∈l,w.length<=1000000000):PC Tryz.prog 67 [Hl l] (Hl (JW l)):=by
 have pW:=CI l;refine BV U1 ?_;unfold Nz;(with_reducible repeat'(first|(simp(disch:=omega)only[push_cast,↓zz,seval,pW])|refine Aa ?_ ?_|(first|refine Ac ?_ ?_|refine Ab ?_ ?_)<;>intro hc<;>(try simp only[push_cast] at hc)|omega|intro _))
 refine B4 (BK (λ(k:Nat)=>k<=l.length) (λk=>l.length-k)
  (λk=>[(3,.ref 0 1 0 l.length),(9,Hl l),(10,.int .i64 l.length),(11,.int .i64 k)]) (λk=>[⟨1,1,true,(l.take k).map Bf++List.replicate (l.length-k) .nilS⟩]) (λenv _=>[C0 1 (env 3)]) 0 (by simp) ?_ ?_)
 ·(with_reducible repeat'(first|(simp(disch:=omega)only[push_cast,↓zz,seval,pW,FZ,List.take_zero,BF,List.nil_append,Nat.sub_zero])|refine Aa ?_ ?_|(first|refine Ac ?_ ?_|refine Ab ?_ ?_)<;>intro hc<;>(try simp only[push_cast] at hc)|omega|intro _))
 intro k hk;rcases An k l.length with hkl|hkl
 ·have hC:=V6 (nth l k) (by have:=hw _ (B2 hkl);omega)
  have lT:((l.take k).map Bf++List.replicate (l.length-k) AV.nilS).length=l.length:=by simp;omega
  have sT:((l.take k).map Bf++List.replicate (l.length-k) AV.nilS).set k (Bf (nth l k))=(l.take (k+1)).map Bf++List.replicate (l.length-(k+1)) AV.nilS:=by
   have e1:List.replicate (l.length-k) AV.nilS=AV.nilS::List.replicate (l.length-(k+1)) AV.nilS:=by rw[<-List.replicate_succ];congr 1;omega
   have e2:((l.take k).map Bf).length=k:=by simp;omega
   rw[e1,Fa _ _ (by omega),e2,Nat.sub_self,List.set_cons_zero,take_at hkl,A9,Aw];rfl
  have pK:AT ((nth l k).map (AV.int .i32))=true:=Cv .i32 _;have pT:∀k,AT ((l.take k).map Bf++List.replicate (l.length-k) AV.nilS)=true:=λk=>by rw[Jf,CI (l.take k),FZ];rfl
  generalize hwk:nth l k=w at *;generalize hLk:(l.take k).map Bf++List.replicate (l.length-k) AV.nilS=T0 at *;have hp0:=pT k;have hp1:=pT (k+1);rw[hLk] at hp0;generalize hLk1:(l.take (k+1)).map Bf++List.replicate (l.length-(k+1)) AV.nilS=T1 at *;refine W_T ?_;(with_reducible repeat'(first|(simp(disch:=omega)only[push_cast,↓zz,seval,pW,hwk,lT,sT,pK,hp0])|refine Aa ?_ ?_|(first|refine Ac ?_ ?_|refine Ab ?_ ?_)<;>intro hc<;>(try simp only[push_cast] at hc)|refine eK hC ?_|refine eQ hC ?_|refine eG hC ?_|((first|refine cK hC ?_|refine cQ hC ?_|refine cG hC ?_);(simp(disch:=omega)only[push_cast,↓zz,seval,pW,hwk,lT,sT,pK,hp0]);(fail_if_success change False))|omega|intro _))
  all_goals
   refine⟨k+1,?_⟩;(with_reducible repeat'(first|(simp(disch:=omega)only[push_cast,↓zz,seval,pW,hLk1,hp1])|refine Aa ?_ ?_|(first|refine Ac ?_ ?_|refine Ab ?_ ?_)<;>intro hc<;>(try simp only[push_cast] at hc)|omega|intro _))
 ·obtain rfl:k=l.length:=by omega
  have e1:(l.take l.length).map Bf++List.replicate (l.length-l.length) AV.nilS=l.map Bf:=by simp
  rw[e1];refine W_T ?_;(with_reducible repeat'(first|(simp(disch:=omega)only[push_cast,↓zz,seval,pW])|refine Aa ?_ ?_|(first|refine Ac ?_ ?_|refine Ab ?_ ?_)<;>intro hc<;>(try simp only[push_cast] at hc)|omega|intro _));by_cases h0:l=[]
  ·subst h0
   refine BZ.mono (zlo []) ?_;rintro y H' ⟨rfl,rfl⟩;have hC:=Ln true [] (by simp) (λw hw'=>by cases hw');(with_reducible repeat'(first|(simp(disch:=omega)only[push_cast,↓zz,seval])|refine Aa ?_ ?_|(first|refine Ac ?_ ?_|refine Ab ?_ ?_)<;>intro hc<;>(try simp only[push_cast] at hc)|omega|intro _));refine BZ.mono hC ?_;rintro y H' ⟨rfl,z,pz,rfl⟩;have e0:CK [] 0=[]:=rfl;have e1:JW []=[]:=rfl;(with_reducible repeat'(first|(simp(disch:=omega)only[push_cast,↓zz,seval,pz,e0,e1,List.length_nil,BF,List.nil_append,List.take_zero])|refine Aa ?_ ?_|(first|refine Ac ?_ ?_|refine Ab ?_ ?_)<;>intro hc<;>(try simp only[push_cast] at hc)|omega|intro _))
  have hS:=zhl (H:=Abs.hl [⟨1,1,true,l.map Bf⟩]) (g:=0) (ver:=1) (ex:=true) (l:=l) (by show 0<1;omega) rfl h0 (by omega) hw;refine BZ.mono hS ?_;rintro y H' ⟨rfl,l',hp,hs,rfl⟩;have hl':l'.length=l.length:=hp.length_eq;have hC:=Ln true l' (by omega) λw hw'=>hw w (hp.mem_iff.1 hw');have hsw:=ZI hs hp;rw[hl'] at hC hsw;rw[hsw];(with_reducible repeat'(first|(simp(disch:=omega)only[push_cast,↓zz,seval])|refine Aa ?_ ?_|(first|refine Ac ?_ ?_|refine Ab ?_ ?_)<;>intro hc<;>(try simp only[push_cast] at hc)|omega|intro _));refine BZ.mono hC ?_;rintro y H' ⟨rfl,z,pz,rfl⟩;generalize CK l' l.length=M at *;have pM:=CI M;have tM:∀z,List.take M.length (M.map Bf++z)=M.map Bf:=λz=>DL (by simp);(with_reducible repeat'(first|(simp(disch:=omega)only[push_cast,↓zz,seval,pz,pM,tM])|refine Aa ?_ ?_|(first|refine Ac ?_ ?_|refine Ab ?_ ?_)<;>intro hc<;>(try simp only[push_cast] at hc)|omega|intro _))
  all_goals trace_state
theorem ZL(n:Nat)(h0:0<n)(hn:n<=1000000000):BZ Tryz.prog 105 [.nilS,.int .i64 n] (Abs.hl []) λy H'=>y=.ref 0 1 0 0/\H'=Abs.hl [⟨1,1,false,List.replicate n (AV.int .i32 0)⟩]:=by
 refine HR (b:=0) G8 rfl ?_;unfold F8;have e0:((n:Int)-0).toNat=n:=by omega
 (with_reducible repeat'(first|(simp(disch:=omega)only[push_cast,↓zz,seval,e0])|refine Aa ?_ ?_|(first|refine Ac ?_ ?_|refine Ab ?_ ?_)<;>intro hc<;>(try simp only[push_cast] at hc)|omega|intro _))
 all_goals trace_state
theorem V7:PC Tryz.prog 105 [.nilS,.int .i64 0] .nilS:=by
 refine BV G8 ?_;unfold F8;(with_reducible repeat'(first|(simp(disch:=omega)only[push_cast,↓zz,seval])|refine Aa ?_ ?_|(first|refine Ac ?_ ?_|refine Ab ?_ ?_)<;>intro hc<;>(try simp only[push_cast] at hc)|omega|intro _))
 all_goals trace_state
theorem I6(l:List Int):AT (l.map (AV.int .i32))=true:=Cv .i32 _
def Hg(ws:List (List Int))(k:Nat):List AV:=(ws.take k).flatten.map (AV.int .i32)++List.replicate (ws.flatten.length-(ws.take k).flatten.length) (AV.int .i32 0)
theorem Qs{α:Type}(ws:List (List α)){k:Nat}(h:k<ws.length):(ws.take (k+1)).flatten=(ws.take k).flatten++ws[k]:=by
 rw[List.take_succ_eq_append_getElem h,List.flatten_append];simp only[List.flatten_cons,List.flatten_nil,A8]
theorem RA{α:Type}(ws:List (List α))(k:Nat):(ws.take k).flatten.length<=ws.flatten.length:=by
 have:ws.flatten=(ws.take k).flatten++(ws.drop k).flatten:=by rw[<-List.flatten_append,Ch]
 rw[this];simp
theorem TZ(ws:List (List Int))(hk:ws.length<=1000000000)(h0:0<ws.flatten.length)(hl:ws.flatten.length<=1000000000):PC Tryz.prog 66 [.lst 1 (ws.map Bf)] (Bf ws.flatten):=by
 have pW:AT (ws.map Bf)=true:=Ca.2 λx hx=>by
  obtain⟨l,_,rfl⟩:=Aq.1 hx;exact I6 l
 have aW:∀k,k<ws.length->(ws.map Bf).getD k .any=Bf (nth ws k):=λk hk=>by simp[nth,List.getD,hk]
 have hG:=ZL ws.flatten.length h0 hl;refine BV Gp ?_;unfold Fc;(with_reducible repeat'(first|(simp(disch:=omega)only[push_cast,↓zz,seval,pW])|refine Aa ?_ ?_|(first|refine Ac ?_ ?_|refine Ab ?_ ?_)<;>intro hc<;>(try simp only[push_cast] at hc)|omega|intro _))
 refine B4 (BK (λ(k:Nat)=>k<=ws.length) (λk=>ws.length-k)
  (λk=>[(0,.lst 1 (ws.map Bf)),(3,.int .i64 (ws.take k).flatten.length),(9,.lst 1 (ws.map Bf)),(10,.int .i64 ws.length),(11,.int .i64 k)]) (λ_=>[]) (λ_ _=>[]) 0 (by simp) ?_ ?_)
 ·(with_reducible repeat'(first|(simp(disch:=omega)only[push_cast,↓zz,seval,pW,List.flatten_nil,List.length_nil])|refine Aa ?_ ?_|(first|refine Ac ?_ ?_|refine Ab ?_ ?_)<;>intro hc<;>(try simp only[push_cast] at hc)|omega|intro _))
 intro k hkw;rcases An k ws.length with hkl|hkl
 ·have hn:nth ws k=ws[k]:=by simp[nth,hkl]
  have hf:=Qs ws hkl;rw[<-hn] at hf;have h1:=RA ws (k+1);have h2:(ws.take (k+1)).flatten.length=(ws.take k).flatten.length+(nth ws k).length:=by rw[hf];simp
  have aK:=aW k hkl;generalize (ws.take k).flatten.length=m at *;refine W_T ?_;(with_reducible repeat'(first|(simp(disch:=omega)only[push_cast,↓zz,seval,pW,aK])|refine Aa ?_ ?_|(first|refine Ac ?_ ?_|refine Ab ?_ ?_)<;>intro hc<;>(try simp only[push_cast] at hc)|omega|intro _))
  all_goals
   refine⟨k+1,?_⟩;(with_reducible repeat'(first|(simp(disch:=omega)only[push_cast,↓zz,seval,pW,h2])|refine Aa ?_ ?_|(first|refine Ac ?_ ?_|refine Ab ?_ ?_)<;>intro hc<;>(try simp only[push_cast] at hc)|omega|intro _))
 ·obtain rfl:k=ws.length:=by omega
  rw[Ar (Ae _)];have hzz:(ws.flatten.length:Int)≠0:=by omega
  refine W_T ?_;(with_reducible repeat'(first|(simp(disch:=omega)only[push_cast,↓zz,seval,pW])|refine Aa ?_ ?_|(first|refine Ac ?_ ?_|refine Ab ?_ ?_)<;>intro hc<;>(try simp only[push_cast] at hc)|omega|intro _))
  (refine NF [] (hG) (by decide) (by simp) (by (simp(disch:=omega)only[push_cast,↓zz,seval])) (by (simp(disch:=omega)only[push_cast,↓zz,seval])) (by (simp(disch:=omega)only[push_cast,↓zz,seval])) (by (simp(disch:=omega)only[push_cast,↓zz,seval,Ag,Am,A5,C8,EM,Ez])) ?_)
  rintro y H' ⟨rfl,rfl⟩;refine⟨_,rfl,by simp,?_⟩;(with_reducible repeat'(first|(simp(disch:=omega)only[push_cast,↓zz,seval,pW])|refine Aa ?_ ?_|(first|refine Ac ?_ ?_|refine Ab ?_ ?_)<;>intro hc<;>(try simp only[push_cast] at hc)|omega|intro _))
  refine B4 (BK (λ(k:Nat)=>k<=ws.length) (λk=>ws.length-k)
   (λk=>[(6,.ref 0 1 0 (ws.take k).flatten.length),(25,.lst 1 (ws.map Bf)),(26,.int .i64 ws.length),(27,.int .i64 k)]) (λk=>[⟨1,1,false,Hg ws k⟩]) (λenv _=>[C0 1 (env 6)]) 0 (by simp) ?_ ?_)
  ·have r0:Hg ws 0=List.replicate ws.flatten.length (AV.int .i32 0):=by simp[Hg]
   have pZ:∀n,AT (List.replicate n (AV.int .i32 0))=true:=λn=>Ca.2 λx hx=>by rw[C3 hx];rfl
   (with_reducible repeat'(first|(simp(disch:=omega)only[push_cast,↓zz,seval,pW,pZ,r0,List.flatten_nil,List.length_nil])|refine Aa ?_ ?_|(first|refine Ac ?_ ?_|refine Ab ?_ ?_)<;>intro hc<;>(try simp only[push_cast] at hc)|omega|intro _))
  intro k hkw
  have pL:∀k,AT (Hg ws k)=true:=λk=>by
   rw[Hg,Jf,I6,Ax];exact Ca.2 λx hx=>by rw[C3 hx];rfl
  have h1:=RA ws k;have lR:(Hg ws k).length=ws.flatten.length:=by simp only[Hg,Ak,AM,List.length_replicate];omega
  rcases An k ws.length with hkl|hkl
  ·have hn:nth ws k=ws[k]:=by simp[nth,hkl]
   have hf:=Qs ws hkl;rw[<-hn] at hf;have h1':=RA ws (k+1);have h2:(ws.take (k+1)).flatten.length=(ws.take k).flatten.length+(nth ws k).length:=by rw[hf];simp
   have aK:=aW k hkl;have pw:=I6 (nth ws k)
   have hR:(Hg ws k).take (ws.take k).flatten.length++(nth ws k).map (AV.int .i32)++(Hg ws k).drop ((ws.take k).flatten.length+(nth ws k).length)=Hg ws (k+1):=by
    have e1:(Hg ws k).take (ws.take k).flatten.length=(ws.take k).flatten.map (AV.int .i32):=by
     rw[Hg];exact DL (by rw[AM])
    have e2:(Hg ws k).drop ((ws.take k).flatten.length+(nth ws k).length)=List.replicate (ws.flatten.length-(ws.take (k+1)).flatten.length) (AV.int .i32 0):=by
     rw[<-FE,Hg,List.drop_left' (by rw[AM]),List.drop_replicate,h2];congr 1;omega
    rw[e1,e2,Hg,hf,A9,Aw]
   rw[Aw] at hR
   have hQ:(Hg ws k).length<=(ws.take k).flatten.length->Hg ws k++(nth ws k).map (AV.int .i32)=Hg ws (k+1):=λh=>by
    have h0:nth ws k=[]:=Az (by omega);rw[Hg,Hg,hf,h0,A8,BF,A8]
   have pT:AT ((Hg ws k).take (ws.take k).flatten.length)=true:=Ca.2 λx hx=>Ca.1 (pL k) x (BP hx);have pD:AT ((Hg ws k).drop ((ws.take k).flatten.length+(nth ws k).length))=true:=Ca.2 λx hx=>Ca.1 (pL k) x (BX hx);have hpk:=pL k;have hpk1:=pL (k+1);generalize (ws.take k).flatten.length=m at *;generalize hRk:Hg ws k=R at *;generalize hRk1:Hg ws (k+1)=R1 at *;refine W_T ?_;(with_reducible repeat'(first|(simp(disch:=omega)only[push_cast,↓zz,seval,pW,aK,pw,hpk])|refine Aa ?_ ?_|(first|refine Ac ?_ ?_|refine Ab ?_ ?_)<;>intro hc<;>(try simp only[push_cast] at hc)|omega|intro _))
   all_goals
    refine⟨k+1,?_⟩;(with_reducible repeat'(first|(simp(disch:=omega)only[push_cast,↓zz,seval,pW,h2,hRk1,hpk1,pw,hpk,pT,pD,hR,hQ])|refine Aa ?_ ?_|(first|refine Ac ?_ ?_|refine Ab ?_ ?_)<;>intro hc<;>(try simp only[push_cast] at hc)|omega|intro _))
  ·obtain rfl:k=ws.length:=by omega
   have rE:Hg ws ws.length=ws.flatten.map (AV.int .i32):=by simp[Hg]
   rw[rE,AH] at *;refine W_T ?_;(with_reducible repeat'(first|(simp(disch:=omega)only[push_cast,↓zz,seval,pW,I6])|refine Aa ?_ ?_|(first|refine Ac ?_ ?_|refine Ab ?_ ?_)<;>intro hc<;>(try simp only[push_cast] at hc)|omega|intro _))
   all_goals trace_state
theorem RB(ws:List (List Int))(hk:ws.length<=1000000000)(h0:ws.flatten.length=0):PC Tryz.prog 66 [.lst 1 (ws.map Bf)] (Bf ws.flatten):=by
 have pW:AT (ws.map Bf)=true:=Ca.2 λx hx=>by
  obtain⟨l,_,rfl⟩:=Aq.1 hx;exact I6 l
 have hE:ws.flatten=[]:=Az h0
 have aW:∀k,k<ws.length->(ws.map Bf).getD k .any=.lst 1 []:=λk hk=>by
  have:ws[k]=[]:=by
   have:=List.flatten_eq_nil_iff.1 hE _ (Cg hk);exact this
  simp[List.getD,hk,this,Bf]
 have hG:=V7;rw[hE];refine BV Gp ?_;unfold Fc;(with_reducible repeat'(first|(simp(disch:=omega)only[push_cast,↓zz,seval,pW])|refine Aa ?_ ?_|(first|refine Ac ?_ ?_|refine Ab ?_ ?_)<;>intro hc<;>(try simp only[push_cast] at hc)|omega|intro _))
 refine B4 (BK (λ(k:Nat)=>k<=ws.length) (λk=>ws.length-k)
  (λk=>[(0,.lst 1 (ws.map Bf)),(3,.int .i64 0),(9,.lst 1 (ws.map Bf)),(10,.int .i64 ws.length),(11,.int .i64 k)]) (λ_=>[]) (λ_ _=>[]) 0 (by simp) ?_ ?_)
 ·(with_reducible repeat'(first|(simp(disch:=omega)only[push_cast,↓zz,seval,pW])|refine Aa ?_ ?_|(first|refine Ac ?_ ?_|refine Ab ?_ ?_)<;>intro hc<;>(try simp only[push_cast] at hc)|omega|intro _))
 intro k hkw;rcases An k ws.length with hkl|hkl
 ·have aK:=aW k hkl
  refine W_T ?_;(with_reducible repeat'(first|(simp(disch:=omega)only[push_cast,↓zz,seval,pW,aK])|refine Aa ?_ ?_|(first|refine Ac ?_ ?_|refine Ab ?_ ?_)<;>intro hc<;>(try simp only[push_cast] at hc)|omega|intro _))
  all_goals
   refine⟨k+1,?_⟩;(with_reducible repeat'(first|(simp(disch:=omega)only[push_cast,↓zz,seval,pW])|refine Aa ?_ ?_|(first|refine Ac ?_ ?_|refine Ab ?_ ?_)<;>intro hc<;>(try simp only[push_cast] at hc)|omega|intro _))
 ·obtain rfl:k=ws.length:=by omega
  refine W_T ?_;(with_reducible repeat'(first|(simp(disch:=omega)only[push_cast,↓zz,seval,pW])|refine Aa ?_ ?_|(first|refine Ac ?_ ?_|refine Ab ?_ ?_)<;>intro hc<;>(try simp only[push_cast] at hc)|refine eK hG ?_|refine eQ hG ?_|refine eG hG ?_|((first|refine cK hG ?_|refine cQ hG ?_|refine cG hG ?_);(simp(disch:=omega)only[push_cast,↓zz,seval,pW]);(fail_if_success change False))|omega|intro _))
  refine B4 (BK (λ(k:Nat)=>k<=ws.length) (λk=>ws.length-k)
   (λk=>[(6,.ref 0 1 0 0),(25,.lst 1 (ws.map Bf)),(26,.int .i64 ws.length),(27,.int .i64 k)]) (λk=>[⟨1,1,false,[]⟩]) (λenv _=>[C0 1 (env 6)]) 0 (by simp) ?_ ?_)
  ·(with_reducible repeat'(first|(simp(disch:=omega)only[push_cast,↓zz,seval,pW])|refine Aa ?_ ?_|(first|refine Ac ?_ ?_|refine Ab ?_ ?_)<;>intro hc<;>(try simp only[push_cast] at hc)|omega|intro _))
  intro k hkw;rcases An k ws.length with hkl|hkl
  ·have aK:=aW k hkl
   refine W_T ?_;(with_reducible repeat'(first|(simp(disch:=omega)only[push_cast,↓zz,seval,pW,aK])|refine Aa ?_ ?_|(first|refine Ac ?_ ?_|refine Ab ?_ ?_)<;>intro hc<;>(try simp only[push_cast] at hc)|omega|intro _))
   all_goals
    refine⟨k+1,?_⟩;(with_reducible repeat'(first|(simp(disch:=omega)only[push_cast,↓zz,seval,pW])|refine Aa ?_ ?_|(first|refine Ac ?_ ?_|refine Ab ?_ ?_)<;>intro hc<;>(try simp only[push_cast] at hc)|omega|intro _))
  ·obtain rfl:k=ws.length:=by omega
   refine W_T ?_;(with_reducible repeat'(first|(simp(disch:=omega)only[push_cast,↓zz,seval,pW])|refine Aa ?_ ?_|(first|refine Ac ?_ ?_|refine Ab ?_ ?_)<;>intro hc<;>(try simp only[push_cast] at hc)|omega|intro _))
   all_goals trace_state
theorem RD(a b:List Int)(hl:a.length+b.length<=1000000000):PC Tryz.prog 66 [.lst 1 [Bf a,Bf b]] (Bf (a++b)):=by
 have e:[a,b].flatten=a++b:=by simp
 have el:[a,b].flatten.length=a.length+b.length:=by rw[e,Ak]
 rw[<-e];rcases Nat.eq_zero_or_pos [a,b].flatten.length with h|h
 ·exact RB [a,b] (by simp) h
 ·exact TZ [a,b] (by simp) h (by omega)
set_option maxRecDepth 100000
structure V8(d:Desc)(x:List Int)(n:Nat):Prop where
 st:d.states=n
 n1:n<=1024
 start:0<=d.start/\d.start<n
 rl:d.rules.length<=4096
 fl:d.finals.length<=4096
 xl:x.length<=1024
 x32:∀v∈x,-2147483648<=v/\v<=2147483647
 goes:Goes d n
 ff:∀f∈d.finals,0<=f.from_/\f.from_<n
 rb:∀r∈d.rules,(r.guards.length<=1000000/\∀g∈r.guards,g.length<=1000000)/\(r.out.length<=64/\∀t∈r.out,t.parts.length<=1000000)/\0<=r.eat/\r.eat<=1000000
 fb:∀f∈d.finals,(f.guards.length<=1000000/\∀g∈f.guards,g.length<=1000000)/\(f.out.length<=64/\∀t∈f.out,t.parts.length<=1000000)
 cyc:¬cycP d.rules n
def setT(n m:Nat)(S:Nat->Nat->List (List Int)):List AV:=(List.range m).map λp=>Hl (S (p / n) (p % n))
section
variable {n m a t:Nat}{S:Nat->Nat->List (List Int)}
theorem XQ:(setT n m S).length=m:=by simp[setT]
theorem OF:AT (setT n m S)=true:=Ca.2 λx hx=>by
 obtain⟨i,_,rfl⟩:=Aq.1 hx;exact CI _
theorem z62{z:AV}(ht:t<n)(hp:a * n+t<m):(setT n m S).getD (a * n+t) z=Hl (S a t):=by
 rw[setT,Dy hp,Ll ht,Lm ht]
theorem zbq{v:List (List Int)}(ht:t<n)(hp:a * n+t<m):(setT n m S).set (a * n+t) (Hl v)=setT n m (setP S a t v):=by
 rw[setT,EV hp,setT];refine AQ λp _=>?_;simp only[setP];by_cases e:p=a * n+t
 ·subst e;rw[Ai rfl,Ll ht,Lm ht,Ai ⟨rfl,rfl⟩]
 ·rw[Ah e,Ah λh=>e (XH ht h)]
theorem z63{l:List Grp}:leSL l (List.replicate m .nilS) (setT n m λ_ _=>[]):=by
 have key:∀(f:Nat->Nat)(q:List Nat),leSL l (List.replicate q.length .nilS) (q.map λ_=>Hl []):=λ_ q=>by
  induction q with
  |nil=>exact rfl
  |cons a q ih=>exact⟨⟨Nat.one_pos,rfl⟩,ih⟩
 have:=key id (List.range m)
 rwa [CU] at this
end
def outH(d:Desc)(R:AV)(mo n m:Nat)(S:Nat->Nat->List (List Int))(many:Bool):List Grp:=[⟨6,1,true,[Dm d]⟩,⟨1,1,true,[.int .i64 mo]⟩,⟨1,1,true,[R]⟩,⟨1,1,true,setT n m S⟩,⟨1,1,true,[.ref 3 1 0 m]⟩,⟨1,1,true,[.bool many]⟩]
theorem OG{d:Desc}{R:AV}(hR:R.pure=true){mo n m:Nat}{S:Nat->Nat->List (List Int)}{many:Bool}:∀G∈outH d R mo n m S many,ltL 6 G.xs:=λG hG=>by
 simp only[outH,Ag,Am,A5] at hG;rcases hG with rfl|rfl|rfl|rfl|rfl|rfl
 ·exact CS _ _ (by simp[AT,GR])
 ·exact⟨trivial,trivial⟩
 ·exact CS _ _ (by simp[AT,hR])
 ·exact CS _ _ OF
 ·exact⟨(show 3<6 by omega),trivial⟩
 ·exact⟨trivial,trivial⟩
theorem XR{d:Desc}{x:List Int}{S:Nat->Nat->List (List Int)}{at_ s B:Nat}(hB:∀r∈d.rules,r.from_=(s:Nat)->goB x r.guards at_=true->(S (at_+r.eat.toNat) r.to_.toNat).length<=B):∀k,k<=(ruI d.rules s).length->(rulW d x S at_ s k).length<=k * B
 |0,_=>by simp[rulW]
 |k+1,hk=>by
  have ih:=XR hB k (by omega);obtain⟨i1,i2⟩:=Ig.1 (B2 (show k<(ruI d.rules s).length by omega));have e:(k+1) * B=k * B+B:=Nat.succ_mul k B;cases hg:goB x (nth d.rules (nth (ruI d.rules s) k)).guards at_ with
  |true =>
   rw[XN (by omega) rfl hg,Ak,AM];have:=hB _ (B2 i1) i2 hg;omega
  |false =>
   rw[z5w (by omega) rfl hg];omega
def putW(d:Desc)(x:List Int)(S:Nat->Nat->List (List Int))(at_ s k:Nat):List (List Int):=finW d x at_ s (fiI d.finals s).length++rulW d x S at_ s k
def putQ(A:List (List Int))(h:List Int)(W:List (List Int))(q:Nat):List (List Int):=A++(W.take q).map (h++·)
theorem z64{A:List (List Int)}{h:List Int}{W:List (List Int)}:putQ A h W 0=A:=by simp[putQ]
theorem z65{A:List (List Int)}{h:List Int}{W:List (List Int)}{q:Nat}(hq:q<W.length):putQ A h W (q+1)=putQ A h W q++[h++nth W q]:=by
 rw[putQ,putQ,take_at hq,A9,Aw];rfl
theorem zbr{A:List (List Int)}{h:List Int}{W:List (List Int)}{q:Nat}:(putQ A h W q).length<=A.length+W.length:=by
 simp[putQ];omega
theorem zbs{d:Desc}{x:List Int}{n:Nat}{ord:List Nat}{L:Nat->Nat->Bool}{mo a j:Nat}{S:Nat->Nat->List (List Int)}(hI:OutI d x L ord mo a j S false)(hl:LivE d x n L)(hg:Goes d n)(ht:Topo d.rules n ord)(hj:j<n)(ha:a<=x.length)(hlv:L a (nth ord j)=true)
 {r:Rule} (hr:r∈d.rules) (hf:r.from_=(nth ord j:Nat)) (hgo:goB x r.guards a=true):S (a+r.eat.toNat) r.to_.toNat=outW d x (a+r.eat.toNat) (r.to_.toNat:Nat)/\(S (a+r.eat.toNat) r.to_.toNat).length<=mo/\L (a+r.eat.toNat) r.to_.toNat=true/\a+r.eat.toNat<=x.length/\r.to_.toNat<n:=by
 obtain⟨_,htt,e1,e2⟩:=hg.r r hr;have hle:=Kf hgo;have hlt:=hl.clos _ _ hlv r hr hf hgo;have h1:=hI.no rfl (a+r.eat.toNat) r.to_.toNat (by omega) hlt (Vy hg ht hj hr hf);exact⟨h1.1,h1.2,hlt,by omega,by omega⟩
theorem z67(d:Desc)(x:List Int){n:Nat}(hk:V8 d x n){ord:List Nat}{L:Nat->Nat->Bool}(ht:Topo d.rules n ord)(hl:LivE d x n L)(mo:Nat)(hmo:mo<=9000000000000000000)(hB:Nat.min mo (outW d x 0 d.start).length<=200000)
 (a j:Nat) (S:Nat->Nat->List (List Int)) (many:Bool) (ha:a<=x.length) (hj:j<n) (hI:OutI d x L ord mo a j S many) (hlv:L a (nth ord j)=true) :
 BZ Tryz.prog 62 [.int .i64 a,.int .i64 (nth ord j:Nat),.ptr 5 1 0 0,.ptr 2 1 0 0,.ptr 0 1 0 0,.ptr 4 1 0 0,.ptr 1 1 0 0]
  (Abs.hl (outH d (EA d x (ruV d.rules n) (fiV d.finals n) (.lst 1 (ord.map e1)) (.lst 1 (lvB n ((x.length+1) * n) L))) mo n ((x.length+1) * n) S many)) λy H'=>y=.tup []/\∃(s':(Nat->Nat->List (List Int)) × Bool),
   H'=Abs.hl (outH d (EA d x (ruV d.rules n) (fiV d.finals n) (.lst 1 (ord.map e1)) (.lst 1 (lvB n ((x.length+1) * n) L))) mo n ((x.length+1) * n) s'.1 s'.2)/\OutI d x L ord mo a (j+1) s'.1 s'.2:=by
 have pR:=B8 d.rules;have pFi:=B6 d.finals;have pX:AT (x.map (AV.int .i32))=true:=Cv .i32 _;have pO:AT (ord.map e1)=true:=Dz (λ_=>rfl) _;have pL:AT (lvB n ((x.length+1) * n) L)=true:=MP;have pRU:AT (fD 1 e1 n (ruI d.rules))=true:=E9 λ_=>rfl;have pFI:AT (fD 1 e1 n (fiI d.finals))=true:=E9 λ_=>rfl;have lRU:(fD 1 e1 n (ruI d.rules)).length=n:=Lb;have lFI:(fD 1 e1 n (fiI d.finals)).length=n:=Lb;have hdn:=hk.st;have hn:=hk.n1;have hx:=hk.xl;have hol:=Fj ht;have htn:nth ord j<n:=(ht.all _).1 (B2 (by omega));have hgoes:=hk.goes;have hmx:(x.length+1) * n<=1025 * 1024:=CN (by omega) hn;have hpm:=Hr htn ha;unfold ruV fiV;refine I3 (LQ Ny (W_T ?_));unfold Ji;cases many with
 |true =>
  generalize fD 1 e1 n (ruI d.rules)=RU at *;generalize fD 1 e1 n (fiI d.finals)=FI at *;unfold outH;(with_reducible repeat'(first|(simp(disch:=omega)only[push_cast,↓zz,seval])|refine Aa ?_ ?_|(first|refine Ac ?_ ?_|refine Ab ?_ ?_)<;>intro hc<;>(try simp only[push_cast] at hc)|omega|intro _))
  all_goals exact⟨_,_,Ent.refl,rfl,(S,true),rfl,z5k hI _ _⟩
 |false =>
  have hto:=λr hr hf hgo=>zbs hI hl hgoes ht hj ha hlv (r:=r) hr hf hgo
  have hSB:∀r∈d.rules,r.from_=(nth ord j:Nat)->goB x r.guards a=true->(S (a+r.eat.toNat) r.to_.toNat).length<=200000:=λr hr hf hgo=>by
   obtain⟨h1,h2,h3,h4,h5⟩:=hto r hr hf hgo;have h6:=zbf hl hgoes ht hk.start h3;rw[<-h1] at h6;exact Bm (Nat.le_min.2 ⟨h2,h6⟩) hB
  have hwl:∀r∈d.rules,r.from_=(nth ord j:Nat)->goB x r.guards a=true->∀w∈S (a+r.eat.toNat) r.to_.toNat,w.length<=100000000:=λr hr hf hgo w hw=>by
   obtain⟨h1,h2,h3,h4,h5⟩:=hto r hr hf hgo;rw[h1] at hw;exact R9 hgoes ht ⟨λr hr=>(hk.rb r hr).2.1.1,λf hf=>(hk.fb f hf).2.1⟩ hn hx h4 h5 (((Mx hgoes ht h4 h5).2 w).1 hw)
  have hMeq:=zhh hI hl hgoes ht hj ha hlv;rw[<-z5x] at hMeq;have hnext:=z5m hI hl hgoes ht hj ha hlv (M:=JW (allW d x S a (nth ord j))) hMeq;have hRL:=XR (d:=d) (x:=x) (S:=S) (at_:=a) (s:=nth ord j) hSB;have aR:(fD 1 e1 n (ruI d.rules)).getD (nth ord j) .any=.lst 1 ((ruI d.rules (nth ord j)).map e1):=Rt htn;have aR2:(fD 1 e1 n (ruI d.rules))[nth ord j]? = some (.lst 1 ((ruI d.rules (nth ord j)).map e1)):=Lc htn;have aF:(fD 1 e1 n (fiI d.finals)).getD (nth ord j) .any=.lst 1 ((fiI d.finals (nth ord j)).map e1):=Rt htn;have aF2:(fD 1 e1 n (fiI d.finals))[nth ord j]? = some (.lst 1 ((fiI d.finals (nth ord j)).map e1)):=Lc htn;have pRI:AT ((ruI d.rules (nth ord j)).map e1)=true:=Dz (λ_=>rfl) _;have pFJ:AT ((fiI d.finals (nth ord j)).map e1)=true:=Dz (λ_=>rfl) _;have hrI:=Vs d.rules (nth ord j);have hfI:=zhi d.finals (nth ord j);have hrl:=hk.rl;have hfl:=hk.fl;have pST:AT (setT n ((x.length+1) * n) S)=true:=OF;have lST:(setT n ((x.length+1) * n) S).length=(x.length+1) * n:=XQ;have aST:∀b t,b<=x.length->t<n->(setT n ((x.length+1) * n) S).getD (b * n+t) .any=Hl (S b t):=λb t hb htn=>z62 htn (Hr htn hb);have sST:=λv=>zbq (v:=v) (S:=S) htn hpm;have pl:∀b t,b<=x.length->t<n->b * n+t<(x.length+1) * n:=λb t hb htn=>Hr htn hb;generalize hRUe:fD 1 e1 n (ruI d.rules)=RU at *;generalize hFIe:fD 1 e1 n (fiI d.finals)=FI at *;generalize hme:(x.length+1) * n=m at *;generalize hLVe:lvB n m L=LV at *;generalize hODe:ord.map e1=OD at *;have hEnds:=λ(f:Es) (hf:f∈d.finals)=>zaz d x (.lst 1 RU) (.lst 1 FI) (.lst 1 OD) (.lst 1 LV) f a pRU pFI pO pL (by omega) hk.x32 (hk.fb f hf).1.2 (hk.fb f hf).1.1 (by omega);have hWf:=λ(f:Es) (hf:f∈d.finals) (hgo:goB x f.guards a=true)=>Qm d x (.lst 1 RU) (.lst 1 FI) (.lst 1 OD) (.lst 1 LV) f.out a f.guards.length pRU pFI pO pL (by omega) hk.x32 (by have:=(hk.fb f hf).2.1;omega) (hk.fb f hf).2.2 (by have:=Kf hgo;omega);have hFits:=λ(r:Rule) (hr:r∈d.rules)=>R4 d x (.lst 1 RU) (.lst 1 FI) (.lst 1 OD) (.lst 1 LV) r.guards a pRU pFI pO pL (by omega) hk.x32 (hk.rb r hr).1.2 (hk.rb r hr).1.1 (by omega);have hWr:=λ(r:Rule) (hr:r∈d.rules) (hgo:goB x r.guards a=true)=>Qm d x (.lst 1 RU) (.lst 1 FI) (.lst 1 OD) (.lst 1 LV) r.out a r.guards.length pRU pFI pO pL (by omega) hk.x32 (by have:=(hk.rb r hr).2.1.1;omega) (hk.rb r hr).2.1.2 (by have:=Kf hgo;omega);have pRn:(EA d x (.lst 1 RU) (.lst 1 FI) (.lst 1 OD) (.lst 1 LV)).pure=true:=by simp[AV.pure,AT,pR,pFi,pX,pO,pL,pRU,pFI]
  have hcl:=λS many=>OG (d:=d) (R:=EA d x (.lst 1 RU) (.lst 1 FI) (.lst 1 OD) (.lst 1 LV)) pRn (mo:=mo) (n:=n) (m:=m) (S:=S) (many:=many);generalize nth ord j=s at *;obtain⟨F,hF⟩:∃F,F=finW d x a s (fiI d.finals s).length:=⟨_,rfl⟩;have hFlen:F.length<=4096:=by rw[hF];have:=XO (d:=d) (x:=x) (at_:=a) (s:=s) (k:=(fiI d.finals s).length);omega
  unfold outH;generalize hSTe:setT n m S=ST at *;(with_reducible repeat'(first|(simp(disch:=omega)only[push_cast,↓zz,seval,pR,pFi,pX,pO,pL,pRU,pFI,aF,aF2,lFI,pST,lST])|refine Aa ?_ ?_|(first|refine Ac ?_ ?_|refine Ab ?_ ?_)<;>intro hc<;>(try simp only[push_cast] at hc)|omega|intro _))
  refine B4 (BK (λ(k:Nat)=>k<=(fiI d.finals s).length) (λk=>(fiI d.finals s).length-k)
   (λk=>[(0,.int .i64 a),(1,.int .i64 s),(2,.ptr 5 1 0 0),(3,.ptr 2 1 0 0),(4,.ptr 0 1 0 0),(5,.ptr 4 1 0 0),(6,.ptr 1 1 0 0),(9,.ref 6 1 0 (finW d x a s k).length),(26,.lst 1 ((fiI d.finals s).map e1)),(27,.int .i64 (fiI d.finals s).length),(28,.int .i64 k)])
   (λk=>[⟨6,1,true,[Dm d]⟩,⟨1,1,true,[.int .i64 mo]⟩,⟨1,1,true,[EA d x (.lst 1 RU) (.lst 1 FI) (.lst 1 OD) (.lst 1 LV)]⟩,⟨1,1,true,ST⟩,⟨1,1,true,[.ref 3 1 0 m]⟩,⟨1,1,true,[.bool false]⟩,⟨1,1,false,(finW d x a s k).map Bf⟩]) (λenv _=>[C0 1 (env 9)]) 0 (AD _) ?_ ?_)
  ·(with_reducible repeat'(first|(simp(disch:=omega)only[push_cast,↓zz,seval,pR,pFi,pX,pO,pL,pRU,pFI,pST,pFJ,z5u,List.length_nil,BF])|refine Aa ?_ ?_|(first|refine Ac ?_ ?_|refine Ab ?_ ?_)<;>intro hc<;>(try simp only[push_cast] at hc)|omega|intro _))
  intro k hkk;rcases An k (fiI d.finals s).length with hkl|hkl
  ·obtain⟨i,hi⟩:∃i,i=nth (fiI d.finals s) k:=⟨_,rfl⟩
   have him:i∈fiI d.finals s:=by rw[hi];exact B2 hkl
   obtain⟨i1,i2⟩:=V4.1 him;have aI:((fiI d.finals s).map e1).getD k .any=.int .i64 i:=by rw[hi];simp[nth,List.getD,hkl]
   have hE:=hEnds _ (B2 i1);have hW:=hWf _ (B2 i1);have hyes:=λf hf h=>zbk (d:=d) (x:=x) (at_:=a) (s:=s) hkl (f:=f) hf h;have hno:=λf hf h=>zhj (d:=d) (x:=x) (at_:=a) (s:=s) hkl (f:=f) hf h;rw[<-hi] at hyes hno;have hyes:=hyes _ rfl;have hno:=hno _ rfl;have hlen:=XO (d:=d) (x:=x) (at_:=a) (s:=s) (k:=k);generalize hfe:nth d.finals i=f at *;have hgr:=AL f.guards;have hot:=B5 f.out;generalize finW d x a s k=A at *;have pA:=CI A;cases hb:(decide (f.guards.length+a=x.length)&&goB x f.guards a) with
   |true =>
    rw[hb] at hE;have hyes:=hyes hb;have hgo:goB x f.guards a=true:=by simp only[Ad] at hb;exact hb.2
    have hW:=hW hgo;have pw:AT ((EC x f.out f.guards a).map (AV.int .i32))=true:=Cv .i32 _;rw[show D9 f.out ((x.drop a).take f.guards.length)=EC x f.out f.guards a from rfl] at hW;generalize EC x f.out f.guards a=w at *;refine W_T ?_;(with_reducible repeat'(first|(simp(disch:=omega)only[push_cast,↓zz,seval,pR,pFi,pX,pO,pL,pRU,pFI,pST,pFJ,aI,hfe,hgr,hot,pA,pw])|refine Aa ?_ ?_|(first|refine Ac ?_ ?_|refine Ab ?_ ?_)<;>intro hc<;>(try simp only[push_cast] at hc)|refine eK hE ?_|refine eQ hE ?_|refine eG hE ?_|refine eK hW ?_|refine eQ hW ?_|refine eG hW ?_|((first|refine cK hE ?_|refine cQ hE ?_|refine cG hE ?_|refine cK hW ?_|refine cQ hW ?_|refine cG hW ?_);(simp(disch:=omega)only[push_cast,↓zz,seval,pR,pFi,pX,pO,pL,pRU,pFI,pST,pFJ,aI,hfe,hgr,hot,pA,pw]);(fail_if_success change False))|omega|intro _))
    all_goals
     refine⟨k+1,?_⟩;(with_reducible repeat'(first|(simp(disch:=omega)only[push_cast,↓zz,seval,pR,pFi,pX,pO,pL,pRU,pFI,pST,pFJ,hyes,pA,pw])|refine Aa ?_ ?_|(first|refine Ac ?_ ?_|refine Ab ?_ ?_)<;>intro hc<;>(try simp only[push_cast] at hc)|omega|intro _))
   |false =>
    rw[hb] at hE;have hno:=hno hb;refine W_T ?_;(with_reducible repeat'(first|(simp(disch:=omega)only[push_cast,↓zz,seval,pR,pFi,pX,pO,pL,pRU,pFI,pST,pFJ,aI,hfe,hgr,hot,pA])|refine Aa ?_ ?_|(first|refine Ac ?_ ?_|refine Ab ?_ ?_)<;>intro hc<;>(try simp only[push_cast] at hc)|refine eK hE ?_|refine eQ hE ?_|refine eG hE ?_|((first|refine cK hE ?_|refine cQ hE ?_|refine cG hE ?_);(simp(disch:=omega)only[push_cast,↓zz,seval,pR,pFi,pX,pO,pL,pRU,pFI,pST,pFJ,aI,hfe,hgr,hot,pA]);(fail_if_success change False))|omega|intro _))
    all_goals
     refine⟨k+1,?_⟩;(with_reducible repeat'(first|(simp(disch:=omega)only[push_cast,↓zz,seval,pR,pFi,pX,pO,pL,pRU,pFI,pST,pFJ,hno,pA])|refine Aa ?_ ?_|(first|refine Ac ?_ ?_|refine Ab ?_ ?_)<;>intro hc<;>(try simp only[push_cast] at hc)|omega|intro _))
  obtain rfl:k=(fiI d.finals s).length:=by omega
  rw[<-hF];have pF:=CI F;have hP0:putW d x S a s 0=F:=by rw[putW,z5v,A8,hF]
  refine W_T ?_;(with_reducible repeat'(first|(simp(disch:=omega)only[push_cast,↓zz,seval,pR,pFi,pX,pO,pL,pRU,pFI,pST,pFJ,aR,aR2,lRU,pF])|refine Aa ?_ ?_|(first|refine Ac ?_ ?_|refine Ab ?_ ?_)<;>intro hc<;>(try simp only[push_cast] at hc)|omega|intro _))
  refine B4 (BK (λ(k:Nat)=>k<=(ruI d.rules s).length) (λk=>(ruI d.rules s).length-k)
   (λk=>[(0,.int .i64 a),(1,.int .i64 s),(2,.ptr 5 1 0 0),(3,.ptr 2 1 0 0),(4,.ptr 0 1 0 0),(5,.ptr 4 1 0 0),(6,.ptr 1 1 0 0),(9,.ref 6 1 0 (putW d x S a s k).length),(59,.lst 1 ((ruI d.rules s).map e1)),(60,.int .i64 (ruI d.rules s).length),(61,.int .i64 k)])
   (λk=>[⟨6,1,true,[Dm d]⟩,⟨1,1,true,[.int .i64 mo]⟩,⟨1,1,true,[EA d x (.lst 1 RU) (.lst 1 FI) (.lst 1 OD) (.lst 1 LV)]⟩,⟨1,1,true,ST⟩,⟨1,1,true,[.ref 3 1 0 m]⟩,⟨1,1,true,[.bool false]⟩,⟨1,1,false,(putW d x S a s k).map Bf⟩]) (λenv _=>[C0 1 (env 9)]) 0 (AD _) ?_ ?_)
  ·(with_reducible repeat'(first|(simp(disch:=omega)only[push_cast,↓zz,seval,pR,pFi,pX,pO,pL,pRU,pFI,pST,pRI,pF,hP0])|refine Aa ?_ ?_|(first|refine Ac ?_ ?_|refine Ab ?_ ?_)<;>intro hc<;>(try simp only[push_cast] at hc)|omega|intro _))
  intro k hkk;have hRk:=hRL k hkk
  have hlk:(putW d x S a s k).length<=900000000:=by
   rw[putW,Ak,<-hF];have:k * 200000<=4096 * 200000:=AZ _ (by omega);omega
  rcases An k (ruI d.rules s).length with hkl|hkl
  ·obtain⟨i,hi⟩:∃i,i=nth (ruI d.rules s) k:=⟨_,rfl⟩
   have him:i∈ruI d.rules s:=by rw[hi];exact B2 hkl
   obtain⟨i1,i2⟩:=Ig.1 him;have aI:((ruI d.rules s).map e1).getD k .any=.int .i64 i:=by rw[hi];simp[nth,List.getD,hkl]
   have hr:=B2 i1;have hE:=hFits _ hr;have hW:=hWr _ hr;have hyes:=λr hf h=>XN (d:=d) (x:=x) (S:=S) (at_:=a) (s:=s) hkl (r:=r) hf h;have hno:=λr hf h=>z5w (d:=d) (x:=x) (S:=S) (at_:=a) (s:=s) hkl (r:=r) hf h;rw[<-hi] at hyes hno;have hyes:=hyes _ rfl;have hno:=hno _ rfl;have hto:=hto _ hr i2;have hSB:=hSB _ hr i2;have hwl:=hwl _ hr i2;obtain⟨_,htt,e1',e2'⟩:=hgoes.r _ hr;have heb:=(hk.rb _ hr).2.2;have hol:=(hk.rb _ hr).2.1.1;generalize hre:nth d.rules i=r at *;have hgr:=AL r.guards;have hot:=B5 r.out;obtain⟨e,he⟩:∃e:Nat,r.eat=e:=⟨r.eat.toNat,by omega⟩;obtain⟨t,htq⟩:∃t:Nat,r.to_=t:=⟨r.to_.toNat,by omega⟩;have het:r.eat.toNat=e:=by omega
   have htt2:r.to_.toNat=t:=by omega
   rw[het,htt2] at hyes hto hSB hwl;generalize hAe:putW d x S a s k=A at *;have pA:=CI A;cases hb:goB x r.guards a with
   |false =>
    rw[hb] at hE;have hno:putW d x S a s (k+1)=A:=by rw[putW,hno hb];exact hAe
    refine W_T ?_;(with_reducible repeat'(first|(simp(disch:=omega)only[push_cast,↓zz,seval,pR,pFi,pX,pO,pL,pRU,pFI,pST,pRI,aI,hre,hgr,hot,pA])|refine Aa ?_ ?_|(first|refine Ac ?_ ?_|refine Ab ?_ ?_)<;>intro hc<;>(try simp only[push_cast] at hc)|refine eK hE ?_|refine eQ hE ?_|refine eG hE ?_|((first|refine cK hE ?_|refine cQ hE ?_|refine cG hE ?_);(simp(disch:=omega)only[push_cast,↓zz,seval,pR,pFi,pX,pO,pL,pRU,pFI,pST,pRI,aI,hre,hgr,hot,pA]);(fail_if_success change False))|omega|intro _))
    all_goals
     refine⟨k+1,?_⟩;(with_reducible repeat'(first|(simp(disch:=omega)only[push_cast,↓zz,seval,pR,pFi,pX,pO,pL,pRU,pFI,pST,pRI,hno,pA])|refine Aa ?_ ?_|(first|refine Ac ?_ ?_|refine Ab ?_ ?_)<;>intro hc<;>(try simp only[push_cast] at hc)|omega|intro _))
   |true =>
    rw[hb] at hE;have hyes:=hyes hb;have hW:=hW hb;obtain⟨h1,h2,h3,h4,h5⟩:=hto hb;have hSB:=hSB hb;have hwl:=hwl hb;have hle:=Kf hb;have pw:AT ((EC x r.out r.guards a).map (AV.int .i32))=true:=Cv .i32 _;have hhl:(EC x r.out r.guards a).length<=64:=by simp[EC,D9];omega
    rw[show D9 r.out ((x.drop a).take r.guards.length)=EC x r.out r.guards a from rfl] at hW;have hAn:putW d x S a s (k+1)=putQ A (EC x r.out r.guards a) (S (a+e) t) (S (a+e) t).length:=by rw[putW,hyes,<-Aw,putQ,AH,<-hAe];rfl
    have aT:=aST (a+e) t h4 h5;have hpl:=pl (a+e) t h4 h5;have hae:(a:Int)+(e:Int)=((a+e:Nat):Int):=by norm_cast
    have hmul:((a+e:Nat):Int) * (n:Int)=(((a+e) * n:Nat):Int):=by norm_cast
    have hmulb:(a+e) * n<=1024 * 1024:=CN (by omega) hn;generalize EC x r.out r.guards a=h at *;generalize S (a+e) t=Wd at *;generalize hpe:(a+e) * n+t=p at *;generalize (a+e) * n=an at *;have hpi:(an:Int)+(t:Int)=(p:Int):=by omega
    generalize hbe:a+e=b at *;have pWd:=CI Wd;refine W_T ?_;(with_reducible repeat'(first|(simp(disch:=omega)only[push_cast,↓zz,seval,pR,pFi,pX,pO,pL,pRU,pFI,pST,lST,pRI,aI,hre,hgr,hot,pA,pw,he,htq,hae,hdn,hmul,hpi,aT,pWd])|refine Aa ?_ ?_|(first|refine Ac ?_ ?_|refine Ab ?_ ?_)<;>intro hc<;>(try simp only[push_cast] at hc)|refine eK hE ?_|refine eQ hE ?_|refine eG hE ?_|refine eK hW ?_|refine eQ hW ?_|refine eG hW ?_|((first|refine cK hE ?_|refine cQ hE ?_|refine cG hE ?_|refine cK hW ?_|refine cQ hW ?_|refine cG hW ?_);(simp(disch:=omega)only[push_cast,↓zz,seval,pR,pFi,pX,pO,pL,pRU,pFI,pST,lST,pRI,aI,hre,hgr,hot,pA,pw,he,htq,hae,hdn,hmul,hpi,aT,pWd]);(fail_if_success change False))|omega|intro _))
    refine B4 (BK (λ(q:Nat)=>q<=Wd.length) (λq=>Wd.length-q)
     (λq=>[(0,.int .i64 a),(1,.int .i64 s),(2,.ptr 5 1 0 0),(3,.ptr 2 1 0 0),(4,.ptr 0 1 0 0),(5,.ptr 4 1 0 0),(6,.ptr 1 1 0 0),(9,.ref 6 1 0 (putQ A h Wd q).length),(16,Bf h),(59,.lst 1 ((ruI d.rules s).map e1)),(60,.int .i64 (ruI d.rules s).length),(61,.int .i64 k),(96,Hl Wd),(97,.int .i64 Wd.length),(98,.int .i64 q)])
     (λq=>[⟨6,1,true,[Dm d]⟩,⟨1,1,true,[.int .i64 mo]⟩,⟨1,1,true,[EA d x (.lst 1 RU) (.lst 1 FI) (.lst 1 OD) (.lst 1 LV)]⟩,⟨1,1,true,ST⟩,⟨1,1,true,[.ref 3 1 0 m]⟩,⟨1,1,true,[.bool false]⟩,⟨1,1,false,(putQ A h Wd q).map Bf⟩]) (λenv _=>[C0 1 (env 9)]) 0 (AD _) ?_ ?_)
    ·(with_reducible repeat'(first|(simp(disch:=omega)only[push_cast,↓zz,seval,pR,pFi,pX,pO,pL,pRU,pFI,pST,pRI,pA,pw,pWd,z64])|refine Aa ?_ ?_|(first|refine Ac ?_ ?_|refine Ab ?_ ?_)<;>intro hc<;>(try simp only[push_cast] at hc)|omega|intro _))
    intro q hq;have hAq:(putQ A h Wd q).length<=901000000:=by have:=zbr (A:=A) (h:=h) (W:=Wd) (q:=q);omega
    rcases An q Wd.length with hql|hql
    ·have hC:=RD h (nth Wd q) (by have:=hwl _ (B2 hql);omega)
     have hnx:=z65 (A:=A) (h:=h) hql;have pv:AT ((h++nth Wd q).map (AV.int .i32))=true:=Cv .i32 _;have pv2:AT ((nth Wd q).map (AV.int .i32))=true:=Cv .i32 _;generalize hwe:nth Wd q=w at *;generalize hAqe:putQ A h Wd q=A2 at *;have pA2:=CI A2;generalize hve:h++w=v at *;refine W_T ?_;(with_reducible repeat'(first|(simp(disch:=omega)only[push_cast,↓zz,seval,pR,pFi,pX,pO,pL,pRU,pFI,pST,pRI,pA2,pw,pWd,hwe,pv,pv2])|refine Aa ?_ ?_|(first|refine Ac ?_ ?_|refine Ab ?_ ?_)<;>intro hc<;>(try simp only[push_cast] at hc)|refine eK hC ?_|refine eQ hC ?_|refine eG hC ?_|((first|refine cK hC ?_|refine cQ hC ?_|refine cG hC ?_);(simp(disch:=omega)only[push_cast,↓zz,seval,pR,pFi,pX,pO,pL,pRU,pFI,pST,pRI,pA2,pw,pWd,hwe,pv,pv2]);(fail_if_success change False))|omega|intro _))
     all_goals
      refine⟨q+1,?_⟩;(with_reducible repeat'(first|(simp(disch:=omega)only[push_cast,↓zz,seval,pR,pFi,pX,pO,pL,pRU,pFI,pST,pRI,pA2,pw,pWd,hnx,pv])|refine Aa ?_ ?_|(first|refine Ac ?_ ?_|refine Ab ?_ ?_)<;>intro hc<;>(try simp only[push_cast] at hc)|omega|intro _))
    ·obtain rfl:q=Wd.length:=by omega
     rw[<-hAn] at *;have pA3:=CI (putW d x S a s (k+1));refine W_T ?_;(with_reducible repeat'(first|(simp(disch:=omega)only[push_cast,↓zz,seval,pR,pFi,pX,pO,pL,pRU,pFI,pST,pRI,pA3,pw,pWd])|refine Aa ?_ ?_|(first|refine Ac ?_ ?_|refine Ab ?_ ?_)<;>intro hc<;>(try simp only[push_cast] at hc)|omega|intro _))
     all_goals
      refine⟨k+1,?_⟩;(with_reducible repeat'(first|(simp(disch:=omega)only[push_cast,↓zz,seval,pR,pFi,pX,pO,pL,pRU,pFI,pST,pRI,pA3])|refine Aa ?_ ?_|(first|refine Ac ?_ ?_|refine Ab ?_ ?_)<;>intro hc<;>(try simp only[push_cast] at hc)|omega|intro _))
  ·obtain rfl:k=(ruI d.rules s).length:=by omega
   have hall:putW d x S a s (ruI d.rules s).length=allW d x S a s:=rfl;have hlk:(allW d x S a s).length<=900000000:=hlk;rw[hall]
   have hSo:=z61 (allW d x S a s) (by omega) (λw hw=>by
    have h1:w∈outW d x a (s:Nat):=by rw[<-hMeq,J4];exact hw
    have h2:w.length<=100000000:=R9 hgoes ht ⟨λr hr=>(hk.rb r hr).2.1.1,λf hf=>(hk.fb f hf).2.1⟩ hn hx ha htn (((Mx hgoes ht ha htn).2 w).1 h1)
    exact Bm h2 (by decide))
   have hML:=TM (allW d x S a s);have pA:=CI (allW d x S a s);generalize allW d x S a s=A at *;generalize JW A=M at *;have pM:=CI M;have hmul:(a:Int) * (n:Int)=((a * n:Nat):Int):=by norm_cast
   have hmulb:a * n<=1024 * 1024:=CN (by omega) hn;have sM:=sST M;generalize hpe:a * n+s=p at *;generalize a * n=an at *;have hpi:(an:Int)+(s:Int)=(p:Int):=by omega
   have hdec:decide ((mo:Int)<(M.length:Int))=decide (mo<M.length):=DC.2 (by omega);refine W_T ?_;(with_reducible repeat'(first|(simp(disch:=omega)only[push_cast,↓zz,seval,pR,pFi,pX,pO,pL,pRU,pFI,pST,lST,pA,pM,hdn,hmul,hpi,sM])|refine Aa ?_ ?_|(first|refine Ac ?_ ?_|refine Ab ?_ ?_)<;>intro hc<;>(try simp only[push_cast] at hc)|refine eK hSo ?_|refine eQ hSo ?_|refine eG hSo ?_|((first|refine cK hSo ?_|refine cQ hSo ?_|refine cG hSo ?_);(simp(disch:=omega)only[push_cast,↓zz,seval,pR,pFi,pX,pO,pL,pRU,pFI,pST,lST,pA,pM,hdn,hmul,hpi,sM]);(fail_if_success change False))|omega|intro _));rw[hdec];exact⟨_,_,Rv (l0:=outH d (EA d x (.lst 1 RU) (.lst 1 FI) (.lst 1 OD) (.lst 1 LV)) mo n m (setP S a s M) (decide (mo<M.length))) (gar:=[⟨0,2,false,[]⟩]) rfl (Ae _) (hcl _ _) trivial,rfl,(setP S a s M,decide (mo<M.length)),rfl,hnext⟩
theorem V9{P:Program}{f:Nat}{xs:List AV}{l l':List Grp}{K:AV->A7->Prop}(h:BZ P f xs (Abs.hl l') K)(hle:Il l l l'):BZ P f xs (Abs.hl l) K:=⟨h.1,λS cargs hS hx=>h.2 S cargs (Im hS hle) hx⟩
noncomputable def outA (d:Desc) (x:List Int) (mo:Nat):AV:=if (outW d x 0 d.start).length<=mo then .tup [Hl (outW d x 0 d.start),.int .i64 0] else .tup [.nilS,.int .i64 5]
theorem zbt{d:Desc}{x:List Int}{n:Nat}(hk:V8 d x n):BZ Tryz.prog 60 [Dm d,Bf x] (Abs.hl []) λy H'=>H'=Abs.hl []/\∃ord L,y=EA d x (ruV d.rules n) (fiV d.finals n) (.lst 1 (ord.map e1)) (.lst 1 (lvB n ((x.length+1) * n) L))/\Topo d.rules n ord/\LivE d x n L :=
 z5q d x hk.st hk.n1 hk.rl hk.fl hk.start hk.goes hk.cyc hk.ff hk.xl hk.x32 λr hr=>⟨(hk.rb r hr).1,(hk.rb r hr).2.2⟩
theorem VA(d:Desc)(x:List Int){n:Nat}(hk:V8 d x n)(hq:PC Tryz.prog 59 [Dm d,Bf x] (.int .i64 0))(mo:Nat)(h1:1<=mo)(hmo:mo<=9000000000000000000)(hB:Nat.min mo (outW d x 0 d.start).length<=200000):
 PC Tryz.prog 26 [Dm d,Bf x,.int .i64 mo] (outA d x mo):=by
 have pR:=B8 d.rules;have pFi:=B6 d.finals;have pX:AT (x.map (AV.int .i32))=true:=Cv .i32 _;have hBe:=zbt hk;have hdn:=hk.st;refine BV IC ?_;unfold Hn;(with_reducible repeat'(first|(simp(disch:=omega)only[push_cast,↓zz,seval,pR,pFi,pX])|refine Aa ?_ ?_|(first|refine Ac ?_ ?_|refine Ab ?_ ?_)<;>intro hc<;>(try simp only[push_cast] at hc)|refine eK hq ?_|refine eQ hq ?_|refine eG hq ?_|((first|refine cK hq ?_|refine cQ hq ?_|refine cG hq ?_);(simp(disch:=omega)only[push_cast,↓zz,seval,pR,pFi,pX]);(fail_if_success change False))|omega|intro _))
 (refine NF [] (hBe) (by decide) (by simp) (by (simp(disch:=omega)only[push_cast,↓zz,seval])) (by (simp(disch:=omega)only[push_cast,↓zz,seval])) (by (simp(disch:=omega)only[push_cast,↓zz,seval])) (by (simp(disch:=omega)only[push_cast,↓zz,seval,Ag,Am,A5,C8,EM,Ez])) ?_)
 rintro y H' ⟨rfl,ord,L,rfl,ht,hl⟩;refine⟨_,rfl,by simp,?_⟩;have hmx:(x.length+1) * n<=1025 * 1024:=CN (by have:=hk.xl;omega) hk.n1;have pO:AT (ord.map e1)=true:=Dz (λ_=>rfl) _;have pL:AT (lvB n ((x.length+1) * n) L)=true:=MP;have lL:(lvB n ((x.length+1) * n) L).length=(x.length+1) * n:=K1;have pRU:AT (fD 1 e1 n (ruI d.rules))=true:=E9 λ_=>rfl;have pFI:AT (fD 1 e1 n (fiI d.finals))=true:=E9 λ_=>rfl;have pRn:(EA d x (ruV d.rules n) (fiV d.finals n) (.lst 1 (ord.map e1)) (.lst 1 (lvB n ((x.length+1) * n) L))).pure=true:=by simp[AV.pure,AT,pR,pFi,pX,pO,pL,pRU,pFI,ruV,fiV]
 have hbk:=zbn (σ:=(Nat->Nat->List (List Int)) × Bool) d x (ruV d.rules n) (fiV d.finals n) pRU pFI hdn hk.n1 hk.xl ht (L:=L) 62 [.ptr 5 1 0 0,.ptr 2 1 0 0,.ptr 0 1 0 0,.ptr 4 1 0 0,.ptr 1 1 0 0] 6
  (λs=>outH d (EA d x (ruV d.rules n) (fiV d.finals n) (.lst 1 (ord.map e1)) (.lst 1 (lvB n ((x.length+1) * n) L))) mo n ((x.length+1) * n) s.1 s.2) (λ_=>rfl) (λ_=>OG pRn) ⟨(show 5<6 by omega),(show 2<6 by omega),(show 0<6 by omega),(show 4<6 by omega),(show 1<6 by omega),trivial⟩
  (λa j s=>OutI d x L ord mo a j s.1 s.2) ((λ_ _=>[]),false) (z5j (Fj ht)) (λa j s ha hj hI hlv=>z67 d x hk ht hl mo hmo hB a j s.1 s.2 ha hj hI hlv)
  (λa j s ha hj hI hlv=>z5l hI (by rw[Fj ht];exact hj) hlv) (λa s ha hI=>zbd hI hl ht)
 generalize hm:(x.length+1) * n=m at *;(with_reducible repeat'(first|(simp(disch:=omega)only[push_cast,↓zz,seval,pR,pFi,pX,lL])|refine Aa ?_ ?_|(first|refine Ac ?_ ?_|refine Ab ?_ ?_)<;>intro hc<;>(try simp only[push_cast] at hc)|omega|intro _));refine V9 (BZ.mono hbk ?_) ?_
 rotate_left
 ·unfold outH
  refine⟨⟨rfl,rfl,id,Ck _ _⟩,⟨rfl,rfl,id,Ck _ _⟩,⟨rfl,rfl,id,Ck _ _⟩,⟨rfl,rfl,id,z63 (n:=n)⟩,⟨rfl,rfl,id,Ck _ _⟩,⟨rfl,rfl,id,Ck _ _⟩,trivial⟩
 rintro y H' ⟨rfl,⟨S,many⟩,rfl,hI⟩;simp only at hI ⊢;obtain⟨g1,g2⟩:=zbe hI hl hk.goes ht hk.start;unfold outH;have hst:=hk.start;obtain⟨s0,hs0⟩:∃s0:Nat,d.start=s0:=⟨d.start.toNat,by omega⟩;have hsn:s0<n:=by omega
 have hsm:0 * n+s0<m:=by rw[<-hm];exact Hr hsn (AD _)
 have aS:(setT n m S).getD s0 .any=Hl (S 0 s0):=by
  have:=z62 (S:=S) (z:=.any) hsn hsm
  rwa [F9,Bn] at this
 have lS:(setT n m S).length=m:=XQ;have pS:AT (setT n m S)=true:=OF;have hsm2:s0<m:=by omega
 unfold outA;cases many with
 |true =>
  rw[Ah (by have:=of_decide_eq_true g1.symm;omega)];(with_reducible repeat'(first|(simp(disch:=omega)only[push_cast,↓zz,seval])|refine Aa ?_ ?_|(first|refine Ac ?_ ?_|refine Ab ?_ ?_)<;>intro hc<;>(try simp only[push_cast] at hc)|omega|intro _))
 |false =>
  have g2:=g2 rfl;rw[Ai (by have:=of_decide_eq_false g1.symm;omega),<-g2,show d.start.toNat=s0 by omega];have pW:=CI (S 0 s0);(with_reducible repeat'(first|(simp(disch:=omega)only[push_cast,↓zz,seval,hs0,aS,lS,pS,pW])|refine Aa ?_ ?_|(first|refine Ac ?_ ?_|refine Ab ?_ ?_)<;>intro hc<;>(try simp only[push_cast] at hc)|omega|intro _))
  all_goals trace_state
set_option maxRecDepth 100000
theorem RE{d:Desc}{x:List Int}:askV d x=0↔Ew d=0/\x.length<=1024/\x.all (Hj d.in_)=true:=by
 unfold askV;by_cases h:Ew d=0
 ·rw[Ah (by simp[h])]
  by_cases h2:1024<x.length
  ·rw[Ai h2];constructor
   ·intro h;cases h
   ·intro h;omega
  ·rw[Ah h2]
   cases h3:x.all (Hj d.in_) with
   |true=>simp[h];omega
   |false=>simp
 ·rw[Ai h];constructor
  ·intro h;cases h
  ·intro h';exact absurd h'.1 h
theorem XS{s v:Int}(h:Hj s v=true):0<=v/\v<1114112:=by
 simp only[Hj,Aj] at h;omega
theorem VB{d:Desc}(h:Ew d=0){n:Nat}(hn:d.states=n):Goes d n:=by
 obtain⟨h1,h2,h3⟩:=Gf h;have hw:=O2 h;refine⟨λr hr=>?_⟩;have h4:=h2 r hr;have h5:=hw.r r hr;rw[hn] at h5;simp only[Hq,eatB,Ad,CC,Cr] at h4;obtain⟨_,_,_,⟨h6,h7⟩,_⟩:=h4;refine⟨h5.1,h5.2,by omega,λhe=>?_⟩;simp only[Cy,Cr] at he;omega
theorem XT{d:Desc}{x:List Int}(h:askV d x=0):∃n,V8 d x n:=by
 obtain⟨h1,h2,h3⟩:=RE.1 h;obtain⟨n,hn,hn1,hn2,hc,hl⟩:=wf_n h1;have hw:=O2 h1;have hst:=hw.start;have hff:=hw.f;rw[hn] at hst hff;obtain⟨_,k2,k3⟩:=Gf h1;refine⟨n,hn,hn2,hst,hw.rl,hw.fl,h2,λv hv=>?_,VB h1 hn,hff,λr hr=>?_,λf hf=>?_,hc⟩
 ·have:=XS (AO.1 h3 v hv);omega
 ·have h4:=k2 r hr
  simp only[Hq,eatB,Ad,CC,Cr] at h4;obtain⟨_,_,h5,⟨h6,h7⟩,h8⟩:=h4;obtain⟨g1,g2⟩:=G0 h5;obtain⟨w1,w2⟩:=FX h8;exact⟨⟨by omega,λg hg=>by have:=g2 g hg;omega⟩,⟨w1,λt ht=>by have:=w2 t ht;omega⟩,by omega,by omega⟩
 ·have h4:=k3 f hf
  simp only[GA,Ad] at h4;obtain⟨_,h5,h8⟩:=h4;obtain⟨g1,g2⟩:=G0 h5;obtain⟨w1,w2⟩:=FX h8;exact⟨⟨by omega,λg hg=>by have:=g2 g hg;omega⟩,w1,λt ht=>by have:=w2 t ht;omega⟩
noncomputable def runA (d:Desc) (x:List Int) (mo:Int):AV:=if askV d x≠0 then .tup [.nilS,.int .i64 (askV d x)] else if mo<1 then .tup [.nilS,.int .i64 1] else outA d x mo.toNat
theorem J7(d:Desc)(x:List Int)(hf:GB d)(hl:x.length<=9223372036854775807)(h32:∀v∈x,-2147483648<=v/\v<=2147483647)(mo:Int)(hmo:mo<=9000000000000000000)(hB:askV d x=0->Nat.min mo.toNat (outW d x 0 d.start).length<=200000):
 PC Tryz.prog 26 [Dm d,Bf x,.int .i64 mo] (runA d x mo):=by
 have hq:=z5e d x hf hl h32;have pR:=B8 d.rules;have pFi:=B6 d.finals;have pX:AT (x.map (AV.int .i32))=true:=Cv .i32 _;unfold runA;by_cases h:askV d x=0
 ·rw[Ah (by simp[h])]
  rw[h] at hq;by_cases h1:mo<1
  ·rw[Ai h1]
   refine BV IC ?_;unfold Hn;(with_reducible repeat'(first|(simp(disch:=omega)only[push_cast,↓zz,seval,pR,pFi,pX])|refine Aa ?_ ?_|(first|refine Ac ?_ ?_|refine Ab ?_ ?_)<;>intro hc<;>(try simp only[push_cast] at hc)|refine eK hq ?_|refine eQ hq ?_|refine eG hq ?_|((first|refine cK hq ?_|refine cQ hq ?_|refine cG hq ?_);(simp(disch:=omega)only[push_cast,↓zz,seval,pR,pFi,pX]);(fail_if_success change False))|omega|intro _))
  ·rw[Ah h1]
   obtain⟨n,hk⟩:=XT h;obtain⟨m,rfl⟩:∃m:Nat,mo=m:=⟨mo.toNat,by omega⟩;rw[Int.toNat_natCast] at hB ⊢;exact VA d x hk hq m (by omega) (by omega) (hB h)
 ·rw[Ai h]
  generalize askV d x=k at *;refine BV IC ?_;unfold Hn;(with_reducible repeat'(first|(simp(disch:=omega)only[push_cast,↓zz,seval,pR,pFi,pX,h])|refine Aa ?_ ?_|(first|refine Ac ?_ ?_|refine Ab ?_ ?_)<;>intro hc<;>(try simp only[push_cast] at hc)|refine eK hq ?_|refine eQ hq ?_|refine eG hq ?_|((first|refine cK hq ?_|refine cQ hq ?_|refine cG hq ?_);(simp(disch:=omega)only[push_cast,↓zz,seval,pR,pFi,pX,h]);(fail_if_success change False))|omega|intro _))
  all_goals trace_state
theorem z68{l:List Rule}{n:Nat}(hl:∀r∈l,(0<=r.from_/\r.from_<n)/\0<=r.to_/\r.to_<n)(hc:¬cycP l n){ord:List Nat}{s:Nat}(hs:s<n)(hso:s∉ord):∃t,t<n/\t∉ord/\∀r∈l,Cy r=true->r.from_=(t:Nat)->r.to_.toNat∈ord:=by
 refine Bc λhno=>?_
 have hx:∀t,t<n->t∉ord->∃i,i<l.length/\Cy (nth l i)=true/\(nth l i).from_=(t:Nat)/\(nth l i).to_.toNat∉ord:=λt h1 h2=>by
  refine Bc λh3=>hno ⟨t,h1,h2,λr hr he hf=>?_⟩;refine Bc λh4=>h3 ?_;obtain⟨i,hi,rfl⟩:=Bw hr;exact⟨i,hi,by rw[GK hi];exact he,by rw[GK hi];exact hf,by rw[GK hi];exact h4⟩
 have key:∀k:Nat,∃(q:List Nat) (t:Nat),okP l (s:Nat) q/\endP l (s:Nat) q=(t:Nat)/\t<n/\t∉ord/\k<=q.length:=λk=>by
  induction k with
  |zero=>exact⟨[],s,trivial,rfl,hs,hso,Ae _⟩
  |succ k ih =>
   obtain⟨q,t,q1,q2,q3,q4,q5⟩:=ih;obtain⟨i,i1,i2,i3,i4⟩:=hx t q3 q4;have hr:=hl _ (B2 i1);refine⟨q++[i],(nth l i).to_.toNat,?_,?_,by omega,i4,by simp;omega⟩
   ·rw[Oy,q2];exact⟨q1,FJ.2 ⟨i1,i2,i3⟩,trivial⟩
   ·rw[KZ,q2]
    show (nth l i).to_=_;omega
 obtain⟨q,t,q1,_,_,_,q5⟩:=key (n+2);have:=Ox hl hc (by omega) q1;omega
theorem zhm{l:List Rule}{n:Nat}(hl:∀r∈l,(0<=r.from_/\r.from_<n)/\0<=r.to_/\r.to_<n)(hc:¬cycP l n):∃ord,Topo l n ord:=by
 have hole:∀ord:List Nat,ord.Nodup->(∀a∈ord,a<n)->∀s,s<n->s∉ord->ord.length<n:=λord h1 h2 s hs hso=>by
  have:=IP (l:=s::ord) (m:=List.range n) (Cd.2 ⟨hso,h1⟩) λa ha=>by
   rcases Ag.1 ha with rfl|ha
   ·exact Bo.2 hs
   ·exact Bo.2 (h2 a ha)
  simp at this;omega
 have key:∀k,k<=n->∃ord:List Nat,ord.length=k/\Vu l ord/\ord.Nodup/\∀a∈ord,a<n:=λk=>by
  induction k with
  |zero=>exact λ_=>⟨[],rfl,λi hi=>absurd hi (Bh _),D3,λa h=>by cases h⟩
  |succ k ih =>
   intro hk;obtain⟨ord,o1,o2,o3,o4⟩:=ih (by omega)
   obtain⟨s,hs,hso⟩:∃s,s<n/\s∉ord:=by
    refine Bc λhno=>?_
    have:=IP (l:=List.range n) (m:=ord) Ev λa ha=>by
     refine Bc λh=>hno ⟨a,Bo.1 ha,h⟩
    simp at this;omega
   obtain⟨t,t1,t2,t3⟩:=z68 hl hc hs hso;refine⟨ord++[t],by simp[o1],TO o2 λr hr he hf=>⟨r.to_.toNat,?_,t3 r hr he hf⟩,?_,λa ha=>?_⟩
   ·have:=hl r hr;omega
   ·refine Dr.2 ⟨o3,Cd.2 ⟨by simp,D3⟩,λa ha b hb=>?_⟩
    rw[As.1 hb];rintro rfl;exact t2 ha
   ·rcases Au.1 ha with h|h
    ·exact o4 a h
    ·rw[As.1 h];exact t1
 obtain⟨ord,o1,o2,o3,o4⟩:=key n (Ae _);refine⟨ord,o3,λs=>⟨o4 s,λhs=>?_⟩,o2⟩;refine Bc λh=>?_;have:=hole ord o3 o4 s hs h;omega
theorem Qt{d:Desc}{x:List Int}{n:Nat}(hk:V8 d x n):∃ord,Topo d.rules n ord:=zhm (λr hr=>⟨(hk.goes.r r hr).1,(hk.goes.r r hr).2.1⟩) hk.cyc
theorem z69{d:Desc}{x:List Int}{n:Nat}(hk:V8 d x n){a:Nat}{s:Int}(ha:a<=x.length)(hs:0<=s/\s<n):IZ d x a s (outW d x a s):=by
 obtain⟨ord,ht⟩:=Qt hk;have:=Mx hk.goes ht ha (t:=s.toNat) (by omega)
 rwa [BG hs.1] at this
theorem z6a{d:Desc}{x:List Int}{n:Nat}(hk:V8 d x n){w:List Int}(hw:w∈outW d x 0 d.start):w.length<=100000000:=by
 obtain⟨ord,ht⟩:=Qt hk;have h1:=((z69 hk (AD _) hk.start).2 w).1 hw;have h2:=hk.start;have e:((d.start.toNat:Nat):Int)=d.start:=BG h2.1;rw[<-e] at h1;exact R9 hk.goes ht ⟨λr hr=>(hk.rb r hr).2.1.1,λf hf=>(hk.fb f hf).2.1⟩ hk.n1 hk.xl (AD _) (by omega) h1
theorem ZM{d e:Desc}{x:List Int}{a:Nat}{s t:Int}(h:∀w,RelW d x a s w↔RelW e x a t w):outW d x a s=outW e x a t:=by
 have:IZ d x a s=IZ e x a t:=funext λL=>propext (and_congr_right λ_=>forall_congr' λw=>by rw[h w]);unfold outW;rw[this]
set_option maxRecDepth 100000
theorem XU{l:List Rule}:∀(f:Nat)(s:Int)(p:List Nat),okP l s p->p.length<=f->p∈Ie l f s
 |0,s,p,_,hp=>by
  obtain rfl:p=[]:=Az (by omega);simp[Ie]
 |f+1,s,[],_,_=>by simp[Ie]
 |f+1,s,i::p,h,hp=>by
  rw[Ie];refine Ag.2 (.inr (Cn.2 ⟨i,h.1,Aq.2 ⟨p,XU f _ p h.2 (by simpa using hp),rfl⟩⟩))
theorem z6b{α β:Type}{W:Nat->List α}{g:Nat->α->List β}{s i:Nat}{x:β}{w:α}(hi:i<s)(hw:w∈W i)(h:x∈g i w):x∈accL W g s:=by
 simp only[accL,Cn,Bo];exact⟨i,hi,w,hw,h⟩
section
variable {d:Desc}{x:List Int}{n:Nat}
theorem z6c{i o:Int}{out:List Term}(h:∀t∈out,KV t i o []=true){w:List Int}(hw:w.all symB=true):D9 out w=D9 out []:=by
 refine AQ λt ht=>?_
 have hp:t.parts=[]:=by
  have h1:=((KX (by simp)).1 (h t ht)).1;simp only[I0,Ad] at h1;have hr:=h1.1.1.2;cases hpe:t.parts with
  |nil=>rfl
  |cons p l =>
   exfalso;rw[hpe] at hr;simp only[GP,List.all_cons,Ad] at hr;have:=AU (p:=p) (n:=(([]:List (List Span)).length:Int)) (by first|exact hr.1|exact hr.1.1|simp_all);simp at this;omega
 have e:EU t w=EU t []:=by
  rw[EU,EU,Ai hw,Ai (show ([]:List Int).all symB=true from rfl),hp];rfl
 rw[e]
theorem OH(a b:List Term)(w:List Int):D9 (a++b) w=D9 a w++D9 b w:=by simp[D9]
theorem zhn{s:Int}(hx:x.all (Hj s)=true)(a k:Nat):((x.drop a).take k).all symB=true:=AO.2 λv hv=>by
 have:=XS (AO.1 hx v (BX (BP hv)));simp only[symB,Aj];omega
theorem MQ{i o:Int}{out:List Term}(h:∀t∈out,KV t i o []=true)(hx:x.all (Hj d.in_)=true)(b:List Term)(gs:List (List Span))(a:Nat):EC x (out++b) gs a=D9 out []++EC x b gs a:=by
 rw[EC,EC,OH,z6c h (zhn hx a _)]
theorem VC:∀(p:List Nat){s:Int}{a:Nat}{v:List Int},okP d.rules s p->(∀r∈d.rules,Cy r=true->r.eat.toNat=0)->a<=x.length->RelW d x a (endP d.rules s p) v->RelW d x a s (D9 (outP d.rules p) []++v)
 |[],s,a,v,_,_,_,h=>by simpa [outP,D9,endP] using h
 |i::p,s,a,v,hp,he,ha,h=>by
  obtain⟨i1,i2,i3⟩:=FJ.1 hp.1;have ih:=VC p hp.2 he ha h;have hr:=B2 i1;have h0:=he _ hr i2;have hg:=Vq i2;have hgo:goB x (nth d.rules i).guards a=true:=by rw[hg];simp[goB,ha]
  have hstep:=RelW.step (nth d.rules i) _ hr i3 hgo (by rw[h0,Nat.add_zero];exact ih);have e:EC x (nth d.rules i).out (nth d.rules i).guards a=D9 (nth d.rules i).out []:=by rw[hg];simp[EC]
  rw[e,<-Aw,<-OH] at hstep;exact hstep
theorem zbu(h:Ew d=0)(hn:d.states=n)(hc:¬cycP d.rules n)(hx:x.all (Hj d.in_)=true){a:Nat}{s:Int}{w:List Int}(hr:RelW d x a s w):∀(s0:Nat)(p:List Nat),s0<n->okP d.rules s0 p->endP d.rules s0 p=s->RelW (Ey d n) x a (s0:Nat) (D9 (outP d.rules p) []++w):=by
 have hw:=O2 h;have hl:∀r∈d.rules,(0<=r.from_/\r.from_<n)/\0<=r.to_/\r.to_<n:=λr hr=>by have:=hw.r r hr;rw[hn] at this;exact this
 have hmem:∀(s0:Nat)(p:List Nat),okP d.rules s0 p->(endP d.rules s0 p,outP d.rules p)∈wayL d.rules n s0 []:=λs0 p hp =>
  Aq.2 ⟨p,XU _ _ _ hp (Ox hl hc (by omega) hp),by simp⟩
 induction hr with
 |@fin a s f h1 h2 h3 h4 =>
  intro s0 p hs0 hp he;have hm:=hmem s0 p hp;have hfit:=Lj h hl hc hm;rw[he] at hm;have hf:=hw.f f h1
  have hmf:If s0 (s,outP d.rules p) f∈(Ey d n).finals:=z6b hs0 hm (by
   rw[z54];refine Aq.2 ⟨f,AX.2 ⟨h1,?_⟩,rfl⟩
   simp only[Ax,Aj];omega)
  have:=RelW.fin (d:=Ey d n) (x:=x) (at_:=a) (s:=(s0:Nat)) _ hmf rfl h3 h4;rw[show EC x (If s0 (s,outP d.rules p) f).out (If s0 (s,outP d.rules p) f).guards a=EC x (outP d.rules p++f.out) f.guards a from rfl,MQ hfit hx] at this;exact this
 |@step a s r w h1 h2 h3 h4 ih =>
  intro s0 p hs0 hp he;have hrr:=hl r h1;cases hep:Cy r with
  |true =>
   obtain⟨i,hi,rfl⟩:=Bw h1;have e:nth d.rules i=d.rules[i]:=GK hi;have hp2:okP d.rules s0 (p++[i]):=(Oy _ _ _ _).2 ⟨hp,by rw[he];exact⟨FJ.2 ⟨hi,by rw[e];exact hep,by rw[e];exact h2⟩,trivial⟩⟩;have he2:endP d.rules s0 (p++[i])=d.rules[i].to_:=by rw[KZ,he];show (nth d.rules i).to_=_;rw[e]
   have:=ih s0 (p++[i]) hs0 hp2 he2;have h0:=R7 (VB h hn) h1 hep;rw[h0,Nat.add_zero] at this;have e2:EC x d.rules[i].out d.rules[i].guards a=D9 d.rules[i].out []:=by rw[Vq hep];simp[EC]
   have e3:outP d.rules (p++[i])=outP d.rules p++d.rules[i].out:=by simp[outP,e]
   rw[e3,OH,Aw] at this;rw[e2];exact this
  |false =>
   have hm:=hmem s0 p hp;have hfit:=Lj h hl hc hm;rw[he] at hm
   have hmr:HE s0 (s,outP d.rules p) r∈(Ey d n).rules:=z6b hs0 hm (by
    rw[X0];refine Aq.2 ⟨r,AX.2 ⟨h1,?_⟩,rfl⟩
    simp only[hep,EK,Ax,Aj];omega)
   have hto:=ih r.to_.toNat [] (by omega) trivial (by show (r.to_.toNat:Int)=_;omega)
   have:=RelW.step (d:=Ey d n) (x:=x) (at_:=a) (s:=(s0:Nat)) _ w hmr rfl h3 (by
    show RelW (Ey d n) x (a+r.eat.toNat) r.to_ w;rw[show ((r.to_.toNat:Nat):Int)=r.to_ by omega] at hto
    simpa [outP,D9] using hto)
   rw[show EC x (HE s0 (s,outP d.rules p) r).out (HE s0 (s,outP d.rules p) r).guards a=EC x (outP d.rules p++r.out) r.guards a from rfl,MQ hfit hx,Aw] at this;exact this
theorem zbv(h:Ew d=0)(hn:d.states=n)(hc:¬cycP d.rules n)(hx:x.all (Hj d.in_)=true){a:Nat}{s:Int}{w:List Int}(hr:RelW (Ey d n) x a s w):RelW d x a s w:=by
 have hw:=O2 h;have hl:∀r∈d.rules,(0<=r.from_/\r.from_<n)/\0<=r.to_/\r.to_<n:=λr hr=>by have:=hw.r r hr;rw[hn] at this;exact this
 have hee:∀r∈d.rules,Cy r=true->r.eat.toNat=0:=λr hr he=>R7 (VB h hn) hr he
 induction hr with
 |@fin a s f h1 h2 h3 h4 =>
  obtain⟨i,hi,wy,hwy,r0,hr0,hf0,rfl⟩:=Qj h1;have hfit:=Lj h hl hc hwy;obtain⟨p,hp,rfl⟩:=Aq.1 hwy;obtain⟨_,hok⟩:=MK hl hc (show (0:Int)<=i by omega) hp;have hrng:=ML hl (show (0:Int)<=i/\(i:Int)<n by omega) hok;simp only[List.nil_append] at hfit;have h2':(i:Int)=s:=h2;subst h2'
  have e:EC x (If i (endP d.rules i p,[]++outP d.rules p) r0).out (If i (endP d.rules i p,[]++outP d.rules p) r0).guards a=D9 (outP d.rules p) []++EC x r0.out r0.guards a:=by
   show EC x (([]++outP d.rules p)++r0.out) r0.guards a=_;rw[List.nil_append,MQ hfit hx]
  rw[e];have h3':r0.guards.length+a=x.length:=h3;refine VC p hok hee (by omega) (.fin r0 hr0 ?_ h3 h4);simp only at hf0;omega
 |@step a s r w h1 h2 h3 h4 ih =>
  obtain⟨i,hi,wy,hwy,r0,hr0,hep,hf0,rfl⟩:=Lk h1;have hfit:=Lj h hl hc hwy;obtain⟨p,hp,rfl⟩:=Aq.1 hwy;obtain⟨_,hok⟩:=MK hl hc (show (0:Int)<=i by omega) hp;have hrng:=ML hl (show (0:Int)<=i/\(i:Int)<n by omega) hok;simp only[List.nil_append] at hfit;have h2':(i:Int)=s:=h2;subst h2'
  have e:EC x (HE i (endP d.rules i p,[]++outP d.rules p) r0).out (HE i (endP d.rules i p,[]++outP d.rules p) r0).guards a=D9 (outP d.rules p) []++EC x r0.out r0.guards a:=by
   show EC x (([]++outP d.rules p)++r0.out) r0.guards a=_;rw[List.nil_append,MQ hfit hx]
  rw[e,Aw];have hle:=Kf h3;refine VC p hok hee (by omega) (.step r0 w hr0 ?_ h3 ih);simp only at hf0;omega
theorem zbw(h:Ew d=0)(hn:d.states=n)(hc:¬cycP d.rules n)(hx:x.all (Hj d.in_)=true):outW (Ey d n) x 0 (Ey d n).start=outW d x 0 d.start:=by
 have hst:=(O2 h).start;rw[hn] at hst;have e:((d.start.toNat:Nat):Int)=d.start:=BG hst.1;refine ZM λw=>⟨zbv h hn hc hx,λhr=>?_⟩;have:=zbu h hn hc hx hr d.start.toNat [] (by omega) trivial e;rw[e] at this;show RelW (Ey d n) x 0 d.start w;simpa [outP,D9] using this
theorem XV(h:Ew d=0)(hn:d.states=n)(hc:¬cycP d.rules n)(hok:HD d n=true)(mo:Int):runA (Ey d n) x mo=runA d x mo:=by
 have hl:∀r∈d.rules,(0<=r.from_/\r.from_<n)/\0<=r.to_/\r.to_<n:=λr hr=>by have:=(O2 h).r r hr;rw[hn] at this;exact this
 have hcf:=LN h hn hc hl hok
 have ha:askV (Ey d n) x=askV d x:=by
  unfold askV;rw[hcf,h,show (Ey d n).in_=d.in_ from rfl]
 unfold runA;rw[ha];by_cases hq:askV d x=0
 ·unfold outA
  rw[zbw h hn hc (RE.1 hq).2.2]
 ·rw[Ai hq,Ai hq]
end
set_option maxHeartbeats 1000000 in
theorem M9(d:Desc)(x:List Int)(hl:x.length<=9223372036854775807)(h32:∀v∈x,-2147483648<=v/\v<=2147483647):PC Tryz.prog 14 [Dm d,Bf x] (.bool true):=by
 have hA:=O7;have hS:=Vn d;have pR:=B8 d.rules;have pF:=B6 d.finals;have pX:AT (x.map (AV.int .i32))=true:=Cv .i32 _;cases hsm:Mv d with
 |false =>
  rw[hsm] at hS;refine BV Dc ?_;unfold CJ;(with_reducible repeat'(first|(simp(disch:=omega)only[push_cast,↓zz,seval,pR,pF,pX])|refine Aa ?_ ?_|(first|refine Ac ?_ ?_|refine Ab ?_ ?_)<;>intro hc<;>(try simp only[push_cast] at hc)|refine eK hS ?_|refine eQ hS ?_|refine eG hS ?_|refine eK hA ?_|refine eQ hA ?_|refine eG hA ?_|((first|refine cK hS ?_|refine cQ hS ?_|refine cG hS ?_|refine cK hA ?_|refine cQ hA ?_|refine cG hA ?_);(simp(disch:=omega)only[push_cast,↓zz,seval,pR,pF,pX]);(fail_if_success change False))|omega|intro _))
 |true =>
 rw[hsm] at hS;by_cases hx:12<x.length
 ·refine BV Dc ?_
  unfold CJ;(with_reducible repeat'(first|(simp(disch:=omega)only[push_cast,↓zz,seval,pR,pF,pX])|refine Aa ?_ ?_|(first|refine Ac ?_ ?_|refine Ab ?_ ?_)<;>intro hc<;>(try simp only[push_cast] at hc)|refine eK hS ?_|refine eQ hS ?_|refine eG hS ?_|refine eK hA ?_|refine eQ hA ?_|refine eG hA ?_|((first|refine cK hS ?_|refine cQ hS ?_|refine cG hS ?_|refine cK hA ?_|refine cQ hA ?_|refine cG hA ?_);(simp(disch:=omega)only[push_cast,↓zz,seval,pR,pF,pX]);(fail_if_success change False))|omega|intro _))
 have hsh:=Vo hsm;by_cases h:Ew d=0
 ·obtain⟨n,hn,h1,h2,hc,hll⟩:=wf_n h
  have hT:=R2 d hsh.fin h hn hc;cases hok:HD d n with
  |false =>
   rw[Ah (by rw[hok];simp)] at hT;refine BV Dc ?_;unfold CJ;(with_reducible repeat'(first|(simp(disch:=omega)only[push_cast,↓zz,seval,pR,pF,pX])|refine Aa ?_ ?_|(first|refine Ac ?_ ?_|refine Ab ?_ ?_)<;>intro hc<;>(try simp only[push_cast] at hc)|refine eK hS ?_|refine eQ hS ?_|refine eG hS ?_|refine eK hT ?_|refine eQ hT ?_|refine eG hT ?_|refine eK hA ?_|refine eQ hA ?_|refine eG hA ?_|((first|refine cK hS ?_|refine cQ hS ?_|refine cG hS ?_|refine cK hT ?_|refine cQ hT ?_|refine cG hT ?_|refine cK hA ?_|refine cQ hA ?_|refine cG hA ?_);(simp(disch:=omega)only[push_cast,↓zz,seval,pR,pF,pX]);(fail_if_success change False))|omega|intro _))
  |true =>
   rw[Ai hok] at hT;have hcf:=LN h hn hc hll hok;have hf:=TH hcf;have hwf:=O2 hcf;have hC:=JP (Ey d n) hf;rw[hcf] at hC;have hFr:=z4l (Ey d n) (by have:=hwf.rl;omega);have hfr:zak (Ey d n)=true:=AO.2 λr hr=>by rw[Qk hr];rfl
   rw[hfr] at hFr;have hR:=J7 d x hsh.fin hl h32 200 (by omega) λ_=>Bm (Gv _ _) (by decide);have hR2:=J7 (Ey d n) x hf hl h32 200 (by omega) λ_=>Bm (Gv _ _) (by decide);rw[XV h hn hc hok] at hR2;have pcR:=B8 (Ey d n).rules;have pcF:=B6 (Ey d n).finals;clear hf hwf hok hcf hfr;generalize Ey d n=c at *;by_cases hq:askV d x=0
   ·obtain⟨n',hk⟩:=XT hq
    have hW:∀w∈outW d x 0 d.start,w.length<=1000000000000:=λw hw=>by have:=z6a hk hw;omega
    have hM:=λhl=>HH (outW d x 0 d.start) (outW d x 0 d.start) hl hW;unfold runA outA at hR hR2;rw[Ah (by simp[hq]),Ah (by omega)] at hR hR2;clear hW hk;generalize outW d x 0 d.start=W at *;have pW:=CI W;by_cases hle:W.length<=(200:Int).toNat
    ·rw[Ai hle] at hR hR2
     have hM:=hM (by omega);rw[Ba rfl] at hM;refine BV Dc ?_;unfold CJ;(with_reducible repeat'(first|(simp(disch:=omega)only[push_cast,↓zz,seval,pR,pF,pcR,pcF,pX,pW])|refine Aa ?_ ?_|(first|refine Ac ?_ ?_|refine Ab ?_ ?_)<;>intro hc<;>(try simp only[push_cast] at hc)|refine eK hM ?_|refine eQ hM ?_|refine eG hM ?_|refine eK hA ?_|refine eQ hA ?_|refine eG hA ?_|refine eK hS ?_|refine eQ hS ?_|refine eK hT ?_|refine eQ hT ?_|refine eK hR ?_|refine eQ hR ?_|refine eK hR2 ?_|refine eQ hR2 ?_|refine eK hC ?_|refine eQ hC ?_|refine eK hFr ?_|refine eQ hFr ?_|((first|refine cK hM ?_|refine cQ hM ?_|refine cG hM ?_|refine cK hA ?_|refine cQ hA ?_|refine cG hA ?_);(simp(disch:=omega)only[push_cast,↓zz,seval,pR,pF,pcR,pcF,pX,pW]);(fail_if_success change False))|omega|intro _))
    ·rw[Ah hle] at hR hR2
     have hM:=HH [] [] (by simp) (by simp);rw[Ba rfl] at hM;refine BV Dc ?_;unfold CJ;(with_reducible repeat'(first|(simp(disch:=omega)only[push_cast,↓zz,seval,pR,pF,pcR,pcF,pX])|refine Aa ?_ ?_|(first|refine Ac ?_ ?_|refine Ab ?_ ?_)<;>intro hc<;>(try simp only[push_cast] at hc)|refine eK hM ?_|refine eQ hM ?_|refine eG hM ?_|refine eK hA ?_|refine eQ hA ?_|refine eG hA ?_|refine eK hS ?_|refine eQ hS ?_|refine eK hT ?_|refine eQ hT ?_|refine eK hR ?_|refine eQ hR ?_|refine eK hR2 ?_|refine eQ hR2 ?_|refine eK hC ?_|refine eQ hC ?_|refine eK hFr ?_|refine eQ hFr ?_|((first|refine cK hM ?_|refine cQ hM ?_|refine cG hM ?_|refine cK hA ?_|refine cQ hA ?_|refine cG hA ?_);(simp(disch:=omega)only[push_cast,↓zz,seval,pR,pF,pcR,pcF,pX]);(fail_if_success change False))|omega|intro _))
   ·unfold runA at hR hR2
    rw[Ai hq] at hR hR2;generalize askV d x=k at *;have hM:=HH [] [] (by simp) (by simp);rw[Ba rfl] at hM;refine BV Dc ?_;unfold CJ;(with_reducible repeat'(first|(simp(disch:=omega)only[push_cast,↓zz,seval,pR,pF,pcR,pcF,pX])|refine Aa ?_ ?_|(first|refine Ac ?_ ?_|refine Ab ?_ ?_)<;>intro hc<;>(try simp only[push_cast] at hc)|refine eK hM ?_|refine eQ hM ?_|refine eG hM ?_|refine eK hA ?_|refine eQ hA ?_|refine eG hA ?_|refine eK hS ?_|refine eQ hS ?_|refine eK hT ?_|refine eQ hT ?_|refine eK hR ?_|refine eQ hR ?_|refine eK hR2 ?_|refine eQ hR2 ?_|refine eK hC ?_|refine eQ hC ?_|refine eK hFr ?_|refine eQ hFr ?_|((first|refine cK hM ?_|refine cQ hM ?_|refine cG hM ?_|refine cK hA ?_|refine cQ hA ?_|refine cG hA ?_);(simp(disch:=omega)only[push_cast,↓zz,seval,pR,pF,pcR,pcF,pX]);(fail_if_success change False))|omega|intro _))
 ·have hT:=Vm d hsh.fin h
  refine BV Dc ?_;unfold CJ;(with_reducible repeat'(first|(simp(disch:=omega)only[push_cast,↓zz,seval,pR,pF,pX])|refine Aa ?_ ?_|(first|refine Ac ?_ ?_|refine Ab ?_ ?_)<;>intro hc<;>(try simp only[push_cast] at hc)|refine eK hS ?_|refine eQ hS ?_|refine eG hS ?_|refine eK hT ?_|refine eQ hT ?_|refine eG hT ?_|refine eK hA ?_|refine eQ hA ?_|refine eG hA ?_|((first|refine cK hS ?_|refine cQ hS ?_|refine cG hS ?_|refine cK hT ?_|refine cQ hT ?_|refine cG hT ?_|refine cK hA ?_|refine cQ hA ?_|refine cG hA ?_);(simp(disch:=omega)only[push_cast,↓zz,seval,pR,pF,pX]);(fail_if_success change False))|omega|intro _))
  all_goals trace_state
set_option maxRecDepth 100000
def ladE(i:Nat):List Rule:=[⟨i,i+1,[],0,[conT 120]⟩,⟨i,i+1,[],0,[conT 121]⟩]
def ladR(k:Nat):List Rule:=(List.range k).flatMap ladE
def ladD(k:Nat):Desc:=⟨1,1,k+1,0,ladR k,[⟨k,[],[]⟩]⟩
theorem Lp(k:Nat):ladR (k+1)=ladR k++ladE k:=by simp[ladR,Cq]
theorem Hs(k:Nat):(ladR k).length=2 * k:=by
 induction k with
 |zero=>rfl
 |succ k ih=>rw[Lp,Ak,ih];simp[ladE];omega
theorem FK{k:Nat}{r:Rule}:r∈ladR k↔∃i,i<k/\(r=⟨i,i+1,[],0,[conT 120]⟩\/r=⟨i,i+1,[],0,[conT 121]⟩):=by
 simp[ladR,ladE,Cn]
theorem RF{k:Nat}:∀r∈ladR k,(0<=r.from_/\r.from_<((k+1:Nat):Int))/\0<=r.to_/\r.to_<((k+1:Nat):Int):=λr hr=>by
 obtain⟨i,hi,rfl|rfl⟩:=FK.1 hr
 all_goals (simp only;omega)
theorem IR(k:Nat):¬cycP (ladR k) (k+1):=by
 rintro⟨C,hC,j,hj⟩
 have key:∀m:Nat,¬C (m:Int):=λm=>by
  induction m with
  |zero =>
   intro h;obtain⟨_,r,hr,he,ht,_⟩:=hC _ h;obtain⟨i,hi,rfl|rfl⟩:=FK.1 hr<;>(simp only at ht;omega)
  |succ m ih =>
   intro h;obtain⟨_,r,hr,he,ht,hf⟩:=hC _ h;obtain⟨i,hi,rfl|rfl⟩:=FK.1 hr
   all_goals
    simp only at ht hf;obtain rfl:i=m:=by omega
    exact ih hf
 have hr:=(hC j hj).1;exact key j.toNat (by rw[BG hr.1];exact hj)
def allX:Nat->List (List Int)
 |0=>[[]]
 |m+1=>(allX m).map (120::·)++(allX m).map (121::·)
theorem XW(m:Nat):(allX m).length=2 ^ m:=by
 induction m with
 |zero=>rfl
 |succ m ih=>rw[allX,Ak,AM,AM,ih,Nat.pow_succ];omega
theorem z6d(m:Nat):O8 (allX m):=by
 induction m with
 |zero=>exact D4 _ _
 |succ m ih =>
  have one:∀c:Int,((allX m).map (c::·)).Pairwise λa b=>ltW a b=true:=λc=>List.Pairwise.map _ (λa b h=>by
   show ltW (c::a) (c::b)=true
   rw[ltW,Ah (Int.lt_irrefl _),Ah (Int.lt_irrefl _)];exact h) ih
  refine Dt.2 ⟨one 120,one 121,λa ha b hb=>?_⟩;obtain⟨u,_,rfl⟩:=Aq.1 ha;obtain⟨v,_,rfl⟩:=Aq.1 hb;rfl
theorem MR{c:Int}(h:0<=c/\c<=1114111):D9 [conT c] []=[c]:=by
 simp only[D9,BB,BF];rw[TJ h rfl];show [IntKind.i32.wrap c]=_;rw[IntWalk.i32_in _ (by omega)]
theorem zho(k:Nat):∀(m s:Nat),s+m=k->∀w,RelW (ladD k) [] 0 (s:Nat) w↔w∈allX m:=by
 intro m
 induction m with
 |zero =>
  intro s hs w;rw[MO];constructor
  ·rintro (⟨f,hf,_,_,rfl⟩|⟨r,hr,hf,_⟩)
   ·simp only[ladD,As] at hf
    subst hf;simp[allX,EC,D9]
   ·exfalso
    obtain⟨i,hi,rfl|rfl⟩:=FK.1 (show r∈ladR k from hr)<;>(simp only at hf;omega)
  ·intro hw
   obtain rfl:w=[]:=by simpa [allX] using hw
   exact .inl ⟨⟨k,[],[]⟩,by simp[ladD],by simp only;omega,⟨rfl,rfl⟩,rfl⟩
 |succ m ih =>
  intro s hs w;have ih:=ih (s+1) (by omega);have h0:∀out:List Term,EC [] out [] 0=D9 out []:=λout=>by simp[EC]
  rw[MO,allX,Au,Aq,Aq];constructor
  ·rintro (⟨f,hf,hff,_,rfl⟩|⟨r,hr,hf,_,v,hv,rfl⟩)
   ·exfalso
    simp only[ladD,As] at hf;subst hf;simp only at hff;omega
   ·obtain⟨i,hi,rfl|rfl⟩:=FK.1 (show r∈ladR k from hr)
    ·obtain rfl:i=s:=by simp only at hf;omega
     refine .inl ⟨v,(ih v).1 ?_,?_⟩
     ·have:((i+1:Nat):Int)=(i:Int)+1:=by omega
      rw[this];exact hv
     ·simp only;rw[h0,MR (by decide)];rfl
    ·obtain rfl:i=s:=by simp only at hf;omega
     refine .inr ⟨v,(ih v).1 ?_,?_⟩
     ·have:((i+1:Nat):Int)=(i:Int)+1:=by omega
      rw[this];exact hv
     ·simp only;rw[h0,MR (by decide)];rfl
  ·have e1:((s+1:Nat):Int)=(s:Int)+1:=by omega
   rintro (⟨v,hv,rfl⟩|⟨v,hv,rfl⟩)
   ·refine .inr ⟨⟨s,s+1,[],0,[conT 120]⟩,FK.2 ⟨s,by omega,.inl rfl⟩,rfl,rfl,v,?_,?_⟩
    ·have:=(ih v).2 hv
     rw[e1] at this;exact this
    ·simp only;rw[h0,MR (by decide)];rfl
   ·refine .inr ⟨⟨s,s+1,[],0,[conT 121]⟩,FK.2 ⟨s,by omega,.inr rfl⟩,rfl,rfl,v,?_,?_⟩
    ·have:=(ih v).2 hv
     rw[e1] at this;exact this
    ·simp only;rw[h0,MR (by decide)];rfl
theorem z6e(k:Nat):outW (ladD k) [] 0 (ladD k).start=allX k:=z5f ⟨z6d k,λw=>((zho k k 0 (by omega)) w).symm⟩
theorem z6f{k:Nat}(hk:k<=13):Ew (ladD k)=0:=by
 have hin:(ladD k).in_=1:=rfl;have hout:(ladD k).out=1:=rfl;have hst:(ladD k).states=(k:Int)+1:=rfl;have hs0:(ladD k).start=0:=rfl;have hrl:(ladD k).rules.length=2 * k:=Hs k;have hfl:(ladD k).finals.length=1:=rfl
 have hs:∀i:Int,0<=i->i<=k->I1 (ladD k) i=true:=λi h1 h2=>by
  simp only[I1,hst,Ad,Aj];omega
 refine (Ky ?_ (λr hr=>?_) (λf hf=>?_) ?_).2
 ·have h0:=hs 0 (by omega) (by omega)
  rw[<-hs0] at h0;simp only[OT,Ad,Aj,hin,hout,hst,hrl,hfl];exact⟨by decide,by decide,by omega,by omega,h0,by omega,by decide⟩
 ·obtain⟨i,hi,rfl|rfl⟩:=FK.1 (show r∈ladR k from hr)
  ·simp only[Hq,G9,Ad,List.all_cons,List.all_nil,hin,hout]
   exact⟨hs _ (by omega) (by omega),hs _ (by omega) (by omega),rfl,rfl,rfl,MN (by decide) (by decide) (by decide) (by decide),trivial⟩
  ·simp only[Hq,G9,Ad,List.all_cons,List.all_nil,hin,hout]
   exact⟨hs _ (by omega) (by omega),hs _ (by omega) (by omega),rfl,rfl,rfl,MN (by decide) (by decide) (by decide) (by decide),trivial⟩
 ·simp only[ladD,As] at hf
  subst hf;simp only[GA,Ad];exact⟨hs _ (by omega) (by omega),rfl,rfl⟩
 ·have:(ladD k).states.toNat=k+1:=by rw[hst];omega
  rw[this];exact IR k
theorem z6g(k:Nat):GB (ladD k):=by
 refine⟨λr hr t ht=>?_,λf hf t ht=>?_⟩
 ·obtain⟨i,hi,rfl|rfl⟩:=FK.1 (show r∈ladR k from hr)<;>(simp only[As] at ht;subst ht;decide)
 ·simp only[ladD,As] at hf
  subst hf;cases ht
theorem LO{k s:Nat}:epsI (ladR k) s=if s<k then [2 * s,2 * s+1] else []:=by
 induction k with
 |zero=>simp[epsI,ladR]
 |succ k ih =>
  have hn:∀i,i<2 * k->nth (ladR (k+1)) i=nth (ladR k) i:=λi hi=>by
   rw[Lp];simp[nth,List.getD,AE (show i<(ladR k).length by rw[Hs];exact hi)]
  have h0:nth (ladR (k+1)) (2 * k)=⟨k,k+1,[],0,[conT 120]⟩:=by
   rw[Lp];simp[nth,List.getD,AG (show (ladR k).length<=2 * k by rw[Hs];exact Ae _),Hs,ladE]
  have h1:nth (ladR (k+1)) (2 * k+1)=⟨k,k+1,[],0,[conT 121]⟩:=by
   rw[Lp];simp[nth,List.getD,AG (show (ladR k).length<=2 * k+1 by rw[Hs];omega),Hs,ladE]
  have e:epsI (ladR (k+1)) s=epsI (ladR k) s++(if (k:Int)=s then [2 * k,2 * k+1] else []):=by
   simp only[epsI];rw[Hs,Hs,show 2 * (k+1)=2 * k+1+1 by omega,Cq,Cq,BM,BM]
   have f1:(List.range (2 * k)).filter (λi=>Cy (nth (ladR (k+1)) i)&&decide ((nth (ladR (k+1)) i).from_=(s:Int)))=(List.range (2 * k)).filter (λi=>Cy (nth (ladR k) i)&&decide ((nth (ladR k) i).from_=(s:Int))) :=
    List.filter_congr λi hi=>by rw[hn i (Bo.1 hi)]
   rw[f1,Aw];congr 1;simp only[BH,List.filter_nil,h0,h1];by_cases hks:(k:Int)=s
   ·simp[hks,Cy]
   ·simp[hks,Cy]
  rw[e,ih];by_cases h:s<k
  ·rw[Ai h,Ah (by omega),Ai (by omega),A8]
  ·rw[Ah h]
   by_cases h2:s=k
   ·subst h2;simp
   ·rw[Ah (by omega),Ah (by omega)];rfl
theorem z6h(k:Nat):∀(m s:Nat),s+m=k->(Kz (ladR k) (k+1) s).length=2 ^ (m+1)-1:=by
 have hnx:∀s,s<k->(nth (ladR k) (2 * s)).to_=((s+1:Nat):Int)/\(nth (ladR k) (2 * s+1)).to_=((s+1:Nat):Int):=λs hs=>by
  have h:=LO (k:=k) (s:=s);rw[Ai hs] at h;have m1:2 * s∈epsI (ladR k) s:=by rw[h];simp
  have m2:2 * s+1∈epsI (ladR k) s:=by rw[h];simp
  obtain⟨a1,_,a3⟩:=FJ.1 m1;obtain⟨b1,_,b3⟩:=FJ.1 m2;obtain⟨i,_,hi⟩:=FK.1 (B2 a1);obtain⟨j,_,hj⟩:=FK.1 (B2 b1);constructor
  ·rcases hi with hi|hi<;>(rw[hi] at a3 ⊢;simp only at a3 ⊢;omega)
  ·rcases hj with hj|hj<;>(rw[hj] at b3 ⊢;simp only at b3 ⊢;omega)
 intro m
 induction m with
 |zero =>
  intro s hs;rw[Rs RF (IR k) (by omega),LO,Ah (by omega)];rfl
 |succ m ih =>
  intro s hs;have ih:=ih (s+1) (by omega);obtain⟨n1,n2⟩:=hnx s (by omega);rw[Rs RF (IR k) (by omega),LO,Ai (by omega)];simp only[BJ,List.flatMap_nil,List.length_cons,Ak,AM,List.length_nil,n1,n2,ih];have:2 ^ (m+1+1)=2 * 2 ^ (m+1):=by rw[Nat.pow_succ];omega
  have hp:=Nat.two_pow_pos (m+1);omega
set_option maxRecDepth 100000
end Go.Proofs.YtbcjoeadpjfcfaaGreat
set_option maxRecDepth 100000
namespace Go.Proofs.YtbcjoeadpjfcfaaGreat
open Abs
theorem zbx{d:Desc}{x:List Int}{mo:Nat}(h:askV d x=0)(h1:1<=mo)(hle:(outW d x 0 d.start).length<=mo):runA d x mo=.tup [Hl (outW d x 0 d.start),.int .i64 0]:=by
 unfold runA outA;rw[Ah (by simp[h]),Ah (by omega),Int.toNat_natCast,Ai hle]
set_option maxRecDepth 100000
theorem z6i(k:Nat):∀j,j<=k+1->cumW (ladR k) (k+1) j+2 ^ (k+2-j)+j=2 ^ (k+2):=by
 intro j
 induction j with
 |zero=>intro _;rw[La];simp
 |succ j ih =>
  intro hj;have ih:=ih (by omega);have h1:=z6h k (k-j) j (by omega);have e:2 ^ (k+2-j)=2 * 2 ^ (k+2-(j+1)):=by rw[show k+2-j=k+2-(j+1)+1 by omega,Nat.pow_succ];omega
  rw[show k-j+1=k+2-(j+1) by omega] at h1;have hp:=Nat.two_pow_pos (k+2-(j+1));rw[Jy,h1];omega
theorem XX(k s0:Nat):∀(m s:Nat)(out:List Term),s+m=k->((wayL (ladR k) (k+1) s out).flatMap (frF (ladD k) s0)).length=2 ^ m/\∀f∈(wayL (ladR k) (k+1) s out).flatMap (frF (ladD k) s0),f.out.length<=out.length+m:=by
 have hnx:∀s,s<k->((nth (ladR k) (2 * s)).to_=((s+1:Nat):Int)/\(nth (ladR k) (2 * s)).out.length=1)/\(nth (ladR k) (2 * s+1)).to_=((s+1:Nat):Int)/\(nth (ladR k) (2 * s+1)).out.length=1:=λs hs=>by
  have h:=LO (k:=k) (s:=s);rw[Ai hs] at h;have m1:2 * s∈epsI (ladR k) s:=by rw[h];simp
  have m2:2 * s+1∈epsI (ladR k) s:=by rw[h];simp
  obtain⟨a1,_,a3⟩:=FJ.1 m1;obtain⟨b1,_,b3⟩:=FJ.1 m2;obtain⟨i,_,hi⟩:=FK.1 (B2 a1);obtain⟨j,_,hj⟩:=FK.1 (B2 b1);constructor
  ·rcases hi with hi|hi<;>(rw[hi] at a3 ⊢;simp only at a3 ⊢;exact⟨by omega,rfl⟩)
  ·rcases hj with hj|hj<;>(rw[hj] at b3 ⊢;simp only at b3 ⊢;exact⟨by omega,rfl⟩)
 have hfr:∀(t:Nat)(out:List Term),frF (ladD k) s0 ((t:Int),out)=if t=k then [⟨s0,[],out⟩] else []:=λt out=>by
  simp only[frF,fiF,ladD,Int.toNat_natCast,BH,List.filter_nil,Ax];by_cases h:t=k
  ·subst h;simp
  ·rw[Ah h,Ah (by simp;omega)];rfl
 intro m
 induction m with
 |zero =>
  intro s out hs;rw[Vf RF (IR k) (by omega),LO,Ah (by omega)];simp only[BJ,List.flatMap_nil,A8,hfr];rw[Ai (by omega)];exact⟨rfl,λf hf=>by rw[As.1 hf];simp⟩
 |succ m ih =>
  intro s out hs;obtain⟨⟨n1,l1⟩,n2,l2⟩:=hnx s (by omega);rw[Vf RF (IR k) (by omega),LO,Ai (by omega)];simp only[BJ,List.flatMap_nil,A8,hfr,n1,n2,BU];rw[Ah (by omega),List.nil_append];obtain⟨p1,p2⟩:=ih (s+1) (out++(nth (ladR k) (2 * s)).out) (by omega);obtain⟨q1,q2⟩:=ih (s+1) (out++(nth (ladR k) (2 * s+1)).out) (by omega);refine⟨by rw[Ak,p1,q1,Nat.pow_succ];omega,λf hf=>?_⟩;rcases Au.1 hf with h|h
  ·have:=p2 f h
   rw[Ak,l1] at this;omega
  ·have:=q2 f h
   rw[Ak,l2] at this;omega
theorem ZN(k:Nat):∀j,j<=k+1->(accL (λs:Nat=>wayL (ladR k) (k+1) s []) (frF (ladD k)) j).length+2 ^ (k+1-j)=2 ^ (k+1):=by
 intro j
 induction j with
 |zero=>intro _;simp[accL]
 |succ j ih =>
  intro hj;have ih:=ih (by omega);have h1:=(XX k j (k-j) j [] (by omega)).1;have e:2 ^ (k+1-j)=2 * 2 ^ (k+1-(j+1)):=by rw[show k+1-j=k+1-(j+1)+1 by omega,Nat.pow_succ];omega
  rw[show k-j=k+1-(j+1) by omega] at h1;rw[Lg,accJ,AH,Ak,h1];omega
theorem XY(k:Nat)(hk:k<=13):(Ey (ladD k) (k+1)).rules=[]/\(Ey (ladD k) (k+1)).finals.length=2 ^ (k+1)-1/\On (Ey (ladD k) (k+1))<=64:=by
 have hr:(Ey (ladD k) (k+1)).rules=[]:=List.eq_nil_iff_forall_not_mem.2 λr hr=>by
  obtain⟨_,_,_,_,r0,h0,he,_⟩:=Lk hr;obtain⟨i,_,rfl|rfl⟩:=FK.1 (show r0∈ladR k from h0)<;>simp[Cy] at he
 refine⟨hr,?_,?_⟩
 ·have h:=ZN k (k+1) (Ae _)
  rw[Nat.sub_self,Nat.pow_zero] at h;show (accL (λs:Nat=>wayL (ladR k) (k+1) s []) (frF (ladD k)) (k+1)).length=_;omega
 ·rw[X7,Few,hr]
  refine⟨λr hr=>(by cases hr),λf hf=>?_⟩;obtain⟨s,hs,w,hw,hf⟩:=MM (show f∈accL (λs:Nat=>wayL (ladR k) (k+1) s []) (frF (ladD k)) (k+1) from hf);have:=(XX k s (k-s) s [] (by omega)).2 f (Cn.2 ⟨w,hw,hf⟩);simp only[List.length_nil] at this;omega
theorem zcy(k:Nat)(hk:k<=13):HD (ladD k) (k+1)=decide (2 ^ (k+2)<=4096+k+3):=by
 obtain⟨h1,h2,h3⟩:=XY k hk;have h4:=z6i k (k+1) (Ae _);rw[show k+2-(k+1)=1 by omega] at h4;have hp:2 ^ (k+2)=2 * 2 ^ (k+1):=by rw[Nat.pow_succ];omega
 have hc:cumW (ladD k).rules (k+1) (k+1)=cumW (ladR k) (k+1) (k+1):=rfl;unfold HD;rw[hc,Ba h3,Fl,h1,h2];by_cases h:2 ^ (k+2)<=4096+k+3
 ·rw[Ba h,Ba (by omega),Ba ⟨by simp,by omega⟩];rfl
 ·rw[By h,By (by omega)];rfl
def ladN(i:Nat)(c:Int):AV:=.agg [.int .i64 i,.int .i64 ((i:Int)+1),.nilS,.int .i64 0,.lst 6 [.agg [.int .i64 0,.int .i64 0,.int .i64 21,.int .i64 0,.int .i64 c,.nilS]]]
def ladL(i:Nat):List AV:=(List.range i).flatMap λj=>[ladN j 120,ladN j 121]
theorem OI(i:Nat):ladL (i+1)=ladL i++[ladN i 120,ladN i 121]:=by simp[ladL,Cq]
theorem XZ(i:Nat):(ladL i).length=2 * i:=by
 induction i with
 |zero=>rfl
 |succ i ih=>rw[OI,Ak,ih];simp;omega
theorem z6j(i:Nat):AT (ladL i)=true:=by
 induction i with
 |zero=>rfl
 |succ i ih=>rw[OI,Jf,ih];rfl
abbrev ladV(k:Nat):AV:=.agg [.int .i64 1,.int .i64 1,.int .i64 ((k:Int)+1),.int .i64 0,.lst 5 (ladL k),.lst 3 [.agg [.int .i64 k,.nilS,.nilS]]]
theorem z6k(k:Nat):AV.le (ladV k) (Dm (ladD k)):=by
 refine AV.le_agg (Bp (AV.le_refl _) (Bp (AV.le_refl _) (Bp (AV.le_refl _) (Bp (AV.le_refl _) (Bp (AV.le_lst ?_ (B8 _) ?_) (Bp (AV.le_lst rfl (B6 _) ?_) E1))))))
 ·rw[XZ,AM];exact (Hs k).symm
 ·have one:∀(i:Nat)(c:Int),AV.le (ladN i c) (D6 ⟨i,i+1,[],0,[conT c]⟩):=λi c=>AV.le_agg (Bp (AV.le_refl _) (Bp (AV.le_refl _) (Bp (AV.le_nilS (by decide)) (Bp (AV.le_refl _) (Bp (Vp c) E1)))))
  have key:∀q:List Nat,leL (q.flatMap λj=>[ladN j 120,ladN j 121]) ((q.flatMap ladE).map D6):=λq=>by
   induction q with
   |nil=>exact E1
   |cons i q ih=>exact Bp (one i 120) (Bp (one i 121) ih)
  exact key (List.range k)
 ·exact Bp (AV.le_agg (Bp (AV.le_refl _) (Bp (AV.le_nilS (by decide)) (Bp (AV.le_nilS (by decide)) E1)))) E1
set_option maxHeartbeats 1000000 in
theorem LP(n:Int)(hn:0<=n/\n<=255):PC Tryz.prog 12 [.int .u8 n] (.bool true):=by
 have hA:=O7;have hm:n.tmod 14=n % 14:=Int.tmod_eq_emod_of_nonneg hn.1;obtain⟨k,hk⟩:∃k:Nat,n.tmod 14=k:=⟨(n.tmod 14).toNat,by rw[hm];omega⟩;have hk13:k<=13:=by rw[hm] at hk;omega
 have hch:=z6f hk13;have hst:(ladD k).states=((k+1:Nat):Int):=by show (k:Int)+1=_;omega
 have hW:=Xw (ladD k) (z6g k) hch hst (IR k);have hF:=R2 (ladD k) (z6g k) hch hst (IR k);rw[zcy k hk13] at hF;have h4:=z6i k (k+1) (Ae _);rw[show k+2-(k+1)=1 by omega] at h4;have hc:cumW (ladD k).rules (k+1) (k+1)=cumW (ladR k) (k+1) (k+1):=rfl;rw[hc] at hW;generalize cumW (ladR k) (k+1) (k+1)=cu at *;have hW:=Jg hW (Bp (z6k k) E1);have hF:=Jg hF (Bp (z6k k) E1);refine z4r Jh ?_;unfold Ha;refine Q8 (W_T ?_);(with_reducible repeat'(first|(simp(disch:=omega)only[push_cast,↓zz,seval,hk])|refine Aa ?_ ?_|(first|refine Ac ?_ ?_|refine Ab ?_ ?_)<;>intro hc<;>(try simp only[push_cast] at hc)|omega|intro _));refine Q8 (W_T ?_);(with_reducible repeat'(first|(simp(disch:=omega)only[push_cast,↓zz,seval,hk])|refine Aa ?_ ?_|(first|refine Ac ?_ ?_|refine Ab ?_ ?_)<;>intro hc<;>(try simp only[push_cast] at hc)|omega|intro _));refine Q8 (W_T ?_);(with_reducible repeat'(first|(simp(disch:=omega)only[push_cast,↓zz,seval,hk])|refine Aa ?_ ?_|(first|refine Ac ?_ ?_|refine Ab ?_ ?_)<;>intro hc<;>(try simp only[push_cast] at hc)|omega|intro _));refine Q8 (W_T ?_);(with_reducible repeat'(first|(simp(disch:=omega)only[push_cast,↓zz,seval,hk])|refine Aa ?_ ?_|(first|refine Ac ?_ ?_|refine Ab ?_ ?_)<;>intro hc<;>(try simp only[push_cast] at hc)|omega|intro _));refine Q8 (W_T ?_);(with_reducible repeat'(first|(simp(disch:=omega)only[push_cast,↓zz,seval])|refine Aa ?_ ?_|(first|refine Ac ?_ ?_|refine Ab ?_ ?_)<;>intro hc<;>(try simp only[push_cast] at hc)|omega|intro _))
 refine B4 (BK (λ(i:Nat)=>i<=k) (λi=>k-i)
  (λi=>[(3,.int .i64 k),(4,.ptr 0 1 0 0),(5,.int .i64 0),(6,.int .i64 i)])
  (λi=>[⟨6,1,true,[.agg [.int .i64 1,.int .i64 1,.int .i64 ((k:Int)+1),.int .i64 0,.ref 1 1 0 (ladL i).length,.lst 3 [.agg [.int .i64 k,.nilS,.nilS]]]]⟩,⟨5,1,false,ladL i⟩]) (λenv H=>[C0 6 (env 4),C0 5 (cellAt H (env 4) 4)]) 0 (AD _) ?_ ?_)
 ·have e0:ladL 0=[]:=rfl
  (with_reducible repeat'(first|(simp(disch:=omega)only[push_cast,↓zz,seval,e0])|refine Aa ?_ ?_|(first|refine Ac ?_ ?_|refine Ab ?_ ?_)<;>intro hc<;>(try simp only[push_cast] at hc)|omega|intro _))
 intro i hi;have hls:=OI i;have hll:=XZ i;have pL:=z6j i;rcases An i k with him|him
 ·have hn1:ladN i 120=.agg [.int .i64 i,.int .i64 ((i:Int)+1),.nilS,.int .i64 0,.lst 6 [.agg [.int .i64 0,.int .i64 0,.int .i64 21,.int .i64 0,.int .i64 120,.nilS]]]:=rfl
  have hn2:ladN i 121=.agg [.int .i64 i,.int .i64 ((i:Int)+1),.nilS,.int .i64 0,.lst 6 [.agg [.int .i64 0,.int .i64 0,.int .i64 21,.int .i64 0,.int .i64 121,.nilS]]]:=rfl;generalize ladL i=K at *;refine W_T ?_;(with_reducible repeat'(first|(simp(disch:=omega)only[push_cast,↓zz,seval,pL])|refine Aa ?_ ?_|(first|refine Ac ?_ ?_|refine Ab ?_ ?_)<;>intro hc<;>(try simp only[push_cast] at hc)|omega|intro _))
  all_goals
   refine⟨i+1,?_⟩;(with_reducible repeat'(first|(simp(disch:=omega)only[push_cast,↓zz,seval,hls,pL,hn1,hn2])|refine Aa ?_ ?_|(first|refine Ac ?_ ?_|refine Ab ?_ ?_)<;>intro hc<;>(try simp only[push_cast] at hc)|omega|intro _))
 obtain rfl:i=k:=by omega
 clear hls;refine W_T ?_;(with_reducible repeat'(first|(simp(disch:=omega)only[push_cast,↓zz,seval,pL])|refine Aa ?_ ?_|(first|refine Ac ?_ ?_|refine Ab ?_ ?_)<;>intro hc<;>(try simp only[push_cast] at hc)|omega|intro _));refine Jr (PD (l':=[⟨6,1,true,[ladV i]⟩,⟨0,2,false,[]⟩]) (g:=0) (d:=8) [1] (by decide) (by simp) rfl (by decide) ?_ ?_) (W_T ?_)
 ·(simp(disch:=omega)only[push_cast,↓zz,seval,pL])
 ·(simp(disch:=omega)only[push_cast,↓zz,seval,pL])
 obtain⟨v,hv⟩:∃v:Nat->Nat,∀j,v j+2+j=2 ^ (j+1):=⟨λj=>2 ^ (j+1)-2-j,λj=>by have:j+1<2 ^ (j+1):=Nat.lt_two_pow_self;simp only;omega⟩;have hz:∀j,j<=i->(2 ^ (j+1):Nat)<=16384:=λj h=>Bm (Cx (by omega) (show j+1<=14 by omega)) (by decide);have v0:v 0=0:=by have:=hv 0;simp at this;omega
 (with_reducible repeat'(first|(simp(disch:=omega)only[push_cast,↓zz,seval])|refine Aa ?_ ?_|(first|refine Ac ?_ ?_|refine Ab ?_ ?_)<;>intro hc<;>(try simp only[push_cast] at hc)|omega|intro _))
 refine B4 (BK (λ(j:Nat)=>j<=i+1) (λj=>i+1-j)
  (λj=>[(3,.int .i64 i),(4,.ptr 0 1 0 0),(5,.int .i64 (v j)),(7,.int .i64 j)])
  (λ_=>[⟨6,1,true,[ladV i]⟩]) (λenv H=>[C0 6 (env 4)]) 0 (AD _) ?_ ?_)
 ·(with_reducible repeat'(first|(simp(disch:=omega)only[push_cast,↓zz,seval,pL,v0])|refine Aa ?_ ?_|(first|refine Ac ?_ ?_|refine Ab ?_ ?_)<;>intro hc<;>(try simp only[push_cast] at hc)|omega|intro _))
 intro j hj;rcases An j (i+1) with hji|hji
 ·have hle:=hz j (by omega)
  have h1:=hv j;have h2:=hv (j+1);rw[Nat.pow_succ] at h2
  have hsh:IntKind.i64.wrap (1 * 2 ^ min (j+1) IntKind.i64.bits)=((2 ^ (j+1):Nat):Int):=by
   rw[show min (j+1) IntKind.i64.bits=j+1 from CW (by have:IntKind.i64.bits=64:=rfl;omega),show (1:Int) * 2 ^ (j+1)=((2 ^ (j+1):Nat):Int) by rw[G4];push_cast;first|done|rfl];exact IntWalk.i64_in _ (by omega)
  generalize 2 ^ (j+1)=p at *;have hv1:v (j+1)=v j+p-1:=by omega
  refine W_T ?_;(with_reducible repeat'(first|(simp(disch:=omega)only[push_cast,↓zz,seval,pL,hsh])|refine Aa ?_ ?_|(first|refine Ac ?_ ?_|refine Ab ?_ ?_)<;>intro hc<;>(try simp only[push_cast] at hc)|omega|intro _))
  all_goals
   refine⟨j+1,?_⟩;(with_reducible repeat'(first|(simp(disch:=omega)only[push_cast,↓zz,seval,pL,hv1])|refine Aa ?_ ?_|(first|refine Ac ?_ ?_|refine Ab ?_ ?_)<;>intro hc<;>(try simp only[push_cast] at hc)|omega|intro _))
 obtain rfl:j=i+1:=by omega
 have h5:=hv (i+1);have hcu:v (i+1)=cu:=by rw[show i+1+1=i+2 from rfl] at h5;omega
 rw[hcu];have hpn:(Ey (ladD i) (i+1)).finals.length=2 ^ (i+1)-1:=(XY i hk13).2.1;by_cases hle:cu<=4096
 ·rw[Ai hle] at hW
  rw[Ba (by omega),Ai rfl] at hF;have hok:HD (ladD i) (i+1)=true:=by rw[zcy i hk13];exact Ba (by omega)
  obtain⟨n,hn,_,_,_,hll⟩:=wf_n hch;obtain rfl:n=i+1:=by omega
  have hcf:=LN hch hst (IR i) hll hok;have hd0:askV (ladD i) []=0:=RE.2 ⟨hch,by simp,rfl⟩;have hq2:2 ^ (i+1)=2 * 2 ^ i:=by rw[Nat.pow_succ];omega
  have hq3:2 ^ (i+1+1)=2 * 2 ^ (i+1):=by rw[Nat.pow_succ];omega
  have hR2:=J7 (Ey (ladD i) (i+1)) [] (TH hcf) (by simp) (by simp) ((10000:Nat):Int) (by omega) λ_=>Bm (Gv _ _) (by decide);rw[XV hch hst (IR i) hok,zbx hd0 (by decide) (by rw[z6e,XW];omega),z6e,show ((10000:Nat):Int)=10000 from rfl] at hR2;have pcR:=B8 (Ey (ladD i) (i+1)).rules;have pcF:=B6 (Ey (ladD i) (i+1)).finals;have pW:=CI (allX i);have hal:=XW i
  have hsh:∀m,m<=i+1->IntKind.i64.wrap (1 * 2 ^ min m IntKind.i64.bits)=((2 ^ m:Nat):Int):=λm hm=>by
   rw[show min m IntKind.i64.bits=m from CW (by have:IntKind.i64.bits=64:=rfl;omega),show (1:Int) * 2 ^ m=((2 ^ m:Nat):Int) by rw[G4];push_cast;first|done|rfl];have:(2:Nat) ^ m<=2 ^ (i+1):=Cx (by omega) hm;generalize (2:Nat) ^ m=z at *;exact IntWalk.i64_in _ (by omega)
  have hs1:=hsh i (by omega);have hs2:=hsh (i+1) (Ae _);clear hcf hd0 hll hok;generalize Ey (ladD i) (i+1)=c at *;generalize allX i=L at *;generalize 2 ^ (i+1)=p at *;generalize 2 ^ i=q at *;refine W_T ?_;(with_reducible repeat'(first|(simp(disch:=omega)only[push_cast,↓zz,seval,pL,pcR,pcF,pW,hs1,hs2,hpn,hal])|refine Aa ?_ ?_|(first|refine Ac ?_ ?_|refine Ab ?_ ?_)<;>intro hc<;>(try simp only[push_cast] at hc)|refine eK hR2 ?_|refine eQ hR2 ?_|refine eG hR2 ?_|refine eK hA ?_|refine eQ hA ?_|refine eG hA ?_|refine eK hW ?_|refine eQ hW ?_|refine eK hF ?_|refine eQ hF ?_|((first|refine cK hR2 ?_|refine cQ hR2 ?_|refine cG hR2 ?_|refine cK hA ?_|refine cQ hA ?_|refine cG hA ?_);(simp(disch:=omega)only[push_cast,↓zz,seval,pL,pcR,pcF,pW,hs1,hs2,hpn,hal]);(fail_if_success change False))|omega|intro _))
 rw[Ah hle] at hW;rw[By (by omega),Ah (by simp)] at hF;refine W_T ?_;(with_reducible repeat'(first|(simp(disch:=omega)only[push_cast,↓zz,seval,pL])|refine Aa ?_ ?_|(first|refine Ac ?_ ?_|refine Ab ?_ ?_)<;>intro hc<;>(try simp only[push_cast] at hc)|refine eK hW ?_|refine eQ hW ?_|refine eG hW ?_|refine eK hF ?_|refine eQ hF ?_|refine eG hF ?_|refine eK hA ?_|refine eQ hA ?_|refine eG hA ?_|((first|refine cK hW ?_|refine cQ hW ?_|refine cG hW ?_|refine cK hF ?_|refine cQ hF ?_|refine cG hF ?_|refine cK hA ?_|refine cQ hA ?_|refine cG hA ?_);(simp(disch:=omega)only[push_cast,↓zz,seval,pL]);(fail_if_success change False))|omega|intro _))
 all_goals trace_state
end Go.Proofs.YtbcjoeadpjfcfaaGreat
