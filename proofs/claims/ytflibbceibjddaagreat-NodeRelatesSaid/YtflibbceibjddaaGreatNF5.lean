/-
  Parts of the proof that the law holds whatever the input; without conditions.
-/
import Derived.Test.YtflibbceibjddaaGreatNF3
import Derived.Test.YtflibbceibjddaaGreatNF4
set_option linter.unusedSimpArgs false
set_option linter.unusedVariables false
set_option linter.unusedSectionVars false
namespace Go.Proofs.YtflibbceibjddaaGreat.Abs
open Go.RowKit Go.ChangeShapes Go.WideShapes
inductive La(fs:List Sh):List AV->Prop where
 |leaf (cs:List AV):IsL fs cs->La fs (cs++[.nilS])
 |node (cs:List AV) (xs:List (List AV)):IsL fs cs->xs.length<=maxLen->(∀y∈xs,La fs y)->La fs (cs++[.lst (fs.length+1) (xs.map .agg)])
theorem La.len{fs:List Sh}{cs:List AV}(h:La fs cs):cs.length=fs.length+1:=by
 cases h with
 |leaf cs h=>simp[RH h]
 |node cs xs h=>simp[RH h]
def Lb(P:Program)(fs:List Sh)(t:TypeId):Bool:=match P.underlying t with
 |some (.struct fl)=>P.cellsOf t == fs.length+1&&Kk P fs 0 (fl.toList.take fs.length)&&(match fl.toList.drop fs.length with
  |[f]=>f.offset == fs.length&&P.cellsOf f.type == 1&&(match P.underlying f.type with|some (.slice e)=>e == t|_=>false)
  |_=>false)
 |_=>false
section
variable {H:Type}{enc:TypeId × Value->H}{P:Program}{w:World}{base:Nat}{spare:Nat->Bool}{held:Bool}
def GotT(w:World)(fs:List Sh)(vs:List Value):Prop:=∃xs,La fs xs/\AB (MS.start w) xs vs/\Bh xs=true/\Ez xs=true
theorem AB.snoc{S:MS}:∀{xs:List AV}{vs:List Value}{x:AV}{v:Value},AB S xs vs->VRel S x v->AB S (xs++[x]) (vs++[v])
 |[],vs,x,v,h,hx=>by rw[show vs=[] from h];exact⟨v,[],rfl,hx,rfl⟩
 |y::xs,_,x,v,⟨u,r,rfl,h1,h2⟩,hx=>⟨u,r++[v],rfl,h1,AB.snoc h2 hx⟩
theorem Ku:∀{xs:List AV}{x:AV},Ez xs=true->x.one=true->Ez (xs++[x])=true
 |[],x,_,hx=>by simp[Ez,hx]
 |y::xs,x,h,hx=>by
  simp only[Ez,Ac] at h;simp[Ez,h.1,Ku h.2 hx]
theorem zj5{Q:List AV->Prop}{a:Addr}{len cap sz:Nat}(hQ:∀xs,Q xs->xs.length=sz)(hpos:0<sz)(hlc:len<=cap)(hcap:cap<=maxLen)
 (h:∀i,i<len->∃cs',w.cells? base (a.add (i * sz)) sz=some cs'/\∃xs,Q xs/\AB (MS.start w) xs cs'/\Bh xs=true/\Ez xs=true) :
 ∃ys:List (List AV),ys.length=len/\(∀y∈ys,Q y)/\VRel (MS.start w) (.lst sz (ys.map .agg)) (.slice (some a) len cap)/\Bh (ys.map .agg)=true:=by
 have h':∀i:Nat,∃p:List AV × List Value,i<len->(w.cells? base (a.add (i * sz)) sz=some p.2/\Q p.1/\AB (MS.start w) p.1 p.2/\Bh p.1=true/\Ez p.1=true):=by
  intro i;by_cases hi:i<len
  ·obtain⟨cs',h1,xs,h2,h3,h4,h5⟩:=h i hi
   exact⟨(xs,cs'),λ_=>⟨h1,h2,h3,h4,h5⟩⟩
  ·exact⟨([],[]),λh=>absurd h hi⟩
 obtain⟨p,hp⟩:=Classical.axiomOfChoice h'
 let ys:List (List AV):=(List.range len).map λi=>(p i).1
 let vs:List Value:=(List.range len).map λi=>.agg (p i).2.toArray
 have hxl:(ys.map AV.agg).length=len:=by simp[ys]
 have hvl:vs.length=len:=by simp[vs]
 have hxi:∀i,i<len->(ys.map AV.agg)[i]? = some (.agg (p i).1):=λi hi=>by simp[ys,hi]
 have hvi:∀i,i<len->vs[i]? = some (.agg (p i).2.toArray):=λi hi=>by simp[vs,hi]
 have hvs:AB (MS.start w) (ys.map .agg) vs:=AB.of_get (by rw[hxl,hvl]) λi x v hx hv=>by
  have hi:i<len:=by rw[<-hxl];exact (AI.1 hx).1
  rw[hxi i hi] at hx;rw[hvi i hi] at hv;cases hx;cases hv;exact⟨(p i).2,rfl,(hp i hi).2.2.1⟩
 have hpu:Bh (ys.map .agg)=true:=BZ.2 λx hx=>by
  obtain⟨y,hy,rfl⟩:=Ax.1 hx;obtain⟨i,hi,rfl⟩:=Ax.1 hy;have:=(hp i (Bq.1 hi)).2.2.2.1;simp[AV.pure,this]
 refine⟨ys,by simp[ys],λy hy=>?_,⟨hpu,hpos,some a,cap,vs,by rw[hxl],⟨by rw[hxl];exact hlc,λhn=>by cases hn⟩,hvs,λhne=>?_⟩,hpu⟩
 ·obtain⟨i,hi,rfl⟩:=Ax.1 hy
  exact (hp i (Bq.1 hi)).2.1
 ·have h0:0<len:=by rw[<-hxl];exact Db.2 hne
  obtain⟨b,o,spot⟩:=a
  have hcell:∀i,i<len->∀j,j<sz->w.cell? ((⟨b,o,spot⟩:Addr).add (i * sz+j))=(p i).2[j]? := λi hi j hj=>by
   obtain⟨_,_,hat⟩:=World.cells?_some (hp i hi).1;rw[<-hat j hj,<-Go.Deep.add_add]
  have hlen2:∀i,i<len->(p i).2.length=sz:=λi hi=>(World.cells?_some (hp i hi).1).2.1;have hc0:=hcell 0 h0 0 hpos;rw[Al (by rw[hlen2 0 h0];exact hpos)] at hc0;have hspot:spot=none:=by simpa [Addr.add] using World.cell?_spot hc0
  subst hspot;have hbk:∀k:Nat,((⟨b,o,none⟩:Addr).add k).block=b:=λk=>by unfold Addr.add;split<;>rfl
  refine⟨b,o,rfl,by have:=NY hc0;rwa [hbk] at this,λi v hv=>?_⟩;have hi:i<len:=by rw[<-hvl];exact (AI.1 hv).1
  rw[hvi i hi] at hv;cases hv;obtain⟨_,q2,q3,_,q5⟩:=hp i hi;refine⟨by simp[Value.cells,hlen2 i hi],λc hc=>K7 q3 q5 c (by simpa [Value.cells] using hc),λj hj=>?_⟩;have:=hcell i hi j hj
  have ea:(⟨b,o,none⟩:Addr).add (i * sz+j)=⟨b,o+i * sz+j,none⟩:=by
   unfold Addr.add;split
   ·rename_i hz
    have:i * sz=0/\j=0:=by simpa using hz
    rw[this.1,this.2];rfl
   ·simp[Bo]
  rw[ea] at this;refine this.trans ?_;simp[Value.cells]
theorem Yh:∀{fs:List Sh}{i:Nat}{fl:List Field},Kk P fs i fl=true->∀{j:Nat}{f:Field},fl[j]? = some f->f.offset=i+j/\P.cellsOf f.type=1/\True
 |[],_,[],_,j,f,hj=>by simp at hj
 |[],_,_::_,h,_,_,_=>by simp[Kk] at h
 |_::_,_,[],h,_,_,_=>by simp[Kk] at h
 |s::fs,i,g::fl,h,j,f,hj=>by
  simp only[Kk,Ac,BK] at h;cases j with
  |zero =>
   obtain rfl:g=f:=by simpa using hj
   exact⟨h.1.1.1,h.1.1.2,trivial⟩
  |succ j =>
   obtain⟨k1,k2,_⟩:=Yh h.2 (j:=j) (f:=f) (by simpa using hj);exact⟨by omega,k2,trivial⟩
theorem trodT{fs:List Sh}{t:TypeId}(hf:Lb P fs t=true):∀(fuel:Nat){cs:List Value}{d:DataW H × List MemPlace},DataW.trod enc P w base spare held fuel t cs=some d->GotT w fs cs:=by
 intro fuel
 induction fuel using Nat.strongRecOn with
 |_ fuel ih =>
 intro cs d h;simp only[Lb] at hf;split at hf
 ·rename_i fl ht
  simp only[Ac,BK] at hf;obtain⟨⟨hsz,hff⟩,hla⟩:=hf;obtain⟨ys,n,rfl,_,hcl,hlen,hg⟩:=DataW.trod_struct ht h;rw[hsz] at hcl;split at hla
  ·rename_i f hdr
   simp only[Ac,BK] at hla;obtain⟨⟨ho,hc1⟩,hsl⟩:=hla
   have hfl:fl.toList.length=fs.length+1:=by
    have h1:=Dl List.length hdr;rw[List.length_drop] at h1;simp only[List.length_cons,List.length_nil] at h1;omega
   have hlast:fl[fs.length]? = some f:=by
    have h1:(fl.toList.drop fs.length)[0]? = some f:=by rw[hdr];rfl
    simpa using h1
   have hys:ys.length=fs.length+1:=by rw[hlen];simpa using hfl
   -- the z8n ahead
   obtain⟨xs,a1,a2,a3,a4⟩:=zat (H:=H) (enc:=enc) (w:=w) (base:=base) (spare:=spare) (held:=held) fs (fl:=fl.toList.take fs.length) (i:=0) (cs:=cs.take fs.length) hff (by simp;omega) λj g hj=>by
    have hj1:j<fs.length:=by
     have:=(AI.1 hj).1;simp at this;omega
    rw[List.getElem?_take_of_lt hj1] at hj;have h1:=hg j g (by simpa using hj);rw[Al (show j<ys.length by omega)] at h1;refine⟨n,_,?_,(rfl:(some (ys[j]'(by omega))).isSome=true)⟩;obtain⟨k1,k2,k3⟩:=Yh hff (by rw[List.getElem?_take_of_lt hj1];exact hj);rw[<-h1,k1,k2,Bb,List.drop_take,List.take_take,Co (by omega)]
   rw[B6] at a2
   -- the branches
   have h1:=hg fs.length f hlast;rw[Al (show fs.length<ys.length by omega),ho,hc1,BV (by omega),List.take_succ_cons,List.take_zero] at h1
   have hcs:cs=cs.take fs.length++[cs[fs.length]'(by omega)]:=by
    have h1:=(Ck fs.length cs).symm;rw[BV (by omega),An (by omega)] at h1;exact h1
   split at hsl
   ·rename_i e hte
    have hsl:e=t:=by simpa using hsl
    subst hsl;rcases DataW.trod_slice hte h1 with⟨hv,_⟩|⟨a,len,cap,elems,rest,m,rfl,hv,_,hb,hl,hm,hel,hx,_,_⟩
    ·have hv:cs[fs.length]'(by omega)=.slice none 0 0:=by simpa using hv
     rw[hv] at hcs;rw[hcs];exact⟨_,.leaf xs a1,AB.snoc a2 rfl,by rw[BZ] at a3 ⊢;intro y hy;rcases Ao.1 hy with hy|hy;exact a3 y hy;rw[Am.1 hy];rfl,Ku a4 rfl⟩
    ·have hv:cs[fs.length]'(by omega)=.slice (some a) len cap:=by simpa using hv
     rw[hv] at hcs;rw[hcs];rw[hsz] at hx
     obtain⟨zs,z1,z2,z3,z4⟩:=zj5 (Q:=La fs) (base:=base) (a:=a) (len:=len) (cap:=cap) (sz:=fs.length+1) (λxs hq=>hq.len) (by omega) hl hm λi hi=>by
      have h2:=hx i hi;rw[Al (by omega)] at h2;obtain⟨cs',k1,k2⟩:=B0.1 h2;obtain⟨xs',q1,q2,q3,q4⟩:=ih m (by omega) k2;exact⟨cs',k1,xs',q1,q2,q3,q4⟩
     exact⟨_,.node xs zs a1 (by omega) z2,AB.snoc a2 z3,by rw[BZ] at a3 ⊢;intro y hy;rcases Ao.1 hy with hy|hy;exact a3 y hy;rw[Am.1 hy];simpa [AV.pure] using z4,Ku a4 rfl⟩
   ·cases hsl
  ·cases hla
 ·cases hf
inductive PShT where
 |p (s:PSh)
 |tree (fs:List Sh)
def IsPT:PShT->AV->Prop
 |.p s,x=>IsP s x
 |.tree fs,x=>∃cs,x=.agg cs/\La fs cs
def zbc:List PShT->List AV->Prop
 |[],xs=>xs=[]
 |p::ps,xs=>∃x r,xs=x::r/\IsPT p x/\zbc ps r
def z52(P:Program):PShT->TypeId->Bool
 |.p s,t=>zib P s t
 |.tree fs,t=>Lb P fs t
def LZ(P:Program):List PShT->List TypeId->Bool
 |[],[]=>true
 |p::ps,t::ts=>z52 P p t&&LZ P ps ts
 |_,_=>false
theorem zbd{p:PShT}{t:TypeId}{r:Reach}{b0:Nat}{v:Value}{d:DataW H}{ps:List MemPlace}(hf:z52 P p t=true)(hw:Value.okWide P w r b0 t v)(h:DataW.Trod enc P w 0 spare held t v d ps):∃x,IsPT p x/\VRel (MS.start w) x v:=by
 cases p with
 |p s=>exact zic hf hw h
 |tree fs =>
  obtain⟨fuel,h⟩:=h;have hf':Lb P fs t=true:=hf;simp only[z52,Lb] at hf;split at hf
  ·rename_i fl ht
   obtain⟨cs,rfl,hc⟩:=okWide_struct ht hw;obtain⟨xs,h1,h2,_⟩:=trodT (enc:=enc) hf' fuel (cs:=cs.toList) h;exact⟨.agg xs,⟨xs,rfl,h1⟩,cs.toList,by simp,h2⟩
  ·cases hf
theorem U6:∀{ps:List PShT}{ts:List TypeId}{vs:List Value}{ds:List (DataW H)}{q:List MemPlace}{r:Reach}{b0:Nat},LZ P ps ts=true->(∀(j:Nat) t v,ts[j]? = some t->vs[j]? = some v->Value.okWide P w r b0 t v) ->
 DataW.TrodAll enc P w 0 spare held ts vs ds q->∃xs,zbc ps xs/\AB (MS.start w) xs vs
 |[],[],[],[],_,_,_,_,_,_=>⟨[],rfl,rfl⟩
 |p::ps,t::ts,v::vs,d::ds,_,_,_,hf,hw,⟨a,b,h1,h2,_⟩=>by
  simp only[LZ,Ac] at hf;obtain⟨x,k1,k2⟩:=zbd hf.1 (hw 0 t v rfl rfl) h1;obtain⟨xs,k3,k4⟩:=U6 hf.2 (λj t v ht hv=>hw (j+1) t v (by simpa using ht) (by simpa using hv)) h2;exact⟨x::xs,⟨x,xs,rfl,k1,k3⟩,v,vs,rfl,k2,k4⟩
 |[],_::_,_,_,_,_,_,hf,_,_=>by simp[LZ] at hf
 |_::_,[],_,_,_,_,_,hf,_,_=>by simp[LZ] at hf
 |[],[],_::_,_,_,_,_,_,_,h=>h.elim
 |[],[],[],_::_,_,_,_,_,_,h=>h.elim
 |_::_,_::_,[],_,_,_,_,_,_,h=>by cases ‹List (DataW H)›<;>exact h.elim
 |_::_,_::_,_::_,[],_,_,_,_,_,h=>h.elim
theorem ZX{f:Nat}{ps:List PShT}{ts:List TypeId}(hf:LZ P ps ts=true)(h:∀xs,zbc ps xs->PC P f xs (.bool true)){args:Array Value}{ds:List (DataW H)}{q:List MemPlace}{r:Reach}{b0:Nat}
 (hw:∀(j:Nat) t v,ts[j]? = some t->args.toList[j]? = some v->Value.okWide P w r b0 t v) (hA:DataW.TrodAll enc P w 0 spare held ts args.toList ds q) :
 Calls P f args w λe w'=>e=.returned (.bool true)/\Below w.heap.size w w':=by
 obtain⟨xs,h1,h2⟩:=U6 hf hw hA;have:=(h xs h1).below h2;simpa using this
end
end Go.Proofs.YtflibbceibjddaaGreat.Abs
namespace Go.Proofs.YtflibbceibjddaaGreat
open Abs O1 O2 O3 Go.RowKit
inductive Rec where
 |mk (kind:Int) (set:List Span) (by_:Int) (read write:List Int) (l:List Rec)
namespace Rec
instance:Inhabited Rec:=⟨.mk 0 [] 0 [] [] []⟩
theorem ind{P:Rec->Prop}(h:∀k s b r w l,(∀n∈l,P n)->P (.mk k s b r w l))(n:Rec):P n :=
 Rec.rec (motive_1:=P) (motive_2:=λl=>∀n∈l,P n) (λk s b r w l ih=>h k s b r w l ih) (λn hn=>by cases hn)
  (λn l hn hl m hm=>by
   rcases Af.1 hm with rfl|hm
   ·exact hn
   ·exact hl m hm) n
end Rec
mutual
def recV:Rec->AV
 |.mk k s b r w l=>.agg [.int .i64 k,Bg s,.int .i64 b,A6 r,A6 w,.lst 6 (zbe l)]
def zbe:List Rec->List AV
 |[]=>[]
 |n::l=>recV n::zbe l
end
theorem U7:∀l:List Rec,zbe l=l.map recV
 |[]=>rfl
 |n::l=>by rw[zbe,U7 l];rfl
theorem Cv(k:Int)(s:List Span)(b:Int)(r w:List Int)(l:List Rec):recV (.mk k s b r w l)=.agg [.int .i64 k,Bg s,.int .i64 b,A6 r,A6 w,.lst 6 (l.map recV)]:=by
 rw[recV,U7]
theorem OJ(n:Rec):(recV n).pure=true:=by
 refine Rec.ind (P:=λn=>(recV n).pure=true) (λk s b r w l ih=>?_) n
 have hl:Bh (l.map recV)=true:=BZ.2 λx hx=>by
  obtain⟨m,hm,rfl⟩:=Ax.1 hx;exact ih m hm
 rw[Cv];simp[AV.pure,Bh,hl,Cd,D9]
theorem Lc(l:List Rec):Bh (l.map recV)=true:=Ft OJ l
theorem BR(s:List Span)(r w:List Int)(l:List Rec):Bh (s.map C2)=true/\Bh (r.map (AV.int .i32))=true/\Bh (w.map (AV.int .i32))=true/\Bh (l.map recV)=true:=⟨Cd s,Bf r,Bf w,Lc l⟩
abbrev zey:List Sh:=[shI,z4t,shI,Sk,Sk]
def Wi(l:List Int):Prop:=l.length<=maxLen/\∀v∈l,-2147483648<=v/\v<=2147483647
inductive Nm:Rec->Prop where
 |mk {k:Int} {s:List Span} {b:Int} {r w:List Int} {l:List Rec}:i64s [k,b]->(s.length<=maxLen/\∀x∈s,Yd x)->Wi r->Wi w->l.length<=maxLen->(∀n∈l,Nm n)->Nm (.mk k s b r w l)
theorem Nv{x:AV}(h:Is Sk x):∃l:List Int,AV.le x (A6 l)/\Wi l:=by
 obtain⟨l,h1,h2,h3⟩:=z4v h;exact⟨l,h1,h2,λv hv=>wf_i32 (h3 v hv)⟩
theorem zns{cs:List AV}(h:La zey cs):∃n:Rec,AV.le (.agg cs) (recV n)/\Nm n:=by
 induction h with
 |leaf cs h =>
  obtain⟨_,_,rfl,⟨a,rfl,ha⟩,x1,_,rfl,h1,_,_,rfl,⟨b,rfl,hb⟩,x2,_,rfl,h2,x3,_,rfl,h3,rfl⟩:=h;obtain⟨s,s1,s2,s3⟩:=Ye h1;obtain⟨r,r1,r2⟩:=Nv h2;obtain⟨w,w1,w2⟩:=Nv h3;refine⟨.mk a s b r w [],?_,.mk (by simp[i64s,ha,hb]) ⟨s2,s3⟩ r2 w2 (Au _) λn hn=>by cases hn⟩;rw[Cv];exact AV.le_agg (AW (AV.le_refl _) (AW s1 (AW (AV.le_refl _) (AW r1 (AW w1 (AW (AV.le_nilS (by decide)) D2))))))
 |node cs xs h hl hx ih =>
  obtain⟨_,_,rfl,⟨a,rfl,ha⟩,x1,_,rfl,h1,_,_,rfl,⟨b,rfl,hb⟩,x2,_,rfl,h2,x3,_,rfl,h3,rfl⟩:=h;obtain⟨s,s1,s2,s3⟩:=Ye h1;obtain⟨r,r1,r2⟩:=Nv h2;obtain⟨w,w1,w2⟩:=Nv h3
  have key:∀xs:List (List AV),(∀y∈xs,∃n:Rec,AV.le (.agg y) (recV n)/\Nm n)->∃l:List Rec,l.length=xs.length/\leL (xs.map .agg) (l.map recV)/\∀n∈l,Nm n:=by
   intro xs
   induction xs with
   |nil=>intro _;exact⟨[],rfl,D2,λ_ h=>by cases h⟩
   |cons y r ih =>
    intro hy;obtain⟨l,h1,h2,h3⟩:=ih λz hz=>hy z (List.mem_cons_of_mem _ hz);obtain⟨n,h4,h5⟩:=hy y (List.mem_cons_self ..);refine⟨n::l,by simp[h1],AW h4 h2,λb hb=>?_⟩;rcases Af.1 hb with rfl|hb
    ·exact h5
    ·exact h3 b hb
  obtain⟨l,l1,l2,l3⟩:=key xs ih;refine⟨.mk a s b r w l,?_,.mk (by simp[i64s,ha,hb]) ⟨s2,s3⟩ r2 w2 (by omega) l3⟩;rw[Cv];exact AV.le_agg (AW (AV.le_refl _) (AW s1 (AW (AV.le_refl _) (AW r1 (AW w1 (AW (AV.le_lst (by simp[l1]) (Lc l) l2) D2))))))
end Go.Proofs.YtflibbceibjddaaGreat
namespace Go.Proofs.YtflibbceibjddaaGreat.Abs
theorem ZY{n b:Nat}{env:Env}{l l':List Grp}{g w v d:Nat}{ex:Bool}{x:AV}(ks:List Nat)(hw:0<w)(hlt:g<l.length)(hg:l.getD g default=⟨w,v,ex,[x]⟩)(hk:g∉ks)
 (hok:CJ d ((hl l).only ks) x) (hl':(Ee 0 ks l).set g ⟨w,v,ex,[frzV d ((hl l).only ks) x]⟩=l'):Ent n b env (hl l) env (hl l'):=λS val hb hS hv=>by
 subst hl';have hS1:=Jw ks hS;have he:=FV ks hS;refine⟨S.kill (hl l) ks,rfl,he.down hb,?_,λi hi=>VRel.mono he _ (hv i hi)⟩;have hlk:g<(Ee 0 ks l).length:=by rw[FO];exact hlt
 have hat0:∀j,j<l.length->((hl l).kill ks).at_ j=(Ee 0 ks l).getD j default:=λj hj=>by
  rw[Hs 0 ks l j hj,Bb];rfl
 have hn:(hl ((Ee 0 ks l).set g ⟨w,v,ex,[frzV d ((hl l).only ks) x]⟩)).n=((hl l).kill ks).n:=by simp[hl,A5.kill,FO]
 have hlen:((hl l).kill ks).n=l.length:=rfl
 have hat:∀j,j<l.length->(hl ((Ee 0 ks l).set g ⟨w,v,ex,[frzV d ((hl l).only ks) x]⟩)).at_ j=if j=g then ⟨w,v,ex,[frzV d ((hl l).only ks) x]⟩ else ((hl l).kill ks).at_ j:=λj hj=>by
  rw[Dr];by_cases e:j=g
  ·subst e;rw[Ae rfl];exact Kd _ hlk
  ·rw[Ab e,hat0 j hj];exact GC _ (De e)
 have hgk:((hl l).kill ks).at_ g=⟨w,v,ex,[x]⟩:=by
  show (if g∈ks then _ else _)=_;rw[Ab hk,Dr,hg]
 have h1:GRel (S.kill (hl l) ks) ⟨w,v,ex,[x]⟩ g:=by have:=hS1.grp g (by rw[hlen];exact hlt);rwa [hgk] at this
 have h0:GRel S ⟨w,v,ex,[x]⟩ g:=by have:=hS.grp g hlt;rwa [Dr,hg] at this
 have hG:GRel (S.kill (hl l) ks) ⟨w,v,ex,[frzV d ((hl l).only ks) x]⟩ g:=by
  refine⟨h1.ver,h1.wid,λ_ hc=>?_,λhh=>h1.len hh,λhh he=>h1.full hh he,λhh=>by simp only at hh;omega⟩;obtain⟨⟨cells,TT,vs,a1,a2,a3,a4⟩,_⟩:=h0.live hw hc;refine⟨⟨cells,TT,vs,a1,a2,?_,a4⟩,(h1.live hw hc).2⟩;obtain⟨u,r,rfl,hu,hr⟩:=a3;exact⟨u,r,rfl,Jy ks hS d hok hu,hr.mono he⟩
 have hhas:∀j,j<l.length->((hl ((Ee 0 ks l).set g ⟨w,v,ex,[frzV d ((hl l).only ks) x]⟩)).at_ j).has ((S.kill (hl l) ks).cap j)->(((hl l).kill ks).at_ j).has ((S.kill (hl l) ks).cap j):=λj hj h=>by
  rw[hat j hj] at h;by_cases e:j=g
  ·subst e;rw[Ae rfl] at h;rw[hgk];exact h
  ·rw[Ab e] at h;exact h
 refine⟨hS1.n.trans hn.symm,λj hj=>?_,λj j' a c hne p q=>hS1.apart j j' (by rwa [hn] at a) (by rwa [hn] at c) hne (hhas j (by rwa [hn] at a) p) (hhas j' (by rwa [hn] at c) q),hS1.im⟩;rw[hn] at hj;rw[hat j hj];by_cases e:j=g
 ·subst e;rw[Ae rfl];exact hG
 ·rw[Ab e];exact hS1.grp j hj
mutual
theorem zez{m:Nat}{σ:Nat->Nat}(h:∀g,g<m->σ g=g):∀x:AV,ltV m x->ren σ x=x
 |.any,_|.bool _,_|.int _ _,_|.str _,_|.nilS,_|.nul,_|.emp,_|.nilP,_|.nilF,_|.yld _,_|.lst _ _,_|.full _ _,_|.cptr _,_=>rfl
 |.map g v,hx=>by rw[ren,h g hx]
 |.ref g v o n,hx=>by rw[ren,h g hx]
 |.ptr g v i o,hx=>by rw[ren,h g hx]
 |.agg cs,hx=>by rw[ren,Ma h cs hx]
 |.tup cs,hx=>by rw[ren,Ma h cs hx]
 |.fn f cs,hx=>by rw[ren,Ma h cs hx]
theorem Ma{m:Nat}{σ:Nat->Nat}(h:∀g,g<m->σ g=g):∀xs:List AV,ltL m xs->renL σ xs=xs
 |[],_=>rfl
 |x::xs,hx=>by rw[renL,zez h x hx.1,Ma h xs hx.2]
end
theorem zbf{m N g:Nat}(h:g<m):sg (List.range m) N g=g:=by
 unfold sg;rw[Ae (by simpa using h)];simp[List.getD,h]
theorem z54{m:Nat}{σ:Nat->Nat}(h:∀g,g<m->σ g=g){G:Grp}(hG:ltL m G.xs):renG σ G=G:=by
 cases G with
 |mk w v e xs=>rw[reG,Ma h xs hG]
theorem Q7:∀(r extra pre:List Grp)(l:List Grp),l.length=r.length->setG ((List.range r.length).map (·+pre.length)) r (pre++l++extra)=pre++r++extra
 |[],extra,pre,l,h=>by
  have:l=[]:=Ay (by simpa using h);subst this;simp[setG]
 |G::r,extra,pre,[],h=>by simp at h
 |G::r,extra,pre,a::l,h=>by
  rw[List.length_cons,List.range_succ_eq_map,AR,CH,z44];have e1:(pre++a::l++extra).set (0+pre.length) G=(pre++[G])++l++extra:=by simp
  have e2:(List.range r.length).map ((λx=>x+pre.length) ∘ Nat.succ)=(List.range r.length).map (·+(pre++[G]).length):=AT λi _=>by simp;omega
  rw[e1,e2,Q7 r extra (pre++[G]) l (by simpa using h)];simp
theorem z56{P:Program}{f:Nat}{xs:List AV}{l0 extra:List Grp}{K0 K:AV->A5->Prop}(h:B3 P f xs (hl l0) K0)(hlt:ltL l0.length xs)(hltG:∀G∈l0,ltL l0.length G.xs)
 (hK:∀y H',K0 y H'->∃l',H'=hl l'/\l'.length=l0.length/\ltV l0.length y/\(∀G∈l',ltL l0.length G.xs)/\@nx y (hl (l'++extra)) ⟨K⟩):@KD P f xs (hl (l0++extra)) ⟨K⟩:=by
 have hs:∀g,g<l0.length->sg (List.range l0.length) (l0++extra).length g=g:=λg hg=>zbf hg;have hll:(List.range l0.length).length=l0.length:=by simp
 refine z47 (List.range l0.length) h DT (λk hk=>by simp at hk ⊢;omega) (Ma hs xs hlt) ?_ (by rw[hll];exact hlt) (by rw[hll];exact hltG) ?_
 ·refine Cm (by simp) λi h1 h2=>?_
  have hi:i<l0.length:=by simpa using h1
  simp only[EJ,Ej];rw[z54 hs (hltG _ (BY hi))];simp[List.getD,A9 hi,hi]
 ·intro y H' hy
  obtain⟨l',rfl,h1,h2,h3,h4⟩:=hK y H' hy;refine⟨l',rfl,by rw[hll,h1];exact Ad _,?_⟩;rw[zez hs y h2];have e1:l'.map (renG (sg (List.range l0.length) (l0++extra).length))=l':=(AT λG hG=>z54 hs (h3 G hG)).trans (Gl _);rw[e1];have e2:=Q7 l' extra [] l0 h1.symm;simp only[List.length_nil,Nat.add_zero,List.map_id',List.nil_append,h1] at e2;rw[e2];exact h4
end Go.Proofs.YtflibbceibjddaaGreat.Abs
