/-
  Parts of the proof that the law holds whatever the input; without conditions.
-/
import Derived.Test.YtbcjoeadpjfcfaaGreatRA8
import Derived.Test.YtbcjoeadpjfcfaaGreatRA6
import Derived.Test.YtbcjoeadpjfcfaaGreatRA4
import Derived.Test.YtbcjoeadpjfcfaaGreatRA5
import Derived.Test.YtbcjoeadpjfcfaaGreatRA7
set_option linter.unusedSimpArgs false
set_option linter.unusedVariables false
set_option maxRecDepth 100000
namespace Go.Proofs.YtbcjoeadpjfcfaaGreat
open Abs Go.Shelf Go.RowKit Go.Lib Go.Sort
def WV (S:MS):Type:={ p:List Int × Value // VRel S (Ag p.1) p.2∧p.1.length≤1000000000 }
instance (S:MS):Inhabited (WV S):=⟨⟨([],.slice none 0 0),⟨rfl,Nat.one_pos,none,0,[],rfl,⟨Nat.le_refl _,fun _=>rfl⟩,rfl,fun h=>absurd rfl h⟩,Nat.zero_le _⟩⟩
def encW (S:MS) (p:WV S):Value:=p.val.2
def cfW (S:MS) (p q:WV S):Int:=cmpL p.val.1 q.val.1
theorem ltCW (S:MS) (p q:WV S):ltOf (cfW S) p q=ltW p.val.1 q.val.1:=by
 unfold ltOf cfW;cases h:ltW p.val.1 q.val.1 with
 | true=>exact decide_eq_true ((Z9 _ _).2 h)
 | false=>exact decide_eq_false fun hh=>by rw[(Z9 _ _).1 hh] at h;cases h
theorem z9z (a b c:List Int) (h1:ltW a b=false) (h2:ltW b c=false):ltW a c=false:=by
 cases h:ltW a c with
 | false=>rfl
 | true =>
   exfalso;cases hba:ltW b a with
   | true=>have:=F9 b a c hba h;rw[h2] at this;cases this
   | false =>
     have e:=Hy a b h1 hba;subst e;rw[h2] at h;cases h
theorem swoW (S:MS):SWO (ltOf (cfW S)) where
 irrefl x:=by rw[ltCW];exact Em _
 trans x y z h1 h2:=by rw[ltCW] at *;exact F9 _ _ _ h1 h2
 ntrans x y z h1 h2:=by rw[ltCW] at *;exact z9z _ _ _ h1 h2
theorem zf6:∀ {a b:World},a.heap=b.heap→a.tape=b.tape→a.drawn=b.drawn→a.os=b.os→a.output=b.output→a=b
 | ⟨_,_,_,_,_⟩,⟨_,_,_,_,_⟩,rfl,rfl,rfl,rfl,rfl=>rfl
theorem Kf {α:Type} [Inhabited α] (enc:α→Value) (w:World) (b m:Nat) (d:Array α) (os:Array Obj):w.heap.size≤(sortWorld enc w b 0 m d os).heap.size:=by
 show _≤((w.heap.modify _ _)++os).size;rw[Array.size_append,Array.size_modify];omega
theorem Jj {α:Type} [Inhabited α] (enc:α→Value) (w:World) (b m:Nat) (d:Array α) (os:Array Obj) {k:Nat} (hk:k<w.heap.size) (hb:b≠k):(sortWorld enc w b 0 m d os).heap[k]? = w.heap[k]? := by
 show ((w.heap.modify _ _)++os)[k]? = _;rw[Array.getElem?_append_left (by rw[Array.size_modify];exact hk),Array.getElem?_modify,if_neg hb]
theorem za0 (S:MS) {H:Ac} (hS:SRel S H) {blk:Nat} (hni:¬(S.im blk∨S.keep blk)) (size:Nat):CmpLays1 Tryz.prog 77 #[] (encW S) (cfW S) blk 0 size S.w:=by
 intro m os dk _ x y;obtain⟨W,hW⟩:∃ W,W=sortWorld (encW S) S.w blk 0 m dk os:=⟨_,rfl⟩;rw[←hW];have hsz:S.w.heap.size≤W.heap.size:=by rw[hW];exact Kf ..
 have hkept:∀ b,S.im b→W.heap[b]? = S.w.heap[b]? := fun b hb=>by rw[hW];exact Jj _ _ _ _ _ _ (hS.im b (.inl hb)) fun e=>hni (e ▸ .inl hb)
 have ev1:Evi S { S with w:=W }:=⟨hkept,fun _ h=>h,Nat.le_refl _,fun _ _=>Nat.le_refl _,fun _ _ _=>⟨rfl,rfl,rfl⟩⟩
 let S2:MS:=⟨W,S.im,fun b=>b<W.heap.size,0,fun _=>0,fun _=>0,fun _=>0,fun _=>0,0⟩
 have down:∀ p:WV S,VRel S2 (Ag p.val.1) p.val.2:=fun p=>by
   have h:=VRel.moni ev1 _ p.property.1;rw[←Vm (Ag p.val.1)] at h;exact Vi (A:=S2) (B:={ S with w:=W }) (σ:=fun g=>g) (m:=0) rfl (fun b hb=>hb) (fun g hg=>absurd hg (Nat.not_lt_zero _)) (Ag p.val.1) trivial h
 have hS2:SRel S2 Ac.nil:=⟨rfl,fun g hg=>absurd hg (Nat.not_lt_zero _),fun g _ hg=>absurd hg (Nat.not_lt_zero _),fun b hb=>hb.elim (fun h=>Nat.lt_of_lt_of_le (hS.im b (.inl h)) hsz) id⟩;refine ((Of x.val.1 y.val.1 x.property.2 y.property.2).2 S2 [encW S x,encW S y] hS2 ⟨_,_,rfl,down x,_,_,rfl,down y,rfl⟩).mono fun e w' hh=>?_;obtain⟨v,S',z,H',rfl,rfl,ev,_,hv,rfl,_⟩:=hh;have hv':v=.int .i64 (cmpL x.val.1 y.val.1):=hv;subst hv';have hsz2:W.heap.size≤S'.w.heap.size:=ev.size;refine⟨rfl,S'.w.drawn-W.drawn,S'.w.heap.extract W.heap.size S'.w.heap.size,zf6 ?_ ev.tape.1 ?_ ev.os ev.output⟩
 · show S'.w.heap=W.heap++_
   refine Array.ext_getElem? fun i=>?_;rcases Nat.lt_or_ge i W.heap.size with hi|hi
   · rw[Array.getElem?_append_left hi]
     exact ev.kept i (.inr hi)
   · rw[Array.getElem?_append_right hi,Array.getElem?_extract]
     rcases Nat.lt_or_ge i S'.w.heap.size with h2|h2
     · rw[if_pos (by omega)];congr 1;omega
     · rw[if_neg (by omega),Array.getElem?_eq_none (by omega)]
 · show S'.w.drawn=W.drawn+(S'.w.drawn-W.drawn)
   have:=ev.tape.2;have h2:W.drawn≤S'.w.drawn:=this;omega
theorem Ut {S:MS}:∀ {l:List (List Int)} {vs:List Value},(∀ w∈l,w.length≤1000000000)→Ad S (l.map Ag) vs→∃ pl:List (WV S),pl.map (fun p=>p.val.1)=l∧pl.map (encW S)=vs
 | [],vs,_,h=>⟨[],rfl,h.symm⟩
 | x::l,vs,hl,⟨v,r,hv,h1,h2⟩=>by
   obtain⟨pl,a,b⟩:=Ut (fun w hw=>hl w (by simp[hw])) h2;exact⟨⟨(x,v),h1,hl x (by simp)⟩::pl,by show x::pl.map _=x::l;rw[a],by rw[hv,←b];rfl⟩
theorem z02 {S:MS} (p:WV S):∃ a n c,encW S p=.slice a n c:=by
 obtain⟨_,_,a,cap,vs,hv,_⟩:=p.property.1;exact⟨a,_,cap,hv⟩
theorem oneW (S:MS):OneCell (encW S):=fun p=>by
 obtain⟨a,n,c,h⟩:=z02 p;rw[h];rfl
theorem z6u {S:MS} (p:WV S):(encW S p).cells=#[encW S p]:=by
 obtain⟨a,n,c,h⟩:=z02 p;rw[h];rfl
theorem zki {S:MS} {b:Nat} {cells:Array Value} {T:TypeId} {pl:List (WV S)} (hb:S.w.heap[b]? = some (.cells cells T (0,0))) (hf:Fs cells 1 (pl.map (encW S))):Holds (encW S) S.w b 0 pl.toArray:=by
 intro j hj;have hi:j<pl.length:=by simpa using hj
 have he:(pl.map (encW S))[j]? = some (encW S pl[j]):=by simp[hi]
 obtain⟨_,_,h3⟩:=hf _ _ he;have h4:=h3 0 Nat.one_pos;rw[Nat.mul_one,Nat.add_zero,z6u] at h4;have hg:pl.toArray[j]! = pl[j]:=by simp[hi]
 refine⟨?_,?_⟩
 · rw[hg]
   simp only[World.cell?,hb,Nat.zero_add,Option.isSome_none,Bool.false_eq_true,if_false,h4,id];rfl
 · simp[World.frozen?,hb]
theorem zqf {S:MS} {b n:Nat} {cells:Array Value} {T:TypeId} {d:Array (WV S)} {os:Array Obj} (hb:S.w.heap[b]? = some (.cells cells T (0,0))) (hsz:d.size≤cells.size) :
   ∃ cells',(sortWorld (encW S) S.w b 0 n d os).heap[b]? = some (.cells cells' T (0,0))∧cells'.size=cells.size∧Fs cells' 1 (d.toList.map (encW S)):=by
 have hlt:b<S.w.heap.size:=(Array.getElem?_eq_some_iff.1 hb).1;refine⟨putCells (encW S) 0 d cells,?_,by simp[putCells],fun i v hv=>?_⟩
 · show ((S.w.heap.modify b _)++os)[b]? = _
   rw[Array.getElem?_append_left (by rw[Array.size_modify];exact hlt),Array.getElem?_modify,if_pos rfl,hb];rfl
 · rw[List.getElem?_map] at hv
   obtain⟨x,hx,rfl⟩:=Option.map_eq_some_iff.1 hv;have hi:i<d.size:=by have:=(List.getElem?_eq_some_iff.1 hx).1;simpa using this
   refine⟨by rw[z6u];rfl,fun c hc=>?_,fun j hj=>?_⟩
   · rw[z6u] at hc
     obtain rfl:c=encW S x:=by simpa using hc
     exact oneW S x
   · obtain rfl:j=0:=by omega
     have hlt2:i<cells.size:=by omega
     have hd:d[i]! = x:=by
       rw[Array.getElem?_toList] at hx;rw[getElem!_pos d i hi];exact (Array.getElem?_eq_some_iff.1 hx).2
     rw[Nat.mul_one,Nat.add_zero,putCells,Array.getElem?_mapIdx,Array.getElem?_eq_getElem hlt2];simp only[Option.map_some,Nat.zero_le,true_and,Nat.zero_add,Nat.sub_zero];rw[if_pos hi,hd,z6u];rfl
def z3h (l:List (List Int)):Prop:=l.Pairwise fun a b=>ltW b a=false
theorem zf7 {S:MS} {d:Array (WV S)} (h:SortedIn (ltOf (cfW S)) 0 d.size d):z3h (d.toList.map fun p=>p.val.1):=by
 rw[z3h,List.pairwise_map,List.pairwise_iff_getElem];intro i j hi hj hij;have hi':i<d.size:=by simpa using hi
 have hj':j<d.size:=by simpa using hj
 have:=h i j (Nat.zero_le _) hij hj';rw[ltCW,getElem!_pos d j hj',getElem!_pos d i hi'] at this;simpa using this
theorem zf8 {S:MS}:∀ (pl:List (WV S)),Ad S (pl.map fun p=>Ag p.val.1) (pl.map (encW S))
 | []=>rfl
 | p::pl=>⟨_,_,rfl,p.property.1,zf8 pl⟩
theorem zqg {H:Ac} {g ver:Nat} {ex:Bool} {l:List (List Int)} (hg:g<H.n) (hG:H.at_ g=⟨1,ver,ex,l.map Ag⟩) (h1:l≠[]) (hl:l.length<4611686018427387904) (hw:∀ w∈l,w.length≤1000000000) :
   Be Tryz.prog 107 [.ref g ver 0 l.length,.fn 77 []] H fun y H'=>y=.tup []∧∃ l':List (List Int),l'.Perm l∧z3h l'∧H'=H.set g ⟨1,ver,ex,l'.map Ag⟩:=by
 have eg:∀ args w,(callFunc 77 args).run Tryz.prog w=.ok (.enter 77 args) w:=enters_of Tryz.func77 (by kernel_rfl) rfl;refine⟨enters_of Tryz.func107 (by kernel_rfl) rfl,fun S cargs hS hx=>?_⟩;obtain⟨v1,r1,rfl,⟨_,hgn,_,hv1⟩,v2,r2,rfl,⟨lb,rfl,rfl⟩,rfl⟩:=hx;have hgr:=hS.grp g hg;rw[hG] at hgr;obtain⟨a,cap',rfl,hcase⟩:=hv1 hgr.ver;have hpos:0<l.length:=by cases l;exact absurd rfl h1;simp
 obtain⟨rfl,rfl,hcap⟩:=hcase.resolve_right (fun h=>by omega);have hlen:l.length≤S.cap g:=by have:=hgr.len (show 0<1 by decide);simpa using this
 obtain⟨⟨cells,T,vs,b1,b2,b3,b4⟩,hni⟩:=hgr.live (show 0<1 by decide) (by omega);obtain⟨pl,e1,rfl⟩:=Ut hw b3;have b2':cells.size=S.cap g * 1:=b2;have hpl:pl.length=l.length:=by rw[←e1,List.length_map]
 have hblk:S.place g<S.w.heap.size:=(Array.getElem?_eq_some_iff.1 b1).1;have hcon:=Any.slices_SortFunc Tryz.sortWd (encW S) (oneW S) (cfW S) (swoW S) 77 #[] (S.place g) 0 (S.cap g-0) pl.toArray S.w eg (za0 S hS hni _) (zki b1 b4) hblk (by simp;omega);change Calls Tryz.prog 107 _ _ _ at hcon;rw[List.size_toArray,hpl] at hcon;rw[Nat.zero_mul];refine hcon.mono fun e w' ⟨he,d',n,os,hp,hs,hw'⟩=>?_;subst he hw';obtain⟨q1,q2,q3⟩:=hp;have q1:d'.size=l.length:=by simpa [hpl] using q1
 have hperm:(d'.toList.map fun p=>p.val.1).Perm l:=by
   rw[Array.toList_extract,Array.toList_extract] at q3;have q4:d'.toList.Perm pl:=by simpa [List.extract,q1,hpl,List.take_of_length_le (show d'.toList.length≤l.length by simp[q1]),List.take_of_length_le (show pl.length≤l.length by omega)] using q3
   rw[←e1];exact q4.map _
 rw[←q1] at hs;obtain⟨cells',c1,c2,c3⟩:=zqf (n:=n) (d:=d') (os:=os) b1 (by omega);have hoth:∀ b,b≠S.place g→b<S.w.heap.size→(sortWorld (encW S) S.w (S.place g) 0 n d' os).heap[b]? = S.w.heap[b]? := fun b hb hlt=>Jj _ _ _ _ _ _ hlt (Ne.symm hb);have ev1:Evi S { S with w:=sortWorld (encW S) S.w (S.place g) 0 n d' os }:=⟨fun b hb=>hoth b (fun e=>hni (e ▸ .inl hb)) (hS.im b (.inl hb)),fun _ h=>h,Nat.le_refl _,fun _ _=>Nat.le_refl _,fun _ _ _=>⟨rfl,rfl,rfl⟩⟩;have hmm:(d'.toList.map fun p=>p.val.1).map Ag=d'.toList.map fun p=>Ag p.val.1:=by rw[List.map_map];rfl
 have hh:=hS.moved hg (by rw[hG];exact (show 0<1 by decide)) (sortWorld (encW S) S.w (S.place g) 0 n d' os) (S.place g) (S.cap g) ⟨1,ver,ex,(d'.toList.map fun p=>p.val.1).map Ag⟩ rfl ⟨rfl,Nat.le_add_right _ _⟩ rfl
   (Kf ..)
   (fun b hb hlt=>hoth b (fun e=>hb ⟨by omega,e⟩) hlt)
   (.inl ⟨by omega,rfl⟩) (fun _=>⟨cells',T,_,c1,by rw[c2];exact b2',by rw[hmm];exact zf8 _,c3⟩) (by simp[q1];exact hlen)
   (fun hx=>by have:=hgr.full (show 0<1 by decide) hx;simp at this;simp[q1];exact this) (show 0<1 by decide) (by rw[hgr.ver];exact Nat.le_refl _) (fun _=>⟨rfl,rfl,by rw[hgr.wid]⟩)
 exact⟨_,_,.tup [],_,rfl,rfl,hh.1,hh.2,⟨[],rfl,rfl⟩,rfl,_,hperm,zf7 hs,rfl⟩
end Go.Proofs.YtbcjoeadpjfcfaaGreat
set_option maxRecDepth 100000
namespace Go.Proofs.YtbcjoeadpjfcfaaGreat
open Abs
theorem zkj (l:List (List Int)):Be Tryz.prog 154 [.ref 0 1 0 0,.int .i64 0,.int .i64 0,.fn 77 []] (Abs.hl [⟨1,1,true,l.map Ag⟩]) fun y H'=>y=.tup []∧H'=Abs.hl [⟨1,1,true,l.map Ag⟩]:=by
 refine Ig (b:=1) E7 rfl ?_;unfold C5;(with_reducible repeat' (first|(simp(disch:=omega)only[push_cast,↓zz,seval])|refine And.intro ?_ ?_|(first|refine Ab ?_ ?_|refine Aa ?_ ?_)<;>intro hc<;>(try simp only[push_cast] at hc)|omega|intro _))
 refine Ax (A8 (fun (_:Unit)=>True) (fun _=>0) (fun _=>[(0,.ref 0 1 0 0),(1,.int .i64 0),(2,.int .i64 0),(3,.fn 77 []),(8,.int .i64 1)])
   (fun _=>[⟨1,1,true,l.map Ag⟩]) (fun _ _=>[]) () trivial ?_ ?_)
 · (with_reducible repeat' (first|(simp(disch:=omega)only[push_cast,↓zz,seval])|refine And.intro ?_ ?_|(first|refine Ab ?_ ?_|refine Aa ?_ ?_)<;>intro hc<;>(try simp only[push_cast] at hc)|omega|intro _))
 rintro _ _;refine W_T ?_;(with_reducible repeat' (first|(simp(disch:=omega)only[push_cast,↓zz,seval])|refine And.intro ?_ ?_|(first|refine Ab ?_ ?_|refine Aa ?_ ?_)<;>intro hc<;>(try simp only[push_cast] at hc)|omega|intro _))
 all_goals trace_state
theorem pdqW0 (l:List (List Int)):Be Tryz.prog 138 [.ref 0 1 0 0,.int .i64 0,.int .i64 0,.int .i64 0,.fn 77 []] (Abs.hl [⟨1,1,true,l.map Ag⟩]) fun y H'=>y=.tup []∧H'=Abs.hl [⟨1,1,true,l.map Ag⟩]:=by
 refine Ig (b:=1) Gf rfl ?_;unfold D4;(with_reducible repeat' (first|(simp(disch:=omega)only[push_cast,↓zz,seval])|refine And.intro ?_ ?_|(first|refine Ab ?_ ?_|refine Aa ?_ ?_)<;>intro hc<;>(try simp only[push_cast] at hc)|omega|intro _))
 refine Ax (A8 (fun (_:Unit)=>True) (fun _=>0) (fun _=>[(0,.ref 0 1 0 0),(1,.int .i64 0),(2,.int .i64 0),(3,.int .i64 0),(4,.fn 77 []),(10,.bool true),(11,.bool true)])
   (fun _=>[⟨1,1,true,l.map Ag⟩]) (fun _ _=>[]) () trivial ?_ ?_)
 · (with_reducible repeat' (first|(simp(disch:=omega)only[push_cast,↓zz,seval])|refine And.intro ?_ ?_|(first|refine Ab ?_ ?_|refine Aa ?_ ?_)<;>intro hc<;>(try simp only[push_cast] at hc)|omega|intro _))
 rintro _ _;refine W_T ?_;(with_reducible repeat' (first|(simp(disch:=omega)only[push_cast,↓zz,seval])|refine And.intro ?_ ?_|(first|refine Ab ?_ ?_|refine Aa ?_ ?_)<;>intro hc<;>(try simp only[push_cast] at hc)|omega|intro _));refine Be.mono (zkj l) ?_;rintro y H' ⟨rfl,rfl⟩;(with_reducible repeat' (first|(simp(disch:=omega)only[push_cast,↓zz,seval])|refine And.intro ?_ ?_|(first|refine Ab ?_ ?_|refine Aa ?_ ?_)<;>intro hc<;>(try simp only[push_cast] at hc)|omega|intro _))
 all_goals trace_state
theorem zuc (l:List (List Int)):Be Tryz.prog 107 [.ref 0 1 0 0,.fn 77 []] (Abs.hl [⟨1,1,true,l.map Ag⟩]) fun y H'=>y=.tup []∧H'=Abs.hl [⟨1,1,true,l.map Ag⟩]:=by
 refine Ig (b:=1) Gb rfl ?_;unfold D2;(with_reducible repeat' (first|(simp(disch:=omega)only[push_cast,↓zz,seval])|refine And.intro ?_ ?_|(first|refine Ab ?_ ?_|refine Aa ?_ ?_)<;>intro hc<;>(try simp only[push_cast] at hc)|refine eK Oj ?_|refine eQ Oj ?_|refine eG Oj ?_|((first|refine cK Oj ?_|refine cQ Oj ?_|refine cG Oj ?_);(simp(disch:=omega)only[push_cast,↓zz,seval]);(fail_if_success change False))|omega|intro _));refine Be.mono (pdqW0 l) ?_;rintro y H' ⟨rfl,rfl⟩;(with_reducible repeat' (first|(simp(disch:=omega)only[push_cast,↓zz,seval])|refine And.intro ?_ ?_|(first|refine Ab ?_ ?_|refine Aa ?_ ?_)<;>intro hc<;>(try simp only[push_cast] at hc)|omega|intro _))
 all_goals trace_state
theorem z3i (l:List Int) (hl:l.length≤1000000000000):PC Tryz.prog 106 [Ag l] (Ag l):=by
 have hp:Ak (l.map (AV.int .i32))=true:=Ay .i32 _;cases l with
 | nil =>
   refine zc3 ?_ ?_
   · refine A7 Dn ?_
     unfold Ct;(with_reducible repeat' (first|(simp(disch:=omega)only[push_cast,↓zz,seval])|refine And.intro ?_ ?_|(first|refine Ab ?_ ?_|refine Aa ?_ ?_)<;>intro hc<;>(try simp only[push_cast] at hc)|omega|intro _))
   · refine A7 Dn ?_
     unfold Ct;(with_reducible repeat' (first|(simp(disch:=omega)only[push_cast,↓zz,seval])|refine And.intro ?_ ?_|(first|refine Ab ?_ ?_|refine Aa ?_ ?_)<;>intro hc<;>(try simp only[push_cast] at hc)|omega|intro _))
 | cons a l =>
   have hne:((a::l).map (AV.int .i32)).isEmpty=false:=rfl;have hm0:¬(a::l)=[]:=by simp
   generalize (a::l)=m at *;refine A7 Dn ?_;unfold Ct;(with_reducible repeat' (first|(simp(disch:=omega)only[push_cast,↓zz,seval,hne,hp,hm0])|refine And.intro ?_ ?_|(first|refine Ab ?_ ?_|refine Aa ?_ ?_)<;>intro hc<;>(try simp only[push_cast] at hc)|omega|intro _))
   all_goals trace_state
theorem zf9 (l:List (List Int)) (hl:l.length≤1000000000) (hw:∀ w∈l,w.length≤1000000000):PC Tryz.prog 67 [Dg l] (Dg (Gz l)):=by
 have pW:=Aw l;refine A7 z1c ?_;unfold Qd;(with_reducible repeat' (first|(simp(disch:=omega)only[push_cast,↓zz,seval,pW])|refine And.intro ?_ ?_|(first|refine Ab ?_ ?_|refine Aa ?_ ?_)<;>intro hc<;>(try simp only[push_cast] at hc)|omega|intro _))
 refine Ax (A8 (fun (k:Nat)=>k≤l.length) (fun k=>l.length-k)
   (fun k=>[(3,.ref 0 1 0 l.length),(9,Dg l),(10,.int .i64 l.length),(11,.int .i64 k)]) (fun k=>[⟨1,1,true,(l.take k).map Ag++List.replicate (l.length-k) .nilS⟩]) (fun env _=>[Bm 1 (env 3)]) 0 (by simp) ?_ ?_)
 · (with_reducible repeat' (first|(simp(disch:=omega)only[push_cast,↓zz,seval,pW,Ji,List.take_zero,List.map_nil,List.nil_append,Nat.sub_zero])|refine And.intro ?_ ?_|(first|refine Ab ?_ ?_|refine Aa ?_ ?_)<;>intro hc<;>(try simp only[push_cast] at hc)|omega|intro _))
 intro k hk;rcases Nat.lt_or_ge k l.length with hkl|hkl
 · have hC:=z3i (nth l k) (by have:=hw _ (Au hkl);omega)
   have lT:((l.take k).map Ag++List.replicate (l.length-k) AV.nilS).length=l.length:=by simp;omega
   have sT:((l.take k).map Ag++List.replicate (l.length-k) AV.nilS).set k (Ag (nth l k))=(l.take (k+1)).map Ag++List.replicate (l.length-(k+1)) AV.nilS:=by
     have e1:List.replicate (l.length-k) AV.nilS=AV.nilS::List.replicate (l.length-(k+1)) AV.nilS:=by rw[←List.replicate_succ];congr 1;omega
     have e2:((l.take k).map Ag).length=k:=by simp;omega
     rw[e1,List.set_append_right _ _ (by omega),e2,Nat.sub_self,List.set_cons_zero,take_at hkl,List.map_append,List.append_assoc];rfl
   have pK:Ak ((nth l k).map (AV.int .i32))=true:=Ay .i32 _;have pT:∀ k,Ak ((l.take k).map Ag++List.replicate (l.length-k) AV.nilS)=true:=fun k=>by rw[Pt,Aw (l.take k),Ji];rfl
   generalize hwk:nth l k=w at *;generalize hLk:(l.take k).map Ag++List.replicate (l.length-k) AV.nilS=T0 at *;have hp0:=pT k;have hp1:=pT (k+1);rw[hLk] at hp0;generalize hLk1:(l.take (k+1)).map Ag++List.replicate (l.length-(k+1)) AV.nilS=T1 at *;refine W_T ?_;(with_reducible repeat' (first|(simp(disch:=omega)only[push_cast,↓zz,seval,pW,hwk,lT,sT,pK,hp0])|refine And.intro ?_ ?_|(first|refine Ab ?_ ?_|refine Aa ?_ ?_)<;>intro hc<;>(try simp only[push_cast] at hc)|refine eK hC ?_|refine eQ hC ?_|refine eG hC ?_|((first|refine cK hC ?_|refine cQ hC ?_|refine cG hC ?_);(simp(disch:=omega)only[push_cast,↓zz,seval,pW,hwk,lT,sT,pK,hp0]);(fail_if_success change False))|omega|intro _))
   all_goals
     refine⟨k+1,?_⟩;(with_reducible repeat' (first|(simp(disch:=omega)only[push_cast,↓zz,seval,pW,hLk1,hp1])|refine And.intro ?_ ?_|(first|refine Ab ?_ ?_|refine Aa ?_ ?_)<;>intro hc<;>(try simp only[push_cast] at hc)|omega|intro _))
 · obtain rfl:k=l.length:=by omega
   have e1:(l.take l.length).map Ag++List.replicate (l.length-l.length) AV.nilS=l.map Ag:=by simp
   rw[e1];refine W_T ?_;(with_reducible repeat' (first|(simp(disch:=omega)only[push_cast,↓zz,seval,pW])|refine And.intro ?_ ?_|(first|refine Ab ?_ ?_|refine Aa ?_ ?_)<;>intro hc<;>(try simp only[push_cast] at hc)|omega|intro _));by_cases h0:l=[]
   · subst h0
     refine Be.mono (zuc []) ?_;rintro y H' ⟨rfl,rfl⟩;have hC:=Mk true [] (by simp) (fun w hw'=>by cases hw');(with_reducible repeat' (first|(simp(disch:=omega)only[push_cast,↓zz,seval])|refine And.intro ?_ ?_|(first|refine Ab ?_ ?_|refine Aa ?_ ?_)<;>intro hc<;>(try simp only[push_cast] at hc)|omega|intro _));refine Be.mono hC ?_;rintro y H' ⟨rfl,z,pz,rfl⟩;have e0:Bt [] 0=[]:=rfl;have e1:Gz []=[]:=rfl;(with_reducible repeat' (first|(simp(disch:=omega)only[push_cast,↓zz,seval,pz,e0,e1,List.length_nil,List.map_nil,List.nil_append,List.take_zero])|refine And.intro ?_ ?_|(first|refine Ab ?_ ?_|refine Aa ?_ ?_)<;>intro hc<;>(try simp only[push_cast] at hc)|omega|intro _))
   have hS:=zqg (H:=Abs.hl [⟨1,1,true,l.map Ag⟩]) (g:=0) (ver:=1) (ex:=true) (l:=l) (by show 0<1;omega) rfl h0 (by omega) hw;refine Be.mono hS ?_;rintro y H' ⟨rfl,l',hp,hs,rfl⟩;have hl':l'.length=l.length:=hp.length_eq;have hC:=Mk true l' (by omega) fun w hw'=>hw w (hp.mem_iff.1 hw');have hsw:=z9y hs hp;rw[hl'] at hC hsw;rw[hsw];(with_reducible repeat' (first|(simp(disch:=omega)only[push_cast,↓zz,seval])|refine And.intro ?_ ?_|(first|refine Ab ?_ ?_|refine Aa ?_ ?_)<;>intro hc<;>(try simp only[push_cast] at hc)|omega|intro _));refine Be.mono hC ?_;rintro y H' ⟨rfl,z,pz,rfl⟩;generalize Bt l' l.length=M at *;have pM:=Aw M;have tM:∀ z,List.take M.length (M.map Ag++z)=M.map Ag:=fun z=>List.take_left' (by simp);(with_reducible repeat' (first|(simp(disch:=omega)only[push_cast,↓zz,seval,pz,pM,tM])|refine And.intro ?_ ?_|(first|refine Ab ?_ ?_|refine Aa ?_ ?_)<;>intro hc<;>(try simp only[push_cast] at hc)|omega|intro _))
   all_goals trace_state
theorem za1 (n:Nat) (h0:0<n) (hn:n≤1000000000):Be Tryz.prog 105 [.nilS,.int .i64 n] (Abs.hl []) fun y H'=>y=.ref 0 1 0 0∧H'=Abs.hl [⟨1,1,false,List.replicate n (AV.int .i32 0)⟩]:=by
 refine Ig (b:=0) Fg rfl ?_;unfold Dy;have e0:((n:Int)-0).toNat=n:=by omega
 (with_reducible repeat' (first|(simp(disch:=omega)only[push_cast,↓zz,seval,e0])|refine And.intro ?_ ?_|(first|refine Ab ?_ ?_|refine Aa ?_ ?_)<;>intro hc<;>(try simp only[push_cast] at hc)|omega|intro _))
 all_goals trace_state
theorem z3j:PC Tryz.prog 105 [.nilS,.int .i64 0] .nilS:=by
 refine A7 Fg ?_;unfold Dy;(with_reducible repeat' (first|(simp(disch:=omega)only[push_cast,↓zz,seval])|refine And.intro ?_ ?_|(first|refine Ab ?_ ?_|refine Aa ?_ ?_)<;>intro hc<;>(try simp only[push_cast] at hc)|omega|intro _))
 all_goals trace_state
theorem H5 (l:List Int):Ak (l.map (AV.int .i32))=true:=Ay .i32 _
def Ga (ws:List (List Int)) (k:Nat):List AV:=(ws.take k).flatten.map (AV.int .i32)++List.replicate (ws.flatten.length-(ws.take k).flatten.length) (AV.int .i32 0)
theorem Uu {α:Type} (ws:List (List α)) {k:Nat} (h:k<ws.length):(ws.take (k+1)).flatten=(ws.take k).flatten++ws[k]:=by
 rw[List.take_succ_eq_append_getElem h,List.flatten_append];simp only[List.flatten_cons,List.flatten_nil,List.append_nil]
theorem W0 {α:Type} (ws:List (List α)) (k:Nat):(ws.take k).flatten.length≤ws.flatten.length:=by
 have:ws.flatten=(ws.take k).flatten++(ws.drop k).flatten:=by rw[←List.flatten_append,List.take_append_drop]
 rw[this];simp
theorem z03 (ws:List (List Int)) (hk:ws.length≤1000000000) (h0:0<ws.flatten.length) (hl:ws.flatten.length≤1000000000):PC Tryz.prog 66 [.lst 1 (ws.map Ag)] (Ag ws.flatten):=by
 have pW:Ak (ws.map Ag)=true:=Bn.2 fun x hx=>by
   obtain⟨l,_,rfl⟩:=List.mem_map.1 hx;exact H5 l
 have aW:∀ k,k<ws.length→(ws.map Ag).getD k .any=Ag (nth ws k):=fun k hk=>by simp[nth,List.getD,hk]
 have hG:=za1 ws.flatten.length h0 hl;refine A7 Ev ?_;unfold Df;(with_reducible repeat' (first|(simp(disch:=omega)only[push_cast,↓zz,seval,pW])|refine And.intro ?_ ?_|(first|refine Ab ?_ ?_|refine Aa ?_ ?_)<;>intro hc<;>(try simp only[push_cast] at hc)|omega|intro _))
 refine Ax (A8 (fun (k:Nat)=>k≤ws.length) (fun k=>ws.length-k)
   (fun k=>[(0,.lst 1 (ws.map Ag)),(3,.int .i64 (ws.take k).flatten.length),(9,.lst 1 (ws.map Ag)),(10,.int .i64 ws.length),(11,.int .i64 k)]) (fun _=>[]) (fun _ _=>[]) 0 (by simp) ?_ ?_)
 · (with_reducible repeat' (first|(simp(disch:=omega)only[push_cast,↓zz,seval,pW,List.flatten_nil,List.length_nil])|refine And.intro ?_ ?_|(first|refine Ab ?_ ?_|refine Aa ?_ ?_)<;>intro hc<;>(try simp only[push_cast] at hc)|omega|intro _))
 intro k hkw;rcases Nat.lt_or_ge k ws.length with hkl|hkl
 · have hn:nth ws k=ws[k]:=by simp[nth,hkl]
   have hf:=Uu ws hkl;rw[←hn] at hf;have h1:=W0 ws (k+1);have h2:(ws.take (k+1)).flatten.length=(ws.take k).flatten.length+(nth ws k).length:=by rw[hf];simp
   have aK:=aW k hkl;generalize (ws.take k).flatten.length=m at *;refine W_T ?_;(with_reducible repeat' (first|(simp(disch:=omega)only[push_cast,↓zz,seval,pW,aK])|refine And.intro ?_ ?_|(first|refine Ab ?_ ?_|refine Aa ?_ ?_)<;>intro hc<;>(try simp only[push_cast] at hc)|omega|intro _))
   all_goals
     refine⟨k+1,?_⟩;(with_reducible repeat' (first|(simp(disch:=omega)only[push_cast,↓zz,seval,pW,h2])|refine And.intro ?_ ?_|(first|refine Ab ?_ ?_|refine Aa ?_ ?_)<;>intro hc<;>(try simp only[push_cast] at hc)|omega|intro _))
 · obtain rfl:k=ws.length:=by omega
   rw[List.take_of_length_le (Nat.le_refl _)];have hzz:(ws.flatten.length:Int)≠0:=by omega
   refine W_T ?_;(with_reducible repeat' (first|(simp(disch:=omega)only[push_cast,↓zz,seval,pW])|refine And.intro ?_ ?_|(first|refine Ab ?_ ?_|refine Aa ?_ ?_)<;>intro hc<;>(try simp only[push_cast] at hc)|omega|intro _))
   (refine Vj [] (hG) (by decide) (by simp) (by (simp(disch:=omega)only[push_cast,↓zz,seval])) (by (simp(disch:=omega)only[push_cast,↓zz,seval])) (by (simp(disch:=omega)only[push_cast,↓zz,seval])) (by (simp(disch:=omega)only[push_cast,↓zz,seval,List.mem_cons,List.not_mem_nil,or_false,forall_eq_or_imp,forall_eq,List.forall_mem_nil])) ?_)
   rintro y H' ⟨rfl,rfl⟩;refine⟨_,rfl,by simp,?_⟩;(with_reducible repeat' (first|(simp(disch:=omega)only[push_cast,↓zz,seval,pW])|refine And.intro ?_ ?_|(first|refine Ab ?_ ?_|refine Aa ?_ ?_)<;>intro hc<;>(try simp only[push_cast] at hc)|omega|intro _))
   refine Ax (A8 (fun (k:Nat)=>k≤ws.length) (fun k=>ws.length-k)
     (fun k=>[(6,.ref 0 1 0 (ws.take k).flatten.length),(25,.lst 1 (ws.map Ag)),(26,.int .i64 ws.length),(27,.int .i64 k)]) (fun k=>[⟨1,1,false,Ga ws k⟩]) (fun env _=>[Bm 1 (env 6)]) 0 (by simp) ?_ ?_)
   · have r0:Ga ws 0=List.replicate ws.flatten.length (AV.int .i32 0):=by simp[Ga]
     have pZ:∀ n,Ak (List.replicate n (AV.int .i32 0))=true:=fun n=>Bn.2 fun x hx=>by rw[List.eq_of_mem_replicate hx];rfl
     (with_reducible repeat' (first|(simp(disch:=omega)only[push_cast,↓zz,seval,pW,pZ,r0,List.flatten_nil,List.length_nil])|refine And.intro ?_ ?_|(first|refine Ab ?_ ?_|refine Aa ?_ ?_)<;>intro hc<;>(try simp only[push_cast] at hc)|omega|intro _))
   intro k hkw
   have pL:∀ k,Ak (Ga ws k)=true:=fun k=>by
     rw[Ga,Pt,H5,Bool.true_and];exact Bn.2 fun x hx=>by rw[List.eq_of_mem_replicate hx];rfl
   have h1:=W0 ws k;have lR:(Ga ws k).length=ws.flatten.length:=by simp only[Ga,List.length_append,List.length_map,List.length_replicate];omega
   rcases Nat.lt_or_ge k ws.length with hkl|hkl
   · have hn:nth ws k=ws[k]:=by simp[nth,hkl]
     have hf:=Uu ws hkl;rw[←hn] at hf;have h1':=W0 ws (k+1);have h2:(ws.take (k+1)).flatten.length=(ws.take k).flatten.length+(nth ws k).length:=by rw[hf];simp
     have aK:=aW k hkl;have pw:=H5 (nth ws k)
     have hR:(Ga ws k).take (ws.take k).flatten.length++(nth ws k).map (AV.int .i32)++(Ga ws k).drop ((ws.take k).flatten.length+(nth ws k).length)=Ga ws (k+1):=by
       have e1:(Ga ws k).take (ws.take k).flatten.length=(ws.take k).flatten.map (AV.int .i32):=by
         rw[Ga];exact List.take_left' (by rw[List.length_map])
       have e2:(Ga ws k).drop ((ws.take k).flatten.length+(nth ws k).length)=List.replicate (ws.flatten.length-(ws.take (k+1)).flatten.length) (AV.int .i32 0):=by
         rw[←List.drop_drop,Ga,List.drop_left' (by rw[List.length_map]),List.drop_replicate,h2];congr 1;omega
       rw[e1,e2,Ga,hf,List.map_append,List.append_assoc]
     rw[List.append_assoc] at hR
     have hQ:(Ga ws k).length≤(ws.take k).flatten.length→Ga ws k++(nth ws k).map (AV.int .i32)=Ga ws (k+1):=fun h=>by
       have h0:nth ws k=[]:=List.eq_nil_of_length_eq_zero (by omega);rw[Ga,Ga,hf,h0,List.append_nil,List.map_nil,List.append_nil]
     have pT:Ak ((Ga ws k).take (ws.take k).flatten.length)=true:=Bn.2 fun x hx=>Bn.1 (pL k) x (List.mem_of_mem_take hx);have pD:Ak ((Ga ws k).drop ((ws.take k).flatten.length+(nth ws k).length))=true:=Bn.2 fun x hx=>Bn.1 (pL k) x (List.mem_of_mem_drop hx);have hpk:=pL k;have hpk1:=pL (k+1);generalize (ws.take k).flatten.length=m at *;generalize hRk:Ga ws k=R at *;generalize hRk1:Ga ws (k+1)=R1 at *;refine W_T ?_;(with_reducible repeat' (first|(simp(disch:=omega)only[push_cast,↓zz,seval,pW,aK,pw,hpk])|refine And.intro ?_ ?_|(first|refine Ab ?_ ?_|refine Aa ?_ ?_)<;>intro hc<;>(try simp only[push_cast] at hc)|omega|intro _))
     all_goals
       refine⟨k+1,?_⟩;(with_reducible repeat' (first|(simp(disch:=omega)only[push_cast,↓zz,seval,pW,h2,hRk1,hpk1,pw,hpk,pT,pD,hR,hQ])|refine And.intro ?_ ?_|(first|refine Ab ?_ ?_|refine Aa ?_ ?_)<;>intro hc<;>(try simp only[push_cast] at hc)|omega|intro _))
   · obtain rfl:k=ws.length:=by omega
     have rE:Ga ws ws.length=ws.flatten.map (AV.int .i32):=by simp[Ga]
     rw[rE,List.take_length] at *;refine W_T ?_;(with_reducible repeat' (first|(simp(disch:=omega)only[push_cast,↓zz,seval,pW,H5])|refine And.intro ?_ ?_|(first|refine Ab ?_ ?_|refine Aa ?_ ?_)<;>intro hc<;>(try simp only[push_cast] at hc)|omega|intro _))
     all_goals trace_state
theorem W2 (ws:List (List Int)) (hk:ws.length≤1000000000) (h0:ws.flatten.length=0):PC Tryz.prog 66 [.lst 1 (ws.map Ag)] (Ag ws.flatten):=by
 have pW:Ak (ws.map Ag)=true:=Bn.2 fun x hx=>by
   obtain⟨l,_,rfl⟩:=List.mem_map.1 hx;exact H5 l
 have hE:ws.flatten=[]:=List.eq_nil_of_length_eq_zero h0
 have aW:∀ k,k<ws.length→(ws.map Ag).getD k .any=.lst 1 []:=fun k hk=>by
   have:ws[k]=[]:=by
     have:=List.flatten_eq_nil_iff.1 hE _ (List.getElem_mem hk);exact this
   simp[List.getD,hk,this,Ag]
 have hG:=z3j;rw[hE];refine A7 Ev ?_;unfold Df;(with_reducible repeat' (first|(simp(disch:=omega)only[push_cast,↓zz,seval,pW])|refine And.intro ?_ ?_|(first|refine Ab ?_ ?_|refine Aa ?_ ?_)<;>intro hc<;>(try simp only[push_cast] at hc)|omega|intro _))
 refine Ax (A8 (fun (k:Nat)=>k≤ws.length) (fun k=>ws.length-k)
   (fun k=>[(0,.lst 1 (ws.map Ag)),(3,.int .i64 0),(9,.lst 1 (ws.map Ag)),(10,.int .i64 ws.length),(11,.int .i64 k)]) (fun _=>[]) (fun _ _=>[]) 0 (by simp) ?_ ?_)
 · (with_reducible repeat' (first|(simp(disch:=omega)only[push_cast,↓zz,seval,pW])|refine And.intro ?_ ?_|(first|refine Ab ?_ ?_|refine Aa ?_ ?_)<;>intro hc<;>(try simp only[push_cast] at hc)|omega|intro _))
 intro k hkw;rcases Nat.lt_or_ge k ws.length with hkl|hkl
 · have aK:=aW k hkl
   refine W_T ?_;(with_reducible repeat' (first|(simp(disch:=omega)only[push_cast,↓zz,seval,pW,aK])|refine And.intro ?_ ?_|(first|refine Ab ?_ ?_|refine Aa ?_ ?_)<;>intro hc<;>(try simp only[push_cast] at hc)|omega|intro _))
   all_goals
     refine⟨k+1,?_⟩;(with_reducible repeat' (first|(simp(disch:=omega)only[push_cast,↓zz,seval,pW])|refine And.intro ?_ ?_|(first|refine Ab ?_ ?_|refine Aa ?_ ?_)<;>intro hc<;>(try simp only[push_cast] at hc)|omega|intro _))
 · obtain rfl:k=ws.length:=by omega
   refine W_T ?_;(with_reducible repeat' (first|(simp(disch:=omega)only[push_cast,↓zz,seval,pW])|refine And.intro ?_ ?_|(first|refine Ab ?_ ?_|refine Aa ?_ ?_)<;>intro hc<;>(try simp only[push_cast] at hc)|refine eK hG ?_|refine eQ hG ?_|refine eG hG ?_|((first|refine cK hG ?_|refine cQ hG ?_|refine cG hG ?_);(simp(disch:=omega)only[push_cast,↓zz,seval,pW]);(fail_if_success change False))|omega|intro _))
   refine Ax (A8 (fun (k:Nat)=>k≤ws.length) (fun k=>ws.length-k)
     (fun k=>[(6,.ref 0 1 0 0),(25,.lst 1 (ws.map Ag)),(26,.int .i64 ws.length),(27,.int .i64 k)]) (fun k=>[⟨1,1,false,[]⟩]) (fun env _=>[Bm 1 (env 6)]) 0 (by simp) ?_ ?_)
   · (with_reducible repeat' (first|(simp(disch:=omega)only[push_cast,↓zz,seval,pW])|refine And.intro ?_ ?_|(first|refine Ab ?_ ?_|refine Aa ?_ ?_)<;>intro hc<;>(try simp only[push_cast] at hc)|omega|intro _))
   intro k hkw;rcases Nat.lt_or_ge k ws.length with hkl|hkl
   · have aK:=aW k hkl
     refine W_T ?_;(with_reducible repeat' (first|(simp(disch:=omega)only[push_cast,↓zz,seval,pW,aK])|refine And.intro ?_ ?_|(first|refine Ab ?_ ?_|refine Aa ?_ ?_)<;>intro hc<;>(try simp only[push_cast] at hc)|omega|intro _))
     all_goals
       refine⟨k+1,?_⟩;(with_reducible repeat' (first|(simp(disch:=omega)only[push_cast,↓zz,seval,pW])|refine And.intro ?_ ?_|(first|refine Ab ?_ ?_|refine Aa ?_ ?_)<;>intro hc<;>(try simp only[push_cast] at hc)|omega|intro _))
   · obtain rfl:k=ws.length:=by omega
     refine W_T ?_;(with_reducible repeat' (first|(simp(disch:=omega)only[push_cast,↓zz,seval,pW])|refine And.intro ?_ ?_|(first|refine Ab ?_ ?_|refine Aa ?_ ?_)<;>intro hc<;>(try simp only[push_cast] at hc)|omega|intro _))
     all_goals trace_state
theorem W3 (a b:List Int) (hl:a.length+b.length≤1000000000):PC Tryz.prog 66 [.lst 1 [Ag a,Ag b]] (Ag (a++b)):=by
 have e:[a,b].flatten=a++b:=by simp
 have el:[a,b].flatten.length=a.length+b.length:=by rw[e,List.length_append]
 rw[←e];rcases Nat.eq_zero_or_pos [a,b].flatten.length with h|h
 · exact W2 [a,b] (by simp) h
 · exact z03 [a,b] (by simp) h (by omega)
end Go.Proofs.YtbcjoeadpjfcfaaGreat
set_option maxRecDepth 100000
namespace Go.Proofs.YtbcjoeadpjfcfaaGreat
open Abs
structure Sk (d:Desc) (x:List Int) (n:Nat):Prop where
 st:d.states=n
 n1:n≤1024
 start:0≤d.start∧d.start<n
 rl:d.rules.length≤4096
 fl:d.finals.length≤4096
 xl:x.length≤1024
 x32:∀ v∈x,-2147483648≤v∧v≤2147483647
 goes:Goes d n
 ff:∀ f∈d.finals,0≤f.from_∧f.from_<n
 rb:∀ r∈d.rules,(r.guards.length≤1000000∧∀ g∈r.guards,g.length≤1000000)∧(r.out.length≤64∧∀ t∈r.out,t.parts.length≤1000000)∧0≤r.eat∧r.eat≤1000000
 fb:∀ f∈d.finals,(f.guards.length≤1000000∧∀ g∈f.guards,g.length≤1000000)∧(f.out.length≤64∧∀ t∈f.out,t.parts.length≤1000000)
 cyc:¬cycP d.rules n
def setT (n m:Nat) (S:Nat→Nat→List (List Int)):List AV:=(List.range m).map fun p=>Dg (S (p / n) (p % n))
section
variable {n m a t:Nat} {S:Nat→Nat→List (List Int)}
theorem z6v:(setT n m S).length=m:=by simp[setT]
theorem R4:Ak (setT n m S)=true:=Bn.2 fun x hx=>by
 obtain⟨i,_,rfl⟩:=List.mem_map.1 hx;exact Aw _
theorem zfa {z:AV} (ht:t<n) (hp:a * n+t<m):(setT n m S).getD (a * n+t) z=Dg (S a t):=by
 rw[setT,Ca hp,Mi ht,Mj ht]
theorem zkk {v:List (List Int)} (ht:t<n) (hp:a * n+t<m):(setT n m S).set (a * n+t) (Dg v)=setT n m (setP S a t v):=by
 rw[setT,Db hp,setT];refine List.map_congr_left fun p _=>?_;simp only[setP];by_cases e:p=a * n+t
 · subst e;rw[if_pos rfl,Mi ht,Mj ht,if_pos ⟨rfl,rfl⟩]
 · rw[if_neg e,if_neg fun h=>e (z6o ht h)]
theorem zfb {l:List Grp}:leSL l (List.replicate m .nilS) (setT n m fun _ _=>[]):=by
 have key:∀ (f:Nat→Nat) (q:List Nat),leSL l (List.replicate q.length .nilS) (q.map fun _=>Dg []):=fun _ q=>by
   induction q with
   | nil=>exact rfl
   | cons a q ih=>exact⟨⟨Nat.one_pos,rfl⟩,ih⟩
 have:=key id (List.range m)
 rwa [List.length_range] at this
end
def outH (d:Desc) (R:AV) (mo n m:Nat) (S:Nat→Nat→List (List Int)) (many:Bool):List Grp:=[⟨6,1,true,[B2 d]⟩,⟨1,1,true,[.int .i64 mo]⟩,⟨1,1,true,[R]⟩,⟨1,1,true,setT n m S⟩,⟨1,1,true,[.ref 3 1 0 m]⟩,⟨1,1,true,[.bool many]⟩]
theorem R5 {d:Desc} {R:AV} (hR:R.pure=true) {mo n m:Nat} {S:Nat→Nat→List (List Int)} {many:Bool}:∀ G∈outH d R mo n m S many,ltL 6 G.xs:=fun G hG=>by
 simp only[outH,List.mem_cons,List.not_mem_nil,or_false] at hG;rcases hG with rfl|rfl|rfl|rfl|rfl|rfl
 · exact Cc _ _ (by simp[Ak,Hx])
 · exact⟨trivial,trivial⟩
 · exact Cc _ _ (by simp[Ak,hR])
 · exact Cc _ _ R4
 · exact⟨(show 3<6 by omega),trivial⟩
 · exact⟨trivial,trivial⟩
theorem z6w {d:Desc} {x:List Int} {S:Nat→Nat→List (List Int)} {at_ s B:Nat} (hB:∀ r∈d.rules,r.from_=(s:Nat)→goB x r.guards at_=true→(S (at_+r.eat.toNat) r.to_.toNat).length≤B):∀ k,k≤(ruI d.rules s).length→(rulW d x S at_ s k).length≤k * B
 | 0,_=>by simp[rulW]
 | k+1,hk=>by
   have ih:=z6w hB k (by omega);obtain⟨i1,i2⟩:=He.1 (Au (show k<(ruI d.rules s).length by omega));have e:(k+1) * B=k * B+B:=Nat.succ_mul k B;cases hg:goB x (nth d.rules (nth (ruI d.rules s) k)).guards at_ with
   | true =>
     rw[z6s (by omega) rfl hg,List.length_append,List.length_map];have:=hB _ (Au i1) i2 hg;omega
   | false =>
     rw[zf4 (by omega) rfl hg];omega
def putW (d:Desc) (x:List Int) (S:Nat→Nat→List (List Int)) (at_ s k:Nat):List (List Int):=finW d x at_ s (fiI d.finals s).length++rulW d x S at_ s k
def putQ (A:List (List Int)) (h:List Int) (W:List (List Int)) (q:Nat):List (List Int):=A++(W.take q).map (h++·)
theorem zfc {A:List (List Int)} {h:List Int} {W:List (List Int)}:putQ A h W 0=A:=by simp[putQ]
theorem zfd {A:List (List Int)} {h:List Int} {W:List (List Int)} {q:Nat} (hq:q<W.length):putQ A h W (q+1)=putQ A h W q++[h++nth W q]:=by
 rw[putQ,putQ,take_at hq,List.map_append,List.append_assoc];rfl
theorem zkl {A:List (List Int)} {h:List Int} {W:List (List Int)} {q:Nat}:(putQ A h W q).length≤A.length+W.length:=by
 simp[putQ];omega
theorem zkm {d:Desc} {x:List Int} {n:Nat} {ord:List Nat} {L:Nat→Nat→Bool} {mo a j:Nat} {S:Nat→Nat→List (List Int)} (hI:OutI d x L ord mo a j S false) (hl:LivE d x n L) (hg:Goes d n) (ht:Topo d.rules n ord) (hj:j<n) (ha:a≤x.length) (hlv:L a (nth ord j)=true)
   {r:Rule} (hr:r∈d.rules) (hf:r.from_=(nth ord j:Nat)) (hgo:goB x r.guards a=true):S (a+r.eat.toNat) r.to_.toNat=outW d x (a+r.eat.toNat) (r.to_.toNat:Nat)∧(S (a+r.eat.toNat) r.to_.toNat).length≤mo∧L (a+r.eat.toNat) r.to_.toNat=true∧a+r.eat.toNat≤x.length∧r.to_.toNat<n:=by
 obtain⟨_,htt,e1,e2⟩:=hg.r r hr;have hle:=Jg hgo;have hlt:=hl.clos _ _ hlv r hr hf hgo;have h1:=hI.no rfl (a+r.eat.toNat) r.to_.toNat (by omega) hlt (z3d hg ht hj hr hf);exact⟨h1.1,h1.2,hlt,by omega,by omega⟩
theorem zfe (d:Desc) (x:List Int) {n:Nat} (hk:Sk d x n) {ord:List Nat} {L:Nat→Nat→Bool} (ht:Topo d.rules n ord) (hl:LivE d x n L) (mo:Nat) (hmo:mo≤9000000000000000000) (hB:Nat.min mo (outW d x 0 d.start).length≤200000)
   (a j:Nat) (S:Nat→Nat→List (List Int)) (many:Bool) (ha:a≤x.length) (hj:j<n) (hI:OutI d x L ord mo a j S many) (hlv:L a (nth ord j)=true) :
   Be Tryz.prog 62 [.int .i64 a,.int .i64 (nth ord j:Nat),.ptr 5 1 0 0,.ptr 2 1 0 0,.ptr 0 1 0 0,.ptr 4 1 0 0,.ptr 1 1 0 0]
     (Abs.hl (outH d (C4 d x (ruV d.rules n) (fiV d.finals n) (.lst 1 (ord.map e1)) (.lst 1 (lvB n ((x.length+1) * n) L))) mo n ((x.length+1) * n) S many)) fun y H'=>y=.tup []∧∃ (s':(Nat→Nat→List (List Int)) × Bool),
       H'=Abs.hl (outH d (C4 d x (ruV d.rules n) (fiV d.finals n) (.lst 1 (ord.map e1)) (.lst 1 (lvB n ((x.length+1) * n) L))) mo n ((x.length+1) * n) s'.1 s'.2)∧OutI d x L ord mo a (j+1) s'.1 s'.2:=by
 have pR:=Az d.rules;have pFi:=As d.finals;have pX:Ak (x.map (AV.int .i32))=true:=Ay .i32 _;have pO:Ak (ord.map e1)=true:=Dc (fun _=>rfl) _;have pL:Ak (lvB n ((x.length+1) * n) L)=true:=O4;have pRU:Ak (fD 1 e1 n (ruI d.rules))=true:=E2 fun _=>rfl;have pFI:Ak (fD 1 e1 n (fiI d.finals))=true:=E2 fun _=>rfl;have lRU:(fD 1 e1 n (ruI d.rules)).length=n:=z6i;have lFI:(fD 1 e1 n (fiI d.finals)).length=n:=z6i;have hdn:=hk.st;have hn:=hk.n1;have hx:=hk.xl;have hol:=Dk ht;have htn:nth ord j<n:=(ht.all _).1 (Au (by omega));have hgoes:=hk.goes;have hmx:(x.length+1) * n≤1025 * 1024:=Nat.mul_le_mul (by omega) hn;have hpm:=Gi htn ha;unfold ruV fiV;refine J2 (Pg Qc (W_T ?_));unfold I3;cases many with
 | true =>
   generalize fD 1 e1 n (ruI d.rules)=RU at *;generalize fD 1 e1 n (fiI d.finals)=FI at *;unfold outH;(with_reducible repeat' (first|(simp(disch:=omega)only[push_cast,↓zz,seval])|refine And.intro ?_ ?_|(first|refine Ab ?_ ?_|refine Aa ?_ ?_)<;>intro hc<;>(try simp only[push_cast] at hc)|omega|intro _))
   all_goals exact⟨_,_,Ent.refl,rfl,(S,true),rfl,zet hI _ _⟩
 | false =>
   have hto:=fun r hr hf hgo=>zkm hI hl hgoes ht hj ha hlv (r:=r) hr hf hgo
   have hSB:∀ r∈d.rules,r.from_=(nth ord j:Nat)→goB x r.guards a=true→(S (a+r.eat.toNat) r.to_.toNat).length≤200000:=fun r hr hf hgo=>by
     obtain⟨h1,h2,h3,h4,h5⟩:=hto r hr hf hgo;have h6:=zk9 hl hgoes ht hk.start h3;rw[←h1] at h6;exact Nat.le_trans (Nat.le_min.2 ⟨h2,h6⟩) hB
   have hwl:∀ r∈d.rules,r.from_=(nth ord j:Nat)→goB x r.guards a=true→∀ w∈S (a+r.eat.toNat) r.to_.toNat,w.length≤100000000:=fun r hr hf hgo w hw=>by
     obtain⟨h1,h2,h3,h4,h5⟩:=hto r hr hf hgo;rw[h1] at hw;exact Wx hgoes ht ⟨fun r hr=>(hk.rb r hr).2.1.1,fun f hf=>(hk.fb f hf).2.1⟩ hn hx h4 h5 (((Oe hgoes ht h4 h5).2 w).1 hw)
   have hMeq:=zqc hI hl hgoes ht hj ha hlv;rw[←zf5] at hMeq;have hnext:=zev hI hl hgoes ht hj ha hlv (M:=Gz (allW d x S a (nth ord j))) hMeq;have hRL:=z6w (d:=d) (x:=x) (S:=S) (at_:=a) (s:=nth ord j) hSB;have aR:(fD 1 e1 n (ruI d.rules)).getD (nth ord j) .any=.lst 1 ((ruI d.rules (nth ord j)).map e1):=zjw htn;have aR2:(fD 1 e1 n (ruI d.rules))[nth ord j]? = some (.lst 1 ((ruI d.rules (nth ord j)).map e1)):=z6j htn;have aF:(fD 1 e1 n (fiI d.finals)).getD (nth ord j) .any=.lst 1 ((fiI d.finals (nth ord j)).map e1):=zjw htn;have aF2:(fD 1 e1 n (fiI d.finals))[nth ord j]? = some (.lst 1 ((fiI d.finals (nth ord j)).map e1)):=z6j htn;have pRI:Ak ((ruI d.rules (nth ord j)).map e1)=true:=Dc (fun _=>rfl) _;have pFJ:Ak ((fiI d.finals (nth ord j)).map e1)=true:=Dc (fun _=>rfl) _;have hrI:=z2z d.rules (nth ord j);have hfI:=zqd d.finals (nth ord j);have hrl:=hk.rl;have hfl:=hk.fl;have pST:Ak (setT n ((x.length+1) * n) S)=true:=R4;have lST:(setT n ((x.length+1) * n) S).length=(x.length+1) * n:=z6v;have aST:∀ b t,b≤x.length→t<n→(setT n ((x.length+1) * n) S).getD (b * n+t) .any=Dg (S b t):=fun b t hb htn=>zfa htn (Gi htn hb);have sST:=fun v=>zkk (v:=v) (S:=S) htn hpm;have pl:∀ b t,b≤x.length→t<n→b * n+t<(x.length+1) * n:=fun b t hb htn=>Gi htn hb;generalize hRUe:fD 1 e1 n (ruI d.rules)=RU at *;generalize hFIe:fD 1 e1 n (fiI d.finals)=FI at *;generalize hme:(x.length+1) * n=m at *;generalize hLVe:lvB n m L=LV at *;generalize hODe:ord.map e1=OD at *;have hEnds:=fun (f:Eu) (hf:f∈d.finals)=>zjr d x (.lst 1 RU) (.lst 1 FI) (.lst 1 OD) (.lst 1 LV) f a pRU pFI pO pL (by omega) hk.x32 (hk.fb f hf).1.2 (hk.fb f hf).1.1 (by omega);have hWf:=fun (f:Eu) (hf:f∈d.finals) (hgo:goB x f.guards a=true)=>Uj d x (.lst 1 RU) (.lst 1 FI) (.lst 1 OD) (.lst 1 LV) f.out a f.guards.length pRU pFI pO pL (by omega) hk.x32 (by have:=(hk.fb f hf).2.1;omega) (hk.fb f hf).2.2 (by have:=Jg hgo;omega);have hFits:=fun (r:Rule) (hr:r∈d.rules)=>Wp d x (.lst 1 RU) (.lst 1 FI) (.lst 1 OD) (.lst 1 LV) r.guards a pRU pFI pO pL (by omega) hk.x32 (hk.rb r hr).1.2 (hk.rb r hr).1.1 (by omega);have hWr:=fun (r:Rule) (hr:r∈d.rules) (hgo:goB x r.guards a=true)=>Uj d x (.lst 1 RU) (.lst 1 FI) (.lst 1 OD) (.lst 1 LV) r.out a r.guards.length pRU pFI pO pL (by omega) hk.x32 (by have:=(hk.rb r hr).2.1.1;omega) (hk.rb r hr).2.1.2 (by have:=Jg hgo;omega);have pRn:(C4 d x (.lst 1 RU) (.lst 1 FI) (.lst 1 OD) (.lst 1 LV)).pure=true:=by simp[AV.pure,Ak,pR,pFi,pX,pO,pL,pRU,pFI]
   have hcl:=fun S many=>R5 (d:=d) (R:=C4 d x (.lst 1 RU) (.lst 1 FI) (.lst 1 OD) (.lst 1 LV)) pRn (mo:=mo) (n:=n) (m:=m) (S:=S) (many:=many);generalize nth ord j=s at *;obtain⟨F,hF⟩:∃ F,F=finW d x a s (fiI d.finals s).length:=⟨_,rfl⟩;have hFlen:F.length≤4096:=by rw[hF];have:=z6t (d:=d) (x:=x) (at_:=a) (s:=s) (k:=(fiI d.finals s).length);omega
   unfold outH;generalize hSTe:setT n m S=ST at *;(with_reducible repeat' (first|(simp(disch:=omega)only[push_cast,↓zz,seval,pR,pFi,pX,pO,pL,pRU,pFI,aF,aF2,lFI,pST,lST])|refine And.intro ?_ ?_|(first|refine Ab ?_ ?_|refine Aa ?_ ?_)<;>intro hc<;>(try simp only[push_cast] at hc)|omega|intro _))
   refine Ax (A8 (fun (k:Nat)=>k≤(fiI d.finals s).length) (fun k=>(fiI d.finals s).length-k)
     (fun k=>[(0,.int .i64 a),(1,.int .i64 s),(2,.ptr 5 1 0 0),(3,.ptr 2 1 0 0),(4,.ptr 0 1 0 0),(5,.ptr 4 1 0 0),(6,.ptr 1 1 0 0),(9,.ref 6 1 0 (finW d x a s k).length),(26,.lst 1 ((fiI d.finals s).map e1)),(27,.int .i64 (fiI d.finals s).length),(28,.int .i64 k)])
     (fun k=>[⟨6,1,true,[B2 d]⟩,⟨1,1,true,[.int .i64 mo]⟩,⟨1,1,true,[C4 d x (.lst 1 RU) (.lst 1 FI) (.lst 1 OD) (.lst 1 LV)]⟩,⟨1,1,true,ST⟩,⟨1,1,true,[.ref 3 1 0 m]⟩,⟨1,1,true,[.bool false]⟩,⟨1,1,false,(finW d x a s k).map Ag⟩]) (fun env _=>[Bm 1 (env 9)]) 0 (Nat.zero_le _) ?_ ?_)
   · (with_reducible repeat' (first|(simp(disch:=omega)only[push_cast,↓zz,seval,pR,pFi,pX,pO,pL,pRU,pFI,pST,pFJ,zf2,List.length_nil,List.map_nil])|refine And.intro ?_ ?_|(first|refine Ab ?_ ?_|refine Aa ?_ ?_)<;>intro hc<;>(try simp only[push_cast] at hc)|omega|intro _))
   intro k hkk;rcases Nat.lt_or_ge k (fiI d.finals s).length with hkl|hkl
   · obtain⟨i,hi⟩:∃ i,i=nth (fiI d.finals s) k:=⟨_,rfl⟩
     have him:i∈fiI d.finals s:=by rw[hi];exact Au hkl
     obtain⟨i1,i2⟩:=z3g.1 him;have aI:((fiI d.finals s).map e1).getD k .any=.int .i64 i:=by rw[hi];simp[nth,List.getD,hkl]
     have hE:=hEnds _ (Au i1);have hW:=hWf _ (Au i1);have hyes:=fun f hf h=>zke (d:=d) (x:=x) (at_:=a) (s:=s) hkl (f:=f) hf h;have hno:=fun f hf h=>zqe (d:=d) (x:=x) (at_:=a) (s:=s) hkl (f:=f) hf h;rw[←hi] at hyes hno;have hyes:=hyes _ rfl;have hno:=hno _ rfl;have hlen:=z6t (d:=d) (x:=x) (at_:=a) (s:=s) (k:=k);generalize hfe:nth d.finals i=f at *;have hgr:=Ah f.guards;have hot:=Bl f.out;generalize finW d x a s k=A at *;have pA:=Aw A;cases hb:(decide (f.guards.length+a=x.length)&&goB x f.guards a) with
     | true =>
       rw[hb] at hE;have hyes:=hyes hb;have hgo:goB x f.guards a=true:=by simp only[Bool.and_eq_true] at hb;exact hb.2
       have hW:=hW hgo;have pw:Ak ((D3 x f.out f.guards a).map (AV.int .i32))=true:=Ay .i32 _;rw[show Ee f.out ((x.drop a).take f.guards.length)=D3 x f.out f.guards a from rfl] at hW;generalize D3 x f.out f.guards a=w at *;refine W_T ?_;(with_reducible repeat' (first|(simp(disch:=omega)only[push_cast,↓zz,seval,pR,pFi,pX,pO,pL,pRU,pFI,pST,pFJ,aI,hfe,hgr,hot,pA,pw])|refine And.intro ?_ ?_|(first|refine Ab ?_ ?_|refine Aa ?_ ?_)<;>intro hc<;>(try simp only[push_cast] at hc)|refine eK hE ?_|refine eQ hE ?_|refine eG hE ?_|refine eK hW ?_|refine eQ hW ?_|refine eG hW ?_|((first|refine cK hE ?_|refine cQ hE ?_|refine cG hE ?_|refine cK hW ?_|refine cQ hW ?_|refine cG hW ?_);(simp(disch:=omega)only[push_cast,↓zz,seval,pR,pFi,pX,pO,pL,pRU,pFI,pST,pFJ,aI,hfe,hgr,hot,pA,pw]);(fail_if_success change False))|omega|intro _))
       all_goals
         refine⟨k+1,?_⟩;(with_reducible repeat' (first|(simp(disch:=omega)only[push_cast,↓zz,seval,pR,pFi,pX,pO,pL,pRU,pFI,pST,pFJ,hyes,pA,pw])|refine And.intro ?_ ?_|(first|refine Ab ?_ ?_|refine Aa ?_ ?_)<;>intro hc<;>(try simp only[push_cast] at hc)|omega|intro _))
     | false =>
       rw[hb] at hE;have hno:=hno hb;refine W_T ?_;(with_reducible repeat' (first|(simp(disch:=omega)only[push_cast,↓zz,seval,pR,pFi,pX,pO,pL,pRU,pFI,pST,pFJ,aI,hfe,hgr,hot,pA])|refine And.intro ?_ ?_|(first|refine Ab ?_ ?_|refine Aa ?_ ?_)<;>intro hc<;>(try simp only[push_cast] at hc)|refine eK hE ?_|refine eQ hE ?_|refine eG hE ?_|((first|refine cK hE ?_|refine cQ hE ?_|refine cG hE ?_);(simp(disch:=omega)only[push_cast,↓zz,seval,pR,pFi,pX,pO,pL,pRU,pFI,pST,pFJ,aI,hfe,hgr,hot,pA]);(fail_if_success change False))|omega|intro _))
       all_goals
         refine⟨k+1,?_⟩;(with_reducible repeat' (first|(simp(disch:=omega)only[push_cast,↓zz,seval,pR,pFi,pX,pO,pL,pRU,pFI,pST,pFJ,hno,pA])|refine And.intro ?_ ?_|(first|refine Ab ?_ ?_|refine Aa ?_ ?_)<;>intro hc<;>(try simp only[push_cast] at hc)|omega|intro _))
   obtain rfl:k=(fiI d.finals s).length:=by omega
   rw[←hF];have pF:=Aw F;have hP0:putW d x S a s 0=F:=by rw[putW,zf3,List.append_nil,hF]
   refine W_T ?_;(with_reducible repeat' (first|(simp(disch:=omega)only[push_cast,↓zz,seval,pR,pFi,pX,pO,pL,pRU,pFI,pST,pFJ,aR,aR2,lRU,pF])|refine And.intro ?_ ?_|(first|refine Ab ?_ ?_|refine Aa ?_ ?_)<;>intro hc<;>(try simp only[push_cast] at hc)|omega|intro _))
   refine Ax (A8 (fun (k:Nat)=>k≤(ruI d.rules s).length) (fun k=>(ruI d.rules s).length-k)
     (fun k=>[(0,.int .i64 a),(1,.int .i64 s),(2,.ptr 5 1 0 0),(3,.ptr 2 1 0 0),(4,.ptr 0 1 0 0),(5,.ptr 4 1 0 0),(6,.ptr 1 1 0 0),(9,.ref 6 1 0 (putW d x S a s k).length),(59,.lst 1 ((ruI d.rules s).map e1)),(60,.int .i64 (ruI d.rules s).length),(61,.int .i64 k)])
     (fun k=>[⟨6,1,true,[B2 d]⟩,⟨1,1,true,[.int .i64 mo]⟩,⟨1,1,true,[C4 d x (.lst 1 RU) (.lst 1 FI) (.lst 1 OD) (.lst 1 LV)]⟩,⟨1,1,true,ST⟩,⟨1,1,true,[.ref 3 1 0 m]⟩,⟨1,1,true,[.bool false]⟩,⟨1,1,false,(putW d x S a s k).map Ag⟩]) (fun env _=>[Bm 1 (env 9)]) 0 (Nat.zero_le _) ?_ ?_)
   · (with_reducible repeat' (first|(simp(disch:=omega)only[push_cast,↓zz,seval,pR,pFi,pX,pO,pL,pRU,pFI,pST,pRI,pF,hP0])|refine And.intro ?_ ?_|(first|refine Ab ?_ ?_|refine Aa ?_ ?_)<;>intro hc<;>(try simp only[push_cast] at hc)|omega|intro _))
   intro k hkk;have hRk:=hRL k hkk
   have hlk:(putW d x S a s k).length≤900000000:=by
     rw[putW,List.length_append,←hF];have:k * 200000≤4096 * 200000:=Nat.mul_le_mul_right _ (by omega);omega
   rcases Nat.lt_or_ge k (ruI d.rules s).length with hkl|hkl
   · obtain⟨i,hi⟩:∃ i,i=nth (ruI d.rules s) k:=⟨_,rfl⟩
     have him:i∈ruI d.rules s:=by rw[hi];exact Au hkl
     obtain⟨i1,i2⟩:=He.1 him;have aI:((ruI d.rules s).map e1).getD k .any=.int .i64 i:=by rw[hi];simp[nth,List.getD,hkl]
     have hr:=Au i1;have hE:=hFits _ hr;have hW:=hWr _ hr;have hyes:=fun r hf h=>z6s (d:=d) (x:=x) (S:=S) (at_:=a) (s:=s) hkl (r:=r) hf h;have hno:=fun r hf h=>zf4 (d:=d) (x:=x) (S:=S) (at_:=a) (s:=s) hkl (r:=r) hf h;rw[←hi] at hyes hno;have hyes:=hyes _ rfl;have hno:=hno _ rfl;have hto:=hto _ hr i2;have hSB:=hSB _ hr i2;have hwl:=hwl _ hr i2;obtain⟨_,htt,e1',e2'⟩:=hgoes.r _ hr;have heb:=(hk.rb _ hr).2.2;have hol:=(hk.rb _ hr).2.1.1;generalize hre:nth d.rules i=r at *;have hgr:=Ah r.guards;have hot:=Bl r.out;obtain⟨e,he⟩:∃ e:Nat,r.eat=e:=⟨r.eat.toNat,by omega⟩;obtain⟨t,htq⟩:∃ t:Nat,r.to_=t:=⟨r.to_.toNat,by omega⟩;have het:r.eat.toNat=e:=by omega
     have htt2:r.to_.toNat=t:=by omega
     rw[het,htt2] at hyes hto hSB hwl;generalize hAe:putW d x S a s k=A at *;have pA:=Aw A;cases hb:goB x r.guards a with
     | false =>
       rw[hb] at hE;have hno:putW d x S a s (k+1)=A:=by rw[putW,hno hb];exact hAe
       refine W_T ?_;(with_reducible repeat' (first|(simp(disch:=omega)only[push_cast,↓zz,seval,pR,pFi,pX,pO,pL,pRU,pFI,pST,pRI,aI,hre,hgr,hot,pA])|refine And.intro ?_ ?_|(first|refine Ab ?_ ?_|refine Aa ?_ ?_)<;>intro hc<;>(try simp only[push_cast] at hc)|refine eK hE ?_|refine eQ hE ?_|refine eG hE ?_|((first|refine cK hE ?_|refine cQ hE ?_|refine cG hE ?_);(simp(disch:=omega)only[push_cast,↓zz,seval,pR,pFi,pX,pO,pL,pRU,pFI,pST,pRI,aI,hre,hgr,hot,pA]);(fail_if_success change False))|omega|intro _))
       all_goals
         refine⟨k+1,?_⟩;(with_reducible repeat' (first|(simp(disch:=omega)only[push_cast,↓zz,seval,pR,pFi,pX,pO,pL,pRU,pFI,pST,pRI,hno,pA])|refine And.intro ?_ ?_|(first|refine Ab ?_ ?_|refine Aa ?_ ?_)<;>intro hc<;>(try simp only[push_cast] at hc)|omega|intro _))
     | true =>
       rw[hb] at hE;have hyes:=hyes hb;have hW:=hW hb;obtain⟨h1,h2,h3,h4,h5⟩:=hto hb;have hSB:=hSB hb;have hwl:=hwl hb;have hle:=Jg hb;have pw:Ak ((D3 x r.out r.guards a).map (AV.int .i32))=true:=Ay .i32 _;have hhl:(D3 x r.out r.guards a).length≤64:=by simp[D3,Ee];omega
       rw[show Ee r.out ((x.drop a).take r.guards.length)=D3 x r.out r.guards a from rfl] at hW;have hAn:putW d x S a s (k+1)=putQ A (D3 x r.out r.guards a) (S (a+e) t) (S (a+e) t).length:=by rw[putW,hyes,←List.append_assoc,putQ,List.take_length,←hAe];rfl
       have aT:=aST (a+e) t h4 h5;have hpl:=pl (a+e) t h4 h5;have hae:(a:Int)+(e:Int)=((a+e:Nat):Int):=by norm_cast
       have hmul:((a+e:Nat):Int) * (n:Int)=(((a+e) * n:Nat):Int):=by norm_cast
       have hmulb:(a+e) * n≤1024 * 1024:=Nat.mul_le_mul (by omega) hn;generalize D3 x r.out r.guards a=h at *;generalize S (a+e) t=Wd at *;generalize hpe:(a+e) * n+t=p at *;generalize (a+e) * n=an at *;have hpi:(an:Int)+(t:Int)=(p:Int):=by omega
       generalize hbe:a+e=b at *;have pWd:=Aw Wd;refine W_T ?_;(with_reducible repeat' (first|(simp(disch:=omega)only[push_cast,↓zz,seval,pR,pFi,pX,pO,pL,pRU,pFI,pST,lST,pRI,aI,hre,hgr,hot,pA,pw,he,htq,hae,hdn,hmul,hpi,aT,pWd])|refine And.intro ?_ ?_|(first|refine Ab ?_ ?_|refine Aa ?_ ?_)<;>intro hc<;>(try simp only[push_cast] at hc)|refine eK hE ?_|refine eQ hE ?_|refine eG hE ?_|refine eK hW ?_|refine eQ hW ?_|refine eG hW ?_|((first|refine cK hE ?_|refine cQ hE ?_|refine cG hE ?_|refine cK hW ?_|refine cQ hW ?_|refine cG hW ?_);(simp(disch:=omega)only[push_cast,↓zz,seval,pR,pFi,pX,pO,pL,pRU,pFI,pST,lST,pRI,aI,hre,hgr,hot,pA,pw,he,htq,hae,hdn,hmul,hpi,aT,pWd]);(fail_if_success change False))|omega|intro _))
       refine Ax (A8 (fun (q:Nat)=>q≤Wd.length) (fun q=>Wd.length-q)
         (fun q=>[(0,.int .i64 a),(1,.int .i64 s),(2,.ptr 5 1 0 0),(3,.ptr 2 1 0 0),(4,.ptr 0 1 0 0),(5,.ptr 4 1 0 0),(6,.ptr 1 1 0 0),(9,.ref 6 1 0 (putQ A h Wd q).length),(16,Ag h),(59,.lst 1 ((ruI d.rules s).map e1)),(60,.int .i64 (ruI d.rules s).length),(61,.int .i64 k),(96,Dg Wd),(97,.int .i64 Wd.length),(98,.int .i64 q)])
         (fun q=>[⟨6,1,true,[B2 d]⟩,⟨1,1,true,[.int .i64 mo]⟩,⟨1,1,true,[C4 d x (.lst 1 RU) (.lst 1 FI) (.lst 1 OD) (.lst 1 LV)]⟩,⟨1,1,true,ST⟩,⟨1,1,true,[.ref 3 1 0 m]⟩,⟨1,1,true,[.bool false]⟩,⟨1,1,false,(putQ A h Wd q).map Ag⟩]) (fun env _=>[Bm 1 (env 9)]) 0 (Nat.zero_le _) ?_ ?_)
       · (with_reducible repeat' (first|(simp(disch:=omega)only[push_cast,↓zz,seval,pR,pFi,pX,pO,pL,pRU,pFI,pST,pRI,pA,pw,pWd,zfc])|refine And.intro ?_ ?_|(first|refine Ab ?_ ?_|refine Aa ?_ ?_)<;>intro hc<;>(try simp only[push_cast] at hc)|omega|intro _))
       intro q hq;have hAq:(putQ A h Wd q).length≤901000000:=by have:=zkl (A:=A) (h:=h) (W:=Wd) (q:=q);omega
       rcases Nat.lt_or_ge q Wd.length with hql|hql
       · have hC:=W3 h (nth Wd q) (by have:=hwl _ (Au hql);omega)
         have hnx:=zfd (A:=A) (h:=h) hql;have pv:Ak ((h++nth Wd q).map (AV.int .i32))=true:=Ay .i32 _;have pv2:Ak ((nth Wd q).map (AV.int .i32))=true:=Ay .i32 _;generalize hwe:nth Wd q=w at *;generalize hAqe:putQ A h Wd q=A2 at *;have pA2:=Aw A2;generalize hve:h++w=v at *;refine W_T ?_;(with_reducible repeat' (first|(simp(disch:=omega)only[push_cast,↓zz,seval,pR,pFi,pX,pO,pL,pRU,pFI,pST,pRI,pA2,pw,pWd,hwe,pv,pv2])|refine And.intro ?_ ?_|(first|refine Ab ?_ ?_|refine Aa ?_ ?_)<;>intro hc<;>(try simp only[push_cast] at hc)|refine eK hC ?_|refine eQ hC ?_|refine eG hC ?_|((first|refine cK hC ?_|refine cQ hC ?_|refine cG hC ?_);(simp(disch:=omega)only[push_cast,↓zz,seval,pR,pFi,pX,pO,pL,pRU,pFI,pST,pRI,pA2,pw,pWd,hwe,pv,pv2]);(fail_if_success change False))|omega|intro _))
         all_goals
           refine⟨q+1,?_⟩;(with_reducible repeat' (first|(simp(disch:=omega)only[push_cast,↓zz,seval,pR,pFi,pX,pO,pL,pRU,pFI,pST,pRI,pA2,pw,pWd,hnx,pv])|refine And.intro ?_ ?_|(first|refine Ab ?_ ?_|refine Aa ?_ ?_)<;>intro hc<;>(try simp only[push_cast] at hc)|omega|intro _))
       · obtain rfl:q=Wd.length:=by omega
         rw[←hAn] at *;have pA3:=Aw (putW d x S a s (k+1));refine W_T ?_;(with_reducible repeat' (first|(simp(disch:=omega)only[push_cast,↓zz,seval,pR,pFi,pX,pO,pL,pRU,pFI,pST,pRI,pA3,pw,pWd])|refine And.intro ?_ ?_|(first|refine Ab ?_ ?_|refine Aa ?_ ?_)<;>intro hc<;>(try simp only[push_cast] at hc)|omega|intro _))
         all_goals
           refine⟨k+1,?_⟩;(with_reducible repeat' (first|(simp(disch:=omega)only[push_cast,↓zz,seval,pR,pFi,pX,pO,pL,pRU,pFI,pST,pRI,pA3])|refine And.intro ?_ ?_|(first|refine Ab ?_ ?_|refine Aa ?_ ?_)<;>intro hc<;>(try simp only[push_cast] at hc)|omega|intro _))
   · obtain rfl:k=(ruI d.rules s).length:=by omega
     have hall:putW d x S a s (ruI d.rules s).length=allW d x S a s:=rfl;have hlk:(allW d x S a s).length≤900000000:=hlk;rw[hall]
     have hSo:=zf9 (allW d x S a s) (by omega) (fun w hw=>by
       have h1:w∈outW d x a (s:Nat):=by rw[←hMeq,G0];exact hw
       have h2:w.length≤100000000:=Wx hgoes ht ⟨fun r hr=>(hk.rb r hr).2.1.1,fun f hf=>(hk.fb f hf).2.1⟩ hn hx ha htn (((Oe hgoes ht ha htn).2 w).1 h1)
       exact Nat.le_trans h2 (by decide))
     have hML:=Ru (allW d x S a s);have pA:=Aw (allW d x S a s);generalize allW d x S a s=A at *;generalize Gz A=M at *;have pM:=Aw M;have hmul:(a:Int) * (n:Int)=((a * n:Nat):Int):=by norm_cast
     have hmulb:a * n≤1024 * 1024:=Nat.mul_le_mul (by omega) hn;have sM:=sST M;generalize hpe:a * n+s=p at *;generalize a * n=an at *;have hpi:(an:Int)+(s:Int)=(p:Int):=by omega
     have hdec:decide ((mo:Int)<(M.length:Int))=decide (mo<M.length):=decide_eq_decide.2 (by omega);refine W_T ?_;(with_reducible repeat' (first|(simp(disch:=omega)only[push_cast,↓zz,seval,pR,pFi,pX,pO,pL,pRU,pFI,pST,lST,pA,pM,hdn,hmul,hpi,sM])|refine And.intro ?_ ?_|(first|refine Ab ?_ ?_|refine Aa ?_ ?_)<;>intro hc<;>(try simp only[push_cast] at hc)|refine eK hSo ?_|refine eQ hSo ?_|refine eG hSo ?_|((first|refine cK hSo ?_|refine cQ hSo ?_|refine cG hSo ?_);(simp(disch:=omega)only[push_cast,↓zz,seval,pR,pFi,pX,pO,pL,pRU,pFI,pST,lST,pA,pM,hdn,hmul,hpi,sM]);(fail_if_success change False))|omega|intro _));rw[hdec];exact⟨_,_,z6n (l0:=outH d (C4 d x (.lst 1 RU) (.lst 1 FI) (.lst 1 OD) (.lst 1 LV)) mo n m (setP S a s M) (decide (mo<M.length))) (gar:=[⟨0,2,false,[]⟩]) rfl (Nat.le_refl _) (hcl _ _) trivial,rfl,(setP S a s M,decide (mo<M.length)),rfl,hnext⟩
theorem z3k {P:Program} {f:Nat} {xs:List AV} {l l':List Grp} {K:AV→Ac→Prop} (h:Be P f xs (Abs.hl l') K) (hle:Hi l l l'):Be P f xs (Abs.hl l) K:=⟨h.1,fun S cargs hS hx=>h.2 S cargs (Hj hS hle) hx⟩
noncomputable def outA (d:Desc) (x:List Int) (mo:Nat):AV:=if (outW d x 0 d.start).length≤mo then .tup [Dg (outW d x 0 d.start),.int .i64 0] else .tup [.nilS,.int .i64 5]
theorem zkn {d:Desc} {x:List Int} {n:Nat} (hk:Sk d x n):Be Tryz.prog 60 [B2 d,Ag x] (Abs.hl []) fun y H'=>H'=Abs.hl []∧∃ ord L,y=C4 d x (ruV d.rules n) (fiV d.finals n) (.lst 1 (ord.map e1)) (.lst 1 (lvB n ((x.length+1) * n) L))∧Topo d.rules n ord∧LivE d x n L :=
 zez d x hk.st hk.n1 hk.rl hk.fl hk.start hk.goes hk.cyc hk.ff hk.xl hk.x32 fun r hr=>⟨(hk.rb r hr).1,(hk.rb r hr).2.2⟩
theorem z3l (d:Desc) (x:List Int) {n:Nat} (hk:Sk d x n) (hq:PC Tryz.prog 59 [B2 d,Ag x] (.int .i64 0)) (mo:Nat) (h1:1≤mo) (hmo:mo≤9000000000000000000) (hB:Nat.min mo (outW d x 0 d.start).length≤200000) :
   PC Tryz.prog 26 [B2 d,Ag x,.int .i64 mo] (outA d x mo):=by
 have pR:=Az d.rules;have pFi:=As d.finals;have pX:Ak (x.map (AV.int .i32))=true:=Ay .i32 _;have hBe:=zkn hk;have hdn:=hk.st;refine A7 Ic ?_;unfold Ge;(with_reducible repeat' (first|(simp(disch:=omega)only[push_cast,↓zz,seval,pR,pFi,pX])|refine And.intro ?_ ?_|(first|refine Ab ?_ ?_|refine Aa ?_ ?_)<;>intro hc<;>(try simp only[push_cast] at hc)|refine eK hq ?_|refine eQ hq ?_|refine eG hq ?_|((first|refine cK hq ?_|refine cQ hq ?_|refine cG hq ?_);(simp(disch:=omega)only[push_cast,↓zz,seval,pR,pFi,pX]);(fail_if_success change False))|omega|intro _))
 (refine Vj [] (hBe) (by decide) (by simp) (by (simp(disch:=omega)only[push_cast,↓zz,seval])) (by (simp(disch:=omega)only[push_cast,↓zz,seval])) (by (simp(disch:=omega)only[push_cast,↓zz,seval])) (by (simp(disch:=omega)only[push_cast,↓zz,seval,List.mem_cons,List.not_mem_nil,or_false,forall_eq_or_imp,forall_eq,List.forall_mem_nil])) ?_)
 rintro y H' ⟨rfl,ord,L,rfl,ht,hl⟩;refine⟨_,rfl,by simp,?_⟩;have hmx:(x.length+1) * n≤1025 * 1024:=Nat.mul_le_mul (by have:=hk.xl;omega) hk.n1;have pO:Ak (ord.map e1)=true:=Dc (fun _=>rfl) _;have pL:Ak (lvB n ((x.length+1) * n) L)=true:=O4;have lL:(lvB n ((x.length+1) * n) L).length=(x.length+1) * n:=K8;have pRU:Ak (fD 1 e1 n (ruI d.rules))=true:=E2 fun _=>rfl;have pFI:Ak (fD 1 e1 n (fiI d.finals))=true:=E2 fun _=>rfl;have pRn:(C4 d x (ruV d.rules n) (fiV d.finals n) (.lst 1 (ord.map e1)) (.lst 1 (lvB n ((x.length+1) * n) L))).pure=true:=by simp[AV.pure,Ak,pR,pFi,pX,pO,pL,pRU,pFI,ruV,fiV]
 have hbk:=zkh (σ:=(Nat→Nat→List (List Int)) × Bool) d x (ruV d.rules n) (fiV d.finals n) pRU pFI hdn hk.n1 hk.xl ht (L:=L) 62 [.ptr 5 1 0 0,.ptr 2 1 0 0,.ptr 0 1 0 0,.ptr 4 1 0 0,.ptr 1 1 0 0] 6
   (fun s=>outH d (C4 d x (ruV d.rules n) (fiV d.finals n) (.lst 1 (ord.map e1)) (.lst 1 (lvB n ((x.length+1) * n) L))) mo n ((x.length+1) * n) s.1 s.2) (fun _=>rfl) (fun _=>R5 pRn) ⟨(show 5<6 by omega),(show 2<6 by omega),(show 0<6 by omega),(show 4<6 by omega),(show 1<6 by omega),trivial⟩
   (fun a j s=>OutI d x L ord mo a j s.1 s.2) ((fun _ _=>[]),false) (zes (Dk ht)) (fun a j s ha hj hI hlv=>zfe d x hk ht hl mo hmo hB a j s.1 s.2 ha hj hI hlv)
   (fun a j s ha hj hI hlv=>zeu hI (by rw[Dk ht];exact hj) hlv) (fun a s ha hI=>zk7 hI hl ht)
 generalize hm:(x.length+1) * n=m at *;(with_reducible repeat' (first|(simp(disch:=omega)only[push_cast,↓zz,seval,pR,pFi,pX,lL])|refine And.intro ?_ ?_|(first|refine Ab ?_ ?_|refine Aa ?_ ?_)<;>intro hc<;>(try simp only[push_cast] at hc)|omega|intro _));refine z3k (Be.mono hbk ?_) ?_
 rotate_left
 · unfold outH
   refine⟨⟨rfl,rfl,id,Bf _ _⟩,⟨rfl,rfl,id,Bf _ _⟩,⟨rfl,rfl,id,Bf _ _⟩,⟨rfl,rfl,id,zfb (n:=n)⟩,⟨rfl,rfl,id,Bf _ _⟩,⟨rfl,rfl,id,Bf _ _⟩,trivial⟩
 rintro y H' ⟨rfl,⟨S,many⟩,rfl,hI⟩;simp only at hI ⊢;obtain⟨g1,g2⟩:=zk8 hI hl hk.goes ht hk.start;unfold outH;have hst:=hk.start;obtain⟨s0,hs0⟩:∃ s0:Nat,d.start=s0:=⟨d.start.toNat,by omega⟩;have hsn:s0<n:=by omega
 have hsm:0 * n+s0<m:=by rw[←hm];exact Gi hsn (Nat.zero_le _)
 have aS:(setT n m S).getD s0 .any=Dg (S 0 s0):=by
   have:=zfa (S:=S) (z:=.any) hsn hsm
   rwa [Nat.zero_mul,Nat.zero_add] at this
 have lS:(setT n m S).length=m:=z6v;have pS:Ak (setT n m S)=true:=R4;have hsm2:s0<m:=by omega
 unfold outA;cases many with
 | true =>
   rw[if_neg (by have:=of_decide_eq_true g1.symm;omega)];(with_reducible repeat' (first|(simp(disch:=omega)only[push_cast,↓zz,seval])|refine And.intro ?_ ?_|(first|refine Ab ?_ ?_|refine Aa ?_ ?_)<;>intro hc<;>(try simp only[push_cast] at hc)|omega|intro _))
 | false =>
   have g2:=g2 rfl;rw[if_pos (by have:=of_decide_eq_false g1.symm;omega),←g2,show d.start.toNat=s0 by omega];have pW:=Aw (S 0 s0);(with_reducible repeat' (first|(simp(disch:=omega)only[push_cast,↓zz,seval,hs0,aS,lS,pS,pW])|refine And.intro ?_ ?_|(first|refine Ab ?_ ?_|refine Aa ?_ ?_)<;>intro hc<;>(try simp only[push_cast] at hc)|omega|intro _))
   all_goals trace_state
def zud (l:List Bool) (k:Nat):List Int:=((List.range k).filter fun i=>nth l i).map fun i:Nat=>(i:Int)
noncomputable def zue (d:Desc):List Int:=zud (comeL d) d.states.toNat
noncomputable def goesI (d:Desc):List Int:=zud (goL d) d.states.toNat
end Go.Proofs.YtbcjoeadpjfcfaaGreat
namespace Go.Proofs.YtbcjoeadpjfcfaaGreat
open Abs
noncomputable def zko (d:Desc) (i:Nat):Bool:=z67 (fwdE d) [d.start] i&&z67 (bwdE d) (endE d) i
def cntB (u:Nat→Bool) (k:Nat):Nat:=((List.range k).filter u).length
def numB (u:Nat→Bool) (i:Nat):Int:=if u i=true then (cntB u i:Int) else -1
def keepR (u:Nat→Bool) (l:List Rule):List Rule:=(l.filter fun r=>u r.from_.toNat&&u r.to_.toNat).map fun r=>⟨numB u r.from_.toNat,numB u r.to_.toNat,r.guards,r.eat,r.out⟩
def keepF (u:Nat→Bool) (l:List Eu):List Eu:=(l.filter fun f=>u f.from_.toNat).map fun f=>⟨numB u f.from_.toNat,f.guards,f.out⟩
noncomputable def trimV (d:Desc):Desc :=
 if z67 (bwdE d) (endE d) d.start.toNat=false then Ed d.in_ d.out
 else ⟨d.in_,d.out,cntB (zko d) d.states.toNat,numB (zko d) d.start.toNat,keepR (zko d) d.rules,keepF (zko d) d.finals⟩
theorem Ml (u:Nat→Bool) (k:Nat):cntB u (k+1)=if u k=true then cntB u k+1 else cntB u k:=by
 simp only[cntB,List.range_succ,List.filter_append,List.length_append,List.filter_cons,List.filter_nil];split<;>simp_all
theorem z04 {s x:Int} (h:memL (domL s) x):Er s [[⟨x,x⟩]]=true:=by
 have hb:=(Wm s).2 x h
 have hm:It [⟨x,x⟩] (domL s)=[]:=(Md (fun v hv=>by obtain⟨t,ht,h1,h2⟩:=hv;simp only[List.mem_singleton] at ht;subst ht;simp only at h1 h2;omega) (fun t ht=>by simp only[List.mem_singleton] at ht;subst ht;simp)).2 fun v hv=>by
   obtain⟨t,ht,h1,h2⟩:=hv;simp only[List.mem_singleton] at ht;subst ht;simp only at h1 h2;have:v=x:=by omega
   rw[this];exact h
 have hc:Rf (-1073741826) [⟨x,x⟩]=true:=by simp[Rf];omega
 simp[Er,Rh,hm,Zq,hc]
section
variable {d:Desc}
end
structure Trimmed (c:Desc):Prop where
 check:B6 c=0
 again:trimV c=c
 all:((zue c).length=c.states.toNat∧(goesI c).length=c.states.toNat)∨(c.states=1∧c.rules=[]∧c.finals=[])
theorem z05 {d:Desc} (h:B6 d=0):E1 d:=by
 obtain⟨h1,h2,h3⟩:=El h;refine⟨fun r hr t ht=>?_,fun f hf t ht=>?_⟩
 · have:=h2 r hr
   simp only[Gy,Bool.and_eq_true] at this;have:=(E5 this.2.2.2.2).2 t ht;omega
 · have:=h3 f hf
   simp only[Fj,Bool.and_eq_true] at this;have:=(E5 this.2.2).2 t ht;omega
end Go.Proofs.YtbcjoeadpjfcfaaGreat
set_option maxRecDepth 100000
namespace Go.Proofs.YtbcjoeadpjfcfaaGreat
open Abs
end Go.Proofs.YtbcjoeadpjfcfaaGreat
set_option maxRecDepth 100000
namespace Go.Proofs.YtbcjoeadpjfcfaaGreat
open Abs
end Go.Proofs.YtbcjoeadpjfcfaaGreat
set_option maxRecDepth 100000
set_option linter.unusedSectionVars false
namespace Go.Proofs.YtbcjoeadpjfcfaaGreat
open Abs
section
variable {α β:Type} [Inhabited α]
variable {W:Nat→List α} {g:Nat→α→List β}
end
structure WayOk (n:Nat) (w:Int × List Term):Prop where
 e:0≤w.1∧w.1<n
 l:w.2.length≤70000
 p:∀ t∈w.2,t.parts.length≤4
end Go.Proofs.YtbcjoeadpjfcfaaGreat
set_option maxRecDepth 100000
namespace Go.Proofs.YtbcjoeadpjfcfaaGreat
open Abs
abbrev pathV (p:List Nat):AV:=.lst 1 (p.map e1)
def resV:Option (List Nat)→AV
 | some x=>pathV x
 | none=>.nilS
end Go.Proofs.YtbcjoeadpjfcfaaGreat
set_option maxRecDepth 100000
namespace Go.Proofs.YtbcjoeadpjfcfaaGreat
open Abs
theorem z06 {u v:Nat→Bool}:∀ {n:Nat},(∀ i,i<n→u i=v i)→cntB u n=cntB v n
 | 0,_=>rfl
 | n+1,h=>by rw[Ml,Ml,h n (by omega),z06 fun i hi=>h i (by omega)]
theorem z6x {on:Nat→Bool} {s:Nat} (ho:on s=false):∀ {n:Nat},s<n→cntB (setB on s) n=cntB on n+1
 | n+1,h=>by
   rw[Ml,Ml];by_cases hs:s=n
   · subst hs
     rw[if_pos (by simp[setB]),if_neg (by simp[ho]),z06 (u:=setB on s) (v:=on) fun i hi=>by simp[setB];omega]
   · have:=z6x ho (n:=n) (by omega)
     have e:setB on s n=on n:=by simp[setB];omega
     rw[e];split<;>omega
structure RInv (n:Nat) (F:List Int) (E:List (Int × Int)) (on:Nat→Bool):Prop where
 sound:∀ i:Nat,on i=true→Reach E F i
 base:∀ s∈F,on s.toNat=true
theorem RInv.set {n:Nat} {F:List Int} {E:List (Int × Int)} {on:Nat→Bool} (h:RInv n F E on) {x y:Nat} (hx:on x=true) (he:((x:Int),(y:Int))∈E):RInv n F E (setB on y) where
 sound i hi:=by
   unfold setB at hi;split at hi
   · rename_i e;subst e;exact .step (h.sound x hx) he
   · exact h.sound i hi
 base s hs:=by
   unfold setB;split
   · rfl
   · exact h.base s hs
structure RIn (n:Nat) (F:List Int) (E:List (Int × Int)) (on0 on:Nat→Bool) (more:Bool) (i:Nat):Prop where
 inv:RInv n F E on
 no:more=false→on=on0∧∀ j,j<i→on (nth E j).1.toNat=true→on (nth E j).2.toNat=true
 yes:more=true→cntB on0 n<cntB on n
theorem RIn.start {n:Nat} {F:List Int} {E:List (Int × Int)} {on:Nat→Bool} (h:RInv n F E on):RIn n F E on on false 0 :=
 ⟨h,fun _=>⟨rfl,fun j hj=>absurd hj (Nat.not_lt_zero j)⟩,fun h=>by cases h⟩
theorem RIn.skip {n i:Nat} {F:List Int} {E:List (Int × Int)} {on0 on:Nat→Bool} {more:Bool} (h:RIn n F E on0 on more i) {x y:Nat} (he:nth E i=((x:Int),(y:Int))) (hs:on x=true→on y=true):RIn n F E on0 on more (i+1):=by
 refine⟨h.inv,fun hm=>⟨(h.no hm).1,fun j hj=>?_⟩,h.yes⟩;by_cases e:j=i
 · subst e;rw[he];simpa using hs
 · exact (h.no hm).2 j (by omega)
theorem RIn.take {n i:Nat} {F:List Int} {E:List (Int × Int)} {on0 on:Nat→Bool} {more:Bool} (h:RIn n F E on0 on more i) {x y:Nat} (he:((x:Int),(y:Int))∈E) (hx:on x=true) (hy:on y=false) (hyn:y<n):RIn n F E on0 (setB on y) true (i+1):=by
 refine⟨h.inv.set hx he,fun hm=>(by cases hm),fun _=>?_⟩;have h1:=z6x hy hyn;cases more with
 | true=>have:=h.yes rfl;omega
 | false=>have:=(h.no rfl).1;subst this;omega
theorem RIn.done {n:Nat} {F:List Int} {E:List (Int × Int)} {on0 on:Nat→Bool} (h:RIn n F E on0 on false E.length):∀ e∈E,on e.1.toNat=true→on e.2.toNat=true:=fun e he=>by
 obtain⟨j,hj,rfl⟩:=List.getElem_of_mem he;have:=(h.no rfl).2 j hj;have e:nth E j=E[j]:=by simp[nth,List.getD,hj]
 rwa [e] at this
end Go.Proofs.YtbcjoeadpjfcfaaGreat
namespace Go.Proofs.YtbcjoeadpjfcfaaGreat
open Abs
end Go.Proofs.YtbcjoeadpjfcfaaGreat
namespace Go.Proofs.YtbcjoeadpjfcfaaGreat
open Abs
end Go.Proofs.YtbcjoeadpjfcfaaGreat
set_option maxRecDepth 100000
namespace Go.Proofs.YtbcjoeadpjfcfaaGreat
open Abs
theorem zff {d:Desc} (h:B6 d=0):¬cycP d.rules d.states.toNat:=fun hc=>by
 obtain⟨h1,h2,h3⟩:=El h
 have h0:(Fq d).1=0:=by
   unfold B6 at h;split at h
   · assumption
   · omega
 rw[Fq,if_neg (by simp[h1]),Mf h2] at h0;simp only at h0;rw[Mf h3] at h0;simp only at h0;rw[if_pos hc] at h0;simp at h0
theorem wf_n {d:Desc} (h:B6 d=0):∃ n:Nat,d.states=n∧1≤n∧n≤1024∧¬cycP d.rules n∧∀ r∈d.rules,(0≤r.from_∧r.from_<n)∧0≤r.to_∧r.to_<n:=by
 have hw:=Wl h;obtain⟨n,hn,h1,h2⟩:=hw.n;refine⟨n,hn,h1,h2,?_,fun r hr=>by have:=hw.r r hr;rw[hn] at this;exact this⟩;have:=zff h
 rwa [hn,Int.toNat_natCast] at this
def conT (x:Int):Term:=⟨0,0,21,0,x,[]⟩
theorem R6 {x:Int} (hx:0≤x∧x≤1114111) {w:List Int} (hw:w.all symB=true):D6 (conT x) w=some x:=by
 have ho:(conT x).outer=⟨0,0,21,0⟩:=rfl;obtain⟨_,h1,h2⟩:=Zb (p:=⟨0,0,21,0⟩) (x:=x) (by decide) (by omega);have h3:valB ⟨0,0,21,0⟩ x=true:=h1;rw[D6,if_pos hw];simp only[conT,sumP];show (if valB (conT x).outer x&&decide (x≤1114111) then some (IntKind.i64.wrap (0+valP (conT x).outer x)) else none)=some x;rw[ho,h1,h2,decide_eq_true hx.2,Int.zero_add,IntWalk.i64_in _ (by omega)];rfl
theorem zkp {gs:List (List Span)}:∀ {w:List Int},Win (gs.map symI) w→w.all symB=true:=by
 induction gs with
 | nil=>intro w hw;rw[zeb.1 hw];rfl
 | cons g gs ih =>
   intro w hw;obtain⟨x,r,rfl,h1,h2⟩:=win_cons.1 hw;have hm:=((Mb g).2 x).1 h1;rw[List.all_cons,ih h2,Bool.and_true,symB];exact decide_eq_true hm.1
theorem z6y {x:Int} {i o:Int} {gs:List (List Span)} (h4:gs.length≤4) (hr:Kc (conT x) i o gs.length=true) (hx:0≤x∧x≤1114111) (ho:E9 o x=true):On (conT x) i o gs=true:=by
 refine (Zu h4).2 ⟨hr,fun w hw=>?_⟩;rw[fitW,R6 hx (zkp hw)];simp[hx,ho]
theorem zfg (x:Int):AV.le (.lst 6 [.agg [.int .i64 0,.int .i64 0,.int .i64 21,.int .i64 0,.int .i64 x,.nilS]]) (Ea [conT x]) :=
 AV.le_lst rfl (Bl _) (An (AV.le_agg (An (AV.le_refl _) (An (AV.le_refl _) (An (AV.le_refl _) (An (AV.le_refl _) (An (AV.le_refl _) (An (AV.le_nilS (by decide)) Dd))))))) Dd)
end Go.Proofs.YtbcjoeadpjfcfaaGreat
set_option maxRecDepth 100000
namespace Go.Proofs.YtbcjoeadpjfcfaaGreat
open Abs
theorem F4 {d:Desc} {x:List Int}:askV d x=0↔B6 d=0∧x.length≤1024∧x.all (E9 d.in_)=true:=by
 unfold askV;by_cases h:B6 d=0
 · rw[if_neg (by simp[h])]
   by_cases h2:1024<x.length
   · rw[if_pos h2];constructor
     · intro h;cases h
     · intro h;omega
   · rw[if_neg h2]
     cases h3:x.all (E9 d.in_) with
     | true=>simp[h];omega
     | false=>simp
 · rw[if_pos h];constructor
   · intro h;cases h
   · intro h';exact absurd h'.1 h
theorem W4 {s v:Int} (h:E9 s v=true):0≤v∧v<1114112:=by
 simp only[E9,decide_eq_true_eq] at h;omega
theorem zqh {d:Desc} (h:B6 d=0) {n:Nat} (hn:d.states=n):Goes d n:=by
 obtain⟨h1,h2,h3⟩:=El h;have hw:=Wl h;refine⟨fun r hr=>?_⟩;have h4:=h2 r hr;have h5:=hw.r r hr;rw[hn] at h5;simp only[Gy,eatB,Bool.and_eq_true,Bool.not_eq_true',decide_eq_false_iff_not] at h4;obtain⟨_,_,_,⟨h6,h7⟩,_⟩:=h4;refine⟨h5.1,h5.2,by omega,fun he=>?_⟩;simp only[Cr,decide_eq_false_iff_not] at he;omega
theorem Mm {d:Desc} {x:List Int} (h:askV d x=0):∃ n,Sk d x n:=by
 obtain⟨h1,h2,h3⟩:=F4.1 h;obtain⟨n,hn,hn1,hn2,hc,hl⟩:=wf_n h1;have hw:=Wl h1;have hst:=hw.start;have hff:=hw.f;rw[hn] at hst hff;obtain⟨_,k2,k3⟩:=El h1;refine⟨n,hn,hn2,hst,hw.rl,hw.fl,h2,fun v hv=>?_,zqh h1 hn,hff,fun r hr=>?_,fun f hf=>?_,hc⟩
 · have:=W4 (List.all_eq_true.1 h3 v hv);omega
 · have h4:=k2 r hr
   simp only[Gy,eatB,Bool.and_eq_true,Bool.not_eq_true',decide_eq_false_iff_not] at h4;obtain⟨_,_,h5,⟨h6,h7⟩,h8⟩:=h4;obtain⟨g1,g2⟩:=E4 h5;obtain⟨w1,w2⟩:=E5 h8;exact⟨⟨by omega,fun g hg=>by have:=g2 g hg;omega⟩,⟨w1,fun t ht=>by have:=w2 t ht;omega⟩,by omega,by omega⟩
 · have h4:=k3 f hf
   simp only[Fj,Bool.and_eq_true] at h4;obtain⟨_,h5,h8⟩:=h4;obtain⟨g1,g2⟩:=E4 h5;obtain⟨w1,w2⟩:=E5 h8;exact⟨⟨by omega,fun g hg=>by have:=g2 g hg;omega⟩,w1,fun t ht=>by have:=w2 t ht;omega⟩
noncomputable def runA (d:Desc) (x:List Int) (mo:Int):AV:=if askV d x≠0 then .tup [.nilS,.int .i64 (askV d x)] else if mo<1 then .tup [.nilS,.int .i64 1] else outA d x mo.toNat
theorem Dq (d:Desc) (x:List Int) (hf:E1 d) (hl:x.length≤9223372036854775807) (h32:∀ v∈x,-2147483648≤v∧v≤2147483647) (mo:Int) (hmo:mo≤9000000000000000000) (hB:askV d x=0→Nat.min mo.toNat (outW d x 0 d.start).length≤200000) :
   PC Tryz.prog 26 [B2 d,Ag x,.int .i64 mo] (runA d x mo):=by
 have hq:=zeh d x hf hl h32;have pR:=Az d.rules;have pFi:=As d.finals;have pX:Ak (x.map (AV.int .i32))=true:=Ay .i32 _;unfold runA;by_cases h:askV d x=0
 · rw[if_neg (by simp[h])]
   rw[h] at hq;by_cases h1:mo<1
   · rw[if_pos h1]
     refine A7 Ic ?_;unfold Ge;(with_reducible repeat' (first|(simp(disch:=omega)only[push_cast,↓zz,seval,pR,pFi,pX])|refine And.intro ?_ ?_|(first|refine Ab ?_ ?_|refine Aa ?_ ?_)<;>intro hc<;>(try simp only[push_cast] at hc)|refine eK hq ?_|refine eQ hq ?_|refine eG hq ?_|((first|refine cK hq ?_|refine cQ hq ?_|refine cG hq ?_);(simp(disch:=omega)only[push_cast,↓zz,seval,pR,pFi,pX]);(fail_if_success change False))|omega|intro _))
   · rw[if_neg h1]
     obtain⟨n,hk⟩:=Mm h;obtain⟨m,rfl⟩:∃ m:Nat,mo=m:=⟨mo.toNat,by omega⟩;rw[Int.toNat_natCast] at hB ⊢;exact z3l d x hk hq m (by omega) (by omega) (hB h)
 · rw[if_pos h]
   generalize askV d x=k at *;refine A7 Ic ?_;unfold Ge;(with_reducible repeat' (first|(simp(disch:=omega)only[push_cast,↓zz,seval,pR,pFi,pX,h])|refine And.intro ?_ ?_|(first|refine Ab ?_ ?_|refine Aa ?_ ?_)<;>intro hc<;>(try simp only[push_cast] at hc)|refine eK hq ?_|refine eQ hq ?_|refine eG hq ?_|((first|refine cK hq ?_|refine cQ hq ?_|refine cG hq ?_);(simp(disch:=omega)only[push_cast,↓zz,seval,pR,pFi,pX,h]);(fail_if_success change False))|omega|intro _))
   all_goals trace_state
theorem zfh {l:List Rule} {n:Nat} (hl:∀ r∈l,(0≤r.from_∧r.from_<n)∧0≤r.to_∧r.to_<n) (hc:¬cycP l n) {ord:List Nat} {s:Nat} (hs:s<n) (hso:s∉ord):∃ t,t<n∧t∉ord∧∀ r∈l,Cr r=true→r.from_=(t:Nat)→r.to_.toNat∈ord:=by
 refine Classical.byContradiction fun hno=>?_
 have hx:∀ t,t<n→t∉ord→∃ i,i<l.length∧Cr (nth l i)=true∧(nth l i).from_=(t:Nat)∧(nth l i).to_.toNat∉ord:=fun t h1 h2=>by
   refine Classical.byContradiction fun h3=>hno ⟨t,h1,h2,fun r hr he hf=>?_⟩;refine Classical.byContradiction fun h4=>h3 ?_;obtain⟨i,hi,rfl⟩:=List.getElem_of_mem hr;exact⟨i,hi,by rw[Fe hi];exact he,by rw[Fe hi];exact hf,by rw[Fe hi];exact h4⟩
 have key:∀ k:Nat,∃ (q:List Nat) (t:Nat),okP l (s:Nat) q∧endP l (s:Nat) q=(t:Nat)∧t<n∧t∉ord∧k≤q.length:=fun k=>by
   induction k with
   | zero=>exact⟨[],s,trivial,rfl,hs,hso,Nat.le_refl _⟩
   | succ k ih =>
     obtain⟨q,t,q1,q2,q3,q4,q5⟩:=ih;obtain⟨i,i1,i2,i3,i4⟩:=hx t q3 q4;have hr:=hl _ (Au i1);refine⟨q++[i],(nth l i).to_.toNat,?_,?_,by omega,i4,by simp;omega⟩
     · rw[Wu,q2];exact⟨q1,Wt.2 ⟨i1,i2,i3⟩,trivial⟩
     · rw[O2,q2]
       show (nth l i).to_=_;omega
 obtain⟨q,t,q1,_,_,_,q5⟩:=key (n+2);have:=zei hl hc (by omega) q1;omega
theorem zqi {l:List Rule} {n:Nat} (hl:∀ r∈l,(0≤r.from_∧r.from_<n)∧0≤r.to_∧r.to_<n) (hc:¬cycP l n):∃ ord,Topo l n ord:=by
 have hole:∀ ord:List Nat,ord.Nodup→(∀ a∈ord,a<n)→∀ s,s<n→s∉ord→ord.length<n:=fun ord h1 h2 s hs hso=>by
   have:=Ip (l:=s::ord) (m:=List.range n) (List.nodup_cons.2 ⟨hso,h1⟩) fun a ha=>by
     rcases List.mem_cons.1 ha with rfl|ha
     · exact List.mem_range.2 hs
     · exact List.mem_range.2 (h2 a ha)
   simp at this;omega
 have key:∀ k,k≤n→∃ ord:List Nat,ord.length=k∧z38 l ord∧ord.Nodup∧∀ a∈ord,a<n:=fun k=>by
   induction k with
   | zero=>exact fun _=>⟨[],rfl,fun i hi=>absurd hi (Nat.not_lt_zero _),List.nodup_nil,fun a h=>by cases h⟩
   | succ k ih =>
     intro hk;obtain⟨ord,o1,o2,o3,o4⟩:=ih (by omega)
     obtain⟨s,hs,hso⟩:∃ s,s<n∧s∉ord:=by
       refine Classical.byContradiction fun hno=>?_
       have:=Ip (l:=List.range n) (m:=ord) List.nodup_range fun a ha=>by
         refine Classical.byContradiction fun h=>hno ⟨a,List.mem_range.1 ha,h⟩
       simp at this;omega
     obtain⟨t,t1,t2,t3⟩:=zfh hl hc hs hso;refine⟨ord++[t],by simp[o1],Z3 o2 fun r hr he hf=>⟨r.to_.toNat,?_,t3 r hr he hf⟩,?_,fun a ha=>?_⟩
     · have:=hl r hr;omega
     · refine List.nodup_append.2 ⟨o3,List.nodup_cons.2 ⟨by simp,List.nodup_nil⟩,fun a ha b hb=>?_⟩
       rw[List.mem_singleton.1 hb];rintro rfl;exact t2 ha
     · rcases List.mem_append.1 ha with h|h
       · exact o4 a h
       · rw[List.mem_singleton.1 h];exact t1
 obtain⟨ord,o1,o2,o3,o4⟩:=key n (Nat.le_refl _);refine⟨ord,o3,fun s=>⟨o4 s,fun hs=>?_⟩,o2⟩;refine Classical.byContradiction fun h=>?_;have:=hole ord o3 o4 s hs h;omega
theorem Uv {d:Desc} {x:List Int} {n:Nat} (hk:Sk d x n):∃ ord,Topo d.rules n ord:=zqi (fun r hr=>⟨(hk.goes.r r hr).1,(hk.goes.r r hr).2.1⟩) hk.cyc
theorem Mn {d:Desc} {x:List Int} {n:Nat} (hk:Sk d x n) {a:Nat} {s:Int} (ha:a≤x.length) (hs:0≤s∧s<n):J7 d x a s (outW d x a s):=by
 obtain⟨ord,ht⟩:=Uv hk;have:=Oe hk.goes ht ha (t:=s.toNat) (by omega)
 rwa [Int.toNat_of_nonneg hs.1] at this
theorem R7 {d:Desc} {x:List Int} {n:Nat} (hk:Sk d x n) {w:List Int} (hw:w∈outW d x 0 d.start):w.length≤100000000:=by
 obtain⟨ord,ht⟩:=Uv hk;have h1:=((Mn hk (Nat.zero_le _) hk.start).2 w).1 hw;have h2:=hk.start;have e:((d.start.toNat:Nat):Int)=d.start:=Int.toNat_of_nonneg h2.1;rw[←e] at h1;exact Wx hk.goes ht ⟨fun r hr=>(hk.rb r hr).2.1.1,fun f hf=>(hk.fb f hf).2.1⟩ hk.n1 hk.xl (Nat.zero_le _) (by omega) h1
end Go.Proofs.YtbcjoeadpjfcfaaGreat
set_option maxRecDepth 100000
namespace Go.Proofs.YtbcjoeadpjfcfaaGreat
open Abs
theorem z3m {d:Desc} {x:List Int} {n:Nat} (hk:Sk d x n) {a:Nat} {s:Int} (ha:a≤x.length) (hs:0≤s∧s<n):outW d x a s=Gz (outL d x (outW d x) a s) :=
 Rv (Wv fun r hr hf hgo=>by
   obtain⟨_,htt,_,_⟩:=hk.goes.r r hr;have:=Jg hgo;have:=(hk.goes.r r hr).2.2.1
   exact Mn hk (by omega) htt)
theorem K9 (d:Desc) (x:List Int) (hl:x.length≤9223372036854775807):PC Tryz.prog 23 [B2 d,Ag x] (.bool (!E6 d||(decide (12<x.length)&&decide (x.length≤1024)))):=by
 have hS:=z2w d;have pR:=Az d.rules;have pF:=As d.finals;have pX:Ak (x.map (AV.int .i32))=true:=Ay .i32 _;generalize E6 d=b at *;refine A7 Vo ?_;unfold Ls;cases b with
 | false =>
   rw[Bool.not_false,Bool.true_or];(with_reducible repeat' (first|(simp(disch:=omega)only[push_cast,↓zz,seval,pR,pF,pX])|refine And.intro ?_ ?_|(first|refine Ab ?_ ?_|refine Aa ?_ ?_)<;>intro hc<;>(try simp only[push_cast] at hc)|refine eK hS ?_|refine eQ hS ?_|refine eG hS ?_|((first|refine cK hS ?_|refine cQ hS ?_|refine cG hS ?_);(simp(disch:=omega)only[push_cast,↓zz,seval,pR,pF,pX]);(fail_if_success change False))|omega|intro _))
 | true =>
   by_cases h1:12<x.length
   · by_cases h2:x.length≤1024
     · rw[decide_eq_true h1,decide_eq_true h2,Bool.not_true,Bool.false_or,Bool.and_true]
       (with_reducible repeat' (first|(simp(disch:=omega)only[push_cast,↓zz,seval,pR,pF,pX])|refine And.intro ?_ ?_|(first|refine Ab ?_ ?_|refine Aa ?_ ?_)<;>intro hc<;>(try simp only[push_cast] at hc)|refine eK hS ?_|refine eQ hS ?_|refine eG hS ?_|((first|refine cK hS ?_|refine cQ hS ?_|refine cG hS ?_);(simp(disch:=omega)only[push_cast,↓zz,seval,pR,pF,pX]);(fail_if_success change False))|omega|intro _))
       all_goals first|omega|trace_state
     · rw[decide_eq_true h1,decide_eq_false h2,Bool.not_true,Bool.false_or,Bool.and_false]
       (with_reducible repeat' (first|(simp(disch:=omega)only[push_cast,↓zz,seval,pR,pF,pX])|refine And.intro ?_ ?_|(first|refine Ab ?_ ?_|refine Aa ?_ ?_)<;>intro hc<;>(try simp only[push_cast] at hc)|refine eK hS ?_|refine eQ hS ?_|refine eG hS ?_|((first|refine cK hS ?_|refine cQ hS ?_|refine cG hS ?_);(simp(disch:=omega)only[push_cast,↓zz,seval,pR,pF,pX]);(fail_if_success change False))|omega|intro _))
       all_goals first|omega|trace_state
   · rw[decide_eq_false h1,Bool.not_true,Bool.false_or,Bool.false_and]
     (with_reducible repeat' (first|(simp(disch:=omega)only[push_cast,↓zz,seval,pR,pF,pX])|refine And.intro ?_ ?_|(first|refine Ab ?_ ?_|refine Aa ?_ ?_)<;>intro hc<;>(try simp only[push_cast] at hc)|refine eK hS ?_|refine eQ hS ?_|refine eG hS ?_|((first|refine cK hS ?_|refine cQ hS ?_|refine cG hS ?_);(simp(disch:=omega)only[push_cast,↓zz,seval,pR,pF,pX]);(fail_if_success change False))|omega|intro _))
     all_goals first|omega|trace_state
def exR:Desc:=⟨1,1,1,0,[⟨0,0,[[⟨97,97⟩]],1,[conT 120]⟩,⟨0,0,[[⟨97,97⟩]],1,[conT 121]⟩],[⟨0,[],[]⟩]⟩
theorem z07:B6 exR=0:=by
 refine (Io (by decide) (fun r hr=>?_) (fun f hf=>?_) ?_).2
 · simp only[exR,List.mem_cons,List.not_mem_nil,or_false] at hr
   rcases hr with rfl|rfl
   · simp only[Gy,Fi,Bool.and_eq_true,List.all_cons,List.all_nil]
     exact⟨by decide,by decide,z04 (K5.2 (by decide)),by decide,by decide,z6y (by decide) (by decide) (by decide) (by decide),trivial⟩
   · simp only[Gy,Fi,Bool.and_eq_true,List.all_cons,List.all_nil]
     exact⟨by decide,by decide,z04 (K5.2 (by decide)),by decide,by decide,z6y (by decide) (by decide) (by decide) (by decide),trivial⟩
 · simp only[exR,List.mem_singleton] at hf
   subst hf;decide
 · rintro⟨C,hC,j,hj⟩
   obtain⟨_,r,hr,he,_,hf⟩:=hC j hj;simp only[exR,List.mem_cons,List.not_mem_nil,or_false] at hr;rcases hr with rfl|rfl<;>simp[Cr] at he
theorem zfi:askV exR [97,97]=0:=F4.2 ⟨z07,by decide,by decide⟩
theorem zqj:outW exR [97,97] 0 exR.start=[[120,120],[120,121],[121,120],[121,121]]:=by
 obtain⟨n,hk⟩:=Mm zfi;have hn:(0:Int)≤0∧(0:Int)<n:=by have:=hk.start;exact this
 have w1:∀ a,a<2→∀ gs,D3 [97,97] [conT 120] [[gs]] a=[120]:=fun a ha gs=>by
   simp only[D3,Ee,List.map_cons,List.map_nil];rw[R6 (by decide) (by rcases (show a=0∨a=1 by omega) with rfl|rfl<;>rfl)];rfl
 have w2:∀ a,a<2→∀ gs,D3 [97,97] [conT 121] [[gs]] a=[121]:=fun a ha gs=>by
   simp only[D3,Ee,List.map_cons,List.map_nil];rw[R6 (by decide) (by rcases (show a=0∨a=1 by omega) with rfl|rfl<;>rfl)];rfl
 have h2:outW exR [97,97] 2 0=[[]]:=by
   rw[z3m hk (by decide) hn];rfl
 have h1:outW exR [97,97] 1 0=[[120],[121]]:=by
   rw[z3m hk (by decide) hn];have e:∀ S:Nat→Int→List (List Int),outL exR [97,97] S 1 0=(S 2 0).map (D3 [97,97] [conT 120] [[⟨97,97⟩]] 1++·)++((S 2 0).map (D3 [97,97] [conT 121] [[⟨97,97⟩]] 1++·)++[]):=fun S=>rfl
   rw[e,h2,w1 1 (by decide),w2 1 (by decide)];rfl
 show outW exR [97,97] 0 0=_;rw[z3m hk (by decide) hn];have e:∀ S:Nat→Int→List (List Int),outL exR [97,97] S 0 0=(S 1 0).map (D3 [97,97] [conT 120] [[⟨97,97⟩]] 0++·)++((S 1 0).map (D3 [97,97] [conT 121] [[⟨97,97⟩]] 0++·)++[]):=fun S=>rfl
 rw[e,h1,w1 0 (by decide),w2 0 (by decide)];rfl
abbrev exRV:AV:=.agg [.int .i64 1,.int .i64 1,.int .i64 1,.int .i64 0,.lst 5 [.agg [.int .i64 0,.int .i64 0,Ao [[⟨97,97⟩]],.int .i64 1,.lst 6 [.agg [.int .i64 0,.int .i64 0,.int .i64 21,.int .i64 0,.int .i64 120,.nilS]]],.agg [.int .i64 0,.int .i64 0,Ao [[⟨97,97⟩]],.int .i64 1,.lst 6 [.agg [.int .i64 0,.int .i64 0,.int .i64 21,.int .i64 0,.int .i64 121,.nilS]]]],.lst 3 [.agg [.int .i64 0,.nilS,.nilS]]]
theorem zfj:AV.le exRV (B2 exR):=by
 refine AV.le_agg (An (AV.le_refl _) (An (AV.le_refl _) (An (AV.le_refl _) (An (AV.le_refl _) (An (AV.le_lst rfl (Az _) ?_) (An (AV.le_lst rfl (As _) ?_) Dd))))))
 · refine An (AV.le_agg (An (AV.le_refl _) (An (AV.le_refl _) (An (AV.le_refl _) (An (AV.le_refl _) (An (zfg 120) Dd)))))) (An (AV.le_agg (An (AV.le_refl _) (An (AV.le_refl _) (An (AV.le_refl _) (An (AV.le_refl _) (An (zfg 121) Dd)))))) Dd)
 · exact An (AV.le_agg (An (AV.le_refl _) (An (AV.le_nilS (by decide)) (An (AV.le_nilS (by decide)) Dd)))) Dd
theorem La:PC Tryz.prog 24 [] (.bool true):=by
 have hf:=z05 z07;have h4:=Dq exR [97,97] hf (by decide) (by decide) 4 (by decide) fun _=>Nat.le_trans (Nat.min_le_left _ _) (by decide);have h3:=Dq exR [97,97] hf (by decide) (by decide) 3 (by decide) fun _=>Nat.le_trans (Nat.min_le_left _ _) (by decide);unfold runA outA at h4 h3;rw[if_neg (by simp[zfi]),if_neg (by decide),zqj] at h4 h3;rw[if_pos (by decide)] at h4;rw[if_neg (by decide)] at h3;have h4:=Ku h4 (An zfj (An (AV.le_refl _) (An (AV.le_refl _) Dd)));have h3:=Ku h3 (An zfj (An (AV.le_refl _) (An (AV.le_refl _) Dd)));have hrs:Kk [120,121]=[120,121]:=by decide +kernel
 refine pc_t' Vp ?_;unfold Lt;refine zg9 (W_T ?_);(with_reducible repeat' (first|(simp(disch:=omega)only[push_cast,↓zz,seval])|refine And.intro ?_ ?_|(first|refine Ab ?_ ?_|refine Aa ?_ ?_)<;>intro hc<;>(try simp only[push_cast] at hc)|omega|intro _));refine zg9 (W_T ?_);(with_reducible repeat' (first|(simp(disch:=omega)only[push_cast,↓zz,seval])|refine And.intro ?_ ?_|(first|refine Ab ?_ ?_|refine Aa ?_ ?_)<;>intro hc<;>(try simp only[push_cast] at hc)|omega|intro _));refine zg9 (W_T ?_);(with_reducible repeat' (first|(simp(disch:=omega)only[push_cast,↓zz,seval])|refine And.intro ?_ ?_|(first|refine Ab ?_ ?_|refine Aa ?_ ?_)<;>intro hc<;>(try simp only[push_cast] at hc)|omega|intro _));refine Yl (z8h (l':=[⟨0,2,false,[]⟩,⟨0,2,false,[]⟩,⟨0,2,false,[]⟩,⟨0,2,false,[]⟩,⟨0,2,false,[]⟩,⟨0,2,false,[]⟩,⟨6,1,true,[exRV]⟩]) (g:=6) (d:=8) [0,1,2,3,4,5] (by decide) (by simp) rfl (by decide) ?_ ?_) (W_T ?_)
 · (simp(disch:=omega)only[push_cast,↓zz,seval])
 · rfl
 (with_reducible repeat' (first|(simp(disch:=omega)only[push_cast,↓zz,seval,hrs])|refine And.intro ?_ ?_|(first|refine Ab ?_ ?_|refine Aa ?_ ?_)<;>intro hc<;>(try simp only[push_cast] at hc)|(have q_:=(h4);(first|refine eK q_ ?_|refine eQ q_ ?_|refine eG q_ ?_);clear q_)|(have q_:=(h3);(first|refine eK q_ ?_|refine eQ q_ ?_|refine eG q_ ?_);clear q_)|(have q_:=(h4);(first|refine cK q_ ?_|refine cQ q_ ?_|refine cG q_ ?_);clear q_;(simp(disch:=omega)only[push_cast,↓zz,seval,hrs]);(fail_if_success change False))|(have q_:=(h3);(first|refine cK q_ ?_|refine cQ q_ ?_|refine cG q_ ?_);clear q_;(simp(disch:=omega)only[push_cast,↓zz,seval,hrs]);(fail_if_success change False))|omega|intro _))
 all_goals
   refine⟨[120,121],rfl,?_⟩;(with_reducible repeat' (first|(simp(disch:=omega)only[push_cast,↓zz,seval,hrs])|refine And.intro ?_ ?_|(first|refine Ab ?_ ?_|refine Aa ?_ ?_)<;>intro hc<;>(try simp only[push_cast] at hc)|(have q_:=(h4);(first|refine eK q_ ?_|refine eQ q_ ?_|refine eG q_ ?_);clear q_)|(have q_:=(h3);(first|refine eK q_ ?_|refine eQ q_ ?_|refine eG q_ ?_);clear q_)|(have q_:=(h4);(first|refine cK q_ ?_|refine cQ q_ ?_|refine cG q_ ?_);clear q_;(simp(disch:=omega)only[push_cast,↓zz,seval,hrs]);(fail_if_success change False))|(have q_:=(h3);(first|refine cK q_ ?_|refine cQ q_ ?_|refine cG q_ ?_);clear q_;(simp(disch:=omega)only[push_cast,↓zz,seval,hrs]);(fail_if_success change False))|omega|intro _))
 all_goals trace_state
end Go.Proofs.YtbcjoeadpjfcfaaGreat
set_option maxRecDepth 100000
namespace Go.Proofs.YtbcjoeadpjfcfaaGreat
open Abs
theorem J3 {d:Desc} {x:List Int} {mo:Int} (h:askV d x≠0):runA d x mo=.tup [.nilS,.int .i64 (askV d x)]:=by unfold runA;rw[if_pos h]
theorem G8 {d:Desc} {x:List Int} {mo:Nat} (h:askV d x=0) (h1:1≤mo) (hle:(outW d x 0 d.start).length≤mo):runA d x mo=.tup [Dg (outW d x 0 d.start),.int .i64 0]:=by
 unfold runA outA;rw[if_neg (by simp[h]),if_neg (by omega),Int.toNat_natCast,if_pos hle]
theorem Mo {d:Desc} {x:List Int} {mo:Nat} (h:askV d x=0) (h1:1≤mo) (hle:mo<(outW d x 0 d.start).length):runA d x mo=.tup [.nilS,.int .i64 5]:=by
 unfold runA outA;rw[if_neg (by simp[h]),if_neg (by omega),Int.toNat_natCast,if_neg (by omega)]
theorem W5 (d:Desc) (x:List Int) (hl:x.length≤9223372036854775807) (h32:∀ v∈x,-2147483648≤v∧v≤2147483647):PC Tryz.prog 6 [B2 d,Ag x] (.bool true):=by
 have hA:=La;have hG:=K9 d x hl;have pR:=Az d.rules;have pF:=As d.finals;have pX:Ak (x.map (AV.int .i32))=true:=Ay .i32 _;cases hgr:(!E6 d||(decide (12<x.length)&&decide (x.length≤1024))) with
 | true =>
   rw[hgr] at hG;refine A7 C0 ?_;unfold Co;(with_reducible repeat' (first|(simp(disch:=omega)only[push_cast,↓zz,seval,pR,pF,pX])|refine And.intro ?_ ?_|(first|refine Ab ?_ ?_|refine Aa ?_ ?_)<;>intro hc<;>(try simp only[push_cast] at hc)|refine eK hG ?_|refine eQ hG ?_|refine eG hG ?_|refine eK hA ?_|refine eQ hA ?_|refine eG hA ?_|((first|refine cK hG ?_|refine cQ hG ?_|refine cG hG ?_|refine cK hA ?_|refine cQ hA ?_|refine cG hA ?_);(simp(disch:=omega)only[push_cast,↓zz,seval,pR,pF,pX]);(fail_if_success change False))|omega|intro _))
 | false =>
 rw[hgr] at hG
 have hsm:E6 d=true:=by
   cases h:E6 d with
   | true=>rfl
   | false=>rw[h] at hgr;simp at hgr
 have hsh:=K6 hsm;have hB:∀ mo:Nat,mo≤200000→Nat.min mo (outW d x 0 d.start).length≤200000:=fun mo h=>Nat.le_trans (Nat.min_le_left _ _) h;have hR:=fun (mo:Nat) (hmo:mo≤200000)=>Dq d x hsh.fin hl h32 mo (by omega) fun _=>by rw[Int.toNat_natCast];exact hB mo hmo
 have hR300:=hR 300 (by decide);by_cases hq:askV d x=0
 · obtain⟨n,hk⟩:=Mm hq
   have hW:∀ w∈outW d x 0 d.start,w.length≤1000000000000:=fun w hw=>by have:=R7 hk hw;omega
   have hM:=fun hl=>Je (outW d x 0 d.start) (outW d x 0 d.start) hl hW;by_cases hle:(outW d x 0 d.start).length≤300
   · rw[G8 hq (by decide) hle] at hR300
     have hM:=hM (by omega);rw[decide_eq_true rfl] at hM;by_cases h0:(outW d x 0 d.start).length=0
     · generalize outW d x 0 d.start=W at *
       have pW:=Aw W;refine A7 C0 ?_;unfold Co;(with_reducible repeat' (first|(simp(disch:=omega)only[push_cast,↓zz,seval,pR,pF,pX,pW])|refine And.intro ?_ ?_|(first|refine Ab ?_ ?_|refine Aa ?_ ?_)<;>intro hc<;>(try simp only[push_cast] at hc)|refine eK hG ?_|refine eQ hG ?_|refine eG hG ?_|refine eK hR300 ?_|refine eQ hR300 ?_|refine eG hR300 ?_|refine eK hA ?_|refine eQ hA ?_|refine eG hA ?_|((first|refine cK hG ?_|refine cQ hG ?_|refine cG hG ?_|refine cK hR300 ?_|refine cQ hR300 ?_|refine cG hR300 ?_|refine cK hA ?_|refine cQ hA ?_|refine cG hA ?_);(simp(disch:=omega)only[push_cast,↓zz,seval,pR,pF,pX,pW]);(fail_if_success change False))|omega|intro _))
       all_goals first|omega|trace_state
     · have hRn:=hR (outW d x 0 d.start).length (by omega)
       rw[G8 hq (by omega) (Nat.le_refl _)] at hRn;by_cases h1:(outW d x 0 d.start).length=1
       · generalize outW d x 0 d.start=W at *
         have pW:=Aw W;have h1':(W.length:Int)=1:=by omega
         refine A7 C0 ?_;unfold Co;(with_reducible repeat' (first|(simp(disch:=omega)only[push_cast,↓zz,seval,pR,pF,pX,pW])|refine And.intro ?_ ?_|(first|refine Ab ?_ ?_|refine Aa ?_ ?_)<;>intro hc<;>(try simp only[push_cast] at hc)|refine eK hG ?_|refine eQ hG ?_|refine eG hG ?_|refine eK hR300 ?_|refine eQ hR300 ?_|refine eG hR300 ?_|refine eK hRn ?_|refine eQ hRn ?_|refine eG hRn ?_|refine eK hM ?_|refine eQ hM ?_|refine eG hM ?_|refine eK hA ?_|refine eQ hA ?_|refine eG hA ?_|((first|refine cK hG ?_|refine cQ hG ?_|refine cG hG ?_|refine cK hR300 ?_|refine cQ hR300 ?_|refine cG hR300 ?_|refine cK hRn ?_|refine cQ hRn ?_|refine cG hRn ?_|refine cK hM ?_|refine cQ hM ?_|refine cG hM ?_|refine cK hA ?_|refine cQ hA ?_|refine cG hA ?_);(simp(disch:=omega)only[push_cast,↓zz,seval,pR,pF,pX,pW]);(fail_if_success change False))|omega|intro _))
         all_goals first|omega|trace_state
       · obtain⟨m,hm⟩:∃ m,(outW d x 0 d.start).length=m+1:=⟨(outW d x 0 d.start).length-1,by omega⟩
         have hRm:=hR m (by omega);rw[Mo hq (by omega) (by omega)] at hRm;generalize outW d x 0 d.start=W at *;have pW:=Aw W;have hmi:(W.length:Int)-1=(m:Int):=by omega
         refine A7 C0 ?_;unfold Co;(with_reducible repeat' (first|(simp(disch:=omega)only[push_cast,↓zz,seval,pR,pF,pX,pW,hmi])|refine And.intro ?_ ?_|(first|refine Ab ?_ ?_|refine Aa ?_ ?_)<;>intro hc<;>(try simp only[push_cast] at hc)|refine eK hG ?_|refine eQ hG ?_|refine eG hG ?_|refine eK hR300 ?_|refine eQ hR300 ?_|refine eG hR300 ?_|refine eK hRn ?_|refine eQ hRn ?_|refine eG hRn ?_|refine eK hRm ?_|refine eQ hRm ?_|refine eG hRm ?_|refine eK hM ?_|refine eQ hM ?_|refine eG hM ?_|refine eK hA ?_|refine eQ hA ?_|refine eG hA ?_|((first|refine cK hG ?_|refine cQ hG ?_|refine cG hG ?_|refine cK hR300 ?_|refine cQ hR300 ?_|refine cG hR300 ?_|refine cK hRn ?_|refine cQ hRn ?_|refine cG hRn ?_|refine cK hRm ?_|refine cQ hRm ?_|refine cG hRm ?_|refine cK hM ?_|refine cQ hM ?_|refine cG hM ?_|refine cK hA ?_|refine cQ hA ?_|refine cG hA ?_);(simp(disch:=omega)only[push_cast,↓zz,seval,pR,pF,pX,pW,hmi]);(fail_if_success change False))|omega|intro _))
         all_goals first|omega|trace_state
   · rw[Mo hq (by decide) (by omega)] at hR300
     refine A7 C0 ?_;unfold Co;(with_reducible repeat' (first|(simp(disch:=omega)only[push_cast,↓zz,seval,pR,pF,pX])|refine And.intro ?_ ?_|(first|refine Ab ?_ ?_|refine Aa ?_ ?_)<;>intro hc<;>(try simp only[push_cast] at hc)|refine eK hG ?_|refine eQ hG ?_|refine eG hG ?_|refine eK hR300 ?_|refine eQ hR300 ?_|refine eG hR300 ?_|refine eK hA ?_|refine eQ hA ?_|refine eG hA ?_|((first|refine cK hG ?_|refine cQ hG ?_|refine cG hG ?_|refine cK hR300 ?_|refine cQ hR300 ?_|refine cG hR300 ?_|refine cK hA ?_|refine cQ hA ?_|refine cG hA ?_);(simp(disch:=omega)only[push_cast,↓zz,seval,pR,pF,pX]);(fail_if_success change False))|omega|intro _))
 · rw[J3 hq] at hR300
   generalize askV d x=k at *;refine A7 C0 ?_;unfold Co;(with_reducible repeat' (first|(simp(disch:=omega)only[push_cast,↓zz,seval,pR,pF,pX,hq])|refine And.intro ?_ ?_|(first|refine Ab ?_ ?_|refine Aa ?_ ?_)<;>intro hc<;>(try simp only[push_cast] at hc)|refine eK hG ?_|refine eQ hG ?_|refine eG hG ?_|refine eK hR300 ?_|refine eQ hR300 ?_|refine eG hR300 ?_|refine eK hA ?_|refine eQ hA ?_|refine eG hA ?_|((first|refine cK hG ?_|refine cQ hG ?_|refine cG hG ?_|refine cK hR300 ?_|refine cQ hR300 ?_|refine cG hR300 ?_|refine cK hA ?_|refine cQ hA ?_|refine cG hA ?_);(simp(disch:=omega)only[push_cast,↓zz,seval,pR,pF,pX,hq]);(fail_if_success change False))|omega|intro _))
   all_goals trace_state
theorem R8 {d:Desc} (h:Nf d=false):B6 d=2:=by
 have:Fq d=(1,0):=by rw[Fq,if_pos h]
 rw[B6,this];rfl
theorem z3n {s:Int} (h:¬(s=1∨s=2)):domL s=[]:=by
 unfold domL;rw[if_neg (by omega),if_neg (by omega)]
theorem Jk (a b:Int):B6 (Ed a b)=0↔(a=1∨a=2)∧(b=1∨b=2):=by
 constructor
 · intro h
   by_cases ha:a=1∨a=2
   · by_cases hb:b=1∨b=2
     · exact⟨ha,hb⟩
     · have:B6 (Ed a b)=2:=R8 (by simp[Nf,Ed,z3n hb])
       omega
   · have:B6 (Ed a b)=2:=R8 (by simp[Nf,Ed,z3n ha])
     omega
 · rintro⟨ha,hb⟩
   exact (z2v ha hb).2
theorem Kg (a:Int):B6 (Es a)=0↔(a=1∨a=2):=by
 constructor
 · intro h
   by_cases ha:a=1∨a=2
   · exact ha
   · have:B6 (Es a)=2:=R8 (by simp[Nf,Es,z3n ha])
     omega
 · intro ha
   exact (z9n ha).2
end Go.Proofs.YtbcjoeadpjfcfaaGreat
set_option maxRecDepth 100000
namespace Go.Proofs.YtbcjoeadpjfcfaaGreat
open Abs
theorem zqk (s:Int) (l:List Int) (hl:l.length≤1000000000000) (h32:∀ x∈l,-2147483648≤x∧x≤2147483647):PC Tryz.prog 31 [.int .i64 s,Ag l] (.bool (l.all (E9 s))):=by
 have pI:Ak (l.map (AV.int .i32))=true:=Ay .i32 _;refine A7 Yn ?_;unfold No;(with_reducible repeat' (first|(simp(disch:=omega)only[push_cast,↓zz,seval,pI])|refine And.intro ?_ ?_|(first|refine Ab ?_ ?_|refine Aa ?_ ?_)<;>intro hc<;>(try simp only[push_cast] at hc)|omega|intro _))
 refine Ax (A8 (fun (k:Nat)=>k≤l.length∧l.all (E9 s)=(l.drop k).all (E9 s)) (fun k=>l.length-k)
   (fun k=>[(0,.int .i64 s),(1,Ag l),(5,.int .i64 k)]) (fun _=>[]) (fun _ _=>[]) 0 (by simp) ?_ ?_)
 · (with_reducible repeat' (first|(simp(disch:=omega)only[push_cast,↓zz,seval,pI])|refine And.intro ?_ ?_|(first|refine Ab ?_ ?_|refine Aa ?_ ?_)<;>intro hc<;>(try simp only[push_cast] at hc)|omega|intro _))
 rintro k ⟨hk,hr⟩;rcases Nat.lt_or_ge k l.length with hkl|hkl
 · have hI:=zjq s (nth l k) (h32 _ (Au hkl))
   rw[drop_at hkl,List.all_cons] at hr;generalize E9 s (nth l k)=b at *;cases b with
   | true =>
     refine W_T ?_;(with_reducible repeat' (first|(simp(disch:=omega)only[push_cast,↓zz,seval,pI])|refine And.intro ?_ ?_|(first|refine Ab ?_ ?_|refine Aa ?_ ?_)<;>intro hc<;>(try simp only[push_cast] at hc)|refine eK hI ?_|refine eQ hI ?_|refine eG hI ?_|((first|refine cK hI ?_|refine cQ hI ?_|refine cG hI ?_);(simp(disch:=omega)only[push_cast,↓zz,seval,pI]);(fail_if_success change False))|omega|intro _))
     all_goals
       refine⟨k+1,?_⟩;(with_reducible repeat' (first|(simp(disch:=omega)only[push_cast,↓zz,seval])|refine And.intro ?_ ?_|(first|refine Ab ?_ ?_|refine Aa ?_ ?_)<;>intro hc<;>(try simp only[push_cast] at hc)|omega|intro _));simpa using hr
   | false =>
     refine W_T ?_;(with_reducible repeat' (first|(simp(disch:=omega)only[push_cast,↓zz,seval,pI])|refine And.intro ?_ ?_|(first|refine Ab ?_ ?_|refine Aa ?_ ?_)<;>intro hc<;>(try simp only[push_cast] at hc)|refine eK hI ?_|refine eQ hI ?_|refine eG hI ?_|((first|refine cK hI ?_|refine cQ hI ?_|refine cG hI ?_);(simp(disch:=omega)only[push_cast,↓zz,seval,pI]);(fail_if_success change False))|omega|intro _))
     all_goals (rw[hr];rfl)
 · rw[List.drop_of_length_le hkl] at hr
   refine W_T ?_;(with_reducible repeat' (first|(simp(disch:=omega)only[push_cast,↓zz,seval,pI])|refine And.intro ?_ ?_|(first|refine Ab ?_ ?_|refine Aa ?_ ?_)<;>intro hc<;>(try simp only[push_cast] at hc)|omega|intro _))
   all_goals (rw[hr];rfl)
theorem z08 {x:List Int} {s:Int} {a:Nat} (ha:a<x.length) (hx:x.all (E9 s)=true):D3 x [Rl] [domL s] a=[nth x a]:=by
 have hd:=W4 (List.all_eq_true.1 hx _ (Au ha));simp only[D3,List.length_singleton,Ee,List.map_cons,List.map_nil];rw[drop_at ha,List.take_succ_cons,List.take_zero,Uf (by omega)];show [IntKind.i32.wrap (nth x a)]=_;rw[IntWalk.i32_in _ (by omega)]
theorem zkq {x:List Int} {s:Int} (hx:x.all (E9 s)=true):∀ (k a:Nat),x.length-a=k→a≤x.length→∀ w,RelW (Es s) x a 0 w↔w=x.drop a:=by
 intro k
 induction k with
 | zero =>
   intro a hk ha w;obtain rfl:a=x.length:=by omega
   rw[Mh,List.drop_length];constructor
   · rintro (⟨f,hf,_,_,rfl⟩|⟨r,hr,_,hgo,_⟩)
     · simp only[Es,List.mem_singleton] at hf
       subst hf;simp[D3,Ee]
     · simp only[Es,List.mem_singleton] at hr
       subst hr;have:=Jg hgo;simp only[List.length_singleton] at this;omega
   · rintro rfl
     exact .inl ⟨⟨0,[],[]⟩,by simp[Es],rfl,⟨by simp,by simp[goB]⟩,rfl⟩
 | succ k ih =>
   intro a hk ha w;have hal:a<x.length:=by omega
   have hin:=List.all_eq_true.1 hx _ (Au hal);have hd:=W4 hin
   have hgo:goB x [domL s] a=true:=by
     have h1:hasI (domL s) (nth x a)=true:=(zq0 (by omega)).2 (K5.2 hin);simp only[goB,List.length_singleton,Bool.and_eq_true,decide_eq_true_eq];refine⟨by omega,List.all_eq_true.2 fun j hj=>?_⟩;obtain rfl:j=0:=by simpa using hj
     exact h1
   rw[Mh];constructor
   · rintro (⟨f,hf,_,⟨h3,_⟩,rfl⟩|⟨r,hr,_,_,v,hv,rfl⟩)
     · simp only[Es,List.mem_singleton] at hf
       subst hf;simp only[List.length_nil] at h3;omega
     · simp only[Es,List.mem_singleton] at hr
       subst hr;have:=(ih (a+1) (by omega) (by omega) v).1 hv;rw[z08 hal hx,this,drop_at hal];rfl
   · rintro rfl
     refine .inr ⟨⟨0,0,[domL s],1,[Rl]⟩,by simp[Es],rfl,hgo,x.drop (a+1),(ih (a+1) (by omega) (by omega) _).2 rfl,?_⟩;rw[z08 hal hx,drop_at hal];rfl
theorem z6z {x:List Int} {s:Int} (hx:x.all (E9 s)=true):outW (Es s) x 0 (Es s).start=[x]:=Rv ⟨List.pairwise_singleton _ _,fun w=>by
 show _↔RelW (Es s) x 0 0 w
 rw[zkq hx x.length 0 (by omega) (Nat.zero_le _),List.drop_zero,List.mem_singleton]⟩
theorem zql {a b:Int} {x:List Int} {k:Nat} {t:Int} {w:List Int}:¬RelW (Ed a b) x k t w:=by
 intro h;cases h with
 | fin f h1=>cases h1
 | step r w h1=>cases h1
theorem z09 {x:List Int} {a b:Int}:outW (Ed a b) x 0 (Ed a b).start=[]:=Rv ⟨List.Pairwise.nil,fun w=>⟨fun h=>(by cases h),fun h=>absurd h zql⟩⟩
theorem z3o (s:Int) (x:List Int) (hl:x.length≤9223372036854775807) (h32:∀ v∈x,-2147483648≤v∧v≤2147483647):PC Tryz.prog 7 [.int .i64 s,Ag x] (.bool true):=by
 have hA:=La;have pX:Ak (x.map (AV.int .i32))=true:=Ay .i32 _;by_cases hx:1024<x.length
 · refine A7 Ff ?_
   unfold Eb;(with_reducible repeat' (first|(simp(disch:=omega)only[push_cast,↓zz,seval,pX])|refine And.intro ?_ ?_|(first|refine Ab ?_ ?_|refine Aa ?_ ?_)<;>intro hc<;>(try simp only[push_cast] at hc)|refine eK hA ?_|refine eQ hA ?_|refine eG hA ?_|((first|refine cK hA ?_|refine cQ hA ?_|refine cG hA ?_);(simp(disch:=omega)only[push_cast,↓zz,seval,pX]);(fail_if_success change False))|omega|intro _))
 have hDS:=ze6 s;have hDE:=Ua s 1;have fS:E1 (Es s):=⟨fun r hr t ht=>by simp only[Es,List.mem_singleton] at hr;subst hr;simp only[List.mem_singleton] at ht;subst ht;decide,fun f hf t ht=>by simp only[Es,List.mem_singleton] at hf;subst hf;cases ht⟩;have fE:E1 (Ed s 1):=⟨fun r hr=>(by cases hr),fun f hf=>(by cases hf)⟩;have hR:=Dq (Es s) x fS hl h32 2 (by decide) fun _=>Nat.le_trans (Nat.min_le_left _ _) (by decide);have hE:=Dq (Ed s 1) x fE hl h32 2 (by decide) fun _=>Nat.le_trans (Nat.min_le_left _ _) (by decide);have hFi:=zqk s x (by omega) h32;have pR1:=Az (Es s).rules;have pF1:=As (Es s).finals;rw[show (⟨s,1,1,0,[],[]⟩:Desc)=Ed s 1 from rfl] at hDE;have pR2:=Az (Ed s 1).rules;have pF2:=As (Ed s 1).finals;have iS:(Es s).in_=s:=rfl;have iE:(Ed s 1).in_=s:=rfl;by_cases hs:s=1∨s=2
 · have cS:=(Kg s).2 hs
   have cE:=(Jk s 1).2 ⟨hs,.inl rfl⟩;cases hd:x.all (E9 s) with
   | true =>
     rw[hd] at hFi;have aS:askV (Es s) x=0:=F4.2 ⟨cS,by omega,hd⟩;have aE:askV (Ed s 1) x=0:=F4.2 ⟨cE,by omega,hd⟩;rw[show (2:Int)=((2:Nat):Int) from rfl,G8 aS (by decide) (by rw[z6z hd,List.length_singleton];decide),z6z hd] at hR;rw[show (2:Int)=((2:Nat):Int) from rfl,G8 aE (by decide) (by rw[z09];decide),z09] at hE;have hM:=Ni x x (by omega);rw[decide_eq_true rfl] at hM;generalize Es s=d1 at *;generalize Ed s 1=d2 at *;refine A7 Ff ?_;unfold Eb;rcases hs with rfl|rfl
     all_goals
       (with_reducible repeat' (first|(simp(disch:=omega)only[push_cast,↓zz,seval,pX,pR1,pF1,pR2,pF2])|refine And.intro ?_ ?_|(first|refine Ab ?_ ?_|refine Aa ?_ ?_)<;>intro hc<;>(try simp only[push_cast] at hc)|refine eK hFi ?_|refine eQ hFi ?_|refine eG hFi ?_|refine eK hM ?_|refine eQ hM ?_|refine eG hM ?_|refine eK hA ?_|refine eQ hA ?_|refine eG hA ?_|refine eK hDS ?_|refine eQ hDS ?_|refine eK hDE ?_|refine eQ hDE ?_|refine eK hR ?_|refine eQ hR ?_|refine eK hE ?_|refine eQ hE ?_|((first|refine cK hFi ?_|refine cQ hFi ?_|refine cG hFi ?_|refine cK hM ?_|refine cQ hM ?_|refine cG hM ?_|refine cK hA ?_|refine cQ hA ?_|refine cG hA ?_);(simp(disch:=omega)only[push_cast,↓zz,seval,pX,pR1,pF1,pR2,pF2]);(fail_if_success change False))|omega|intro _))
   | false =>
     rw[hd] at hFi;have aS:askV (Es s) x=1:=by unfold askV;rw[cS,iS,hd,if_neg (by simp),if_neg hx];rfl
     have aE:askV (Ed s 1) x=1:=by unfold askV;rw[cE,iE,hd,if_neg (by simp),if_neg hx];rfl
     rw[J3 (by omega),aS] at hR;rw[J3 (by omega),aE] at hE;generalize Es s=d1 at *;generalize Ed s 1=d2 at *;refine A7 Ff ?_;unfold Eb;rcases hs with rfl|rfl
     all_goals
       (with_reducible repeat' (first|(simp(disch:=omega)only[push_cast,↓zz,seval,pX,pR1,pF1,pR2,pF2])|refine And.intro ?_ ?_|(first|refine Ab ?_ ?_|refine Aa ?_ ?_)<;>intro hc<;>(try simp only[push_cast] at hc)|refine eK hFi ?_|refine eQ hFi ?_|refine eG hFi ?_|refine eK hA ?_|refine eQ hA ?_|refine eG hA ?_|refine eK hDS ?_|refine eQ hDS ?_|refine eK hDE ?_|refine eQ hDE ?_|refine eK hR ?_|refine eQ hR ?_|refine eK hE ?_|refine eQ hE ?_|((first|refine cK hFi ?_|refine cQ hFi ?_|refine cG hFi ?_|refine cK hA ?_|refine cQ hA ?_|refine cG hA ?_);(simp(disch:=omega)only[push_cast,↓zz,seval,pX,pR1,pF1,pR2,pF2]);(fail_if_success change False))|omega|intro _))
 · have two:∀ d:Desc,¬B6 d=0→askV d x=2:=fun d h=>by unfold askV;rw[if_pos h]
   have aS:=two (Es s) fun h=>hs ((Kg s).1 h);have aE:=two (Ed s 1) fun h=>hs ((Jk s 1).1 h).1;rw[J3 (by omega),aS] at hR;rw[J3 (by omega),aE] at hE;generalize Es s=d1 at *;generalize Ed s 1=d2 at *;have n1:¬s=1:=fun h=>hs (.inl h);have n2:¬s=2:=fun h=>hs (.inr h);refine A7 Ff ?_;unfold Eb;(with_reducible repeat' (first|(simp(disch:=omega)only[push_cast,↓zz,seval,pX,pR1,pF1,pR2,pF2,n1,n2])|refine And.intro ?_ ?_|(first|refine Ab ?_ ?_|refine Aa ?_ ?_)<;>intro hc<;>(try simp only[push_cast] at hc)|refine eK hA ?_|refine eQ hA ?_|refine eG hA ?_|refine eK hDS ?_|refine eQ hDS ?_|refine eK hDE ?_|refine eQ hDE ?_|refine eK hR ?_|refine eQ hR ?_|refine eK hE ?_|refine eQ hE ?_|((first|refine cK hA ?_|refine cQ hA ?_|refine cG hA ?_);(simp(disch:=omega)only[push_cast,↓zz,seval,pX,pR1,pF1,pR2,pF2,n1,n2]);(fail_if_success change False))|omega|intro _))
   all_goals trace_state
end Go.Proofs.YtbcjoeadpjfcfaaGreat
set_option maxRecDepth 100000
namespace Go.Proofs.YtbcjoeadpjfcfaaGreat
open Abs
theorem zkr (a b:List Int) (hl:a.length≤1000000000):PC Tryz.prog 140 [Ag a,Ag b] (.int .i64 (B0 a b)):=by
 have pa:Ak (a.map (AV.int .i32))=true:=Ay .i32 _;have pb:Ak (b.map (AV.int .i32))=true:=Ay .i32 _;refine A7 Vv ?_;unfold L3;(with_reducible repeat' (first|(simp(disch:=omega)only[push_cast,↓zz,seval])|refine And.intro ?_ ?_|(first|refine Ab ?_ ?_|refine Aa ?_ ?_)<;>intro hc<;>(try simp only[push_cast] at hc)|omega|intro _))
 refine Ax (A8 (fun (k:Nat)=>k≤a.length∧k≤b.length∧B0 a b=k+B0 (a.drop k) (b.drop k)) (fun k=>a.length-k)
   (fun k=>[(0,Ag a),(1,Ag b),(5,.int .i64 k)]) (fun s=>[]) (fun env _=>[]) 0 (by simp) ?_ ?_)
 · (with_reducible repeat' (first|(simp(disch:=omega)only[push_cast,↓zz,seval,pa,pb])|refine And.intro ?_ ?_|(first|refine Ab ?_ ?_|refine Aa ?_ ?_)<;>intro hc<;>(try simp only[push_cast] at hc)|omega|intro _))
 rintro k ⟨hk,hkb,hr⟩;refine W_T ?_;by_cases h:k<a.length∧k<b.length∧nth a k=nth b k
 · obtain⟨h1,h2,h3⟩:=h
   have hs:=Uq h1 h2 h3;(with_reducible repeat' (first|(simp(disch:=omega)only[push_cast,↓zz,seval,pa,pb,h3])|refine And.intro ?_ ?_|(first|refine Ab ?_ ?_|refine Aa ?_ ?_)<;>intro hc<;>(try simp only[push_cast] at hc)|omega|intro _))
   all_goals
     refine⟨k+1,?_⟩;(with_reducible repeat' (first|(simp(disch:=omega)only[push_cast,↓zz,seval,pa,pb])|refine And.intro ?_ ?_|(first|refine Ab ?_ ?_|refine Aa ?_ ?_)<;>intro hc<;>(try simp only[push_cast] at hc)|omega|intro _))
   all_goals first|omega|trace_state
 · have hs:=Ur h
   rw[hs] at hr;by_cases h1:k<a.length
   · by_cases h2:k<b.length
     · have h3:¬nth a k=nth b k:=fun e=>h ⟨h1,h2,e⟩
       (with_reducible repeat' (first|(simp(disch:=omega)only[push_cast,↓zz,seval,pa,pb,h3])|refine And.intro ?_ ?_|(first|refine Ab ?_ ?_|refine Aa ?_ ?_)<;>intro hc<;>(try simp only[push_cast] at hc)|omega|intro _))
       all_goals first|omega|trace_state
     · (with_reducible repeat' (first|(simp(disch:=omega)only[push_cast,↓zz,seval,pa,pb])|refine And.intro ?_ ?_|(first|refine Ab ?_ ?_|refine Aa ?_ ?_)<;>intro hc<;>(try simp only[push_cast] at hc)|omega|intro _))
       all_goals first|omega|trace_state
   · (with_reducible repeat' (first|(simp(disch:=omega)only[push_cast,↓zz,seval,pa,pb])|refine And.intro ?_ ?_|(first|refine Ab ?_ ?_|refine Aa ?_ ?_)<;>intro hc<;>(try simp only[push_cast] at hc)|omega|intro _))
     all_goals first|omega|trace_state
theorem Uw (a b:List Int) (ha:a.length≤1000000000) (hb:b.length≤1000000000):PC Tryz.prog 111 [Ag a,Ag b] (.int .i64 (cmpL a b)):=by
 have pa:Ak (a.map (AV.int .i32))=true:=Ay .i32 _;have pb:Ak (b.map (AV.int .i32))=true:=Ay .i32 _;have hF:=zkr a b ha;have hfl:=Wy a b
 have hst:B0 a b<a.length→B0 a b<b.length→¬nth a (B0 a b)=nth b (B0 a b):=fun h1 h2 e=>by
   have key:∀ (a b:List Int),B0 a b<a.length→B0 a b<b.length→nth a (B0 a b)=nth b (B0 a b)→False:=fun a=>by
     induction a with
     | nil=>intro b h;simp at h
     | cons y l ih =>
       intro b h1 h2 he;cases b with
       | nil=>simp at h2
       | cons z m =>
         rw[B0] at h1 h2 he;split at h1
         · rename_i hyz
           rw[if_pos hyz] at h2 he;exact ih m (by simpa using h1) (by simpa using h2) (by simpa [Ln] using he)
         · rename_i hyz
           rw[if_neg hyz] at he;exact hyz he
   exact key a b h1 h2 e
 rw[R2];generalize B0 a b=f at *;refine A7 Qh ?_;unfold I4;by_cases h1:f=a.length
 · by_cases h2:f=b.length
   · rw[if_pos ⟨h1,h2⟩]
     (with_reducible repeat' (first|(simp(disch:=omega)only[push_cast,↓zz,seval,pa,pb])|refine And.intro ?_ ?_|(first|refine Ab ?_ ?_|refine Aa ?_ ?_)<;>intro hc<;>(try simp only[push_cast] at hc)|refine eK hF ?_|refine eQ hF ?_|refine eG hF ?_|((first|refine cK hF ?_|refine cQ hF ?_|refine cG hF ?_);(simp(disch:=omega)only[push_cast,↓zz,seval,pa,pb]);(fail_if_success change False))|omega|intro _))
     all_goals first|omega|trace_state
   · rw[if_neg (fun h=>h2 h.2),if_pos h1]
     (with_reducible repeat' (first|(simp(disch:=omega)only[push_cast,↓zz,seval,pa,pb])|refine And.intro ?_ ?_|(first|refine Ab ?_ ?_|refine Aa ?_ ?_)<;>intro hc<;>(try simp only[push_cast] at hc)|refine eK hF ?_|refine eQ hF ?_|refine eG hF ?_|((first|refine cK hF ?_|refine cQ hF ?_|refine cG hF ?_);(simp(disch:=omega)only[push_cast,↓zz,seval,pa,pb]);(fail_if_success change False))|omega|intro _))
     all_goals first|omega|trace_state
 · rw[if_neg (fun h=>h1 h.1),if_neg h1]
   by_cases h2:f=b.length
   · rw[if_pos h2]
     (with_reducible repeat' (first|(simp(disch:=omega)only[push_cast,↓zz,seval,pa,pb])|refine And.intro ?_ ?_|(first|refine Ab ?_ ?_|refine Aa ?_ ?_)<;>intro hc<;>(try simp only[push_cast] at hc)|refine eK hF ?_|refine eQ hF ?_|refine eG hF ?_|((first|refine cK hF ?_|refine cQ hF ?_|refine cG hF ?_);(simp(disch:=omega)only[push_cast,↓zz,seval,pa,pb]);(fail_if_success change False))|omega|intro _))
     all_goals first|omega|trace_state
   · rw[if_neg h2]
     have hne:=hst (by omega) (by omega);by_cases h3:nth a f<nth b f
     · rw[if_pos h3]
       (with_reducible repeat' (first|(simp(disch:=omega)only[push_cast,↓zz,seval,pa,pb])|refine And.intro ?_ ?_|(first|refine Ab ?_ ?_|refine Aa ?_ ?_)<;>intro hc<;>(try simp only[push_cast] at hc)|refine eK hF ?_|refine eQ hF ?_|refine eG hF ?_|((first|refine cK hF ?_|refine cQ hF ?_|refine cG hF ?_);(simp(disch:=omega)only[push_cast,↓zz,seval,pa,pb]);(fail_if_success change False))|omega|intro _))
       all_goals first|omega|trace_state
     · rw[if_neg h3,if_pos (by omega)]
       (with_reducible repeat' (first|(simp(disch:=omega)only[push_cast,↓zz,seval,pa,pb])|refine And.intro ?_ ?_|(first|refine Ab ?_ ?_|refine Aa ?_ ?_)<;>intro hc<;>(try simp only[push_cast] at hc)|refine eK hF ?_|refine eQ hF ?_|refine eG hF ?_|((first|refine cK hF ?_|refine cQ hF ?_|refine cG hF ?_);(simp(disch:=omega)only[push_cast,↓zz,seval,pa,pb]);(fail_if_success change False))|omega|intro _))
       all_goals first|omega|trace_state
theorem zfk {w:List Int}:∀ {l:List (List Int)} {lo:Nat},Jf l→lo≤l.length→(∀ i,i<lo→ltW (nth l i) w=true)→(∀ i,lo≤i→i<l.length→ltW (nth l i) w=false) →
   (lo<l.length∧nth l lo=w→insU w l=l)∧(¬(lo<l.length∧nth l lo=w)→insU w l=l.take lo++w::l.drop lo)
 | [],lo,_,hlo,_,_=>by
   obtain rfl:lo=0:=by simpa using hlo
   exact⟨fun h=>absurd h.1 (by simp),fun _=>rfl⟩
 | a::l,0,hs,_,_,h2=>by
   have h:=h2 0 (Nat.le_refl _) (by simp);rw[Vg] at h;refine⟨fun⟨_,e⟩=>?_,fun hn=>?_⟩
   · rw[Vg] at e
     subst e;rw[insU,if_neg (by rw[Em];simp),if_neg (by rw[Em];simp)]
   · have hne:¬a=w:=fun e=>hn ⟨by simp,e⟩
     have hlt:ltW w a=true:=by
       cases hh:ltW w a with
       | true=>rfl
       | false=>exact absurd (Hy _ _ h hh) hne
     rw[insU,if_pos hlt];rfl
 | a::l,lo+1,hs,hlo,h1,h2=>by
   have h:=h1 0 (by omega);rw[Vg] at h
   have hn:ltW w a=false:=by
     cases hh:ltW w a with
     | false=>rfl
     | true=>have:=F9 _ _ _ h hh;rw[Em] at this;cases this
   have hs2:Jf l:=by rw[Jf,List.pairwise_cons] at hs;exact hs.2
   obtain⟨k1,k2⟩:=zfk (w:=w) (l:=l) (lo:=lo) hs2 (by simpa using hlo) (fun i hi=>by have:=h1 (i+1) (by omega);rwa [Ln] at this) (fun i hi hl=>by have:=h2 (i+1) (by omega) (by simpa using hl);rwa [Ln] at this);have e:insU w (a::l)=a::insU w l:=by rw[insU,if_neg (by rw[hn];simp),if_pos h]
   rw[Ln,e];refine⟨fun⟨c1,c2⟩=>by rw[k1 ⟨by simpa using c1,c2⟩],fun c=>by rw[k2 fun c'=>c ⟨by simpa using c'.1,c'.2⟩];rfl⟩
def insK (l:List (List Int)) (w:List Int) (lo:Nat):Nat→List (List Int)
 | 0=>[]
 | k+1=>(if k=lo then insK l w lo k++[w] else insK l w lo k)++[nth l k]
theorem zfl {l:List (List Int)} {w:List Int} {lo:Nat} (hlo:lo≤l.length):∀ k,k≤l.length→insK l w lo k=if lo<k then l.take lo++w::(l.take k).drop lo else l.take k
 | 0,_=>by simp[insK]
 | k+1,hk=>by
   have ih:=zfl (l:=l) (w:=w) hlo k (by omega);rw[insK,ih,take_at (by omega)];by_cases h1:lo<k
   · rw[if_pos h1,if_neg (by omega),if_pos (by omega),List.drop_append_of_le_length (by simp;omega)]
     simp
   · rw[if_neg h1]
     by_cases h2:k=lo
     · subst h2
       rw[if_pos rfl,if_pos (by omega),List.drop_append_of_le_length (by simp;omega),List.drop_of_length_le (by rw[List.length_take];omega)];simp
     · rw[if_neg h2,if_neg (by omega)]
theorem W6 {l:List (List Int)} {w:List Int} {lo:Nat}:∀ k,(insK l w lo k).length≤k+1∧(k≤lo→(insK l w lo k).length=k)
 | 0=>by simp[insK]
 | k+1=>by
   have ih:=W6 (l:=l) (w:=w) (lo:=lo) k;rw[insK];split
   · rename_i h
     refine⟨?_,fun h2=>by omega⟩;have:=ih.2 (by omega);simp;omega
   · refine⟨by simp;omega,fun h2=>by have:=ih.2 (by omega);simp;omega⟩
theorem zm0 (l:List (List Int)) (w:List Int) (hl:l.length≤1000000000) (hlw:∀ v∈l,v.length≤1000000000) (hw:w.length≤1000000000) (hs:Jf l):PC Tryz.prog 69 [Dg l,Ag w] (Dg (insU w l)):=by
 have pW:=Aw l;have pw:Ak (w.map (AV.int .i32))=true:=Ay .i32 _;refine A7 z1d ?_;unfold Qe;(with_reducible repeat' (first|(simp(disch:=omega)only[push_cast,↓zz,seval,pW,pw])|refine And.intro ?_ ?_|(first|refine Ab ?_ ?_|refine Aa ?_ ?_)<;>intro hc<;>(try simp only[push_cast] at hc)|omega|intro _))
 refine Ax (A8 (fun (q:Nat × Nat)=>(q.1≤q.2∧q.2≤l.length)∧Hold ((∀ i,i<q.1→ltW (nth l i) w=true)∧∀ i,q.2≤i→i<l.length→ltW (nth l i) w=false)) (fun q=>q.2-q.1)
   (fun q=>[(0,Dg l),(1,Ag w),(5,.int .i64 q.1),(6,.int .i64 q.2)]) (fun _=>[]) (fun _ _=>[]) (0,l.length) ⟨⟨Nat.zero_le _,Nat.le_refl _⟩,⟨fun i hi=>absurd hi (Nat.not_lt_zero _),fun i h1 h2=>by omega⟩⟩ ?_ ?_)
 · (with_reducible repeat' (first|(simp(disch:=omega)only[push_cast,↓zz,seval,pW,pw])|refine And.intro ?_ ?_|(first|refine Ab ?_ ?_|refine Aa ?_ ?_)<;>intro hc<;>(try simp only[push_cast] at hc)|omega|intro _))
 rintro⟨lo,hi⟩ ⟨⟨h1,h2⟩,⟨hlt,hge⟩⟩;simp only at h1 h2 hlt hge ⊢;rcases Nat.lt_or_ge lo hi with hlh|hlh
 · obtain⟨k,hk⟩:∃ k,k=(lo+hi) / 2:=⟨_,rfl⟩
   have hkl:k<l.length:=by omega
   have hq:((lo:Int)+(hi:Int)).tdiv 2=(k:Int):=by rw[Int.tdiv_eq_ediv_of_nonneg (by omega),hk];omega
   have hmem:=Au hkl;have hC:=Uw (nth l k) w (hlw _ hmem) hw
   have hmono:∀ i j,i<j→j<l.length→ltW (nth l i) (nth l j)=true:=fun i j hij hj=>by
     rw[Fe hj,Fe (by omega)];exact List.pairwise_iff_getElem.1 hs i j (by omega) hj hij
   by_cases hc:cmpL (nth l k) w<0
   · have hltk:=(Z9 _ _).1 hc
     have hA:Hold ((∀ i,i<k+1→ltW (nth l i) w=true)∧∀ i,hi≤i→i<l.length→ltW (nth l i) w=false):=⟨fun i hik=>by
       rcases Nat.lt_or_ge i k with h|h
       · exact F9 _ _ _ (hmono i k h hkl) hltk
       · obtain rfl:i=k:=by omega
         exact hltk,hge⟩
     clear hlt hge hmono;generalize cmpL (nth l k) w=c at *;generalize hwe:nth l k=v at *;have pv:Ak (v.map (AV.int .i32))=true:=Ay .i32 _;refine W_T ?_;(with_reducible repeat' (first|(simp(disch:=omega)only[push_cast,↓zz,seval,pW,pw,hq,hwe,pv])|refine And.intro ?_ ?_|(first|refine Ab ?_ ?_|refine Aa ?_ ?_)<;>intro hc<;>(try simp only[push_cast] at hc)|refine eK hC ?_|refine eQ hC ?_|refine eG hC ?_|((first|refine cK hC ?_|refine cQ hC ?_|refine cG hC ?_);(simp(disch:=omega)only[push_cast,↓zz,seval,pW,pw,hq,hwe,pv]);(fail_if_success change False))|omega|intro _));exact⟨(k+1,hi),⟨by simp,rfl⟩,⟨⟨by omega,h2⟩,hA⟩,by simp only;omega⟩
   · have hltk:ltW (nth l k) w=false:=by
       cases hh:ltW (nth l k) w with
       | false=>rfl
       | true=>exact absurd ((Z9 _ _).2 hh) hc
     have hA:Hold ((∀ i,i<lo→ltW (nth l i) w=true)∧∀ i,k≤i→i<l.length→ltW (nth l i) w=false):=⟨hlt,fun i hik hil=>by
       rcases Nat.lt_or_ge k i with h|h
       · cases hh:ltW (nth l i) w with
         | false=>rfl
         | true=>have:=F9 _ _ _ (hmono k i h hil) hh;rw[hltk] at this;cases this
       · obtain rfl:i=k:=by omega
         exact hltk⟩
     clear hlt hge hmono;generalize cmpL (nth l k) w=c at *;generalize hwe:nth l k=v at *;have pv:Ak (v.map (AV.int .i32))=true:=Ay .i32 _;refine W_T ?_;(with_reducible repeat' (first|(simp(disch:=omega)only[push_cast,↓zz,seval,pW,pw,hq,hwe,pv])|refine And.intro ?_ ?_|(first|refine Ab ?_ ?_|refine Aa ?_ ?_)<;>intro hc<;>(try simp only[push_cast] at hc)|refine eK hC ?_|refine eQ hC ?_|refine eG hC ?_|((first|refine cK hC ?_|refine cQ hC ?_|refine cG hC ?_);(simp(disch:=omega)only[push_cast,↓zz,seval,pW,pw,hq,hwe,pv]);(fail_if_success change False))|omega|intro _));exact⟨(lo,k),⟨rfl,rfl⟩,⟨⟨by omega,by omega⟩,hA⟩,by simp only;omega⟩
 · obtain rfl:lo=hi:=by omega
   obtain⟨k1,k2⟩:=zfk (w:=w) hs h2 hlt hge;clear hlt hge;have hC:=fun h=>Uw (nth l lo) w (hlw _ (Au (l:=l) (i:=lo) h)) hw;have hz:=Wz (nth l lo) w;by_cases hin:lo<l.length∧nth l lo=w
   · rw[k1 hin]
     have hC:=hC hin.1;rw[hz.2 hin.2] at hC;have hlo:=hin.1;generalize hwe:nth l lo=v at *;have pv:Ak (v.map (AV.int .i32))=true:=Ay .i32 _;refine W_T ?_;(with_reducible repeat' (first|(simp(disch:=omega)only[push_cast,↓zz,seval,pW,pw,hwe,pv])|refine And.intro ?_ ?_|(first|refine Ab ?_ ?_|refine Aa ?_ ?_)<;>intro hc<;>(try simp only[push_cast] at hc)|refine eK hC ?_|refine eQ hC ?_|refine eG hC ?_|((first|refine cK hC ?_|refine cQ hC ?_|refine cG hC ?_);(simp(disch:=omega)only[push_cast,↓zz,seval,pW,pw,hwe,pv]);(fail_if_success change False))|omega|intro _))
   · rw[k2 hin]
     have hfin:insK l w lo l.length++(if lo=l.length then [w] else [])=l.take lo++w::l.drop lo:=by
       rw[zfl h2 _ (Nat.le_refl _)];by_cases h:lo<l.length
       · rw[if_pos h,if_neg (by omega),List.append_nil,List.take_length]
       · rw[if_neg h,if_pos (by omega),List.take_length,List.take_of_length_le (by omega),List.drop_of_length_le (by omega)]
     rw[←hfin];refine W_T ?_;have hil:=W6 (l:=l) (w:=w) (lo:=lo);rcases Nat.lt_or_ge lo l.length with hlo|hlo
     focus
       have hC:=hC hlo;have hnz:¬cmpL (nth l lo) w=0:=fun h=>hin ⟨hlo,hz.1 h⟩;clear hz k1 k2 hin hfin hil;generalize cmpL (nth l lo) w=c at *;generalize hwe:nth l lo=v at *;have pv:Ak (v.map (AV.int .i32))=true:=Ay .i32 _;(with_reducible repeat' (first|(simp(disch:=omega)only[push_cast,↓zz,seval,pW,pw,hwe,pv,hnz])|refine And.intro ?_ ?_|(first|refine Ab ?_ ?_|refine Aa ?_ ?_)<;>intro hc<;>(try simp only[push_cast] at hc)|refine eK hC ?_|refine eQ hC ?_|refine eG hC ?_|((first|refine cK hC ?_|refine cQ hC ?_|refine cG hC ?_);(simp(disch:=omega)only[push_cast,↓zz,seval,pW,pw,hwe,pv,hnz]);(fail_if_success change False))|omega|intro _))
     rotate_left
     focus
       clear hz k1 k2 hin hfin hC hil;(with_reducible repeat' (first|(simp(disch:=omega)only[push_cast,↓zz,seval,pW,pw])|refine And.intro ?_ ?_|(first|refine Ab ?_ ?_|refine Aa ?_ ?_)<;>intro hc<;>(try simp only[push_cast] at hc)|omega|intro _))
     all_goals
       have hil:=W6 (l:=l) (w:=w) (lo:=lo);refine Ax (A8 (fun (k:Nat)=>k≤l.length) (fun k=>l.length-k) (fun k=>[(0,Dg l),(1,Ag w),(5,.int .i64 lo),(8,.ref 0 1 0 (insK l w lo k).length),(9,.int .i64 k)]) (fun k=>[⟨1,1,false,(insK l w lo k).map Ag⟩]) (fun env _=>[Bm 1 (env 8)]) 0 (Nat.zero_le _) ?_ ?_)
       · have e0:insK l w lo 0=[]:=rfl
         (with_reducible repeat' (first|(simp(disch:=omega)only[push_cast,↓zz,seval,pW,pw,e0])|refine And.intro ?_ ?_|(first|refine Ab ?_ ?_|refine Aa ?_ ?_)<;>intro hc<;>(try simp only[push_cast] at hc)|omega|intro _))
       intro k hk;have hAl:=(hil k).1;rcases Nat.lt_or_ge k l.length with hkl|hkl
       · by_cases hkq:k=lo
         · subst hkq
           have e1:insK l w k (k+1)=(insK l w k k++[w])++[nth l k]:=by rw[insK,if_pos rfl]
           generalize insK l w k k=A at *;generalize hue:nth l k=u at *;have pA:=Aw A;have pu:Ak (u.map (AV.int .i32))=true:=Ay .i32 _;refine W_T ?_;(with_reducible repeat' (first|(simp(disch:=omega)only[push_cast,↓zz,seval,pW,pw,pA,pu,hue])|refine And.intro ?_ ?_|(first|refine Ab ?_ ?_|refine Aa ?_ ?_)<;>intro hc<;>(try simp only[push_cast] at hc)|omega|intro _))
           all_goals
             refine⟨k+1,?_⟩;(with_reducible repeat' (first|(simp(disch:=omega)only[push_cast,↓zz,seval,pW,pw,pA,pu,e1])|refine And.intro ?_ ?_|(first|refine Ab ?_ ?_|refine Aa ?_ ?_)<;>intro hc<;>(try simp only[push_cast] at hc)|omega|intro _))
         · have e1:insK l w lo (k+1)=insK l w lo k++[nth l k]:=by rw[insK,if_neg hkq]
           generalize insK l w lo k=A at *;generalize hue:nth l k=u at *;have pA:=Aw A;have pu:Ak (u.map (AV.int .i32))=true:=Ay .i32 _;refine W_T ?_;(with_reducible repeat' (first|(simp(disch:=omega)only[push_cast,↓zz,seval,pW,pw,pA,pu,hkq,hue])|refine And.intro ?_ ?_|(first|refine Ab ?_ ?_|refine Aa ?_ ?_)<;>intro hc<;>(try simp only[push_cast] at hc)|omega|intro _))
           all_goals
             refine⟨k+1,?_⟩;(with_reducible repeat' (first|(simp(disch:=omega)only[push_cast,↓zz,seval,pW,pw,pA,pu,e1])|refine And.intro ?_ ?_|(first|refine Ab ?_ ?_|refine Aa ?_ ?_)<;>intro hc<;>(try simp only[push_cast] at hc)|omega|intro _))
       · obtain rfl:k=l.length:=by omega
         generalize insK l w lo l.length=A at *;have pA:=Aw A;have tA:List.take (A.length+1) (A.map Ag++[Ag w])=A.map Ag++[Ag w]:=List.take_of_length_le (by simp);refine W_T ?_;by_cases hlq:lo=l.length
         · rw[if_pos hlq]
           (with_reducible repeat' (first|(simp(disch:=omega)only[push_cast,↓zz,seval,pW,pw,pA,hlq,tA])|refine And.intro ?_ ?_|(first|refine Ab ?_ ?_|refine Aa ?_ ?_)<;>intro hc<;>(try simp only[push_cast] at hc)|omega|intro _))
         · rw[if_neg hlq,List.append_nil]
           (with_reducible repeat' (first|(simp(disch:=omega)only[push_cast,↓zz,seval,pW,pw,pA,hlq])|refine And.intro ?_ ?_|(first|refine Ab ?_ ?_|refine Aa ?_ ?_)<;>intro hc<;>(try simp only[push_cast] at hc)|omega|intro _))
           all_goals trace_state
def putL (o l:List (List Int)):List (List Int):=l.foldl (fun o w=>insU w o) o
theorem z0a {o l:List (List Int)} {k:Nat} (h:k<l.length):putL o (l.take (k+1))=insU (nth l k) (putL o (l.take k)):=by
 rw[putL,putL,take_at h,List.foldl_append];rfl
theorem R9:∀ (l:List (List Int)) {o:List (List Int)},Jf o→Jf (putL o l)∧(∀ w,w∈putL o l↔w∈o∨w∈l)∧(putL o l).length≤o.length+l.length
 | [],o,h=>⟨h,fun w=>by simp[putL],Nat.le_refl _⟩
 | a::l,o,h=>by
   obtain⟨h1,h2,h3⟩:=R9 l (o:=insU a o) (Rt a h);refine⟨h1,fun w=>?_,?_⟩
   · show w∈putL (insU a o) l↔_
     rw[h2,O1,List.mem_cons];constructor
     · rintro ((h|h)|h)
       · exact .inr (.inl h)
       · exact .inl h
       · exact .inr (.inr h)
     · rintro (h|h|h)
       · exact .inl (.inr h)
       · exact .inl (.inl h)
       · exact .inr h
   · have:=Ws a o
     show (putL (insU a o) l).length≤_;rw[List.length_cons];omega
theorem zfm (a b:List (List Int)):putL (putL [] a) b=Gz (a++b):=by
 obtain⟨h1,h2,_⟩:=R9 a (o:=[]) List.Pairwise.nil;obtain⟨k1,k2,_⟩:=R9 b h1;exact (Wr k1 fun w=>by rw[k2,h2,List.mem_append];simp).symm
theorem zqm (a b:List (List Int)) (ha:a.length≤400000000) (hb:b.length≤400000000) (hwa:∀ v∈a,v.length≤1000000000) (hwb:∀ v∈b,v.length≤1000000000):PC Tryz.prog 36 [Dg a,Dg b] (Dg (Gz (a++b))):=by
 rw[←zfm];have pWa:=Aw a;have pWb:=Aw b;refine A7 Yp ?_;unfold Nq;(with_reducible repeat' (first|(simp(disch:=omega)only[push_cast,↓zz,seval,pWa,pWb])|refine And.intro ?_ ?_|(first|refine Ab ?_ ?_|refine Aa ?_ ?_)<;>intro hc<;>(try simp only[push_cast] at hc)|omega|intro _));refine Ax (A8 (fun (k:Nat)=>k≤a.length) (fun k=>a.length-k) (fun k=>[(0,Dg a),(1,Dg b),(5,Dg (putL [] (a.take k))),(6,.int .i64 k)]) (fun _=>[]) (fun _ _=>[]) 0 (Nat.zero_le _) ?_ ?_)
 · have e0:putL [] []=[]:=rfl
   (with_reducible repeat' (first|(simp(disch:=omega)only[push_cast,↓zz,seval,pWa,pWb,e0,List.map_nil])|refine And.intro ?_ ?_|(first|refine Ab ?_ ?_|refine Aa ?_ ?_)<;>intro hc<;>(try simp only[push_cast] at hc)|omega|intro _))
 intro k hk;obtain⟨s1,s2,s3⟩:=R9 (a.take k) (o:=[]) List.Pairwise.nil;rcases Nat.lt_or_ge k a.length with hkl|hkl
 · have hP:=zm0 (putL [] (a.take k)) (nth a k) (by simp at s3;omega) (fun v hv=>by
     rcases (s2 v).1 hv with h|h
     · cases h
     · exact hwa v (List.mem_of_mem_take h)) (hwa _ (Au hkl)) s1
   rw[←z0a hkl] at hP;clear s1 s2 s3;generalize putL [] (a.take k)=A at *;generalize hue:nth a k=u at *;have pA:=Aw A;have pA1:=Aw (putL [] (a.take (k+1)));have pu:Ak (u.map (AV.int .i32))=true:=Ay .i32 _;generalize hA1:putL [] (a.take (k+1))=A1 at *;refine W_T ?_;(with_reducible repeat' (first|(simp(disch:=omega)only[push_cast,↓zz,seval,pWa,pWb,pA,pu,hue])|refine And.intro ?_ ?_|(first|refine Ab ?_ ?_|refine Aa ?_ ?_)<;>intro hc<;>(try simp only[push_cast] at hc)|refine eK hP ?_|refine eQ hP ?_|refine eG hP ?_|((first|refine cK hP ?_|refine cQ hP ?_|refine cG hP ?_);(simp(disch:=omega)only[push_cast,↓zz,seval,pWa,pWb,pA,pu,hue]);(fail_if_success change False))|omega|intro _))
   all_goals
     refine⟨k+1,?_⟩;(with_reducible repeat' (first|(simp(disch:=omega)only[push_cast,↓zz,seval,pWa,pWb,pA1,hA1])|refine And.intro ?_ ?_|(first|refine Ab ?_ ?_|refine Aa ?_ ?_)<;>intro hc<;>(try simp only[push_cast] at hc)|omega|intro _))
 · obtain rfl:k=a.length:=by omega
   rw[List.take_length] at *;have hpl:(putL [] a).length≤400000000:=by simp at s3;omega
   obtain⟨o,ho⟩:∃ o,o=putL [] a:=⟨_,rfl⟩;have hso:Jf o:=by rw[ho];exact s1
   have hwo:∀ v∈o,v.length≤1000000000:=fun v hv=>by
     rw[ho] at hv;rcases (s2 v).1 hv with h|h
     · cases h
     · exact hwa v h
   have hpo:o.length≤400000000:=by rw[ho];exact hpl
   rw[←ho];clear s1 s2 s3 ho hpl;have po:=Aw o;refine W_T ?_;(with_reducible repeat' (first|(simp(disch:=omega)only[push_cast,↓zz,seval,pWa,pWb,po])|refine And.intro ?_ ?_|(first|refine Ab ?_ ?_|refine Aa ?_ ?_)<;>intro hc<;>(try simp only[push_cast] at hc)|omega|intro _));refine Ax (A8 (fun (k:Nat)=>k≤b.length) (fun k=>b.length-k) (fun k=>[(1,Dg b),(5,Dg (putL o (b.take k))),(7,.int .i64 k)]) (fun _=>[]) (fun _ _=>[]) 0 (Nat.zero_le _) ?_ ?_)
   · have e0:putL o []=o:=rfl
     (with_reducible repeat' (first|(simp(disch:=omega)only[push_cast,↓zz,seval,pWb,po,e0])|refine And.intro ?_ ?_|(first|refine Ab ?_ ?_|refine Aa ?_ ?_)<;>intro hc<;>(try simp only[push_cast] at hc)|omega|intro _))
   intro k hk;obtain⟨s1,s2,s3⟩:=R9 (b.take k) (o:=o) hso;rcases Nat.lt_or_ge k b.length with hkl|hkl
   · have hP:=zm0 (putL o (b.take k)) (nth b k) (by simp at s3;omega) (fun v hv=>by
       rcases (s2 v).1 hv with h|h
       · exact hwo v h
       · exact hwb v (List.mem_of_mem_take h)) (hwb _ (Au hkl)) s1
     rw[←z0a hkl] at hP;clear s1 s2 s3;generalize putL o (b.take k)=A at *;generalize hue:nth b k=u at *;have pA:=Aw A;have pA1:=Aw (putL o (b.take (k+1)));have pu:Ak (u.map (AV.int .i32))=true:=Ay .i32 _;generalize hA1:putL o (b.take (k+1))=A1 at *;refine W_T ?_;(with_reducible repeat' (first|(simp(disch:=omega)only[push_cast,↓zz,seval,pWb,pA,pu,hue])|refine And.intro ?_ ?_|(first|refine Ab ?_ ?_|refine Aa ?_ ?_)<;>intro hc<;>(try simp only[push_cast] at hc)|refine eK hP ?_|refine eQ hP ?_|refine eG hP ?_|((first|refine cK hP ?_|refine cQ hP ?_|refine cG hP ?_);(simp(disch:=omega)only[push_cast,↓zz,seval,pWb,pA,pu,hue]);(fail_if_success change False))|omega|intro _))
     all_goals
       refine⟨k+1,?_⟩;(with_reducible repeat' (first|(simp(disch:=omega)only[push_cast,↓zz,seval,pWb,pA1,hA1])|refine And.intro ?_ ?_|(first|refine Ab ?_ ?_|refine Aa ?_ ?_)<;>intro hc<;>(try simp only[push_cast] at hc)|omega|intro _))
   · obtain rfl:k=b.length:=by omega
     rw[List.take_length] at *;have pA:=Aw (putL o b);refine W_T ?_;(with_reducible repeat' (first|(simp(disch:=omega)only[push_cast,↓zz,seval,pWb,pA])|refine And.intro ?_ ?_|(first|refine Ab ?_ ?_|refine Aa ?_ ?_)<;>intro hc<;>(try simp only[push_cast] at hc)|omega|intro _))
     all_goals trace_state
end Go.Proofs.YtbcjoeadpjfcfaaGreat
set_option maxRecDepth 100000
namespace Go.Proofs.YtbcjoeadpjfcfaaGreat
open Abs
section
variable {a b:Desc} {x:List Int}
theorem Eg {r:Rule}:r∈(Fa a b).rules↔r=⟨0,1+a.start,[],0,[]⟩∨r=⟨0,1+a.states+b.start,[],0,[]⟩∨(∃ q∈a.rules,shR 1 q=r)∨∃ q∈b.rules,shR (1+a.states) q=r:=by
 simp only[Fa,Zv,List.mem_append,List.mem_cons,List.not_mem_nil,or_false,List.mem_map];constructor
 · rintro (((h|h)|h)|h)
   · exact .inl h
   · exact .inr (.inl h)
   · exact .inr (.inr (.inl h))
   · exact .inr (.inr (.inr h))
 · rintro (h|h|h|h)
   · exact .inl (.inl (.inl h))
   · exact .inl (.inl (.inr h))
   · exact .inl (.inr h)
   · exact .inr h
theorem H6 {f:Eu}:f∈(Fa a b).finals↔(∃ q∈a.finals,shF 1 q=f)∨∃ q∈b.finals,shF (1+a.states) q=f:=by
 simp only[Fa,List.mem_append,List.mem_map]
theorem zfn (ha:Wf a) (hb:Wf b) {k:Nat} {j:Int} {w:List Int} (h:RelW (Fa a b) x k j w):∀ s,j=s+1→0≤s→s<a.states→RelW a x k s w:=by
 induction h with
 | @fin k j f h1 h2 h3 h4 =>
   intro s hj h0 hs;rcases H6.1 h1 with⟨q,hq,rfl⟩|⟨q,hq,rfl⟩
   · refine .fin q hq ?_ h3 h4
     simp only[shF] at h2;omega
   · exfalso
     have:=hb.f q hq;simp only[shF] at h2;omega
 | @step k j r w h1 h2 h3 h4 ih =>
   intro s hj h0 hs;rcases Eg.1 h1 with rfl|rfl|⟨q,hq,rfl⟩|⟨q,hq,rfl⟩
   · exfalso;simp only at h2;omega
   · exfalso;simp only at h2;omega
   · have:=ha.r q hq
     exact .step q w hq (by simp only[shR] at h2;omega) h3 (ih q.to_ rfl (by omega) (by omega))
   · exfalso
     have:=hb.r q hq;simp only[shR] at h2;omega
theorem za2 (ha:Wf a) (hb:Wf b) {k:Nat} {j:Int} {w:List Int} (h:RelW (Fa a b) x k j w):∀ s,j=s+(1+a.states)→0≤s→s<b.states→RelW b x k s w:=by
 have hn:=ha.n
 induction h with
 | @fin k j f h1 h2 h3 h4 =>
   intro s hj h0 hs;rcases H6.1 h1 with⟨q,hq,rfl⟩|⟨q,hq,rfl⟩
   · exfalso
     have:=ha.f q hq;simp only[shF] at h2;omega
   · refine .fin q hq ?_ h3 h4
     simp only[shF] at h2;omega
 | @step k j r w h1 h2 h3 h4 ih =>
   intro s hj h0 hs;obtain⟨m,hm,_⟩:=hn;rcases Eg.1 h1 with rfl|rfl|⟨q,hq,rfl⟩|⟨q,hq,rfl⟩
   · exfalso;simp only at h2;omega
   · exfalso;simp only at h2;omega
   · exfalso
     have:=ha.r q hq;simp only[shR] at h2;omega
   · have:=hb.r q hq
     exact .step q w hq (by simp only[shR] at h2;omega) h3 (ih q.to_ rfl (by omega) (by omega))
theorem zfo {k:Nat} {s:Int} {w:List Int} (h:RelW a x k s w):RelW (Fa a b) x k (s+1) w:=by
 induction h with
 | @fin k s f h1 h2 h3 h4=>exact .fin (shF 1 f) (H6.2 (.inl ⟨f,h1,rfl⟩)) (by simp only[shF];omega) h3 h4
 | @step k s r w h1 h2 h3 h4 ih=>exact .step (shR 1 r) w (Eg.2 (.inr (.inr (.inl ⟨r,h1,rfl⟩)))) (by simp only[shR];omega) h3 ih
theorem za3 {k:Nat} {s:Int} {w:List Int} (h:RelW b x k s w):RelW (Fa a b) x k (s+(1+a.states)) w:=by
 induction h with
 | @fin k s f h1 h2 h3 h4=>exact .fin (shF (1+a.states) f) (H6.2 (.inr ⟨f,h1,rfl⟩)) (by simp only[shF];omega) h3 h4
 | @step k s r w h1 h2 h3 h4 ih=>exact .step (shR (1+a.states) r) w (Eg.2 (.inr (.inr (.inr ⟨r,h1,rfl⟩)))) (by simp only[shR];omega) h3 ih
theorem za4 (ha:Wf a) (hb:Wf b) {w:List Int}:RelW (Fa a b) x 0 0 w↔RelW a x 0 a.start w∨RelW b x 0 b.start w:=by
 have h1:=ha.start;have h2:=hb.start;obtain⟨m,hm,_⟩:=ha.n;have h0:D3 x [] [] 0=[]:=rfl;constructor
 · intro h
   rcases Mh.1 h with⟨f,hf,hff,_⟩|⟨r,hr,hrf,_,v,hv,rfl⟩
   · exfalso
     rcases H6.1 hf with⟨q,hq,rfl⟩|⟨q,hq,rfl⟩
     · have:=ha.f q hq
       simp only[shF] at hff;omega
     · have:=hb.f q hq
       simp only[shF] at hff;omega
   · rcases Eg.1 hr with rfl|rfl|⟨q,hq,rfl⟩|⟨q,hq,rfl⟩
     · exact .inl (zfn ha hb hv a.start (by simp only;omega) h1.1 h1.2)
     · exact .inr (za2 ha hb hv b.start (by simp only;omega) h2.1 h2.2)
     · exfalso
       have:=ha.r q hq;simp only[shR] at hrf;omega
     · exfalso
       have:=hb.r q hq;simp only[shR] at hrf;omega
 · have hgo:goB x [] 0=true:=by simp[goB]
   rintro (h|h)
   · have:=RelW.step (d:=Fa a b) (x:=x) (at_:=0) (s:=0) ⟨0,1+a.start,[],0,[]⟩ w (Eg.2 (.inl rfl)) rfl hgo (by
       have:=zfo (b:=b) h
       rw[show a.start+1=1+a.start by omega] at this;exact this)
     exact this
   · have:=RelW.step (d:=Fa a b) (x:=x) (at_:=0) (s:=0) ⟨0,1+a.states+b.start,[],0,[]⟩ w (Eg.2 (.inr (.inl rfl))) rfl hgo (by
       have:=za3 (a:=a) h
       rw[show b.start+(1+a.states)=1+a.states+b.start by omega] at this;exact this)
     exact this
theorem za5 (ca:B6 a=0) (cb:B6 b=0) (hin:a.in_=b.in_) (hout:a.out=b.out) (h1:1+a.states+b.states≤1024) (h2:2+a.rules.length+b.rules.length≤4096) (h3:a.finals.length+b.finals.length≤4096):B6 (Fa a b)=0:=by
 have ha:=Wl ca;have hb:=Wl cb;obtain⟨a1,a2,a3⟩:=El ca;obtain⟨b1,b2,b3⟩:=El cb;obtain⟨ma,hma,hma1,_⟩:=ha.n;obtain⟨mb,hmb,hmb1,_⟩:=hb.n;have sa:=ha.start;have sb:=hb.start;have hst:(Fa a b).states=1+a.states+b.states:=rfl;have hsb:∀ i:Int,0≤i→i<1+a.states+b.states→Hw (Fa a b) i=true:=fun i h1 h2=>by simp only[Hw,hst,Bool.and_eq_true,decide_eq_true_eq];omega
 refine (Io ?_ (fun r hr=>?_) (fun f hf=>?_) ?_).2
 · have hs:=hsb 0 (by omega) (by omega)
   simp only[Nf,Bool.and_eq_true,decide_eq_true_eq] at a1 ⊢;refine⟨a1.1,a1.2.1,by rw[hst];omega,by rw[hst];exact h1,hs,?_,?_⟩
   · simp[Fa,Zv];omega
   · simp[Fa];omega
 · rcases Eg.1 hr with rfl|rfl|⟨q,hq,rfl⟩|⟨q,hq,rfl⟩
   · simp only[Gy,Bool.and_eq_true]
     exact⟨hsb _ (by omega) (by omega),hsb _ (by omega) (by omega),rfl,rfl,rfl⟩
   · simp only[Gy,Bool.and_eq_true]
     exact⟨hsb _ (by omega) (by omega),hsb _ (by omega) (by omega),rfl,rfl,rfl⟩
   · have:=a2 q hq
     have hr:=ha.r q hq;simp only[Gy,Bool.and_eq_true] at this ⊢;obtain⟨_,_,c1,c2,c3⟩:=this;exact⟨hsb _ (by simp only[shR];omega) (by simp only[shR];omega),hsb _ (by simp only[shR];omega) (by simp only[shR];omega),c1,c2,c3⟩
   · have:=b2 q hq
     have hr:=hb.r q hq;simp only[Gy,Bool.and_eq_true] at this ⊢;obtain⟨_,_,c1,c2,c3⟩:=this;refine⟨hsb _ (by simp only[shR];omega) (by simp only[shR];omega),hsb _ (by simp only[shR];omega) (by simp only[shR];omega),?_,c2,?_⟩
     · show Er a.in_ q.guards=true
       rw[hin];exact c1
     · simp only[Fi,shR] at c3 ⊢
       show (decide ((q.out.length:Int)≤64)&&(q.out.all fun t=>On t a.in_ a.out q.guards))=true;rw[hin,hout];exact c3
 · rcases H6.1 hf with⟨q,hq,rfl⟩|⟨q,hq,rfl⟩
   · have:=a3 q hq
     have hr:=ha.f q hq;simp only[Fj,Bool.and_eq_true] at this ⊢;obtain⟨_,c1,c3⟩:=this;exact⟨hsb _ (by simp only[shF];omega) (by simp only[shF];omega),c1,c3⟩
   · have:=b3 q hq
     have hr:=hb.f q hq;simp only[Fj,Bool.and_eq_true] at this ⊢;obtain⟨_,c1,c3⟩:=this;refine⟨hsb _ (by simp only[shF];omega) (by simp only[shF];omega),?_,?_⟩
     · show Er a.in_ q.guards=true
       rw[hin];exact c1
     · simp only[Fi,shF] at c3 ⊢
       show (decide ((q.out.length:Int)≤64)&&(q.out.all fun t=>On t a.in_ a.out q.guards))=true;rw[hin,hout];exact c3
 · rintro⟨C,hC,j,hj⟩
   have h0:¬C 0:=fun h=>by
     obtain⟨_,r,hr,he,ht,_⟩:=hC 0 h;rcases Eg.1 hr with rfl|rfl|⟨q,hq,rfl⟩|⟨q,hq,rfl⟩
     · simp only at ht;omega
     · simp only at ht;omega
     · have:=ha.r q hq
       simp only[shR] at ht;omega
     · have:=hb.r q hq
       simp only[shR] at ht;omega
   have hjr:=(hC j hj).1;have hjz:j≠0:=fun e=>h0 (e ▸ hj);have hN:(((Fa a b).states.toNat:Nat):Int)=1+a.states+b.states:=by rw[hst];omega
   rw[hN] at hjr;by_cases hja:j<1+a.states
   · refine zff ca ⟨fun i=>C (i+1)∧0≤i∧i<a.states,fun i hi=>?_,j-1,by rw[show j-1+1=j by omega];exact hj,by omega,by omega⟩
     obtain⟨hi,i0,i1⟩:=hi;refine⟨by omega,?_⟩;obtain⟨_,r,hr,he,ht,hf⟩:=hC _ hi;rcases Eg.1 hr with rfl|rfl|⟨q,hq,rfl⟩|⟨q,hq,rfl⟩
     · exact absurd hf h0
     · exact absurd hf h0
     · have:=ha.r q hq
       exact⟨q,hq,he,by simp only[shR] at ht;omega,hf,by omega,by omega⟩
     · exfalso
       have:=hb.r q hq;simp only[shR] at ht;omega
   · refine zff cb ⟨fun i=>C (i+(1+a.states))∧0≤i∧i<b.states,fun i hi=>?_,j-(1+a.states),by rw[show j-(1+a.states)+(1+a.states)=j by omega];exact hj,by omega,by omega⟩
     obtain⟨hi,i0,i1⟩:=hi;refine⟨by omega,?_⟩;obtain⟨_,r,hr,he,ht,hf⟩:=hC _ hi;rcases Eg.1 hr with rfl|rfl|⟨q,hq,rfl⟩|⟨q,hq,rfl⟩
     · exact absurd hf h0
     · exact absurd hf h0
     · exfalso
       have:=ha.r q hq;simp only[shR] at ht;omega
     · have:=hb.r q hq
       exact⟨q,hq,he,by simp only[shR] at ht;omega,hf,by omega,by omega⟩
theorem zks {n m:Nat} (ha:Sk a x n) (hb:Sk b x m) (wa:Wf a) (wb:Wf b):outW (Fa a b) x 0 (Fa a b).start=Gz (outW a x 0 a.start++outW b x 0 b.start):=Rv ⟨Hz _,fun w=>by
 rw[G0,List.mem_append,(Mn ha (Nat.zero_le _) ha.start).2,(Mn hb (Nat.zero_le _) hb.start).2]
 exact (za4 wa wb).symm⟩
end
set_option maxHeartbeats 2000000 in
theorem z0b (a b:Desc) (x:List Int) (hl:x.length≤9223372036854775807) (h32:∀ v∈x,-2147483648≤v∧v≤2147483647):PC Tryz.prog 9 [B2 a,B2 b,Ag x] (.bool true):=by
 have hA:=La;have hGa:=K9 a x hl;have hGb:=K9 b x hl;have pa1:=Az a.rules;have pa2:=As a.finals;have pb1:=Az b.rules;have pb2:=As b.finals;have pX:Ak (x.map (AV.int .i32))=true:=Ay .i32 _;cases hga:(!E6 a||(decide (12<x.length)&&decide (x.length≤1024))) with
 | true =>
   rw[hga] at hGa;refine A7 Cg ?_;unfold B7;(with_reducible repeat' (first|(simp(disch:=omega)only[push_cast,↓zz,seval,pa1,pa2,pb1,pb2,pX])|refine And.intro ?_ ?_|(first|refine Ab ?_ ?_|refine Aa ?_ ?_)<;>intro hc<;>(try simp only[push_cast] at hc)|refine eK hA ?_|refine eQ hA ?_|refine eG hA ?_|refine eK hGa ?_|refine eQ hGa ?_|((first|refine cK hA ?_|refine cQ hA ?_|refine cG hA ?_);(simp(disch:=omega)only[push_cast,↓zz,seval,pa1,pa2,pb1,pb2,pX]);(fail_if_success change False))|omega|intro _))
 | false =>
 rw[hga] at hGa;cases hgb:(!E6 b||(decide (12<x.length)&&decide (x.length≤1024))) with
 | true =>
   rw[hgb] at hGb;refine A7 Cg ?_;unfold B7;(with_reducible repeat' (first|(simp(disch:=omega)only[push_cast,↓zz,seval,pa1,pa2,pb1,pb2,pX])|refine And.intro ?_ ?_|(first|refine Ab ?_ ?_|refine Aa ?_ ?_)<;>intro hc<;>(try simp only[push_cast] at hc)|refine eK hA ?_|refine eQ hA ?_|refine eG hA ?_|refine eK hGa ?_|refine eQ hGa ?_|refine eK hGb ?_|refine eQ hGb ?_|((first|refine cK hA ?_|refine cQ hA ?_|refine cG hA ?_);(simp(disch:=omega)only[push_cast,↓zz,seval,pa1,pa2,pb1,pb2,pX]);(fail_if_success change False))|omega|intro _))
 | false =>
 rw[hgb] at hGb
 have hsa:E6 a=true:=by
   cases h:E6 a with
   | true=>rfl
   | false=>rw[h] at hga;simp at hga
 have hsb:E6 b=true:=by
   cases h:E6 b with
   | true=>rfl
   | false=>rw[h] at hgb;simp at hgb
 have sha:=K6 hsa;have shb:=K6 hsb;obtain⟨la1,la2⟩:=Zy hsa;obtain⟨lb1,lb2⟩:=Zy hsb;by_cases hv:B6 a=0∧B6 b=0∧a.in_=b.in_∧a.out=b.out
 · obtain⟨ca,cb,hin,hout⟩:=hv
   have wa:=Wl ca;have wb:=Wl cb;by_cases hlg:1024<1+a.states+b.states
   · have hJ:=Wo a b sha.fin shb.fin ca cb hin hout hlg
     refine A7 Cg ?_;unfold B7;(with_reducible repeat' (first|(simp(disch:=omega)only[push_cast,↓zz,seval,pa1,pa2,pb1,pb2,pX])|refine And.intro ?_ ?_|(first|refine Ab ?_ ?_|refine Aa ?_ ?_)<;>intro hc<;>(try simp only[push_cast] at hc)|refine eK hA ?_|refine eQ hA ?_|refine eG hA ?_|refine eK hGa ?_|refine eQ hGa ?_|refine eK hGb ?_|refine eQ hGb ?_|refine eK hJ ?_|refine eQ hJ ?_|((first|refine cK hA ?_|refine cQ hA ?_|refine cG hA ?_);(simp(disch:=omega)only[push_cast,↓zz,seval,pa1,pa2,pb1,pb2,pX]);(fail_if_success change False))|omega|intro _))
   · have hJ:=zec a b sha.fin shb.fin ca cb hin hout (by omega) (by omega) (by omega)
     have cj:=za5 ca cb hin hout (by omega) (by omega) (by omega);have fj:=z05 cj;have ij:(Fa a b).in_=a.in_:=rfl;have hRa:=Dq a x sha.fin hl h32 (200:Nat) (by decide) fun _=>Nat.le_trans (Nat.min_le_left _ _) (by decide);have hRb:=Dq b x shb.fin hl h32 (200:Nat) (by decide) fun _=>Nat.le_trans (Nat.min_le_left _ _) (by decide);have hRj:=Dq (Fa a b) x fj hl h32 (400:Nat) (by decide) fun _=>Nat.le_trans (Nat.min_le_left _ _) (by decide);have pj1:=Az (Fa a b).rules;have pj2:=As (Fa a b).finals;have e200:((200:Nat):Int)=200:=rfl;have e400:((400:Nat):Int)=400:=rfl;by_cases hqa:askV a x=0
     · obtain⟨n,hka⟩:=Mm hqa
       have hqb:askV b x=0:=F4.2 ⟨cb,(F4.1 hqa).2.1,by rw[←hin];exact (F4.1 hqa).2.2⟩;have hqj:askV (Fa a b) x=0:=F4.2 ⟨cj,(F4.1 hqa).2.1,by rw[ij];exact (F4.1 hqa).2.2⟩;obtain⟨m,hkb⟩:=Mm hqb;have hout2:=zks hka hkb wa wb;have hWa:∀ w∈outW a x 0 a.start,w.length≤1000000000:=fun w hw=>by have:=R7 hka hw;omega
       have hWb:∀ w∈outW b x 0 b.start,w.length≤1000000000:=fun w hw=>by have:=R7 hkb hw;omega
       by_cases hle1:(outW a x 0 a.start).length≤200
       · by_cases hle2:(outW b x 0 b.start).length≤200
         · have hsl:=Ru (outW a x 0 a.start++outW b x 0 b.start)
           rw[List.length_append] at hsl;rw[G8 hqa (by decide) hle1,e200] at hRa;rw[G8 hqb (by decide) hle2,e200] at hRb;rw[G8 hqj (by decide) (by rw[hout2];omega),hout2,e400] at hRj;have hBo:=zqm (outW a x 0 a.start) (outW b x 0 b.start) (by omega) (by omega) hWa hWb
           have hM:=Je (Gz (outW a x 0 a.start++outW b x 0 b.start)) (Gz (outW a x 0 a.start++outW b x 0 b.start)) (by omega) (fun w hw=>by
             rw[G0,List.mem_append] at hw;rcases hw with h|h
             · have:=hWa w h;omega
             · have:=hWb w h;omega)
           rw[decide_eq_true rfl] at hM;clear hWa hWb hout2 hka hkb cj fj;generalize Gz (outW a x 0 a.start++outW b x 0 b.start)=J at *;generalize outW a x 0 a.start=U at *;generalize outW b x 0 b.start=V at *;have pU:=Aw U;have pV:=Aw V;have pJ:=Aw J;generalize Fa a b=jv at *;refine A7 Cg ?_;unfold B7;(with_reducible repeat' (first|(simp(disch:=omega)only[push_cast,↓zz,seval,pa1,pa2,pb1,pb2,pj1,pj2,pX,pU,pV,pJ])|refine And.intro ?_ ?_|(first|refine Ab ?_ ?_|refine Aa ?_ ?_)<;>intro hc<;>(try simp only[push_cast] at hc)|refine eK hA ?_|refine eQ hA ?_|refine eG hA ?_|refine eK hGa ?_|refine eQ hGa ?_|refine eK hGb ?_|refine eQ hGb ?_|refine eK hJ ?_|refine eQ hJ ?_|refine eK hRa ?_|refine eQ hRa ?_|refine eK hRb ?_|refine eQ hRb ?_|refine eK hRj ?_|refine eQ hRj ?_|refine eK hBo ?_|refine eQ hBo ?_|refine eK hM ?_|refine eQ hM ?_|((first|refine cK hA ?_|refine cQ hA ?_|refine cG hA ?_);(simp(disch:=omega)only[push_cast,↓zz,seval,pa1,pa2,pb1,pb2,pj1,pj2,pX,pU,pV,pJ]);(fail_if_success change False))|omega|intro _))
         · rw[G8 hqa (by decide) hle1,e200] at hRa
           rw[Mo hqb (by decide) (by omega),e200] at hRb;generalize outW a x 0 a.start=U at *;have pU:=Aw U;generalize Fa a b=jv at *;refine A7 Cg ?_;unfold B7;(with_reducible repeat' (first|(simp(disch:=omega)only[push_cast,↓zz,seval,pa1,pa2,pb1,pb2,pj1,pj2,pX,pU])|refine And.intro ?_ ?_|(first|refine Ab ?_ ?_|refine Aa ?_ ?_)<;>intro hc<;>(try simp only[push_cast] at hc)|refine eK hA ?_|refine eQ hA ?_|refine eG hA ?_|refine eK hGa ?_|refine eQ hGa ?_|refine eK hGb ?_|refine eQ hGb ?_|refine eK hJ ?_|refine eQ hJ ?_|refine eK hRa ?_|refine eQ hRa ?_|refine eK hRb ?_|refine eQ hRb ?_|((first|refine cK hA ?_|refine cQ hA ?_|refine cG hA ?_);(simp(disch:=omega)only[push_cast,↓zz,seval,pa1,pa2,pb1,pb2,pj1,pj2,pX,pU]);(fail_if_success change False))|omega|intro _))
       · rw[Mo hqa (by decide) (by omega),e200] at hRa
         generalize hrb:runA b x (200:Nat)=rb at *
         have hrb2:∃ y1 e,rb=.tup [y1,.int .i64 e]∧y1.pure=true:=by
           rw[←hrb];unfold runA outA;repeat' split
           all_goals first|exact⟨_,_,rfl,rfl⟩|exact⟨_,_,rfl,Aw _⟩
         obtain⟨y1,e,rfl,py⟩:=hrb2;rw[e200] at hRb;generalize Fa a b=jv at *;refine A7 Cg ?_;unfold B7;(with_reducible repeat' (first|(simp(disch:=omega)only[push_cast,↓zz,seval,pa1,pa2,pb1,pb2,pj1,pj2,pX,py])|refine And.intro ?_ ?_|(first|refine Ab ?_ ?_|refine Aa ?_ ?_)<;>intro hc<;>(try simp only[push_cast] at hc)|refine eK hA ?_|refine eQ hA ?_|refine eG hA ?_|refine eK hGa ?_|refine eQ hGa ?_|refine eK hGb ?_|refine eQ hGb ?_|refine eK hJ ?_|refine eQ hJ ?_|refine eK hRa ?_|refine eQ hRa ?_|refine eK hRb ?_|refine eQ hRb ?_|((first|refine cK hA ?_|refine cQ hA ?_|refine cG hA ?_);(simp(disch:=omega)only[push_cast,↓zz,seval,pa1,pa2,pb1,pb2,pj1,pj2,pX,py]);(fail_if_success change False))|omega|intro _))
     · rw[J3 hqa,e200] at hRa
       generalize hrb:runA b x (200:Nat)=rb at *
       have hrb2:∃ y1 e,rb=.tup [y1,.int .i64 e]∧y1.pure=true:=by
         rw[←hrb];unfold runA outA;repeat' split
         all_goals first|exact⟨_,_,rfl,rfl⟩|exact⟨_,_,rfl,Aw _⟩
       obtain⟨y1,e,rfl,py⟩:=hrb2;rw[e200] at hRb;generalize Fa a b=jv at *;generalize askV a x=ka at *;refine A7 Cg ?_;unfold B7;(with_reducible repeat' (first|(simp(disch:=omega)only[push_cast,↓zz,seval,pa1,pa2,pb1,pb2,pj1,pj2,pX,py,hqa])|refine And.intro ?_ ?_|(first|refine Ab ?_ ?_|refine Aa ?_ ?_)<;>intro hc<;>(try simp only[push_cast] at hc)|refine eK hA ?_|refine eQ hA ?_|refine eG hA ?_|refine eK hGa ?_|refine eQ hGa ?_|refine eK hGb ?_|refine eQ hGb ?_|refine eK hJ ?_|refine eQ hJ ?_|refine eK hRa ?_|refine eQ hRa ?_|refine eK hRb ?_|refine eQ hRb ?_|((first|refine cK hA ?_|refine cQ hA ?_|refine cG hA ?_);(simp(disch:=omega)only[push_cast,↓zz,seval,pa1,pa2,pb1,pb2,pj1,pj2,pX,py,hqa]);(fail_if_success change False))|omega|intro _))
 · have hJ:=Zx a b sha.fin shb.fin hv
   refine A7 Cg ?_;unfold B7;(with_reducible repeat' (first|(simp(disch:=omega)only[push_cast,↓zz,seval,pa1,pa2,pb1,pb2,pX])|refine And.intro ?_ ?_|(first|refine Ab ?_ ?_|refine Aa ?_ ?_)<;>intro hc<;>(try simp only[push_cast] at hc)|refine eK hA ?_|refine eQ hA ?_|refine eG hA ?_|refine eK hGa ?_|refine eQ hGa ?_|refine eK hGb ?_|refine eQ hGb ?_|refine eK hJ ?_|refine eQ hJ ?_|((first|refine cK hA ?_|refine cQ hA ?_|refine cG hA ?_);(simp(disch:=omega)only[push_cast,↓zz,seval,pa1,pa2,pb1,pb2,pX]);(fail_if_success change False))|omega|intro _))
   all_goals trace_state
end Go.Proofs.YtbcjoeadpjfcfaaGreat
