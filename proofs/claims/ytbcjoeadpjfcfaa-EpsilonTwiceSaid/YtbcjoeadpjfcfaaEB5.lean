/-
  Parts of the proof that the law holds whatever the input; without conditions.
-/
import Derived.Shelf.SlSortCmp.WholeK
import Derived.Shelf.SlicesG.Cmp
import Derived.Shelf.Small.Bits
import Derived.Ground.SlsfProg
import Derived.Ground.SlgcProg
import Derived.Ground.NamesProg
import Derived.Test.YtbcjoeadpjfcfaaProg
import Derived.Test.YtbcjoeadpjfcfaaEB3
import Derived.Test.YtbcjoeadpjfcfaaEB4
namespace Go.Proofs
open Go.Shelf
def Try.sortSp_ren:Go.Shelf.Ren:=⟨fun|6=>53|15=>63|14=>62|28=>78|29=>79|20=>70|21=>71|22=>72|23=>73|24=>74|25=>75|26=>76|27=>77|46=>81|47=>82|48=>83|49=>84|50=>85|57=>86|n=>n,fun|22=>44|24=>43|25=>104|3=>3|39=>114|0=>0|53=>126|55=>128|4=>4|46=>120|45=>119|50=>73|5=>5|9=>9|66=>130|70=>134|76=>136|77=>81|n=>n,fun|n=>n⟩
theorem Try.sortSp:Go.Proofs.SlLaysF0.n6 Try.prog Try.sortSp_ren:={
 mixed:=by kernel_rfl
 f6:=⟨Try.f53.name,by decide,Try.func53.trans (congrArg some (by kernel_rfl))⟩
 f14:=⟨Try.f62.name,by decide,Try.func62.trans (congrArg some (by kernel_rfl))⟩
 f15:=Try.func63.trans (congrArg some (by kernel_rfl))
 f20:=⟨Try.f70.name,by decide,Try.func70.trans (congrArg some (by kernel_rfl))⟩
 f21:=⟨Try.f71.name,by decide,Try.func71.trans (congrArg some (by kernel_rfl))⟩
 f22:=⟨Try.f72.name,by decide,Try.func72.trans (congrArg some (by kernel_rfl))⟩
 f23:=⟨Try.f73.name,by decide,Try.func73.trans (congrArg some (by kernel_rfl))⟩
 f24:=⟨Try.f74.name,by decide,Try.func74.trans (congrArg some (by kernel_rfl))⟩
 f25:=⟨Try.f75.name,by decide,Try.func75.trans (congrArg some (by kernel_rfl))⟩
 f26:=⟨Try.f76.name,by decide,Try.func76.trans (congrArg some (by kernel_rfl))⟩
 f27:=⟨Try.f77.name,by decide,Try.func77.trans (congrArg some (by kernel_rfl))⟩
 f28:=Try.func78.trans (congrArg some (by kernel_rfl))
 f29:=Try.func79.trans (congrArg some (by kernel_rfl))
 f46:=⟨Try.f81.name,by decide,Try.func81.trans (congrArg some (by kernel_rfl))⟩
 f47:=Try.func82.trans (congrArg some (by kernel_rfl))
 f48:=Try.func83.trans (congrArg some (by kernel_rfl))
 f49:=⟨Try.f84.name,by decide,Try.func84.trans (congrArg some (by kernel_rfl))⟩
 f50:=⟨Try.f85.name,by decide,Try.func85.trans (congrArg some (by kernel_rfl))⟩
 f57:=⟨Try.f86.name,by decide,Try.func86.trans (congrArg some (by kernel_rfl))⟩
 t0:=Try.underlying0
 a0:=Try.isAgg0
 z0:=Try.sizeOf0
 v0:=Try.zeroValue0
 t3:=Try.underlying3
 a3:=Try.isAgg3
 z3:=Try.sizeOf3
 v3:=Try.zeroValue3
 t4:=Try.underlying4
 a4:=Try.isAgg4
 z4:=Try.sizeOf4
 v4:=Try.zeroValue4
 t5:=Try.underlying5
 a5:=Try.isAgg5
 z5:=Try.sizeOf5
 v5:=Try.zeroValue5
 t9:=Try.underlying9
 a9:=Try.isAgg9
 z9:=Try.sizeOf9
 v9:=Try.zeroValue9
 t22:=Try.underlying44
 a22:=Try.isAgg44
 z22:=Try.sizeOf44
 v22:=Try.zeroValue44
 t25:=Try.underlying104
 a25:=Try.isAgg104
 z25:=Try.sizeOf104
 v25:=Try.zeroValue104
 t39:=Try.underlying114
 a39:=Try.isAgg114
 z39:=Try.sizeOf114
 v39:=Try.zeroValue114
 t45:=Try.underlying119
 a45:=Try.isAgg119
 z45:=Try.sizeOf119
 v45:=Try.zeroValue119
 t46:=Try.underlying120
 a46:=Try.isAgg120
 z46:=Try.sizeOf120
 v46:=Try.zeroValue120
 t50:=Try.underlying73
 a50:=Try.isAgg73
 z50:=Try.sizeOf73
 v50:=Try.zeroValue73
 t53:=Try.underlying126
 a53:=Try.isAgg126
 z53:=Try.sizeOf126
 v53:=Try.zeroValue126
 t55:=Try.underlying128
 a55:=Try.isAgg128
 z55:=Try.sizeOf128
 v55:=Try.zeroValue128
 t66:=Try.underlying130
 a66:=Try.isAgg130
 z66:=Try.sizeOf130
 v66:=Try.zeroValue130
 t70:=Try.underlying134
 a70:=Try.isAgg134
 z70:=Try.sizeOf134
 v70:=Try.zeroValue134
 t76:=Try.underlying136
 a76:=Try.isAgg136
 z76:=Try.sizeOf136
 v76:=Try.zeroValue136
 t77:=Try.underlying81
 a77:=Try.isAgg81
 z77:=Try.sizeOf81
 v77:=Try.zeroValue81 }
def Try.cmpSp_ren:Go.Shelf.Ren:=⟨fun|5=>55|7=>64|n=>n,fun|22=>3|3=>3|4=>4|n=>n,fun|n=>n⟩
theorem Try.cmpSp:Go.Proofs.SlLaysC2.n5 Try.prog Try.cmpSp_ren:={
 mixed:=by kernel_rfl
 f5:=⟨Try.f55.name,by decide,Try.func55.trans (congrArg some (by kernel_rfl))⟩
 f7:=⟨Try.f64.name,by decide,Try.func64.trans (congrArg some (by kernel_rfl))⟩
 t3:=Try.underlying3
 a3:=Try.isAgg3
 z3:=Try.sizeOf3
 v3:=Try.zeroValue3
 t4:=Try.underlying4
 a4:=Try.isAgg4
 z4:=Try.sizeOf4
 v4:=Try.zeroValue4
 t22:=Try.underlying3
 a22:=Try.isAgg3
 z22:=Try.sizeOf3
 v22:=Try.zeroValue3 }
end Go.Proofs
set_option linter.unusedSimpArgs false
set_option linter.unusedVariables false
namespace Go.Proofs.Ytbcjoeadpjfcfaa
open Abs Go.Shelf Go.RowKit Go.Lib Go.Sort
def N7 (x:Span):List Value:=[.int .i64 x.lo,.int .i64 x.hi]
def Vo (x y:Span):Int:=Lib.compareInt x.lo y.lo
theorem ltLo (x y:Span):ltOf Vo x y=decide (x.lo<y.lo):=by
 unfold ltOf Vo Lib.compareInt;by_cases h1:x.lo<y.lo
 · simp[h1]
 · by_cases h2:y.lo<x.lo<;>simp[h1,h2]
theorem swoLo:SWO (ltOf Vo) where
 irrefl x:=by rw[ltLo];simp
 trans x y z h1 h2:=by rw[ltLo] at *;simp at *;omega
 ntrans x y z h1 h2:=by rw[ltLo] at *;simp at *;omega
set_option maxHeartbeats 1000000 in
theorem z4c (x y:Span) (W:World):Calls Try.prog 54 #[.agg #[.int .i64 x.lo,.int .i64 x.hi],.agg #[.int .i64 y.lo,.int .i64 y.hi]] W fun e w'=>e=.returned (.int .i64 (Vo x y))∧∃ q os',w'=grow (W.drewN q) os':=by
 have hcon:=fun W'=>AnyG.cmp_Compare_int Try.cmpSp x.lo y.lo W';change ∀ W',Calls Try.prog 55 _ _ _ at hcon;unfold Vo;generalize Lib.compareInt x.lo y.lo=r at hcon ⊢
 go_enter Try.func54,Try.ntmps54
 go_wp2_with (go_at_call 55;refine (hcon _).mono ?_;rintro e w' ⟨rfl,rfl⟩)
 go_ret
 exact⟨rfl,0,_,by rw[alloc_eq_grow,alloc_eq_grow,grow_grow];rfl⟩
theorem z4d (blk off size:Nat) (w:World):CmpLays Try.prog 54 #[] N7 2 Vo blk off size w :=
 fun _ _ _ _ x y=>z4c x y _
theorem znz:∀ w,(isAgg (Try.sortSp_ren.t 24)).run Try.prog w=.ok true w:=Try.isAgg43
theorem zjy:∀ w,(Go.sizeOf (Try.sortSp_ren.t 24)).run Try.prog w=.ok 2 w:=Try.sizeOf43
theorem Ad.split {S:MS}:∀ {xs ys:List AV} {vs:List Value},Ad S (xs++ys) vs→∃ v1 v2,vs=v1++v2∧Ad S xs v1∧Ad S ys v2
 | [],ys,vs,h=>⟨[],vs,rfl,rfl,h⟩
 | x::xs,ys,vs,⟨v,r,hv,h1,h2⟩=>by
   obtain⟨v1,v2,rfl,h3,h4⟩:=Ad.split h2;exact⟨v::v1,v2,by rw[hv];rfl,⟨v,v1,rfl,h1,h3⟩,h4⟩
abbrev F4 (x:Span):Value:=.agg #[.int .i64 x.lo,.int .i64 x.hi]
theorem Qt {S:MS}:∀ {l:List Span} {vs:List Value},Ad S (l.map Bz) vs→vs=l.map F4
 | [],vs,h=>h
 | x::l,vs,⟨v,r,hv,h1,h2⟩=>by
   obtain⟨ws,rfl,a,r1,rfl,rfl,c,r2,rfl,rfl,rfl⟩:=h1;rw[hv,Qt h2];rfl
theorem Qu {S:MS}:∀ (l:List Span),Ad S (l.map Bz) (l.map F4)
 | []=>rfl
 | x::l=>⟨_,_,rfl,⟨_,rfl,_,_,rfl,rfl,_,_,rfl,rfl,rfl⟩,Qu l⟩
theorem Rt (d:Array Span) (i j:Nat) (hi:i<d.size) (hj:j<2):(flatK N7 2 d)[i * 2+j]! = (N7 d[i]!)[j]! := by
 rw[get_flatK _ _ _ _ (by omega),show (i * 2+j) / 2=i from by omega,show (i * 2+j) % 2=j from by omega]
theorem zdg {w:World} {b:Nat} {cells:Array Value} {T:TypeId} {l:List Span} (hb:w.heap[b]? = some (.cells cells T (0,0))) {vr:List Value} (hf:Eu cells 2 (l.map F4++vr)):HoldsK N7 2 w b 0 l.toArray:=by
 intro j hj;rw[size_flatK,List.size_toArray] at hj;have hi:j / 2<l.length:=by omega
 have he:(l.map F4++vr)[j / 2]? = some (F4 l[j / 2]):=by rw[List.getElem?_append_left (by simpa using hi)];simp[hi]
 obtain⟨_,_,h3⟩:=hf _ _ he;have h4:=h3 (j % 2) (by omega);rw[show j / 2 * 2+j % 2=j from by omega] at h4;have h5:=Rt l.toArray (j / 2) (j % 2) (by simpa using hi) (by omega);rw[show j / 2 * 2+j % 2=j from by omega] at h5;refine⟨?_,?_⟩
 · simp only[World.cell?,hb,Nat.zero_add,Option.isSome_none,Bool.false_eq_true,if_false,h4,id,h5]
   have hg:l.toArray[j / 2]! = l[j / 2]:=by simp[hi]
   rw[hg];rcases Nat.mod_two_eq_zero_or_one j with h|h<;>rw[h]<;>simp[F4,Value.cells,N7]
 · simp[World.frozen?,hb]
theorem zjz {w:World} {b n:Nat} {cells:Array Value} {T:TypeId} {d:Array Span} {os:Array Obj} (hb:w.heap[b]? = some (.cells cells T (0,0))) (hsz:d.size * 2≤cells.size) {v0 vr:List Value} (h0:v0.length=d.size) (hf:Eu cells 2 (v0++vr)) :
   ∃ cells',(sortWorldK N7 2 w b 0 n d os).heap[b]? = some (.cells cells' T (0,0))∧cells'.size=cells.size∧Eu cells' 2 (d.toList.map F4++vr):=by
 have hlt:b<w.heap.size:=(Array.getElem?_eq_some_iff.1 hb).1;refine⟨putCells id 0 (flatK N7 2 d) cells,?_,by simp[putCells],fun i v hv=>?_⟩
 · show ((w.heap.modify b _)++os)[b]? = _
   rw[Array.getElem?_append_left (by rw[Array.size_modify];exact hlt),Array.getElem?_modify,if_pos rfl,hb];rfl
 · rcases Nat.lt_or_ge i d.size with hid|hid
   case inr =>
     rw[List.getElem?_append_right (by simpa using hid)] at hv;obtain⟨g1,g2,g3⟩:=hf i v (by rw[List.getElem?_append_right (by omega),h0];simpa using hv);refine⟨g1,g2,fun j hj=>?_⟩;rw[←g3 j hj,putCells,Array.getElem?_mapIdx];cases hc:cells[i * 2+j]? with
     | none=>rfl
     | some c =>
       simp only[Option.map_some,Nat.zero_le,true_and,Nat.zero_add,size_flatK];rw[if_neg (by omega)]
   rw[List.getElem?_append_left (by simpa using hid),List.getElem?_map] at hv;obtain⟨x,hx,rfl⟩:=Option.map_eq_some_iff.1 hv;have hi:i<d.size:=by have:=(List.getElem?_eq_some_iff.1 hx).1;simpa using this
   refine⟨rfl,fun c hc=>?_,fun j hj=>?_⟩
   · simp[F4,Value.cells] at hc
     rcases hc with rfl|rfl<;>rfl
   · have h5:=Rt d i j hi hj
     have hlt2:i * 2+j<cells.size:=by omega
     have hd:d[i]! = x:=by
       rw[Array.getElem?_toList] at hx;rw[getElem!_pos d i hi];exact (Array.getElem?_eq_some_iff.1 hx).2
     rw[putCells,Array.getElem?_mapIdx,Array.getElem?_eq_getElem hlt2];simp only[Option.map_some,Nat.zero_le,true_and,Nat.zero_add,size_flatK,Nat.sub_zero];rw[if_pos (by omega),h5,hd];rcases (by omega:j=0∨j=1) with rfl|rfl<;>simp[F4,Value.cells,N7]
def Kg (l:List Span):Prop:=l.Pairwise fun a b=>a.lo≤b.lo
theorem z91 {d:Array Span} (h:SortedIn (ltOf Vo) 0 d.size d):Kg d.toList:=by
 rw[Kg,List.pairwise_iff_getElem];intro i j hi hj hij;have hi':i<d.size:=by simpa using hi
 have hj':j<d.size:=by simpa using hj
 have:=h i j (Nat.zero_le _) hij hj';rw[ltLo,getElem!_pos d j hj',getElem!_pos d i hi'] at this;simp at this;simpa using this
theorem zk0 {H:Ac} {g ver:Nat} {ex:Bool} {l:List Span} {rest:List AV} (hg:g<H.n) (hG:H.at_ g=⟨2,ver,ex,l.map Bz++rest⟩) (h1:l≠[]) (hl:l.length<4611686018427387904) :
   Bj Try.prog 53 [.ref g ver 0 l.length,.fn 54 []] H fun y H'=>y=.tup []∧∃ l':List Span,l'.Perm l∧Kg l'∧H'=H.set g ⟨2,ver,ex,l'.map Bz++rest⟩:=by
 have eg:∀ args w,(callFunc 54 args).run Try.prog w=.ok (.enter 54 args) w:=enters_of Try.func54 (by kernel_rfl) rfl;refine⟨enters_of Try.func53 (by kernel_rfl) rfl,fun S cargs hS hx=>?_⟩;obtain⟨v1,r1,rfl,⟨_,hgn,_,hv1⟩,v2,r2,rfl,⟨lb,rfl,rfl⟩,rfl⟩:=hx;have hgr:=hS.grp g hg;rw[hG] at hgr;obtain⟨a,cap',rfl,hcase⟩:=hv1 hgr.ver;have hpos:0<l.length:=by cases l;exact absurd rfl h1;simp
 obtain⟨rfl,rfl,hcap⟩:=hcase.resolve_right (fun h=>by omega);have hlen:l.length+rest.length≤S.cap g:=by have:=hgr.len (show 0<2 by decide);simpa using this
 obtain⟨⟨cells,T,vs,b1,b2,b3,b4⟩,hni⟩:=hgr.live (show 0<2 by decide) (by omega);obtain⟨vs1,vr,hvv,b31,b32⟩:=Ad.split b3;have hvs:=Qt b31;subst hvs;subst hvv;have b2':cells.size=S.cap g * 2:=b2;have hblk:S.place g<S.w.heap.size:=(Array.getElem?_eq_some_iff.1 b1).1;have hcon:=AnyQ.slices_SortFunc Try.sortSp 2 znz zjy N7 (fun _=>rfl) (fun x v hv=>by simp[N7] at hv;rcases hv with rfl|rfl<;>rfl) Vo swoLo 54 #[] (S.place g) 0 (S.cap g-0) l.toArray S.w eg (z4d _ _ _ _) (zdg b1 b4) hblk (by simpa using hl);change Calls Try.prog 53 _ _ _ at hcon;rw[List.size_toArray] at hcon;rw[Nat.zero_mul];refine hcon.mono fun e w' ⟨he,d',n,os,hp,hs,hw'⟩=>?_;subst he hw';obtain⟨q1,q2,q3⟩:=hp;have q1:d'.size=l.length:=by simpa using q1
 have hperm:d'.toList.Perm l:=by
   rw[Array.toList_extract,Array.toList_extract] at q3;simpa [List.extract,q1,List.take_of_length_le (show d'.toList.length≤l.length by simp[q1])] using q3
 rw[←q1] at hs;obtain⟨cells',c1,c2,c3⟩:=zjz (n:=n) (d:=d') (os:=os) b1 (by omega) (v0:=l.map F4) (by simp[q1]) b4
 have hh:=hS.moved hg (by rw[hG];exact (show 0<2 by decide)) (sortWorldK N7 2 S.w (S.place g) 0 n d' os) (S.place g) (S.cap g) ⟨2,ver,ex,d'.toList.map Bz++rest⟩ rfl rfl rfl
   (by show _≤((S.w.heap.modify _ _)++os).size;rw[Array.size_append,Array.size_modify];omega)
   (fun b hb hlt=>by
     show ((S.w.heap.modify _ _)++os)[b]? = _
     rw[Array.getElem?_append_left (by rw[Array.size_modify];exact hlt),Array.getElem?_modify,if_neg (fun hh=>hb ⟨by omega,hh.symm⟩)])
   (.inl ⟨by omega,rfl⟩) (fun _=>⟨cells',T,_,c1,by rw[c2];exact b2',(Qu _).append b32,c3⟩) (by simpa [q1] using hlen)
   (fun hx=>by have:=hgr.full (show 0<2 by decide) hx;simp at this;simp[q1];exact this) (show 0<2 by decide) (by rw[hgr.ver];exact Nat.le_refl _) (fun _=>⟨rfl,rfl,by rw[hgr.wid]⟩)
 exact⟨_,_,.tup [],_,rfl,rfl,hh.1,hh.2,⟨[],rfl,rfl⟩,rfl,d'.toList,hperm,z91 hs,rfl⟩
theorem zdh {l:List Span} {k:Nat} (h:k<l.length):inN (l.take (k+1))=inN (l.take k)++(if (Jq (nth l k)).lo≤(Jq (nth l k)).hi then [Jq (nth l k)] else []):=by
 rw[take_at h,inN,inN,List.map_append,List.filter_append];congr 1;simp only[List.map_cons,List.map_nil,List.filter_cons,List.filter_nil,decide_eq_true_eq]
theorem zdi (m r:List Span) (hm:m.length<4611686018427387904):Bj Try.prog 53 [.ref 0 1 0 m.length,.fn 54 []] (Abs.hl [⟨2,1,true,(m++r).map Bz⟩]) fun y H'=>y=.tup []∧∃ m':List Span,m'.Perm m∧Kg m'∧H'=Abs.hl [⟨2,1,true,(m'++r).map Bz⟩]:=by
 by_cases h:m=[]
 · subst h
   refine (sort0 r).mono ?_;rintro y H' ⟨rfl,rfl⟩;exact⟨rfl,[],List.Perm.refl _,List.Pairwise.nil,rfl⟩
 · refine (zk0 (H:=Abs.hl [⟨2,1,true,(m++r).map Bz⟩]) (g:=0) (ver:=1) (ex:=true) (l:=m) (rest:=r.map Bz) (by show 0<1;decide) (by rw[←List.map_append];rfl) h hm).mono ?_
   rintro y H' ⟨rfl,m',h1,h2,rfl⟩;refine⟨rfl,m',h1,h2,?_⟩;rw[Fq _ _ _ (by show 0<1;decide),←List.map_append];rfl
abbrev zdj:Span:=⟨0,0⟩
def N8 (m:List Span) (n:Nat):List Span:=m++List.replicate (n-m.length) zdj
theorem z92 {m:List Span} {n:Nat} (h:m.length≤n):(N8 m n).length=n:=by simp[N8];omega
theorem z93 {m:List Span} {n:Nat} (h:m.length<n) (s:Span):(N8 m n).take m.length++[s]++(N8 m n).drop (m.length+1)=N8 (m++[s]) n:=by
 simp only[N8];rw[List.take_append_of_le_length (Nat.le_refl _),List.take_length,List.drop_append,List.drop_of_length_le (by omega),List.nil_append,show m.length+1-m.length=1 from by omega,List.drop_replicate];simp only[List.length_append,List.length_singleton,Nat.sub_sub]
def mixS (out s:List Span):List Span:=out++s.drop out.length
theorem zdk {out s:List Span} (h:out.length≤s.length):(mixS out s).length=s.length:=by simp[mixS];omega
theorem zdl {out s:List Span} (h:out.length<s.length) (x:Span):(mixS out s).take out.length++[x]++(mixS out s).drop (out.length+1)=mixS (out++[x]) s:=by
 simp only[mixS];rw[List.take_append_of_le_length (Nat.le_refl _),List.take_length,List.drop_append,List.drop_of_length_le (by omega),List.nil_append,show out.length+1-out.length=1 from by omega,List.drop_drop];simp
theorem zk1 {out s:List Span} {j:Nat} (h1:out.length≤j):nth (mixS out s) j=nth s j:=by
 simp only[nth,mixS,List.getD_eq_getElem?_getD];rw[List.getElem?_append_right h1,List.getElem?_drop,show out.length+(j-out.length)=j from by omega]
theorem z94 {mm s:List Span} {y:Span}:nth (mixS (mm++[y]) s) mm.length=y:=by
 simp[nth,mixS,List.getD_eq_getElem?_getD]
theorem z0p (s:List Span):mixS [] s=s:=by simp[mixS]
theorem zdm {mm s:List Span} {y z:Span}:((mixS (mm++[y]) s).map Bz).set mm.length (Bz z)=(mixS (mm++[z]) s).map Bz:=by
 simp[mixS]
theorem X0 {l m:List Span} (hp:m.Perm (inN l)) (hs:Kg m) (j:Nat):∀ s∈(m.take j).foldl Cy [],-1073741824≤s.lo∧s.lo≤s.hi∧s.hi≤1073741824:=by
 have hok:∀ s∈m,s.lo≤s.hi:=fun s h=>Zx s (hp.mem_iff.1 h);obtain⟨a1,a2⟩:=Gb (m.take j) [] ⟨by simp,by simp⟩ (fun s h=>hok s (List.mem_of_mem_take h)) (List.Pairwise.sublist (List.take_sublist j m) hs) (fun s _ t ht=>by cases ht);intro s hsm;have hle:=a1.1 s hsm
 have key:∀ v,memL ((m.take j).foldl Cy []) v→-1073741824≤v∧v≤1073741824:=fun v hv=>by
   rcases (a2 v).1 hv with h|⟨t,ht,h1,h2⟩
   · exact absurd h (Bb _)
   · exact (z7y.1 ⟨t,hp.mem_iff.1 (List.mem_of_mem_take ht),h1,h2⟩).2
 have k1:=key s.lo ⟨s,hsm,Int.le_refl _,hle⟩;have k2:=key s.hi ⟨s,hsm,hle,Int.le_refl _⟩;omega
theorem K5 (l:List Span) (hl:l.length≤1000000000000):Bj Try.prog 43 [Ah l] (Abs.hl []) fun y H'=>∃ rest:List Span,y=.ref 0 1 0 (Ar l).length∧H'=Abs.hl [⟨2,1,true,(Ar l++rest).map Bz⟩]:=by
 refine zcz (b:=0) Xk rfl ?_;unfold Nn;(with_reducible repeat' (first|(simp(disch:=omega)only[push_cast,↓zz,seval])|refine And.intro ?_ ?_|(first|refine Ab ?_ ?_|refine Aa ?_ ?_)<;>intro hc<;>(try simp only[push_cast] at hc)|omega|intro _))
 refine A5 (Be (fun (k:Nat)=>k≤l.length) (fun k=>l.length-k) (fun k=>[(3,.ref 0 1 0 (inN (l.take k)).length),(13,Ah l),(14,.int .i64 l.length),(15,.int .i64 k)])
   (fun k=>[⟨2,1,true,(N8 (inN (l.take k)) l.length).map Bz⟩]) (fun env _=>[Bi 2 (env 3)]) 0 (by simp) ?_ ?_)
 · have h0:(List.replicate l.length (AV.agg [AV.int IntKind.i64 0,AV.int IntKind.i64 0]))=(N8 [] l.length).map Bz:=by simp[N8]
   have h1:inN ([]:List Span)=[]:=rfl;(with_reducible repeat' (first|(simp(disch:=omega)only[push_cast,↓zz,seval,h0,h1,Dq])|refine And.intro ?_ ?_|(first|refine Ab ?_ ?_|refine Aa ?_ ?_)<;>intro hc<;>(try simp only[push_cast] at hc)|omega|intro _))
 intro k hk;have hlen:(inN (l.take k)).length≤k:=by have:=Xs (l.take k);simp at this;omega
 have hr:=z92 (m:=inN (l.take k)) (n:=l.length) (by omega);rcases Nat.lt_or_ge k l.length with hkl|hkl
 · have hE:((N8 (inN (l.take k)) l.length).map Bz).isEmpty=false:=by
     cases hq:N8 (inN (l.take k)) l.length with
     | nil=>rw[hq] at hr;simp at hr;omega
     | cons _ _=>rfl
   have ht:=zdh hkl;refine W_T ?_;(with_reducible repeat' (first|(simp(disch:=omega)only[push_cast,↓zz,seval,hr,hE])|refine And.intro ?_ ?_|(first|refine Ab ?_ ?_|refine Aa ?_ ?_)<;>intro hc<;>(try simp only[push_cast] at hc)|omega|intro _))
   · rw[if_pos (show (Jq (nth l k)).lo≤(Jq (nth l k)).hi from hc)] at ht
     refine⟨k+1,⟨⟨by rw[ht];simp,by simp⟩,?_⟩,by omega,by omega⟩;rw[ht,←z93 (show (inN (l.take k)).length<l.length by omega) (Jq (nth l k))];simp only[List.map_append,List.map_cons,List.map_nil,List.append_assoc,List.singleton_append];exact Bq _ _
   · rw[if_neg (show ¬(Jq (nth l k)).lo≤(Jq (nth l k)).hi from hc),List.append_nil] at ht
     refine⟨k+1,⟨⟨by rw[ht],by simp⟩,?_⟩,by omega,by omega⟩;rw[ht];exact Bq _ _
 · obtain rfl:k=l.length:=by omega
   refine W_T ?_;(with_reducible repeat' (first|(simp(disch:=omega)only[push_cast,↓zz,seval,hr])|refine And.intro ?_ ?_|(first|refine Ab ?_ ?_|refine Aa ?_ ?_)<;>intro hc<;>(try simp only[push_cast] at hc)|omega|intro _));rw[List.take_length] at *;refine Bj.mono (zdi (inN l) (List.replicate (l.length-(inN l).length) zdj) (by omega)) ?_;rintro y H' ⟨rfl,m',hp,hs,rfl⟩;have hpl:=hp.length_eq;have hrl:(List.replicate (l.length-(inN l).length) zdj).length≤l.length:=by simp
   generalize List.replicate (l.length-(inN l).length) zdj=rest at *;rw[←zcs hp hs,←hpl];have hml:m'.length≤1000000000000:=by have:=Xs l;omega
   (with_reducible repeat' (first|(simp(disch:=omega)only[push_cast,↓zz,seval])|refine And.intro ?_ ?_|(first|refine Ab ?_ ?_|refine Aa ?_ ?_)<;>intro hc<;>(try simp only[push_cast] at hc)|omega|intro _));have hfl:∀ j,((m'.take j).foldl Cy []).length≤j:=fun j=>by have:=Sf (m'.take j) [];simp at this;omega
   have hmr:∀ j,j≤m'.length→(mixS ((m'.take j).foldl Cy []) (m'++rest)).length=m'.length+rest.length:=fun j hj=>by rw[zdk (by have:=hfl j;simp;omega)];simp
   refine A5 (Be (fun (j:Nat)=>j≤m'.length) (fun j=>m'.length-j) (fun j=>[(6,.ref 0 1 0 ((m'.take j).foldl Cy []).length),(41,.ref 0 1 0 m'.length),(42,.int .i64 m'.length),(43,.int .i64 j)])
     (fun j=>[⟨2,1,true,(mixS ((m'.take j).foldl Cy []) (m'++rest)).map Bz⟩]) (fun env _=>[Bi 2 (env 6)]) 0 (by simp) ?_ ?_)
   · (with_reducible repeat' (first|(simp(disch:=omega)only[push_cast,↓zz,seval,z0p,Dq,List.foldl_nil])|refine And.intro ?_ ?_|(first|refine Ab ?_ ?_|refine Aa ?_ ?_)<;>intro hc<;>(try simp only[push_cast] at hc)|omega|intro _))
   intro j hj;have hlj:=hmr j hj;have hfj:=hfl j;rcases Nat.lt_or_ge j m'.length with hjm|hjm
   · have hstep:(m'.take (j+1)).foldl Cy []=Cy ((m'.take j).foldl Cy []) (nth m' j):=by rw[take_at hjm,List.foldl_append];rfl
     have hat:=zk1 (s:=m'++rest) hfj;have hat2:nth (m'++rest) j=nth m' j:=by simp[nth,List.getD_eq_getElem?_getD,List.getElem?_append_left hjm]
     rw[hat2] at hat;have hbd:=X0 hp hs j
     have hE:((mixS ((m'.take j).foldl Cy []) (m'++rest)).map Bz).isEmpty=false:=by
       cases hq:mixS ((m'.take j).foldl Cy []) (m'++rest) with
       | nil=>rw[hq] at hlj;simp at hlj;omega
       | cons _ _=>rfl
     generalize (m'.take j).foldl Cy []=out at *;rcases Ei out with rfl|⟨mm,y,rfl⟩
     · refine W_T ?_
       (with_reducible repeat' (first|(simp(disch:=omega)only[push_cast,↓zz,seval,hlj,hat,hE])|refine And.intro ?_ ?_|(first|refine Ab ?_ ?_|refine Aa ?_ ?_)<;>intro hc<;>(try simp only[push_cast] at hc)|omega|intro _));refine⟨j+1,⟨⟨by rw[hstep];simp[Eh],by simp⟩,?_⟩,by omega,by omega⟩;rw[hstep,Eh,z0p];exact Bq _ _
     · rw[Jp] at hstep
       have hmm:mm.length+1≤j:=by simpa using hfj
       have hw:IntKind.i64.wrap (mm.length:Int)=mm.length:=IntWalk.i64_in _ (by omega);have hy:=hbd y (by simp);have hwy:IntKind.i64.wrap (y.hi+1)=y.hi+1:=IntWalk.i64_in _ (by omega);have hset:=zdm (mm:=mm) (s:=m'++rest) (y:=y) (z:=⟨y.lo,max y.hi (nth m' j).hi⟩);refine W_T ?_;(with_reducible repeat' (first|(simp(disch:=omega)only[push_cast,↓zz,seval,hlj,hat,z94,hE,hw,hwy,hset,Dq])|refine And.intro ?_ ?_|(first|refine Ab ?_ ?_|refine Aa ?_ ?_)<;>intro hc<;>(try simp only[push_cast] at hc)|omega|intro _))
       · rw[if_pos hc] at hstep
         refine⟨j+1,⟨⟨by rw[hstep];simp,by simp⟩,?_⟩,by omega,by omega⟩;rw[hstep];exact Bq _ _
       · rw[if_neg hc] at hstep
         refine⟨j+1,⟨⟨by rw[hstep];simp,by simp⟩,?_⟩,by omega,by omega⟩;rw[hstep,←zdl (show (mm++[y]).length<(m'++rest).length by simp;omega) (nth m' j)];simp only[List.map_append,List.map_cons,List.map_nil,List.append_assoc,List.singleton_append,List.length_append,List.length_singleton];exact Bq _ _
   · obtain rfl:j=m'.length:=by omega
     rw[List.take_length] at *;refine W_T ?_;(with_reducible repeat' (first|(simp(disch:=omega)only[push_cast,↓zz,seval,hlj])|refine And.intro ?_ ?_|(first|refine Ab ?_ ?_|refine Aa ?_ ?_)<;>intro hc<;>(try simp only[push_cast] at hc)|omega|intro _));refine zfe [.grp 0] (.ref 0 1 0 (m'.foldl Cy []).length) [⟨2,1,true,(m'.foldl Cy []++(m'++rest).drop (m'.foldl Cy []).length).map Bz⟩] ?_ ⟨_,rfl,rfl⟩;(with_reducible repeat' (first|(simp(disch:=omega)only[push_cast,↓zz,seval])|refine And.intro ?_ ?_|(first|refine Ab ?_ ?_|refine Aa ?_ ?_)<;>intro hc<;>(try simp only[push_cast] at hc)|omega|intro _))
     all_goals (rw[←List.map_append];exact Bq _ _)
theorem B8 (l:List Span) (hl:l.length≤1000000000000):PC Try.prog 43 [Ah l] (Ah (Ar l)):=by
 have h:Bj Try.prog 43 [Ah l] (Abs.hl []) fun y H'=>y=Ah (Ar l)∧H'=Abs.hl []:=by
   refine Nx ((K5 l hl).mono ?_);rintro y H' ⟨rest,rfl,rfl⟩;refine zfe [] (Ah (Ar l)) [] ?_ ⟨rfl,rfl⟩;have ht:List.take (Ar l).length ((Ar l).map Bz++rest.map Bz)=(Ar l).map Bz:=List.take_left' (by simp);have hn:(Ar l).length≤(Ar l).length+rest.length:=by omega
   (with_reducible repeat' (first|(simp(disch:=omega)only[push_cast,↓zz,seval,ht,hn])|refine And.intro ?_ ?_|(first|refine Ab ?_ ?_|refine Aa ?_ ?_)<;>intro hc<;>(try simp only[push_cast] at hc)|omega|intro _))
 rw[PC,Zs];exact h
def E3 (x y:Span):Span:=⟨max x.lo y.lo,min x.hi y.hi⟩
def D8:List Span→List Span→List Span
 | x::a,y::b=>(if (E3 x y).lo≤(E3 x y).hi then [E3 x y] else [])++if x.hi<y.hi then D8 a (y::b) else D8 (x::a) b
 | _,_=>[]
termination_by a b=>a.length+b.length
theorem F5 (b:List Span):D8 [] b=[]:=by rw[D8];simp
theorem Fg (a:List Span):D8 a []=[]:=by cases a<;>rw[D8]<;>simp
theorem K6 (x y:Span) (a b:List Span):D8 (x::a) (y::b)=(if (E3 x y).lo≤(E3 x y).hi then [E3 x y] else [])++if x.hi<y.hi then D8 a (y::b) else D8 (x::a) b:=by rw[D8]
theorem N9 (a b:List Span) (la:a.length≤1000000000000) (lb:b.length≤1000000000000):PC Try.prog 44 [Ah a,Ah b] (Ah (D8 (Ar a) (Ar b))):=by
 refine Bf Xl ?_;unfold No;(with_reducible repeat' (first|(simp(disch:=omega)only[push_cast,↓zz,seval])|refine And.intro ?_ ?_|(first|refine Ab ?_ ?_|refine Aa ?_ ?_)<;>intro hc<;>(try simp only[push_cast] at hc)|(have q_:=B8 a la;(first|refine eK q_ ?_|refine eQ q_ ?_|refine eG q_ ?_);clear q_)|(have q_:=B8 b lb;(first|refine eK q_ ?_|refine eQ q_ ?_|refine eG q_ ?_);clear q_)|(have q_:=B8 a la;(first|refine cK q_ ?_|refine cQ q_ ?_|refine cG q_ ?_);clear q_;(simp(disch:=omega)only[push_cast,↓zz,seval]);(fail_if_success change False))|(have q_:=B8 b lb;(first|refine cK q_ ?_|refine cQ q_ ?_|refine cG q_ ?_);clear q_;(simp(disch:=omega)only[push_cast,↓zz,seval]);(fail_if_success change False))|omega|intro _));have ha:=Dm a;have hb:=Dm b;generalize Ar a=a0 at *;generalize Ar b=b0 at *
 refine A5 (Be (fun (s:List Span × List Span × List Span)=>D8 a0 b0=s.2.2++D8 s.1 s.2.1∧s.1.length+s.2.1.length+s.2.2.length≤a0.length+b0.length) (fun s=>s.1.length+s.2.1.length)
   (fun s=>[(0,Ah s.1),(1,Ah s.2.1),(5,.ref 0 1 0 s.2.2.length)]) (fun s=>[⟨2,1,false,s.2.2.map Bz⟩]) (fun env _=>[Bi 2 (env 5)]) (a0,b0,[]) (by simp) ?_ ?_)
 · (with_reducible repeat' (first|(simp(disch:=omega)only[push_cast,↓zz,seval])|refine And.intro ?_ ?_|(first|refine Ab ?_ ?_|refine Aa ?_ ?_)<;>intro hc<;>(try simp only[push_cast] at hc)|omega|intro _))
 rintro⟨a',b',out⟩ ⟨h1,h2⟩;simp only at h1 h2;cases a' with
 | nil =>
   rw[F5,List.append_nil] at h1;rw[h1];refine W_T ?_;(with_reducible repeat' (first|(simp(disch:=omega)only[push_cast,↓zz,seval])|refine And.intro ?_ ?_|(first|refine Ab ?_ ?_|refine Aa ?_ ?_)<;>intro hc<;>(try simp only[push_cast] at hc)|omega|intro _))
 | cons x a' =>
   cases b' with
   | nil =>
     rw[Fg,List.append_nil] at h1;rw[h1];refine W_T ?_;(with_reducible repeat' (first|(simp(disch:=omega)only[push_cast,↓zz,seval])|refine And.intro ?_ ?_|(first|refine Ab ?_ ?_|refine Aa ?_ ?_)<;>intro hc<;>(try simp only[push_cast] at hc)|omega|intro _))
   | cons y b' =>
     rw[K6] at h1;simp only[List.length_cons] at h2;refine W_T ?_;(with_reducible repeat' (first|(simp(disch:=omega)only[push_cast,↓zz,seval,Ah,Bz])|refine And.intro ?_ ?_|(first|refine Ab ?_ ?_|refine Aa ?_ ?_)<;>intro hc<;>(try simp only[push_cast] at hc)|omega|intro _))
     · rw[if_pos (show (E3 x y).lo≤(E3 x y).hi from ‹max x.lo y.lo≤min x.hi y.hi›),if_pos hc] at h1
       refine⟨(a',y::b',out++[E3 x y]),⟨⟨rfl,rfl,by simp⟩,?_⟩,⟨by simp[h1],by first|(simp;done)|(simp;omega)⟩,by simp⟩;rw[List.map_append];exact Bq _ _
     · rw[if_pos (show (E3 x y).lo≤(E3 x y).hi from ‹max x.lo y.lo≤min x.hi y.hi›),if_neg hc] at h1
       refine⟨(x::a',b',out++[E3 x y]),⟨⟨rfl,rfl,by simp⟩,?_⟩,⟨by simp[h1],by first|(simp;done)|(simp;omega)⟩,by first|(simp;done)|(simp;omega)⟩;rw[List.map_append];exact Bq _ _
     · rw[if_neg (show ¬(E3 x y).lo≤(E3 x y).hi from ‹¬max x.lo y.lo≤min x.hi y.hi›),if_pos hc,List.nil_append] at h1
       refine⟨(a',y::b',out),⟨⟨rfl,rfl,rfl⟩,Bq _ _⟩,⟨h1,by first|(simp;done)|(simp;omega)⟩,by simp⟩
     · rw[if_neg (show ¬(E3 x y).lo≤(E3 x y).hi from ‹¬max x.lo y.lo≤min x.hi y.hi›),if_neg hc,List.nil_append] at h1
       refine⟨(x::a',b',out),⟨⟨rfl,rfl,rfl⟩,Bq _ _⟩,⟨h1,by first|(simp;done)|(simp;omega)⟩,by first|(simp;done)|(simp;omega)⟩
theorem Ht:∀ (a b:List Span),Plain a→Plain b→Plain (D8 a b)∧∀ v,memL (D8 a b) v↔memL a v∧memL b v
 | [],b,_,_=>by
   rw[F5];exact⟨⟨by simp,by simp⟩,fun v=>by simp only[Bb,false_and]⟩
 | x::a,[],_,_=>by
   rw[Fg];exact⟨⟨by simp,by simp⟩,fun v=>by simp only[Bb,and_false]⟩
 | x::a,y::b,ha,hb=>by
   have hx:=ha.head;have hy:=hb.head;rw[K6]
   -- what the rest has,begins behind what ends first
   have key:∀ {r:List Span},Plain r→(∀ v,memL r v→min x.hi y.hi+1<v)→Plain ((if (E3 x y).lo≤(E3 x y).hi then [E3 x y] else [])++r)∧∀ v,memL ((if (E3 x y).lo≤(E3 x y).hi then [E3 x y] else [])++r) v↔((x.lo≤v∧v≤x.hi)∧(y.lo≤v∧v≤y.hi))∨memL r v:=by
     intro r hr hv;split
     · rename_i hle
       refine⟨⟨?_,?_⟩,fun v=>?_⟩
       · intro s hs
         rcases List.mem_append.1 hs with hs|hs
         · simp only[List.mem_singleton] at hs;subst hs;exact hle
         · exact hr.1 s hs
       · rw[List.singleton_append,List.pairwise_cons]
         exact⟨fun t ht=>hv t.lo ⟨t,ht,Int.le_refl _,hr.1 t ht⟩,hr.2⟩
       · rw[List.singleton_append,Am]
         simp only[E3];constructor
         · rintro (h|h)
           · exact .inl (by omega)
           · exact .inr h
         · rintro (h|h)
           · exact .inl (by omega)
           · exact .inr h
     · rename_i hle
       simp only[E3] at hle;rw[List.nil_append];refine⟨hr,fun v=>⟨.inr,fun h=>h.resolve_left fun h=>by omega⟩⟩
   by_cases hlt:x.hi<y.hi
   · rw[if_pos hlt]
     obtain⟨p1,p2⟩:=Ht a (y::b) ha.tail hb;obtain⟨q1,q2⟩:=key p1 fun v hv=>by have:=ha.after ((p2 v).1 hv).1;omega
     refine⟨q1,fun v=>?_⟩;rw[q2 v,p2 v,Am,Am];constructor
     · rintro (⟨h1,h2⟩|⟨h1,h2⟩)
       · exact⟨.inl h1,.inl h2⟩
       · exact⟨.inr h1,h2⟩
     · rintro⟨h1|h1,h2⟩
       · rcases h2 with h2|h2
         · exact .inl ⟨h1,h2⟩
         · have:=hb.after h2;omega
       · exact .inr ⟨h1,h2⟩
   · rw[if_neg hlt]
     obtain⟨p1,p2⟩:=Ht (x::a) b ha hb.tail;obtain⟨q1,q2⟩:=key p1 fun v hv=>by have:=hb.after ((p2 v).1 hv).2;omega
     refine⟨q1,fun v=>?_⟩;rw[q2 v,p2 v,Am,Am];constructor
     · rintro (⟨h1,h2⟩|⟨h1,h2⟩)
       · exact⟨.inl h1,.inl h2⟩
       · exact⟨h1,.inr h2⟩
     · rintro⟨h1,h2|h2⟩
       · rcases h1 with h1|h1
         · exact .inl ⟨h1,h2⟩
         · have:=ha.after h1;omega
       · exact .inr ⟨h1,h2⟩
termination_by a b=>a.length+b.length
theorem D9 (l:List Span):∀ s∈Ar l,-1073741824≤s.lo∧s.lo≤s.hi∧s.hi≤1073741824:=by
 obtain⟨h1,h2⟩:=Ao l;intro s hs;have hle:=h1.1 s hs;have k1:=((h2 s.lo).1 ⟨s,hs,Int.le_refl _,hle⟩).2;have k2:=((h2 s.hi).1 ⟨s,hs,hle,Int.le_refl _⟩).2;omega
def K7:Int→List Span→List Span
 | f,[]=>[⟨f,1073741824⟩]
 | f,x::l=>⟨f,x.lo-1⟩::K7 (x.hi+1) l
theorem Vp:∀ (l:List Span) (f:Int),(K7 f l).length=l.length+1
 | [],f=>rfl
 | x::l,f=>by rw[K7,List.length_cons,Vp l];rfl
theorem Vq:∀ (l:List Span) (f:Int),Plain l→(∀ s∈l,f≤s.lo∧s.hi≤1073741824)→∀ v,memL (K7 f l) v↔f≤v∧v≤1073741824∧¬memL l v
 | [],f,_,_,v=>by
   rw[K7,Am];simp only[Bb,or_false,not_false_eq_true,and_true]
 | x::l,f,h,hb,v=>by
   have hx:=h.head;have hxb:=hb x (by simp);rw[K7,Am,Vq l (x.hi+1) h.tail (fun s hs=>⟨by have:=(List.pairwise_cons.1 h.2).1 s hs;omega,(hb s (by simp[hs])).2⟩) v,Am];have ha:memL l v→x.hi+1<v:=fun hv=>h.after hv;dsimp only;constructor
   · rintro (h1|⟨h1,h2,h3⟩)
     · exact⟨h1.1,by omega,fun hh=>hh.elim (fun hh=>by omega) (fun hh=>by have:=ha hh;omega)⟩
     · exact⟨by omega,h2,fun hh=>hh.elim (fun hh=>by omega) h3⟩
   · rintro⟨h1,h2,h3⟩
     rcases Int.lt_or_le v x.lo with hlt|hge
     · exact .inl ⟨h1,by omega⟩
     · refine .inr ⟨?_,h2,fun hh=>h3 (.inr hh)⟩
       rcases Int.lt_or_le x.hi v with hlt2|hge2
       · omega
       · exact absurd (.inl ⟨hge,hge2⟩) h3
def Hu (a b:List Span):List Span:=D8 (Ar a) (Ar (K7 (-1073741824) (Ar b)))
theorem z4e (a b:List Span):Plain (Hu a b)∧∀ v,memL (Hu a b) v↔memL a v∧(-1073741824≤v∧v≤1073741824)∧¬memL b v:=by
 obtain⟨a1,a2⟩:=Ao a;obtain⟨b1,b2⟩:=Ao b;obtain⟨g1,g2⟩:=Ao (K7 (-1073741824) (Ar b));obtain⟨m1,m2⟩:=Ht _ _ a1 g1;refine⟨m1,fun v=>?_⟩;rw[Hu,m2 v,a2 v,g2 v,Vq _ _ b1 (fun s hs=>by have:=D9 b s hs;omega) v,b2 v];constructor
 · rintro⟨⟨h1,h2⟩,⟨h3,h4,h5⟩,h6⟩
   exact⟨h1,h2,fun h=>h5 ⟨h,h2⟩⟩
 · rintro⟨h1,h2,h3⟩
   exact⟨⟨h1,h2⟩,⟨h2.1,h2.2,fun h=>h3 h.1⟩,h2⟩
theorem Qv (a b:List Span) (la:a.length≤100000000000) (lb:b.length≤100000000000):PC Try.prog 40 [Ah a,Ah b] (Ah (Hu a b)):=by
 refine Bf Uy ?_;unfold Lp;(with_reducible repeat' (first|(simp(disch:=omega)only[push_cast,↓zz,seval])|refine And.intro ?_ ?_|(first|refine Ab ?_ ?_|refine Aa ?_ ?_)<;>intro hc<;>(try simp only[push_cast] at hc)|(have q_:=B8 b (by omega);(first|refine eK q_ ?_|refine eQ q_ ?_|refine eG q_ ?_);clear q_)|(have q_:=B8 b (by omega);(first|refine cK q_ ?_|refine cQ q_ ?_|refine cG q_ ?_);clear q_;(simp(disch:=omega)only[push_cast,↓zz,seval]);(fail_if_success change False))|omega|intro _));have hb:=Dm b;have hbd:=D9 b;have hgl:=Vp (Ar b) (-1073741824);have hmeet:=N9 a (K7 (-1073741824) (Ar b)) (by omega) (by omega);rw[←Hu] at hmeet;generalize Ar b=b0 at *
 refine A5 (Be (fun (s:Nat × Int × List Span)=>s.1≤b0.length∧s.2.2.length=s.1∧(-1073741824≤s.2.1∧s.2.1≤1073741825)∧K7 (-1073741824) b0=s.2.2++K7 s.2.1 (b0.drop s.1)) (fun s=>b0.length-s.1)
   (fun s=>[(0,Ah a),(5,.ref 0 1 0 s.2.2.length),(6,.int .i64 s.2.1),(10,Ah b0),(11,.int .i64 b0.length),(12,.int .i64 s.1)]) (fun s=>[⟨2,1,false,s.2.2.map Bz⟩]) (fun env _=>[Bi 2 (env 5)]) (0,-1073741824,[]) (by simp) ?_ ?_)
 · (with_reducible repeat' (first|(simp(disch:=omega)only[push_cast,↓zz,seval])|refine And.intro ?_ ?_|(first|refine Ab ?_ ?_|refine Aa ?_ ?_)<;>intro hc<;>(try simp only[push_cast] at hc)|omega|intro _))
 rintro⟨k,f,out⟩ ⟨h1,h2,h3,h4⟩;simp only at h1 h2 h3 h4;rcases Nat.lt_or_ge k b0.length with hk|hk
 · have hx:=hbd _ (Ba hk)
   rw[drop_at hk,K7] at h4;have w1:IntKind.i64.wrap ((nth b0 k).lo-1)=(nth b0 k).lo-1:=IntWalk.i64_in _ (by omega);have w2:IntKind.i64.wrap ((nth b0 k).hi+1)=(nth b0 k).hi+1:=IntWalk.i64_in _ (by omega);refine W_T ?_;(with_reducible repeat' (first|(simp(disch:=omega)only[push_cast,↓zz,seval,w1,w2])|refine And.intro ?_ ?_|(first|refine Ab ?_ ?_|refine Aa ?_ ?_)<;>intro hc<;>(try simp only[push_cast] at hc)|omega|intro _));refine⟨(k+1,(nth b0 k).hi+1,out++[⟨f,(nth b0 k).lo-1⟩]),⟨⟨by simp,rfl,by simp⟩,?_⟩,⟨by omega,by simp[h2],by simp only;omega,by simp[h4]⟩,by omega⟩;rw[List.map_append];exact Bq _ _
 · obtain rfl:k=b0.length:=by omega
   rw[List.drop_of_length_le (Nat.le_refl _),K7] at h4;rw[h4] at hmeet
   have htk:List.take (out.length+1) (out.map Bz++[AV.agg [.int .i64 f,.int .i64 1073741824]])=(out++[(⟨f,1073741824⟩:Span)]).map Bz:=by
     rw[List.take_of_length_le (by simp),List.map_append];rfl
   refine W_T ?_;(with_reducible repeat' (first|(simp(disch:=omega)only[push_cast,↓zz,seval,Ah,Cw,htk,Dq])|refine And.intro ?_ ?_|(first|refine Ab ?_ ?_|refine Aa ?_ ?_)<;>intro hc<;>(try simp only[push_cast] at hc)|refine eK hmeet ?_|refine eQ hmeet ?_|refine eG hmeet ?_|((first|refine cK hmeet ?_|refine cQ hmeet ?_|refine cG hmeet ?_);(simp(disch:=omega)only[push_cast,↓zz,seval,Ah,Cw,htk,Dq]);(fail_if_success change False))|omega|intro _))
   all_goals trace_state
theorem Oa (a b:List Span) (la:a.length≤100000000000) (lb:b.length≤100000000000):PC Try.prog 38 [Ah a,Ah b] (.bool (decide (Hu a b=[]))):=by
 refine Bf Sc ?_;unfold Ka;(with_reducible repeat' (first|(simp(disch:=omega)only[push_cast,↓zz,seval])|refine And.intro ?_ ?_|(first|refine Ab ?_ ?_|refine Aa ?_ ?_)<;>intro hc<;>(try simp only[push_cast] at hc)|(have q_:=Qv a b la lb;(first|refine eK q_ ?_|refine eQ q_ ?_|refine eG q_ ?_);clear q_)|(have q_:=Qv a b la lb;(first|refine cK q_ ?_|refine cQ q_ ?_|refine cG q_ ?_);clear q_;(simp(disch:=omega)only[push_cast,↓zz,seval]);(fail_if_success change False))|omega|intro _))
 all_goals (rw[decide_eq_decide];exact⟨fun h=>List.eq_nil_of_length_eq_zero (by omega),fun h=>by rw[h];rfl⟩)
theorem TI_w {I:Itr} {n:Nat} {s:Option Nat} {env:Env} {H:Ac} {Q:Option Nat→Ex→Env→Ac→Prop} {ops:List AOp} {P:Program} (hP:I.P=P) (h:W P n 0 (.reg ops) env H (Q s)):TI I n (.reg ops) s env H Q:=znq (by
 rw[hP];rw[W] at h
 first|exact h|rwa [Pd] at h|(simpa only[Pd] using h))
theorem X3 {I:Itr} {n:Nat} {s:Option Nat} {env:Env} {H:Ac} {Q Q':Option Nat→Ex→Env→Ac→Prop} {c:AC} (h:TI I n c s env H Q) (hq:∀ s x e H,Q s x e H→Q' s x e H):TI I n c s env H Q' :=
 fun code hc S a X hN hF hd=>wpIn_mono (h code hc S a X hN hF hd) fun e a w hh=>by
   obtain⟨S',env',H',x,s',X',h1,h2,h3,h4,h5,h6⟩:=hh;exact⟨S',env',H',x,s',X',h1,h2,h3,h4,h5,hq _ _ _ _ h6⟩
def Kh:AC→Bool
 | .skip|.reg _|.exit _|.ret=>true
 | .seq x y=>Kh x&&Kh y
 | .cond _ x y=>Kh x&&Kh y
 | .block _ c=>Kh c
 | _=>false
theorem TI_W {I:Itr} {n:Nat} {P:Program} (hP:I.P=P):∀ {c:AC} {s:Option Nat} {env:Env} {H:Ac} {Q:Ex→Env→Ac→Prop},Kh c=true→W P n 0 c env H Q→TI I n c s env H (fun s' x e H'=>s'=s∧Q x e H')
 | .skip,s,env,H,Q,_,h=>zjk ⟨rfl,h⟩
 | .exit id,s,env,H,Q,_,h=>zjl ⟨rfl,h⟩
 | .ret,s,env,H,Q,_,h=>znp ⟨rfl,h⟩
 | .reg ops,s,env,H,Q,_,h=>TI_w (Q:=fun s' x e H'=>s'=s∧Q x e H') hP (by
   have h':wk P ops env H _:=h;show wk P ops env H (fun e H'=>s=s∧Q .normal e H');have e:(fun (e:Env) (H':Ac)=>s=s∧Q .normal e H')=fun e H'=>Q .normal e H':=by funext e H';simp
   rw[e]
   exact h')
 | .seq x y,s,env,H,Q,hc,h=>by
   simp only[Kh,Bool.and_eq_true] at hc;refine Jb (X3 (TI_W hP (c:=x) hc.1 h) fun s' z e H' hh=>?_);obtain⟨rfl,hh⟩:=hh;cases z with
   | normal=>exact TI_W hP (c:=y) hc.2 hh
   | exit id=>exact⟨rfl,hh⟩
   | ret=>exact⟨rfl,hh⟩
 | .cond c x y,s,env,H,Q,hc,h=>by
   simp only[Kh,Bool.and_eq_true] at hc;have h':W6 (c.eval env) (W P n 0 x env H Q) (W P n 0 y env H Q):=h;unfold W6 at h';split at h'
   · rename_i q hq;exact zjm hq (fun hb=>TI_W hP hc.1 (h'.1 hb)) (fun hb=>TI_W hP hc.2 (h'.2 hb))
   · exact h'.elim
 | .block id c,s,env,H,Q,hc,h=>by
   refine Ke (X3 (TI_W hP (c:=c) hc h) fun s' z e H' hh=>?_);obtain⟨rfl,hh⟩:=hh;cases z with
   | normal=>exact⟨rfl,hh⟩
   | ret=>exact⟨rfl,hh⟩
   | exit k =>
     simp only[Ex.inBlock,Ex.inBlockI] at hh ⊢;split<;>rename_i hk
     · rw[if_pos hk] at hh;exact⟨trivial,hh⟩
     · rw[if_neg hk] at hh;exact⟨trivial,hh⟩
theorem TI_v {I:Itr} {n:Nat} {P:Program} {c:AC} {s:Option Nat} {env:Env} {H:Ac} {Q:Option Nat→Ex→Env→Ac→Prop} (hP:I.P=P) (hc:Kh c=true) (h:W P n 0 c env H (Q s)):TI I n c s env H Q :=
 X3 (TI_W hP hc h) fun s' x e H' hh=>by
   obtain⟨rfl,hh⟩:=hh;exact hh
theorem Vr:∀ (live:List (Nat × AV)) (i:Nat),C2 live i=.any∨(i,C2 live i)∈live:=by
 intro live i
 induction live with
 | nil=>exact .inl rfl
 | cons p l ih =>
   obtain⟨t,x⟩:=p;show (if i=t then x else C2 l i)=.any∨(i,if i=t then x else C2 l i)∈(t,x)::l;split
   · rename_i h;subst h;exact .inr (by simp)
   · rcases ih with h|h
     · exact .inl h
     · exact .inr (by simp[h])
theorem zo0 {I:Itr} {n:Nat} {s:Option Nat} {env:Env} {H:Ac} {Q:Option Nat→Ex→Env→Ac→Prop} {c:AC} {live:List (Nat × AV)} (hl:∀ p∈live,env p.1=p.2) (h:TI I n c s (C2 live) H Q):TI I n c s env H Q :=
 fun code hc S a X hN hF hd=>h code hc S a X hN ⟨hF.size,hF.defers,fun i hi=>by
   rcases Vr live i with he|he
   · rw[he];trivial
   · have:=hl _ he
     simp only at this;rw[←this]
     exact hF.val i hi⟩ hd
theorem zk2 {I:Itr} {n:Nat} {s:Option Nat} {env:Env} {H:Ac} {Q:Option Nat→Ex→Env→Ac→Prop} {c:AC} {live:List (Nat × AV)} (hl:∀ p∈live,env p.1=p.2∧p.2.pure=true) (h:TI I n c s (C2 live) (Abs.hl []) Q):TI I n c s env H Q :=
 fun code hc S a X hN hF hd=>by
   have hN':I.Now s X { S with n:=0 } (Abs.hl []):=⟨⟨rfl,fun g hg=>absurd hg (Nat.not_lt_zero _),fun g _ hg=>absurd hg (Nat.not_lt_zero _),hN.rel.im⟩,hN.base,hN.keep,hN.im,hN.apart,hN.st⟩;refine h code hc { S with n:=0 } a X hN' ⟨hF.size,by rw[hd];exact Marks.nil hN.base,fun i hi=>?_⟩ hd;rcases Vr live i with he|he
   · rw[he];trivial
   · obtain⟨h1,h2⟩:=hl _ he
     simp only at h1 h2;have hv:=hF.val i hi;rw[h1] at hv;exact VRel.of_pure (S:=S) (S':={ S with n:=0 }) rfl (fun _ h=>h) h2 hv
def Su (lo:Int) (n:Nat):List Int:=(List.range n).map fun (i:Nat)=>lo+(i:Int)
def Dt (l:List Span):List Int:=l.flatMap fun s=>Su s.lo (s.hi+1-s.lo).toNat
theorem Ob (l:List Span) (hl:l.length≤1000000000000) (hb:∀ s∈l,-1073741824≤s.lo∧s.lo≤s.hi∧s.hi≤1073741824):Zy Try.prog 69 [.cptr (Ah l)] ((Dt l).map fun x=>[.int .i64 x]):=by
 refine zjn Se fun I hP hr=>?_;show TI I 25 Gp _ _ _ _;unfold Gp;refine Jb (TI_v hP (by rfl) ?_);(with_reducible repeat' (first|(simp(disch:=omega)only[push_cast,↓zz,seval])|refine And.intro ?_ ?_|(first|refine Ab ?_ ?_|refine Aa ?_ ?_)<;>intro hc<;>(try simp only[push_cast] at hc)|omega|intro _));refine (Ke (z85 (fun (t:Nat) s env H=>t≤l.length∧s=some (Dt (l.take t)).length∧∀ p∈[(0,AV.yld I.l),(6,Ah l),(7,AV.int .i64 l.length),(8,AV.int .i64 t)],env p.1=p.2) (fun t=>l.length-t) 0 ?_ ?_):TI I 25 _ _ _ _ _)
 · refine⟨Nat.zero_le _,by simp[Dt],?_⟩
   simp only[List.mem_cons,List.not_mem_nil,or_false,forall_eq_or_imp,forall_eq];exact⟨rfl,rfl,rfl,rfl⟩
 rintro t s env H ⟨ht,rfl,hlv⟩;refine zk2 (live:=[(0,AV.yld I.l),(6,Ah l),(7,AV.int .i64 l.length),(8,AV.int .i64 t)]) (fun p hp=>⟨hlv p hp,?_⟩) ?_
 · simp only[List.mem_cons,List.not_mem_nil,or_false] at hp
   rcases hp with rfl|rfl|rfl|rfl<;>first|rfl|exact Dq l
 refine Jb (TI_v hP (by rfl) ?_);(with_reducible repeat' (first|(simp(disch:=omega)only[push_cast,↓zz,seval])|refine And.intro ?_ ?_|(first|refine Ab ?_ ?_|refine Aa ?_ ?_)<;>intro hc<;>(try simp only[push_cast] at hc)|omega|intro _));refine (Jb ?_:TI I 25 _ _ _ _ _);refine TI_v hP (by rfl) ?_;(with_reducible repeat' (first|(simp(disch:=omega)only[push_cast,↓zz,seval])|refine And.intro ?_ ?_|(first|refine Ab ?_ ?_|refine Aa ?_ ?_)<;>intro hc<;>(try simp only[push_cast] at hc)|omega|intro _))
 · refine (Jb (Ke (Jb ?_)):TI I 25 _ _ _ _ _)
   refine TI_v hP (by rfl) ?_;(with_reducible repeat' (first|(simp(disch:=omega)only[push_cast,↓zz,seval])|refine And.intro ?_ ?_|(first|refine Ab ?_ ?_|refine Aa ?_ ?_)<;>intro hc<;>(try simp only[push_cast] at hc)|omega|intro _));refine (Jb ?_:TI I 25 _ _ _ _ _);refine TI_v hP (by rfl) ?_;(with_reducible repeat' (first|(simp(disch:=omega)only[push_cast,↓zz,seval])|refine And.intro ?_ ?_|(first|refine Ab ?_ ?_|refine Aa ?_ ?_)<;>intro hc<;>(try simp only[push_cast] at hc)|omega|intro _));have hs:=hb _ (Ba (l:=l) (i:=t) (by omega))
   have hrow:∀ i:Nat,(nth l t).lo+i≤(nth l t).hi→I.rows[(Dt (l.take t)).length+i]? = some [AV.int .i64 ((nth l t).lo+i)]:=fun i hi=>by
     have e:Dt l=Dt (l.take t)++(Su (nth l t).lo ((nth l t).hi+1-(nth l t).lo).toNat++Dt (l.drop (t+1))):=by
       conv=>lhs;rw[←List.take_append_drop t l,drop_at (show t<l.length by omega)]
       simp[Dt]
     rw[hr,e,List.getElem?_map,List.getElem?_append_right (by omega),Nat.add_sub_cancel_left,List.getElem?_append_left (by simp[Su];omega)];simp only[Su,List.getElem?_map];rw[List.getElem?_range (by omega)];rfl
   have hend:(Dt (l.take (t+1))).length=(Dt (l.take t)).length+((nth l t).hi+1-(nth l t).lo).toNat:=by
     rw[take_at (show t<l.length by omega)];simp[Dt,Su]
   refine (Ke (z85 (fun (i:Nat) s env H=>(nth l t).lo+i≤(nth l t).hi+1∧s=some ((Dt (l.take t)).length+i)∧H=Abs.hl [⟨2,1,true,[Bz (nth l t)]⟩]∧∀ p∈[(0,AV.yld I.l),(4,AV.ptr 0 1 0 0),(5,AV.int .i64 ((nth l t).lo+i)),(6,Ah l),(7,AV.int .i64 l.length),(8,AV.int .i64 t)],env p.1=p.2) (fun i=>((nth l t).hi+1-(nth l t).lo).toNat-i) 0 ?_ ?_):TI I 25 _ _ _ _ _)
   · refine⟨by omega,by simp,rfl,?_⟩
     simp only[List.mem_cons,List.not_mem_nil,or_false,forall_eq_or_imp,forall_eq];refine⟨rfl,rfl,?_,rfl,rfl,rfl⟩;show AV.int .i64 (nth l t).lo=AV.int .i64 ((nth l t).lo+(0:Nat));simp
   rintro i s env H ⟨hi,rfl,rfl,hlv2⟩;refine zo0 (live:=[(0,AV.yld I.l),(4,AV.ptr 0 1 0 0),(5,AV.int .i64 ((nth l t).lo+i)),(6,Ah l),(7,AV.int .i64 l.length),(8,AV.int .i64 t)]) hlv2 ?_;refine Jb ?_;refine TI_v hP (by rfl) ?_;(with_reducible repeat' (first|(simp(disch:=omega)only[push_cast,↓zz,seval])|refine And.intro ?_ ?_|(first|refine Ab ?_ ?_|refine Aa ?_ ?_)<;>intro hc<;>(try simp only[push_cast] at hc)|omega|intro _))
   · refine (Jb (Ke (Jb ?_)):TI I 25 _ _ _ _ _)
     refine zd2 (pre:=[_,_]) (post:=[_]) rfl rfl ?_;refine⟨[AV.int .i64 ((nth l t).lo+i)],rfl,?_,hrow i hc,?_,?_⟩
     · intro x hx
       simp only[List.mem_singleton] at hx;subst hx;exact fun S v hv=>hv
     · rw[hP,←Pd]
       (with_reducible repeat' (first|(simp(disch:=omega)only[push_cast,↓zz,seval])|refine And.intro ?_ ?_|(first|refine Ab ?_ ?_|refine Aa ?_ ?_)<;>intro hc<;>(try simp only[push_cast] at hc)|omega|intro _));refine (TI_v hP ?q1 ?_:TI I 25 _ _ _ _ _)
       case q1=>rfl
       (with_reducible repeat' (first|(simp(disch:=omega)only[push_cast,↓zz,seval])|refine And.intro ?_ ?_|(first|refine Ab ?_ ?_|refine Aa ?_ ?_)<;>intro hc<;>(try simp only[push_cast] at hc)|omega|intro _));refine (TI_v hP ?q2 ?_:TI I 25 _ _ _ _ _)
       case q2=>rfl
       (with_reducible repeat' (first|(simp(disch:=omega)only[push_cast,↓zz,seval])|refine And.intro ?_ ?_|(first|refine Ab ?_ ?_|refine Aa ?_ ?_)<;>intro hc<;>(try simp only[push_cast] at hc)|omega|intro _));refine⟨i+1,⟨by omega,by rw[Nat.add_assoc],rfl,rfl,rfl,?_,rfl,rfl,rfl⟩,by omega⟩;show AV.int .i64 ((nth l t).lo+(i:Int)+1)=AV.int .i64 ((nth l t).lo+((i+1:Nat):Int))
       all_goals first|rfl|(rw[AV.int.injEq];exact⟨rfl,by omega⟩)
     · rw[hP,←Pd]
       (with_reducible repeat' (first|(simp(disch:=omega)only[push_cast,↓zz,seval])|refine And.intro ?_ ?_|(first|refine Ab ?_ ?_|refine Aa ?_ ?_)<;>intro hc<;>(try simp only[push_cast] at hc)|omega|intro _));refine (TI_v hP ?q3 ?_:TI I 25 _ _ _ _ _)
       case q3=>rfl
       (with_reducible repeat' (first|(simp(disch:=omega)only[push_cast,↓zz,seval])|refine And.intro ?_ ?_|(first|refine Ab ?_ ?_|refine Aa ?_ ?_)<;>intro hc<;>(try simp only[push_cast] at hc)|omega|intro _));exact⟨trivial,.inr rfl⟩
   · refine (TI_v hP ?q4 ?_:TI I 25 _ _ _ _ _)
     case q4=>rfl
     (with_reducible repeat' (first|(simp(disch:=omega)only[push_cast,↓zz,seval])|refine And.intro ?_ ?_|(first|refine Ab ?_ ?_|refine Aa ?_ ?_)<;>intro hc<;>(try simp only[push_cast] at hc)|omega|intro _));refine⟨t+1,⟨by omega,?_,rfl,rfl,rfl,?_⟩,by omega⟩
     · first|(rw[hend];congr 2;omega)|trace_state
     all_goals first|rfl|(rw[AV.int.injEq];exact⟨rfl,by omega⟩)
 · refine⟨trivial,.inl ?_⟩
   rw[List.take_of_length_le (by omega)]
theorem Oc (l:List Span) (hl:l.length≤1000000000000):PC Try.prog 61 [Ah l] (.fn 69 [.cptr (Ah (Ar l))]):=by
 refine Bf Xo ?_;unfold Nr;(with_reducible repeat' (first|(simp(disch:=omega)only[push_cast,↓zz,seval])|refine And.intro ?_ ?_|(first|refine Ab ?_ ?_|refine Aa ?_ ?_)<;>intro hc<;>(try simp only[push_cast] at hc)|(have q_:=B8 l hl;(first|refine eK q_ ?_|refine eQ q_ ?_|refine eG q_ ?_);clear q_)|(have q_:=B8 l hl;(first|refine cK q_ ?_|refine cQ q_ ?_|refine cG q_ ?_);clear q_;(simp(disch:=omega)only[push_cast,↓zz,seval]);(fail_if_success change False))|omega|intro _))
 all_goals trace_state
def hasI (l:List Span) (x:Int):Bool:=decide (-1073741824≤x∧x≤1073741824)&&l.any fun p=>decide (p.lo≤x∧x≤p.hi)
end Go.Proofs.Ytbcjoeadpjfcfaa
namespace Go.Proofs.Ytbcjoeadpjfcfaa
open Abs
def Dy (l:List Int):Prop:=l.Pairwise fun a b=>a<b
structure Place (l:List Int) (x:Int) (lo hi:Nat):Prop where
 le:lo≤hi
 top:hi≤l.length
 lt:∀ j,j<lo→nth l j<x
 ge:∀ j,hi≤j→j<l.length→x≤nth l j
def putI (l:List Int) (x:Int):List Int:=if x∈l then l else l.takeWhile (fun y=>decide (y<x))++x::l.dropWhile (fun y=>decide (y<x))
theorem z0q {l:List Int} {x y:Int}:y∈putI l x↔y=x∨y∈l:=by
 unfold putI;split
 · rename_i h
   constructor
   · exact .inr
   · rintro (rfl|h')
     · exact h
     · exact h'
 · rw[List.mem_append,List.mem_cons]
   conv=>rhs;rw[←List.takeWhile_append_dropWhile (p:=fun y=>decide (y<x)) (l:=l),List.mem_append]
   constructor
   · rintro (h|h|h)
     · exact .inr (.inl h)
     · exact .inl h
     · exact .inr (.inr h)
   · rintro (h|h|h)
     · exact .inr (.inl h)
     · exact .inl h
     · exact .inr (.inr h)
def lowI (l:List Int) (x:Int):Nat:=(l.takeWhile fun y=>decide (y<x)).length
theorem zdn (l:List Int) (x:Int):l.take (lowI l x)=l.takeWhile (fun y=>decide (y<x))∧l.drop (lowI l x)=l.dropWhile (fun y=>decide (y<x)):=by
 have key:∀ (u v:List Int),u++v=l→l.take u.length=u∧l.drop u.length=v:=fun u v h=>by subst h;exact⟨List.take_left,List.drop_left⟩
 exact key _ _ (List.takeWhile_append_dropWhile (p:=fun y=>decide (y<x)) (l:=l))
theorem z95 {l:List Int} (hr:Dy l) (x:Int):Place l x (lowI l x) (lowI l x):=by
 induction l with
 | nil=>exact⟨Nat.le_refl _,by simp[lowI],fun j hj=>by simp[lowI] at hj,fun j _ hj=>by simp at hj⟩
 | cons a l ih =>
   have hr':Dy l:=(List.pairwise_cons.1 hr).2;have hall:=(List.pairwise_cons.1 hr).1;by_cases ha:a<x
   · have e:lowI (a::l) x=lowI l x+1:=by simp[lowI,ha]
     have hp:=ih hr';rw[e];refine⟨Nat.le_refl _,by have:=hp.top;simp;omega,fun j hj=>?_,fun j hj hjl=>?_⟩
     · cases j with
       | zero=>simpa [nth] using ha
       | succ j=>have:=hp.lt j (by omega);simpa [nth] using this
     · cases j with
       | zero=>omega
       | succ j=>have:=hp.ge j (by omega) (by simpa using hjl);simpa [nth] using this
   · have e:lowI (a::l) x=0:=by simp[lowI,ha]
     rw[e];refine⟨Nat.le_refl _,by simp,fun j hj=>by omega,fun j hj hjl=>?_⟩;cases j with
     | zero=>simp[nth];omega
     | succ j =>
       have hj2:j<l.length:=by simpa using hjl
       have:=hall _ (Ba hj2);have h3:nth (a::l) (j+1)=nth l j:=by simp[nth]
       rw[h3];omega
theorem Od {l:List Int} (hr:Dy l) (x:Int):Dy (putI l x):=by
 unfold putI;split
 · exact hr
 · rename_i hx
   have hp:=z95 hr x;obtain⟨e1,e2⟩:=zdn l x;rw[←e1,←e2];have ht:Dy (l.take (lowI l x)):=List.Pairwise.sublist (List.take_sublist _ _) hr;have hd:Dy (l.drop (lowI l x)):=List.Pairwise.sublist (List.drop_sublist _ _) hr
   have k1:∀ y∈l.take (lowI l x),y<x:=fun y hy=>by
     obtain⟨j,hj,he⟩:=List.getElem_of_mem hy;rw[List.getElem_take] at he;have hj':j<lowI l x:=by simp at hj;omega
     have hjl:j<l.length:=by simp at hj;omega
     have hn:nth l j=y:=by simp[nth,List.getD_eq_getElem?_getD,List.getElem?_eq_getElem hjl,he]
     have:=hp.lt j hj';omega
   have k2:∀ y∈l.drop (lowI l x),x<y:=fun y hy=>by
     obtain⟨j,hj,he⟩:=List.getElem_of_mem hy;rw[List.getElem_drop] at he;have hj':lowI l x+j<l.length:=by simp at hj;omega
     have hn:nth l (lowI l x+j)=y:=by simp[nth,List.getD_eq_getElem?_getD,List.getElem?_eq_getElem hj',he]
     have:=hp.ge (lowI l x+j) (by omega) hj';have hne:y≠x:=fun h=>hx (h ▸ List.mem_of_mem_drop hy);omega
   rw[Dy,List.pairwise_append,List.pairwise_cons];refine⟨ht,⟨k2,hd⟩,fun a ha b hb=>?_⟩;rcases List.mem_cons.1 hb with rfl|hb
   · exact k1 a ha
   · have:=k1 a ha;have:=k2 b hb;omega
def z4f (l:List Int) (s:Span):List Int:=if -1073741824<s.lo∧s.lo≤1073741824 then putI l s.lo else l
def z4g (l:List Int) (s:Span):List Int:=if -1073741824≤s.hi∧s.hi<1073741824 then putI l (s.hi+1) else l
def addB (l:List Int) (s:Span):List Int:=z4g (z4f l s) s
def En (a b:List Span):List Int:=b.foldl addB (a.foldl addB [-1073741824])
theorem z0r (l:List Int) (x:Int):(putI l x).length≤l.length+1:=by
 unfold putI;split
 · omega
 · have h:=congrArg List.length (List.takeWhile_append_dropWhile (p:=fun y=>decide (y<x)) (l:=l))
   simp only[List.length_append] at h;simp only[List.length_append,List.length_cons];omega
theorem zdo {l:List Int} (h:Dy l) (s:Span):Dy (z4f l s)∧(z4f l s).length≤l.length+1:=by
 unfold z4f;split
 · exact⟨Od h _,z0r _ _⟩
 · exact⟨h,by omega⟩
theorem zdp {l:List Int} (h:Dy l) (s:Span):Dy (z4g l s)∧(z4g l s).length≤l.length+1:=by
 unfold z4g;split
 · exact⟨Od h _,z0r _ _⟩
 · exact⟨h,by omega⟩
theorem zk3 {l:List Int} (h:Dy l) (s:Span):Dy (addB l s)∧(addB l s).length≤l.length+2:=by
 obtain⟨h1,h2⟩:=zdo h s;obtain⟨h3,h4⟩:=zdp h1 s;exact⟨h3,by unfold addB;omega⟩
theorem X4:∀ (s:List Span) {l:List Int},Dy l→Dy (s.foldl addB l)∧(s.foldl addB l).length≤l.length+2 * s.length
 | [],l,h=>⟨h,by simp⟩
 | x::s,l,h=>by
   obtain⟨h1,h2⟩:=zk3 h x;obtain⟨h3,h4⟩:=X4 s h1;exact⟨h3,by simp only[List.foldl_cons,List.length_cons];omega⟩
theorem z96 {l:List Int} {s:Span} {y:Int}:y∈z4f l s↔y∈l∨(y=s.lo∧-1073741824<s.lo∧s.lo≤1073741824):=by
 unfold z4f;split
 · rename_i h;rw[z0q];constructor
   · rintro (h1|h1)
     · exact .inr ⟨h1,h⟩
     · exact .inl h1
   · rintro (h1|h1)
     · exact .inr h1
     · exact .inl h1.1
 · rename_i h;exact⟨.inl,fun h1=>h1.resolve_right fun h2=>h h2.2⟩
theorem z97 {l:List Int} {s:Span} {y:Int}:y∈z4g l s↔y∈l∨(y=s.hi+1∧-1073741824≤s.hi∧s.hi<1073741824):=by
 unfold z4g;split
 · rename_i h;rw[z0q];constructor
   · rintro (h1|h1)
     · exact .inr ⟨h1,h⟩
     · exact .inl h1
   · rintro (h1|h1)
     · exact .inr h1
     · exact .inl h1.1
 · rename_i h;exact⟨.inl,fun h1=>h1.resolve_right fun h2=>h h2.2⟩
def Qw (s:Span) (y:Int):Prop:=(y=s.lo∧-1073741824<s.lo∧s.lo≤1073741824)∨(y=s.hi+1∧-1073741824≤s.hi∧s.hi<1073741824)
theorem Oe:∀ (s:List Span) {l:List Int} {y:Int},y∈s.foldl addB l↔y∈l∨∃ t∈s,Qw t y
 | [],l,y=>by simp
 | x::s,l,y=>by
   rw[List.foldl_cons,Oe s,addB,z97,z96];constructor
   · rintro (((h|h)|h)|⟨t,ht,h⟩)
     · exact .inl h
     · exact .inr ⟨x,by simp,.inl h⟩
     · exact .inr ⟨x,by simp,.inr h⟩
     · exact .inr ⟨t,by simp[ht],h⟩
   · rintro (h|⟨t,ht,h⟩)
     · exact .inl (.inl (.inl h))
     · rcases List.mem_cons.1 ht with rfl|ht
       · rcases h with h|h
         · exact .inl (.inl (.inr h))
         · exact .inl (.inr h)
       · exact .inr ⟨t,ht,h⟩
theorem Gr {a b:List Span} {y:Int}:y∈En a b↔y=-1073741824∨(∃ t∈a,Qw t y)∨∃ t∈b,Qw t y:=by
 rw[En,Oe,Oe,List.mem_singleton,or_assoc]
theorem Jc (a b:List Span):Dy (En a b):=(X4 b (X4 a (by simp[Dy])).1).1
theorem Of {s:Span} {y:Int} (h:Qw s y):-1073741824<y∧y≤1073741824:=by
 unfold Qw at h;omega
theorem Jd {a b:List Span}:∀ y∈En a b,-1073741824≤y∧y≤1073741824:=fun y hy=>by
 rcases Gr.1 hy with rfl|⟨t,_,h⟩|⟨t,_,h⟩
 · omega
 · have:=Of h;omega
 · have:=Of h;omega
theorem Vs (a b:List Span):∃ r,En a b=-1073741824::r:=by
 have h1:(-1073741824:Int)∈En a b:=Gr.2 (.inl rfl);have h2:=Jc a b;have h3:=Jd (a:=a) (b:=b);cases hb:En a b with
 | nil=>rw[hb] at h1;cases h1
 | cons x r =>
   rw[hb] at h1 h2 h3;rcases List.mem_cons.1 h1 with h|h
   · exact⟨r,by rw[h]⟩
   · have:=(List.pairwise_cons.1 h2).1 _ h
     have:=h3 x (by simp);omega
theorem Ki {l:List Span} {x:Int}:hasI l x=true ↔ -1073741824≤x∧x≤1073741824∧memL l x:=by
 simp only[hasI,Bool.and_eq_true,decide_eq_true_eq,List.any_eq_true,memL,and_assoc]
theorem Qy {s:List Span} {x v:Int} (hx:-1073741824≤x) (hxv:x≤v) (hv:v≤1073741824) (h:∀ t∈s,∀ y,Qw t y→y≤x∨v<y):hasI s v=hasI s x:=by
 rw[Bool.eq_iff_iff,Ki,Ki]
 have key:memL s v↔memL s x:=by
   constructor
   · rintro⟨t,ht,h1,h2⟩
     refine⟨t,ht,?_,by omega⟩;rcases Int.lt_or_le x t.lo with hlt|hle
     · have:=h t ht t.lo (.inl ⟨rfl,by omega,by omega⟩);omega
     · exact hle
   · rintro⟨t,ht,h1,h2⟩
     refine⟨t,ht,by omega,?_⟩;rcases Int.lt_or_le t.hi v with hlt|hle
     · have:=h t ht (t.hi+1) (.inr ⟨rfl,by omega,by omega⟩);omega
     · exact hle
 rw[key];constructor
 · rintro⟨_,_,h⟩;exact⟨hx,by omega,h⟩
 · rintro⟨_,_,h⟩;exact⟨by omega,hv,h⟩
def addS (out:List Span) (s:Span):List Span :=
 match out.getLast? with
 | some y=>if y.hi=s.lo-1 then out.dropLast++[⟨y.lo,s.hi⟩] else out++[s]
 | none=>[s]
theorem Gs (x:Span):addS [] x=[x]:=rfl
theorem Og (out:List Span) (y x:Span):addS (out++[y]) x=if y.hi=x.lo-1 then out++[⟨y.lo,x.hi⟩] else out++[y]++[x]:=by
 simp[addS]
def z4h (l:List Span) (f:Int):Prop:=∀ s∈l,s.hi<f
theorem z4i {out:List Span} {x:Span} (h:Plain out) (hx:x.lo≤x.hi) (hb:z4h out x.lo):Plain (addS out x)∧z4h (addS out x) (x.hi+1)∧∀ v,memL (addS out x) v↔memL out v∨(x.lo≤v∧v≤x.hi):=by
 rcases Ei out with rfl|⟨m,y,rfl⟩
 · refine⟨⟨by simp[Gs,hx],by simp[Gs]⟩,by simp[Gs,z4h];omega,fun v=>?_⟩
   rw[Gs,Am];constructor
   · rintro (h|h)
     · exact .inr h
     · exact absurd h (Bb _)
   · rintro (h|h)
     · exact absurd h (Bb _)
     · exact .inl h
 · rw[Og]
   obtain⟨h1,h2,h3⟩:=E6.1 h;have hy:y.hi<x.lo:=hb y (by simp);have hm:∀ s∈m,s.hi<x.lo:=fun s hs=>hb s (by simp[hs]);split
   · rename_i he
     refine⟨E6.2 ⟨h1,by simp only;omega,fun s hs=>h3 s hs⟩,?_,fun v=>?_⟩
     · intro s hs
       rcases List.mem_append.1 hs with hs|hs
       · have:=hm s hs;omega
       · simp only[List.mem_singleton] at hs;subst hs;simp only;omega
     · rw[Df,Df,Am,Am]
       simp only[Bb,or_false];constructor
       · rintro (h|h)
         · exact .inl (.inl h)
         · by_cases hv:v≤y.hi
           · exact .inl (.inr ⟨h.1,hv⟩)
           · exact .inr ⟨by omega,by omega⟩
       · rintro ((h|h)|h)
         · exact .inl h
         · exact .inr ⟨h.1,by omega⟩
         · exact .inr ⟨by omega,by omega⟩
   · rename_i he
     refine⟨E6.2 ⟨h,hx,fun s hs=>?_⟩,?_,fun v=>?_⟩
     · rcases List.mem_append.1 hs with hs|hs
       · have:=h3 s hs;omega
       · simp only[List.mem_singleton] at hs;subst hs;omega
     · intro s hs
       rcases List.mem_append.1 hs with hs|hs
       · have:=hb s hs;omega
       · simp only[List.mem_singleton] at hs;subst hs;omega
     · rw[Df,Am]
       simp only[Bb,or_false]
def toI:List Int→Int
 | []=>1073741824
 | y::_=>y-1
def z98 (p:Int→Bool):List Int→List Span→List Span
 | [],out=>out
 | x::r,out=>z98 p r (if p x then addS out ⟨x,toI r⟩ else out)
def zdq (p:Int→Bool):List Int→Prop
 | []=>True
 | x::r=>(∀ v,x≤v→v≤toI r→p v=p x)∧zdq p r
theorem z4j {l:List Span} {f g:Int} (h:z4h l f) (hg:f≤g):z4h l g:=fun s hs=>by have:=h s hs;omega
theorem Oh (p:Int→Bool):∀ (l:List Int) (out:List Span) (f:Int),Dy l→(∀ x∈l,x≤1073741824)→(f=toI l+1)→zdq p l→Plain out→z4h out f →
   Plain (z98 p l out)∧∀ v,memL (z98 p l out) v↔memL out v∨(f≤v∧v≤1073741824∧p v=true)
 | [],out,f,_,_,hf,_,ho,_=>⟨ho,fun v=>by
     simp only[toI] at hf
     exact⟨.inl,fun h=>h.resolve_right fun h=>by omega⟩⟩
 | x::r,out,f,hr,hm,hf,hs,ho,ha=>by
   have hx:=hm x (by simp);have hfx:f=x:=by rw[hf,toI];omega
   subst hfx
   have hto:f≤toI r:=by
     cases r with
     | nil=>simpa [toI] using hx
     | cons y r=>have:=(List.pairwise_cons.1 hr).1 y (by simp);simp only[toI];omega
   have hr':Dy r:=(List.pairwise_cons.1 hr).2;rw[z98];by_cases hp:p f=true
   · rw[if_pos hp]
     obtain⟨a1,a2,a3⟩:=z4i (x:=⟨f,toI r⟩) ho hto ha;obtain⟨b1,b2⟩:=Oh p r _ (toI r+1) hr' (fun y hy=>hm y (by simp[hy])) rfl hs.2 a1 a2;refine⟨b1,fun v=>?_⟩;rw[b2 v,a3 v];constructor
     · rintro ((h|h)|h)
       · exact .inl h
       · refine .inr ⟨h.1,?_,by rw[hs.1 v h.1 h.2];exact hp⟩
         have:toI r≤1073741824:=by
           cases r with
           | nil=>simp[toI]
           | cons y r=>have:=hm y (by simp);simp only[toI];omega
         have:=h.2;simp only at this;omega
       · exact .inr ⟨by omega,h.2⟩
     · rintro (h|h)
       · exact .inl (.inl h)
       · rcases Int.lt_or_le (toI r) v with hlt|hle
         · exact .inr ⟨by omega,h.2⟩
         · exact .inl (.inr ⟨h.1,hle⟩)
   · rw[if_neg hp]
     obtain⟨b1,b2⟩:=Oh p r out (toI r+1) hr' (fun y hy=>hm y (by simp[hy])) rfl hs.2 ho (z4j ha (by omega));refine⟨b1,fun v=>?_⟩;rw[b2 v];constructor
     · rintro (h|h)
       · exact .inl h
       · exact .inr ⟨by omega,h.2⟩
     · rintro (h|h)
       · exact .inl h
       · rcases Int.lt_or_le (toI r) v with hlt|hle
         · exact .inr ⟨by omega,h.2⟩
         · exact absurd ((hs.1 v h.1 hle).symm.trans h.2.2) hp
theorem zfz {p:Int→Bool}:∀ (l pre:List Int),Dy (pre++l)→(∀ x∈l,-1073741824≤x∧x≤1073741824)→(∀ x v,-1073741824≤x→x≤v→v≤1073741824→(∀ y∈pre++l,y≤x∨v<y)→p v=p x)→zdq p l
 | [],_,_,_,_=>trivial
 | x::r,pre,hr,hm,h=>by
   refine⟨fun v h1 h2=>?_,zfz r (pre++[x]) (by simpa using hr) (fun y hy=>hm y (by simp[hy])) (by simpa using h)⟩;obtain⟨p1,p2,p3⟩:=List.pairwise_append.1 hr;have hx:=hm x (by simp)
   have hto:toI r≤1073741824:=by
     cases r with
     | nil=>simp[toI]
     | cons y r=>have:=hm y (by simp);simp only[toI];omega
   refine h x v hx.1 h1 (by omega) fun y hy=>?_;rcases List.mem_append.1 hy with hy|hy
   · exact .inl (Int.le_of_lt (p3 y hy x (by simp)))
   · rcases List.mem_cons.1 hy with rfl|hy
     · exact .inl (Int.le_refl _)
     · right
       cases r with
       | nil=>cases hy
       | cons z r =>
         simp only[toI] at h2;rcases List.mem_cons.1 hy with rfl|hy
         · omega
         · have:=(List.pairwise_cons.1 (List.pairwise_cons.1 p2).2).1 y hy;omega
def howB (h:Int) (x y:Bool):Bool:=if h=2 then x&&!y else if h=1 then x&&y else x||y
def z99 (a b:List Span) (h:Int):List Span:=z98 (fun v=>howB h (hasI a v) (hasI b v)) (En a b) []
theorem Qz (a b:List Span) (h:Int):Plain (z99 a b h)∧∀ v,memL (z99 a b h) v ↔ -1073741824≤v∧v≤1073741824∧howB h (hasI a v) (hasI b v)=true:=by
 obtain⟨r,hr⟩:=Vs a b;have hbo:=Jd (a:=a) (b:=b);have hri:=Jc a b
 have hseg:zdq (fun v=>howB h (hasI a v) (hasI b v)) (En a b):=zfz _ [] hri hbo fun x v h1 h2 h3 h4=>by
   simp only[List.nil_append] at h4;have e1:hasI a v=hasI a x:=Qy h1 h2 h3 fun t ht y hy=>h4 y (Gr.2 (.inr (.inl ⟨t,ht,hy⟩)));have e2:hasI b v=hasI b x:=Qy h1 h2 h3 fun t ht y hy=>h4 y (Gr.2 (.inr (.inr ⟨t,ht,hy⟩)));simp only[e1,e2]
 obtain⟨k1,k2⟩:=Oh _ (En a b) [] (-1073741824) hri (fun x hx=>(hbo x hx).2) (by rw[hr];simp[toI]) hseg ⟨by simp,by simp⟩ (fun s hs=>by cases hs);refine⟨k1,fun v=>?_⟩;rw[z99,k2 v];simp only[Bb,false_or]
theorem z4k (a b:List Span):z99 a b 1=D8 (Ar a) (Ar b):=by
 obtain⟨a1,a2⟩:=Qz a b 1;obtain⟨p1,p2⟩:=Ao a;obtain⟨q1,q2⟩:=Ao b;obtain⟨b1,b2⟩:=Ht _ _ p1 q1;refine Ho a1 b1 fun v=>?_;rw[a2 v,b2 v,p2 v,q2 v];simp only[howB];rw[if_neg (by decide),if_pos trivial,Bool.and_eq_true,Ki,Ki];constructor
 · rintro⟨h1,h2,⟨_,_,h3⟩,_,_,h4⟩;exact⟨⟨h3,h1,h2⟩,h4,h1,h2⟩
 · rintro⟨⟨h3,h1,h2⟩,h4,_,_⟩;exact⟨h1,h2,⟨h1,h2,h3⟩,h1,h2,h4⟩
theorem Vt {α:Type} {f:α→AV} {m:List α} {y z:α}:((m++[y]).map f).set m.length (f z)=(m++[z]).map f:=by simp
theorem zdr {α:Type} [Inhabited α] {m:List α} {y:α}:nth (m++[y]) m.length=y:=by simp[nth,List.getD_eq_getElem?_getD]
theorem Vu {l m:List Span} {k:Nat} (h1:k<l.length) (h2:k<m.length):decide (l.drop k=m.drop k)=(decide (nth l k=nth m k)&&decide (l.drop (k+1)=m.drop (k+1))):=by
 rw[drop_at h1,drop_at h2];simp
theorem X5 (p q:Span):(decide (p.lo=q.lo)&&decide (p.hi=q.hi))=decide (p=q):=by
 cases p;cases q;simp
theorem Q0 (a b:List Span) (hl:a.length≤1000000000000):PC Try.prog 26 [Ah a,Ah b] (.bool (decide (a=b))):=by
 refine Bf Us ?_;unfold Li;(with_reducible repeat' (first|(simp(disch:=omega)only[push_cast,↓zz,seval])|refine And.intro ?_ ?_|(first|refine Ab ?_ ?_|refine Aa ?_ ?_)<;>intro hc<;>(try simp only[push_cast] at hc)|omega|intro _))
 · have:a≠b:=by intro h;subst h;first|omega|simp_all
   simp[this]
 refine A5 (Be (fun (k:Nat)=>k≤a.length∧decide (a=b)=decide (a.drop k=b.drop k)) (fun k=>a.length-k)
   (fun k=>[(0,Ah a),(1,Ah b),(5,.int .i64 k)]) (fun s=>[]) (fun env _=>[]) 0 (by simp) ?_ ?_)
 · (with_reducible repeat' (first|(simp(disch:=omega)only[push_cast,↓zz,seval])|refine And.intro ?_ ?_|(first|refine Ab ?_ ?_|refine Aa ?_ ?_)<;>intro hc<;>(try simp only[push_cast] at hc)|omega|intro _))
 rintro k ⟨hk,hr⟩;refine W_T ?_;(with_reducible repeat' (first|(simp(disch:=omega)only[push_cast,↓zz,seval,X5])|refine And.intro ?_ ?_|(first|refine Ab ?_ ?_|refine Aa ?_ ?_)<;>intro hc<;>(try simp only[push_cast] at hc)|omega|intro _))
 · rw[hr,Vu (by omega) (by omega)];simp[*]
 · refine⟨k+1,?_⟩
   (with_reducible repeat' (first|(simp(disch:=omega)only[push_cast,↓zz,seval])|refine And.intro ?_ ?_|(first|refine Ab ?_ ?_|refine Aa ?_ ?_)<;>intro hc<;>(try simp only[push_cast] at hc)|omega|intro _));rw[hr,Vu (by omega) (by omega)];simp[*]
 · rw[hr,List.drop_of_length_le (by omega),List.drop_of_length_le (by omega)];simp
def symI (l:List Span):List Span:=z99 l [⟨0,1114111⟩] 1
theorem Q1 (s:Span) (l:List Span):Dt (s::l)=Su s.lo (s.hi+1-s.lo).toNat++Dt l:=rfl
theorem zds (x:Int):hasI [⟨0,1114111⟩] x=decide (0≤x∧x≤1114111):=by
 simp only[hasI,List.any_cons,List.any_nil,Bool.or_false];by_cases h:0≤x∧x≤1114111
 · simp[h];omega
 · simp[h]
theorem Oi (l:List Span):Plain (symI l)∧∀ v,memL (symI l) v↔(0≤v∧v≤1114111)∧memL l v:=by
 obtain⟨h1,h2⟩:=Qz l [⟨0,1114111⟩] 1;refine⟨h1,fun v=>?_⟩;rw[symI,h2 v,zds];simp only[howB];rw[if_neg (by decide),if_pos trivial,Bool.and_eq_true,Ki,decide_eq_true_eq];constructor
 · rintro⟨a,b,⟨_,_,c⟩,d⟩;exact⟨d,c⟩
 · rintro⟨d,c⟩;exact⟨by omega,by omega,⟨by omega,by omega,c⟩,d⟩
def Syms (l:List Span):Prop:=Plain l∧∀ s∈l,0≤s.lo∧s.lo≤s.hi∧s.hi≤1114111
theorem X6 {l:List Span} (h1:Plain l) (h2:∀ v,memL l v→0≤v∧v≤1114111):Syms l :=
 ⟨h1,fun s hs=>by
   have hle:=h1.1 s hs;have:=h2 s.lo ⟨s,hs,Int.le_refl _,hle⟩;have:=h2 s.hi ⟨s,hs,hle,Int.le_refl _⟩
   omega⟩
theorem Vv (l:List Span):Syms (symI l):=X6 (Oi l).1 fun v hv=>(((Oi l).2 v).1 hv).1
theorem z0s:∀ {l:List Span} {f:Nat},Plain l→(∀ s∈l,(f:Int)≤s.lo∧s.hi≤1114111)→f≤1114112→l.length+f≤1114112
 | [],f,_,_,hf=>by simpa using hf
 | s::l,f,h,hb,hf=>by
   have h1:=hb s (by simp);have h2:=h.head
   have:=z0s (l:=l) (f:=(s.hi+1).toNat) h.tail (fun t ht=>by
     have:=(List.pairwise_cons.1 h.2).1 t ht;have:=hb t (by simp[ht])
     omega) (by omega)
   simp only[List.length_cons];omega
theorem Syms.len {l:List Span} (h:Syms l):l.length≤1114112:=by
 have:=z0s (f:=0) h.1 (fun s hs=>by have:=h.2 s hs;simp only[Int.ofNat_zero];omega) (by omega);omega
theorem Vw:PC Try.prog 59 [] (Ah [⟨0,1114111⟩]):=by
 refine Bf Pk ?_;unfold Ja;(with_reducible repeat' (first|(simp(disch:=omega)only[push_cast,↓zz,seval])|refine And.intro ?_ ?_|(first|refine Ab ?_ ?_|refine Aa ?_ ?_)<;>intro hc<;>(try simp only[push_cast] at hc)|omega|intro _))
def Vx (l:List Span):Option Int:=match l with
 | []=>none
 | s::_=>some s.lo
def X7 (l:List Span):Option Int:=l.getLast?.map (·.hi)
abbrev optI (o:Option Int):AV:=.tup [.int .i64 (o.getD 0),.bool o.isSome]
theorem Bh (l:List Span) (hl:l.length≤1000000000000):PC Try.prog 67 [Ah l] (optI (Vx (Ar l))):=by
 refine Bf U7 ?_;unfold Lz;(with_reducible repeat' (first|(simp(disch:=omega)only[push_cast,↓zz,seval])|refine And.intro ?_ ?_|(first|refine Ab ?_ ?_|refine Aa ?_ ?_)<;>intro hc<;>(try simp only[push_cast] at hc)|(have q_:=B8 l hl;(first|refine eK q_ ?_|refine eQ q_ ?_|refine eG q_ ?_);clear q_)|(have q_:=B8 l hl;(first|refine cK q_ ?_|refine cQ q_ ?_|refine cG q_ ?_);clear q_;(simp(disch:=omega)only[push_cast,↓zz,seval]);(fail_if_success change False))|omega|intro _))
 · have h0:Ar l=[]:=List.eq_nil_of_length_eq_zero (by omega)
   rw[h0];(repeat' (first|(simp(disch:=omega)only[push_cast,↓zz,seval,Cf,Vx,Option.getD_none,Option.isSome_none])|omega|(with_reducible refine And.intro ?_ ?_)))
 · cases hn:Ar l with
   | nil=>exact absurd (by rw[hn];rfl) hc
   | cons s r =>
     (repeat' (first|(simp(disch:=omega)only[push_cast,↓zz,seval,Cf,Vx,Option.getD_some,Option.isSome_some])|omega|(with_reducible refine And.intro ?_ ?_)))
     all_goals simp[nth]
theorem Br (l:List Span) (hl:l.length≤1000000000000):PC Try.prog 68 [Ah l] (optI (X7 (Ar l))):=by
 refine Bf Xq ?_;unfold Nv;have hn:=Dm l;(with_reducible repeat' (first|(simp(disch:=omega)only[push_cast,↓zz,seval])|refine And.intro ?_ ?_|(first|refine Ab ?_ ?_|refine Aa ?_ ?_)<;>intro hc<;>(try simp only[push_cast] at hc)|(have q_:=B8 l hl;(first|refine eK q_ ?_|refine eQ q_ ?_|refine eG q_ ?_);clear q_)|(have q_:=B8 l hl;(first|refine cK q_ ?_|refine cQ q_ ?_|refine cG q_ ?_);clear q_;(simp(disch:=omega)only[push_cast,↓zz,seval]);(fail_if_success change False))|omega|intro _))
 · have h0:Ar l=[]:=List.eq_nil_of_length_eq_zero (by omega)
   rw[h0];(repeat' (first|(simp(disch:=omega)only[push_cast,↓zz,seval,Cf,X7,List.getLast?_nil,Option.map_none,Option.getD_none,Option.isSome_none])|omega|(with_reducible refine And.intro ?_ ?_)))
 · rcases Ei (Ar l) with h0|⟨m,z,h0⟩
   · exact absurd (by rw[h0];rfl) hc
   · have e:((Ar l).length:Int)-1=(m.length:Int):=by rw[h0];simp
     have e2:nth (Ar l) m.length=z:=by rw[h0];simp[nth,List.getD_eq_getElem?_getD]
     rw[show X7 (Ar l)=some z.hi by rw[h0];simp[X7]];(repeat' (first|(simp(disch:=omega)only[push_cast,↓zz,seval,Cf,Option.getD_some,Option.isSome_some,e,e2])|omega|(with_reducible refine And.intro ?_ ?_)))
     all_goals (rw[show (Ar l).length-1=m.length by rw[h0];simp];rw[e2])
def Es (d:Int) (s:Span):Span:=⟨s.lo+d,s.hi+d⟩
def Mg (l:List Span) (d:Int):List Span:=if d < -2147483648∨2147483648<d then [] else Ar ((Ar l).map (Es d))
def midM (d:Int) (l rest:List Span) (k:Nat):List Span:=(l.take k).map (Es d)++(l.drop k++rest)
theorem z9a (d:Int) (l rest:List Span):midM d l rest 0=l++rest:=by simp[midM]
theorem zdt (d:Int) (l rest:List Span):midM d l rest l.length=l.map (Es d)++rest:=by simp[midM]
theorem zdu (d:Int) (l rest:List Span) (k:Nat) (h:k≤l.length):(midM d l rest k).length=l.length+rest.length:=by simp[midM];omega
theorem zk4 {d:Int} {l rest:List Span} {k:Nat} (h:k<l.length):nth (midM d l rest k) k=nth l k:=by
 rw[midM,drop_at h,nth,List.getD_eq_getElem?_getD,List.getElem?_append_right (by simp;omega)];simp[show min k l.length=k by omega]
theorem zdv {d:Int} {l rest:List Span} {k:Nat} (h:k<l.length):((midM d l rest k).map Bz).set k (Bz ⟨(nth l k).lo+d,(nth l k).hi+d⟩)=(midM d l rest (k+1)).map Bz:=by
 rw[midM,midM,take_at h,drop_at h,←List.map_set];congr 1;rw[List.set_append_right _ _ (by simp;omega),show k-(List.map (Es d) (List.take k l)).length=0 by simp;omega];simp[Es]
theorem z9b (l:List Span) (d:Int) (hl:l.length≤1000000000000):PC Try.prog 50 [Ah l,.int .i64 d] (Ah (Mg l d)):=by
 refine Bf Xm ?_;unfold Np;have hw:IntKind.i64.wrap d=IntKind.i64.wrap d:=rfl;have hz:(d < -2147483648∨2147483648<d)→Mg l d=[]:=fun h=>by rw[Mg,if_pos h]
 (with_reducible repeat' (first|(simp(disch:=omega)only[push_cast,↓zz,seval])|refine And.intro ?_ ?_|(first|refine Ab ?_ ?_|refine Aa ?_ ?_)<;>intro hc<;>(try simp only[push_cast] at hc)|omega|intro _))
 all_goals first|exact hz (by omega)|skip
 · refine U9 (l:=[]) [] (K5 l hl) (by rfl) rfl (by simp) (by simp) (by simp[ltL,ltV]) (by simp) ?_
   rintro y H' ⟨rest,rfl,rfl⟩;refine⟨_,rfl,by simp,?_⟩;have hn:=Dm l;have hbd:=D9 l;have hmv:Mg l d=Ar ((Ar l).map (Es d)):=by rw[Mg,if_neg (by omega)]
   rw[hmv];generalize Ar l=m at *;(with_reducible repeat' (first|(simp(disch:=omega)only[push_cast,↓zz,seval])|refine And.intro ?_ ?_|(first|refine Ab ?_ ?_|refine Aa ?_ ?_)<;>intro hc<;>(try simp only[push_cast] at hc)|omega|intro _));refine A5 (Be (fun (k:Nat)=>k≤m.length) (fun k=>m.length-k) (fun k=>[(1,.int .i64 d),(5,.ref 0 1 0 m.length),(16,.int .i64 m.length),(17,.int .i64 k)]) (fun k=>[⟨2,1,true,(midM d m rest k).map Bz⟩]) (fun env _=>[Bi 2 (env 5)]) 0 (by simp) ?_ ?_)
   · (with_reducible repeat' (first|(simp(disch:=omega)only[push_cast,↓zz,seval,z9a])|refine And.intro ?_ ?_|(first|refine Ab ?_ ?_|refine Aa ?_ ?_)<;>intro hc<;>(try simp only[push_cast] at hc)|omega|intro _))
   intro k hk;have hlen:=zdu d m rest k hk;rcases Nat.lt_or_ge k m.length with hkm|hkm
   · have ha:=zk4 (d:=d) (rest:=rest) hkm
     have hs:=zdv (d:=d) (rest:=rest) hkm;have hx:=hbd _ (Ba hkm)
     have hgs:∀ v,(((midM d m rest k).map Bz).set k v).getD k .any=v:=fun v=>by
       rw[List.getD_eq_getElem?_getD,List.getElem?_set_self (by simp[hlen];omega)];rfl
     refine W_T ?_;(with_reducible repeat' (first|(simp(disch:=omega)only[push_cast,↓zz,seval,hlen,ha,hgs,List.set_set,hs])|refine And.intro ?_ ?_|(first|refine Ab ?_ ?_|refine Aa ?_ ?_)<;>intro hc<;>(try simp only[push_cast] at hc)|omega|intro _));exact⟨k+1,⟨by simp,Bq _ _⟩,by omega,by omega⟩
   · obtain rfl:k=m.length:=by omega
     rw[zdt];have ht:List.take m.length ((m.map (Es d)).map Bz++rest.map Bz)=(m.map (Es d)).map Bz:=List.take_left' (by simp);have hmm:=B8 (m.map (Es d)) (by simp;omega);refine W_T ?_;(with_reducible repeat' (first|(simp(disch:=omega)only[push_cast,↓zz,seval,ht,Cw])|refine And.intro ?_ ?_|(first|refine Ab ?_ ?_|refine Aa ?_ ?_)<;>intro hc<;>(try simp only[push_cast] at hc)|refine eK hmm ?_|refine eQ hmm ?_|refine eG hmm ?_|((first|refine cK hmm ?_|refine cQ hmm ?_|refine cG hmm ?_);(simp(disch:=omega)only[push_cast,↓zz,seval,ht,Cw]);(fail_if_success change False))|omega|intro _))
     all_goals trace_state
theorem Oj (l:List Int):∀ r∈l.map (fun x=>[AV.int .i64 x]),∀ x∈r,Flat x:=fun r hr x hx=>by
 obtain⟨y,_,rfl⟩:=List.mem_map.1 hr;simp only[List.mem_singleton] at hx;subst hx;exact fun S=>rfl
theorem Sv (l:List Int):∀ r∈l.map (fun x=>[AV.int .i64 x]),r.length=1:=fun r hr=>by
 obtain⟨y,_,rfl⟩:=List.mem_map.1 hr;rfl
theorem z9c {l:List Int} {k:Nat} {row:List AV} (h:(l.map fun x=>[AV.int .i64 x])[k]? = some row):k<l.length∧row=[.int .i64 (nth l k)]:=by
 obtain⟨hk,he⟩:=List.getElem?_eq_some_iff.1 h;have hk':k<l.length:=by simpa using hk
 refine⟨hk',?_⟩;rw[←he];simp[nth,List.getD_eq_getElem?_getD,List.getElem?_eq_getElem hk']
theorem z0t:∀ {l:List Span} {f:Nat},Plain l→(∀ s∈l,(f:Int)≤s.lo∧s.hi≤1114111)→f≤1114112→(Dt l).length+f≤1114112
 | [],f,_,_,hf=>by simpa [Dt] using hf
 | s::l,f,h,hb,hf=>by
   have h1:=hb s (by simp);have h2:=h.head
   have:=z0t (l:=l) (f:=(s.hi+1).toNat) h.tail (fun t ht=>by
     have:=(List.pairwise_cons.1 h.2).1 t ht;have:=hb t (by simp[ht])
     omega) (by omega)
   rw[Q1,List.length_append];simp only[Su,List.length_map,List.length_range];omega
theorem Syms.nums {l:List Span} (h:Syms l):(Dt l).length≤1114112:=by
 have:=z0t (f:=0) h.1 (fun s hs=>by have:=h.2 s hs;simp only[Int.ofNat_zero];omega) (by omega);omega
theorem Gt:∀ {l:List Span} {x:Int},x∈Dt l↔memL l x
 | [],x=>by simp[Dt,memL]
 | s::l,x=>by
   rw[Q1,List.mem_append,Am,Gt]
   have:x∈Su s.lo (s.hi+1-s.lo).toNat↔s.lo≤x∧x≤s.hi:=by
     simp only[Su,List.mem_map,List.mem_range];constructor
     · rintro⟨i,h1,rfl⟩;omega
     · intro h;exact⟨(x-s.lo).toNat,by omega,by omega⟩
   rw[this]
theorem Syms.mem {l:List Span} (h:Syms l) {x:Int} (hx:memL l x):0≤x∧x≤1114111:=by
 obtain⟨s,hs,h1,h2⟩:=hx;have:=h.2 s hs;omega
abbrev oneS (x:Int):Span:=⟨x,x⟩
def allS (n:Nat):List Span:=[⟨0,2 ^ n-1⟩]
theorem Ol {l:List Span} (h:Plain l) (hb:∀ s∈l,-1073741824≤s.lo∧s.hi≤1073741824):Ar l=l:=by
 obtain⟨h1,h2⟩:=Ao l;refine Ho h1 h fun x=>?_;rw[h2 x];constructor
 · exact fun hh=>hh.1
 · rintro⟨s,hs,k1,k2⟩
   have:=hb s hs;exact⟨⟨s,hs,k1,k2⟩,by omega,by omega⟩
theorem X8 {x:Int} {n:Nat} (hn:n≤21) (hx:0≤x∧x≤4194304):IntKind.i64.wrap (x * 2 ^ min n IntKind.i64.bits)=x * 2 ^ n:=by
 rw[show min n IntKind.i64.bits=n from Nat.min_eq_left (show n≤64 by omega)];have h:=Mf n hn;have h1:x * 2 ^ n≤4194304 * 2097152:=Int.mul_le_mul hx.2 h.2 (by omega) (by omega);have h2:0≤x * 2 ^ n:=Int.mul_nonneg hx.1 (by omega);exact IntWalk.i64_in _ (by omega)
def imgS (d t:Nat) (s:Span):List Span :=
 if s.lo / 2 ^ d % 2 ^ t≤s.hi / 2 ^ d % 2 ^ t then [⟨s.lo / 2 ^ d % 2 ^ t,s.hi / 2 ^ d % 2 ^ t⟩] else [⟨0,s.hi / 2 ^ d % 2 ^ t⟩,⟨s.lo / 2 ^ d % 2 ^ t,2 ^ t-1⟩]
def imgF (d t:Nat):List Span→List Span→List Span
 | [],out=>out
 | s::l,out=>if 2 ^ t-1≤s.hi / 2 ^ d-s.lo / 2 ^ d then allS t else imgF d t l (out++imgS d t s)
def topS:List Span:=[⟨0,2097151⟩]
def imgL (p:Part) (s:List Span):List Span :=
 if Ej p=false then [] else
   if p.up=0 then Ar (imgF p.drop.toNat p.take.toNat (D8 (Ar s) (Ar topS)) []) else
     Ar ((Dt (Ar (Ar (imgF p.drop.toNat p.take.toNat (D8 (Ar s) (Ar topS)) [])))).map fun x=>oneS (x * 2 ^ p.up.toNat))
theorem Sw:∀ (a b:List Span),(D8 a b).length≤a.length+b.length
 | [],b=>by rw[F5];simp
 | x::a,[]=>by rw[Fg];simp
 | x::a,y::b=>by
   rw[K6];have h1:=Sw a (y::b);have h2:=Sw (x::a) b;simp only[List.length_append,List.length_cons] at *;split<;>split<;>simp<;>omega
termination_by a b=>a.length+b.length
theorem z0u (s:List Span):Plain (D8 (Ar s) (Ar topS))∧(∀ t∈D8 (Ar s) (Ar topS),0≤t.lo∧t.lo≤t.hi∧t.hi≤2097151)∧∀ v,memL (D8 (Ar s) (Ar topS)) v↔memL s v∧0≤v∧v≤2097151:=by
 obtain⟨p1,p2⟩:=Ao s;obtain⟨q1,q2⟩:=Ao topS;obtain⟨b1,b2⟩:=Ht _ _ p1 q1
 have key:∀ v,memL (D8 (Ar s) (Ar topS)) v↔memL s v∧0≤v∧v≤2097151:=fun v=>by
   rw[b2 v,p2 v,q2 v,topS,Am];simp only[Bb,or_false];constructor
   · rintro⟨⟨h1,_⟩,h2,_⟩;exact⟨h1,h2⟩
   · rintro⟨h1,h2⟩;exact⟨⟨h1,by omega⟩,h2,by omega⟩
 refine⟨b1,fun t ht=>?_,key⟩;have hle:=b1.1 t ht;have k1:=((key t.lo).1 ⟨t,ht,Int.le_refl _,hle⟩).2;have k2:=((key t.hi).1 ⟨t,ht,hle,Int.le_refl _⟩).2;omega
theorem zdw {x:Int} {t:Nat} (ht:t≤21) (hx:0≤x∧x≤2097151):I0 .and .i64 x (2 ^ t-1)=x % 2 ^ t:=by
 have h:=Mf t ht;have m0:=Int.emod_nonneg x (b:=2 ^ t) (by omega);have m1:=Int.emod_lt_of_pos x (b:=2 ^ t) (by omega);exact z6c t ⟨hx.1,by show _<(2:Int) ^ 64;omega⟩ (by show _≤64;omega) (IntWalk.i64_in _ (by omega))
theorem zk5 {x:Int} {d:Nat} (hd:d≤21):x.fdiv (2 ^ min d IntKind.i64.bits)=x / 2 ^ d:=by
 rw[show min d IntKind.i64.bits=d from Nat.min_eq_left (show d≤64 by omega)];have:=Mf d hd;exact z6b _ _ (by omega)
theorem z9d {x:Int} {d:Nat} (hd:d≤21) (hx:0≤x∧x≤2097151):0≤x / 2 ^ d∧x / 2 ^ d≤2097151:=by
 have:=Mf d hd;have q0:0≤x / 2 ^ d:=Int.ediv_nonneg hx.1 (by omega);have q1:x / 2 ^ d≤x:=Int.ediv_le_self _ hx.1;omega
theorem Q2 (p:Part) (s:List Span) (hs:s.length≤10000000000):PC Try.prog 51 [Cd p,Ah s] (Ah (imgL p s)):=by
 have hM:=N9 s topS (by omega) (by simp[topS]);obtain⟨mp,mb,mm⟩:=z0u s
 have hml:(D8 (Ar s) (Ar topS)).length≤10000000001:=by
   have h1:=Sw (Ar s) (Ar topS);have h2:=Dm s;have h3:=Dm topS;have h4:topS.length=1:=rfl;omega
 cases hb:Ej p with
 | false =>
   have hB:=Gd p;rw[hb] at hB;refine Bf Lw ?_;unfold Hl;(with_reducible repeat' (first|(simp(disch:=omega)only[push_cast,↓zz,seval])|refine And.intro ?_ ?_|(first|refine Ab ?_ ?_|refine Aa ?_ ?_)<;>intro hc<;>(try simp only[push_cast] at hc)|refine eK hB ?_|refine eQ hB ?_|refine eG hB ?_|((first|refine cK hB ?_|refine cQ hB ?_|refine cG hB ?_);(simp(disch:=omega)only[push_cast,↓zz,seval]);(fail_if_success change False))|omega|intro _))
   all_goals (rw[imgL,if_pos hb])
 | true =>
 have hB:=Gd p;rw[hb] at hB;have hbi:=Kf.1 hb;have ht:=Mf p.take.toNat (by omega);have hw1:IntKind.i64.wrap (1 * 2 ^ min p.take.toNat IntKind.i64.bits)=2 ^ p.take.toNat:=by rw[X8 (by omega) (by omega)];omega
 have hw2:IntKind.i64.wrap (2 ^ p.take.toNat-1)=2 ^ p.take.toNat-1:=IntWalk.i64_in _ (by omega);refine Bf Lw ?_;unfold Hl;(with_reducible repeat' (first|(simp(disch:=omega)only[push_cast,↓zz,seval,hw1,hw2,topS,Ah,Bz,List.map_cons,List.map_nil,Cw])|refine And.intro ?_ ?_|(first|refine Ab ?_ ?_|refine Aa ?_ ?_)<;>intro hc<;>(try simp only[push_cast] at hc)|refine eK hB ?_|refine eQ hB ?_|refine eG hB ?_|refine eK hM ?_|refine eQ hM ?_|refine eG hM ?_|((first|refine cK hB ?_|refine cQ hB ?_|refine cG hB ?_|refine cK hM ?_|refine cQ hM ?_|refine cG hM ?_);(simp(disch:=omega)only[push_cast,↓zz,seval,hw1,hw2,topS,Ah,Bz,List.map_cons,List.map_nil,Cw]);(fail_if_success change False))|omega|intro _));have hI:imgL p s=if p.up=0 then Ar (imgF p.drop.toNat p.take.toNat (D8 (Ar s) (Ar topS)) []) else Ar ((Dt (Ar (Ar (imgF p.drop.toNat p.take.toNat (D8 (Ar s) (Ar topS)) [])))).map fun x=>oneS (x * 2 ^ p.up.toNat)):=by rw[imgL,if_neg (by simp[hb])]
 have hTS:[(⟨0,2097151⟩:Span)]=topS:=rfl;rw[hTS,hI];generalize D8 (Ar s) (Ar topS)=m at *;have hd:=Mf p.drop.toNat (by omega)
 have hsh:∀ x:Int,0≤x∧x≤2097151→x.fdiv (2 ^ min p.drop.toNat IntKind.i64.bits)=x / 2 ^ p.drop.toNat∧(0≤x / 2 ^ p.drop.toNat∧x / 2 ^ p.drop.toNat≤2097151)∧I0 .and .i64 (x / 2 ^ p.drop.toNat) (2 ^ p.take.toNat-1)=x / 2 ^ p.drop.toNat % 2 ^ p.take.toNat:=fun x hx =>
   ⟨zk5 (by omega),z9d (by omega) hx,zdw (by omega) (z9d (by omega) hx)⟩
 refine A5 (Be (fun (s:Nat × List Span)=>s.1≤m.length∧s.2.length≤2 * s.1∧(∀ t∈s.2,0≤t.lo∧t.hi≤2 ^ p.take.toNat-1)∧imgF p.drop.toNat p.take.toNat m []=imgF p.drop.toNat p.take.toNat (m.drop s.1) s.2) (fun s=>m.length-s.1)
   (fun s=>[(2,.ptr 0 1 0 0),(5,.int .i64 (2 ^ p.take.toNat-1)),(6,.ref 1 1 0 s.2.length),(23,Ah m),(24,.int .i64 m.length),(25,.int .i64 s.1)]) (fun s=>[⟨4,1,true,[Cd p]⟩,⟨2,1,false,s.2.map Bz⟩]) (fun env _=>[Bi 4 (env 2),Bi 2 (env 6)]) (0,[]) ⟨by simp,by simp,by simp,by simp⟩ ?_ ?_)
 · (with_reducible repeat' (first|(simp(disch:=omega)only[push_cast,↓zz,seval])|refine And.intro ?_ ?_|(first|refine Ab ?_ ?_|refine Aa ?_ ?_)<;>intro hc<;>(try simp only[push_cast] at hc)|omega|intro _))
 rintro⟨k,out⟩ ⟨h1,h2,h2b,h3⟩;simp only at h1 h2 h2b h3;rcases Nat.lt_or_ge k m.length with hk|hk
 · have hx:=mb _ (Ba hk)
   rw[drop_at hk,imgF,imgS] at h3;obtain⟨a1,a2,a3⟩:=hsh (nth m k).lo (by omega);obtain⟨b1,b2,b3⟩:=hsh (nth m k).hi (by omega);generalize (nth m k).lo / 2 ^ p.drop.toNat=u at *;generalize (nth m k).hi / 2 ^ p.drop.toNat=v at *;have hbk:2 ^ p.take.toNat-1≤v-u→imgF p.drop.toNat p.take.toNat m []=allS p.take.toNat:=fun h=>by rw[h3,if_pos h]
   have hN:=B8 (allS p.take.toNat) (by simp[allS]);have hEa:=Oc (Ar (allS p.take.toNat)) (by have:=Dm (allS p.take.toNat);simp[allS] at this;simp[allS];omega);refine W_T ?_;(with_reducible repeat' (first|(simp(disch:=omega)only[push_cast,↓zz,seval,a1,a3,b1,b3,allS,Ah,Bz,List.map_cons,List.map_nil,Cw])|refine And.intro ?_ ?_|(first|refine Ab ?_ ?_|refine Aa ?_ ?_)<;>intro hc<;>(try simp only[push_cast] at hc)|refine eK hN ?_|refine eQ hN ?_|refine eG hN ?_|refine eK hEa ?_|refine eQ hEa ?_|refine eG hEa ?_|((first|refine cK hN ?_|refine cQ hN ?_|refine cG hN ?_|refine cK hEa ?_|refine cQ hEa ?_|refine cG hEa ?_);(simp(disch:=omega)only[push_cast,↓zz,seval,a1,a3,b1,b3,allS,Ah,Bz,List.map_cons,List.map_nil,Cw]);(fail_if_success change False))|omega|intro _))
   · rw[hbk (by assumption),if_pos (by assumption)];rfl
   · rw[hbk (by assumption),if_neg (by assumption)]
     have hal:allS p.take.toNat=[⟨0,2 ^ p.take.toNat-1⟩]:=rfl;rw[hal];have h2c:∀ t∈[(⟨0,2 ^ p.take.toNat-1⟩:Span)],0≤t.lo∧t.hi≤2 ^ p.take.toNat-1:=by simp
     have hu:p.take≤6:=by omega
     have h64:(2:Int) ^ p.take.toNat≤64:=by
       have e:=Nat.pow_le_pow_right (n:=2) (by decide) (show p.take.toNat≤6 by omega);have e2:((2 ^ p.take.toNat:Nat):Int)=2 ^ p.take.toNat:=by simp
       omega
     have hmm:∀ v,memL (Ar [⟨0,2 ^ p.take.toNat-1⟩]) v→0≤v∧v≤2 ^ p.take.toNat-1:=fun v hv=>by
       obtain⟨t,ht1,ht2,ht3⟩:=(((Ao _).2 v).1 hv).1;have:=h2c t ht1;omega
     have hsy:Syms (Ar [⟨0,2 ^ p.take.toNat-1⟩]):=X6 (Ao _).1 fun v hv=>by have:=hmm v hv;omega
     have hNN:Ar (Ar [⟨0,2 ^ p.take.toNat-1⟩])=Ar [⟨0,2 ^ p.take.toNat-1⟩]:=Ol (Ao _).1 fun s hs=>by have:=hsy.2 s hs;omega
     rw[hNN];have hit:=Ob (Ar [⟨0,2 ^ p.take.toNat-1⟩]) (by have:=hsy.len;omega) (by intro s hs;have:=hsy.2 s hs;omega);have hln:=hsy.nums;have hmem:∀ k,k<(Dt (Ar [⟨0,2 ^ p.take.toNat-1⟩])).length→0≤nth (Dt (Ar [⟨0,2 ^ p.take.toNat-1⟩])) k∧nth (Dt (Ar [⟨0,2 ^ p.take.toNat-1⟩])) k≤63:=fun k hk=>by have:=hmm _ (Gt.1 (Ba hk));omega
     generalize Ar [⟨0,2 ^ p.take.toNat-1⟩]=M at *;generalize Dt M=l at *
     refine Xt (z7z (σ:=Nat × List Span) (fun k s=>s.2=(l.take k).map (fun x=>oneS (x * 2 ^ p.up.toNat))∧s.2.length≤k) [(2,.ptr 0 1 0 0),(11,.ptr 1 1 0 0),(84,.fn 69 [.cptr (Ah M)])] (fun s=>[⟨4,1,true,[Cd p]⟩,⟨1,1,true,[.ref 2 s.1 0 s.2.length]⟩,⟨2,s.1,false,s.2.map Bz⟩])
       [.grp 0,.grp 4,.virt 2] 3 (1,[]) hit ?_ (fun _=>rfl) rfl ?_ rfl rfl (Oj _) (Sv _) (by simp) ⟨by simp,by simp⟩ ?_ ?_)
     · (with_reducible repeat' (first|(simp(disch:=omega)only[push_cast,↓zz,seval,hNN])|refine And.intro ?_ ?_|(first|refine Ab ?_ ?_|refine Aa ?_ ?_)<;>intro hc<;>(try simp only[push_cast] at hc)|omega|intro _))
     · (with_reducible repeat' (first|(simp(disch:=omega)only[push_cast,↓zz,seval])|refine And.intro ?_ ?_|(first|refine Ab ?_ ?_|refine Aa ?_ ?_)<;>intro hc<;>(try simp only[push_cast] at hc)|omega|intro _))
     · rintro k row ⟨v,o⟩ hrow ⟨h1,h2⟩
       simp only at h1 h2;obtain⟨hk,rfl⟩:=z9c hrow;have hxb:=hmem k hk;have hw3:=X8 (x:=nth l k) (n:=p.up.toNat) (by omega) (by omega)
       have hstep:(l.take (k+1)).map (fun x=>oneS (x * 2 ^ p.up.toNat))=o++[oneS (nth l k * 2 ^ p.up.toNat)]:=by
         rw[take_at hk,List.map_append,←h1];rfl
       generalize nth l k=x at *;refine W_T ?_;(with_reducible repeat' (first|(simp(disch:=omega)only[push_cast,↓zz,seval])|refine And.intro ?_ ?_|(first|refine Ab ?_ ?_|refine Aa ?_ ?_)<;>intro hc<;>(try simp only[push_cast] at hc)|omega|intro _));refine W_T ?_;(with_reducible repeat' (first|(simp(disch:=omega)only[push_cast,↓zz,seval,hw3])|refine And.intro ?_ ?_|(first|refine Ab ?_ ?_|refine Aa ?_ ?_)<;>intro hc<;>(try simp only[push_cast] at hc)|omega|intro _));exact⟨(v+1,o++[oneS (x * 2 ^ p.up.toNat)]),⟨⟨rfl,by simp⟩,rfl,by rw[List.map_append];exact Bq _ _⟩,hstep.symm,by simp;omega⟩
     · rintro⟨v,o⟩ ⟨h1,h2⟩
       simp only[List.length_map] at h1 h2;rw[List.take_length] at h1;rw[←h1];have hN2:=B8 o (by omega);(with_reducible repeat' (first|(simp(disch:=omega)only[push_cast,↓zz,seval,Cw])|refine And.intro ?_ ?_|(first|refine Ab ?_ ?_|refine Aa ?_ ?_)<;>intro hc<;>(try simp only[push_cast] at hc)|refine eK hN2 ?_|refine eQ hN2 ?_|refine eG hN2 ?_|((first|refine cK hN2 ?_|refine cQ hN2 ?_|refine cG hN2 ?_);(simp(disch:=omega)only[push_cast,↓zz,seval,Cw]);(fail_if_success change False))|omega|intro _))
   all_goals rw[if_neg (by assumption)] at h3
   · rw[if_pos (by assumption)] at h3
     exact⟨(k+1,out++[⟨u % 2 ^ p.take.toNat,v % 2 ^ p.take.toNat⟩]),⟨⟨by simp,by simp⟩,by rw[List.map_append];exact Bq _ _⟩,⟨by simp only;omega,by simp;omega,fun t ht=>by
       rcases List.mem_append.1 ht with ht|ht
       · exact h2b t ht
       · simp only[List.mem_singleton] at ht
         subst ht;have m0:=Int.emod_nonneg u (b:=2 ^ p.take.toNat) (by omega);have m1:=Int.emod_lt_of_pos v (b:=2 ^ p.take.toNat) (by omega)
         exact⟨m0,by simp only;omega⟩,h3⟩,by simp only;omega⟩
   · rw[if_neg (by assumption)] at h3
     exact⟨(k+1,out++[⟨0,v % 2 ^ p.take.toNat⟩,⟨u % 2 ^ p.take.toNat,2 ^ p.take.toNat-1⟩]),⟨⟨by simp,by simp⟩,by rw[List.map_append];exact Bq _ _⟩,⟨by simp only;omega,by simp;omega,fun t ht=>by
       rcases List.mem_append.1 ht with ht|ht
       · exact h2b t ht
       · have m0:=Int.emod_nonneg u (b:=2 ^ p.take.toNat) (by omega)
         have m1:=Int.emod_lt_of_pos v (b:=2 ^ p.take.toNat) (by omega);simp only[List.mem_cons,List.not_mem_nil,or_false] at ht;rcases ht with rfl|rfl
         · exact⟨Int.le_refl _,by simp only;omega⟩
         · exact⟨m0,Int.le_refl _⟩,h3⟩,by simp only;omega⟩
 · rw[List.drop_of_length_le hk,imgF] at h3
   rw[h3];have hN:=B8 out (by omega);have hEa:=Oc (Ar out) (by have:=Dm out;omega);refine W_T ?_;(with_reducible repeat' (first|(simp(disch:=omega)only[push_cast,↓zz,seval])|refine And.intro ?_ ?_|(first|refine Ab ?_ ?_|refine Aa ?_ ?_)<;>intro hc<;>(try simp only[push_cast] at hc)|refine eK hN ?_|refine eQ hN ?_|refine eG hN ?_|refine eK hEa ?_|refine eQ hEa ?_|refine eG hEa ?_|((first|refine cK hN ?_|refine cQ hN ?_|refine cG hN ?_|refine cK hEa ?_|refine cQ hEa ?_|refine cG hEa ?_);(simp(disch:=omega)only[push_cast,↓zz,seval]);(fail_if_success change False))|omega|intro _))
   · rw[if_pos (by assumption)]
   · rw[if_neg (by assumption)]
     have hu:p.take≤6:=by omega
     have h64:(2:Int) ^ p.take.toNat≤64:=by
       have e:=Nat.pow_le_pow_right (n:=2) (by decide) (show p.take.toNat≤6 by omega);have e2:((2 ^ p.take.toNat:Nat):Int)=2 ^ p.take.toNat:=by simp
       omega
     have hmm:∀ v,memL (Ar out) v→0≤v∧v≤2 ^ p.take.toNat-1:=fun v hv=>by
       obtain⟨t,ht1,ht2,ht3⟩:=(((Ao _).2 v).1 hv).1;have:=h2b t ht1;omega
     have hsy:Syms (Ar out):=X6 (Ao _).1 fun v hv=>by have:=hmm v hv;omega
     have hNN:Ar (Ar out)=Ar out:=Ol (Ao _).1 fun s hs=>by have:=hsy.2 s hs;omega
     rw[hNN];have hit:=Ob (Ar out) (by have:=hsy.len;omega) (by intro s hs;have:=hsy.2 s hs;omega);have hln:=hsy.nums;have hmem:∀ k,k<(Dt (Ar out)).length→0≤nth (Dt (Ar out)) k∧nth (Dt (Ar out)) k≤63:=fun k hk=>by have:=hmm _ (Gt.1 (Ba hk));omega
     generalize Ar out=M at *;generalize Dt M=l at *
     refine Xt (z7z (σ:=Nat × List Span) (fun k s=>s.2=(l.take k).map (fun x=>oneS (x * 2 ^ p.up.toNat))∧s.2.length≤k) [(2,.ptr 0 1 0 0),(11,.ptr 1 1 0 0),(84,.fn 69 [.cptr (Ah M)])] (fun s=>[⟨4,1,true,[Cd p]⟩,⟨1,1,true,[.ref 2 s.1 0 s.2.length]⟩,⟨2,s.1,false,s.2.map Bz⟩])
       [.grp 0,.grp 2,.virt 2] 3 (1,[]) hit ?_ (fun _=>rfl) rfl ?_ rfl rfl (Oj _) (Sv _) (by simp) ⟨by simp,by simp⟩ ?_ ?_)
     · (with_reducible repeat' (first|(simp(disch:=omega)only[push_cast,↓zz,seval,hNN])|refine And.intro ?_ ?_|(first|refine Ab ?_ ?_|refine Aa ?_ ?_)<;>intro hc<;>(try simp only[push_cast] at hc)|omega|intro _))
     · (with_reducible repeat' (first|(simp(disch:=omega)only[push_cast,↓zz,seval])|refine And.intro ?_ ?_|(first|refine Ab ?_ ?_|refine Aa ?_ ?_)<;>intro hc<;>(try simp only[push_cast] at hc)|omega|intro _))
     · rintro k row ⟨v,o⟩ hrow ⟨h1,h2⟩
       simp only at h1 h2;obtain⟨hk,rfl⟩:=z9c hrow;have hxb:=hmem k hk;have hw3:=X8 (x:=nth l k) (n:=p.up.toNat) (by omega) (by omega)
       have hstep:(l.take (k+1)).map (fun x=>oneS (x * 2 ^ p.up.toNat))=o++[oneS (nth l k * 2 ^ p.up.toNat)]:=by
         rw[take_at hk,List.map_append,←h1];rfl
       generalize nth l k=x at *;refine W_T ?_;(with_reducible repeat' (first|(simp(disch:=omega)only[push_cast,↓zz,seval])|refine And.intro ?_ ?_|(first|refine Ab ?_ ?_|refine Aa ?_ ?_)<;>intro hc<;>(try simp only[push_cast] at hc)|omega|intro _));refine W_T ?_;(with_reducible repeat' (first|(simp(disch:=omega)only[push_cast,↓zz,seval,hw3])|refine And.intro ?_ ?_|(first|refine Ab ?_ ?_|refine Aa ?_ ?_)<;>intro hc<;>(try simp only[push_cast] at hc)|omega|intro _));exact⟨(v+1,o++[oneS (x * 2 ^ p.up.toNat)]),⟨⟨rfl,by simp⟩,rfl,by rw[List.map_append];exact Bq _ _⟩,hstep.symm,by simp;omega⟩
     · rintro⟨v,o⟩ ⟨h1,h2⟩
       simp only[List.length_map] at h1 h2;rw[List.take_length] at h1;rw[←h1];have hN2:=B8 o (by omega);(with_reducible repeat' (first|(simp(disch:=omega)only[push_cast,↓zz,seval,Cw])|refine And.intro ?_ ?_|(first|refine Ab ?_ ?_|refine Aa ?_ ?_)<;>intro hc<;>(try simp only[push_cast] at hc)|refine eK hN2 ?_|refine eQ hN2 ?_|refine eG hN2 ?_|((first|refine cK hN2 ?_|refine cQ hN2 ?_|refine cG hN2 ?_);(simp(disch:=omega)only[push_cast,↓zz,seval,Cw]);(fail_if_success change False))|omega|intro _))
       all_goals trace_state
def Low (n:Nat) (l:List Span):Prop:=Plain l∧∀ s∈l,0≤s.lo∧s.lo≤s.hi∧s.hi≤2 ^ n-1
theorem z9e:∀ {l:List Span} {f N:Nat},Plain l→(∀ s∈l,(f:Int)≤s.lo∧s.hi<N)→f≤N→l.length+f≤N
 | [],f,N,_,_,hf=>by simpa using hf
 | s::l,f,N,h,hb,hf=>by
   have h1:=hb s (by simp);have h2:=h.head
   have:=z9e (l:=l) (f:=(s.hi+1).toNat) (N:=N) h.tail (fun t ht=>by
     have:=(List.pairwise_cons.1 h.2).1 t ht;have:=hb t (by simp[ht])
     omega) (by omega)
   simp only[List.length_cons];omega
theorem Low.len {n:Nat} {l:List Span} (h:Low n l):(l.length:Int)≤2 ^ n:=by
 have e:((2 ^ n:Nat):Int)=2 ^ n:=by simp
 have:=z9e (f:=0) (N:=2 ^ n) h.1 (fun s hs=>by have:=h.2 s hs;simp only[Int.ofNat_zero];omega) (Nat.zero_le _);omega
theorem z0v {α:Type} {f:α→List Span}:∀ {l:List α} {v:Int},memL (l.flatMap f) v↔∃ x∈l,memL (f x) v
 | [],v=>by simp[memL]
 | x::l,v=>by
   rw[List.flatMap_cons,Df,z0v];constructor
   · rintro (h|⟨y,hy,h⟩)
     · exact⟨x,by simp,h⟩
     · exact⟨y,by simp[hy],h⟩
   · rintro⟨y,hy,h⟩
     rcases List.mem_cons.1 hy with rfl|hy
     · exact .inl h
     · exact .inr ⟨y,hy,h⟩
theorem zdx {l:List Span} {d:Int} (hd:-2147483648≤d∧d≤2147483648) {v:Int}:memL (Mg l d) v↔(memL l (v-d)∧-1073741824≤v-d∧v-d≤1073741824)∧-1073741824≤v∧v≤1073741824:=by
 obtain⟨p1,p2⟩:=Ao l;obtain⟨q1,q2⟩:=Ao ((Ar l).map (Es d));rw[Mg,if_neg (by omega),q2 v,←p2 (v-d)]
 have:memL ((Ar l).map (Es d)) v↔memL (Ar l) (v-d):=by
   constructor
   · rintro⟨s,hs,h1,h2⟩
     obtain⟨t,ht,rfl⟩:=List.mem_map.1 hs;exact⟨t,ht,by simp only[Es] at h1;omega,by simp only[Es] at h2;omega⟩
   · rintro⟨t,ht,h1,h2⟩
     exact⟨Es d t,List.mem_map.2 ⟨t,ht,rfl⟩,by simp only[Es];omega,by simp only[Es];omega⟩
 rw[this]
theorem Ek {p:Part} {x:Int} (hb:Ej p=true) (hx:0≤x∧x≤2097151):0≤valP p x∧valP p x≤66060288:=by
 have hbi:=Kf.1 hb;have ht:=Mf p.take.toNat (by omega);have hu:=Mf p.up.toNat (by omega);have m0:=Int.emod_nonneg (x / 2 ^ p.drop.toNat) (b:=2 ^ p.take.toNat) (by omega);have m1:=Int.emod_lt_of_pos (x / 2 ^ p.drop.toNat) (b:=2 ^ p.take.toNat) (by omega);have hq:=z9d (d:=p.drop.toNat) (by omega) hx
 have m2:x / 2 ^ p.drop.toNat % 2 ^ p.take.toNat≤x / 2 ^ p.drop.toNat:=by
   have h1:=Int.emod_add_mul_ediv (x / 2 ^ p.drop.toNat) (2 ^ p.take.toNat);have h2:0≤2 ^ p.take.toNat * (x / 2 ^ p.drop.toNat / 2 ^ p.take.toNat):=Int.mul_nonneg (by omega) (Int.ediv_nonneg hq.1 (by omega));omega
 rw[valP];refine⟨Int.mul_nonneg m0 (by omega),?_⟩;rcases hbi.2.2.2.2.2.2 with h0|h6
 · rw[h0,show (2:Int) ^ (0:Int).toNat=1 by decide,Int.mul_one];omega
 · have e:=Nat.pow_le_pow_right (n:=2) (by decide) (show p.take.toNat≤6 by omega)
   have e2:((2 ^ p.take.toNat:Nat):Int)=2 ^ p.take.toNat:=by simp
   have e3:=Nat.pow_le_pow_right (n:=2) (by decide) (show p.up.toNat≤20 by omega);have e4:((2 ^ p.up.toNat:Nat):Int)=2 ^ p.up.toNat:=by simp
   have:x / 2 ^ p.drop.toNat % 2 ^ p.take.toNat * 2 ^ p.up.toNat≤63 * 1048576:=Int.mul_le_mul (by omega) (by omega) (by omega) (by omega);omega
theorem zdy (s:List Span):D8 (Ar s) (Ar [⟨0,1114111⟩])=symI s:=by rw[symI,z4k]
theorem zdz (l:List Span) (d:Int):(Mg l d).length≤l.length:=by
 unfold Mg;split
 · simp
 · have h1:=Dm ((Ar l).map (Es d))
   have h2:=Dm l;simp only[List.length_map] at h1;omega
end Go.Proofs.Ytbcjoeadpjfcfaa
namespace Go.Proofs.Ytbcjoeadpjfcfaa
open Abs
def sumS (x y:Span):Span:=⟨x.lo+y.lo,x.hi+y.hi⟩
def X9 (a b:List Span):List Span:=a.flatMap fun x=>b.map (sumS x)
def Vy (a b:List Span):List Span:=Ar (X9 a b)
theorem z4l (x:Span) (a b:List Span):X9 (x::a) b=b.map (sumS x)++X9 a b:=rfl
theorem z4m {l m:List Span} (h:∀ v,-1073741824≤v∧v≤1073741824→(memL l v↔memL m v)):Ar l=Ar m:=by
 obtain⟨p1,p2⟩:=Ao l;obtain⟨q1,q2⟩:=Ao m;refine Ho p1 q1 fun v=>?_;rw[p2,q2];constructor
 · rintro⟨h1,h2,h3⟩;exact⟨(h v ⟨h2,h3⟩).1 h1,h2,h3⟩
 · rintro⟨h1,h2,h3⟩;exact⟨(h v ⟨h2,h3⟩).2 h1,h2,h3⟩
theorem z9f {l m:List Span}:Ar (Ar l++m)=Ar (l++m):=z4m fun v hv=>by
 rw[Df,Df,(Ao l).2 v];constructor
 · rintro (⟨h,_⟩|h)
   · exact .inl h
   · exact .inr h
 · rintro (h|h)
   · exact .inl ⟨h,hv⟩
   · exact .inr h
theorem Vz:∀ {l:List Span} {f:Nat},Plain l→(∀ s∈l,(f:Int)-1073741824≤s.lo∧s.hi≤1073741824)→f≤2147483649→l.length+f≤2147483649
 | [],f,_,_,hf=>by simpa using hf
 | s::l,f,h,hb,hf=>by
   have h1:=hb s (by simp);have h2:=h.head
   have:=Vz (l:=l) (f:=(s.hi+1073741825).toNat) h.tail (fun t ht=>by
     have:=(List.pairwise_cons.1 h.2).1 t ht;have:=hb t (by simp[ht])
     omega) (by omega)
   simp only[List.length_cons];omega
theorem Om (l:List Span):(Ar l).length≤2147483649:=by
 have:=Vz (f:=0) (Ao l).1 (fun s hs=>by have:=D9 l s hs;simp only[Int.ofNat_zero];omega) (by omega);omega
def Bd (l:List Span):Prop:=∀ s∈l,(-1099511627776≤s.lo∧s.lo≤1099511627776)∧-1099511627776≤s.hi∧s.hi≤1099511627776
theorem z4n (l:List Span) (hl:l.length≤1000000000000):Bj Try.prog 43 [Ah l] (Abs.hl []) fun y H'=>y=.ref 0 1 0 (Ar l).length∧H'=Abs.hl [⟨2,1,false,(Ar l).map Bz⟩] :=
 Vd (by omega) ((K5 l hl).mono fun y H' ⟨rest,h1,h2⟩=>⟨rest.map Bz,h1,by rw[h2,List.map_append]⟩)
theorem z9g (a b:List Span) (la:a.length≤3000000000) (lb:b.length≤3000000000) (ha:Bd a) (hb:Bd b):PC Try.prog 65 [Ah a,Ah b] (Ah (Vy a b)):=by
 refine Bf Xp ?_;unfold Nt;(with_reducible repeat' (first|(simp(disch:=omega)only[push_cast,↓zz,seval])|refine And.intro ?_ ?_|(first|refine Ab ?_ ?_|refine Aa ?_ ?_)<;>intro hc<;>(try simp only[push_cast] at hc)|omega|intro _))
 refine A5 (Be (fun (s:Nat × List Span)=>s.1≤a.length∧s.2.length≤2147483649∧Vy a b=Ar (s.2++X9 (a.drop s.1) b)) (fun s=>a.length-s.1)
   (fun s=>[(1,Ah b),(5,.ref 0 1 0 s.2.length),(10,Ah a),(11,.int .i64 a.length),(12,.int .i64 s.1)]) (fun s=>[⟨2,1,false,s.2.map Bz⟩]) (fun env _=>[Bi 2 (env 5)]) (0,[]) ⟨by simp,by simp,by simp[Vy]⟩ ?_ ?_)
 · (with_reducible repeat' (first|(simp(disch:=omega)only[push_cast,↓zz,seval])|refine And.intro ?_ ?_|(first|refine Ab ?_ ?_|refine Aa ?_ ?_)<;>intro hc<;>(try simp only[push_cast] at hc)|omega|intro _))
 rintro⟨k,out⟩ ⟨h1,h2,h3⟩;simp only at h1 h2 h3;rcases Nat.lt_or_ge k a.length with hk|hk
 · rw[drop_at hk,z4l,←List.append_assoc] at h3
   have hx:=ha _ (Ba hk);generalize hxe:nth a k=x at *;refine W_T ?_;(with_reducible repeat' (first|(simp(disch:=omega)only[push_cast,↓zz,seval,hxe])|refine And.intro ?_ ?_|(first|refine Ab ?_ ?_|refine Aa ?_ ?_)<;>intro hc<;>(try simp only[push_cast] at hc)|omega|intro _))
   refine A5 (Be (fun (s:Nat × List Span)=>s.1≤b.length∧s.2=out++(b.take s.1).map (sumS x)∧s.2.length=out.length+s.1) (fun s=>b.length-s.1)
     (fun s=>[(1,Ah b),(5,.ref 0 1 0 s.2.length),(7,.ptr 1 1 0 0),(10,Ah a),(11,.int .i64 a.length),(12,.int .i64 k),(16,Ah b),(17,.int .i64 b.length),(18,.int .i64 s.1)]) (fun s=>[⟨2,1,false,s.2.map Bz⟩,⟨2,1,true,[Bz x]⟩]) (fun env _=>[Bi 2 (env 5),Bi 2 (env 7)]) (0,out) ⟨by simp,by simp,by simp⟩ ?_ ?_)
   · (with_reducible repeat' (first|(simp(disch:=omega)only[push_cast,↓zz,seval])|refine And.intro ?_ ?_|(first|refine Ab ?_ ?_|refine Aa ?_ ?_)<;>intro hc<;>(try simp only[push_cast] at hc)|omega|intro _))
   rintro⟨j,o⟩ ⟨g1,g2,g3⟩;simp only at g1 g2 g3;rcases Nat.lt_or_ge j b.length with hj|hj
   · have hy:=hb _ (Ba hj)
     have hstep:out++(b.take (j+1)).map (sumS x)=o++[sumS x (nth b j)]:=by rw[take_at hj,List.map_append,←List.append_assoc,←g2];rfl
     generalize hye:nth b j=y at *;have hw1:IntKind.i64.wrap (x.lo+y.lo)=x.lo+y.lo:=IntWalk.i64_in _ (by omega);have hw2:IntKind.i64.wrap (x.hi+y.hi)=x.hi+y.hi:=IntWalk.i64_in _ (by omega);clear g2;refine W_T ?_;(with_reducible repeat' (first|(simp(disch:=omega)only[push_cast,↓zz,seval,hye,hw1,hw2])|refine And.intro ?_ ?_|(first|refine Ab ?_ ?_|refine Aa ?_ ?_)<;>intro hc<;>(try simp only[push_cast] at hc)|omega|intro _));refine⟨(j+1,o++[sumS x y]),?_⟩;(with_reducible repeat' (first|(simp(disch:=omega)only[push_cast,↓zz,seval,sumS,hstep])|refine And.intro ?_ ?_|(first|refine Ab ?_ ?_|refine Aa ?_ ?_)<;>intro hc<;>(try simp only[push_cast] at hc)|omega|intro _))
   · obtain rfl:j=b.length:=by omega
     rw[List.take_length] at g2;rw[←g2] at h3;clear g2;have hno:=Om o;have hap:=@z9f o (X9 (a.drop (k+1)) b);refine W_T ?_;(with_reducible repeat' (first|(simp(disch:=omega)only[push_cast,↓zz,seval])|refine And.intro ?_ ?_|(first|refine Ab ?_ ?_|refine Aa ?_ ?_)<;>intro hc<;>(try simp only[push_cast] at hc)|omega|intro _))
     · (refine zjs (ys:=[Ah o]) ?_ ?_ ?_<;>(simp(disch:=omega)only[push_cast,↓zz,seval]))
       (refine Xu [] (z4n o (by omega)) (by decide) (by simp) (by (simp(disch:=omega)only[push_cast,↓zz,seval])) (by (simp(disch:=omega)only[push_cast,↓zz,seval])) (by (simp(disch:=omega)only[push_cast,↓zz,seval])) (by (simp(disch:=omega)only[push_cast,↓zz,seval,List.mem_cons,List.not_mem_nil,or_false,forall_eq_or_imp,forall_eq,List.forall_mem_nil])) ?_)
       rintro y H' ⟨rfl,rfl⟩;refine⟨_,rfl,by simp,?_⟩;(with_reducible repeat' (first|(simp(disch:=omega)only[push_cast,↓zz,seval])|refine And.intro ?_ ?_|(first|refine Ab ?_ ?_|refine Aa ?_ ?_)<;>intro hc<;>(try simp only[push_cast] at hc)|omega|intro _));refine⟨(k+1,Ar o),?_⟩;(with_reducible repeat' (first|(simp(disch:=omega)only[push_cast,↓zz,seval,hap])|refine And.intro ?_ ?_|(first|refine Ab ?_ ?_|refine Aa ?_ ?_)<;>intro hc<;>(try simp only[push_cast] at hc)|omega|intro _))
     · refine⟨(k+1,o),?_⟩
       (with_reducible repeat' (first|(simp(disch:=omega)only[push_cast,↓zz,seval])|refine And.intro ?_ ?_|(first|refine Ab ?_ ?_|refine Aa ?_ ?_)<;>intro hc<;>(try simp only[push_cast] at hc)|omega|intro _))
 · rw[List.drop_of_length_le hk,show X9 [] b=[] from rfl,List.append_nil] at h3
   have hN:=B8 out (by omega);refine W_T ?_;(with_reducible repeat' (first|(simp(disch:=omega)only[push_cast,↓zz,seval,h3,Cw])|refine And.intro ?_ ?_|(first|refine Ab ?_ ?_|refine Aa ?_ ?_)<;>intro hc<;>(try simp only[push_cast] at hc)|refine eK hN ?_|refine eQ hN ?_|refine eG hN ?_|((first|refine cK hN ?_|refine cQ hN ?_|refine cG hN ?_);(simp(disch:=omega)only[push_cast,↓zz,seval,h3,Cw]);(fail_if_success change False))|omega|intro _))
   all_goals trace_state
def totV (l:List Part) (x:Int):Int:=(l.map fun p=>valP p x).sum
theorem ze0 (x:Int):totV [] x=0:=rfl
theorem z9h (l:List Part) (p:Part) (x:Int):totV (l++[p]) x=totV l x+valP p x:=by simp[totV]
theorem On {x:Int} (hx:0≤x∧x≤2097151):∀ {l:List Part},(∀ p∈l,Ej p=true)→0≤totV l x∧totV l x≤l.length * 66060288
 | [],_=>by simp[totV]
 | p::l,h=>by
   have h1:=Ek (h p (by simp)) hx;have h2:=On hx (l:=l) fun q hq=>h q (by simp[hq]);have e:totV (p::l) x=valP p x+totV l x:=by simp[totV]
   rw[e,List.length_cons]
   push_cast
   omega
def togF (l:List Part) (out:List Span) (x:Int):List Span:=addS out ⟨totV l x,totV l x⟩
def togL (l:List Part) (s:List Span):List Span :=
 if l.length=1 then imgL (nth l 0) s else Ar ((Dt (Ar s)).foldl (togF l) [])
theorem Sx (l:List Part) (s:List Span) (hl:l.length≤1000) (hb:∀ p∈l,Ej p=true) (hs:s.length≤10000000000) (hsy:Syms (Ar s)) :
   PC Try.prog 66 [A8 l,Ah s] (Ah (togL l s)):=by
 have hln:=hsy.nums;have hls:=hsy.len;have hmem:∀ k,k<(Dt (Ar s)).length→0≤nth (Dt (Ar s)) k∧nth (Dt (Ar s)) k≤1114111:=fun k hk=>hsy.mem (Gt.1 (Ba hk));have hit:=Ob (Ar s) (by omega) (D9 s);have hI:=Q2 (nth l 0) s hs;have hE:=Oc s (by omega);refine Bf Nu ?_;unfold Hn;(with_reducible repeat' (first|(simp(disch:=omega)only[push_cast,↓zz,seval])|refine And.intro ?_ ?_|(first|refine Ab ?_ ?_|refine Aa ?_ ?_)<;>intro hc<;>(try simp only[push_cast] at hc)|refine eK hI ?_|refine eQ hI ?_|refine eG hI ?_|refine eK hE ?_|refine eQ hE ?_|refine eG hE ?_|((first|refine cK hI ?_|refine cQ hI ?_|refine cG hI ?_|refine cK hE ?_|refine cQ hE ?_|refine cG hE ?_);(simp(disch:=omega)only[push_cast,↓zz,seval]);(fail_if_success change False))|omega|intro _))
 · rw[togL,if_pos (by omega)]
 rw[togL,if_neg (by omega)];generalize hlne:Dt (Ar s)=m at *
 refine Xt (z7z (σ:=Nat × List Span) (fun k s=>s.2=(m.take k).foldl (togF l) []∧s.2.length≤k) [(2,.ptr 0 1 0 0),(5,.ptr 1 1 0 0),(22,.fn 69 [.cptr (Ah (Ar s))])] (fun s=>[⟨1,1,true,[A8 l]⟩,⟨1,1,true,[.ref 2 s.1 0 s.2.length]⟩,⟨2,s.1,false,s.2.map Bz⟩])
   [.grp 0,.grp 1,.virt 2] 3 (1,[]) hit ?_ (fun _=>rfl) rfl ?_ rfl rfl (Oj _) (Sv _) (by simp) ⟨by simp,by simp⟩ ?_ ?_)
 · (with_reducible repeat' (first|(simp(disch:=omega)only[push_cast,↓zz,seval])|refine And.intro ?_ ?_|(first|refine Ab ?_ ?_|refine Aa ?_ ?_)<;>intro hc<;>(try simp only[push_cast] at hc)|omega|intro _))
 · (with_reducible repeat' (first|(simp(disch:=omega)only[push_cast,↓zz,seval])|refine And.intro ?_ ?_|(first|refine Ab ?_ ?_|refine Aa ?_ ?_)<;>intro hc<;>(try simp only[push_cast] at hc)|omega|intro _))
 · rintro k row ⟨v,out⟩ hrow ⟨h1,h2⟩
   simp only at h1 h2;obtain⟨hk,rfl⟩:=z9c hrow;have hxb:=hmem k hk;have hstep:(m.take (k+1)).foldl (togF l) []=togF l out (nth m k):=by rw[take_at hk,List.foldl_append,←h1];rfl
   generalize nth m k=x at *;refine W_T ?_;(with_reducible repeat' (first|(simp(disch:=omega)only[push_cast,↓zz,seval])|refine And.intro ?_ ?_|(first|refine Ab ?_ ?_|refine Aa ?_ ?_)<;>intro hc<;>(try simp only[push_cast] at hc)|omega|intro _));refine W_T ?_;(with_reducible repeat' (first|(simp(disch:=omega)only[push_cast,↓zz,seval])|refine And.intro ?_ ?_|(first|refine Ab ?_ ?_|refine Aa ?_ ?_)<;>intro hc<;>(try simp only[push_cast] at hc)|omega|intro _))
   refine A5 (Be (fun (j:Nat)=>j≤l.length) (fun j=>l.length-j)
     (fun j=>[(2,.ptr 0 1 0 0),(5,.ptr 1 1 0 0),(6,.int .i64 x),(7,.int .i64 (totV (l.take j) x)),(24,A8 l),(25,.int .i64 l.length),(26,.int .i64 j)]) (fun _=>[⟨1,1,true,[A8 l]⟩,⟨1,1,true,[.ref 2 v 0 out.length]⟩,⟨2,v,false,out.map Bz⟩]) (fun _ _=>[]) 0 (by simp) ?_ ?_)
   · (with_reducible repeat' (first|(simp(disch:=omega)only[push_cast,↓zz,seval,ze0])|refine And.intro ?_ ?_|(first|refine Ab ?_ ?_|refine Aa ?_ ?_)<;>intro hc<;>(try simp only[push_cast] at hc)|omega|intro _))
   intro j hj;rcases Nat.lt_or_ge j l.length with hjl|hjl
   · have hp:=hb _ (Ba hjl)
     have hV:=z43 (nth l j) x
     have e1:val1 (nth l j) x=valP (nth l j) x:=by
       have hvb:valB (nth l j) x=true:=by simp[valB,hp];omega
       simp[val1,hvb]
     rw[valV,e1] at hV;have t1:=On (x:=x) (by omega) (l:=l.take j) fun q hq=>hb q (List.mem_of_mem_take hq);have t2:=Ek hp (x:=x) (by omega);have hlt:(l.take j).length=j:=by simp;omega
     rw[hlt] at t1;have hw:IntKind.i64.wrap (totV (l.take j) x+valP (nth l j) x)=totV (l.take j) x+valP (nth l j) x:=IntWalk.i64_in _ (by omega);have hn:totV (l.take (j+1)) x=totV (l.take j) x+valP (nth l j) x:=by rw[take_at hjl,z9h]
     refine W_T ?_;(with_reducible repeat' (first|(simp(disch:=omega)only[push_cast,↓zz,seval,hw])|refine And.intro ?_ ?_|(first|refine Ab ?_ ?_|refine Aa ?_ ?_)<;>intro hc<;>(try simp only[push_cast] at hc)|refine eK hV ?_|refine eQ hV ?_|refine eG hV ?_|((first|refine cK hV ?_|refine cQ hV ?_|refine cG hV ?_);(simp(disch:=omega)only[push_cast,↓zz,seval,hw]);(fail_if_success change False))|omega|intro _))
     all_goals exact⟨j+1,⟨hn.symm,by push_cast⟩,by omega,by omega⟩
   · obtain rfl:j=l.length:=by omega
     rw[List.take_length];have t1:=On (x:=x) (by omega) (l:=l) hb;rw[togF] at hstep;generalize totV l x=n at *;have hwn:IntKind.i64.wrap (n-1)=n-1:=IntWalk.i64_in _ (by omega);rcases Ei out with rfl|⟨mm,z,hout⟩
     · refine W_T ?_
       (with_reducible repeat' (first|(simp(disch:=omega)only[push_cast,↓zz,seval,hwn])|refine And.intro ?_ ?_|(first|refine Ab ?_ ?_|refine Aa ?_ ?_)<;>intro hc<;>(try simp only[push_cast] at hc)|omega|intro _))
       all_goals
         refine⟨(v+1,[⟨n,n⟩]),?_⟩;rw[Gs] at hstep;(with_reducible repeat' (first|(simp(disch:=omega)only[push_cast,↓zz,seval,hstep])|refine And.intro ?_ ?_|(first|refine Ab ?_ ?_|refine Aa ?_ ?_)<;>intro hc<;>(try simp only[push_cast] at hc)|omega|intro _))
     · have l1:out.length=mm.length+1:=by rw[hout];simp
       have l2:nth out mm.length=z:=by rw[hout];exact zdr
       have l3:IntKind.i64.wrap (mm.length:Int)=mm.length:=IntWalk.i64_in _ (by omega);have l4:(out.map Bz).set mm.length (.agg [.int .i64 z.lo,.int .i64 n])=(mm++[(⟨z.lo,n⟩:Span)]).map Bz:=by rw[hout];exact Vt (f:=Bz) (z:=⟨z.lo,n⟩)
       have hadd:addS out ⟨n,n⟩=if z.hi=n-1 then mm++[⟨z.lo,n⟩] else out++[⟨n,n⟩]:=by rw[hout,Og]
       rw[hadd] at hstep;clear hadd hout;refine W_T ?_;(with_reducible repeat' (first|(simp(disch:=omega)only[push_cast,↓zz,seval,l1,l2,l3,l4,hwn])|refine And.intro ?_ ?_|(first|refine Ab ?_ ?_|refine Aa ?_ ?_)<;>intro hc<;>(try simp only[push_cast] at hc)|omega|intro _))
       · rw[if_pos (by assumption)] at hstep
         refine⟨(v,mm++[⟨z.lo,n⟩]),?_⟩;(with_reducible repeat' (first|(simp(disch:=omega)only[push_cast,↓zz,seval,hstep])|refine And.intro ?_ ?_|(first|refine Ab ?_ ?_|refine Aa ?_ ?_)<;>intro hc<;>(try simp only[push_cast] at hc)|omega|intro _))
       · rw[if_neg (by assumption)] at hstep
         refine⟨(v+1,out++[⟨n,n⟩]),?_⟩;(with_reducible repeat' (first|(simp(disch:=omega)only[push_cast,↓zz,seval,hstep,l1])|refine And.intro ?_ ?_|(first|refine Ab ?_ ?_|refine Aa ?_ ?_)<;>intro hc<;>(try simp only[push_cast] at hc)|omega|intro _))
 · rintro⟨v,out⟩ ⟨h1,h2⟩
   simp only[List.length_map] at h1 h2;rw[List.take_length] at h1;rw[←h1];have hN:=B8 out (by omega);(with_reducible repeat' (first|(simp(disch:=omega)only[push_cast,↓zz,seval,Cw])|refine And.intro ?_ ?_|(first|refine Ab ?_ ?_|refine Aa ?_ ?_)<;>intro hc<;>(try simp only[push_cast] at hc)|refine eK hN ?_|refine eQ hN ?_|refine eG hN ?_|((first|refine cK hN ?_|refine cQ hN ?_|refine cG hN ?_);(simp(disch:=omega)only[push_cast,↓zz,seval,Cw]);(fail_if_success change False))|omega|intro _))
   all_goals trace_state
def Bw (pl:List Int) (p:Part):List Int:=if p.at_∈pl then pl else pl++[p.at_]
def By (l:List Part):List Int:=l.foldl Bw []
def atL (l:List Part) (a:Int):List Part:=l.filter fun p=>decide (p.at_=a)
def Az (l:List Part) (sets:List (List Span)) (out:List Span) (a:Int):List Span:=Vy out (togL (atL l a) (nth sets a.toNat))
def Aw (t:Term) (sets:List (List Span)):List Span:=(By t.parts).foldl (Az t.parts sets) [⟨t.sum,t.sum⟩]
def B5 (l:List Span):Bool:=decide (0<(l.length:Int))&&(decide (0≤(Vx (Ar l)).getD 0)&&decide ((X7 (Ar l)).getD 0≤1114111))
def Acc (l:List Span):Prop:=Bd l∧l.length≤2147483649
theorem Oo (l:List Span):Acc (Ar l):=by
 refine⟨fun s hs=>?_,Om l⟩;have:=D9 l s hs;omega
theorem z0w (a b:List Span):Acc (Vy a b):=Oo _
theorem Sy (p:Part) (s:List Span):Acc (imgL p s):=by
 unfold imgL
 repeat' split
 all_goals first|exact Oo _|exact⟨fun s hs=>(by cases hs),by simp⟩
theorem z0x (l:List Part) (s:List Span):Acc (togL l s):=by
 unfold togL;split
 · exact Sy _ _
 · exact Oo _
theorem Co {x:Int} (h:B4 x=true):Acc [⟨x,x⟩]:=by
 refine⟨fun s hs=>?_,by simp⟩;have:=Gq h;simp only[List.mem_singleton] at hs;subst hs;simp only;omega
structure Ci (l:List Part) (sets:List (List Span)):Prop where
 parts:∀ p∈l,Dx p sets.length=true
 syms:∀ s∈sets,Syms s
 many:sets.length≤1000
theorem V0 {s:List Span} (h:Syms s):Ar s=s:=Ol h.1 fun t ht=>by have:=h.2 t ht;omega
theorem Aj {l:List Part} {sets:List (List Span)} {out:List Span} {a:Int} (hS:Ci l sets) (hA:Acc out) (ha:0≤a∧a<sets.length) (hl:l.length≤4) :
   PC Try.prog 66 [A8 (atL l a),Ah (nth sets a.toNat)] (Ah (togL (atL l a) (nth sets a.toNat)))∧PC Try.prog 65 [Ah out,Ah (togL (atL l a) (nth sets a.toNat))] (Ah (Az l sets out a))∧Acc (Az l sets out a):=by
 have hm:nth sets a.toNat∈sets:=Ba (by omega);have hs:=hS.syms _ hm;refine⟨Sx _ _ (Nat.le_trans (List.length_filter_le _ _) (by omega)) (fun p hp=>?_) (by have:=hs.len;omega) (by rw[V0 hs];exact hs),z9g _ _ (by have:=hA.2;omega) (by have:=(z0x (atL l a) (nth sets a.toNat)).2;omega) hA.1 (z0x _ _).1,z0w _ _⟩;have:=hS.parts p ((List.mem_filter.1 hp).1);simp only[Dx,Bool.and_eq_true] at this;exact this.2
theorem z4o (bs dr tk up sm:Int) (sets:List (List Span)) (hs:B4 sm=true) (hS:Ci [] sets) :
   PC Try.prog 60 [B0 ⟨bs,dr,tk,up,sm,[]⟩,Al sets] (.tup [Ah (Aw ⟨bs,dr,tk,up,sm,[]⟩ sets),.bool (B5 (Aw ⟨bs,dr,tk,up,sm,[]⟩ sets))]):=by
 have hg:=Ag sets;have A0:=Co hs;have hv:Aw ⟨bs,dr,tk,up,sm,[]⟩ sets=[⟨sm,sm⟩]:=by simp[Aw,By,Bw]
 rw[hv];have hF:=Bh ([⟨sm,sm⟩]) (by have:=A0.2;omega);have hL:=Br ([⟨sm,sm⟩]) (by have:=A0.2;omega);clear hS hv;refine Bf Av ?_;unfold Au;(with_reducible repeat' (first|(simp(disch:=omega)only[push_cast,↓zz,seval])|refine And.intro ?_ ?_|(first|refine Ab ?_ ?_|refine Aa ?_ ?_)<;>intro hc<;>(try simp only[push_cast] at hc)|omega|intro _));refine Ay 6 ?_;(with_reducible repeat' (first|(simp(disch:=omega)only[push_cast,↓zz,seval,xx,List.mem_cons,List.not_mem_nil,or_false,false_or,not_or,not_false_eq_true,true_or,or_true,B6,setM])|refine And.intro ?_ ?_|(first|refine Ab ?_ ?_|refine Aa ?_ ?_)<;>intro hc<;>(try simp only[push_cast] at hc)|refine Ak ?_|refine B2 [1] ?_|omega|intro _));refine Bg 6 (fun env=>[Bi 1 (env 6)]) [(1,Al sets),(6,.map 0 1),(10,Ah [⟨sm,sm⟩]),(53,.lst 1 []),(54,.int .i64 0),(55,.int .i64 0)] [⟨0,1,true,[]⟩] ?_ ?_
 · (with_reducible repeat' (first|(simp(disch:=omega)only[push_cast,↓zz,seval])|refine And.intro ?_ ?_|(first|refine Ab ?_ ?_|refine Aa ?_ ?_)<;>intro hc<;>(try simp only[push_cast] at hc)|omega|intro _))
   all_goals (simp only[Cd];done)
 (with_reducible repeat' (first|(simp(disch:=omega)only[push_cast,↓zz,seval,B6,B5,hg])|refine And.intro ?_ ?_|(first|refine Ab ?_ ?_|refine Aa ?_ ?_)<;>intro hc<;>(try simp only[push_cast] at hc)|refine eK hF ?_|refine eQ hF ?_|refine eG hF ?_|refine eK hL ?_|refine eQ hL ?_|refine eG hL ?_|refine Ak ?_|((first|refine cK hF ?_|refine cQ hF ?_|refine cG hF ?_|refine cK hL ?_|refine cQ hL ?_|refine cG hL ?_);(simp(disch:=omega)only[push_cast,↓zz,seval,B6,B5,hg]);(fail_if_success change False))|omega|intro _))
 all_goals ((try simp only[*,decide_true,decide_false,Bool.true_and,Bool.false_and]);(repeat' (first|(simp(disch:=omega)only[push_cast,↓zz,seval,Cf])|omega|(with_reducible refine And.intro ?_ ?_))))
theorem ze1 (bs dr tk up sm:Int) (sets:List (List Span)) (hs:B4 sm=true) (hS:Ci [] sets) :
   PC Try.prog 60 [B0 ⟨bs,dr,tk,up,sm,[]⟩,Al sets] (.tup [Ah (Aw ⟨bs,dr,tk,up,sm,[]⟩ sets),.bool (B5 (Aw ⟨bs,dr,tk,up,sm,[]⟩ sets))]):=by
 exact z4o bs dr tk up sm  sets hs hS 
theorem z4p (bs dr tk up sm:Int) (p0:Part) (sets:List (List Span)) (hs:B4 sm=true) (hS:Ci [p0] sets) :
   PC Try.prog 60 [B0 ⟨bs,dr,tk,up,sm,[p0]⟩,Al sets] (.tup [Ah (Aw ⟨bs,dr,tk,up,sm,[p0]⟩ sets),.bool (B5 (Aw ⟨bs,dr,tk,up,sm,[p0]⟩ sets))]):=by
 have hg:=Ag sets;have b0:=Ai (hS.parts p0 (by simp));have A0:=Co hs;obtain⟨T1,P1,A1⟩:=Aj (a:=p0.at_) hS A0 (by omega) (by simp);have l1:atL [p0] p0.at_=[p0]:=by simp[atL]
 rw[l1] at T1 P1;have hv:Aw ⟨bs,dr,tk,up,sm,[p0]⟩ sets=Az [p0] sets ([⟨sm,sm⟩]) p0.at_:=by simp[Aw,By,Bw]
 rw[hv];generalize ho1:Az [p0] sets ([⟨sm,sm⟩]) p0.at_=o1 at *;generalize ht1:togL [p0] (nth sets p0.at_.toNat)=t1 at *;have hF:=Bh o1 (by have:=A1.2;omega);have hL:=Br o1 (by have:=A1.2;omega);clear hS hv ho1 ht1 l1;refine Bf Av ?_;unfold Au;(with_reducible repeat' (first|(simp(disch:=omega)only[push_cast,↓zz,seval])|refine And.intro ?_ ?_|(first|refine Ab ?_ ?_|refine Aa ?_ ?_)<;>intro hc<;>(try simp only[push_cast] at hc)|omega|intro _));refine Ay 6 ?_;(with_reducible repeat' (first|(simp(disch:=omega)only[push_cast,↓zz,seval,xx,List.mem_cons,List.not_mem_nil,or_false,false_or,not_or,not_false_eq_true,true_or,or_true,B6,setM])|refine And.intro ?_ ?_|(first|refine Ab ?_ ?_|refine Aa ?_ ?_)<;>intro hc<;>(try simp only[push_cast] at hc)|refine Ak ?_|refine B2 [1] ?_|omega|intro _));refine Bg 6 (fun env=>[Bi 1 (env 6)]) [(1,Al sets),(6,.map 0 1),(10,Ah [⟨sm,sm⟩]),(53,.lst 1 [.int .i64 p0.at_]),(54,.int .i64 1),(55,.int .i64 0)] [⟨0,1,true,[.int .i64 p0.at_,A8 [p0]]⟩] ?_ ?_
 · (with_reducible repeat' (first|(simp(disch:=omega)only[push_cast,↓zz,seval])|refine And.intro ?_ ?_|(first|refine Ab ?_ ?_|refine Aa ?_ ?_)<;>intro hc<;>(try simp only[push_cast] at hc)|omega|intro _))
   all_goals (simp only[Cd];done)
 (with_reducible repeat' (first|(simp(disch:=omega)only[push_cast,↓zz,seval,B6,B5,hg])|refine And.intro ?_ ?_|(first|refine Ab ?_ ?_|refine Aa ?_ ?_)<;>intro hc<;>(try simp only[push_cast] at hc)|refine Ak ?_|refine eQ T1 ?_|refine eQ P1 ?_|refine eK T1 ?_|refine eK P1 ?_|refine eK hF ?_|refine eK hL ?_|omega|intro _))
 all_goals ((try simp only[*,decide_true,decide_false,Bool.true_and,Bool.false_and]);(repeat' (first|(simp(disch:=omega)only[push_cast,↓zz,seval,Cf])|omega|(with_reducible refine And.intro ?_ ?_))))
theorem ze2 (bs dr tk up sm:Int) (p0:Part) (sets:List (List Span)) (hs:B4 sm=true) (hS:Ci [p0] sets) :
   PC Try.prog 60 [B0 ⟨bs,dr,tk,up,sm,[p0]⟩,Al sets] (.tup [Ah (Aw ⟨bs,dr,tk,up,sm,[p0]⟩ sets),.bool (B5 (Aw ⟨bs,dr,tk,up,sm,[p0]⟩ sets))]):=by
 exact z4p bs dr tk up sm p0 sets hs hS 
theorem z4q (bs dr tk up sm:Int) (p0 p1:Part) (sets:List (List Span)) (hs:B4 sm=true) (hS:Ci [p0,p1] sets) (e1:p1.at_=p0.at_) :
   PC Try.prog 60 [B0 ⟨bs,dr,tk,up,sm,[p0,p1]⟩,Al sets] (.tup [Ah (Aw ⟨bs,dr,tk,up,sm,[p0,p1]⟩ sets),.bool (B5 (Aw ⟨bs,dr,tk,up,sm,[p0,p1]⟩ sets))]):=by
 have hg:=Ag sets;have b0:=Ai (hS.parts p0 (by simp));have b1:=Ai (hS.parts p1 (by simp));have A0:=Co hs;obtain⟨T1,P1,A1⟩:=Aj (a:=p0.at_) hS A0 (by omega) (by simp);have l1:atL [p0,p1] p0.at_=[p0,p1]:=by simp[atL,e1]
 rw[l1] at T1 P1;have hv:Aw ⟨bs,dr,tk,up,sm,[p0,p1]⟩ sets=Az [p0,p1] sets ([⟨sm,sm⟩]) p0.at_:=by simp[Aw,By,Bw,e1]
 rw[hv];generalize ho1:Az [p0,p1] sets ([⟨sm,sm⟩]) p0.at_=o1 at *;generalize ht1:togL [p0,p1] (nth sets p0.at_.toNat)=t1 at *;have hF:=Bh o1 (by have:=A1.2;omega);have hL:=Br o1 (by have:=A1.2;omega);clear hS hv ho1 ht1 l1;refine Bf Av ?_;unfold Au;(with_reducible repeat' (first|(simp(disch:=omega)only[push_cast,↓zz,seval])|refine And.intro ?_ ?_|(first|refine Ab ?_ ?_|refine Aa ?_ ?_)<;>intro hc<;>(try simp only[push_cast] at hc)|omega|intro _));refine Ay 6 ?_;(with_reducible repeat' (first|(simp(disch:=omega)only[push_cast,↓zz,seval,xx,List.mem_cons,List.not_mem_nil,or_false,false_or,not_or,not_false_eq_true,true_or,or_true,B6,setM,e1])|refine And.intro ?_ ?_|(first|refine Ab ?_ ?_|refine Aa ?_ ?_)<;>intro hc<;>(try simp only[push_cast] at hc)|refine Ak ?_|refine B2 [1,5] ?_|omega|intro _));refine Bg 6 (fun env=>[Bi 1 (env 6)]) [(1,Al sets),(6,.map 0 1),(10,Ah [⟨sm,sm⟩]),(53,.lst 1 [.int .i64 p0.at_]),(54,.int .i64 1),(55,.int .i64 0)] [⟨0,1,true,[.int .i64 p0.at_,A8 [p0,p1]]⟩] ?_ ?_
 · (with_reducible repeat' (first|(simp(disch:=omega)only[push_cast,↓zz,seval,e1])|refine And.intro ?_ ?_|(first|refine Ab ?_ ?_|refine Aa ?_ ?_)<;>intro hc<;>(try simp only[push_cast] at hc)|omega|intro _))
   all_goals (simp only[Cd,e1];done)
 (with_reducible repeat' (first|(simp(disch:=omega)only[push_cast,↓zz,seval,B6,B5,hg,e1])|refine And.intro ?_ ?_|(first|refine Ab ?_ ?_|refine Aa ?_ ?_)<;>intro hc<;>(try simp only[push_cast] at hc)|refine Ak ?_|refine eQ T1 ?_|refine eQ P1 ?_|refine eK T1 ?_|refine eK P1 ?_|refine eK hF ?_|refine eK hL ?_|omega|intro _))
 all_goals ((try simp only[*,decide_true,decide_false,Bool.true_and,Bool.false_and]);(repeat' (first|(simp(disch:=omega)only[push_cast,↓zz,seval,Cf])|omega|(with_reducible refine And.intro ?_ ?_))))
theorem z4r (bs dr tk up sm:Int) (p0 p1:Part) (sets:List (List Span)) (hs:B4 sm=true) (hS:Ci [p0,p1] sets) (n01:¬p0.at_=p1.at_) :
   PC Try.prog 60 [B0 ⟨bs,dr,tk,up,sm,[p0,p1]⟩,Al sets] (.tup [Ah (Aw ⟨bs,dr,tk,up,sm,[p0,p1]⟩ sets),.bool (B5 (Aw ⟨bs,dr,tk,up,sm,[p0,p1]⟩ sets))]):=by
 have hg:=Ag sets;have b0:=Ai (hS.parts p0 (by simp));have b1:=Ai (hS.parts p1 (by simp));have A0:=Co hs;obtain⟨T1,P1,A1⟩:=Aj (a:=p0.at_) hS A0 (by omega) (by simp);have l1:atL [p0,p1] p0.at_=[p0]:=by simp[atL,n01,Ne.symm (show p0.at_≠p1.at_ from n01)]
 rw[l1] at T1 P1;obtain⟨T2,P2,A2⟩:=Aj (a:=p1.at_) hS A1 (by omega) (by simp);have l2:atL [p0,p1] p1.at_=[p1]:=by simp[atL,n01,Ne.symm (show p0.at_≠p1.at_ from n01)]
 rw[l2] at T2 P2;have hv:Aw ⟨bs,dr,tk,up,sm,[p0,p1]⟩ sets=Az [p0,p1] sets (Az [p0,p1] sets ([⟨sm,sm⟩]) p0.at_) p1.at_:=by simp[Aw,By,Bw,n01,Ne.symm (show p0.at_≠p1.at_ from n01)]
 rw[hv];generalize ho1:Az [p0,p1] sets ([⟨sm,sm⟩]) p0.at_=o1 at *;generalize ht1:togL [p0] (nth sets p0.at_.toNat)=t1 at *;generalize ho2:Az [p0,p1] sets (o1) p1.at_=o2 at *;generalize ht2:togL [p1] (nth sets p1.at_.toNat)=t2 at *;have hF:=Bh o2 (by have:=A2.2;omega);have hL:=Br o2 (by have:=A2.2;omega);clear hS hv ho1 ht1 l1 ho2 ht2 l2;refine Bf Av ?_;unfold Au;(with_reducible repeat' (first|(simp(disch:=omega)only[push_cast,↓zz,seval])|refine And.intro ?_ ?_|(first|refine Ab ?_ ?_|refine Aa ?_ ?_)<;>intro hc<;>(try simp only[push_cast] at hc)|omega|intro _));refine Ay 6 ?_;(with_reducible repeat' (first|(simp(disch:=omega)only[push_cast,↓zz,seval,xx,List.mem_cons,List.not_mem_nil,or_false,false_or,not_or,not_false_eq_true,true_or,or_true,B6,setM,n01])|refine And.intro ?_ ?_|(first|refine Ab ?_ ?_|refine Aa ?_ ?_)<;>intro hc<;>(try simp only[push_cast] at hc)|refine Ak ?_|refine B2 [1] ?_|omega|intro _));refine Bg 6 (fun env=>[Bi 1 (env 6)]) [(1,Al sets),(6,.map 0 1),(10,Ah [⟨sm,sm⟩]),(53,.lst 1 [.int .i64 p0.at_,.int .i64 p1.at_]),(54,.int .i64 2),(55,.int .i64 0)] [⟨0,1,true,[.int .i64 p0.at_,A8 [p0],.int .i64 p1.at_,A8 [p1]]⟩] ?_ ?_
 · (with_reducible repeat' (first|(simp(disch:=omega)only[push_cast,↓zz,seval,n01])|refine And.intro ?_ ?_|(first|refine Ab ?_ ?_|refine Aa ?_ ?_)<;>intro hc<;>(try simp only[push_cast] at hc)|omega|intro _))
   all_goals (simp only[Cd,n01];done)
 (with_reducible repeat' (first|(simp(disch:=omega)only[push_cast,↓zz,seval,B6,B5,hg,n01])|refine And.intro ?_ ?_|(first|refine Ab ?_ ?_|refine Aa ?_ ?_)<;>intro hc<;>(try simp only[push_cast] at hc)|refine Ak ?_|refine eQ T1 ?_|refine eQ P1 ?_|refine eK T1 ?_|refine eK P1 ?_|refine eQ T2 ?_|refine eQ P2 ?_|refine eK T2 ?_|refine eK P2 ?_|refine eK hF ?_|refine eK hL ?_|omega|intro _))
 all_goals ((try simp only[*,decide_true,decide_false,Bool.true_and,Bool.false_and]);(repeat' (first|(simp(disch:=omega)only[push_cast,↓zz,seval,Cf])|omega|(with_reducible refine And.intro ?_ ?_))))
theorem ze3 (bs dr tk up sm:Int) (p0 p1:Part) (sets:List (List Span)) (hs:B4 sm=true) (hS:Ci [p0,p1] sets) :
   PC Try.prog 60 [B0 ⟨bs,dr,tk,up,sm,[p0,p1]⟩,Al sets] (.tup [Ah (Aw ⟨bs,dr,tk,up,sm,[p0,p1]⟩ sets),.bool (B5 (Aw ⟨bs,dr,tk,up,sm,[p0,p1]⟩ sets))]):=by
 rcases Classical.em (p1.at_=p0.at_) with e1|x01
 · skip
   exact z4q bs dr tk up sm p0 p1 sets hs hS e1
 have n01:¬p0.at_=p1.at_:=fun h=>x01 h.symm;exact z4r bs dr tk up sm p0 p1 sets hs hS n01
theorem z4s (bs dr tk up sm:Int) (p0 p1 p2:Part) (sets:List (List Span)) (hs:B4 sm=true) (hS:Ci [p0,p1,p2] sets) (e1:p1.at_=p0.at_) (e2:p2.at_=p0.at_) :
   PC Try.prog 60 [B0 ⟨bs,dr,tk,up,sm,[p0,p1,p2]⟩,Al sets] (.tup [Ah (Aw ⟨bs,dr,tk,up,sm,[p0,p1,p2]⟩ sets),.bool (B5 (Aw ⟨bs,dr,tk,up,sm,[p0,p1,p2]⟩ sets))]):=by
 have hg:=Ag sets;have b0:=Ai (hS.parts p0 (by simp));have b1:=Ai (hS.parts p1 (by simp));have b2:=Ai (hS.parts p2 (by simp));have A0:=Co hs;obtain⟨T1,P1,A1⟩:=Aj (a:=p0.at_) hS A0 (by omega) (by simp);have l1:atL [p0,p1,p2] p0.at_=[p0,p1,p2]:=by simp[atL,e1,e2]
 rw[l1] at T1 P1;have hv:Aw ⟨bs,dr,tk,up,sm,[p0,p1,p2]⟩ sets=Az [p0,p1,p2] sets ([⟨sm,sm⟩]) p0.at_:=by simp[Aw,By,Bw,e1,e2]
 rw[hv];generalize ho1:Az [p0,p1,p2] sets ([⟨sm,sm⟩]) p0.at_=o1 at *;generalize ht1:togL [p0,p1,p2] (nth sets p0.at_.toNat)=t1 at *;have hF:=Bh o1 (by have:=A1.2;omega);have hL:=Br o1 (by have:=A1.2;omega);clear hS hv ho1 ht1 l1;refine Bf Av ?_;unfold Au;(with_reducible repeat' (first|(simp(disch:=omega)only[push_cast,↓zz,seval])|refine And.intro ?_ ?_|(first|refine Ab ?_ ?_|refine Aa ?_ ?_)<;>intro hc<;>(try simp only[push_cast] at hc)|omega|intro _));refine Ay 6 ?_;(with_reducible repeat' (first|(simp(disch:=omega)only[push_cast,↓zz,seval,xx,List.mem_cons,List.not_mem_nil,or_false,false_or,not_or,not_false_eq_true,true_or,or_true,B6,setM,e1,e2])|refine And.intro ?_ ?_|(first|refine Ab ?_ ?_|refine Aa ?_ ?_)<;>intro hc<;>(try simp only[push_cast] at hc)|refine Ak ?_|refine B2 [1,5] ?_|omega|intro _));refine Bg 6 (fun env=>[Bi 1 (env 6)]) [(1,Al sets),(6,.map 0 1),(10,Ah [⟨sm,sm⟩]),(53,.lst 1 [.int .i64 p0.at_]),(54,.int .i64 1),(55,.int .i64 0)] [⟨0,1,true,[.int .i64 p0.at_,A8 [p0,p1,p2]]⟩] ?_ ?_
 · (with_reducible repeat' (first|(simp(disch:=omega)only[push_cast,↓zz,seval,e1,e2])|refine And.intro ?_ ?_|(first|refine Ab ?_ ?_|refine Aa ?_ ?_)<;>intro hc<;>(try simp only[push_cast] at hc)|omega|intro _))
   all_goals (simp only[Cd,e1,e2];done)
 (with_reducible repeat' (first|(simp(disch:=omega)only[push_cast,↓zz,seval,B6,B5,hg,e1,e2])|refine And.intro ?_ ?_|(first|refine Ab ?_ ?_|refine Aa ?_ ?_)<;>intro hc<;>(try simp only[push_cast] at hc)|refine Ak ?_|refine eQ T1 ?_|refine eQ P1 ?_|refine eK T1 ?_|refine eK P1 ?_|refine eK hF ?_|refine eK hL ?_|omega|intro _))
 all_goals ((try simp only[*,decide_true,decide_false,Bool.true_and,Bool.false_and]);(repeat' (first|(simp(disch:=omega)only[push_cast,↓zz,seval,Cf])|omega|(with_reducible refine And.intro ?_ ?_))))
theorem z4t (bs dr tk up sm:Int) (p0 p1 p2:Part) (sets:List (List Span)) (hs:B4 sm=true) (hS:Ci [p0,p1,p2] sets) (e1:p1.at_=p0.at_) (n02:¬p0.at_=p2.at_) :
   PC Try.prog 60 [B0 ⟨bs,dr,tk,up,sm,[p0,p1,p2]⟩,Al sets] (.tup [Ah (Aw ⟨bs,dr,tk,up,sm,[p0,p1,p2]⟩ sets),.bool (B5 (Aw ⟨bs,dr,tk,up,sm,[p0,p1,p2]⟩ sets))]):=by
 have hg:=Ag sets;have b0:=Ai (hS.parts p0 (by simp));have b1:=Ai (hS.parts p1 (by simp));have b2:=Ai (hS.parts p2 (by simp));have A0:=Co hs;obtain⟨T1,P1,A1⟩:=Aj (a:=p0.at_) hS A0 (by omega) (by simp);have l1:atL [p0,p1,p2] p0.at_=[p0,p1]:=by simp[atL,e1,n02,Ne.symm (show p0.at_≠p2.at_ from n02)]
 rw[l1] at T1 P1;obtain⟨T2,P2,A2⟩:=Aj (a:=p2.at_) hS A1 (by omega) (by simp);have l2:atL [p0,p1,p2] p2.at_=[p2]:=by simp[atL,e1,n02,Ne.symm (show p0.at_≠p2.at_ from n02)]
 rw[l2] at T2 P2;have hv:Aw ⟨bs,dr,tk,up,sm,[p0,p1,p2]⟩ sets=Az [p0,p1,p2] sets (Az [p0,p1,p2] sets ([⟨sm,sm⟩]) p0.at_) p2.at_:=by simp[Aw,By,Bw,e1,n02,Ne.symm (show p0.at_≠p2.at_ from n02)]
 rw[hv];generalize ho1:Az [p0,p1,p2] sets ([⟨sm,sm⟩]) p0.at_=o1 at *;generalize ht1:togL [p0,p1] (nth sets p0.at_.toNat)=t1 at *;generalize ho2:Az [p0,p1,p2] sets (o1) p2.at_=o2 at *;generalize ht2:togL [p2] (nth sets p2.at_.toNat)=t2 at *;have hF:=Bh o2 (by have:=A2.2;omega);have hL:=Br o2 (by have:=A2.2;omega);clear hS hv ho1 ht1 l1 ho2 ht2 l2;refine Bf Av ?_;unfold Au;(with_reducible repeat' (first|(simp(disch:=omega)only[push_cast,↓zz,seval])|refine And.intro ?_ ?_|(first|refine Ab ?_ ?_|refine Aa ?_ ?_)<;>intro hc<;>(try simp only[push_cast] at hc)|omega|intro _));refine Ay 6 ?_;(with_reducible repeat' (first|(simp(disch:=omega)only[push_cast,↓zz,seval,xx,List.mem_cons,List.not_mem_nil,or_false,false_or,not_or,not_false_eq_true,true_or,or_true,B6,setM,e1,n02])|refine And.intro ?_ ?_|(first|refine Ab ?_ ?_|refine Aa ?_ ?_)<;>intro hc<;>(try simp only[push_cast] at hc)|refine Ak ?_|refine B2 [1,5] ?_|omega|intro _));refine Bg 6 (fun env=>[Bi 1 (env 6)]) [(1,Al sets),(6,.map 0 1),(10,Ah [⟨sm,sm⟩]),(53,.lst 1 [.int .i64 p0.at_,.int .i64 p2.at_]),(54,.int .i64 2),(55,.int .i64 0)] [⟨0,1,true,[.int .i64 p0.at_,A8 [p0,p1],.int .i64 p2.at_,A8 [p2]]⟩] ?_ ?_
 · (with_reducible repeat' (first|(simp(disch:=omega)only[push_cast,↓zz,seval,e1,n02])|refine And.intro ?_ ?_|(first|refine Ab ?_ ?_|refine Aa ?_ ?_)<;>intro hc<;>(try simp only[push_cast] at hc)|omega|intro _))
   all_goals (simp only[Cd,e1,n02];done)
 (with_reducible repeat' (first|(simp(disch:=omega)only[push_cast,↓zz,seval,B6,B5,hg,e1,n02])|refine And.intro ?_ ?_|(first|refine Ab ?_ ?_|refine Aa ?_ ?_)<;>intro hc<;>(try simp only[push_cast] at hc)|refine Ak ?_|refine eQ T1 ?_|refine eQ P1 ?_|refine eK T1 ?_|refine eK P1 ?_|refine eQ T2 ?_|refine eQ P2 ?_|refine eK T2 ?_|refine eK P2 ?_|refine eK hF ?_|refine eK hL ?_|omega|intro _))
 all_goals ((try simp only[*,decide_true,decide_false,Bool.true_and,Bool.false_and]);(repeat' (first|(simp(disch:=omega)only[push_cast,↓zz,seval,Cf])|omega|(with_reducible refine And.intro ?_ ?_))))
theorem z4u (bs dr tk up sm:Int) (p0 p1 p2:Part) (sets:List (List Span)) (hs:B4 sm=true) (hS:Ci [p0,p1,p2] sets) (e2:p2.at_=p0.at_) (n01:¬p0.at_=p1.at_) :
   PC Try.prog 60 [B0 ⟨bs,dr,tk,up,sm,[p0,p1,p2]⟩,Al sets] (.tup [Ah (Aw ⟨bs,dr,tk,up,sm,[p0,p1,p2]⟩ sets),.bool (B5 (Aw ⟨bs,dr,tk,up,sm,[p0,p1,p2]⟩ sets))]):=by
 have hg:=Ag sets;have b0:=Ai (hS.parts p0 (by simp));have b1:=Ai (hS.parts p1 (by simp));have b2:=Ai (hS.parts p2 (by simp));have A0:=Co hs;obtain⟨T1,P1,A1⟩:=Aj (a:=p0.at_) hS A0 (by omega) (by simp);have l1:atL [p0,p1,p2] p0.at_=[p0,p2]:=by simp[atL,e2,n01,Ne.symm (show p0.at_≠p1.at_ from n01)]
 rw[l1] at T1 P1;obtain⟨T2,P2,A2⟩:=Aj (a:=p1.at_) hS A1 (by omega) (by simp);have l2:atL [p0,p1,p2] p1.at_=[p1]:=by simp[atL,e2,n01,Ne.symm (show p0.at_≠p1.at_ from n01)]
 rw[l2] at T2 P2;have hv:Aw ⟨bs,dr,tk,up,sm,[p0,p1,p2]⟩ sets=Az [p0,p1,p2] sets (Az [p0,p1,p2] sets ([⟨sm,sm⟩]) p0.at_) p1.at_:=by simp[Aw,By,Bw,e2,n01,Ne.symm (show p0.at_≠p1.at_ from n01)]
 rw[hv];generalize ho1:Az [p0,p1,p2] sets ([⟨sm,sm⟩]) p0.at_=o1 at *;generalize ht1:togL [p0,p2] (nth sets p0.at_.toNat)=t1 at *;generalize ho2:Az [p0,p1,p2] sets (o1) p1.at_=o2 at *;generalize ht2:togL [p1] (nth sets p1.at_.toNat)=t2 at *;have hF:=Bh o2 (by have:=A2.2;omega);have hL:=Br o2 (by have:=A2.2;omega);clear hS hv ho1 ht1 l1 ho2 ht2 l2;refine Bf Av ?_;unfold Au;(with_reducible repeat' (first|(simp(disch:=omega)only[push_cast,↓zz,seval])|refine And.intro ?_ ?_|(first|refine Ab ?_ ?_|refine Aa ?_ ?_)<;>intro hc<;>(try simp only[push_cast] at hc)|omega|intro _));refine Ay 6 ?_;(with_reducible repeat' (first|(simp(disch:=omega)only[push_cast,↓zz,seval,xx,List.mem_cons,List.not_mem_nil,or_false,false_or,not_or,not_false_eq_true,true_or,or_true,B6,setM,e2,n01])|refine And.intro ?_ ?_|(first|refine Ab ?_ ?_|refine Aa ?_ ?_)<;>intro hc<;>(try simp only[push_cast] at hc)|refine Ak ?_|refine B2 [1,5] ?_|omega|intro _));refine Bg 6 (fun env=>[Bi 1 (env 6)]) [(1,Al sets),(6,.map 0 1),(10,Ah [⟨sm,sm⟩]),(53,.lst 1 [.int .i64 p0.at_,.int .i64 p1.at_]),(54,.int .i64 2),(55,.int .i64 0)] [⟨0,1,true,[.int .i64 p0.at_,A8 [p0,p2],.int .i64 p1.at_,A8 [p1]]⟩] ?_ ?_
 · (with_reducible repeat' (first|(simp(disch:=omega)only[push_cast,↓zz,seval,e2,n01])|refine And.intro ?_ ?_|(first|refine Ab ?_ ?_|refine Aa ?_ ?_)<;>intro hc<;>(try simp only[push_cast] at hc)|omega|intro _))
   all_goals (simp only[Cd,e2,n01];done)
 (with_reducible repeat' (first|(simp(disch:=omega)only[push_cast,↓zz,seval,B6,B5,hg,e2,n01])|refine And.intro ?_ ?_|(first|refine Ab ?_ ?_|refine Aa ?_ ?_)<;>intro hc<;>(try simp only[push_cast] at hc)|refine Ak ?_|refine eQ T1 ?_|refine eQ P1 ?_|refine eK T1 ?_|refine eK P1 ?_|refine eQ T2 ?_|refine eQ P2 ?_|refine eK T2 ?_|refine eK P2 ?_|refine eK hF ?_|refine eK hL ?_|omega|intro _))
 all_goals ((try simp only[*,decide_true,decide_false,Bool.true_and,Bool.false_and]);(repeat' (first|(simp(disch:=omega)only[push_cast,↓zz,seval,Cf])|omega|(with_reducible refine And.intro ?_ ?_))))
theorem z4v (bs dr tk up sm:Int) (p0 p1 p2:Part) (sets:List (List Span)) (hs:B4 sm=true) (hS:Ci [p0,p1,p2] sets) (e2:p2.at_=p1.at_) (n01:¬p0.at_=p1.at_) :
   PC Try.prog 60 [B0 ⟨bs,dr,tk,up,sm,[p0,p1,p2]⟩,Al sets] (.tup [Ah (Aw ⟨bs,dr,tk,up,sm,[p0,p1,p2]⟩ sets),.bool (B5 (Aw ⟨bs,dr,tk,up,sm,[p0,p1,p2]⟩ sets))]):=by
 have hg:=Ag sets;have b0:=Ai (hS.parts p0 (by simp));have b1:=Ai (hS.parts p1 (by simp));have b2:=Ai (hS.parts p2 (by simp));have A0:=Co hs;obtain⟨T1,P1,A1⟩:=Aj (a:=p0.at_) hS A0 (by omega) (by simp);have l1:atL [p0,p1,p2] p0.at_=[p0]:=by simp[atL,e2,n01,Ne.symm (show p0.at_≠p1.at_ from n01)]
 rw[l1] at T1 P1;obtain⟨T2,P2,A2⟩:=Aj (a:=p1.at_) hS A1 (by omega) (by simp);have l2:atL [p0,p1,p2] p1.at_=[p1,p2]:=by simp[atL,e2,n01,Ne.symm (show p0.at_≠p1.at_ from n01)]
 rw[l2] at T2 P2;have hv:Aw ⟨bs,dr,tk,up,sm,[p0,p1,p2]⟩ sets=Az [p0,p1,p2] sets (Az [p0,p1,p2] sets ([⟨sm,sm⟩]) p0.at_) p1.at_:=by simp[Aw,By,Bw,e2,n01,Ne.symm (show p0.at_≠p1.at_ from n01)]
 rw[hv];generalize ho1:Az [p0,p1,p2] sets ([⟨sm,sm⟩]) p0.at_=o1 at *;generalize ht1:togL [p0] (nth sets p0.at_.toNat)=t1 at *;generalize ho2:Az [p0,p1,p2] sets (o1) p1.at_=o2 at *;generalize ht2:togL [p1,p2] (nth sets p1.at_.toNat)=t2 at *;have hF:=Bh o2 (by have:=A2.2;omega);have hL:=Br o2 (by have:=A2.2;omega);clear hS hv ho1 ht1 l1 ho2 ht2 l2;refine Bf Av ?_;unfold Au;(with_reducible repeat' (first|(simp(disch:=omega)only[push_cast,↓zz,seval])|refine And.intro ?_ ?_|(first|refine Ab ?_ ?_|refine Aa ?_ ?_)<;>intro hc<;>(try simp only[push_cast] at hc)|omega|intro _));refine Ay 6 ?_;(with_reducible repeat' (first|(simp(disch:=omega)only[push_cast,↓zz,seval,xx,List.mem_cons,List.not_mem_nil,or_false,false_or,not_or,not_false_eq_true,true_or,or_true,B6,setM,e2,n01])|refine And.intro ?_ ?_|(first|refine Ab ?_ ?_|refine Aa ?_ ?_)<;>intro hc<;>(try simp only[push_cast] at hc)|refine Ak ?_|refine B2 [1,8] ?_|omega|intro _));refine Bg 6 (fun env=>[Bi 1 (env 6)]) [(1,Al sets),(6,.map 0 1),(10,Ah [⟨sm,sm⟩]),(53,.lst 1 [.int .i64 p0.at_,.int .i64 p1.at_]),(54,.int .i64 2),(55,.int .i64 0)] [⟨0,1,true,[.int .i64 p0.at_,A8 [p0],.int .i64 p1.at_,A8 [p1,p2]]⟩] ?_ ?_
 · (with_reducible repeat' (first|(simp(disch:=omega)only[push_cast,↓zz,seval,e2,n01])|refine And.intro ?_ ?_|(first|refine Ab ?_ ?_|refine Aa ?_ ?_)<;>intro hc<;>(try simp only[push_cast] at hc)|omega|intro _))
   all_goals (simp only[Cd,e2,n01];done)
 (with_reducible repeat' (first|(simp(disch:=omega)only[push_cast,↓zz,seval,B6,B5,hg,e2,n01])|refine And.intro ?_ ?_|(first|refine Ab ?_ ?_|refine Aa ?_ ?_)<;>intro hc<;>(try simp only[push_cast] at hc)|refine Ak ?_|refine eQ T1 ?_|refine eQ P1 ?_|refine eK T1 ?_|refine eK P1 ?_|refine eQ T2 ?_|refine eQ P2 ?_|refine eK T2 ?_|refine eK P2 ?_|refine eK hF ?_|refine eK hL ?_|omega|intro _))
 all_goals ((try simp only[*,decide_true,decide_false,Bool.true_and,Bool.false_and]);(repeat' (first|(simp(disch:=omega)only[push_cast,↓zz,seval,Cf])|omega|(with_reducible refine And.intro ?_ ?_))))
theorem z4w (bs dr tk up sm:Int) (p0 p1 p2:Part) (sets:List (List Span)) (hs:B4 sm=true) (hS:Ci [p0,p1,p2] sets) (n01:¬p0.at_=p1.at_) (n02:¬p0.at_=p2.at_) (n12:¬p1.at_=p2.at_) :
   PC Try.prog 60 [B0 ⟨bs,dr,tk,up,sm,[p0,p1,p2]⟩,Al sets] (.tup [Ah (Aw ⟨bs,dr,tk,up,sm,[p0,p1,p2]⟩ sets),.bool (B5 (Aw ⟨bs,dr,tk,up,sm,[p0,p1,p2]⟩ sets))]):=by
 have hg:=Ag sets;have b0:=Ai (hS.parts p0 (by simp));have b1:=Ai (hS.parts p1 (by simp));have b2:=Ai (hS.parts p2 (by simp));have A0:=Co hs;obtain⟨T1,P1,A1⟩:=Aj (a:=p0.at_) hS A0 (by omega) (by simp);have l1:atL [p0,p1,p2] p0.at_=[p0]:=by simp[atL,n01,n02,n12,Ne.symm (show p0.at_≠p1.at_ from n01),Ne.symm (show p0.at_≠p2.at_ from n02),Ne.symm (show p1.at_≠p2.at_ from n12)]
 rw[l1] at T1 P1;obtain⟨T2,P2,A2⟩:=Aj (a:=p1.at_) hS A1 (by omega) (by simp);have l2:atL [p0,p1,p2] p1.at_=[p1]:=by simp[atL,n01,n02,n12,Ne.symm (show p0.at_≠p1.at_ from n01),Ne.symm (show p0.at_≠p2.at_ from n02),Ne.symm (show p1.at_≠p2.at_ from n12)]
 rw[l2] at T2 P2;obtain⟨T3,P3,A3⟩:=Aj (a:=p2.at_) hS A2 (by omega) (by simp);have l3:atL [p0,p1,p2] p2.at_=[p2]:=by simp[atL,n01,n02,n12,Ne.symm (show p0.at_≠p1.at_ from n01),Ne.symm (show p0.at_≠p2.at_ from n02),Ne.symm (show p1.at_≠p2.at_ from n12)]
 rw[l3] at T3 P3;have hv:Aw ⟨bs,dr,tk,up,sm,[p0,p1,p2]⟩ sets=Az [p0,p1,p2] sets (Az [p0,p1,p2] sets (Az [p0,p1,p2] sets ([⟨sm,sm⟩]) p0.at_) p1.at_) p2.at_:=by simp[Aw,By,Bw,n01,n02,n12,Ne.symm (show p0.at_≠p1.at_ from n01),Ne.symm (show p0.at_≠p2.at_ from n02),Ne.symm (show p1.at_≠p2.at_ from n12)]
 rw[hv];generalize ho1:Az [p0,p1,p2] sets ([⟨sm,sm⟩]) p0.at_=o1 at *;generalize ht1:togL [p0] (nth sets p0.at_.toNat)=t1 at *;generalize ho2:Az [p0,p1,p2] sets (o1) p1.at_=o2 at *;generalize ht2:togL [p1] (nth sets p1.at_.toNat)=t2 at *;generalize ho3:Az [p0,p1,p2] sets (o2) p2.at_=o3 at *;generalize ht3:togL [p2] (nth sets p2.at_.toNat)=t3 at *;have hF:=Bh o3 (by have:=A3.2;omega);have hL:=Br o3 (by have:=A3.2;omega);clear hS hv ho1 ht1 l1 ho2 ht2 l2 ho3 ht3 l3;refine Bf Av ?_;unfold Au;(with_reducible repeat' (first|(simp(disch:=omega)only[push_cast,↓zz,seval])|refine And.intro ?_ ?_|(first|refine Ab ?_ ?_|refine Aa ?_ ?_)<;>intro hc<;>(try simp only[push_cast] at hc)|omega|intro _));refine Ay 6 ?_;(with_reducible repeat' (first|(simp(disch:=omega)only[push_cast,↓zz,seval,xx,List.mem_cons,List.not_mem_nil,or_false,false_or,not_or,not_false_eq_true,true_or,or_true,B6,setM,n01,n02,n12])|refine And.intro ?_ ?_|(first|refine Ab ?_ ?_|refine Aa ?_ ?_)<;>intro hc<;>(try simp only[push_cast] at hc)|refine Ak ?_|refine B2 [1] ?_|omega|intro _));refine Bg 6 (fun env=>[Bi 1 (env 6)]) [(1,Al sets),(6,.map 0 1),(10,Ah [⟨sm,sm⟩]),(53,.lst 1 [.int .i64 p0.at_,.int .i64 p1.at_,.int .i64 p2.at_]),(54,.int .i64 3),(55,.int .i64 0)] [⟨0,1,true,[.int .i64 p0.at_,A8 [p0],.int .i64 p1.at_,A8 [p1],.int .i64 p2.at_,A8 [p2]]⟩] ?_ ?_
 · (with_reducible repeat' (first|(simp(disch:=omega)only[push_cast,↓zz,seval,n01,n02,n12])|refine And.intro ?_ ?_|(first|refine Ab ?_ ?_|refine Aa ?_ ?_)<;>intro hc<;>(try simp only[push_cast] at hc)|omega|intro _))
   all_goals (simp only[Cd,n01,n02,n12];done)
 (with_reducible repeat' (first|(simp(disch:=omega)only[push_cast,↓zz,seval,B6,B5,hg,n01,n02,n12])|refine And.intro ?_ ?_|(first|refine Ab ?_ ?_|refine Aa ?_ ?_)<;>intro hc<;>(try simp only[push_cast] at hc)|refine Ak ?_|refine eQ T1 ?_|refine eQ P1 ?_|refine eK T1 ?_|refine eK P1 ?_|refine eQ T2 ?_|refine eQ P2 ?_|refine eK T2 ?_|refine eK P2 ?_|refine eQ T3 ?_|refine eQ P3 ?_|refine eK T3 ?_|refine eK P3 ?_|refine eK hF ?_|refine eK hL ?_|omega|intro _))
 all_goals ((try simp only[*,decide_true,decide_false,Bool.true_and,Bool.false_and]);(repeat' (first|(simp(disch:=omega)only[push_cast,↓zz,seval,Cf])|omega|(with_reducible refine And.intro ?_ ?_))))
theorem ze4 (bs dr tk up sm:Int) (p0 p1 p2:Part) (sets:List (List Span)) (hs:B4 sm=true) (hS:Ci [p0,p1,p2] sets) :
   PC Try.prog 60 [B0 ⟨bs,dr,tk,up,sm,[p0,p1,p2]⟩,Al sets] (.tup [Ah (Aw ⟨bs,dr,tk,up,sm,[p0,p1,p2]⟩ sets),.bool (B5 (Aw ⟨bs,dr,tk,up,sm,[p0,p1,p2]⟩ sets))]):=by
 rcases Classical.em (p1.at_=p0.at_) with e1|x01
 · skip
   rcases Classical.em (p2.at_=p0.at_) with e2|x02
   · skip
     exact z4s bs dr tk up sm p0 p1 p2 sets hs hS e1 e2
   have n02:¬p0.at_=p2.at_:=fun h=>x02 h.symm;exact z4t bs dr tk up sm p0 p1 p2 sets hs hS e1 n02
 have n01:¬p0.at_=p1.at_:=fun h=>x01 h.symm;rcases Classical.em (p2.at_=p0.at_) with e2|x02
 · skip
   exact z4u bs dr tk up sm p0 p1 p2 sets hs hS e2 n01
 have n02:¬p0.at_=p2.at_:=fun h=>x02 h.symm;rcases Classical.em (p2.at_=p1.at_) with e2|x12
 · skip
   exact z4v bs dr tk up sm p0 p1 p2 sets hs hS e2 n01
 have n12:¬p1.at_=p2.at_:=fun h=>x12 h.symm;exact z4w bs dr tk up sm p0 p1 p2 sets hs hS n01 n02 n12
end Go.Proofs.Ytbcjoeadpjfcfaa
