/-
  Parts of the proof that the law holds whatever the input; without conditions.
-/
import Derived.Shelf.SlSortCmp.WholeK
import Derived.Shelf.SlicesG.Cmp
import Derived.Shelf.Small.Bits
import Derived.Ground.SlsfProg
import Derived.Ground.SlgcProg
import Derived.Ground.NamesProg
import Derived.Test.YtbcjoeadpjfcfaaGreatProg
import Derived.Test.YtbcjoeadpjfcfaaGreatRA4
import Derived.Test.YtbcjoeadpjfcfaaGreatRA3
import Derived.Test.YtbcjoeadpjfcfaaGreatRA5
namespace Go.Proofs
open Go.Shelf
def Tryz.sortSp_ren:Go.Shelf.Ren:=⟨fun|6=>190|15=>139|14=>198|28=>162|29=>163|20=>205|21=>206|22=>207|23=>208|24=>209|25=>210|26=>211|27=>212|46=>213|47=>177|48=>178|49=>214|50=>215|57=>216|n=>n,fun|22=>79|24=>78|25=>228|3=>3|39=>187|0=>0|53=>205|55=>207|4=>4|46=>199|45=>198|50=>32|5=>5|9=>9|66=>216|70=>220|76=>224|77=>84|n=>n,fun|n=>n⟩
theorem Tryz.sortSp:Go.Proofs.SlLaysF0.n6 Tryz.prog Tryz.sortSp_ren:={
 mixed:=by kernel_rfl
 f6:=⟨Tryz.f190.name,by decide,Tryz.func190.trans (congrArg some (by kernel_rfl))⟩
 f14:=⟨Tryz.f198.name,by decide,Tryz.func198.trans (congrArg some (by kernel_rfl))⟩
 f15:=Tryz.func139.trans (congrArg some (by kernel_rfl))
 f20:=⟨Tryz.f205.name,by decide,Tryz.func205.trans (congrArg some (by kernel_rfl))⟩
 f21:=⟨Tryz.f206.name,by decide,Tryz.func206.trans (congrArg some (by kernel_rfl))⟩
 f22:=⟨Tryz.f207.name,by decide,Tryz.func207.trans (congrArg some (by kernel_rfl))⟩
 f23:=⟨Tryz.f208.name,by decide,Tryz.func208.trans (congrArg some (by kernel_rfl))⟩
 f24:=⟨Tryz.f209.name,by decide,Tryz.func209.trans (congrArg some (by kernel_rfl))⟩
 f25:=⟨Tryz.f210.name,by decide,Tryz.func210.trans (congrArg some (by kernel_rfl))⟩
 f26:=⟨Tryz.f211.name,by decide,Tryz.func211.trans (congrArg some (by kernel_rfl))⟩
 f27:=⟨Tryz.f212.name,by decide,Tryz.func212.trans (congrArg some (by kernel_rfl))⟩
 f28:=Tryz.func162.trans (congrArg some (by kernel_rfl))
 f29:=Tryz.func163.trans (congrArg some (by kernel_rfl))
 f46:=⟨Tryz.f213.name,by decide,Tryz.func213.trans (congrArg some (by kernel_rfl))⟩
 f47:=Tryz.func177.trans (congrArg some (by kernel_rfl))
 f48:=Tryz.func178.trans (congrArg some (by kernel_rfl))
 f49:=⟨Tryz.f214.name,by decide,Tryz.func214.trans (congrArg some (by kernel_rfl))⟩
 f50:=⟨Tryz.f215.name,by decide,Tryz.func215.trans (congrArg some (by kernel_rfl))⟩
 f57:=⟨Tryz.f216.name,by decide,Tryz.func216.trans (congrArg some (by kernel_rfl))⟩
 t0:=Tryz.underlying0
 a0:=Tryz.isAgg0
 z0:=Tryz.sizeOf0
 v0:=Tryz.zeroValue0
 t3:=Tryz.underlying3
 a3:=Tryz.isAgg3
 z3:=Tryz.sizeOf3
 v3:=Tryz.zeroValue3
 t4:=Tryz.underlying4
 a4:=Tryz.isAgg4
 z4:=Tryz.sizeOf4
 v4:=Tryz.zeroValue4
 t5:=Tryz.underlying5
 a5:=Tryz.isAgg5
 z5:=Tryz.sizeOf5
 v5:=Tryz.zeroValue5
 t9:=Tryz.underlying9
 a9:=Tryz.isAgg9
 z9:=Tryz.sizeOf9
 v9:=Tryz.zeroValue9
 t22:=Tryz.underlying79
 a22:=Tryz.isAgg79
 z22:=Tryz.sizeOf79
 v22:=Tryz.zeroValue79
 t25:=Tryz.underlying228
 a25:=Tryz.isAgg228
 z25:=Tryz.sizeOf228
 v25:=Tryz.zeroValue228
 t39:=Tryz.underlying187
 a39:=Tryz.isAgg187
 z39:=Tryz.sizeOf187
 v39:=Tryz.zeroValue187
 t45:=Tryz.underlying198
 a45:=Tryz.isAgg198
 z45:=Tryz.sizeOf198
 v45:=Tryz.zeroValue198
 t46:=Tryz.underlying199
 a46:=Tryz.isAgg199
 z46:=Tryz.sizeOf199
 v46:=Tryz.zeroValue199
 t50:=Tryz.underlying32
 a50:=Tryz.isAgg32
 z50:=Tryz.sizeOf32
 v50:=Tryz.zeroValue32
 t53:=Tryz.underlying205
 a53:=Tryz.isAgg205
 z53:=Tryz.sizeOf205
 v53:=Tryz.zeroValue205
 t55:=Tryz.underlying207
 a55:=Tryz.isAgg207
 z55:=Tryz.sizeOf207
 v55:=Tryz.zeroValue207
 t66:=Tryz.underlying216
 a66:=Tryz.isAgg216
 z66:=Tryz.sizeOf216
 v66:=Tryz.zeroValue216
 t70:=Tryz.underlying220
 a70:=Tryz.isAgg220
 z70:=Tryz.sizeOf220
 v70:=Tryz.zeroValue220
 t76:=Tryz.underlying224
 a76:=Tryz.isAgg224
 z76:=Tryz.sizeOf224
 v76:=Tryz.zeroValue224
 t77:=Tryz.underlying84
 a77:=Tryz.isAgg84
 z77:=Tryz.sizeOf84
 v77:=Tryz.zeroValue84 }
def Tryz.cmpSp_ren:Go.Shelf.Ren:=⟨fun|5=>192|7=>199|n=>n,fun|22=>3|3=>3|4=>4|n=>n,fun|n=>n⟩
theorem Tryz.cmpSp:Go.Proofs.SlLaysC2.n5 Tryz.prog Tryz.cmpSp_ren:={
 mixed:=by kernel_rfl
 f5:=⟨Tryz.f192.name,by decide,Tryz.func192.trans (congrArg some (by kernel_rfl))⟩
 f7:=⟨Tryz.f199.name,by decide,Tryz.func199.trans (congrArg some (by kernel_rfl))⟩
 t3:=Tryz.underlying3
 a3:=Tryz.isAgg3
 z3:=Tryz.sizeOf3
 v3:=Tryz.zeroValue3
 t4:=Tryz.underlying4
 a4:=Tryz.isAgg4
 z4:=Tryz.sizeOf4
 v4:=Tryz.zeroValue4
 t22:=Tryz.underlying3
 a22:=Tryz.isAgg3
 z22:=Tryz.sizeOf3
 v22:=Tryz.zeroValue3 }
end Go.Proofs
set_option linter.unusedSimpArgs false
set_option linter.unusedVariables false
namespace Go.Proofs.YtbcjoeadpjfcfaaGreat
open Abs Go.Shelf Go.RowKit Go.Lib Go.Sort
def Qy (x:Span):List Value:=[.int .i64 x.lo,.int .i64 x.hi]
def Ze (x y:Span):Int:=Lib.compareInt x.lo y.lo
theorem ltLo (x y:Span):ltOf Ze x y=decide (x.lo<y.lo):=by
 unfold ltOf Ze Lib.compareInt;by_cases h1:x.lo<y.lo
 · simp[h1]
 · by_cases h2:y.lo<x.lo<;>simp[h1,h2]
theorem swoLo:SWO (ltOf Ze) where
 irrefl x:=by rw[ltLo];simp
 trans x y z h1 h2:=by rw[ltLo] at *;simp at *;omega
 ntrans x y z h1 h2:=by rw[ltLo] at *;simp at *;omega
set_option maxHeartbeats 1000000 in
theorem z8i (x y:Span) (W:World):Calls Tryz.prog 191 #[.agg #[.int .i64 x.lo,.int .i64 x.hi],.agg #[.int .i64 y.lo,.int .i64 y.hi]] W fun e w'=>e=.returned (.int .i64 (Ze x y))∧∃ q os',w'=grow (W.drewN q) os':=by
 have hcon:=fun W'=>AnyG.cmp_Compare_int Tryz.cmpSp x.lo y.lo W';change ∀ W',Calls Tryz.prog 192 _ _ _ at hcon;unfold Ze;generalize Lib.compareInt x.lo y.lo=r at hcon ⊢
 go_enter Tryz.func191,Tryz.ntmps191
 go_wp2_with (go_at_call 192;refine (hcon _).mono ?_;rintro e w' ⟨rfl,rfl⟩)
 go_ret
 exact⟨rfl,0,_,by rw[alloc_eq_grow,alloc_eq_grow,grow_grow];rfl⟩
theorem z8j (blk off size:Nat) (w:World):CmpLays Tryz.prog 191 #[] Qy 2 Ze blk off size w :=
 fun _ _ _ _ x y=>z8i x y _
theorem zu0:∀ w,(isAgg (Tryz.sortSp_ren.t 24)).run Tryz.prog w=.ok true w:=Tryz.isAgg78
theorem zpo:∀ w,(Go.sizeOf (Tryz.sortSp_ren.t 24)).run Tryz.prog w=.ok 2 w:=Tryz.sizeOf78
theorem Ad.split {S:MS}:∀ {xs ys:List AV} {vs:List Value},Ad S (xs++ys) vs→∃ v1 v2,vs=v1++v2∧Ad S xs v1∧Ad S ys v2
 | [],ys,vs,h=>⟨[],vs,rfl,rfl,h⟩
 | x::xs,ys,vs,⟨v,r,hv,h1,h2⟩=>by
   obtain⟨v1,v2,rfl,h3,h4⟩:=Ad.split h2;exact⟨v::v1,v2,by rw[hv];rfl,⟨v,v1,rfl,h1,h3⟩,h4⟩
abbrev Hc (x:Span):Value:=.agg #[.int .i64 x.lo,.int .i64 x.hi]
theorem Tw {S:MS}:∀ {l:List Span} {vs:List Value},Ad S (l.map B3) vs→vs=l.map Hc
 | [],vs,h=>h
 | x::l,vs,⟨v,r,hv,h1,h2⟩=>by
   obtain⟨ws,rfl,a,r1,rfl,rfl,c,r2,rfl,rfl,rfl⟩:=h1;rw[hv,Tw h2];rfl
theorem Tx {S:MS}:∀ (l:List Span),Ad S (l.map B3) (l.map Hc)
 | []=>rfl
 | x::l=>⟨_,_,rfl,⟨_,rfl,_,_,rfl,rfl,_,_,rfl,rfl,rfl⟩,Tx l⟩
theorem U2 (d:Array Span) (i j:Nat) (hi:i<d.size) (hj:j<2):(flatK Qy 2 d)[i * 2+j]! = (Qy d[i]!)[j]! := by
 rw[get_flatK _ _ _ _ (by omega),show (i * 2+j) / 2=i from by omega,show (i * 2+j) % 2=j from by omega]
theorem zii {w:World} {b:Nat} {cells:Array Value} {T:TypeId} {l:List Span} (hb:w.heap[b]? = some (.cells cells T (0,0))) {vr:List Value} (hf:Fs cells 2 (l.map Hc++vr)):HoldsK Qy 2 w b 0 l.toArray:=by
 intro j hj;rw[size_flatK,List.size_toArray] at hj;have hi:j / 2<l.length:=by omega
 have he:(l.map Hc++vr)[j / 2]? = some (Hc l[j / 2]):=by rw[List.getElem?_append_left (by simpa using hi)];simp[hi]
 obtain⟨_,_,h3⟩:=hf _ _ he;have h4:=h3 (j % 2) (by omega);rw[show j / 2 * 2+j % 2=j from by omega] at h4;have h5:=U2 l.toArray (j / 2) (j % 2) (by simpa using hi) (by omega);rw[show j / 2 * 2+j % 2=j from by omega] at h5;refine⟨?_,?_⟩
 · simp only[World.cell?,hb,Nat.zero_add,Option.isSome_none,Bool.false_eq_true,if_false,h4,id,h5]
   have hg:l.toArray[j / 2]! = l[j / 2]:=by simp[hi]
   rw[hg];rcases Nat.mod_two_eq_zero_or_one j with h|h<;>rw[h]<;>simp[Hc,Value.cells,Qy]
 · simp[World.frozen?,hb]
theorem zpp {w:World} {b n:Nat} {cells:Array Value} {T:TypeId} {d:Array Span} {os:Array Obj} (hb:w.heap[b]? = some (.cells cells T (0,0))) (hsz:d.size * 2≤cells.size) {v0 vr:List Value} (h0:v0.length=d.size) (hf:Fs cells 2 (v0++vr)) :
   ∃ cells',(sortWorldK Qy 2 w b 0 n d os).heap[b]? = some (.cells cells' T (0,0))∧cells'.size=cells.size∧Fs cells' 2 (d.toList.map Hc++vr):=by
 have hlt:b<w.heap.size:=(Array.getElem?_eq_some_iff.1 hb).1;refine⟨putCells id 0 (flatK Qy 2 d) cells,?_,by simp[putCells],fun i v hv=>?_⟩
 · show ((w.heap.modify b _)++os)[b]? = _
   rw[Array.getElem?_append_left (by rw[Array.size_modify];exact hlt),Array.getElem?_modify,if_pos rfl,hb];rfl
 · rcases Nat.lt_or_ge i d.size with hid|hid
   case inr =>
     rw[List.getElem?_append_right (by simpa using hid)] at hv;obtain⟨g1,g2,g3⟩:=hf i v (by rw[List.getElem?_append_right (by omega),h0];simpa using hv);refine⟨g1,g2,fun j hj=>?_⟩;rw[←g3 j hj,putCells,Array.getElem?_mapIdx];cases hc:cells[i * 2+j]? with
     | none=>rfl
     | some c =>
       simp only[Option.map_some,Nat.zero_le,true_and,Nat.zero_add,size_flatK];rw[if_neg (by omega)]
   rw[List.getElem?_append_left (by simpa using hid),List.getElem?_map] at hv;obtain⟨x,hx,rfl⟩:=Option.map_eq_some_iff.1 hv;have hi:i<d.size:=by have:=(List.getElem?_eq_some_iff.1 hx).1;simpa using this
   refine⟨rfl,fun c hc=>?_,fun j hj=>?_⟩
   · simp[Hc,Value.cells] at hc
     rcases hc with rfl|rfl<;>rfl
   · have h5:=U2 d i j hi hj
     have hlt2:i * 2+j<cells.size:=by omega
     have hd:d[i]! = x:=by
       rw[Array.getElem?_toList] at hx;rw[getElem!_pos d i hi];exact (Array.getElem?_eq_some_iff.1 hx).2
     rw[putCells,Array.getElem?_mapIdx,Array.getElem?_eq_getElem hlt2];simp only[Option.map_some,Nat.zero_le,true_and,Nat.zero_add,size_flatK,Nat.sub_zero];rw[if_pos (by omega),h5,hd];rcases (by omega:j=0∨j=1) with rfl|rfl<;>simp[Hc,Value.cells,Qy]
def L9 (l:List Span):Prop:=l.Pairwise fun a b=>a.lo≤b.lo
theorem zdc {d:Array Span} (h:SortedIn (ltOf Ze) 0 d.size d):L9 d.toList:=by
 rw[L9,List.pairwise_iff_getElem];intro i j hi hj hij;have hi':i<d.size:=by simpa using hi
 have hj':j<d.size:=by simpa using hj
 have:=h i j (Nat.zero_le _) hij hj';rw[ltLo,getElem!_pos d j hj',getElem!_pos d i hi'] at this;simp at this;simpa using this
theorem zpq {H:Ac} {g ver:Nat} {ex:Bool} {l:List Span} {rest:List AV} (hg:g<H.n) (hG:H.at_ g=⟨2,ver,ex,l.map B3++rest⟩) (h1:l≠[]) (hl:l.length<4611686018427387904) :
   Be Tryz.prog 190 [.ref g ver 0 l.length,.fn 191 []] H fun y H'=>y=.tup []∧∃ l':List Span,l'.Perm l∧L9 l'∧H'=H.set g ⟨2,ver,ex,l'.map B3++rest⟩:=by
 have eg:∀ args w,(callFunc 191 args).run Tryz.prog w=.ok (.enter 191 args) w:=enters_of Tryz.func191 (by kernel_rfl) rfl;refine⟨enters_of Tryz.func190 (by kernel_rfl) rfl,fun S cargs hS hx=>?_⟩;obtain⟨v1,r1,rfl,⟨_,hgn,_,hv1⟩,v2,r2,rfl,⟨lb,rfl,rfl⟩,rfl⟩:=hx;have hgr:=hS.grp g hg;rw[hG] at hgr;obtain⟨a,cap',rfl,hcase⟩:=hv1 hgr.ver;have hpos:0<l.length:=by cases l;exact absurd rfl h1;simp
 obtain⟨rfl,rfl,hcap⟩:=hcase.resolve_right (fun h=>by omega);have hlen:l.length+rest.length≤S.cap g:=by have:=hgr.len (show 0<2 by decide);simpa using this
 obtain⟨⟨cells,T,vs,b1,b2,b3,b4⟩,hni⟩:=hgr.live (show 0<2 by decide) (by omega);obtain⟨vs1,vr,hvv,b31,b32⟩:=Ad.split b3;have hvs:=Tw b31;subst hvs;subst hvv;have b2':cells.size=S.cap g * 2:=b2;have hblk:S.place g<S.w.heap.size:=(Array.getElem?_eq_some_iff.1 b1).1;have hcon:=AnyQ.slices_SortFunc Tryz.sortSp 2 zu0 zpo Qy (fun _=>rfl) (fun x v hv=>by simp[Qy] at hv;rcases hv with rfl|rfl<;>rfl) Ze swoLo 191 #[] (S.place g) 0 (S.cap g-0) l.toArray S.w eg (z8j _ _ _ _) (zii b1 b4) hblk (by simpa using hl);change Calls Tryz.prog 190 _ _ _ at hcon;rw[List.size_toArray] at hcon;rw[Nat.zero_mul];refine hcon.mono fun e w' ⟨he,d',n,os,hp,hs,hw'⟩=>?_;subst he hw';obtain⟨q1,q2,q3⟩:=hp;have q1:d'.size=l.length:=by simpa using q1
 have hperm:d'.toList.Perm l:=by
   rw[Array.toList_extract,Array.toList_extract] at q3;simpa [List.extract,q1,List.take_of_length_le (show d'.toList.length≤l.length by simp[q1])] using q3
 rw[←q1] at hs;obtain⟨cells',c1,c2,c3⟩:=zpp (n:=n) (d:=d') (os:=os) b1 (by omega) (v0:=l.map Hc) (by simp[q1]) b4
 have hh:=hS.moved hg (by rw[hG];exact (show 0<2 by decide)) (sortWorldK Qy 2 S.w (S.place g) 0 n d' os) (S.place g) (S.cap g) ⟨2,ver,ex,d'.toList.map B3++rest⟩ rfl ⟨rfl,Nat.le_add_right _ _⟩ rfl
   (by show _≤((S.w.heap.modify _ _)++os).size;rw[Array.size_append,Array.size_modify];omega)
   (fun b hb hlt=>by
     show ((S.w.heap.modify _ _)++os)[b]? = _
     rw[Array.getElem?_append_left (by rw[Array.size_modify];exact hlt),Array.getElem?_modify,if_neg (fun hh=>hb ⟨by omega,hh.symm⟩)])
   (.inl ⟨by omega,rfl⟩) (fun _=>⟨cells',T,_,c1,by rw[c2];exact b2',(Tx _).append b32,c3⟩) (by simpa [q1] using hlen)
   (fun hx=>by have:=hgr.full (show 0<2 by decide) hx;simp at this;simp[q1];exact this) (show 0<2 by decide) (by rw[hgr.ver];exact Nat.le_refl _) (fun _=>⟨rfl,rfl,by rw[hgr.wid]⟩)
 exact⟨_,_,.tup [],_,rfl,rfl,hh.1,hh.2,⟨[],rfl,rfl⟩,rfl,d'.toList,hperm,zdc hs,rfl⟩
theorem zij {l:List Span} {k:Nat} (h:k<l.length):inN (l.take (k+1))=inN (l.take k)++(if (Kz (nth l k)).lo≤(Kz (nth l k)).hi then [Kz (nth l k)] else []):=by
 rw[take_at h,inN,inN,List.map_append,List.filter_append];congr 1;simp only[List.map_cons,List.map_nil,List.filter_cons,List.filter_nil,decide_eq_true_eq]
theorem zik (m r:List Span) (hm:m.length<4611686018427387904):Be Tryz.prog 190 [.ref 0 1 0 m.length,.fn 191 []] (Abs.hl [⟨2,1,true,(m++r).map B3⟩]) fun y H'=>y=.tup []∧∃ m':List Span,m'.Perm m∧L9 m'∧H'=Abs.hl [⟨2,1,true,(m'++r).map B3⟩]:=by
 by_cases h:m=[]
 · subst h
   refine (sort0 r).mono ?_;rintro y H' ⟨rfl,rfl⟩;exact⟨rfl,[],List.Perm.refl _,List.Pairwise.nil,rfl⟩
 · refine (zpq (H:=Abs.hl [⟨2,1,true,(m++r).map B3⟩]) (g:=0) (ver:=1) (ex:=true) (l:=m) (rest:=r.map B3) (by show 0<1;decide) (by rw[←List.map_append];rfl) h hm).mono ?_
   rintro y H' ⟨rfl,m',h1,h2,rfl⟩;refine⟨rfl,m',h1,h2,?_⟩;rw[G3 _ _ _ (by show 0<1;decide),←List.map_append];rfl
abbrev zil:Span:=⟨0,0⟩
def Qz (m:List Span) (n:Nat):List Span:=m++List.replicate (n-m.length) zil
theorem zdd {m:List Span} {n:Nat} (h:m.length≤n):(Qz m n).length=n:=by simp[Qz];omega
theorem zde {m:List Span} {n:Nat} (h:m.length<n) (s:Span):(Qz m n).take m.length++[s]++(Qz m n).drop (m.length+1)=Qz (m++[s]) n:=by
 simp only[Qz];rw[List.take_append_of_le_length (Nat.le_refl _),List.take_length,List.drop_append,List.drop_of_length_le (by omega),List.nil_append,show m.length+1-m.length=1 from by omega,List.drop_replicate];simp only[List.length_append,List.length_singleton,Nat.sub_sub]
def mixS (out s:List Span):List Span:=out++s.drop out.length
theorem zim {out s:List Span} (h:out.length≤s.length):(mixS out s).length=s.length:=by simp[mixS];omega
theorem zin {out s:List Span} (h:out.length<s.length) (x:Span):(mixS out s).take out.length++[x]++(mixS out s).drop (out.length+1)=mixS (out++[x]) s:=by
 simp only[mixS];rw[List.take_append_of_le_length (Nat.le_refl _),List.take_length,List.drop_append,List.drop_of_length_le (by omega),List.nil_append,show out.length+1-out.length=1 from by omega,List.drop_drop];simp
theorem zpr {out s:List Span} {j:Nat} (h1:out.length≤j):nth (mixS out s) j=nth s j:=by
 simp only[nth,mixS,List.getD_eq_getElem?_getD];rw[List.getElem?_append_right h1,List.getElem?_drop,show out.length+(j-out.length)=j from by omega]
theorem zdf {mm s:List Span} {y:Span}:nth (mixS (mm++[y]) s) mm.length=y:=by
 simp[nth,mixS,List.getD_eq_getElem?_getD]
theorem z5t (s:List Span):mixS [] s=s:=by simp[mixS]
theorem zio {mm s:List Span} {y z:Span}:((mixS (mm++[y]) s).map B3).set mm.length (B3 z)=(mixS (mm++[z]) s).map B3:=by
 simp[mixS]
theorem z2a {l m:List Span} (hp:m.Perm (inN l)) (hs:L9 m) (j:Nat):∀ s∈(m.take j).foldl C9 [],-1073741824≤s.lo∧s.lo≤s.hi∧s.hi≤1073741824:=by
 have hok:∀ s∈m,s.lo≤s.hi:=fun s h=>z5k s (hp.mem_iff.1 h);obtain⟨a1,a2⟩:=Hs (m.take j) [] ⟨by simp,by simp⟩ (fun s h=>hok s (List.mem_of_mem_take h)) (List.Pairwise.sublist (List.take_sublist j m) hs) (fun s _ t ht=>by cases ht);intro s hsm;have hle:=a1.1 s hsm
 have key:∀ v,memL ((m.take j).foldl C9 []) v→-1073741824≤v∧v≤1073741824:=fun v hv=>by
   rcases (a2 v).1 hv with h|⟨t,ht,h1,h2⟩
   · exact absurd h (Bj _)
   · exact (zcq.1 ⟨t,hp.mem_iff.1 (List.mem_of_mem_take ht),h1,h2⟩).2
 have k1:=key s.lo ⟨s,hsm,Int.le_refl _,hle⟩;have k2:=key s.hi ⟨s,hsm,hle,Int.le_refl _⟩;omega
theorem M8 (l:List Span) (hl:l.length≤1000000000000):Be Tryz.prog 181 [Aj l] (Abs.hl []) fun y H'=>∃ rest:List Span,y=.ref 0 1 0 (A5 l).length∧H'=Abs.hl [⟨2,1,true,(A5 l++rest).map B3⟩]:=by
 refine z4t (b:=0) z1k rfl ?_;unfold Qn;(with_reducible repeat' (first|(simp(disch:=omega)only[push_cast,↓zz,seval])|refine And.intro ?_ ?_|(first|refine Ab ?_ ?_|refine Aa ?_ ?_)<;>intro hc<;>(try simp only[push_cast] at hc)|omega|intro _))
 refine Ax (A8 (fun (k:Nat)=>k≤l.length) (fun k=>l.length-k) (fun k=>[(3,.ref 0 1 0 (inN (l.take k)).length),(13,Aj l),(14,.int .i64 l.length),(15,.int .i64 k)])
   (fun k=>[⟨2,1,true,(Qz (inN (l.take k)) l.length).map B3⟩]) (fun env _=>[Bm 2 (env 3)]) 0 (by simp) ?_ ?_)
 · have h0:(List.replicate l.length (AV.agg [AV.int IntKind.i64 0,AV.int IntKind.i64 0]))=(Qz [] l.length).map B3:=by simp[Qz]
   have h1:inN ([]:List Span)=[]:=rfl;(with_reducible repeat' (first|(simp(disch:=omega)only[push_cast,↓zz,seval,h0,h1,Dm])|refine And.intro ?_ ?_|(first|refine Ab ?_ ?_|refine Aa ?_ ?_)<;>intro hc<;>(try simp only[push_cast] at hc)|omega|intro _))
 intro k hk;have hlen:(inN (l.take k)).length≤k:=by have:=z1r (l.take k);simp at this;omega
 have hr:=zdd (m:=inN (l.take k)) (n:=l.length) (by omega);rcases Nat.lt_or_ge k l.length with hkl|hkl
 · have hE:((Qz (inN (l.take k)) l.length).map B3).isEmpty=false:=by
     cases hq:Qz (inN (l.take k)) l.length with
     | nil=>rw[hq] at hr;simp at hr;omega
     | cons _ _=>rfl
   have ht:=zij hkl;refine W_T ?_;(with_reducible repeat' (first|(simp(disch:=omega)only[push_cast,↓zz,seval,hr,hE])|refine And.intro ?_ ?_|(first|refine Ab ?_ ?_|refine Aa ?_ ?_)<;>intro hc<;>(try simp only[push_cast] at hc)|omega|intro _))
   · rw[if_pos (show (Kz (nth l k)).lo≤(Kz (nth l k)).hi from hc)] at ht
     refine⟨k+1,⟨⟨by rw[ht];simp,by simp⟩,?_⟩,by omega,by omega⟩;rw[ht,←zde (show (inN (l.take k)).length<l.length by omega) (Kz (nth l k))];simp only[List.map_append,List.map_cons,List.map_nil,List.append_assoc,List.singleton_append];exact Bf _ _
   · rw[if_neg (show ¬(Kz (nth l k)).lo≤(Kz (nth l k)).hi from hc),List.append_nil] at ht
     refine⟨k+1,⟨⟨by rw[ht],by simp⟩,?_⟩,by omega,by omega⟩;rw[ht];exact Bf _ _
 · obtain rfl:k=l.length:=by omega
   refine W_T ?_;(with_reducible repeat' (first|(simp(disch:=omega)only[push_cast,↓zz,seval,hr])|refine And.intro ?_ ?_|(first|refine Ab ?_ ?_|refine Aa ?_ ?_)<;>intro hc<;>(try simp only[push_cast] at hc)|omega|intro _));rw[List.take_length] at *;refine Be.mono (zik (inN l) (List.replicate (l.length-(inN l).length) zil) (by omega)) ?_;rintro y H' ⟨rfl,m',hp,hs,rfl⟩;have hpl:=hp.length_eq;have hrl:(List.replicate (l.length-(inN l).length) zil).length≤l.length:=by simp
   generalize List.replicate (l.length-(inN l).length) zil=rest at *;rw[←zi5 hp hs,←hpl];have hml:m'.length≤1000000000000:=by have:=z1r l;omega
   (with_reducible repeat' (first|(simp(disch:=omega)only[push_cast,↓zz,seval])|refine And.intro ?_ ?_|(first|refine Ab ?_ ?_|refine Aa ?_ ?_)<;>intro hc<;>(try simp only[push_cast] at hc)|omega|intro _));have hfl:∀ j,((m'.take j).foldl C9 []).length≤j:=fun j=>by have:=Vz (m'.take j) [];simp at this;omega
   have hmr:∀ j,j≤m'.length→(mixS ((m'.take j).foldl C9 []) (m'++rest)).length=m'.length+rest.length:=fun j hj=>by rw[zim (by have:=hfl j;simp;omega)];simp
   refine Ax (A8 (fun (j:Nat)=>j≤m'.length) (fun j=>m'.length-j) (fun j=>[(6,.ref 0 1 0 ((m'.take j).foldl C9 []).length),(41,.ref 0 1 0 m'.length),(42,.int .i64 m'.length),(43,.int .i64 j)])
     (fun j=>[⟨2,1,true,(mixS ((m'.take j).foldl C9 []) (m'++rest)).map B3⟩]) (fun env _=>[Bm 2 (env 6)]) 0 (by simp) ?_ ?_)
   · (with_reducible repeat' (first|(simp(disch:=omega)only[push_cast,↓zz,seval,z5t,Dm,List.foldl_nil])|refine And.intro ?_ ?_|(first|refine Ab ?_ ?_|refine Aa ?_ ?_)<;>intro hc<;>(try simp only[push_cast] at hc)|omega|intro _))
   intro j hj;have hlj:=hmr j hj;have hfj:=hfl j;rcases Nat.lt_or_ge j m'.length with hjm|hjm
   · have hstep:(m'.take (j+1)).foldl C9 []=C9 ((m'.take j).foldl C9 []) (nth m' j):=by rw[take_at hjm,List.foldl_append];rfl
     have hat:=zpr (s:=m'++rest) hfj;have hat2:nth (m'++rest) j=nth m' j:=by simp[nth,List.getD_eq_getElem?_getD,List.getElem?_append_left hjm]
     rw[hat2] at hat;have hbd:=z2a hp hs j
     have hE:((mixS ((m'.take j).foldl C9 []) (m'++rest)).map B3).isEmpty=false:=by
       cases hq:mixS ((m'.take j).foldl C9 []) (m'++rest) with
       | nil=>rw[hq] at hlj;simp at hlj;omega
       | cons _ _=>rfl
     generalize (m'.take j).foldl C9 []=out at *;rcases Fx out with rfl|⟨mm,y,rfl⟩
     · refine W_T ?_
       (with_reducible repeat' (first|(simp(disch:=omega)only[push_cast,↓zz,seval,hlj,hat,hE])|refine And.intro ?_ ?_|(first|refine Ab ?_ ?_|refine Aa ?_ ?_)<;>intro hc<;>(try simp only[push_cast] at hc)|omega|intro _));refine⟨j+1,⟨⟨by rw[hstep];simp[Fw],by simp⟩,?_⟩,by omega,by omega⟩;rw[hstep,Fw,z5t];exact Bf _ _
     · rw[Ky] at hstep
       have hmm:mm.length+1≤j:=by simpa using hfj
       have hw:IntKind.i64.wrap (mm.length:Int)=mm.length:=IntWalk.i64_in _ (by omega);have hy:=hbd y (by simp);have hwy:IntKind.i64.wrap (y.hi+1)=y.hi+1:=IntWalk.i64_in _ (by omega);have hset:=zio (mm:=mm) (s:=m'++rest) (y:=y) (z:=⟨y.lo,max y.hi (nth m' j).hi⟩);refine W_T ?_;(with_reducible repeat' (first|(simp(disch:=omega)only[push_cast,↓zz,seval,hlj,hat,zdf,hE,hw,hwy,hset,Dm])|refine And.intro ?_ ?_|(first|refine Ab ?_ ?_|refine Aa ?_ ?_)<;>intro hc<;>(try simp only[push_cast] at hc)|omega|intro _))
       · rw[if_pos hc] at hstep
         refine⟨j+1,⟨⟨by rw[hstep];simp,by simp⟩,?_⟩,by omega,by omega⟩;rw[hstep];exact Bf _ _
       · rw[if_neg hc] at hstep
         refine⟨j+1,⟨⟨by rw[hstep];simp,by simp⟩,?_⟩,by omega,by omega⟩;rw[hstep,←zin (show (mm++[y]).length<(m'++rest).length by simp;omega) (nth m' j)];simp only[List.map_append,List.map_cons,List.map_nil,List.append_assoc,List.singleton_append,List.length_append,List.length_singleton];exact Bf _ _
   · obtain rfl:j=m'.length:=by omega
     rw[List.take_length] at *;refine W_T ?_;(with_reducible repeat' (first|(simp(disch:=omega)only[push_cast,↓zz,seval,hlj])|refine And.intro ?_ ?_|(first|refine Ab ?_ ?_|refine Aa ?_ ?_)<;>intro hc<;>(try simp only[push_cast] at hc)|omega|intro _));refine X7 [.grp 0] (.ref 0 1 0 (m'.foldl C9 []).length) [⟨2,1,true,(m'.foldl C9 []++(m'++rest).drop (m'.foldl C9 []).length).map B3⟩] ?_ ⟨_,rfl,rfl⟩;(with_reducible repeat' (first|(simp(disch:=omega)only[push_cast,↓zz,seval])|refine And.intro ?_ ?_|(first|refine Ab ?_ ?_|refine Aa ?_ ?_)<;>intro hc<;>(try simp only[push_cast] at hc)|omega|intro _))
     all_goals (rw[←List.map_append];exact Bf _ _)
theorem Ce (l:List Span) (hl:l.length≤1000000000000):PC Tryz.prog 181 [Aj l] (Aj (A5 l)):=by
 have h:Be Tryz.prog 181 [Aj l] (Abs.hl []) fun y H'=>y=Aj (A5 l)∧H'=Abs.hl []:=by
   refine Px ((M8 l hl).mono ?_);rintro y H' ⟨rest,rfl,rfl⟩;refine X7 [] (Aj (A5 l)) [] ?_ ⟨rfl,rfl⟩;have ht:List.take (A5 l).length ((A5 l).map B3++rest.map B3)=(A5 l).map B3:=List.take_left' (by simp);have hn:(A5 l).length≤(A5 l).length+rest.length:=by omega
   (with_reducible repeat' (first|(simp(disch:=omega)only[push_cast,↓zz,seval,ht,hn])|refine And.intro ?_ ?_|(first|refine Ab ?_ ?_|refine Aa ?_ ?_)<;>intro hc<;>(try simp only[push_cast] at hc)|omega|intro _))
 rw[PC,z4k];exact h
def Gh (x y:Span):Span:=⟨max x.lo y.lo,min x.hi y.hi⟩
def E0:List Span→List Span→List Span
 | x::a,y::b=>(if (Gh x y).lo≤(Gh x y).hi then [Gh x y] else [])++if x.hi<y.hi then E0 a (y::b) else E0 (x::a) b
 | _,_=>[]
termination_by a b=>a.length+b.length
theorem Hd (b:List Span):E0 [] b=[]:=by rw[E0];simp
theorem Gx (a:List Span):E0 a []=[]:=by cases a<;>rw[E0]<;>simp
theorem M9 (x y:Span) (a b:List Span):E0 (x::a) (y::b)=(if (Gh x y).lo≤(Gh x y).hi then [Gh x y] else [])++if x.hi<y.hi then E0 a (y::b) else E0 (x::a) b:=by rw[E0]
theorem Q0 (a b:List Span) (la:a.length≤1000000000000) (lb:b.length≤1000000000000):PC Tryz.prog 182 [Aj a,Aj b] (Aj (E0 (A5 a) (A5 b))):=by
 refine A7 z1l ?_;unfold Qo;(with_reducible repeat' (first|(simp(disch:=omega)only[push_cast,↓zz,seval])|refine And.intro ?_ ?_|(first|refine Ab ?_ ?_|refine Aa ?_ ?_)<;>intro hc<;>(try simp only[push_cast] at hc)|(have q_:=Ce a la;(first|refine eK q_ ?_|refine eQ q_ ?_|refine eG q_ ?_);clear q_)|(have q_:=Ce b lb;(first|refine eK q_ ?_|refine eQ q_ ?_|refine eG q_ ?_);clear q_)|(have q_:=Ce a la;(first|refine cK q_ ?_|refine cQ q_ ?_|refine cG q_ ?_);clear q_;(simp(disch:=omega)only[push_cast,↓zz,seval]);(fail_if_success change False))|(have q_:=Ce b lb;(first|refine cK q_ ?_|refine cQ q_ ?_|refine cG q_ ?_);clear q_;(simp(disch:=omega)only[push_cast,↓zz,seval]);(fail_if_success change False))|omega|intro _));have ha:=Ec a;have hb:=Ec b;generalize A5 a=a0 at *;generalize A5 b=b0 at *
 refine Ax (A8 (fun (s:List Span × List Span × List Span)=>E0 a0 b0=s.2.2++E0 s.1 s.2.1∧s.1.length+s.2.1.length+s.2.2.length≤a0.length+b0.length) (fun s=>s.1.length+s.2.1.length)
   (fun s=>[(0,Aj s.1),(1,Aj s.2.1),(5,.ref 0 1 0 s.2.2.length)]) (fun s=>[⟨2,1,false,s.2.2.map B3⟩]) (fun env _=>[Bm 2 (env 5)]) (a0,b0,[]) (by simp) ?_ ?_)
 · (with_reducible repeat' (first|(simp(disch:=omega)only[push_cast,↓zz,seval])|refine And.intro ?_ ?_|(first|refine Ab ?_ ?_|refine Aa ?_ ?_)<;>intro hc<;>(try simp only[push_cast] at hc)|omega|intro _))
 rintro⟨a',b',out⟩ ⟨h1,h2⟩;simp only at h1 h2;cases a' with
 | nil =>
   rw[Hd,List.append_nil] at h1;rw[h1];refine W_T ?_;(with_reducible repeat' (first|(simp(disch:=omega)only[push_cast,↓zz,seval])|refine And.intro ?_ ?_|(first|refine Ab ?_ ?_|refine Aa ?_ ?_)<;>intro hc<;>(try simp only[push_cast] at hc)|omega|intro _))
 | cons x a' =>
   cases b' with
   | nil =>
     rw[Gx,List.append_nil] at h1;rw[h1];refine W_T ?_;(with_reducible repeat' (first|(simp(disch:=omega)only[push_cast,↓zz,seval])|refine And.intro ?_ ?_|(first|refine Ab ?_ ?_|refine Aa ?_ ?_)<;>intro hc<;>(try simp only[push_cast] at hc)|omega|intro _))
   | cons y b' =>
     rw[M9] at h1;simp only[List.length_cons] at h2;refine W_T ?_;(with_reducible repeat' (first|(simp(disch:=omega)only[push_cast,↓zz,seval,Aj,B3])|refine And.intro ?_ ?_|(first|refine Ab ?_ ?_|refine Aa ?_ ?_)<;>intro hc<;>(try simp only[push_cast] at hc)|omega|intro _))
     · rw[if_pos (show (Gh x y).lo≤(Gh x y).hi from ‹max x.lo y.lo≤min x.hi y.hi›),if_pos hc] at h1
       refine⟨(a',y::b',out++[Gh x y]),⟨⟨rfl,rfl,by simp⟩,?_⟩,⟨by simp[h1],by first|(simp;done)|(simp;omega)⟩,by simp⟩;rw[List.map_append];exact Bf _ _
     · rw[if_pos (show (Gh x y).lo≤(Gh x y).hi from ‹max x.lo y.lo≤min x.hi y.hi›),if_neg hc] at h1
       refine⟨(x::a',b',out++[Gh x y]),⟨⟨rfl,rfl,by simp⟩,?_⟩,⟨by simp[h1],by first|(simp;done)|(simp;omega)⟩,by first|(simp;done)|(simp;omega)⟩;rw[List.map_append];exact Bf _ _
     · rw[if_neg (show ¬(Gh x y).lo≤(Gh x y).hi from ‹¬max x.lo y.lo≤min x.hi y.hi›),if_pos hc,List.nil_append] at h1
       refine⟨(a',y::b',out),⟨⟨rfl,rfl,rfl⟩,Bf _ _⟩,⟨h1,by first|(simp;done)|(simp;omega)⟩,by simp⟩
     · rw[if_neg (show ¬(Gh x y).lo≤(Gh x y).hi from ‹¬max x.lo y.lo≤min x.hi y.hi›),if_neg hc,List.nil_append] at h1
       refine⟨(x::a',b',out),⟨⟨rfl,rfl,rfl⟩,Bf _ _⟩,⟨h1,by first|(simp;done)|(simp;omega)⟩,by first|(simp;done)|(simp;omega)⟩
theorem Jb:∀ (a b:List Span),Plain a→Plain b→Plain (E0 a b)∧∀ v,memL (E0 a b) v↔memL a v∧memL b v
 | [],b,_,_=>by
   rw[Hd];exact⟨⟨by simp,by simp⟩,fun v=>by simp only[Bj,false_and]⟩
 | x::a,[],_,_=>by
   rw[Gx];exact⟨⟨by simp,by simp⟩,fun v=>by simp only[Bj,and_false]⟩
 | x::a,y::b,ha,hb=>by
   have hx:=ha.head;have hy:=hb.head;rw[M9]
   -- what the rest has,begins behind what ends first
   have key:∀ {r:List Span},Plain r→(∀ v,memL r v→min x.hi y.hi+1<v)→Plain ((if (Gh x y).lo≤(Gh x y).hi then [Gh x y] else [])++r)∧∀ v,memL ((if (Gh x y).lo≤(Gh x y).hi then [Gh x y] else [])++r) v↔((x.lo≤v∧v≤x.hi)∧(y.lo≤v∧v≤y.hi))∨memL r v:=by
     intro r hr hv;split
     · rename_i hle
       refine⟨⟨?_,?_⟩,fun v=>?_⟩
       · intro s hs
         rcases List.mem_append.1 hs with hs|hs
         · simp only[List.mem_singleton] at hs;subst hs;exact hle
         · exact hr.1 s hs
       · rw[List.singleton_append,List.pairwise_cons]
         exact⟨fun t ht=>hv t.lo ⟨t,ht,Int.le_refl _,hr.1 t ht⟩,hr.2⟩
       · rw[List.singleton_append,Aq]
         simp only[Gh];constructor
         · rintro (h|h)
           · exact .inl (by omega)
           · exact .inr h
         · rintro (h|h)
           · exact .inl (by omega)
           · exact .inr h
     · rename_i hle
       simp only[Gh] at hle;rw[List.nil_append];refine⟨hr,fun v=>⟨.inr,fun h=>h.resolve_left fun h=>by omega⟩⟩
   by_cases hlt:x.hi<y.hi
   · rw[if_pos hlt]
     obtain⟨p1,p2⟩:=Jb a (y::b) ha.tail hb;obtain⟨q1,q2⟩:=key p1 fun v hv=>by have:=ha.after ((p2 v).1 hv).1;omega
     refine⟨q1,fun v=>?_⟩;rw[q2 v,p2 v,Aq,Aq];constructor
     · rintro (⟨h1,h2⟩|⟨h1,h2⟩)
       · exact⟨.inl h1,.inl h2⟩
       · exact⟨.inr h1,h2⟩
     · rintro⟨h1|h1,h2⟩
       · rcases h2 with h2|h2
         · exact .inl ⟨h1,h2⟩
         · have:=hb.after h2;omega
       · exact .inr ⟨h1,h2⟩
   · rw[if_neg hlt]
     obtain⟨p1,p2⟩:=Jb (x::a) b ha hb.tail;obtain⟨q1,q2⟩:=key p1 fun v hv=>by have:=hb.after ((p2 v).1 hv).2;omega
     refine⟨q1,fun v=>?_⟩;rw[q2 v,p2 v,Aq,Aq];constructor
     · rintro (⟨h1,h2⟩|⟨h1,h2⟩)
       · exact⟨.inl h1,.inl h2⟩
       · exact⟨h1,.inr h2⟩
     · rintro⟨h1,h2|h2⟩
       · rcases h1 with h1|h1
         · exact .inl ⟨h1,h2⟩
         · have:=ha.after h1;omega
       · exact .inr ⟨h1,h2⟩
termination_by a b=>a.length+b.length
theorem E3 (l:List Span):∀ s∈A5 l,-1073741824≤s.lo∧s.lo≤s.hi∧s.hi≤1073741824:=by
 obtain⟨h1,h2⟩:=Av l;intro s hs;have hle:=h1.1 s hs;have k1:=((h2 s.lo).1 ⟨s,hs,Int.le_refl _,hle⟩).2;have k2:=((h2 s.hi).1 ⟨s,hs,hle,Int.le_refl _⟩).2;omega
def Na:Int→List Span→List Span
 | f,[]=>[⟨f,1073741824⟩]
 | f,x::l=>⟨f,x.lo-1⟩::Na (x.hi+1) l
theorem Zf:∀ (l:List Span) (f:Int),(Na f l).length=l.length+1
 | [],f=>rfl
 | x::l,f=>by rw[Na,List.length_cons,Zf l];rfl
theorem Zg:∀ (l:List Span) (f:Int),Plain l→(∀ s∈l,f≤s.lo∧s.hi≤1073741824)→∀ v,memL (Na f l) v↔f≤v∧v≤1073741824∧¬memL l v
 | [],f,_,_,v=>by
   rw[Na,Aq];simp only[Bj,or_false,not_false_eq_true,and_true]
 | x::l,f,h,hb,v=>by
   have hx:=h.head;have hxb:=hb x (by simp);rw[Na,Aq,Zg l (x.hi+1) h.tail (fun s hs=>⟨by have:=(List.pairwise_cons.1 h.2).1 s hs;omega,(hb s (by simp[hs])).2⟩) v,Aq];have ha:memL l v→x.hi+1<v:=fun hv=>h.after hv;dsimp only;constructor
   · rintro (h1|⟨h1,h2,h3⟩)
     · exact⟨h1.1,by omega,fun hh=>hh.elim (fun hh=>by omega) (fun hh=>by have:=ha hh;omega)⟩
     · exact⟨by omega,h2,fun hh=>hh.elim (fun hh=>by omega) h3⟩
   · rintro⟨h1,h2,h3⟩
     rcases Int.lt_or_le v x.lo with hlt|hge
     · exact .inl ⟨h1,by omega⟩
     · refine .inr ⟨?_,h2,fun hh=>h3 (.inr hh)⟩
       rcases Int.lt_or_le x.hi v with hlt2|hge2
       · omega
       · exact absurd (.inl ⟨hge,hge2⟩) h3
def It (a b:List Span):List Span:=E0 (A5 a) (A5 (Na (-1073741824) (A5 b)))
theorem z8k (a b:List Span):Plain (It a b)∧∀ v,memL (It a b) v↔memL a v∧(-1073741824≤v∧v≤1073741824)∧¬memL b v:=by
 obtain⟨a1,a2⟩:=Av a;obtain⟨b1,b2⟩:=Av b;obtain⟨g1,g2⟩:=Av (Na (-1073741824) (A5 b));obtain⟨m1,m2⟩:=Jb _ _ a1 g1;refine⟨m1,fun v=>?_⟩;rw[It,m2 v,a2 v,g2 v,Zg _ _ b1 (fun s hs=>by have:=E3 b s hs;omega) v,b2 v];constructor
 · rintro⟨⟨h1,h2⟩,⟨h3,h4,h5⟩,h6⟩
   exact⟨h1,h2,fun h=>h5 ⟨h,h2⟩⟩
 · rintro⟨h1,h2,h3⟩
   exact⟨⟨h1,h2⟩,⟨h2.1,h2.2,fun h=>h3 h.1⟩,h2⟩
theorem Ty (a b:List Span) (la:a.length≤100000000000) (lb:b.length≤100000000000):PC Tryz.prog 165 [Aj a,Aj b] (Aj (It a b)):=by
 refine A7 Y4 ?_;unfold N4;(with_reducible repeat' (first|(simp(disch:=omega)only[push_cast,↓zz,seval])|refine And.intro ?_ ?_|(first|refine Ab ?_ ?_|refine Aa ?_ ?_)<;>intro hc<;>(try simp only[push_cast] at hc)|(have q_:=Ce b (by omega);(first|refine eK q_ ?_|refine eQ q_ ?_|refine eG q_ ?_);clear q_)|(have q_:=Ce b (by omega);(first|refine cK q_ ?_|refine cQ q_ ?_|refine cG q_ ?_);clear q_;(simp(disch:=omega)only[push_cast,↓zz,seval]);(fail_if_success change False))|omega|intro _));have hb:=Ec b;have hbd:=E3 b;have hgl:=Zf (A5 b) (-1073741824);have hmeet:=Q0 a (Na (-1073741824) (A5 b)) (by omega) (by omega);rw[←It] at hmeet;generalize A5 b=b0 at *
 refine Ax (A8 (fun (s:Nat × Int × List Span)=>s.1≤b0.length∧s.2.2.length=s.1∧(-1073741824≤s.2.1∧s.2.1≤1073741825)∧Na (-1073741824) b0=s.2.2++Na s.2.1 (b0.drop s.1)) (fun s=>b0.length-s.1)
   (fun s=>[(0,Aj a),(5,.ref 0 1 0 s.2.2.length),(6,.int .i64 s.2.1),(10,Aj b0),(11,.int .i64 b0.length),(12,.int .i64 s.1)]) (fun s=>[⟨2,1,false,s.2.2.map B3⟩]) (fun env _=>[Bm 2 (env 5)]) (0,-1073741824,[]) (by simp) ?_ ?_)
 · (with_reducible repeat' (first|(simp(disch:=omega)only[push_cast,↓zz,seval])|refine And.intro ?_ ?_|(first|refine Ab ?_ ?_|refine Aa ?_ ?_)<;>intro hc<;>(try simp only[push_cast] at hc)|omega|intro _))
 rintro⟨k,f,out⟩ ⟨h1,h2,h3,h4⟩;simp only at h1 h2 h3 h4;rcases Nat.lt_or_ge k b0.length with hk|hk
 · have hx:=hbd _ (Au hk)
   rw[drop_at hk,Na] at h4;have w1:IntKind.i64.wrap ((nth b0 k).lo-1)=(nth b0 k).lo-1:=IntWalk.i64_in _ (by omega);have w2:IntKind.i64.wrap ((nth b0 k).hi+1)=(nth b0 k).hi+1:=IntWalk.i64_in _ (by omega);refine W_T ?_;(with_reducible repeat' (first|(simp(disch:=omega)only[push_cast,↓zz,seval,w1,w2])|refine And.intro ?_ ?_|(first|refine Ab ?_ ?_|refine Aa ?_ ?_)<;>intro hc<;>(try simp only[push_cast] at hc)|omega|intro _));refine⟨(k+1,(nth b0 k).hi+1,out++[⟨f,(nth b0 k).lo-1⟩]),⟨⟨by simp,rfl,by simp⟩,?_⟩,⟨by omega,by simp[h2],by simp only;omega,by simp[h4]⟩,by omega⟩;rw[List.map_append];exact Bf _ _
 · obtain rfl:k=b0.length:=by omega
   rw[List.drop_of_length_le (Nat.le_refl _),Na] at h4;rw[h4] at hmeet
   have htk:List.take (out.length+1) (out.map B3++[AV.agg [.int .i64 f,.int .i64 1073741824]])=(out++[(⟨f,1073741824⟩:Span)]).map B3:=by
     rw[List.take_of_length_le (by simp),List.map_append];rfl
   refine W_T ?_;(with_reducible repeat' (first|(simp(disch:=omega)only[push_cast,↓zz,seval,Aj,C8,htk,Dm])|refine And.intro ?_ ?_|(first|refine Ab ?_ ?_|refine Aa ?_ ?_)<;>intro hc<;>(try simp only[push_cast] at hc)|refine eK hmeet ?_|refine eQ hmeet ?_|refine eG hmeet ?_|((first|refine cK hmeet ?_|refine cQ hmeet ?_|refine cG hmeet ?_);(simp(disch:=omega)only[push_cast,↓zz,seval,Aj,C8,htk,Dm]);(fail_if_success change False))|omega|intro _))
   all_goals trace_state
theorem Q1 (a b:List Span) (la:a.length≤100000000000) (lb:b.length≤100000000000):PC Tryz.prog 146 [Aj a,Aj b] (.bool (decide (It a b=[]))):=by
 refine A7 Vw ?_;unfold L4;(with_reducible repeat' (first|(simp(disch:=omega)only[push_cast,↓zz,seval])|refine And.intro ?_ ?_|(first|refine Ab ?_ ?_|refine Aa ?_ ?_)<;>intro hc<;>(try simp only[push_cast] at hc)|(have q_:=Ty a b la lb;(first|refine eK q_ ?_|refine eQ q_ ?_|refine eG q_ ?_);clear q_)|(have q_:=Ty a b la lb;(first|refine cK q_ ?_|refine cQ q_ ?_|refine cG q_ ?_);clear q_;(simp(disch:=omega)only[push_cast,↓zz,seval]);(fail_if_success change False))|omega|intro _))
 all_goals (rw[decide_eq_decide];exact⟨fun h=>List.eq_nil_of_length_eq_zero (by omega),fun h=>by rw[h];rfl⟩)
theorem TI_w {I:Itr} {n:Nat} {s:Option Nat} {env:Env} {H:Ac} {Q:Option Nat→Ex→Env→Ac→Prop} {ops:List AOp} {P:Program} (hP:I.P=P) (h:W P n 0 (.reg ops) env H (Q s)):TI I n (.reg ops) s env H Q:=ztu (by
 rw[hP];rw[W] at h
 first|exact h|rwa [Ms] at h|(simpa only[Ms] using h))
theorem z2b {I:Itr} {n:Nat} {s:Option Nat} {env:Env} {H:Ac} {Q Q':Option Nat→Ex→Env→Ac→Prop} {c:AC} (h:TI I n c s env H Q) (hq:∀ s x e H,Q s x e H→Q' s x e H):TI I n c s env H Q' :=
 fun code hc S a X hN hF hd=>wpIn_mono (h code hc S a X hN hF hd) fun e a w hh=>by
   obtain⟨S',env',H',x,s',X',h1,h2,h3,h4,h5,h6⟩:=hh;exact⟨S',env',H',x,s',X',h1,h2,h3,h4,h5,hq _ _ _ _ h6⟩
def Ma:AC→Bool
 | .skip|.reg _|.exit _|.ret=>true
 | .seq x y=>Ma x&&Ma y
 | .cond _ x y=>Ma x&&Ma y
 | .block _ c=>Ma c
 | _=>false
theorem TI_W {I:Itr} {n:Nat} {P:Program} (hP:I.P=P):∀ {c:AC} {s:Option Nat} {env:Env} {H:Ac} {Q:Ex→Env→Ac→Prop},Ma c=true→W P n 0 c env H Q→TI I n c s env H (fun s' x e H'=>s'=s∧Q x e H')
 | .skip,s,env,H,Q,_,h=>zpf ⟨rfl,h⟩
 | .exit id,s,env,H,Q,_,h=>zpg ⟨rfl,h⟩
 | .ret,s,env,H,Q,_,h=>ztt ⟨rfl,h⟩
 | .reg ops,s,env,H,Q,_,h=>TI_w (Q:=fun s' x e H'=>s'=s∧Q x e H') hP (by
   have h':wk P ops env H _:=h;show wk P ops env H (fun e H'=>s=s∧Q .normal e H');have e:(fun (e:Env) (H':Ac)=>s=s∧Q .normal e H')=fun e H'=>Q .normal e H':=by funext e H';simp
   rw[e]
   exact h')
 | .seq x y,s,env,H,Q,hc,h=>by
   simp only[Ma,Bool.and_eq_true] at hc;refine G7 (z2b (TI_W hP (c:=x) hc.1 h) fun s' z e H' hh=>?_);obtain⟨rfl,hh⟩:=hh;cases z with
   | normal=>exact TI_W hP (c:=y) hc.2 hh
   | exit id=>exact⟨rfl,hh⟩
   | ret=>exact⟨rfl,hh⟩
 | .cond c x y,s,env,H,Q,hc,h=>by
   simp only[Ma,Bool.and_eq_true] at hc;have h':z0p (c.eval env) (W P n 0 x env H Q) (W P n 0 y env H Q):=h;unfold z0p at h';split at h'
   · rename_i q hq;exact zph hq (fun hb=>TI_W hP hc.1 (h'.1 hb)) (fun hb=>TI_W hP hc.2 (h'.2 hb))
   · exact h'.elim
 | .block id c,s,env,H,Q,hc,h=>by
   refine Ih (z2b (TI_W hP (c:=c) hc h) fun s' z e H' hh=>?_);obtain⟨rfl,hh⟩:=hh;cases z with
   | normal=>exact⟨rfl,hh⟩
   | ret=>exact⟨rfl,hh⟩
   | exit k =>
     simp only[Ex.inBlock,Ex.inBlockI] at hh ⊢;split<;>rename_i hk
     · rw[if_pos hk] at hh;exact⟨trivial,hh⟩
     · rw[if_neg hk] at hh;exact⟨trivial,hh⟩
theorem TI_v {I:Itr} {n:Nat} {P:Program} {c:AC} {s:Option Nat} {env:Env} {H:Ac} {Q:Option Nat→Ex→Env→Ac→Prop} (hP:I.P=P) (hc:Ma c=true) (h:W P n 0 c env H (Q s)):TI I n c s env H Q :=
 z2b (TI_W hP hc h) fun s' x e H' hh=>by
   obtain⟨rfl,hh⟩:=hh;exact hh
theorem Zh:∀ (live:List (Nat × AV)) (i:Nat),De live i=.any∨(i,De live i)∈live:=by
 intro live i
 induction live with
 | nil=>exact .inl rfl
 | cons p l ih =>
   obtain⟨t,x⟩:=p;show (if i=t then x else De l i)=.any∨(i,if i=t then x else De l i)∈(t,x)::l;split
   · rename_i h;subst h;exact .inr (by simp)
   · rcases ih with h|h
     · exact .inl h
     · exact .inr (by simp[h])
theorem zu1 {I:Itr} {n:Nat} {s:Option Nat} {env:Env} {H:Ac} {Q:Option Nat→Ex→Env→Ac→Prop} {c:AC} {live:List (Nat × AV)} (hl:∀ p∈live,env p.1=p.2) (h:TI I n c s (De live) H Q):TI I n c s env H Q :=
 fun code hc S a X hN hF hd=>h code hc S a X hN ⟨hF.size,hF.defers,fun i hi=>by
   rcases Zh live i with he|he
   · rw[he];trivial
   · have:=hl _ he
     simp only at this;rw[←this]
     exact hF.val i hi⟩ hd
theorem zdg {I:Itr} {n:Nat} {s:Option Nat} {env:Env} {H:Ac} {Q:Option Nat→Ex→Env→Ac→Prop} {c:AC} {live:List (Nat × AV)} (hl:∀ p∈live,env p.1=p.2∧p.2.pure=true) (h:TI I n c s (De live) (Abs.hl []) Q):TI I n c s env H Q :=
 fun code hc S a X hN hF hd=>by
   have hN':I.Now s X { S with n:=0 } (Abs.hl []):=⟨⟨rfl,fun g hg=>absurd hg (Nat.not_lt_zero _),fun g _ hg=>absurd hg (Nat.not_lt_zero _),hN.rel.im⟩,hN.base,hN.keep,hN.im,hN.apart,hN.st⟩;refine h code hc { S with n:=0 } a X hN' ⟨hF.size,by rw[hd];exact Marks.nil hN.base,fun i hi=>?_⟩ hd;rcases Zh live i with he|he
   · rw[he];trivial
   · obtain⟨h1,h2⟩:=hl _ he
     simp only at h1 h2;have hv:=hF.val i hi;rw[h1] at hv;exact VRel.of_pure (S:=S) (S':={ S with n:=0 }) rfl (fun _ h=>h) h2 hv
def V9 (lo:Int) (n:Nat):List Int:=(List.range n).map fun (i:Nat)=>lo+(i:Int)
def Ej (l:List Span):List Int:=l.flatMap fun s=>V9 s.lo (s.hi+1-s.lo).toNat
theorem Q2 (l:List Span) (hl:l.length≤1000000000000) (hb:∀ s∈l,-1073741824≤s.lo∧s.lo≤s.hi∧s.hi≤1073741824):X5 Tryz.prog 204 [.cptr (Aj l)] ((Ej l).map fun x=>[.int .i64 x]):=by
 refine zcr Vy fun I hP hr=>?_;show TI I 25 If _ _ _ _;unfold If;refine G7 (TI_v hP (by rfl) ?_);(with_reducible repeat' (first|(simp(disch:=omega)only[push_cast,↓zz,seval])|refine And.intro ?_ ?_|(first|refine Ab ?_ ?_|refine Aa ?_ ?_)<;>intro hc<;>(try simp only[push_cast] at hc)|omega|intro _));refine (Ih (z1s (fun (t:Nat) s env H=>t≤l.length∧s=some (Ej (l.take t)).length∧∀ p∈[(0,AV.yld I.l),(6,Aj l),(7,AV.int .i64 l.length),(8,AV.int .i64 t)],env p.1=p.2) (fun t=>l.length-t) 0 ?_ ?_):TI I 25 _ _ _ _ _)
 · refine⟨Nat.zero_le _,by simp[Ej],?_⟩
   simp only[List.mem_cons,List.not_mem_nil,or_false,forall_eq_or_imp,forall_eq];exact⟨rfl,rfl,rfl,rfl⟩
 rintro t s env H ⟨ht,rfl,hlv⟩;refine zdg (live:=[(0,AV.yld I.l),(6,Aj l),(7,AV.int .i64 l.length),(8,AV.int .i64 t)]) (fun p hp=>⟨hlv p hp,?_⟩) ?_
 · simp only[List.mem_cons,List.not_mem_nil,or_false] at hp
   rcases hp with rfl|rfl|rfl|rfl<;>first|rfl|exact Dm l
 refine G7 (TI_v hP (by rfl) ?_);(with_reducible repeat' (first|(simp(disch:=omega)only[push_cast,↓zz,seval])|refine And.intro ?_ ?_|(first|refine Ab ?_ ?_|refine Aa ?_ ?_)<;>intro hc<;>(try simp only[push_cast] at hc)|omega|intro _));refine (G7 ?_:TI I 25 _ _ _ _ _);refine TI_v hP (by rfl) ?_;(with_reducible repeat' (first|(simp(disch:=omega)only[push_cast,↓zz,seval])|refine And.intro ?_ ?_|(first|refine Ab ?_ ?_|refine Aa ?_ ?_)<;>intro hc<;>(try simp only[push_cast] at hc)|omega|intro _))
 · refine (G7 (Ih (G7 ?_)):TI I 25 _ _ _ _ _)
   refine TI_v hP (by rfl) ?_;(with_reducible repeat' (first|(simp(disch:=omega)only[push_cast,↓zz,seval])|refine And.intro ?_ ?_|(first|refine Ab ?_ ?_|refine Aa ?_ ?_)<;>intro hc<;>(try simp only[push_cast] at hc)|omega|intro _));refine (G7 ?_:TI I 25 _ _ _ _ _);refine TI_v hP (by rfl) ?_;(with_reducible repeat' (first|(simp(disch:=omega)only[push_cast,↓zz,seval])|refine And.intro ?_ ?_|(first|refine Ab ?_ ?_|refine Aa ?_ ?_)<;>intro hc<;>(try simp only[push_cast] at hc)|omega|intro _));have hs:=hb _ (Au (l:=l) (i:=t) (by omega))
   have hrow:∀ i:Nat,(nth l t).lo+i≤(nth l t).hi→I.rows[(Ej (l.take t)).length+i]? = some [AV.int .i64 ((nth l t).lo+i)]:=fun i hi=>by
     have e:Ej l=Ej (l.take t)++(V9 (nth l t).lo ((nth l t).hi+1-(nth l t).lo).toNat++Ej (l.drop (t+1))):=by
       conv=>lhs;rw[←List.take_append_drop t l,drop_at (show t<l.length by omega)]
       simp[Ej]
     rw[hr,e,List.getElem?_map,List.getElem?_append_right (by omega),Nat.add_sub_cancel_left,List.getElem?_append_left (by simp[V9];omega)];simp only[V9,List.getElem?_map];rw[List.getElem?_range (by omega)];rfl
   have hend:(Ej (l.take (t+1))).length=(Ej (l.take t)).length+((nth l t).hi+1-(nth l t).lo).toNat:=by
     rw[take_at (show t<l.length by omega)];simp[Ej,V9]
   refine (Ih (z1s (fun (i:Nat) s env H=>(nth l t).lo+i≤(nth l t).hi+1∧s=some ((Ej (l.take t)).length+i)∧H=Abs.hl [⟨2,1,true,[B3 (nth l t)]⟩]∧∀ p∈[(0,AV.yld I.l),(4,AV.ptr 0 1 0 0),(5,AV.int .i64 ((nth l t).lo+i)),(6,Aj l),(7,AV.int .i64 l.length),(8,AV.int .i64 t)],env p.1=p.2) (fun i=>((nth l t).hi+1-(nth l t).lo).toNat-i) 0 ?_ ?_):TI I 25 _ _ _ _ _)
   · refine⟨by omega,by simp,rfl,?_⟩
     simp only[List.mem_cons,List.not_mem_nil,or_false,forall_eq_or_imp,forall_eq];refine⟨rfl,rfl,?_,rfl,rfl,rfl⟩;show AV.int .i64 (nth l t).lo=AV.int .i64 ((nth l t).lo+(0:Nat));simp
   rintro i s env H ⟨hi,rfl,rfl,hlv2⟩;refine zu1 (live:=[(0,AV.yld I.l),(4,AV.ptr 0 1 0 0),(5,AV.int .i64 ((nth l t).lo+i)),(6,Aj l),(7,AV.int .i64 l.length),(8,AV.int .i64 t)]) hlv2 ?_;refine G7 ?_;refine TI_v hP (by rfl) ?_;(with_reducible repeat' (first|(simp(disch:=omega)only[push_cast,↓zz,seval])|refine And.intro ?_ ?_|(first|refine Ab ?_ ?_|refine Aa ?_ ?_)<;>intro hc<;>(try simp only[push_cast] at hc)|omega|intro _))
   · refine (G7 (Ih (G7 ?_)):TI I 25 _ _ _ _ _)
     refine z5l (pre:=[_,_]) (post:=[_]) rfl rfl ?_;refine⟨[AV.int .i64 ((nth l t).lo+i)],rfl,?_,hrow i hc,?_,?_⟩
     · intro x hx
       simp only[List.mem_singleton] at hx;subst hx;exact fun S v hv=>hv
     · rw[hP,←Ms]
       (with_reducible repeat' (first|(simp(disch:=omega)only[push_cast,↓zz,seval])|refine And.intro ?_ ?_|(first|refine Ab ?_ ?_|refine Aa ?_ ?_)<;>intro hc<;>(try simp only[push_cast] at hc)|omega|intro _));refine (TI_v hP ?q1 ?_:TI I 25 _ _ _ _ _)
       case q1=>rfl
       (with_reducible repeat' (first|(simp(disch:=omega)only[push_cast,↓zz,seval])|refine And.intro ?_ ?_|(first|refine Ab ?_ ?_|refine Aa ?_ ?_)<;>intro hc<;>(try simp only[push_cast] at hc)|omega|intro _));refine (TI_v hP ?q2 ?_:TI I 25 _ _ _ _ _)
       case q2=>rfl
       (with_reducible repeat' (first|(simp(disch:=omega)only[push_cast,↓zz,seval])|refine And.intro ?_ ?_|(first|refine Ab ?_ ?_|refine Aa ?_ ?_)<;>intro hc<;>(try simp only[push_cast] at hc)|omega|intro _));refine⟨i+1,⟨by omega,by rw[Nat.add_assoc],rfl,rfl,rfl,?_,rfl,rfl,rfl⟩,by omega⟩;show AV.int .i64 ((nth l t).lo+(i:Int)+1)=AV.int .i64 ((nth l t).lo+((i+1:Nat):Int))
       all_goals first|rfl|(rw[AV.int.injEq];exact⟨rfl,by omega⟩)
     · rw[hP,←Ms]
       (with_reducible repeat' (first|(simp(disch:=omega)only[push_cast,↓zz,seval])|refine And.intro ?_ ?_|(first|refine Ab ?_ ?_|refine Aa ?_ ?_)<;>intro hc<;>(try simp only[push_cast] at hc)|omega|intro _));refine (TI_v hP ?q3 ?_:TI I 25 _ _ _ _ _)
       case q3=>rfl
       (with_reducible repeat' (first|(simp(disch:=omega)only[push_cast,↓zz,seval])|refine And.intro ?_ ?_|(first|refine Ab ?_ ?_|refine Aa ?_ ?_)<;>intro hc<;>(try simp only[push_cast] at hc)|omega|intro _));exact⟨trivial,.inr rfl⟩
   · refine (TI_v hP ?q4 ?_:TI I 25 _ _ _ _ _)
     case q4=>rfl
     (with_reducible repeat' (first|(simp(disch:=omega)only[push_cast,↓zz,seval])|refine And.intro ?_ ?_|(first|refine Ab ?_ ?_|refine Aa ?_ ?_)<;>intro hc<;>(try simp only[push_cast] at hc)|omega|intro _));refine⟨t+1,⟨by omega,?_,rfl,rfl,rfl,?_⟩,by omega⟩
     · first|(rw[hend];congr 2;omega)|trace_state
     all_goals first|rfl|(rw[AV.int.injEq];exact⟨rfl,by omega⟩)
 · refine⟨trivial,.inl ?_⟩
   rw[List.take_of_length_le (by omega)]
theorem Q3 (l:List Span) (hl:l.length≤1000000000000):PC Tryz.prog 197 [Aj l] (.fn 204 [.cptr (Aj (A5 l))]):=by
 refine A7 z1n ?_;unfold Qq;(with_reducible repeat' (first|(simp(disch:=omega)only[push_cast,↓zz,seval])|refine And.intro ?_ ?_|(first|refine Ab ?_ ?_|refine Aa ?_ ?_)<;>intro hc<;>(try simp only[push_cast] at hc)|(have q_:=Ce l hl;(first|refine eK q_ ?_|refine eQ q_ ?_|refine eG q_ ?_);clear q_)|(have q_:=Ce l hl;(first|refine cK q_ ?_|refine cQ q_ ?_|refine cG q_ ?_);clear q_;(simp(disch:=omega)only[push_cast,↓zz,seval]);(fail_if_success change False))|omega|intro _))
 all_goals trace_state
def hasI (l:List Span) (x:Int):Bool:=decide (-1073741824≤x∧x≤1073741824)&&l.any fun p=>decide (p.lo≤x∧x≤p.hi)
theorem Wa {α:Type} [Inhabited α] {f:α→Bool} {l:List α} {k:Nat} (h:k<l.length):(l.drop k).any f=(f (nth l k)||(l.drop (k+1)).any f):=by rw[drop_at h,List.any_cons]
theorem z8l {l:List Span} {x:Int} (h:-1073741824≤x∧x≤1073741824):hasI l x=l.any fun p=>decide (p.lo≤x∧x≤p.hi):=by simp[hasI,h]
theorem ziq (l:List Span) (x:Int) (hl:l.length≤9223372036854775807):PC Tryz.prog 104 [Aj l,.int .i64 x] (.bool (hasI l x)):=by
 refine A7 z89 ?_;unfold Tp;(with_reducible repeat' (first|(simp(disch:=omega)only[push_cast,↓zz,seval])|refine And.intro ?_ ?_|(first|refine Ab ?_ ?_|refine Aa ?_ ?_)<;>intro hc<;>(try simp only[push_cast] at hc)|omega|intro _))
 all_goals first|(rw[Bool.eq_iff_iff];simp[hasI];omega;done)|skip
 rw[z8l (by omega)];refine Ax (A8 (fun (i:Nat)=>i≤l.length∧(l.any fun p=>decide (p.lo≤x∧x≤p.hi))=(l.drop i).any fun p=>decide (p.lo≤x∧x≤p.hi)) (fun i=>l.length-i) (fun i=>[(1,.int .i64 x),(13,Aj l),(14,.int .i64 l.length),(15,.int .i64 i)]) (fun _=>[]) (fun _ _=>[]) 0 (by simp) ?_ ?_)
 · (with_reducible repeat' (first|(simp(disch:=omega)only[push_cast,↓zz,seval])|refine And.intro ?_ ?_|(first|refine Ab ?_ ?_|refine Aa ?_ ?_)<;>intro hc<;>(try simp only[push_cast] at hc)|omega|intro _))
 rintro i ⟨hi,ht⟩;refine W_T ?_;(with_reducible repeat' (first|(simp(disch:=omega)only[push_cast,↓zz,seval])|refine And.intro ?_ ?_|(first|refine Ab ?_ ?_|refine Aa ?_ ?_)<;>intro hc<;>(try simp only[push_cast] at hc)|omega|intro _))
 · rw[ht,Wa (by omega)];simp[*]
 · exact⟨i+1,by simp,⟨by omega,by rw[ht,Wa (by omega)];simp[*]⟩,by omega⟩
 · exact⟨i+1,by simp,⟨by omega,by rw[ht,Wa (by omega)];simp[*]⟩,by omega⟩
 · rw[ht,List.drop_of_length_le (by omega)];rfl
end Go.Proofs.YtbcjoeadpjfcfaaGreat
namespace Go.Proofs.YtbcjoeadpjfcfaaGreat
open Abs
def Eo (l:List Int):Prop:=l.Pairwise fun a b=>a<b
structure Place (l:List Int) (x:Int) (lo hi:Nat):Prop where
 le:lo≤hi
 top:hi≤l.length
 lt:∀ j,j<lo→nth l j<x
 ge:∀ j,hi≤j→j<l.length→x≤nth l j
def putI (l:List Int) (x:Int):List Int:=if x∈l then l else l.takeWhile (fun y=>decide (y<x))++x::l.dropWhile (fun y=>decide (y<x))
theorem z5u {l:List Int} {x y:Int}:y∈putI l x↔y=x∨y∈l:=by
 unfold putI;split
 · rename_i h
   constructor
   · exact .inr
   · rintro (rfl|h')
     · exact h
     · exact h'
 · rw[List.mem_append,List.mem_cons]
   conv=>rhs;rw[←List.takeWhile_append_dropWhile (p:=fun y=>decide (y<x)) (l:=l),List.mem_append]
   constructor
   · rintro (h|h|h)
     · exact .inr (.inl h)
     · exact .inl h
     · exact .inr (.inr h)
   · rintro (h|h|h)
     · exact .inr (.inl h)
     · exact .inl h
     · exact .inr (.inr h)
def lowI (l:List Int) (x:Int):Nat:=(l.takeWhile fun y=>decide (y<x)).length
theorem zir (l:List Int) (x:Int):l.take (lowI l x)=l.takeWhile (fun y=>decide (y<x))∧l.drop (lowI l x)=l.dropWhile (fun y=>decide (y<x)):=by
 have key:∀ (u v:List Int),u++v=l→l.take u.length=u∧l.drop u.length=v:=fun u v h=>by subst h;exact⟨List.take_left,List.drop_left⟩
 exact key _ _ (List.takeWhile_append_dropWhile (p:=fun y=>decide (y<x)) (l:=l))
theorem zdh {l:List Int} (hr:Eo l) (x:Int):Place l x (lowI l x) (lowI l x):=by
 induction l with
 | nil=>exact⟨Nat.le_refl _,by simp[lowI],fun j hj=>by simp[lowI] at hj,fun j _ hj=>by simp at hj⟩
 | cons a l ih =>
   have hr':Eo l:=(List.pairwise_cons.1 hr).2;have hall:=(List.pairwise_cons.1 hr).1;by_cases ha:a<x
   · have e:lowI (a::l) x=lowI l x+1:=by simp[lowI,ha]
     have hp:=ih hr';rw[e];refine⟨Nat.le_refl _,by have:=hp.top;simp;omega,fun j hj=>?_,fun j hj hjl=>?_⟩
     · cases j with
       | zero=>simpa [nth] using ha
       | succ j=>have:=hp.lt j (by omega);simpa [nth] using this
     · cases j with
       | zero=>omega
       | succ j=>have:=hp.ge j (by omega) (by simpa using hjl);simpa [nth] using this
   · have e:lowI (a::l) x=0:=by simp[lowI,ha]
     rw[e];refine⟨Nat.le_refl _,by simp,fun j hj=>by omega,fun j hj hjl=>?_⟩;cases j with
     | zero=>simp[nth];omega
     | succ j =>
       have hj2:j<l.length:=by simpa using hjl
       have:=hall _ (Au hj2);have h3:nth (a::l) (j+1)=nth l j:=by simp[nth]
       rw[h3];omega
theorem Q4 {l:List Int} (hr:Eo l) (x:Int):Eo (putI l x):=by
 unfold putI;split
 · exact hr
 · rename_i hx
   have hp:=zdh hr x;obtain⟨e1,e2⟩:=zir l x;rw[←e1,←e2];have ht:Eo (l.take (lowI l x)):=List.Pairwise.sublist (List.take_sublist _ _) hr;have hd:Eo (l.drop (lowI l x)):=List.Pairwise.sublist (List.drop_sublist _ _) hr
   have k1:∀ y∈l.take (lowI l x),y<x:=fun y hy=>by
     obtain⟨j,hj,he⟩:=List.getElem_of_mem hy;rw[List.getElem_take] at he;have hj':j<lowI l x:=by simp at hj;omega
     have hjl:j<l.length:=by simp at hj;omega
     have hn:nth l j=y:=by simp[nth,List.getD_eq_getElem?_getD,List.getElem?_eq_getElem hjl,he]
     have:=hp.lt j hj';omega
   have k2:∀ y∈l.drop (lowI l x),x<y:=fun y hy=>by
     obtain⟨j,hj,he⟩:=List.getElem_of_mem hy;rw[List.getElem_drop] at he;have hj':lowI l x+j<l.length:=by simp at hj;omega
     have hn:nth l (lowI l x+j)=y:=by simp[nth,List.getD_eq_getElem?_getD,List.getElem?_eq_getElem hj',he]
     have:=hp.ge (lowI l x+j) (by omega) hj';have hne:y≠x:=fun h=>hx (h ▸ List.mem_of_mem_drop hy);omega
   rw[Eo,List.pairwise_append,List.pairwise_cons];refine⟨ht,⟨k2,hd⟩,fun a ha b hb=>?_⟩;rcases List.mem_cons.1 hb with rfl|hb
   · exact k1 a ha
   · have:=k1 a ha;have:=k2 b hb;omega
def z8m (l:List Int) (s:Span):List Int:=if -1073741824<s.lo∧s.lo≤1073741824 then putI l s.lo else l
def z8n (l:List Int) (s:Span):List Int:=if -1073741824≤s.hi∧s.hi<1073741824 then putI l (s.hi+1) else l
def addB (l:List Int) (s:Span):List Int:=z8n (z8m l s) s
def F3 (a b:List Span):List Int:=b.foldl addB (a.foldl addB [-1073741824])
theorem z5v (l:List Int) (x:Int):(putI l x).length≤l.length+1:=by
 unfold putI;split
 · omega
 · have h:=congrArg List.length (List.takeWhile_append_dropWhile (p:=fun y=>decide (y<x)) (l:=l))
   simp only[List.length_append] at h;simp only[List.length_append,List.length_cons];omega
theorem zis {l:List Int} (h:Eo l) (s:Span):Eo (z8m l s)∧(z8m l s).length≤l.length+1:=by
 unfold z8m;split
 · exact⟨Q4 h _,z5v _ _⟩
 · exact⟨h,by omega⟩
theorem zit {l:List Int} (h:Eo l) (s:Span):Eo (z8n l s)∧(z8n l s).length≤l.length+1:=by
 unfold z8n;split
 · exact⟨Q4 h _,z5v _ _⟩
 · exact⟨h,by omega⟩
theorem zps {l:List Int} (h:Eo l) (s:Span):Eo (addB l s)∧(addB l s).length≤l.length+2:=by
 obtain⟨h1,h2⟩:=zis h s;obtain⟨h3,h4⟩:=zit h1 s;exact⟨h3,by unfold addB;omega⟩
theorem z2c:∀ (s:List Span) {l:List Int},Eo l→Eo (s.foldl addB l)∧(s.foldl addB l).length≤l.length+2 * s.length
 | [],l,h=>⟨h,by simp⟩
 | x::s,l,h=>by
   obtain⟨h1,h2⟩:=zps h x;obtain⟨h3,h4⟩:=z2c s h1;exact⟨h3,by simp only[List.foldl_cons,List.length_cons];omega⟩
theorem zdi {l:List Int} {s:Span} {y:Int}:y∈z8m l s↔y∈l∨(y=s.lo∧-1073741824<s.lo∧s.lo≤1073741824):=by
 unfold z8m;split
 · rename_i h;rw[z5u];constructor
   · rintro (h1|h1)
     · exact .inr ⟨h1,h⟩
     · exact .inl h1
   · rintro (h1|h1)
     · exact .inr h1
     · exact .inl h1.1
 · rename_i h;exact⟨.inl,fun h1=>h1.resolve_right fun h2=>h h2.2⟩
theorem zdj {l:List Int} {s:Span} {y:Int}:y∈z8n l s↔y∈l∨(y=s.hi+1∧-1073741824≤s.hi∧s.hi<1073741824):=by
 unfold z8n;split
 · rename_i h;rw[z5u];constructor
   · rintro (h1|h1)
     · exact .inr ⟨h1,h⟩
     · exact .inl h1
   · rintro (h1|h1)
     · exact .inr h1
     · exact .inl h1.1
 · rename_i h;exact⟨.inl,fun h1=>h1.resolve_right fun h2=>h h2.2⟩
def Tz (s:Span) (y:Int):Prop:=(y=s.lo∧-1073741824<s.lo∧s.lo≤1073741824)∨(y=s.hi+1∧-1073741824≤s.hi∧s.hi<1073741824)
theorem Q5:∀ (s:List Span) {l:List Int} {y:Int},y∈s.foldl addB l↔y∈l∨∃ t∈s,Tz t y
 | [],l,y=>by simp
 | x::s,l,y=>by
   rw[List.foldl_cons,Q5 s,addB,zdj,zdi];constructor
   · rintro (((h|h)|h)|⟨t,ht,h⟩)
     · exact .inl h
     · exact .inr ⟨x,by simp,.inl h⟩
     · exact .inr ⟨x,by simp,.inr h⟩
     · exact .inr ⟨t,by simp[ht],h⟩
   · rintro (h|⟨t,ht,h⟩)
     · exact .inl (.inl (.inl h))
     · rcases List.mem_cons.1 ht with rfl|ht
       · rcases h with h|h
         · exact .inl (.inl (.inr h))
         · exact .inl (.inr h)
       · exact .inr ⟨t,ht,h⟩
theorem Ii {a b:List Span} {y:Int}:y∈F3 a b↔y=-1073741824∨(∃ t∈a,Tz t y)∨∃ t∈b,Tz t y:=by
 rw[F3,Q5,Q5,List.mem_singleton,or_assoc]
theorem Kd (a b:List Span):Eo (F3 a b):=(z2c b (z2c a (by simp[Eo])).1).1
theorem Q6 {s:Span} {y:Int} (h:Tz s y):-1073741824<y∧y≤1073741824:=by
 unfold Tz at h;omega
theorem Ke {a b:List Span}:∀ y∈F3 a b,-1073741824≤y∧y≤1073741824:=fun y hy=>by
 rcases Ii.1 hy with rfl|⟨t,_,h⟩|⟨t,_,h⟩
 · omega
 · have:=Q6 h;omega
 · have:=Q6 h;omega
theorem Zi (a b:List Span):∃ r,F3 a b=-1073741824::r:=by
 have h1:(-1073741824:Int)∈F3 a b:=Ii.2 (.inl rfl);have h2:=Kd a b;have h3:=Ke (a:=a) (b:=b);cases hb:F3 a b with
 | nil=>rw[hb] at h1;cases h1
 | cons x r =>
   rw[hb] at h1 h2 h3;rcases List.mem_cons.1 h1 with h|h
   · exact⟨r,by rw[h]⟩
   · have:=(List.pairwise_cons.1 h2).1 _ h
     have:=h3 x (by simp);omega
theorem Jw {l:List Span} {x:Int}:hasI l x=true ↔ -1073741824≤x∧x≤1073741824∧memL l x:=by
 simp only[hasI,Bool.and_eq_true,decide_eq_true_eq,List.any_eq_true,memL,and_assoc]
theorem T5 {s:List Span} {x v:Int} (hx:-1073741824≤x) (hxv:x≤v) (hv:v≤1073741824) (h:∀ t∈s,∀ y,Tz t y→y≤x∨v<y):hasI s v=hasI s x:=by
 rw[Bool.eq_iff_iff,Jw,Jw]
 have key:memL s v↔memL s x:=by
   constructor
   · rintro⟨t,ht,h1,h2⟩
     refine⟨t,ht,?_,by omega⟩;rcases Int.lt_or_le x t.lo with hlt|hle
     · have:=h t ht t.lo (.inl ⟨rfl,by omega,by omega⟩);omega
     · exact hle
   · rintro⟨t,ht,h1,h2⟩
     refine⟨t,ht,by omega,?_⟩;rcases Int.lt_or_le t.hi v with hlt|hle
     · have:=h t ht (t.hi+1) (.inr ⟨rfl,by omega,by omega⟩);omega
     · exact hle
 rw[key];constructor
 · rintro⟨_,_,h⟩;exact⟨hx,by omega,h⟩
 · rintro⟨_,_,h⟩;exact⟨by omega,hv,h⟩
def addS (out:List Span) (s:Span):List Span :=
 match out.getLast? with
 | some y=>if y.hi=s.lo-1 then out.dropLast++[⟨y.lo,s.hi⟩] else out++[s]
 | none=>[s]
theorem Ik (x:Span):addS [] x=[x]:=rfl
theorem Q7 (out:List Span) (y x:Span):addS (out++[y]) x=if y.hi=x.lo-1 then out++[⟨y.lo,x.hi⟩] else out++[y]++[x]:=by
 simp[addS]
def z8o (l:List Span) (f:Int):Prop:=∀ s∈l,s.hi<f
theorem z8p {out:List Span} {x:Span} (h:Plain out) (hx:x.lo≤x.hi) (hb:z8o out x.lo):Plain (addS out x)∧z8o (addS out x) (x.hi+1)∧∀ v,memL (addS out x) v↔memL out v∨(x.lo≤v∧v≤x.hi):=by
 rcases Fx out with rfl|⟨m,y,rfl⟩
 · refine⟨⟨by simp[Ik,hx],by simp[Ik]⟩,by simp[Ik,z8o];omega,fun v=>?_⟩
   rw[Ik,Aq];constructor
   · rintro (h|h)
     · exact .inr h
     · exact absurd h (Bj _)
   · rintro (h|h)
     · exact absurd h (Bj _)
     · exact .inl h
 · rw[Q7]
   obtain⟨h1,h2,h3⟩:=Gj.1 h;have hy:y.hi<x.lo:=hb y (by simp);have hm:∀ s∈m,s.hi<x.lo:=fun s hs=>hb s (by simp[hs]);split
   · rename_i he
     refine⟨Gj.2 ⟨h1,by simp only;omega,fun s hs=>h3 s hs⟩,?_,fun v=>?_⟩
     · intro s hs
       rcases List.mem_append.1 hs with hs|hs
       · have:=hm s hs;omega
       · simp only[List.mem_singleton] at hs;subst hs;simp only;omega
     · rw[D5,D5,Aq,Aq]
       simp only[Bj,or_false];constructor
       · rintro (h|h)
         · exact .inl (.inl h)
         · by_cases hv:v≤y.hi
           · exact .inl (.inr ⟨h.1,hv⟩)
           · exact .inr ⟨by omega,by omega⟩
       · rintro ((h|h)|h)
         · exact .inl h
         · exact .inr ⟨h.1,by omega⟩
         · exact .inr ⟨by omega,by omega⟩
   · rename_i he
     refine⟨Gj.2 ⟨h,hx,fun s hs=>?_⟩,?_,fun v=>?_⟩
     · rcases List.mem_append.1 hs with hs|hs
       · have:=h3 s hs;omega
       · simp only[List.mem_singleton] at hs;subst hs;omega
     · intro s hs
       rcases List.mem_append.1 hs with hs|hs
       · have:=hb s hs;omega
       · simp only[List.mem_singleton] at hs;subst hs;omega
     · rw[D5,Aq]
       simp only[Bj,or_false]
def toI:List Int→Int
 | []=>1073741824
 | y::_=>y-1
def zdk (p:Int→Bool):List Int→List Span→List Span
 | [],out=>out
 | x::r,out=>zdk p r (if p x then addS out ⟨x,toI r⟩ else out)
def ziu (p:Int→Bool):List Int→Prop
 | []=>True
 | x::r=>(∀ v,x≤v→v≤toI r→p v=p x)∧ziu p r
theorem z8q {l:List Span} {f g:Int} (h:z8o l f) (hg:f≤g):z8o l g:=fun s hs=>by have:=h s hs;omega
theorem Q8 (p:Int→Bool):∀ (l:List Int) (out:List Span) (f:Int),Eo l→(∀ x∈l,x≤1073741824)→(f=toI l+1)→ziu p l→Plain out→z8o out f →
   Plain (zdk p l out)∧∀ v,memL (zdk p l out) v↔memL out v∨(f≤v∧v≤1073741824∧p v=true)
 | [],out,f,_,_,hf,_,ho,_=>⟨ho,fun v=>by
     simp only[toI] at hf
     exact⟨.inl,fun h=>h.resolve_right fun h=>by omega⟩⟩
 | x::r,out,f,hr,hm,hf,hs,ho,ha=>by
   have hx:=hm x (by simp);have hfx:f=x:=by rw[hf,toI];omega
   subst hfx
   have hto:f≤toI r:=by
     cases r with
     | nil=>simpa [toI] using hx
     | cons y r=>have:=(List.pairwise_cons.1 hr).1 y (by simp);simp only[toI];omega
   have hr':Eo r:=(List.pairwise_cons.1 hr).2;rw[zdk];by_cases hp:p f=true
   · rw[if_pos hp]
     obtain⟨a1,a2,a3⟩:=z8p (x:=⟨f,toI r⟩) ho hto ha;obtain⟨b1,b2⟩:=Q8 p r _ (toI r+1) hr' (fun y hy=>hm y (by simp[hy])) rfl hs.2 a1 a2;refine⟨b1,fun v=>?_⟩;rw[b2 v,a3 v];constructor
     · rintro ((h|h)|h)
       · exact .inl h
       · refine .inr ⟨h.1,?_,by rw[hs.1 v h.1 h.2];exact hp⟩
         have:toI r≤1073741824:=by
           cases r with
           | nil=>simp[toI]
           | cons y r=>have:=hm y (by simp);simp only[toI];omega
         have:=h.2;simp only at this;omega
       · exact .inr ⟨by omega,h.2⟩
     · rintro (h|h)
       · exact .inl (.inl h)
       · rcases Int.lt_or_le (toI r) v with hlt|hle
         · exact .inr ⟨by omega,h.2⟩
         · exact .inl (.inr ⟨h.1,hle⟩)
   · rw[if_neg hp]
     obtain⟨b1,b2⟩:=Q8 p r out (toI r+1) hr' (fun y hy=>hm y (by simp[hy])) rfl hs.2 ho (z8q ha (by omega));refine⟨b1,fun v=>?_⟩;rw[b2 v];constructor
     · rintro (h|h)
       · exact .inl h
       · exact .inr ⟨by omega,h.2⟩
     · rintro (h|h)
       · exact .inl h
       · rcases Int.lt_or_le (toI r) v with hlt|hle
         · exact .inr ⟨by omega,h.2⟩
         · exact absurd ((hs.1 v h.1 hle).symm.trans h.2.2) hp
theorem zlj {p:Int→Bool}:∀ (l pre:List Int),Eo (pre++l)→(∀ x∈l,-1073741824≤x∧x≤1073741824)→(∀ x v,-1073741824≤x→x≤v→v≤1073741824→(∀ y∈pre++l,y≤x∨v<y)→p v=p x)→ziu p l
 | [],_,_,_,_=>trivial
 | x::r,pre,hr,hm,h=>by
   refine⟨fun v h1 h2=>?_,zlj r (pre++[x]) (by simpa using hr) (fun y hy=>hm y (by simp[hy])) (by simpa using h)⟩;obtain⟨p1,p2,p3⟩:=List.pairwise_append.1 hr;have hx:=hm x (by simp)
   have hto:toI r≤1073741824:=by
     cases r with
     | nil=>simp[toI]
     | cons y r=>have:=hm y (by simp);simp only[toI];omega
   refine h x v hx.1 h1 (by omega) fun y hy=>?_;rcases List.mem_append.1 hy with hy|hy
   · exact .inl (Int.le_of_lt (p3 y hy x (by simp)))
   · rcases List.mem_cons.1 hy with rfl|hy
     · exact .inl (Int.le_refl _)
     · right
       cases r with
       | nil=>cases hy
       | cons z r =>
         simp only[toI] at h2;rcases List.mem_cons.1 hy with rfl|hy
         · omega
         · have:=(List.pairwise_cons.1 (List.pairwise_cons.1 p2).2).1 y hy;omega
def howB (h:Int) (x y:Bool):Bool:=if h=2 then x&&!y else if h=1 then x&&y else x||y
def zdl (a b:List Span) (h:Int):List Span:=zdk (fun v=>howB h (hasI a v) (hasI b v)) (F3 a b) []
theorem T6 (a b:List Span) (h:Int):Plain (zdl a b h)∧∀ v,memL (zdl a b h) v ↔ -1073741824≤v∧v≤1073741824∧howB h (hasI a v) (hasI b v)=true:=by
 obtain⟨r,hr⟩:=Zi a b;have hbo:=Ke (a:=a) (b:=b);have hri:=Kd a b
 have hseg:ziu (fun v=>howB h (hasI a v) (hasI b v)) (F3 a b):=zlj _ [] hri hbo fun x v h1 h2 h3 h4=>by
   simp only[List.nil_append] at h4;have e1:hasI a v=hasI a x:=T5 h1 h2 h3 fun t ht y hy=>h4 y (Ii.2 (.inr (.inl ⟨t,ht,hy⟩)));have e2:hasI b v=hasI b x:=T5 h1 h2 h3 fun t ht y hy=>h4 y (Ii.2 (.inr (.inr ⟨t,ht,hy⟩)));simp only[e1,e2]
 obtain⟨k1,k2⟩:=Q8 _ (F3 a b) [] (-1073741824) hri (fun x hx=>(hbo x hx).2) (by rw[hr];simp[toI]) hseg ⟨by simp,by simp⟩ (fun s hs=>by cases hs);refine⟨k1,fun v=>?_⟩;rw[zdl,k2 v];simp only[Bj,false_or]
theorem z8r (a b:List Span):zdl a b 1=E0 (A5 a) (A5 b):=by
 obtain⟨a1,a2⟩:=T6 a b 1;obtain⟨p1,p2⟩:=Av a;obtain⟨q1,q2⟩:=Av b;obtain⟨b1,b2⟩:=Jb _ _ p1 q1;refine I8 a1 b1 fun v=>?_;rw[a2 v,b2 v,p2 v,q2 v];simp only[howB];rw[if_neg (by decide),if_pos trivial,Bool.and_eq_true,Jw,Jw];constructor
 · rintro⟨h1,h2,⟨_,_,h3⟩,_,_,h4⟩;exact⟨⟨h3,h1,h2⟩,h4,h1,h2⟩
 · rintro⟨⟨h3,h1,h2⟩,h4,_,_⟩;exact⟨h1,h2,⟨h1,h2,h3⟩,h1,h2,h4⟩
theorem Zj {α:Type} {f:α→AV} {m:List α} {y z:α}:((m++[y]).map f).set m.length (f z)=(m++[z]).map f:=by simp
theorem ziv {α:Type} [Inhabited α] {m:List α} {y:α}:nth (m++[y]) m.length=y:=by simp[nth,List.getD_eq_getElem?_getD]
def symI (l:List Span):List Span:=zdl l [⟨0,1114111⟩] 1
theorem T7 (s:Span) (l:List Span):Ej (s::l)=V9 s.lo (s.hi+1-s.lo).toNat++Ej l:=rfl
theorem ziw (x:Int):hasI [⟨0,1114111⟩] x=decide (0≤x∧x≤1114111):=by
 simp only[hasI,List.any_cons,List.any_nil,Bool.or_false];by_cases h:0≤x∧x≤1114111
 · simp[h];omega
 · simp[h]
theorem Mb (l:List Span):Plain (symI l)∧∀ v,memL (symI l) v↔(0≤v∧v≤1114111)∧memL l v:=by
 obtain⟨h1,h2⟩:=T6 l [⟨0,1114111⟩] 1;refine⟨h1,fun v=>?_⟩;rw[symI,h2 v,ziw];simp only[howB];rw[if_neg (by decide),if_pos trivial,Bool.and_eq_true,Jw,decide_eq_true_eq];constructor
 · rintro⟨a,b,⟨_,_,c⟩,d⟩;exact⟨d,c⟩
 · rintro⟨d,c⟩;exact⟨by omega,by omega,⟨by omega,by omega,c⟩,d⟩
def Syms (l:List Span):Prop:=Plain l∧∀ s∈l,0≤s.lo∧s.lo≤s.hi∧s.hi≤1114111
theorem z2d {l:List Span} (h1:Plain l) (h2:∀ v,memL l v→0≤v∧v≤1114111):Syms l :=
 ⟨h1,fun s hs=>by
   have hle:=h1.1 s hs;have:=h2 s.lo ⟨s,hs,Int.le_refl _,hle⟩;have:=h2 s.hi ⟨s,hs,hle,Int.le_refl _⟩
   omega⟩
theorem Zk (l:List Span):Syms (symI l):=z2d (Mb l).1 fun v hv=>(((Mb l).2 v).1 hv).1
theorem z5w:∀ {l:List Span} {f:Nat},Plain l→(∀ s∈l,(f:Int)≤s.lo∧s.hi≤1114111)→f≤1114112→l.length+f≤1114112
 | [],f,_,_,hf=>by simpa using hf
 | s::l,f,h,hb,hf=>by
   have h1:=hb s (by simp);have h2:=h.head
   have:=z5w (l:=l) (f:=(s.hi+1).toNat) h.tail (fun t ht=>by
     have:=(List.pairwise_cons.1 h.2).1 t ht;have:=hb t (by simp[ht])
     omega) (by omega)
   simp only[List.length_cons];omega
theorem Syms.len {l:List Span} (h:Syms l):l.length≤1114112:=by
 have:=z5w (f:=0) h.1 (fun s hs=>by have:=h.2 s hs;simp only[Int.ofNat_zero];omega) (by omega);omega
theorem Zl:PC Tryz.prog 195 [] (Aj [⟨0,1114111⟩]):=by
 refine A7 Si ?_;unfold Kb;(with_reducible repeat' (first|(simp(disch:=omega)only[push_cast,↓zz,seval])|refine And.intro ?_ ?_|(first|refine Ab ?_ ?_|refine Aa ?_ ?_)<;>intro hc<;>(try simp only[push_cast] at hc)|omega|intro _))
def Zm (l:List Span):Option Int:=match l with
 | []=>none
 | s::_=>some s.lo
def z2e (l:List Span):Option Int:=l.getLast?.map (·.hi)
abbrev optI (o:Option Int):AV:=.tup [.int .i64 (o.getD 0),.bool o.isSome]
theorem Bp (l:List Span) (hl:l.length≤1000000000000):PC Tryz.prog 202 [Aj l] (optI (Zm (A5 l))):=by
 refine A7 Za ?_;unfold Ob;(with_reducible repeat' (first|(simp(disch:=omega)only[push_cast,↓zz,seval])|refine And.intro ?_ ?_|(first|refine Ab ?_ ?_|refine Aa ?_ ?_)<;>intro hc<;>(try simp only[push_cast] at hc)|(have q_:=Ce l hl;(first|refine eK q_ ?_|refine eQ q_ ?_|refine eG q_ ?_);clear q_)|(have q_:=Ce l hl;(first|refine cK q_ ?_|refine cQ q_ ?_|refine cG q_ ?_);clear q_;(simp(disch:=omega)only[push_cast,↓zz,seval]);(fail_if_success change False))|omega|intro _))
 · have h0:A5 l=[]:=List.eq_nil_of_length_eq_zero (by omega)
   rw[h0];(repeat' (first|(simp(disch:=omega)only[push_cast,↓zz,seval,B8,Zm,Option.getD_none,Option.isSome_none])|omega|(with_reducible refine And.intro ?_ ?_)))
 · cases hn:A5 l with
   | nil=>exact absurd (by rw[hn];rfl) hc
   | cons s r =>
     (repeat' (first|(simp(disch:=omega)only[push_cast,↓zz,seval,B8,Zm,Option.getD_some,Option.isSome_some])|omega|(with_reducible refine And.intro ?_ ?_)))
     all_goals simp[nth]
theorem Bu (l:List Span) (hl:l.length≤1000000000000):PC Tryz.prog 203 [Aj l] (optI (z2e (A5 l))):=by
 refine A7 z1p ?_;unfold Qt;have hn:=Ec l;(with_reducible repeat' (first|(simp(disch:=omega)only[push_cast,↓zz,seval])|refine And.intro ?_ ?_|(first|refine Ab ?_ ?_|refine Aa ?_ ?_)<;>intro hc<;>(try simp only[push_cast] at hc)|(have q_:=Ce l hl;(first|refine eK q_ ?_|refine eQ q_ ?_|refine eG q_ ?_);clear q_)|(have q_:=Ce l hl;(first|refine cK q_ ?_|refine cQ q_ ?_|refine cG q_ ?_);clear q_;(simp(disch:=omega)only[push_cast,↓zz,seval]);(fail_if_success change False))|omega|intro _))
 · have h0:A5 l=[]:=List.eq_nil_of_length_eq_zero (by omega)
   rw[h0];(repeat' (first|(simp(disch:=omega)only[push_cast,↓zz,seval,B8,z2e,List.getLast?_nil,Option.map_none,Option.getD_none,Option.isSome_none])|omega|(with_reducible refine And.intro ?_ ?_)))
 · rcases Fx (A5 l) with h0|⟨m,z,h0⟩
   · exact absurd (by rw[h0];rfl) hc
   · have e:((A5 l).length:Int)-1=(m.length:Int):=by rw[h0];simp
     have e2:nth (A5 l) m.length=z:=by rw[h0];simp[nth,List.getD_eq_getElem?_getD]
     rw[show z2e (A5 l)=some z.hi by rw[h0];simp[z2e]];(repeat' (first|(simp(disch:=omega)only[push_cast,↓zz,seval,B8,Option.getD_some,Option.isSome_some,e,e2])|omega|(with_reducible refine And.intro ?_ ?_)))
     all_goals (rw[show (A5 l).length-1=m.length by rw[h0];simp];rw[e2])
def F8 (d:Int) (s:Span):Span:=⟨s.lo+d,s.hi+d⟩
def Om (l:List Span) (d:Int):List Span:=if d < -2147483648∨2147483648<d then [] else A5 ((A5 l).map (F8 d))
def midM (d:Int) (l rest:List Span) (k:Nat):List Span:=(l.take k).map (F8 d)++(l.drop k++rest)
theorem zdm (d:Int) (l rest:List Span):midM d l rest 0=l++rest:=by simp[midM]
theorem zix (d:Int) (l rest:List Span):midM d l rest l.length=l.map (F8 d)++rest:=by simp[midM]
theorem ziy (d:Int) (l rest:List Span) (k:Nat) (h:k≤l.length):(midM d l rest k).length=l.length+rest.length:=by simp[midM];omega
theorem zpt {d:Int} {l rest:List Span} {k:Nat} (h:k<l.length):nth (midM d l rest k) k=nth l k:=by
 rw[midM,drop_at h,nth,List.getD_eq_getElem?_getD,List.getElem?_append_right (by simp;omega)];simp[show min k l.length=k by omega]
theorem ziz {d:Int} {l rest:List Span} {k:Nat} (h:k<l.length):((midM d l rest k).map B3).set k (B3 ⟨(nth l k).lo+d,(nth l k).hi+d⟩)=(midM d l rest (k+1)).map B3:=by
 rw[midM,midM,take_at h,drop_at h,←List.map_set];congr 1;rw[List.set_append_right _ _ (by simp;omega),show k-(List.map (F8 d) (List.take k l)).length=0 by simp;omega];simp[F8]
theorem zdn (l:List Span) (d:Int) (hl:l.length≤1000000000000):PC Tryz.prog 186 [Aj l,.int .i64 d] (Aj (Om l d)):=by
 refine A7 z1m ?_;unfold Qp;have hw:IntKind.i64.wrap d=IntKind.i64.wrap d:=rfl;have hz:(d < -2147483648∨2147483648<d)→Om l d=[]:=fun h=>by rw[Om,if_pos h]
 (with_reducible repeat' (first|(simp(disch:=omega)only[push_cast,↓zz,seval])|refine And.intro ?_ ?_|(first|refine Ab ?_ ?_|refine Aa ?_ ?_)<;>intro hc<;>(try simp only[push_cast] at hc)|omega|intro _))
 all_goals first|exact hz (by omega)|skip
 · refine X6 (l:=[]) [] (M8 l hl) (by rfl) rfl (by simp) (by simp) (by simp[ltL,ltV]) (by simp) ?_
   rintro y H' ⟨rest,rfl,rfl⟩;refine⟨_,rfl,by simp,?_⟩;have hn:=Ec l;have hbd:=E3 l;have hmv:Om l d=A5 ((A5 l).map (F8 d)):=by rw[Om,if_neg (by omega)]
   rw[hmv];generalize A5 l=m at *;(with_reducible repeat' (first|(simp(disch:=omega)only[push_cast,↓zz,seval])|refine And.intro ?_ ?_|(first|refine Ab ?_ ?_|refine Aa ?_ ?_)<;>intro hc<;>(try simp only[push_cast] at hc)|omega|intro _));refine Ax (A8 (fun (k:Nat)=>k≤m.length) (fun k=>m.length-k) (fun k=>[(1,.int .i64 d),(5,.ref 0 1 0 m.length),(16,.int .i64 m.length),(17,.int .i64 k)]) (fun k=>[⟨2,1,true,(midM d m rest k).map B3⟩]) (fun env _=>[Bm 2 (env 5)]) 0 (by simp) ?_ ?_)
   · (with_reducible repeat' (first|(simp(disch:=omega)only[push_cast,↓zz,seval,zdm])|refine And.intro ?_ ?_|(first|refine Ab ?_ ?_|refine Aa ?_ ?_)<;>intro hc<;>(try simp only[push_cast] at hc)|omega|intro _))
   intro k hk;have hlen:=ziy d m rest k hk;rcases Nat.lt_or_ge k m.length with hkm|hkm
   · have ha:=zpt (d:=d) (rest:=rest) hkm
     have hs:=ziz (d:=d) (rest:=rest) hkm;have hx:=hbd _ (Au hkm)
     have hgs:∀ v,(((midM d m rest k).map B3).set k v).getD k .any=v:=fun v=>by
       rw[List.getD_eq_getElem?_getD,List.getElem?_set_self (by simp[hlen];omega)];rfl
     refine W_T ?_;(with_reducible repeat' (first|(simp(disch:=omega)only[push_cast,↓zz,seval,hlen,ha,hgs,List.set_set,hs])|refine And.intro ?_ ?_|(first|refine Ab ?_ ?_|refine Aa ?_ ?_)<;>intro hc<;>(try simp only[push_cast] at hc)|omega|intro _));exact⟨k+1,⟨by simp,Bf _ _⟩,by omega,by omega⟩
   · obtain rfl:k=m.length:=by omega
     rw[zix];have ht:List.take m.length ((m.map (F8 d)).map B3++rest.map B3)=(m.map (F8 d)).map B3:=List.take_left' (by simp);have hmm:=Ce (m.map (F8 d)) (by simp;omega);refine W_T ?_;(with_reducible repeat' (first|(simp(disch:=omega)only[push_cast,↓zz,seval,ht,C8])|refine And.intro ?_ ?_|(first|refine Ab ?_ ?_|refine Aa ?_ ?_)<;>intro hc<;>(try simp only[push_cast] at hc)|refine eK hmm ?_|refine eQ hmm ?_|refine eG hmm ?_|((first|refine cK hmm ?_|refine cQ hmm ?_|refine cG hmm ?_);(simp(disch:=omega)only[push_cast,↓zz,seval,ht,C8]);(fail_if_success change False))|omega|intro _))
     all_goals trace_state
theorem Q9 (l:List Int):∀ r∈l.map (fun x=>[AV.int .i64 x]),∀ x∈r,Flat x:=fun r hr x hx=>by
 obtain⟨y,_,rfl⟩:=List.mem_map.1 hr;simp only[List.mem_singleton] at hx;subst hx;exact fun S=>rfl
theorem Wb (l:List Int):∀ r∈l.map (fun x=>[AV.int .i64 x]),r.length=1:=fun r hr=>by
 obtain⟨y,_,rfl⟩:=List.mem_map.1 hr;rfl
theorem zdo {l:List Int} {k:Nat} {row:List AV} (h:(l.map fun x=>[AV.int .i64 x])[k]? = some row):k<l.length∧row=[.int .i64 (nth l k)]:=by
 obtain⟨hk,he⟩:=List.getElem?_eq_some_iff.1 h;have hk':k<l.length:=by simpa using hk
 refine⟨hk',?_⟩;rw[←he];simp[nth,List.getD_eq_getElem?_getD,List.getElem?_eq_getElem hk']
theorem z5x:∀ {l:List Span} {f:Nat},Plain l→(∀ s∈l,(f:Int)≤s.lo∧s.hi≤1114111)→f≤1114112→(Ej l).length+f≤1114112
 | [],f,_,_,hf=>by simpa [Ej] using hf
 | s::l,f,h,hb,hf=>by
   have h1:=hb s (by simp);have h2:=h.head
   have:=z5x (l:=l) (f:=(s.hi+1).toNat) h.tail (fun t ht=>by
     have:=(List.pairwise_cons.1 h.2).1 t ht;have:=hb t (by simp[ht])
     omega) (by omega)
   rw[T7,List.length_append];simp only[V9,List.length_map,List.length_range];omega
theorem Syms.nums {l:List Span} (h:Syms l):(Ej l).length≤1114112:=by
 have:=z5x (f:=0) h.1 (fun s hs=>by have:=h.2 s hs;simp only[Int.ofNat_zero];omega) (by omega);omega
theorem Il:∀ {l:List Span} {x:Int},x∈Ej l↔memL l x
 | [],x=>by simp[Ej,memL]
 | s::l,x=>by
   rw[T7,List.mem_append,Aq,Il]
   have:x∈V9 s.lo (s.hi+1-s.lo).toNat↔s.lo≤x∧x≤s.hi:=by
     simp only[V9,List.mem_map,List.mem_range];constructor
     · rintro⟨i,h1,rfl⟩;omega
     · intro h;exact⟨(x-s.lo).toNat,by omega,by omega⟩
   rw[this]
theorem Syms.mem {l:List Span} (h:Syms l) {x:Int} (hx:memL l x):0≤x∧x≤1114111:=by
 obtain⟨s,hs,h1,h2⟩:=hx;have:=h.2 s hs;omega
abbrev oneS (x:Int):Span:=⟨x,x⟩
def allS (n:Nat):List Span:=[⟨0,2 ^ n-1⟩]
theorem Ra {l:List Span} (h:Plain l) (hb:∀ s∈l,-1073741824≤s.lo∧s.hi≤1073741824):A5 l=l:=by
 obtain⟨h1,h2⟩:=Av l;refine I8 h1 h fun x=>?_;rw[h2 x];constructor
 · exact fun hh=>hh.1
 · rintro⟨s,hs,k1,k2⟩
   have:=hb s hs;exact⟨⟨s,hs,k1,k2⟩,by omega,by omega⟩
theorem z2f {x:Int} {n:Nat} (hn:n≤21) (hx:0≤x∧x≤4194304):IntKind.i64.wrap (x * 2 ^ min n IntKind.i64.bits)=x * 2 ^ n:=by
 rw[show min n IntKind.i64.bits=n from Nat.min_eq_left (show n≤64 by omega)];have h:=Ol n hn;have h1:x * 2 ^ n≤4194304 * 2097152:=Int.mul_le_mul hx.2 h.2 (by omega) (by omega);have h2:0≤x * 2 ^ n:=Int.mul_nonneg hx.1 (by omega);exact IntWalk.i64_in _ (by omega)
def imgS (d t:Nat) (s:Span):List Span :=
 if s.lo / 2 ^ d % 2 ^ t≤s.hi / 2 ^ d % 2 ^ t then [⟨s.lo / 2 ^ d % 2 ^ t,s.hi / 2 ^ d % 2 ^ t⟩] else [⟨0,s.hi / 2 ^ d % 2 ^ t⟩,⟨s.lo / 2 ^ d % 2 ^ t,2 ^ t-1⟩]
def imgF (d t:Nat):List Span→List Span→List Span
 | [],out=>out
 | s::l,out=>if 2 ^ t-1≤s.hi / 2 ^ d-s.lo / 2 ^ d then allS t else imgF d t l (out++imgS d t s)
def topS:List Span:=[⟨0,2097151⟩]
def imgL (p:Part) (s:List Span):List Span :=
 if Fh p=false then [] else
   if p.up=0 then A5 (imgF p.drop.toNat p.take.toNat (E0 (A5 s) (A5 topS)) []) else
     A5 ((Ej (A5 (A5 (imgF p.drop.toNat p.take.toNat (E0 (A5 s) (A5 topS)) [])))).map fun x=>oneS (x * 2 ^ p.up.toNat))
theorem Wc:∀ (a b:List Span),(E0 a b).length≤a.length+b.length
 | [],b=>by rw[Hd];simp
 | x::a,[]=>by rw[Gx];simp
 | x::a,y::b=>by
   rw[M9];have h1:=Wc a (y::b);have h2:=Wc (x::a) b;simp only[List.length_append,List.length_cons] at *;split<;>split<;>simp<;>omega
termination_by a b=>a.length+b.length
theorem z5y (s:List Span):Plain (E0 (A5 s) (A5 topS))∧(∀ t∈E0 (A5 s) (A5 topS),0≤t.lo∧t.lo≤t.hi∧t.hi≤2097151)∧∀ v,memL (E0 (A5 s) (A5 topS)) v↔memL s v∧0≤v∧v≤2097151:=by
 obtain⟨p1,p2⟩:=Av s;obtain⟨q1,q2⟩:=Av topS;obtain⟨b1,b2⟩:=Jb _ _ p1 q1
 have key:∀ v,memL (E0 (A5 s) (A5 topS)) v↔memL s v∧0≤v∧v≤2097151:=fun v=>by
   rw[b2 v,p2 v,q2 v,topS,Aq];simp only[Bj,or_false];constructor
   · rintro⟨⟨h1,_⟩,h2,_⟩;exact⟨h1,h2⟩
   · rintro⟨h1,h2⟩;exact⟨⟨h1,by omega⟩,h2,by omega⟩
 refine⟨b1,fun t ht=>?_,key⟩;have hle:=b1.1 t ht;have k1:=((key t.lo).1 ⟨t,ht,Int.le_refl _,hle⟩).2;have k2:=((key t.hi).1 ⟨t,ht,hle,Int.le_refl _⟩).2;omega
theorem zj0 {x:Int} {t:Nat} (ht:t≤21) (hx:0≤x∧x≤2097151):J4 .and .i64 x (2 ^ t-1)=x % 2 ^ t:=by
 have h:=Ol t ht;have m0:=Int.emod_nonneg x (b:=2 ^ t) (by omega);have m1:=Int.emod_lt_of_pos x (b:=2 ^ t) (by omega);exact zaq t ⟨hx.1,by show _<(2:Int) ^ 64;omega⟩ (by show _≤64;omega) (IntWalk.i64_in _ (by omega))
theorem zpu {x:Int} {d:Nat} (hd:d≤21):x.fdiv (2 ^ min d IntKind.i64.bits)=x / 2 ^ d:=by
 rw[show min d IntKind.i64.bits=d from Nat.min_eq_left (show d≤64 by omega)];have:=Ol d hd;exact zap _ _ (by omega)
theorem zdp {x:Int} {d:Nat} (hd:d≤21) (hx:0≤x∧x≤2097151):0≤x / 2 ^ d∧x / 2 ^ d≤2097151:=by
 have:=Ol d hd;have q0:0≤x / 2 ^ d:=Int.ediv_nonneg hx.1 (by omega);have q1:x / 2 ^ d≤x:=Int.ediv_le_self _ hx.1;omega
theorem T8 (p:Part) (s:List Span) (hs:s.length≤10000000000):PC Tryz.prog 187 [Cj p,Aj s] (Aj (imgL p s)):=by
 have hM:=Q0 s topS (by omega) (by simp[topS]);obtain⟨mp,mb,mm⟩:=z5y s
 have hml:(E0 (A5 s) (A5 topS)).length≤10000000001:=by
   have h1:=Wc (A5 s) (A5 topS);have h2:=Ec s;have h3:=Ec topS;have h4:topS.length=1:=rfl;omega
 cases hb:Fh p with
 | false =>
   have hB:=Hu p;rw[hb] at hB;refine A7 N9 ?_;unfold I6;(with_reducible repeat' (first|(simp(disch:=omega)only[push_cast,↓zz,seval])|refine And.intro ?_ ?_|(first|refine Ab ?_ ?_|refine Aa ?_ ?_)<;>intro hc<;>(try simp only[push_cast] at hc)|refine eK hB ?_|refine eQ hB ?_|refine eG hB ?_|((first|refine cK hB ?_|refine cQ hB ?_|refine cG hB ?_);(simp(disch:=omega)only[push_cast,↓zz,seval]);(fail_if_success change False))|omega|intro _))
   all_goals (rw[imgL,if_pos hb])
 | true =>
 have hB:=Hu p;rw[hb] at hB;have hbi:=L8.1 hb;have ht:=Ol p.take.toNat (by omega);have hw1:IntKind.i64.wrap (1 * 2 ^ min p.take.toNat IntKind.i64.bits)=2 ^ p.take.toNat:=by rw[z2f (by omega) (by omega)];omega
 have hw2:IntKind.i64.wrap (2 ^ p.take.toNat-1)=2 ^ p.take.toNat-1:=IntWalk.i64_in _ (by omega);refine A7 N9 ?_;unfold I6;(with_reducible repeat' (first|(simp(disch:=omega)only[push_cast,↓zz,seval,hw1,hw2,topS,Aj,B3,List.map_cons,List.map_nil,C8])|refine And.intro ?_ ?_|(first|refine Ab ?_ ?_|refine Aa ?_ ?_)<;>intro hc<;>(try simp only[push_cast] at hc)|refine eK hB ?_|refine eQ hB ?_|refine eG hB ?_|refine eK hM ?_|refine eQ hM ?_|refine eG hM ?_|((first|refine cK hB ?_|refine cQ hB ?_|refine cG hB ?_|refine cK hM ?_|refine cQ hM ?_|refine cG hM ?_);(simp(disch:=omega)only[push_cast,↓zz,seval,hw1,hw2,topS,Aj,B3,List.map_cons,List.map_nil,C8]);(fail_if_success change False))|omega|intro _));have hI:imgL p s=if p.up=0 then A5 (imgF p.drop.toNat p.take.toNat (E0 (A5 s) (A5 topS)) []) else A5 ((Ej (A5 (A5 (imgF p.drop.toNat p.take.toNat (E0 (A5 s) (A5 topS)) [])))).map fun x=>oneS (x * 2 ^ p.up.toNat)):=by rw[imgL,if_neg (by simp[hb])]
 have hTS:[(⟨0,2097151⟩:Span)]=topS:=rfl;rw[hTS,hI];generalize E0 (A5 s) (A5 topS)=m at *;have hd:=Ol p.drop.toNat (by omega)
 have hsh:∀ x:Int,0≤x∧x≤2097151→x.fdiv (2 ^ min p.drop.toNat IntKind.i64.bits)=x / 2 ^ p.drop.toNat∧(0≤x / 2 ^ p.drop.toNat∧x / 2 ^ p.drop.toNat≤2097151)∧J4 .and .i64 (x / 2 ^ p.drop.toNat) (2 ^ p.take.toNat-1)=x / 2 ^ p.drop.toNat % 2 ^ p.take.toNat:=fun x hx =>
   ⟨zpu (by omega),zdp (by omega) hx,zj0 (by omega) (zdp (by omega) hx)⟩
 refine Ax (A8 (fun (s:Nat × List Span)=>s.1≤m.length∧s.2.length≤2 * s.1∧(∀ t∈s.2,0≤t.lo∧t.hi≤2 ^ p.take.toNat-1)∧imgF p.drop.toNat p.take.toNat m []=imgF p.drop.toNat p.take.toNat (m.drop s.1) s.2) (fun s=>m.length-s.1)
   (fun s=>[(2,.ptr 0 1 0 0),(5,.int .i64 (2 ^ p.take.toNat-1)),(6,.ref 1 1 0 s.2.length),(23,Aj m),(24,.int .i64 m.length),(25,.int .i64 s.1)]) (fun s=>[⟨4,1,true,[Cj p]⟩,⟨2,1,false,s.2.map B3⟩]) (fun env _=>[Bm 4 (env 2),Bm 2 (env 6)]) (0,[]) ⟨by simp,by simp,by simp,by simp⟩ ?_ ?_)
 · (with_reducible repeat' (first|(simp(disch:=omega)only[push_cast,↓zz,seval])|refine And.intro ?_ ?_|(first|refine Ab ?_ ?_|refine Aa ?_ ?_)<;>intro hc<;>(try simp only[push_cast] at hc)|omega|intro _))
 rintro⟨k,out⟩ ⟨h1,h2,h2b,h3⟩;simp only at h1 h2 h2b h3;rcases Nat.lt_or_ge k m.length with hk|hk
 · have hx:=mb _ (Au hk)
   rw[drop_at hk,imgF,imgS] at h3;obtain⟨a1,a2,a3⟩:=hsh (nth m k).lo (by omega);obtain⟨b1,b2,b3⟩:=hsh (nth m k).hi (by omega);generalize (nth m k).lo / 2 ^ p.drop.toNat=u at *;generalize (nth m k).hi / 2 ^ p.drop.toNat=v at *;have hbk:2 ^ p.take.toNat-1≤v-u→imgF p.drop.toNat p.take.toNat m []=allS p.take.toNat:=fun h=>by rw[h3,if_pos h]
   have hN:=Ce (allS p.take.toNat) (by simp[allS]);have hEa:=Q3 (A5 (allS p.take.toNat)) (by have:=Ec (allS p.take.toNat);simp[allS] at this;simp[allS];omega);refine W_T ?_;(with_reducible repeat' (first|(simp(disch:=omega)only[push_cast,↓zz,seval,a1,a3,b1,b3,allS,Aj,B3,List.map_cons,List.map_nil,C8])|refine And.intro ?_ ?_|(first|refine Ab ?_ ?_|refine Aa ?_ ?_)<;>intro hc<;>(try simp only[push_cast] at hc)|refine eK hN ?_|refine eQ hN ?_|refine eG hN ?_|refine eK hEa ?_|refine eQ hEa ?_|refine eG hEa ?_|((first|refine cK hN ?_|refine cQ hN ?_|refine cG hN ?_|refine cK hEa ?_|refine cQ hEa ?_|refine cG hEa ?_);(simp(disch:=omega)only[push_cast,↓zz,seval,a1,a3,b1,b3,allS,Aj,B3,List.map_cons,List.map_nil,C8]);(fail_if_success change False))|omega|intro _))
   · rw[hbk (by assumption),if_pos (by assumption)];rfl
   · rw[hbk (by assumption),if_neg (by assumption)]
     have hal:allS p.take.toNat=[⟨0,2 ^ p.take.toNat-1⟩]:=rfl;rw[hal];have h2c:∀ t∈[(⟨0,2 ^ p.take.toNat-1⟩:Span)],0≤t.lo∧t.hi≤2 ^ p.take.toNat-1:=by simp
     have hu:p.take≤6:=by omega
     have h64:(2:Int) ^ p.take.toNat≤64:=by
       have e:=Nat.pow_le_pow_right (n:=2) (by decide) (show p.take.toNat≤6 by omega);have e2:((2 ^ p.take.toNat:Nat):Int)=2 ^ p.take.toNat:=by simp
       omega
     have hmm:∀ v,memL (A5 [⟨0,2 ^ p.take.toNat-1⟩]) v→0≤v∧v≤2 ^ p.take.toNat-1:=fun v hv=>by
       obtain⟨t,ht1,ht2,ht3⟩:=(((Av _).2 v).1 hv).1;have:=h2c t ht1;omega
     have hsy:Syms (A5 [⟨0,2 ^ p.take.toNat-1⟩]):=z2d (Av _).1 fun v hv=>by have:=hmm v hv;omega
     have hNN:A5 (A5 [⟨0,2 ^ p.take.toNat-1⟩])=A5 [⟨0,2 ^ p.take.toNat-1⟩]:=Ra (Av _).1 fun s hs=>by have:=hsy.2 s hs;omega
     rw[hNN];have hit:=Q2 (A5 [⟨0,2 ^ p.take.toNat-1⟩]) (by have:=hsy.len;omega) (by intro s hs;have:=hsy.2 s hs;omega);have hln:=hsy.nums;have hmem:∀ k,k<(Ej (A5 [⟨0,2 ^ p.take.toNat-1⟩])).length→0≤nth (Ej (A5 [⟨0,2 ^ p.take.toNat-1⟩])) k∧nth (Ej (A5 [⟨0,2 ^ p.take.toNat-1⟩])) k≤63:=fun k hk=>by have:=hmm _ (Il.1 (Au hk));omega
     generalize A5 [⟨0,2 ^ p.take.toNat-1⟩]=M at *;generalize Ej M=l at *
     refine Vh (z4r (σ:=Nat × List Span) (fun k s=>s.2=(l.take k).map (fun x=>oneS (x * 2 ^ p.up.toNat))∧s.2.length≤k) [(2,.ptr 0 1 0 0),(11,.ptr 1 1 0 0),(84,.fn 204 [.cptr (Aj M)])] (fun s=>[⟨4,1,true,[Cj p]⟩,⟨1,1,true,[.ref 2 s.1 0 s.2.length]⟩,⟨2,s.1,false,s.2.map B3⟩])
       [.grp 0,.grp 4,.virt 2] 3 (1,[]) hit ?_ (fun _=>rfl) rfl ?_ rfl rfl (Q9 _) (Wb _) (by simp) ⟨by simp,by simp⟩ ?_ ?_)
     · (with_reducible repeat' (first|(simp(disch:=omega)only[push_cast,↓zz,seval,hNN])|refine And.intro ?_ ?_|(first|refine Ab ?_ ?_|refine Aa ?_ ?_)<;>intro hc<;>(try simp only[push_cast] at hc)|omega|intro _))
     · (with_reducible repeat' (first|(simp(disch:=omega)only[push_cast,↓zz,seval])|refine And.intro ?_ ?_|(first|refine Ab ?_ ?_|refine Aa ?_ ?_)<;>intro hc<;>(try simp only[push_cast] at hc)|omega|intro _))
     · rintro k row ⟨v,o⟩ hrow ⟨h1,h2⟩
       simp only at h1 h2;obtain⟨hk,rfl⟩:=zdo hrow;have hxb:=hmem k hk;have hw3:=z2f (x:=nth l k) (n:=p.up.toNat) (by omega) (by omega)
       have hstep:(l.take (k+1)).map (fun x=>oneS (x * 2 ^ p.up.toNat))=o++[oneS (nth l k * 2 ^ p.up.toNat)]:=by
         rw[take_at hk,List.map_append,←h1];rfl
       generalize nth l k=x at *;refine W_T ?_;(with_reducible repeat' (first|(simp(disch:=omega)only[push_cast,↓zz,seval])|refine And.intro ?_ ?_|(first|refine Ab ?_ ?_|refine Aa ?_ ?_)<;>intro hc<;>(try simp only[push_cast] at hc)|omega|intro _));refine W_T ?_;(with_reducible repeat' (first|(simp(disch:=omega)only[push_cast,↓zz,seval,hw3])|refine And.intro ?_ ?_|(first|refine Ab ?_ ?_|refine Aa ?_ ?_)<;>intro hc<;>(try simp only[push_cast] at hc)|omega|intro _));exact⟨(v+1,o++[oneS (x * 2 ^ p.up.toNat)]),⟨⟨rfl,by simp⟩,rfl,by rw[List.map_append];exact Bf _ _⟩,hstep.symm,by simp;omega⟩
     · rintro⟨v,o⟩ ⟨h1,h2⟩
       simp only[List.length_map] at h1 h2;rw[List.take_length] at h1;rw[←h1];have hN2:=Ce o (by omega);(with_reducible repeat' (first|(simp(disch:=omega)only[push_cast,↓zz,seval,C8])|refine And.intro ?_ ?_|(first|refine Ab ?_ ?_|refine Aa ?_ ?_)<;>intro hc<;>(try simp only[push_cast] at hc)|refine eK hN2 ?_|refine eQ hN2 ?_|refine eG hN2 ?_|((first|refine cK hN2 ?_|refine cQ hN2 ?_|refine cG hN2 ?_);(simp(disch:=omega)only[push_cast,↓zz,seval,C8]);(fail_if_success change False))|omega|intro _))
   all_goals rw[if_neg (by assumption)] at h3
   · rw[if_pos (by assumption)] at h3
     exact⟨(k+1,out++[⟨u % 2 ^ p.take.toNat,v % 2 ^ p.take.toNat⟩]),⟨⟨by simp,by simp⟩,by rw[List.map_append];exact Bf _ _⟩,⟨by simp only;omega,by simp;omega,fun t ht=>by
       rcases List.mem_append.1 ht with ht|ht
       · exact h2b t ht
       · simp only[List.mem_singleton] at ht
         subst ht;have m0:=Int.emod_nonneg u (b:=2 ^ p.take.toNat) (by omega);have m1:=Int.emod_lt_of_pos v (b:=2 ^ p.take.toNat) (by omega)
         exact⟨m0,by simp only;omega⟩,h3⟩,by simp only;omega⟩
   · rw[if_neg (by assumption)] at h3
     exact⟨(k+1,out++[⟨0,v % 2 ^ p.take.toNat⟩,⟨u % 2 ^ p.take.toNat,2 ^ p.take.toNat-1⟩]),⟨⟨by simp,by simp⟩,by rw[List.map_append];exact Bf _ _⟩,⟨by simp only;omega,by simp;omega,fun t ht=>by
       rcases List.mem_append.1 ht with ht|ht
       · exact h2b t ht
       · have m0:=Int.emod_nonneg u (b:=2 ^ p.take.toNat) (by omega)
         have m1:=Int.emod_lt_of_pos v (b:=2 ^ p.take.toNat) (by omega);simp only[List.mem_cons,List.not_mem_nil,or_false] at ht;rcases ht with rfl|rfl
         · exact⟨Int.le_refl _,by simp only;omega⟩
         · exact⟨m0,Int.le_refl _⟩,h3⟩,by simp only;omega⟩
 · rw[List.drop_of_length_le hk,imgF] at h3
   rw[h3];have hN:=Ce out (by omega);have hEa:=Q3 (A5 out) (by have:=Ec out;omega);refine W_T ?_;(with_reducible repeat' (first|(simp(disch:=omega)only[push_cast,↓zz,seval])|refine And.intro ?_ ?_|(first|refine Ab ?_ ?_|refine Aa ?_ ?_)<;>intro hc<;>(try simp only[push_cast] at hc)|refine eK hN ?_|refine eQ hN ?_|refine eG hN ?_|refine eK hEa ?_|refine eQ hEa ?_|refine eG hEa ?_|((first|refine cK hN ?_|refine cQ hN ?_|refine cG hN ?_|refine cK hEa ?_|refine cQ hEa ?_|refine cG hEa ?_);(simp(disch:=omega)only[push_cast,↓zz,seval]);(fail_if_success change False))|omega|intro _))
   · rw[if_pos (by assumption)]
   · rw[if_neg (by assumption)]
     have hu:p.take≤6:=by omega
     have h64:(2:Int) ^ p.take.toNat≤64:=by
       have e:=Nat.pow_le_pow_right (n:=2) (by decide) (show p.take.toNat≤6 by omega);have e2:((2 ^ p.take.toNat:Nat):Int)=2 ^ p.take.toNat:=by simp
       omega
     have hmm:∀ v,memL (A5 out) v→0≤v∧v≤2 ^ p.take.toNat-1:=fun v hv=>by
       obtain⟨t,ht1,ht2,ht3⟩:=(((Av _).2 v).1 hv).1;have:=h2b t ht1;omega
     have hsy:Syms (A5 out):=z2d (Av _).1 fun v hv=>by have:=hmm v hv;omega
     have hNN:A5 (A5 out)=A5 out:=Ra (Av _).1 fun s hs=>by have:=hsy.2 s hs;omega
     rw[hNN];have hit:=Q2 (A5 out) (by have:=hsy.len;omega) (by intro s hs;have:=hsy.2 s hs;omega);have hln:=hsy.nums;have hmem:∀ k,k<(Ej (A5 out)).length→0≤nth (Ej (A5 out)) k∧nth (Ej (A5 out)) k≤63:=fun k hk=>by have:=hmm _ (Il.1 (Au hk));omega
     generalize A5 out=M at *;generalize Ej M=l at *
     refine Vh (z4r (σ:=Nat × List Span) (fun k s=>s.2=(l.take k).map (fun x=>oneS (x * 2 ^ p.up.toNat))∧s.2.length≤k) [(2,.ptr 0 1 0 0),(11,.ptr 1 1 0 0),(84,.fn 204 [.cptr (Aj M)])] (fun s=>[⟨4,1,true,[Cj p]⟩,⟨1,1,true,[.ref 2 s.1 0 s.2.length]⟩,⟨2,s.1,false,s.2.map B3⟩])
       [.grp 0,.grp 2,.virt 2] 3 (1,[]) hit ?_ (fun _=>rfl) rfl ?_ rfl rfl (Q9 _) (Wb _) (by simp) ⟨by simp,by simp⟩ ?_ ?_)
     · (with_reducible repeat' (first|(simp(disch:=omega)only[push_cast,↓zz,seval,hNN])|refine And.intro ?_ ?_|(first|refine Ab ?_ ?_|refine Aa ?_ ?_)<;>intro hc<;>(try simp only[push_cast] at hc)|omega|intro _))
     · (with_reducible repeat' (first|(simp(disch:=omega)only[push_cast,↓zz,seval])|refine And.intro ?_ ?_|(first|refine Ab ?_ ?_|refine Aa ?_ ?_)<;>intro hc<;>(try simp only[push_cast] at hc)|omega|intro _))
     · rintro k row ⟨v,o⟩ hrow ⟨h1,h2⟩
       simp only at h1 h2;obtain⟨hk,rfl⟩:=zdo hrow;have hxb:=hmem k hk;have hw3:=z2f (x:=nth l k) (n:=p.up.toNat) (by omega) (by omega)
       have hstep:(l.take (k+1)).map (fun x=>oneS (x * 2 ^ p.up.toNat))=o++[oneS (nth l k * 2 ^ p.up.toNat)]:=by
         rw[take_at hk,List.map_append,←h1];rfl
       generalize nth l k=x at *;refine W_T ?_;(with_reducible repeat' (first|(simp(disch:=omega)only[push_cast,↓zz,seval])|refine And.intro ?_ ?_|(first|refine Ab ?_ ?_|refine Aa ?_ ?_)<;>intro hc<;>(try simp only[push_cast] at hc)|omega|intro _));refine W_T ?_;(with_reducible repeat' (first|(simp(disch:=omega)only[push_cast,↓zz,seval,hw3])|refine And.intro ?_ ?_|(first|refine Ab ?_ ?_|refine Aa ?_ ?_)<;>intro hc<;>(try simp only[push_cast] at hc)|omega|intro _));exact⟨(v+1,o++[oneS (x * 2 ^ p.up.toNat)]),⟨⟨rfl,by simp⟩,rfl,by rw[List.map_append];exact Bf _ _⟩,hstep.symm,by simp;omega⟩
     · rintro⟨v,o⟩ ⟨h1,h2⟩
       simp only[List.length_map] at h1 h2;rw[List.take_length] at h1;rw[←h1];have hN2:=Ce o (by omega);(with_reducible repeat' (first|(simp(disch:=omega)only[push_cast,↓zz,seval,C8])|refine And.intro ?_ ?_|(first|refine Ab ?_ ?_|refine Aa ?_ ?_)<;>intro hc<;>(try simp only[push_cast] at hc)|refine eK hN2 ?_|refine eQ hN2 ?_|refine eG hN2 ?_|((first|refine cK hN2 ?_|refine cQ hN2 ?_|refine cG hN2 ?_);(simp(disch:=omega)only[push_cast,↓zz,seval,C8]);(fail_if_success change False))|omega|intro _))
       all_goals trace_state
def Low (n:Nat) (l:List Span):Prop:=Plain l∧∀ s∈l,0≤s.lo∧s.lo≤s.hi∧s.hi≤2 ^ n-1
theorem zdq:∀ {l:List Span} {f N:Nat},Plain l→(∀ s∈l,(f:Int)≤s.lo∧s.hi<N)→f≤N→l.length+f≤N
 | [],f,N,_,_,hf=>by simpa using hf
 | s::l,f,N,h,hb,hf=>by
   have h1:=hb s (by simp);have h2:=h.head
   have:=zdq (l:=l) (f:=(s.hi+1).toNat) (N:=N) h.tail (fun t ht=>by
     have:=(List.pairwise_cons.1 h.2).1 t ht;have:=hb t (by simp[ht])
     omega) (by omega)
   simp only[List.length_cons];omega
theorem Low.len {n:Nat} {l:List Span} (h:Low n l):(l.length:Int)≤2 ^ n:=by
 have e:((2 ^ n:Nat):Int)=2 ^ n:=by simp
 have:=zdq (f:=0) (N:=2 ^ n) h.1 (fun s hs=>by have:=h.2 s hs;simp only[Int.ofNat_zero];omega) (Nat.zero_le _);omega
theorem z5z {α:Type} {f:α→List Span}:∀ {l:List α} {v:Int},memL (l.flatMap f) v↔∃ x∈l,memL (f x) v
 | [],v=>by simp[memL]
 | x::l,v=>by
   rw[List.flatMap_cons,D5,z5z];constructor
   · rintro (h|⟨y,hy,h⟩)
     · exact⟨x,by simp,h⟩
     · exact⟨y,by simp[hy],h⟩
   · rintro⟨y,hy,h⟩
     rcases List.mem_cons.1 hy with rfl|hy
     · exact .inl h
     · exact .inr ⟨y,hy,h⟩
theorem zj1 {l:List Span} {d:Int} (hd:-2147483648≤d∧d≤2147483648) {v:Int}:memL (Om l d) v↔(memL l (v-d)∧-1073741824≤v-d∧v-d≤1073741824)∧-1073741824≤v∧v≤1073741824:=by
 obtain⟨p1,p2⟩:=Av l;obtain⟨q1,q2⟩:=Av ((A5 l).map (F8 d));rw[Om,if_neg (by omega),q2 v,←p2 (v-d)]
 have:memL ((A5 l).map (F8 d)) v↔memL (A5 l) (v-d):=by
   constructor
   · rintro⟨s,hs,h1,h2⟩
     obtain⟨t,ht,rfl⟩:=List.mem_map.1 hs;exact⟨t,ht,by simp only[F8] at h1;omega,by simp only[F8] at h2;omega⟩
   · rintro⟨t,ht,h1,h2⟩
     exact⟨F8 d t,List.mem_map.2 ⟨t,ht,rfl⟩,by simp only[F8];omega,by simp only[F8];omega⟩
 rw[this]
theorem Ek {p:Part} {x:Int} (hb:Fh p=true) (hx:0≤x∧x≤2097151):0≤valP p x∧valP p x≤66060288:=by
 have hbi:=L8.1 hb;have ht:=Ol p.take.toNat (by omega);have hu:=Ol p.up.toNat (by omega);have m0:=Int.emod_nonneg (x / 2 ^ p.drop.toNat) (b:=2 ^ p.take.toNat) (by omega);have m1:=Int.emod_lt_of_pos (x / 2 ^ p.drop.toNat) (b:=2 ^ p.take.toNat) (by omega);have hq:=zdp (d:=p.drop.toNat) (by omega) hx
 have m2:x / 2 ^ p.drop.toNat % 2 ^ p.take.toNat≤x / 2 ^ p.drop.toNat:=by
   have h1:=Int.emod_add_mul_ediv (x / 2 ^ p.drop.toNat) (2 ^ p.take.toNat);have h2:0≤2 ^ p.take.toNat * (x / 2 ^ p.drop.toNat / 2 ^ p.take.toNat):=Int.mul_nonneg (by omega) (Int.ediv_nonneg hq.1 (by omega));omega
 rw[valP];refine⟨Int.mul_nonneg m0 (by omega),?_⟩;rcases hbi.2.2.2.2.2.2 with h0|h6
 · rw[h0,show (2:Int) ^ (0:Int).toNat=1 by decide,Int.mul_one];omega
 · have e:=Nat.pow_le_pow_right (n:=2) (by decide) (show p.take.toNat≤6 by omega)
   have e2:((2 ^ p.take.toNat:Nat):Int)=2 ^ p.take.toNat:=by simp
   have e3:=Nat.pow_le_pow_right (n:=2) (by decide) (show p.up.toNat≤20 by omega);have e4:((2 ^ p.up.toNat:Nat):Int)=2 ^ p.up.toNat:=by simp
   have:x / 2 ^ p.drop.toNat % 2 ^ p.take.toNat * 2 ^ p.up.toNat≤63 * 1048576:=Int.mul_le_mul (by omega) (by omega) (by omega) (by omega);omega
theorem zdr {t:Term} {p:Part} {x:Int} (hp:t.parts=[p]) (hr:Do p 1=true) (ho:Fh t.outer=true) (hs:B4 t.sum=true) (hbs:B4 t.base=true) (hx:0≤x∧x≤1114111) :
   D6 t [x]=if 0≤t.sum+valP p x∧t.sum+valP p x≤1114111 then some (t.base+valP t.outer (t.sum+valP p x)) else none:=by
 have hra:=Ai hr;have hbp:Fh p=true:=by simp only[Do,Bool.and_eq_true] at hr;exact hr.2
 have hv:=Ek hbp (x:=x) (by omega);have hsm:=Gg hs;have hbm:=Gg hbs;have e1:val1 p x=valP p x:=(M4 hbp (by omega)).2
 have hsum:sumP [x] t.parts t.sum=some (t.sum+valP p x):=by
   rw[hp,sumP,if_pos (by simpa using hr),sumP];have:nth [x] p.at_.toNat=x:=by rw[show p.at_.toNat=0 by omega];rfl
   rw[this,e1,show IntKind.i64.wrap (t.sum+valP p x)=t.sum+valP p x from IntWalk.i64_in _ (by omega)]
 have hsy:[x].all symB=true:=by simp[symB];omega
 unfold D6;rw[if_pos hsy,hsum];simp only;by_cases h:0≤t.sum+valP p x∧t.sum+valP p x≤1114111
 · have hvb:valB t.outer (t.sum+valP p x)=true:=(M4 ho (by omega)).1
   have hv2:=Ek ho (x:=t.sum+valP p x) (by omega);rw[if_pos h,if_pos (by simp[hvb];omega),show IntKind.i64.wrap (t.base+valP t.outer (t.sum+valP p x))=t.base+valP t.outer (t.sum+valP p x) from IntWalk.i64_in _ (by omega)]
 · rw[if_neg h,if_neg]
   simp only[valB,ho,Bool.true_and,Bool.and_eq_true,decide_eq_true_eq];omega
theorem zj2 (s:List Span):E0 (A5 s) (A5 [⟨0,1114111⟩])=symI s:=by rw[symI,z8r]
theorem zj3 (l:List Span) (d:Int):(Om l d).length≤l.length:=by
 unfold Om;split
 · simp
 · have h1:=Ec ((A5 l).map (F8 d))
   have h2:=Ec l;simp only[List.length_map] at h1;omega
end Go.Proofs.YtbcjoeadpjfcfaaGreat
namespace Go.Proofs.YtbcjoeadpjfcfaaGreat
open Abs
def sumS (x y:Span):Span:=⟨x.lo+y.lo,x.hi+y.hi⟩
def z2g (a b:List Span):List Span:=a.flatMap fun x=>b.map (sumS x)
def Zn (a b:List Span):List Span:=A5 (z2g a b)
theorem z8s (x:Span) (a b:List Span):z2g (x::a) b=b.map (sumS x)++z2g a b:=rfl
theorem z8t {l m:List Span} (h:∀ v,-1073741824≤v∧v≤1073741824→(memL l v↔memL m v)):A5 l=A5 m:=by
 obtain⟨p1,p2⟩:=Av l;obtain⟨q1,q2⟩:=Av m;refine I8 p1 q1 fun v=>?_;rw[p2,q2];constructor
 · rintro⟨h1,h2,h3⟩;exact⟨(h v ⟨h2,h3⟩).1 h1,h2,h3⟩
 · rintro⟨h1,h2,h3⟩;exact⟨(h v ⟨h2,h3⟩).2 h1,h2,h3⟩
theorem zds {l m:List Span}:A5 (A5 l++m)=A5 (l++m):=z8t fun v hv=>by
 rw[D5,D5,(Av l).2 v];constructor
 · rintro (⟨h,_⟩|h)
   · exact .inl h
   · exact .inr h
 · rintro (h|h)
   · exact .inl ⟨h,hv⟩
   · exact .inr h
theorem Zo:∀ {l:List Span} {f:Nat},Plain l→(∀ s∈l,(f:Int)-1073741824≤s.lo∧s.hi≤1073741824)→f≤2147483649→l.length+f≤2147483649
 | [],f,_,_,hf=>by simpa using hf
 | s::l,f,h,hb,hf=>by
   have h1:=hb s (by simp);have h2:=h.head
   have:=Zo (l:=l) (f:=(s.hi+1073741825).toNat) h.tail (fun t ht=>by
     have:=(List.pairwise_cons.1 h.2).1 t ht;have:=hb t (by simp[ht])
     omega) (by omega)
   simp only[List.length_cons];omega
theorem Rb (l:List Span):(A5 l).length≤2147483649:=by
 have:=Zo (f:=0) (Av l).1 (fun s hs=>by have:=E3 l s hs;simp only[Int.ofNat_zero];omega) (by omega);omega
def Bd (l:List Span):Prop:=∀ s∈l,(-1099511627776≤s.lo∧s.lo≤1099511627776)∧-1099511627776≤s.hi∧s.hi≤1099511627776
theorem z8u (l:List Span) (hl:l.length≤1000000000000):Be Tryz.prog 181 [Aj l] (Abs.hl []) fun y H'=>y=.ref 0 1 0 (A5 l).length∧H'=Abs.hl [⟨2,1,false,(A5 l).map B3⟩] :=
 X9 (by omega) ((M8 l hl).mono fun y H' ⟨rest,h1,h2⟩=>⟨rest.map B3,h1,by rw[h2,List.map_append]⟩)
theorem zdt (a b:List Span) (la:a.length≤3000000000) (lb:b.length≤3000000000) (ha:Bd a) (hb:Bd b):PC Tryz.prog 200 [Aj a,Aj b] (Aj (Zn a b)):=by
 refine A7 z1o ?_;unfold Qr;(with_reducible repeat' (first|(simp(disch:=omega)only[push_cast,↓zz,seval])|refine And.intro ?_ ?_|(first|refine Ab ?_ ?_|refine Aa ?_ ?_)<;>intro hc<;>(try simp only[push_cast] at hc)|omega|intro _))
 refine Ax (A8 (fun (s:Nat × List Span)=>s.1≤a.length∧s.2.length≤2147483649∧Zn a b=A5 (s.2++z2g (a.drop s.1) b)) (fun s=>a.length-s.1)
   (fun s=>[(1,Aj b),(5,.ref 0 1 0 s.2.length),(10,Aj a),(11,.int .i64 a.length),(12,.int .i64 s.1)]) (fun s=>[⟨2,1,false,s.2.map B3⟩]) (fun env _=>[Bm 2 (env 5)]) (0,[]) ⟨by simp,by simp,by simp[Zn]⟩ ?_ ?_)
 · (with_reducible repeat' (first|(simp(disch:=omega)only[push_cast,↓zz,seval])|refine And.intro ?_ ?_|(first|refine Ab ?_ ?_|refine Aa ?_ ?_)<;>intro hc<;>(try simp only[push_cast] at hc)|omega|intro _))
 rintro⟨k,out⟩ ⟨h1,h2,h3⟩;simp only at h1 h2 h3;rcases Nat.lt_or_ge k a.length with hk|hk
 · rw[drop_at hk,z8s,←List.append_assoc] at h3
   have hx:=ha _ (Au hk);generalize hxe:nth a k=x at *;refine W_T ?_;(with_reducible repeat' (first|(simp(disch:=omega)only[push_cast,↓zz,seval,hxe])|refine And.intro ?_ ?_|(first|refine Ab ?_ ?_|refine Aa ?_ ?_)<;>intro hc<;>(try simp only[push_cast] at hc)|omega|intro _))
   refine Ax (A8 (fun (s:Nat × List Span)=>s.1≤b.length∧s.2=out++(b.take s.1).map (sumS x)∧s.2.length=out.length+s.1) (fun s=>b.length-s.1)
     (fun s=>[(1,Aj b),(5,.ref 0 1 0 s.2.length),(7,.ptr 1 1 0 0),(10,Aj a),(11,.int .i64 a.length),(12,.int .i64 k),(16,Aj b),(17,.int .i64 b.length),(18,.int .i64 s.1)]) (fun s=>[⟨2,1,false,s.2.map B3⟩,⟨2,1,true,[B3 x]⟩]) (fun env _=>[Bm 2 (env 5),Bm 2 (env 7)]) (0,out) ⟨by simp,by simp,by simp⟩ ?_ ?_)
   · (with_reducible repeat' (first|(simp(disch:=omega)only[push_cast,↓zz,seval])|refine And.intro ?_ ?_|(first|refine Ab ?_ ?_|refine Aa ?_ ?_)<;>intro hc<;>(try simp only[push_cast] at hc)|omega|intro _))
   rintro⟨j,o⟩ ⟨g1,g2,g3⟩;simp only at g1 g2 g3;rcases Nat.lt_or_ge j b.length with hj|hj
   · have hy:=hb _ (Au hj)
     have hstep:out++(b.take (j+1)).map (sumS x)=o++[sumS x (nth b j)]:=by rw[take_at hj,List.map_append,←List.append_assoc,←g2];rfl
     generalize hye:nth b j=y at *;have hw1:IntKind.i64.wrap (x.lo+y.lo)=x.lo+y.lo:=IntWalk.i64_in _ (by omega);have hw2:IntKind.i64.wrap (x.hi+y.hi)=x.hi+y.hi:=IntWalk.i64_in _ (by omega);clear g2;refine W_T ?_;(with_reducible repeat' (first|(simp(disch:=omega)only[push_cast,↓zz,seval,hye,hw1,hw2])|refine And.intro ?_ ?_|(first|refine Ab ?_ ?_|refine Aa ?_ ?_)<;>intro hc<;>(try simp only[push_cast] at hc)|omega|intro _));refine⟨(j+1,o++[sumS x y]),?_⟩;(with_reducible repeat' (first|(simp(disch:=omega)only[push_cast,↓zz,seval,sumS,hstep])|refine And.intro ?_ ?_|(first|refine Ab ?_ ?_|refine Aa ?_ ?_)<;>intro hc<;>(try simp only[push_cast] at hc)|omega|intro _))
   · obtain rfl:j=b.length:=by omega
     rw[List.take_length] at g2;rw[←g2] at h3;clear g2;have hno:=Rb o;have hap:=@zds o (z2g (a.drop (k+1)) b);refine W_T ?_;(with_reducible repeat' (first|(simp(disch:=omega)only[push_cast,↓zz,seval])|refine And.intro ?_ ?_|(first|refine Ab ?_ ?_|refine Aa ?_ ?_)<;>intro hc<;>(try simp only[push_cast] at hc)|omega|intro _))
     · (refine zpa (ys:=[Aj o]) ?_ ?_ ?_<;>(simp(disch:=omega)only[push_cast,↓zz,seval]))
       (refine Vj [] (z8u o (by omega)) (by decide) (by simp) (by (simp(disch:=omega)only[push_cast,↓zz,seval])) (by (simp(disch:=omega)only[push_cast,↓zz,seval])) (by (simp(disch:=omega)only[push_cast,↓zz,seval])) (by (simp(disch:=omega)only[push_cast,↓zz,seval,List.mem_cons,List.not_mem_nil,or_false,forall_eq_or_imp,forall_eq,List.forall_mem_nil])) ?_)
       rintro y H' ⟨rfl,rfl⟩;refine⟨_,rfl,by simp,?_⟩;(with_reducible repeat' (first|(simp(disch:=omega)only[push_cast,↓zz,seval])|refine And.intro ?_ ?_|(first|refine Ab ?_ ?_|refine Aa ?_ ?_)<;>intro hc<;>(try simp only[push_cast] at hc)|omega|intro _));refine⟨(k+1,A5 o),?_⟩;(with_reducible repeat' (first|(simp(disch:=omega)only[push_cast,↓zz,seval,hap])|refine And.intro ?_ ?_|(first|refine Ab ?_ ?_|refine Aa ?_ ?_)<;>intro hc<;>(try simp only[push_cast] at hc)|omega|intro _))
     · refine⟨(k+1,o),?_⟩
       (with_reducible repeat' (first|(simp(disch:=omega)only[push_cast,↓zz,seval])|refine And.intro ?_ ?_|(first|refine Ab ?_ ?_|refine Aa ?_ ?_)<;>intro hc<;>(try simp only[push_cast] at hc)|omega|intro _))
 · rw[List.drop_of_length_le hk,show z2g [] b=[] from rfl,List.append_nil] at h3
   have hN:=Ce out (by omega);refine W_T ?_;(with_reducible repeat' (first|(simp(disch:=omega)only[push_cast,↓zz,seval,h3,C8])|refine And.intro ?_ ?_|(first|refine Ab ?_ ?_|refine Aa ?_ ?_)<;>intro hc<;>(try simp only[push_cast] at hc)|refine eK hN ?_|refine eQ hN ?_|refine eG hN ?_|((first|refine cK hN ?_|refine cQ hN ?_|refine cG hN ?_);(simp(disch:=omega)only[push_cast,↓zz,seval,h3,C8]);(fail_if_success change False))|omega|intro _))
   all_goals trace_state
def totV (l:List Part) (x:Int):Int:=(l.map fun p=>valP p x).sum
theorem zj4 (x:Int):totV [] x=0:=rfl
theorem zdu (l:List Part) (p:Part) (x:Int):totV (l++[p]) x=totV l x+valP p x:=by simp[totV]
theorem Rc {x:Int} (hx:0≤x∧x≤2097151):∀ {l:List Part},(∀ p∈l,Fh p=true)→0≤totV l x∧totV l x≤l.length * 66060288
 | [],_=>by simp[totV]
 | p::l,h=>by
   have h1:=Ek (h p (by simp)) hx;have h2:=Rc hx (l:=l) fun q hq=>h q (by simp[hq]);have e:totV (p::l) x=valP p x+totV l x:=by simp[totV]
   rw[e,List.length_cons]
   push_cast
   omega
def togF (l:List Part) (out:List Span) (x:Int):List Span:=addS out ⟨totV l x,totV l x⟩
def togL (l:List Part) (s:List Span):List Span :=
 if l.length=1 then imgL (nth l 0) s else A5 ((Ej (A5 s)).foldl (togF l) [])
theorem We (l:List Part) (s:List Span) (hl:l.length≤1000) (hb:∀ p∈l,Fh p=true) (hs:s.length≤10000000000) (hsy:Syms (A5 s)) :
   PC Tryz.prog 201 [Bg l,Aj s] (Aj (togL l s)):=by
 have hln:=hsy.nums;have hls:=hsy.len;have hmem:∀ k,k<(Ej (A5 s)).length→0≤nth (Ej (A5 s)) k∧nth (Ej (A5 s)) k≤1114111:=fun k hk=>hsy.mem (Il.1 (Au hk));have hit:=Q2 (A5 s) (by omega) (E3 s);have hI:=T8 (nth l 0) s hs;have hE:=Q3 s (by omega);refine A7 Qs ?_;unfold I7;(with_reducible repeat' (first|(simp(disch:=omega)only[push_cast,↓zz,seval])|refine And.intro ?_ ?_|(first|refine Ab ?_ ?_|refine Aa ?_ ?_)<;>intro hc<;>(try simp only[push_cast] at hc)|refine eK hI ?_|refine eQ hI ?_|refine eG hI ?_|refine eK hE ?_|refine eQ hE ?_|refine eG hE ?_|((first|refine cK hI ?_|refine cQ hI ?_|refine cG hI ?_|refine cK hE ?_|refine cQ hE ?_|refine cG hE ?_);(simp(disch:=omega)only[push_cast,↓zz,seval]);(fail_if_success change False))|omega|intro _))
 · rw[togL,if_pos (by omega)]
 rw[togL,if_neg (by omega)];generalize hlne:Ej (A5 s)=m at *
 refine Vh (z4r (σ:=Nat × List Span) (fun k s=>s.2=(m.take k).foldl (togF l) []∧s.2.length≤k) [(2,.ptr 0 1 0 0),(5,.ptr 1 1 0 0),(22,.fn 204 [.cptr (Aj (A5 s))])] (fun s=>[⟨1,1,true,[Bg l]⟩,⟨1,1,true,[.ref 2 s.1 0 s.2.length]⟩,⟨2,s.1,false,s.2.map B3⟩])
   [.grp 0,.grp 1,.virt 2] 3 (1,[]) hit ?_ (fun _=>rfl) rfl ?_ rfl rfl (Q9 _) (Wb _) (by simp) ⟨by simp,by simp⟩ ?_ ?_)
 · (with_reducible repeat' (first|(simp(disch:=omega)only[push_cast,↓zz,seval])|refine And.intro ?_ ?_|(first|refine Ab ?_ ?_|refine Aa ?_ ?_)<;>intro hc<;>(try simp only[push_cast] at hc)|omega|intro _))
 · (with_reducible repeat' (first|(simp(disch:=omega)only[push_cast,↓zz,seval])|refine And.intro ?_ ?_|(first|refine Ab ?_ ?_|refine Aa ?_ ?_)<;>intro hc<;>(try simp only[push_cast] at hc)|omega|intro _))
 · rintro k row ⟨v,out⟩ hrow ⟨h1,h2⟩
   simp only at h1 h2;obtain⟨hk,rfl⟩:=zdo hrow;have hxb:=hmem k hk;have hstep:(m.take (k+1)).foldl (togF l) []=togF l out (nth m k):=by rw[take_at hk,List.foldl_append,←h1];rfl
   generalize nth m k=x at *;refine W_T ?_;(with_reducible repeat' (first|(simp(disch:=omega)only[push_cast,↓zz,seval])|refine And.intro ?_ ?_|(first|refine Ab ?_ ?_|refine Aa ?_ ?_)<;>intro hc<;>(try simp only[push_cast] at hc)|omega|intro _));refine W_T ?_;(with_reducible repeat' (first|(simp(disch:=omega)only[push_cast,↓zz,seval])|refine And.intro ?_ ?_|(first|refine Ab ?_ ?_|refine Aa ?_ ?_)<;>intro hc<;>(try simp only[push_cast] at hc)|omega|intro _))
   refine Ax (A8 (fun (j:Nat)=>j≤l.length) (fun j=>l.length-j)
     (fun j=>[(2,.ptr 0 1 0 0),(5,.ptr 1 1 0 0),(6,.int .i64 x),(7,.int .i64 (totV (l.take j) x)),(24,Bg l),(25,.int .i64 l.length),(26,.int .i64 j)]) (fun _=>[⟨1,1,true,[Bg l]⟩,⟨1,1,true,[.ref 2 v 0 out.length]⟩,⟨2,v,false,out.map B3⟩]) (fun _ _=>[]) 0 (by simp) ?_ ?_)
   · (with_reducible repeat' (first|(simp(disch:=omega)only[push_cast,↓zz,seval,zj4])|refine And.intro ?_ ?_|(first|refine Ab ?_ ?_|refine Aa ?_ ?_)<;>intro hc<;>(try simp only[push_cast] at hc)|omega|intro _))
   intro j hj;rcases Nat.lt_or_ge j l.length with hjl|hjl
   · have hp:=hb _ (Au hjl)
     have hV:=Hv (nth l j) x
     have e1:val1 (nth l j) x=valP (nth l j) x:=by
       have hvb:valB (nth l j) x=true:=by simp[valB,hp];omega
       simp[val1,hvb]
     rw[valV,e1] at hV;have t1:=Rc (x:=x) (by omega) (l:=l.take j) fun q hq=>hb q (List.mem_of_mem_take hq);have t2:=Ek hp (x:=x) (by omega);have hlt:(l.take j).length=j:=by simp;omega
     rw[hlt] at t1;have hw:IntKind.i64.wrap (totV (l.take j) x+valP (nth l j) x)=totV (l.take j) x+valP (nth l j) x:=IntWalk.i64_in _ (by omega);have hn:totV (l.take (j+1)) x=totV (l.take j) x+valP (nth l j) x:=by rw[take_at hjl,zdu]
     refine W_T ?_;(with_reducible repeat' (first|(simp(disch:=omega)only[push_cast,↓zz,seval,hw])|refine And.intro ?_ ?_|(first|refine Ab ?_ ?_|refine Aa ?_ ?_)<;>intro hc<;>(try simp only[push_cast] at hc)|refine eK hV ?_|refine eQ hV ?_|refine eG hV ?_|((first|refine cK hV ?_|refine cQ hV ?_|refine cG hV ?_);(simp(disch:=omega)only[push_cast,↓zz,seval,hw]);(fail_if_success change False))|omega|intro _))
     all_goals exact⟨j+1,⟨hn.symm,by push_cast⟩,by omega,by omega⟩
   · obtain rfl:j=l.length:=by omega
     rw[List.take_length];have t1:=Rc (x:=x) (by omega) (l:=l) hb;rw[togF] at hstep;generalize totV l x=n at *;have hwn:IntKind.i64.wrap (n-1)=n-1:=IntWalk.i64_in _ (by omega);rcases Fx out with rfl|⟨mm,z,hout⟩
     · refine W_T ?_
       (with_reducible repeat' (first|(simp(disch:=omega)only[push_cast,↓zz,seval,hwn])|refine And.intro ?_ ?_|(first|refine Ab ?_ ?_|refine Aa ?_ ?_)<;>intro hc<;>(try simp only[push_cast] at hc)|omega|intro _))
       all_goals
         refine⟨(v+1,[⟨n,n⟩]),?_⟩;rw[Ik] at hstep;(with_reducible repeat' (first|(simp(disch:=omega)only[push_cast,↓zz,seval,hstep])|refine And.intro ?_ ?_|(first|refine Ab ?_ ?_|refine Aa ?_ ?_)<;>intro hc<;>(try simp only[push_cast] at hc)|omega|intro _))
     · have l1:out.length=mm.length+1:=by rw[hout];simp
       have l2:nth out mm.length=z:=by rw[hout];exact ziv
       have l3:IntKind.i64.wrap (mm.length:Int)=mm.length:=IntWalk.i64_in _ (by omega);have l4:(out.map B3).set mm.length (.agg [.int .i64 z.lo,.int .i64 n])=(mm++[(⟨z.lo,n⟩:Span)]).map B3:=by rw[hout];exact Zj (f:=B3) (z:=⟨z.lo,n⟩)
       have hadd:addS out ⟨n,n⟩=if z.hi=n-1 then mm++[⟨z.lo,n⟩] else out++[⟨n,n⟩]:=by rw[hout,Q7]
       rw[hadd] at hstep;clear hadd hout;refine W_T ?_;(with_reducible repeat' (first|(simp(disch:=omega)only[push_cast,↓zz,seval,l1,l2,l3,l4,hwn])|refine And.intro ?_ ?_|(first|refine Ab ?_ ?_|refine Aa ?_ ?_)<;>intro hc<;>(try simp only[push_cast] at hc)|omega|intro _))
       · rw[if_pos (by assumption)] at hstep
         refine⟨(v,mm++[⟨z.lo,n⟩]),?_⟩;(with_reducible repeat' (first|(simp(disch:=omega)only[push_cast,↓zz,seval,hstep])|refine And.intro ?_ ?_|(first|refine Ab ?_ ?_|refine Aa ?_ ?_)<;>intro hc<;>(try simp only[push_cast] at hc)|omega|intro _))
       · rw[if_neg (by assumption)] at hstep
         refine⟨(v+1,out++[⟨n,n⟩]),?_⟩;(with_reducible repeat' (first|(simp(disch:=omega)only[push_cast,↓zz,seval,hstep,l1])|refine And.intro ?_ ?_|(first|refine Ab ?_ ?_|refine Aa ?_ ?_)<;>intro hc<;>(try simp only[push_cast] at hc)|omega|intro _))
 · rintro⟨v,out⟩ ⟨h1,h2⟩
   simp only[List.length_map] at h1 h2;rw[List.take_length] at h1;rw[←h1];have hN:=Ce out (by omega);(with_reducible repeat' (first|(simp(disch:=omega)only[push_cast,↓zz,seval,C8])|refine And.intro ?_ ?_|(first|refine Ab ?_ ?_|refine Aa ?_ ?_)<;>intro hc<;>(try simp only[push_cast] at hc)|refine eK hN ?_|refine eQ hN ?_|refine eG hN ?_|((first|refine cK hN ?_|refine cQ hN ?_|refine cG hN ?_);(simp(disch:=omega)only[push_cast,↓zz,seval,C8]);(fail_if_success change False))|omega|intro _))
   all_goals trace_state
def B1 (pl:List Int) (p:Part):List Int:=if p.at_∈pl then pl else pl++[p.at_]
def B5 (l:List Part):List Int:=l.foldl B1 []
def atL (l:List Part) (a:Int):List Part:=l.filter fun p=>decide (p.at_=a)
def Bc (l:List Part) (sets:List (List Span)) (out:List Span) (a:Int):List Span:=Zn out (togL (atL l a) (nth sets a.toNat))
def Ba (t:Term) (sets:List (List Span)):List Span:=(B5 t.parts).foldl (Bc t.parts sets) [⟨t.sum,t.sum⟩]
def B9 (l:List Span):Bool:=decide (0<(l.length:Int))&&(decide (0≤(Zm (A5 l)).getD 0)&&decide ((z2e (A5 l)).getD 0≤1114111))
def Acc (l:List Span):Prop:=Bd l∧l.length≤2147483649
theorem Re (l:List Span):Acc (A5 l):=by
 refine⟨fun s hs=>?_,Rb l⟩;have:=E3 l s hs;omega
theorem z60 (a b:List Span):Acc (Zn a b):=Re _
theorem Wg (p:Part) (s:List Span):Acc (imgL p s):=by
 unfold imgL
 repeat' split
 all_goals first|exact Re _|exact⟨fun s hs=>(by cases hs),by simp⟩
theorem z61 (l:List Part) (s:List Span):Acc (togL l s):=by
 unfold togL;split
 · exact Wg _ _
 · exact Re _
theorem Cx {x:Int} (h:B4 x=true):Acc [⟨x,x⟩]:=by
 refine⟨fun s hs=>?_,by simp⟩;have:=Gg h;simp only[List.mem_singleton] at hs;subst hs;simp only;omega
structure Cs (l:List Part) (sets:List (List Span)):Prop where
 parts:∀ p∈l,Do p sets.length=true
 syms:∀ s∈sets,Syms s
 many:sets.length≤1000
theorem Zp {s:List Span} (h:Syms s):A5 s=s:=Ra h.1 fun t ht=>by have:=h.2 t ht;omega
theorem Al {l:List Part} {sets:List (List Span)} {out:List Span} {a:Int} (hS:Cs l sets) (hA:Acc out) (ha:0≤a∧a<sets.length) (hl:l.length≤4) :
   PC Tryz.prog 201 [Bg (atL l a),Aj (nth sets a.toNat)] (Aj (togL (atL l a) (nth sets a.toNat)))∧PC Tryz.prog 200 [Aj out,Aj (togL (atL l a) (nth sets a.toNat))] (Aj (Bc l sets out a))∧Acc (Bc l sets out a):=by
 have hm:nth sets a.toNat∈sets:=Au (by omega);have hs:=hS.syms _ hm;refine⟨We _ _ (Nat.le_trans (List.length_filter_le _ _) (by omega)) (fun p hp=>?_) (by have:=hs.len;omega) (by rw[Zp hs];exact hs),zdt _ _ (by have:=hA.2;omega) (by have:=(z61 (atL l a) (nth sets a.toNat)).2;omega) hA.1 (z61 _ _).1,z60 _ _⟩;have:=hS.parts p ((List.mem_filter.1 hp).1);simp only[Do,Bool.and_eq_true] at this;exact this.2
theorem z8v (bs dr tk up sm:Int) (sets:List (List Span)) (hs:B4 sm=true) (hS:Cs [] sets) :
   PC Tryz.prog 196 [Cn ⟨bs,dr,tk,up,sm,[]⟩,Ao sets] (.tup [Aj (Ba ⟨bs,dr,tk,up,sm,[]⟩ sets),.bool (B9 (Ba ⟨bs,dr,tk,up,sm,[]⟩ sets))]):=by
 have hg:=Ah sets;have A0:=Cx hs;have hv:Ba ⟨bs,dr,tk,up,sm,[]⟩ sets=[⟨sm,sm⟩]:=by simp[Ba,B5,B1]
 rw[hv];have hF:=Bp ([⟨sm,sm⟩]) (by have:=A0.2;omega);have hL:=Bu ([⟨sm,sm⟩]) (by have:=A0.2;omega);clear hS hv;refine A7 A9 ?_;unfold A6;(with_reducible repeat' (first|(simp(disch:=omega)only[push_cast,↓zz,seval])|refine And.intro ?_ ?_|(first|refine Ab ?_ ?_|refine Aa ?_ ?_)<;>intro hc<;>(try simp only[push_cast] at hc)|omega|intro _));refine Bb 6 ?_;(with_reducible repeat' (first|(simp(disch:=omega)only[push_cast,↓zz,seval,xx,List.mem_cons,List.not_mem_nil,or_false,false_or,not_or,not_false_eq_true,true_or,or_true,Cb,setM])|refine And.intro ?_ ?_|(first|refine Ab ?_ ?_|refine Aa ?_ ?_)<;>intro hc<;>(try simp only[push_cast] at hc)|refine Am ?_|refine Cm [1] ?_|omega|intro _));refine Bo 6 (fun env=>[Bm 1 (env 6)]) [(1,Ao sets),(6,.map 0 1),(10,Aj [⟨sm,sm⟩]),(53,.lst 1 []),(54,.int .i64 0),(55,.int .i64 0)] [⟨0,1,true,[]⟩] ?_ ?_
 · (with_reducible repeat' (first|(simp(disch:=omega)only[push_cast,↓zz,seval])|refine And.intro ?_ ?_|(first|refine Ab ?_ ?_|refine Aa ?_ ?_)<;>intro hc<;>(try simp only[push_cast] at hc)|omega|intro _))
   all_goals (simp only[Cj];done)
 (with_reducible repeat' (first|(simp(disch:=omega)only[push_cast,↓zz,seval,Cb,B9,hg])|refine And.intro ?_ ?_|(first|refine Ab ?_ ?_|refine Aa ?_ ?_)<;>intro hc<;>(try simp only[push_cast] at hc)|refine eK hF ?_|refine eQ hF ?_|refine eG hF ?_|refine eK hL ?_|refine eQ hL ?_|refine eG hL ?_|refine Am ?_|((first|refine cK hF ?_|refine cQ hF ?_|refine cG hF ?_|refine cK hL ?_|refine cQ hL ?_|refine cG hL ?_);(simp(disch:=omega)only[push_cast,↓zz,seval,Cb,B9,hg]);(fail_if_success change False))|omega|intro _))
 all_goals ((try simp only[*,decide_true,decide_false,Bool.true_and,Bool.false_and]);(repeat' (first|(simp(disch:=omega)only[push_cast,↓zz,seval,B8])|omega|(with_reducible refine And.intro ?_ ?_))))
theorem zj5 (bs dr tk up sm:Int) (sets:List (List Span)) (hs:B4 sm=true) (hS:Cs [] sets) :
   PC Tryz.prog 196 [Cn ⟨bs,dr,tk,up,sm,[]⟩,Ao sets] (.tup [Aj (Ba ⟨bs,dr,tk,up,sm,[]⟩ sets),.bool (B9 (Ba ⟨bs,dr,tk,up,sm,[]⟩ sets))]):=by
 exact z8v bs dr tk up sm  sets hs hS 
theorem z8w (bs dr tk up sm:Int) (p0:Part) (sets:List (List Span)) (hs:B4 sm=true) (hS:Cs [p0] sets) :
   PC Tryz.prog 196 [Cn ⟨bs,dr,tk,up,sm,[p0]⟩,Ao sets] (.tup [Aj (Ba ⟨bs,dr,tk,up,sm,[p0]⟩ sets),.bool (B9 (Ba ⟨bs,dr,tk,up,sm,[p0]⟩ sets))]):=by
 have hg:=Ah sets;have b0:=Ai (hS.parts p0 (by simp));have A0:=Cx hs;obtain⟨T1,P1,A1⟩:=Al (a:=p0.at_) hS A0 (by omega) (by simp);have l1:atL [p0] p0.at_=[p0]:=by simp[atL]
 rw[l1] at T1 P1;have hv:Ba ⟨bs,dr,tk,up,sm,[p0]⟩ sets=Bc [p0] sets ([⟨sm,sm⟩]) p0.at_:=by simp[Ba,B5,B1]
 rw[hv];generalize ho1:Bc [p0] sets ([⟨sm,sm⟩]) p0.at_=o1 at *;generalize ht1:togL [p0] (nth sets p0.at_.toNat)=t1 at *;have hF:=Bp o1 (by have:=A1.2;omega);have hL:=Bu o1 (by have:=A1.2;omega);clear hS hv ho1 ht1 l1;refine A7 A9 ?_;unfold A6;(with_reducible repeat' (first|(simp(disch:=omega)only[push_cast,↓zz,seval])|refine And.intro ?_ ?_|(first|refine Ab ?_ ?_|refine Aa ?_ ?_)<;>intro hc<;>(try simp only[push_cast] at hc)|omega|intro _));refine Bb 6 ?_;(with_reducible repeat' (first|(simp(disch:=omega)only[push_cast,↓zz,seval,xx,List.mem_cons,List.not_mem_nil,or_false,false_or,not_or,not_false_eq_true,true_or,or_true,Cb,setM])|refine And.intro ?_ ?_|(first|refine Ab ?_ ?_|refine Aa ?_ ?_)<;>intro hc<;>(try simp only[push_cast] at hc)|refine Am ?_|refine Cm [1] ?_|omega|intro _));refine Bo 6 (fun env=>[Bm 1 (env 6)]) [(1,Ao sets),(6,.map 0 1),(10,Aj [⟨sm,sm⟩]),(53,.lst 1 [.int .i64 p0.at_]),(54,.int .i64 1),(55,.int .i64 0)] [⟨0,1,true,[.int .i64 p0.at_,Bg [p0]]⟩] ?_ ?_
 · (with_reducible repeat' (first|(simp(disch:=omega)only[push_cast,↓zz,seval])|refine And.intro ?_ ?_|(first|refine Ab ?_ ?_|refine Aa ?_ ?_)<;>intro hc<;>(try simp only[push_cast] at hc)|omega|intro _))
   all_goals (simp only[Cj];done)
 (with_reducible repeat' (first|(simp(disch:=omega)only[push_cast,↓zz,seval,Cb,B9,hg])|refine And.intro ?_ ?_|(first|refine Ab ?_ ?_|refine Aa ?_ ?_)<;>intro hc<;>(try simp only[push_cast] at hc)|refine Am ?_|refine eQ T1 ?_|refine eQ P1 ?_|refine eK T1 ?_|refine eK P1 ?_|refine eK hF ?_|refine eK hL ?_|omega|intro _))
 all_goals ((try simp only[*,decide_true,decide_false,Bool.true_and,Bool.false_and]);(repeat' (first|(simp(disch:=omega)only[push_cast,↓zz,seval,B8])|omega|(with_reducible refine And.intro ?_ ?_))))
theorem zj6 (bs dr tk up sm:Int) (p0:Part) (sets:List (List Span)) (hs:B4 sm=true) (hS:Cs [p0] sets) :
   PC Tryz.prog 196 [Cn ⟨bs,dr,tk,up,sm,[p0]⟩,Ao sets] (.tup [Aj (Ba ⟨bs,dr,tk,up,sm,[p0]⟩ sets),.bool (B9 (Ba ⟨bs,dr,tk,up,sm,[p0]⟩ sets))]):=by
 exact z8w bs dr tk up sm p0 sets hs hS 
theorem z8x (bs dr tk up sm:Int) (p0 p1:Part) (sets:List (List Span)) (hs:B4 sm=true) (hS:Cs [p0,p1] sets) (e1:p1.at_=p0.at_) :
   PC Tryz.prog 196 [Cn ⟨bs,dr,tk,up,sm,[p0,p1]⟩,Ao sets] (.tup [Aj (Ba ⟨bs,dr,tk,up,sm,[p0,p1]⟩ sets),.bool (B9 (Ba ⟨bs,dr,tk,up,sm,[p0,p1]⟩ sets))]):=by
 have hg:=Ah sets;have b0:=Ai (hS.parts p0 (by simp));have b1:=Ai (hS.parts p1 (by simp));have A0:=Cx hs;obtain⟨T1,P1,A1⟩:=Al (a:=p0.at_) hS A0 (by omega) (by simp);have l1:atL [p0,p1] p0.at_=[p0,p1]:=by simp[atL,e1]
 rw[l1] at T1 P1;have hv:Ba ⟨bs,dr,tk,up,sm,[p0,p1]⟩ sets=Bc [p0,p1] sets ([⟨sm,sm⟩]) p0.at_:=by simp[Ba,B5,B1,e1]
 rw[hv];generalize ho1:Bc [p0,p1] sets ([⟨sm,sm⟩]) p0.at_=o1 at *;generalize ht1:togL [p0,p1] (nth sets p0.at_.toNat)=t1 at *;have hF:=Bp o1 (by have:=A1.2;omega);have hL:=Bu o1 (by have:=A1.2;omega);clear hS hv ho1 ht1 l1;refine A7 A9 ?_;unfold A6;(with_reducible repeat' (first|(simp(disch:=omega)only[push_cast,↓zz,seval])|refine And.intro ?_ ?_|(first|refine Ab ?_ ?_|refine Aa ?_ ?_)<;>intro hc<;>(try simp only[push_cast] at hc)|omega|intro _));refine Bb 6 ?_;(with_reducible repeat' (first|(simp(disch:=omega)only[push_cast,↓zz,seval,xx,List.mem_cons,List.not_mem_nil,or_false,false_or,not_or,not_false_eq_true,true_or,or_true,Cb,setM,e1])|refine And.intro ?_ ?_|(first|refine Ab ?_ ?_|refine Aa ?_ ?_)<;>intro hc<;>(try simp only[push_cast] at hc)|refine Am ?_|refine Cm [1,5] ?_|omega|intro _));refine Bo 6 (fun env=>[Bm 1 (env 6)]) [(1,Ao sets),(6,.map 0 1),(10,Aj [⟨sm,sm⟩]),(53,.lst 1 [.int .i64 p0.at_]),(54,.int .i64 1),(55,.int .i64 0)] [⟨0,1,true,[.int .i64 p0.at_,Bg [p0,p1]]⟩] ?_ ?_
 · (with_reducible repeat' (first|(simp(disch:=omega)only[push_cast,↓zz,seval,e1])|refine And.intro ?_ ?_|(first|refine Ab ?_ ?_|refine Aa ?_ ?_)<;>intro hc<;>(try simp only[push_cast] at hc)|omega|intro _))
   all_goals (simp only[Cj,e1];done)
 (with_reducible repeat' (first|(simp(disch:=omega)only[push_cast,↓zz,seval,Cb,B9,hg,e1])|refine And.intro ?_ ?_|(first|refine Ab ?_ ?_|refine Aa ?_ ?_)<;>intro hc<;>(try simp only[push_cast] at hc)|refine Am ?_|refine eQ T1 ?_|refine eQ P1 ?_|refine eK T1 ?_|refine eK P1 ?_|refine eK hF ?_|refine eK hL ?_|omega|intro _))
 all_goals ((try simp only[*,decide_true,decide_false,Bool.true_and,Bool.false_and]);(repeat' (first|(simp(disch:=omega)only[push_cast,↓zz,seval,B8])|omega|(with_reducible refine And.intro ?_ ?_))))
theorem z8y (bs dr tk up sm:Int) (p0 p1:Part) (sets:List (List Span)) (hs:B4 sm=true) (hS:Cs [p0,p1] sets) (n01:¬p0.at_=p1.at_) :
   PC Tryz.prog 196 [Cn ⟨bs,dr,tk,up,sm,[p0,p1]⟩,Ao sets] (.tup [Aj (Ba ⟨bs,dr,tk,up,sm,[p0,p1]⟩ sets),.bool (B9 (Ba ⟨bs,dr,tk,up,sm,[p0,p1]⟩ sets))]):=by
 have hg:=Ah sets;have b0:=Ai (hS.parts p0 (by simp));have b1:=Ai (hS.parts p1 (by simp));have A0:=Cx hs;obtain⟨T1,P1,A1⟩:=Al (a:=p0.at_) hS A0 (by omega) (by simp);have l1:atL [p0,p1] p0.at_=[p0]:=by simp[atL,n01,Ne.symm (show p0.at_≠p1.at_ from n01)]
 rw[l1] at T1 P1;obtain⟨T2,P2,A2⟩:=Al (a:=p1.at_) hS A1 (by omega) (by simp);have l2:atL [p0,p1] p1.at_=[p1]:=by simp[atL,n01,Ne.symm (show p0.at_≠p1.at_ from n01)]
 rw[l2] at T2 P2;have hv:Ba ⟨bs,dr,tk,up,sm,[p0,p1]⟩ sets=Bc [p0,p1] sets (Bc [p0,p1] sets ([⟨sm,sm⟩]) p0.at_) p1.at_:=by simp[Ba,B5,B1,n01,Ne.symm (show p0.at_≠p1.at_ from n01)]
 rw[hv];generalize ho1:Bc [p0,p1] sets ([⟨sm,sm⟩]) p0.at_=o1 at *;generalize ht1:togL [p0] (nth sets p0.at_.toNat)=t1 at *;generalize ho2:Bc [p0,p1] sets (o1) p1.at_=o2 at *;generalize ht2:togL [p1] (nth sets p1.at_.toNat)=t2 at *;have hF:=Bp o2 (by have:=A2.2;omega);have hL:=Bu o2 (by have:=A2.2;omega);clear hS hv ho1 ht1 l1 ho2 ht2 l2;refine A7 A9 ?_;unfold A6;(with_reducible repeat' (first|(simp(disch:=omega)only[push_cast,↓zz,seval])|refine And.intro ?_ ?_|(first|refine Ab ?_ ?_|refine Aa ?_ ?_)<;>intro hc<;>(try simp only[push_cast] at hc)|omega|intro _));refine Bb 6 ?_;(with_reducible repeat' (first|(simp(disch:=omega)only[push_cast,↓zz,seval,xx,List.mem_cons,List.not_mem_nil,or_false,false_or,not_or,not_false_eq_true,true_or,or_true,Cb,setM,n01])|refine And.intro ?_ ?_|(first|refine Ab ?_ ?_|refine Aa ?_ ?_)<;>intro hc<;>(try simp only[push_cast] at hc)|refine Am ?_|refine Cm [1] ?_|omega|intro _));refine Bo 6 (fun env=>[Bm 1 (env 6)]) [(1,Ao sets),(6,.map 0 1),(10,Aj [⟨sm,sm⟩]),(53,.lst 1 [.int .i64 p0.at_,.int .i64 p1.at_]),(54,.int .i64 2),(55,.int .i64 0)] [⟨0,1,true,[.int .i64 p0.at_,Bg [p0],.int .i64 p1.at_,Bg [p1]]⟩] ?_ ?_
 · (with_reducible repeat' (first|(simp(disch:=omega)only[push_cast,↓zz,seval,n01])|refine And.intro ?_ ?_|(first|refine Ab ?_ ?_|refine Aa ?_ ?_)<;>intro hc<;>(try simp only[push_cast] at hc)|omega|intro _))
   all_goals (simp only[Cj,n01];done)
 (with_reducible repeat' (first|(simp(disch:=omega)only[push_cast,↓zz,seval,Cb,B9,hg,n01])|refine And.intro ?_ ?_|(first|refine Ab ?_ ?_|refine Aa ?_ ?_)<;>intro hc<;>(try simp only[push_cast] at hc)|refine Am ?_|refine eQ T1 ?_|refine eQ P1 ?_|refine eK T1 ?_|refine eK P1 ?_|refine eQ T2 ?_|refine eQ P2 ?_|refine eK T2 ?_|refine eK P2 ?_|refine eK hF ?_|refine eK hL ?_|omega|intro _))
 all_goals ((try simp only[*,decide_true,decide_false,Bool.true_and,Bool.false_and]);(repeat' (first|(simp(disch:=omega)only[push_cast,↓zz,seval,B8])|omega|(with_reducible refine And.intro ?_ ?_))))
theorem zj7 (bs dr tk up sm:Int) (p0 p1:Part) (sets:List (List Span)) (hs:B4 sm=true) (hS:Cs [p0,p1] sets) :
   PC Tryz.prog 196 [Cn ⟨bs,dr,tk,up,sm,[p0,p1]⟩,Ao sets] (.tup [Aj (Ba ⟨bs,dr,tk,up,sm,[p0,p1]⟩ sets),.bool (B9 (Ba ⟨bs,dr,tk,up,sm,[p0,p1]⟩ sets))]):=by
 rcases Classical.em (p1.at_=p0.at_) with e1|x01
 · skip
   exact z8x bs dr tk up sm p0 p1 sets hs hS e1
 have n01:¬p0.at_=p1.at_:=fun h=>x01 h.symm;exact z8y bs dr tk up sm p0 p1 sets hs hS n01
theorem z8z (bs dr tk up sm:Int) (p0 p1 p2:Part) (sets:List (List Span)) (hs:B4 sm=true) (hS:Cs [p0,p1,p2] sets) (e1:p1.at_=p0.at_) (e2:p2.at_=p0.at_) :
   PC Tryz.prog 196 [Cn ⟨bs,dr,tk,up,sm,[p0,p1,p2]⟩,Ao sets] (.tup [Aj (Ba ⟨bs,dr,tk,up,sm,[p0,p1,p2]⟩ sets),.bool (B9 (Ba ⟨bs,dr,tk,up,sm,[p0,p1,p2]⟩ sets))]):=by
 have hg:=Ah sets;have b0:=Ai (hS.parts p0 (by simp));have b1:=Ai (hS.parts p1 (by simp));have b2:=Ai (hS.parts p2 (by simp));have A0:=Cx hs;obtain⟨T1,P1,A1⟩:=Al (a:=p0.at_) hS A0 (by omega) (by simp);have l1:atL [p0,p1,p2] p0.at_=[p0,p1,p2]:=by simp[atL,e1,e2]
 rw[l1] at T1 P1;have hv:Ba ⟨bs,dr,tk,up,sm,[p0,p1,p2]⟩ sets=Bc [p0,p1,p2] sets ([⟨sm,sm⟩]) p0.at_:=by simp[Ba,B5,B1,e1,e2]
 rw[hv];generalize ho1:Bc [p0,p1,p2] sets ([⟨sm,sm⟩]) p0.at_=o1 at *;generalize ht1:togL [p0,p1,p2] (nth sets p0.at_.toNat)=t1 at *;have hF:=Bp o1 (by have:=A1.2;omega);have hL:=Bu o1 (by have:=A1.2;omega);clear hS hv ho1 ht1 l1;refine A7 A9 ?_;unfold A6;(with_reducible repeat' (first|(simp(disch:=omega)only[push_cast,↓zz,seval])|refine And.intro ?_ ?_|(first|refine Ab ?_ ?_|refine Aa ?_ ?_)<;>intro hc<;>(try simp only[push_cast] at hc)|omega|intro _));refine Bb 6 ?_;(with_reducible repeat' (first|(simp(disch:=omega)only[push_cast,↓zz,seval,xx,List.mem_cons,List.not_mem_nil,or_false,false_or,not_or,not_false_eq_true,true_or,or_true,Cb,setM,e1,e2])|refine And.intro ?_ ?_|(first|refine Ab ?_ ?_|refine Aa ?_ ?_)<;>intro hc<;>(try simp only[push_cast] at hc)|refine Am ?_|refine Cm [1,5] ?_|omega|intro _));refine Bo 6 (fun env=>[Bm 1 (env 6)]) [(1,Ao sets),(6,.map 0 1),(10,Aj [⟨sm,sm⟩]),(53,.lst 1 [.int .i64 p0.at_]),(54,.int .i64 1),(55,.int .i64 0)] [⟨0,1,true,[.int .i64 p0.at_,Bg [p0,p1,p2]]⟩] ?_ ?_
 · (with_reducible repeat' (first|(simp(disch:=omega)only[push_cast,↓zz,seval,e1,e2])|refine And.intro ?_ ?_|(first|refine Ab ?_ ?_|refine Aa ?_ ?_)<;>intro hc<;>(try simp only[push_cast] at hc)|omega|intro _))
   all_goals (simp only[Cj,e1,e2];done)
 (with_reducible repeat' (first|(simp(disch:=omega)only[push_cast,↓zz,seval,Cb,B9,hg,e1,e2])|refine And.intro ?_ ?_|(first|refine Ab ?_ ?_|refine Aa ?_ ?_)<;>intro hc<;>(try simp only[push_cast] at hc)|refine Am ?_|refine eQ T1 ?_|refine eQ P1 ?_|refine eK T1 ?_|refine eK P1 ?_|refine eK hF ?_|refine eK hL ?_|omega|intro _))
 all_goals ((try simp only[*,decide_true,decide_false,Bool.true_and,Bool.false_and]);(repeat' (first|(simp(disch:=omega)only[push_cast,↓zz,seval,B8])|omega|(with_reducible refine And.intro ?_ ?_))))
theorem z90 (bs dr tk up sm:Int) (p0 p1 p2:Part) (sets:List (List Span)) (hs:B4 sm=true) (hS:Cs [p0,p1,p2] sets) (e1:p1.at_=p0.at_) (n02:¬p0.at_=p2.at_) :
   PC Tryz.prog 196 [Cn ⟨bs,dr,tk,up,sm,[p0,p1,p2]⟩,Ao sets] (.tup [Aj (Ba ⟨bs,dr,tk,up,sm,[p0,p1,p2]⟩ sets),.bool (B9 (Ba ⟨bs,dr,tk,up,sm,[p0,p1,p2]⟩ sets))]):=by
 have hg:=Ah sets;have b0:=Ai (hS.parts p0 (by simp));have b1:=Ai (hS.parts p1 (by simp));have b2:=Ai (hS.parts p2 (by simp));have A0:=Cx hs;obtain⟨T1,P1,A1⟩:=Al (a:=p0.at_) hS A0 (by omega) (by simp);have l1:atL [p0,p1,p2] p0.at_=[p0,p1]:=by simp[atL,e1,n02,Ne.symm (show p0.at_≠p2.at_ from n02)]
 rw[l1] at T1 P1;obtain⟨T2,P2,A2⟩:=Al (a:=p2.at_) hS A1 (by omega) (by simp);have l2:atL [p0,p1,p2] p2.at_=[p2]:=by simp[atL,e1,n02,Ne.symm (show p0.at_≠p2.at_ from n02)]
 rw[l2] at T2 P2;have hv:Ba ⟨bs,dr,tk,up,sm,[p0,p1,p2]⟩ sets=Bc [p0,p1,p2] sets (Bc [p0,p1,p2] sets ([⟨sm,sm⟩]) p0.at_) p2.at_:=by simp[Ba,B5,B1,e1,n02,Ne.symm (show p0.at_≠p2.at_ from n02)]
 rw[hv];generalize ho1:Bc [p0,p1,p2] sets ([⟨sm,sm⟩]) p0.at_=o1 at *;generalize ht1:togL [p0,p1] (nth sets p0.at_.toNat)=t1 at *;generalize ho2:Bc [p0,p1,p2] sets (o1) p2.at_=o2 at *;generalize ht2:togL [p2] (nth sets p2.at_.toNat)=t2 at *;have hF:=Bp o2 (by have:=A2.2;omega);have hL:=Bu o2 (by have:=A2.2;omega);clear hS hv ho1 ht1 l1 ho2 ht2 l2;refine A7 A9 ?_;unfold A6;(with_reducible repeat' (first|(simp(disch:=omega)only[push_cast,↓zz,seval])|refine And.intro ?_ ?_|(first|refine Ab ?_ ?_|refine Aa ?_ ?_)<;>intro hc<;>(try simp only[push_cast] at hc)|omega|intro _));refine Bb 6 ?_;(with_reducible repeat' (first|(simp(disch:=omega)only[push_cast,↓zz,seval,xx,List.mem_cons,List.not_mem_nil,or_false,false_or,not_or,not_false_eq_true,true_or,or_true,Cb,setM,e1,n02])|refine And.intro ?_ ?_|(first|refine Ab ?_ ?_|refine Aa ?_ ?_)<;>intro hc<;>(try simp only[push_cast] at hc)|refine Am ?_|refine Cm [1,5] ?_|omega|intro _));refine Bo 6 (fun env=>[Bm 1 (env 6)]) [(1,Ao sets),(6,.map 0 1),(10,Aj [⟨sm,sm⟩]),(53,.lst 1 [.int .i64 p0.at_,.int .i64 p2.at_]),(54,.int .i64 2),(55,.int .i64 0)] [⟨0,1,true,[.int .i64 p0.at_,Bg [p0,p1],.int .i64 p2.at_,Bg [p2]]⟩] ?_ ?_
 · (with_reducible repeat' (first|(simp(disch:=omega)only[push_cast,↓zz,seval,e1,n02])|refine And.intro ?_ ?_|(first|refine Ab ?_ ?_|refine Aa ?_ ?_)<;>intro hc<;>(try simp only[push_cast] at hc)|omega|intro _))
   all_goals (simp only[Cj,e1,n02];done)
 (with_reducible repeat' (first|(simp(disch:=omega)only[push_cast,↓zz,seval,Cb,B9,hg,e1,n02])|refine And.intro ?_ ?_|(first|refine Ab ?_ ?_|refine Aa ?_ ?_)<;>intro hc<;>(try simp only[push_cast] at hc)|refine Am ?_|refine eQ T1 ?_|refine eQ P1 ?_|refine eK T1 ?_|refine eK P1 ?_|refine eQ T2 ?_|refine eQ P2 ?_|refine eK T2 ?_|refine eK P2 ?_|refine eK hF ?_|refine eK hL ?_|omega|intro _))
 all_goals ((try simp only[*,decide_true,decide_false,Bool.true_and,Bool.false_and]);(repeat' (first|(simp(disch:=omega)only[push_cast,↓zz,seval,B8])|omega|(with_reducible refine And.intro ?_ ?_))))
theorem z91 (bs dr tk up sm:Int) (p0 p1 p2:Part) (sets:List (List Span)) (hs:B4 sm=true) (hS:Cs [p0,p1,p2] sets) (e2:p2.at_=p0.at_) (n01:¬p0.at_=p1.at_) :
   PC Tryz.prog 196 [Cn ⟨bs,dr,tk,up,sm,[p0,p1,p2]⟩,Ao sets] (.tup [Aj (Ba ⟨bs,dr,tk,up,sm,[p0,p1,p2]⟩ sets),.bool (B9 (Ba ⟨bs,dr,tk,up,sm,[p0,p1,p2]⟩ sets))]):=by
 have hg:=Ah sets;have b0:=Ai (hS.parts p0 (by simp));have b1:=Ai (hS.parts p1 (by simp));have b2:=Ai (hS.parts p2 (by simp));have A0:=Cx hs;obtain⟨T1,P1,A1⟩:=Al (a:=p0.at_) hS A0 (by omega) (by simp);have l1:atL [p0,p1,p2] p0.at_=[p0,p2]:=by simp[atL,e2,n01,Ne.symm (show p0.at_≠p1.at_ from n01)]
 rw[l1] at T1 P1;obtain⟨T2,P2,A2⟩:=Al (a:=p1.at_) hS A1 (by omega) (by simp);have l2:atL [p0,p1,p2] p1.at_=[p1]:=by simp[atL,e2,n01,Ne.symm (show p0.at_≠p1.at_ from n01)]
 rw[l2] at T2 P2;have hv:Ba ⟨bs,dr,tk,up,sm,[p0,p1,p2]⟩ sets=Bc [p0,p1,p2] sets (Bc [p0,p1,p2] sets ([⟨sm,sm⟩]) p0.at_) p1.at_:=by simp[Ba,B5,B1,e2,n01,Ne.symm (show p0.at_≠p1.at_ from n01)]
 rw[hv];generalize ho1:Bc [p0,p1,p2] sets ([⟨sm,sm⟩]) p0.at_=o1 at *;generalize ht1:togL [p0,p2] (nth sets p0.at_.toNat)=t1 at *;generalize ho2:Bc [p0,p1,p2] sets (o1) p1.at_=o2 at *;generalize ht2:togL [p1] (nth sets p1.at_.toNat)=t2 at *;have hF:=Bp o2 (by have:=A2.2;omega);have hL:=Bu o2 (by have:=A2.2;omega);clear hS hv ho1 ht1 l1 ho2 ht2 l2;refine A7 A9 ?_;unfold A6;(with_reducible repeat' (first|(simp(disch:=omega)only[push_cast,↓zz,seval])|refine And.intro ?_ ?_|(first|refine Ab ?_ ?_|refine Aa ?_ ?_)<;>intro hc<;>(try simp only[push_cast] at hc)|omega|intro _));refine Bb 6 ?_;(with_reducible repeat' (first|(simp(disch:=omega)only[push_cast,↓zz,seval,xx,List.mem_cons,List.not_mem_nil,or_false,false_or,not_or,not_false_eq_true,true_or,or_true,Cb,setM,e2,n01])|refine And.intro ?_ ?_|(first|refine Ab ?_ ?_|refine Aa ?_ ?_)<;>intro hc<;>(try simp only[push_cast] at hc)|refine Am ?_|refine Cm [1,5] ?_|omega|intro _));refine Bo 6 (fun env=>[Bm 1 (env 6)]) [(1,Ao sets),(6,.map 0 1),(10,Aj [⟨sm,sm⟩]),(53,.lst 1 [.int .i64 p0.at_,.int .i64 p1.at_]),(54,.int .i64 2),(55,.int .i64 0)] [⟨0,1,true,[.int .i64 p0.at_,Bg [p0,p2],.int .i64 p1.at_,Bg [p1]]⟩] ?_ ?_
 · (with_reducible repeat' (first|(simp(disch:=omega)only[push_cast,↓zz,seval,e2,n01])|refine And.intro ?_ ?_|(first|refine Ab ?_ ?_|refine Aa ?_ ?_)<;>intro hc<;>(try simp only[push_cast] at hc)|omega|intro _))
   all_goals (simp only[Cj,e2,n01];done)
 (with_reducible repeat' (first|(simp(disch:=omega)only[push_cast,↓zz,seval,Cb,B9,hg,e2,n01])|refine And.intro ?_ ?_|(first|refine Ab ?_ ?_|refine Aa ?_ ?_)<;>intro hc<;>(try simp only[push_cast] at hc)|refine Am ?_|refine eQ T1 ?_|refine eQ P1 ?_|refine eK T1 ?_|refine eK P1 ?_|refine eQ T2 ?_|refine eQ P2 ?_|refine eK T2 ?_|refine eK P2 ?_|refine eK hF ?_|refine eK hL ?_|omega|intro _))
 all_goals ((try simp only[*,decide_true,decide_false,Bool.true_and,Bool.false_and]);(repeat' (first|(simp(disch:=omega)only[push_cast,↓zz,seval,B8])|omega|(with_reducible refine And.intro ?_ ?_))))
theorem z92 (bs dr tk up sm:Int) (p0 p1 p2:Part) (sets:List (List Span)) (hs:B4 sm=true) (hS:Cs [p0,p1,p2] sets) (e2:p2.at_=p1.at_) (n01:¬p0.at_=p1.at_) :
   PC Tryz.prog 196 [Cn ⟨bs,dr,tk,up,sm,[p0,p1,p2]⟩,Ao sets] (.tup [Aj (Ba ⟨bs,dr,tk,up,sm,[p0,p1,p2]⟩ sets),.bool (B9 (Ba ⟨bs,dr,tk,up,sm,[p0,p1,p2]⟩ sets))]):=by
 have hg:=Ah sets;have b0:=Ai (hS.parts p0 (by simp));have b1:=Ai (hS.parts p1 (by simp));have b2:=Ai (hS.parts p2 (by simp));have A0:=Cx hs;obtain⟨T1,P1,A1⟩:=Al (a:=p0.at_) hS A0 (by omega) (by simp);have l1:atL [p0,p1,p2] p0.at_=[p0]:=by simp[atL,e2,n01,Ne.symm (show p0.at_≠p1.at_ from n01)]
 rw[l1] at T1 P1;obtain⟨T2,P2,A2⟩:=Al (a:=p1.at_) hS A1 (by omega) (by simp);have l2:atL [p0,p1,p2] p1.at_=[p1,p2]:=by simp[atL,e2,n01,Ne.symm (show p0.at_≠p1.at_ from n01)]
 rw[l2] at T2 P2;have hv:Ba ⟨bs,dr,tk,up,sm,[p0,p1,p2]⟩ sets=Bc [p0,p1,p2] sets (Bc [p0,p1,p2] sets ([⟨sm,sm⟩]) p0.at_) p1.at_:=by simp[Ba,B5,B1,e2,n01,Ne.symm (show p0.at_≠p1.at_ from n01)]
 rw[hv];generalize ho1:Bc [p0,p1,p2] sets ([⟨sm,sm⟩]) p0.at_=o1 at *;generalize ht1:togL [p0] (nth sets p0.at_.toNat)=t1 at *;generalize ho2:Bc [p0,p1,p2] sets (o1) p1.at_=o2 at *;generalize ht2:togL [p1,p2] (nth sets p1.at_.toNat)=t2 at *;have hF:=Bp o2 (by have:=A2.2;omega);have hL:=Bu o2 (by have:=A2.2;omega);clear hS hv ho1 ht1 l1 ho2 ht2 l2;refine A7 A9 ?_;unfold A6;(with_reducible repeat' (first|(simp(disch:=omega)only[push_cast,↓zz,seval])|refine And.intro ?_ ?_|(first|refine Ab ?_ ?_|refine Aa ?_ ?_)<;>intro hc<;>(try simp only[push_cast] at hc)|omega|intro _));refine Bb 6 ?_;(with_reducible repeat' (first|(simp(disch:=omega)only[push_cast,↓zz,seval,xx,List.mem_cons,List.not_mem_nil,or_false,false_or,not_or,not_false_eq_true,true_or,or_true,Cb,setM,e2,n01])|refine And.intro ?_ ?_|(first|refine Ab ?_ ?_|refine Aa ?_ ?_)<;>intro hc<;>(try simp only[push_cast] at hc)|refine Am ?_|refine Cm [1,8] ?_|omega|intro _));refine Bo 6 (fun env=>[Bm 1 (env 6)]) [(1,Ao sets),(6,.map 0 1),(10,Aj [⟨sm,sm⟩]),(53,.lst 1 [.int .i64 p0.at_,.int .i64 p1.at_]),(54,.int .i64 2),(55,.int .i64 0)] [⟨0,1,true,[.int .i64 p0.at_,Bg [p0],.int .i64 p1.at_,Bg [p1,p2]]⟩] ?_ ?_
 · (with_reducible repeat' (first|(simp(disch:=omega)only[push_cast,↓zz,seval,e2,n01])|refine And.intro ?_ ?_|(first|refine Ab ?_ ?_|refine Aa ?_ ?_)<;>intro hc<;>(try simp only[push_cast] at hc)|omega|intro _))
   all_goals (simp only[Cj,e2,n01];done)
 (with_reducible repeat' (first|(simp(disch:=omega)only[push_cast,↓zz,seval,Cb,B9,hg,e2,n01])|refine And.intro ?_ ?_|(first|refine Ab ?_ ?_|refine Aa ?_ ?_)<;>intro hc<;>(try simp only[push_cast] at hc)|refine Am ?_|refine eQ T1 ?_|refine eQ P1 ?_|refine eK T1 ?_|refine eK P1 ?_|refine eQ T2 ?_|refine eQ P2 ?_|refine eK T2 ?_|refine eK P2 ?_|refine eK hF ?_|refine eK hL ?_|omega|intro _))
 all_goals ((try simp only[*,decide_true,decide_false,Bool.true_and,Bool.false_and]);(repeat' (first|(simp(disch:=omega)only[push_cast,↓zz,seval,B8])|omega|(with_reducible refine And.intro ?_ ?_))))
theorem z93 (bs dr tk up sm:Int) (p0 p1 p2:Part) (sets:List (List Span)) (hs:B4 sm=true) (hS:Cs [p0,p1,p2] sets) (n01:¬p0.at_=p1.at_) (n02:¬p0.at_=p2.at_) (n12:¬p1.at_=p2.at_) :
   PC Tryz.prog 196 [Cn ⟨bs,dr,tk,up,sm,[p0,p1,p2]⟩,Ao sets] (.tup [Aj (Ba ⟨bs,dr,tk,up,sm,[p0,p1,p2]⟩ sets),.bool (B9 (Ba ⟨bs,dr,tk,up,sm,[p0,p1,p2]⟩ sets))]):=by
 have hg:=Ah sets;have b0:=Ai (hS.parts p0 (by simp));have b1:=Ai (hS.parts p1 (by simp));have b2:=Ai (hS.parts p2 (by simp));have A0:=Cx hs;obtain⟨T1,P1,A1⟩:=Al (a:=p0.at_) hS A0 (by omega) (by simp);have l1:atL [p0,p1,p2] p0.at_=[p0]:=by simp[atL,n01,n02,n12,Ne.symm (show p0.at_≠p1.at_ from n01),Ne.symm (show p0.at_≠p2.at_ from n02),Ne.symm (show p1.at_≠p2.at_ from n12)]
 rw[l1] at T1 P1;obtain⟨T2,P2,A2⟩:=Al (a:=p1.at_) hS A1 (by omega) (by simp);have l2:atL [p0,p1,p2] p1.at_=[p1]:=by simp[atL,n01,n02,n12,Ne.symm (show p0.at_≠p1.at_ from n01),Ne.symm (show p0.at_≠p2.at_ from n02),Ne.symm (show p1.at_≠p2.at_ from n12)]
 rw[l2] at T2 P2;obtain⟨T3,P3,A3⟩:=Al (a:=p2.at_) hS A2 (by omega) (by simp);have l3:atL [p0,p1,p2] p2.at_=[p2]:=by simp[atL,n01,n02,n12,Ne.symm (show p0.at_≠p1.at_ from n01),Ne.symm (show p0.at_≠p2.at_ from n02),Ne.symm (show p1.at_≠p2.at_ from n12)]
 rw[l3] at T3 P3;have hv:Ba ⟨bs,dr,tk,up,sm,[p0,p1,p2]⟩ sets=Bc [p0,p1,p2] sets (Bc [p0,p1,p2] sets (Bc [p0,p1,p2] sets ([⟨sm,sm⟩]) p0.at_) p1.at_) p2.at_:=by simp[Ba,B5,B1,n01,n02,n12,Ne.symm (show p0.at_≠p1.at_ from n01),Ne.symm (show p0.at_≠p2.at_ from n02),Ne.symm (show p1.at_≠p2.at_ from n12)]
 rw[hv];generalize ho1:Bc [p0,p1,p2] sets ([⟨sm,sm⟩]) p0.at_=o1 at *;generalize ht1:togL [p0] (nth sets p0.at_.toNat)=t1 at *;generalize ho2:Bc [p0,p1,p2] sets (o1) p1.at_=o2 at *;generalize ht2:togL [p1] (nth sets p1.at_.toNat)=t2 at *;generalize ho3:Bc [p0,p1,p2] sets (o2) p2.at_=o3 at *;generalize ht3:togL [p2] (nth sets p2.at_.toNat)=t3 at *;have hF:=Bp o3 (by have:=A3.2;omega);have hL:=Bu o3 (by have:=A3.2;omega);clear hS hv ho1 ht1 l1 ho2 ht2 l2 ho3 ht3 l3;refine A7 A9 ?_;unfold A6;(with_reducible repeat' (first|(simp(disch:=omega)only[push_cast,↓zz,seval])|refine And.intro ?_ ?_|(first|refine Ab ?_ ?_|refine Aa ?_ ?_)<;>intro hc<;>(try simp only[push_cast] at hc)|omega|intro _));refine Bb 6 ?_;(with_reducible repeat' (first|(simp(disch:=omega)only[push_cast,↓zz,seval,xx,List.mem_cons,List.not_mem_nil,or_false,false_or,not_or,not_false_eq_true,true_or,or_true,Cb,setM,n01,n02,n12])|refine And.intro ?_ ?_|(first|refine Ab ?_ ?_|refine Aa ?_ ?_)<;>intro hc<;>(try simp only[push_cast] at hc)|refine Am ?_|refine Cm [1] ?_|omega|intro _));refine Bo 6 (fun env=>[Bm 1 (env 6)]) [(1,Ao sets),(6,.map 0 1),(10,Aj [⟨sm,sm⟩]),(53,.lst 1 [.int .i64 p0.at_,.int .i64 p1.at_,.int .i64 p2.at_]),(54,.int .i64 3),(55,.int .i64 0)] [⟨0,1,true,[.int .i64 p0.at_,Bg [p0],.int .i64 p1.at_,Bg [p1],.int .i64 p2.at_,Bg [p2]]⟩] ?_ ?_
 · (with_reducible repeat' (first|(simp(disch:=omega)only[push_cast,↓zz,seval,n01,n02,n12])|refine And.intro ?_ ?_|(first|refine Ab ?_ ?_|refine Aa ?_ ?_)<;>intro hc<;>(try simp only[push_cast] at hc)|omega|intro _))
   all_goals (simp only[Cj,n01,n02,n12];done)
 (with_reducible repeat' (first|(simp(disch:=omega)only[push_cast,↓zz,seval,Cb,B9,hg,n01,n02,n12])|refine And.intro ?_ ?_|(first|refine Ab ?_ ?_|refine Aa ?_ ?_)<;>intro hc<;>(try simp only[push_cast] at hc)|refine Am ?_|refine eQ T1 ?_|refine eQ P1 ?_|refine eK T1 ?_|refine eK P1 ?_|refine eQ T2 ?_|refine eQ P2 ?_|refine eK T2 ?_|refine eK P2 ?_|refine eQ T3 ?_|refine eQ P3 ?_|refine eK T3 ?_|refine eK P3 ?_|refine eK hF ?_|refine eK hL ?_|omega|intro _))
 all_goals ((try simp only[*,decide_true,decide_false,Bool.true_and,Bool.false_and]);(repeat' (first|(simp(disch:=omega)only[push_cast,↓zz,seval,B8])|omega|(with_reducible refine And.intro ?_ ?_))))
theorem zj8 (bs dr tk up sm:Int) (p0 p1 p2:Part) (sets:List (List Span)) (hs:B4 sm=true) (hS:Cs [p0,p1,p2] sets) :
   PC Tryz.prog 196 [Cn ⟨bs,dr,tk,up,sm,[p0,p1,p2]⟩,Ao sets] (.tup [Aj (Ba ⟨bs,dr,tk,up,sm,[p0,p1,p2]⟩ sets),.bool (B9 (Ba ⟨bs,dr,tk,up,sm,[p0,p1,p2]⟩ sets))]):=by
 rcases Classical.em (p1.at_=p0.at_) with e1|x01
 · skip
   rcases Classical.em (p2.at_=p0.at_) with e2|x02
   · skip
     exact z8z bs dr tk up sm p0 p1 p2 sets hs hS e1 e2
   have n02:¬p0.at_=p2.at_:=fun h=>x02 h.symm;exact z90 bs dr tk up sm p0 p1 p2 sets hs hS e1 n02
 have n01:¬p0.at_=p1.at_:=fun h=>x01 h.symm;rcases Classical.em (p2.at_=p0.at_) with e2|x02
 · skip
   exact z91 bs dr tk up sm p0 p1 p2 sets hs hS e2 n01
 have n02:¬p0.at_=p2.at_:=fun h=>x02 h.symm;rcases Classical.em (p2.at_=p1.at_) with e2|x12
 · skip
   exact z92 bs dr tk up sm p0 p1 p2 sets hs hS e2 n01
 have n12:¬p1.at_=p2.at_:=fun h=>x12 h.symm;exact z93 bs dr tk up sm p0 p1 p2 sets hs hS n01 n02 n12
end Go.Proofs.YtbcjoeadpjfcfaaGreat
