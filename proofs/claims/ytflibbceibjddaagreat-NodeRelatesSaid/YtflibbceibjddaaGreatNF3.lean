/-
  Parts of the proof that the law holds whatever the input; without conditions.
-/
import Derived.Deep.Slices
import Derived.OpenShut
import Derived.Carry
import Derived.WideShapes
import Derived.ProofKit
import Derived.ChangeOld
import Derived.LoopNIn
import Derived.Test.YtflibbceibjddaaGreatNF2
set_option linter.unusedSimpArgs false
set_option linter.unusedVariables false
set_option linter.unusedSectionVars false
namespace Go.Proofs.YtflibbceibjddaaGreat.Abs
def nx(x:AV)(H:A5)[K:HK]:Prop:=K.f x H
theorem zg1(x:AV)(H:A5)(f:AV->A5->Prop):@nx x H ⟨f⟩=f x H:=(rfl)
class HF (α:Type) where
 f:α->Prop
def optN{α:Type}(o:Option α)[F:HF α]:Prop:=optK o F.f
theorem z2e{α:Type}(x:α)(f:α->Prop):@optN α (some x) ⟨f⟩=f x:=(rfl)
def ifN(c:Bool)[p:HP][q:HP]:Prop:=match c with
 |false=>p.p
 |true=>q.p
theorem RB{p q:Prop}:@ifN true ⟨p⟩ ⟨q⟩=q:=(rfl)
theorem z2f{p q:Prop}:@ifN false ⟨p⟩ ⟨q⟩=p:=(rfl)
def appN(w bytes:Nat)(s:AV)(news:List AV)(H:A5)[K:HK]:Prop:=JY w bytes s news H K.f
def slcN(w:Nat)(x:AV)(lo hi mx:Option Int)(H:A5)[K:HK]:Prop:=GB w x lo hi mx H λy=>K.f y H
def nq(x:AV)[K:HQ]:Prop:=K.f x
theorem zg2(x:AV)(f:AV->Prop):@nq x ⟨f⟩=f x:=(rfl)
section
variable {P:Program}{H:A5}{K:AV->A5->Prop}{k:IntKind}{a b c:Int}{x y z:AV}{xs ys cs:List AV}{w s o i g v off len n:Nat}{p q r:Bool}
theorem K_mv:@opK P .mv H [x] ⟨K⟩=@nx x H ⟨K⟩:=(rfl)
theorem zkz:@opK P .pick H [.bool p,x,y] ⟨K⟩=@nx (bif p then x else y) H ⟨K⟩:=(rfl)
theorem zg3:@opK P (.alloc z w) H [] ⟨K⟩=@nx (.ptr H.n 1 0 0) (H.push ⟨w,1,true,[z]⟩) ⟨K⟩:=(rfl)
theorem K_box:@opK P .box H [x] ⟨K⟩=(Ez x.cells=true/\0<x.cells.length/\@nx (.ptr H.n 1 0 0) (H.push ⟨x.cells.length,1,true,[x]⟩) ⟨K⟩):=(rfl)
theorem zg4{zs:List AV}{pl:List (Nat × Nat)}{idx:List Nat}:@opK P (.build zs pl idx) H xs ⟨K⟩=@optN _ (Rr pl idx xs zs) ⟨λcs=>@nx (.agg cs) H ⟨K⟩⟩:=(rfl)
theorem z9f{idx:List Nat}:@opK P (.bslice w len z idx) H xs ⟨K⟩=(HH w len idx xs/\@nx (.ref H.n 1 0 len) (H.push ⟨w,1,true,F2 idx xs (List.replicate len z)⟩) ⟨K⟩):=(rfl)
theorem z9g:@opK P (.load p s) H [.cptr x] ⟨K⟩=(x.isAny=false/\x.cells.length=s/\(p=false->s=1)/\@nx (Ga p 0 s x) H ⟨K⟩):=(rfl)
theorem z9h:@opK P (.load p s) H [.ptr g v i o] ⟨K⟩=((H.at_ g).ver=v/\i<(H.at_ g).xs.length/\((H.at_ g).xs.getD i .any).isAny=false/\((H.at_ g).xs.getD i .any).cells.length=(H.at_ g).w/\0<s/\o+s<=(H.at_ g).w /\
 (p=false->s=1)/\@nx (Ga p o s ((H.at_ g).xs.getD i .any)) H ⟨K⟩):=(rfl)
theorem zg5:@opK P (.store s) H [.ptr g v i o,x] ⟨K⟩=((H.at_ g).ver=v/\i<(H.at_ g).xs.length/\0<s/\o+s<=(H.at_ g).w/\x.cells.length=s/\Ez x.cells=true /\
 (s=(H.at_ g).w\/((H.at_ g).xs.getD i .any).isAny=false/\((H.at_ g).xs.getD i .any).cells.length=(H.at_ g).w) /\
 @nx .any (H.set g ⟨(H.at_ g).w,v,(H.at_ g).exact,(H.at_ g).xs.set i (JX (H.at_ g).w o s ((H.at_ g).xs.getD i .any) x)⟩) ⟨K⟩):=(rfl)
theorem zl0:@opK P .nilCheck H [.cptr x] ⟨K⟩=@nx (.cptr x) H ⟨K⟩:=(rfl)
theorem zl1:@opK P .nilCheck H [.ptr g v i o] ⟨K⟩=@nx (.ptr g v i o) H ⟨K⟩:=(rfl)
theorem zl2{f:Nat}:@opK P .nilCheck H [.fn f xs] ⟨K⟩=@nx (.fn f xs) H ⟨K⟩:=(rfl)
theorem K_add:@opK P (.bin .add) H [.int k a,.int k b] ⟨K⟩=@nx (.int k (k.wrap (a+b))) H ⟨K⟩:=by simp[opK,AF,binI,nx]
theorem K_sub:@opK P (.bin .sub) H [.int k a,.int k b] ⟨K⟩=@nx (.int k (k.wrap (a-b))) H ⟨K⟩:=by simp[opK,AF,binI,nx]
theorem K_mul:@opK P (.bin .mul) H [.int k a,.int k b] ⟨K⟩=@nx (.int k (k.wrap (a * b))) H ⟨K⟩:=by simp[opK,AF,binI,nx]
theorem K_quo:@opK P (.bin .quo) H [.int k a,.int k b] ⟨K⟩=(b≠0/\@nx (.int k (k.wrap (a.tdiv b))) H ⟨K⟩):=by simp[opK,AF,binI,nx]
theorem K_rem:@opK P (.bin .rem) H [.int k a,.int k b] ⟨K⟩=(b≠0/\@nx (.int k (a.tmod b)) H ⟨K⟩):=by simp[opK,AF,binI,nx]
theorem K_and:@opK P (.bin .and) H [.int k a,.int k b] ⟨K⟩=@nx (.int k (JE .and k a b)) H ⟨K⟩:=by simp[opK,AF,binI,nx]
theorem K_or:@opK P (.bin .or) H [.int k a,.int k b] ⟨K⟩=@nx (.int k (JE .or k a b)) H ⟨K⟩:=by simp[opK,AF,binI,nx]
theorem K_xor:@opK P (.bin .xor) H [.int k a,.int k b] ⟨K⟩=@nx (.int k (JE .xor k a b)) H ⟨K⟩:=by simp[opK,AF,binI,nx]
theorem z9i:@opK P (.bin .andNot) H [.int k a,.int k b] ⟨K⟩=@nx (.int k (JE .andNot k a b)) H ⟨K⟩:=by simp[opK,AF,binI,nx]
theorem K_shl{k':IntKind}:@opK P (.bin .shl) H [.int k a,.int k' b] ⟨K⟩=(0<=b/\@nx (.int k (k.wrap (a * 2 ^ (Min.min b.toNat k.bits)))) H ⟨K⟩):=(rfl)
theorem K_shr{k':IntKind}:@opK P (.bin .shr) H [.int k a,.int k' b] ⟨K⟩=(0<=b/\@nx (.int k (a.fdiv (2 ^ (Min.min b.toNat k.bits)))) H ⟨K⟩):=(rfl)
theorem K_eql:@opK P (.bin .eql) H [.int k a,.int k b] ⟨K⟩=@nx (.bool (decide (a=b))) H ⟨K⟩:=by simp[opK,AF,binI,nx]
theorem K_neq:@opK P (.bin .neq) H [.int k a,.int k b] ⟨K⟩=@nx (.bool (!decide (a=b))) H ⟨K⟩:=by simp[opK,AF,binI,nx]
theorem K_lss:@opK P (.bin .lss) H [.int k a,.int k b] ⟨K⟩=@nx (.bool (decide (a<b))) H ⟨K⟩:=by simp[opK,AF,binI,nx]
theorem K_leq:@opK P (.bin .leq) H [.int k a,.int k b] ⟨K⟩=@nx (.bool (decide (a<=b))) H ⟨K⟩:=by simp[opK,AF,binI,nx]
theorem K_gtr:@opK P (.bin .gtr) H [.int k a,.int k b] ⟨K⟩=@nx (.bool (decide (b<a))) H ⟨K⟩:=by simp[opK,AF,binI,nx]
theorem K_geq:@opK P (.bin .geq) H [.int k a,.int k b] ⟨K⟩=@nx (.bool (decide (b<=a))) H ⟨K⟩:=by simp[opK,AF,binI,nx]
theorem zl3{s t:List UInt8}:@opK P (.bin .eql) H [.str s,.str t] ⟨K⟩=@nx (.bool (decide (s=t))) H ⟨K⟩:=(rfl)
theorem zl4{s t:List UInt8}:@opK P (.bin .neq) H [.str s,.str t] ⟨K⟩=@nx (.bool (!decide (s=t))) H ⟨K⟩:=(rfl)
theorem K_eqb:@opK P (.eqb p) H [.bool q,.bool r] ⟨K⟩=@nx (.bool (if p then !(q == r) else q == r)) H ⟨K⟩:=(rfl)
theorem K_eqs{ks:List Nat}:@opK P (.eqs p ks) H [.agg xs,.agg ys] ⟨K⟩=@optN _ (eqL ks xs ys) ⟨λb=>@nx (.bool (if p then !b else b)) H ⟨K⟩⟩:=(rfl)
theorem z2g:@opK P (.eqn p) H [.nilS,.nilS] ⟨K⟩=@nx (.bool (!p)) H ⟨K⟩:=(rfl)
theorem z2h:@opK P (.eqn p) H [.lst w xs,.nilS] ⟨K⟩=(xs≠[]/\@nx (.bool p) H ⟨K⟩):=(rfl)
theorem z2i:@opK P (.eqn p) H [.ref g v off len,.nilS] ⟨K⟩=(0<len/\@nx (.bool p) H ⟨K⟩):=(rfl)
theorem K_not:@opK P (.un .not) H [.bool p] ⟨K⟩=@nx (.bool (!p)) H ⟨K⟩:=(rfl)
theorem K_neg:@opK P (.un .neg) H [.int k a] ⟨K⟩=@nx (.int k (k.wrap (0-a))) H ⟨K⟩:=(rfl)
theorem zl5{k':IntKind}:@opK P (.conv k) H [.int k' a] ⟨K⟩=@nx (.int k (k.wrap a)) H ⟨K⟩:=(rfl)
theorem zg6:@opK P .toStr H [x] ⟨K⟩=(Gy H 1 x/\(match x with|.str _=>False|_=>True)/\∃bs:List UInt8,Gx H x=some (bs.map λb=>.int .u8 b.toNat)/\@nx (.str bs) H ⟨K⟩):=(rfl)
theorem z9j:@opK P .runStr H [x] ⟨K⟩=(Gy H 1 x/\(match x with|.str _=>False|_=>True)/\∃zs:List Int,Gx H x=some (zs.map (AV.int .i32))/\@nx (.str (JZ zs)) H ⟨K⟩):=(rfl)
theorem zg7{lo hi mx:Bool}:@opK P (.slice w lo hi mx) H (x::xs) ⟨K⟩=@optN _ (optA lo xs) ⟨λp=>@optN _ (optA hi p.2) ⟨λq=>@optN _ (optA mx q.2) ⟨λr=>r.2=[]/\@slcN w x p.1 q.1 r.1 H ⟨K⟩⟩⟩⟩:=(rfl)
theorem z2j:@opK P (.faddr p off s) H [.cptr x] ⟨K⟩=(x.isAny=false/\off+s<=x.cells.length/\(p=false->s=1)/\0<s/\@nx (.cptr (Ga p off s x)) H ⟨K⟩):=(rfl)
theorem z2k:@opK P (.faddr p off s) H [.ptr g v i o] ⟨K⟩=((H.at_ g).ver=v/\@nx (.ptr g v i (o+off)) H ⟨K⟩):=(rfl)
theorem zg8:@opK P (.field p off s) H [.agg cs] ⟨K⟩=(off+s<=cs.length/\(p=false->s=1)/\@nx (Ga p off s (.agg cs)) H ⟨K⟩):=(rfl)
theorem z2l{w':Nat}:@opK P (.iaddr w) H [.lst w' xs,.int k a] ⟨K⟩=(w'=w/\0<=a/\a<xs.length/\@nx (.cptr (xs.getD a.toNat .any)) H ⟨K⟩):=(rfl)
theorem z2m:@opK P (.iaddr w) H [.ref g v off len,.int k a] ⟨K⟩=((H.at_ g).ver=v/\(H.at_ g).w=w/\0<=a/\a<len/\@nx (.ptr g v (off+a.toNat) 0) H ⟨K⟩):=(rfl)
theorem Z0:@opK P (.iaddrA n w p) H [.ptr g v i o,.int k a] ⟨K⟩=((H.at_ g).ver=v/\0<=a/\a<n/\@nx (.ptr g v i (o+a.toNat * w)) H ⟨K⟩):=(rfl)
theorem Z1:@opK P (.iaddrA n w p) H [.cptr x,.int k a] ⟨K⟩=(x.isAny=false/\0<=a/\a<n/\n * w<=x.cells.length/\(p=false->w=1)/\0<w/\@nx (.cptr (Ga p (a.toNat * w) w x)) H ⟨K⟩):=(rfl)
theorem zg9:@opK P (.index n w p) H [.agg cs,.int k a] ⟨K⟩=(0<=a/\a<n/\n * w<=cs.length/\(p=false->w=1)/\@nx (Ga p (a.toNat * w) w (.agg cs)) H ⟨K⟩):=(rfl)
theorem Z2{s:List UInt8}:@opK P .indexStr H [.str s,.int k a] ⟨K⟩=(0<=a/\a<s.length/\@nx (.int .u8 (s.getD a.toNat 0).toNat) H ⟨K⟩):=(rfl)
theorem z2n:@opK P (.extract i) H [.tup xs] ⟨K⟩=(i<xs.length/\@nx (xs.getD i .any) H ⟨K⟩):=(rfl)
theorem z2o:@opK P (.len false) H [.nilS] ⟨K⟩=@nx (.int .i64 0) H ⟨K⟩:=(rfl)
theorem z2p:@opK P (.len false) H [.nul] ⟨K⟩=@nx (.int .i64 0) H ⟨K⟩:=(rfl)
theorem z2q:@opK P (.len false) H [.lst w xs] ⟨K⟩=@nx (.int .i64 xs.length) H ⟨K⟩:=(rfl)
theorem z2r:@opK P (.len false) H [.ref g v off len] ⟨K⟩=@nx (.int .i64 len) H ⟨K⟩:=(rfl)
theorem z2s{s:List UInt8}:@opK P (.len true) H [.str s] ⟨K⟩=@nx (.int .i64 s.length) H ⟨K⟩:=(rfl)
theorem K_app:@opK P (.app w n z) H [x,y] ⟨K⟩=(Gy H w y/\@optN _ (Gx H y) ⟨λnews=>@appN w n x news H ⟨K⟩⟩):=(rfl)
theorem z9k:@appN w n .nilS xs H ⟨K⟩=(xs.length * n<=140737488355328/\@nx (.ref H.n 1 0 xs.length) (H.push ⟨w,1,xs.isEmpty,xs⟩) ⟨K⟩):=(rfl)
theorem zga:@appN w n .nul xs H ⟨K⟩=(xs.length * n<=140737488355328/\@nx (.ref H.n 1 0 xs.length) (H.push ⟨w,1,xs.isEmpty,xs⟩) ⟨K⟩):=(rfl)
theorem zgb:@appN w n (.ref g v off len) xs H ⟨K⟩=((H.at_ g).ver=v/\(H.at_ g).w=w/\(len+xs.length) * n<=140737488355328/\off+len<=(H.at_ g).xs.length/\@ifN (!(H.at_ g).exact||(H.at_ g).xs.isEmpty)
 ⟨(off+len+xs.length<=(H.at_ g).xs.length->@nx (.ref g v off (len+xs.length)) (H.set g ⟨w,v,true,(H.at_ g).xs.take (off+len)++xs++(H.at_ g).xs.drop (off+len+xs.length)⟩) ⟨K⟩) /\
  ((H.at_ g).xs.length<off+len+xs.length->@nx (.ref H.n 1 0 (len+xs.length)) (H.push ⟨w,1,false,((H.at_ g).xs.drop off).take len++xs⟩) ⟨K⟩)⟩
 ⟨(off=0\/off+len=(H.at_ g).xs.length)/\(off+len=(H.at_ g).xs.length->@nx (.ref g (v+1) off (len+xs.length)) (H.set g ⟨w,v+1,(H.at_ g).exact&&xs.isEmpty,(H.at_ g).xs++xs⟩) ⟨K⟩) /\
  (off+len<(H.at_ g).xs.length->off+len+xs.length<=(H.at_ g).xs.length/\@nx (.ref g v off (len+xs.length)) (H.set g ⟨w,v,(H.at_ g).exact,(H.at_ g).xs.take (off+len)++xs++(H.at_ g).xs.drop (off+len+xs.length)⟩) ⟨K⟩) /\
  (off≠0->@nx (.ref g (v+1) 0 (len+xs.length)) (H.set g ⟨w,v+1,(H.at_ g).exact&&xs.isEmpty,(H.at_ g).xs.drop off++xs⟩) ⟨K⟩)⟩):=by
 simp only[appN,JY,ifN];generalize (!(H.at_ g).exact||(H.at_ g).xs.isEmpty)=c;cases c<;>rfl
theorem zgc{w':Nat}{lo hi:Option Int}:@slcN w (.lst w' xs) lo hi none H ⟨K⟩=(w'=w/\0<=lo.getD 0/\lo.getD 0<=hi.getD xs.length/\hi.getD xs.length<=xs.length/\@nx (.lst w' ((xs.take (hi.getD xs.length).toNat).drop (lo.getD 0).toNat)) H ⟨K⟩):=(rfl)
theorem zgd{lo hi:Option Int}:@slcN w .nilS lo hi none H ⟨K⟩=((lo=none\/lo=some 0)/\(hi=none\/hi=some 0)/\@nx .nilS H ⟨K⟩):=(rfl)
theorem zge{lo hi:Option Int}:@slcN w (.ref g v off len) lo hi none H ⟨K⟩=((H.at_ g).ver=v/\(H.at_ g).w=w/\0<w/\0<=lo.getD 0/\lo.getD 0<=hi.getD len/\(hi.getD len<=len\/(H.at_ g).exact=true/\off+hi.getD len<=(H.at_ g).xs.length) /\
 @nx (.ref g v (off+(lo.getD 0).toNat) ((hi.getD len).toNat-(lo.getD 0).toNat)) H ⟨K⟩):=(rfl)
theorem z9l{w':Nat}{lo hi:Option Int}{m:Int}:@slcN w (.lst w' xs) lo hi (some m) H ⟨K⟩=(m=0/\hi=some 0/\(lo=none\/lo=some 0)/\@nx .nul H ⟨K⟩):=(rfl)
theorem z9m{lo hi:Option Int}{m:Int}:@slcN w .nilS lo hi (some m) H ⟨K⟩=(m=0/\hi=some 0/\(lo=none\/lo=some 0)/\@nx .nilS H ⟨K⟩):=(rfl)
theorem z9n{lo hi:Option Int}{m:Int}:@slcN w .nul lo hi (some m) H ⟨K⟩=(m=0/\hi=some 0/\(lo=none\/lo=some 0)/\@nx .nul H ⟨K⟩):=(rfl)
theorem z9o{lo hi:Option Int}{m:Int}:@slcN w (.ref g v off len) lo hi (some m) H ⟨K⟩=(m=0/\hi=some 0/\(lo=none\/lo=some 0)/\@nx .nul H ⟨K⟩):=(rfl)
theorem K_cap:@opK P .cap H [.nilS] ⟨K⟩=@nx (.int .i64 0) H ⟨K⟩:=(rfl)
theorem K_clr{g v off len:Nat}:@opK P (.clr w z) H [.ref g v off len] ⟨K⟩=((H.at_ g).ver=v/\(H.at_ g).w=w/\off+len<=(H.at_ g).xs.length/\@nx (.tup []) (H.set g ⟨w,v,(H.at_ g).exact,(H.at_ g).xs.take off++List.replicate len z++(H.at_ g).xs.drop (off+len)⟩) ⟨K⟩):=(rfl)
theorem zl6{m:Nat}{k:IntKind}:@opK P (.appZ w m z) H [.nilS,.int k a] ⟨K⟩=(0<a/\a * m<=140737488355328/\@nx (.ref H.n 1 0 a.toNat) (H.push ⟨w,1,false,List.replicate a.toNat z⟩) ⟨K⟩):=(rfl)
theorem K_max:@opK P .max H [.int k a,.int k b] ⟨K⟩=@nx (.int k (Max.max a b)) H ⟨K⟩:=by simp[opK,AF,nx]
theorem K_min:@opK P .min H [.int k a,.int k b] ⟨K⟩=@nx (.int k (Min.min a b)) H ⟨K⟩:=by simp[opK,AF,nx]
theorem z2t{k':IntKind}:@opK P (.mkSlice w n z) H [.int k a,.int k' b] ⟨K⟩=(0<=a/\a<=b/\b * n<=140737488355328/\@nx (.ref H.n 1 0 a.toNat) (H.push ⟨w,1,true,List.replicate b.toNat z⟩) ⟨K⟩):=(rfl)
theorem z9p{f:Nat}:@opK P (.mkFunc f) H xs ⟨K⟩=@nx (.fn f xs) H ⟨K⟩:=(rfl)
theorem zgf:@opK P .mkMap H [] ⟨K⟩=@nx (.map H.n 1) (H.push ⟨0,1,true,[]⟩) ⟨K⟩:=(rfl)
theorem z9q:@opK P (.mapGet z) H [.map g v,.int k a] ⟨K⟩=(k=.i64/\(H.at_ g).ver=v/\(H.at_ g).w=0/\(H.at_ g).exact=true/\@optN _ (IF z a (H.at_ g).xs) ⟨λy=>@nx y H ⟨K⟩⟩):=(rfl)
theorem z9r:@opK P .mapSet H [.map g v,.int k a,x] ⟨K⟩=(k=.i64/\(H.at_ g).ver=v/\(H.at_ g).w=0/\(H.at_ g).exact=true/\@optN _ (setM a x (H.at_ g).xs) ⟨λys=>@nx .any (H.set g ⟨0,v,true,ys⟩) ⟨K⟩⟩):=(rfl)
theorem Z3:@opK P (.len false) H [.full w xs] ⟨K⟩=@nx (.int .i64 xs.length) H ⟨K⟩:=(rfl)
theorem z2u{w':Nat}:@opK P (.iaddr w) H [.full w' xs,.int k a] ⟨K⟩=(w'=w/\0<=a/\a<xs.length/\@nx (.cptr (xs.getD a.toNat .any)) H ⟨K⟩):=(rfl)
theorem Z4:@opK P (.eqn p) H [.full w xs,.nilS] ⟨K⟩=(xs≠[]/\@nx (.bool p) H ⟨K⟩):=(rfl)
theorem z9s{w':Nat}{lo hi:Option Int}:@slcN w (.full w' xs) lo hi none H ⟨K⟩=(w'=w/\0<=lo.getD 0/\lo.getD 0<=hi.getD xs.length/\hi.getD xs.length<=xs.length/\@nx (.lst w' ((xs.take (hi.getD xs.length).toNat).drop (lo.getD 0).toNat)) H ⟨K⟩):=(rfl)
theorem z2v{w':Nat}{lo hi:Option Int}{m:Int}:@slcN w (.full w' xs) lo hi (some m) H ⟨K⟩=(m=0/\hi=some 0/\(lo=none\/lo=some 0)/\@nx .nul H ⟨K⟩):=(rfl)
theorem z9t{w':Nat}:@appN w n (.full w' xs) ys H ⟨K⟩=(w'=w/\(ys.length=0->@nx (.full w' xs) H ⟨K⟩)/\(0<ys.length->(xs.length+ys.length) * n<=140737488355328/\@nx (.ref H.n 1 0 (xs.length+ys.length)) (H.push ⟨w,1,false,xs++ys⟩) ⟨K⟩)):=(rfl)
theorem z2w:IF z a []=some z:=rfl
theorem Qg:IF z a (.int .i64 b::y::xs)=if b=a then some y else IF z a xs:=rfl
theorem z9u:setM a x []=some [.int .i64 a,x]:=rfl
theorem z2x:setM a x (.int .i64 b::y::xs)=if b=a then some (.int .i64 b::x::xs) else (setM a x xs).map λr'=>.int .i64 b::y::r':=rfl
theorem zl7{f:Nat}:@opK P .call H (.fn f cs::xs) ⟨K⟩=@KD P f (xs++cs) H ⟨K⟩:=(rfl)
end
section
variable {P:Program}{H:A5}{K:AV->Prop}{xs cs:List AV}{z:AV}{w len:Nat}
theorem Dt{k:AK}(h:k.still=true):@opQ P k H xs ⟨K⟩=@opK P k H xs ⟨λx _=>K x⟩:=by
 cases k<;>first|(exact propext ⟨λh=>h.2,λh=>⟨rfl,h⟩⟩)|(simp[AK.still] at h)
theorem Q_mv  : @opQ P .mv H xs ⟨K⟩=@opK P .mv H xs ⟨λx _=>K x⟩:=Dt rfl
theorem zl8  : @opQ P .pick H xs ⟨K⟩=@opK P .pick H xs ⟨λx _=>K x⟩:=Dt rfl
theorem zgg{zs:List AV}{pl:List (Nat × Nat)}{idx:List Nat}:@opQ P (.build zs pl idx) H xs ⟨K⟩=@opK P (.build zs pl idx) H xs ⟨λx _=>K x⟩:=Dt rfl
theorem zl9{a:Bool}{s:Nat}:@opQ P (.load a s) H xs ⟨K⟩=@opK P (.load a s) H xs ⟨λx _=>K x⟩:=Dt rfl
theorem Z5  : @opQ P .nilCheck H xs ⟨K⟩=@opK P .nilCheck H xs ⟨λx _=>K x⟩:=Dt rfl
theorem Q_bin{op:BinOp}:@opQ P (.bin op) H xs ⟨K⟩=@opK P (.bin op) H xs ⟨λx _=>K x⟩:=Dt rfl
theorem Q_eqb{n:Bool}:@opQ P (.eqb n) H xs ⟨K⟩=@opK P (.eqb n) H xs ⟨λx _=>K x⟩:=Dt rfl
theorem Q_eqs{n:Bool}{ks:List Nat}:@opQ P (.eqs n ks) H xs ⟨K⟩=@opK P (.eqs n ks) H xs ⟨λx _=>K x⟩:=Dt rfl
theorem Q_eqn{n:Bool}:@opQ P (.eqn n) H xs ⟨K⟩=@opK P (.eqn n) H xs ⟨λx _=>K x⟩:=Dt rfl
theorem Q_un{op:UnOp}:@opQ P (.un op) H xs ⟨K⟩=@opK P (.un op) H xs ⟨λx _=>K x⟩:=Dt rfl
theorem zla{k:IntKind}:@opQ P (.conv k) H xs ⟨K⟩=@opK P (.conv k) H xs ⟨λx _=>K x⟩:=Dt rfl
theorem zgh{w:Nat}{lo hi mx:Bool}:@opQ P (.slice w lo hi mx) H xs ⟨K⟩=@opK P (.slice w lo hi mx) H xs ⟨λx _=>K x⟩:=Dt rfl
theorem zgi{a:Bool}{o s:Nat}:@opQ P (.faddr a o s) H xs ⟨K⟩=@opK P (.faddr a o s) H xs ⟨λx _=>K x⟩:=Dt rfl
theorem zgj{a:Bool}{o s:Nat}:@opQ P (.field a o s) H xs ⟨K⟩=@opK P (.field a o s) H xs ⟨λx _=>K x⟩:=Dt rfl
theorem zgk{w:Nat}:@opQ P (.iaddr w) H xs ⟨K⟩=@opK P (.iaddr w) H xs ⟨λx _=>K x⟩:=Dt rfl
theorem z9v{n w:Nat}{a:Bool}:@opQ P (.iaddrA n w a) H xs ⟨K⟩=@opK P (.iaddrA n w a) H xs ⟨λx _=>K x⟩:=Dt rfl
theorem zgl{n w:Nat}{a:Bool}:@opQ P (.index n w a) H xs ⟨K⟩=@opK P (.index n w a) H xs ⟨λx _=>K x⟩:=Dt rfl
theorem Z6  : @opQ P .indexStr H xs ⟨K⟩=@opK P .indexStr H xs ⟨λx _=>K x⟩:=Dt rfl
theorem z2y{i:Nat}:@opQ P (.extract i) H xs ⟨K⟩=@opK P (.extract i) H xs ⟨λx _=>K x⟩:=Dt rfl
theorem Q_cap:@opQ P .cap H xs ⟨K⟩=@opK P .cap H xs ⟨λx _=>K x⟩:=Dt rfl
theorem Q_len{b:Bool}:@opQ P (.len b) H xs ⟨K⟩=@opK P (.len b) H xs ⟨λx _=>K x⟩:=Dt rfl
theorem Q_max  : @opQ P .max H xs ⟨K⟩=@opK P .max H xs ⟨λx _=>K x⟩:=Dt rfl
theorem Q_min  : @opQ P .min H xs ⟨K⟩=@opK P .min H xs ⟨λx _=>K x⟩:=Dt rfl
theorem z9w:@opQ P (.mapGet z) H xs ⟨K⟩=@opK P (.mapGet z) H xs ⟨λx _=>K x⟩:=Dt rfl
theorem z9x{f:Nat}:@opQ P (.mkFunc f) H xs ⟨K⟩=@opK P (.mkFunc f) H xs ⟨λx _=>K x⟩:=Dt rfl
theorem zgm  : @opQ P .toStr H xs ⟨K⟩=@opK P .toStr H xs ⟨λx _=>K x⟩:=Dt rfl
theorem z9y  : @opQ P .runStr H xs ⟨K⟩=@opK P .runStr H xs ⟨λx _=>K x⟩:=Dt rfl
theorem zgn{f:Nat}:@opQ P .call H (.fn f cs::xs) ⟨K⟩=@z9d P f (xs++cs) H ⟨K⟩:=(rfl)
theorem Q_bsl{idx:List Nat}:@opQ P (.bslice w len z idx) H xs ⟨K⟩=(HH w len idx xs/\0<w/\Bh (F2 idx xs (List.replicate len z))=true/\@nq (.full w (F2 idx xs (List.replicate len z))) ⟨K⟩):=(rfl)
end
section
variable {H:A5}{G:Grp}{g j:Nat}
end
section
variable {P:Program}{H:A5}{env:Env}{K:List AV->Prop}{l:List ARes}{t s:Nat}{a:Bool}
theorem zgo:resK P [] env H K=K []:=(rfl)
theorem z9z:resK P (.slot t::l) env H K=resK P l env H λxs=>K (env t::xs):=(rfl)
theorem za0:resK P (.cell t a s::l) env H K=@opK P (.load a s) H [env t] ⟨λx _=>resK P l env H λxs=>K (x::xs)⟩:=(rfl)
end
theorem X5{p:Prop}[Decidable p](h:p):true=decide p:=(AE h).symm
theorem X6{p:Prop}[Decidable p](h:¬p):false=decide p:=(Bc h).symm
theorem NO{p q:Prop}[Decidable p][Decidable q](h:p↔q):decide p=decide q:=B1.2 h
theorem getD_map{α:Type}[Inhabited α](f:α->AV)(l:List α)(i:Nat):(l.map f).getD i .any=if i<l.length then f (l.getD i default) else .any:=by
 by_cases h:i<l.length<;>simp[List.getD,h]
def nth{α:Type}[Inhabited α](l:List α)(i:Nat):α:=l.getD i default
theorem z2z{α:Type}[Inhabited α](f:α->AV)(l:List α)(i:Nat)(h:i<l.length):(l.map f).getD i .any=f (nth l i):=by rw[getD_map,Ae h];rfl
theorem za1{α:Type}(f:α->AV)(l:List α)(i:Nat):(l.map f).drop i=(l.drop i).map f:=List.map_drop.symm
theorem za2{α:Type}(f:α->AV)(l:List α)(i:Nat):(l.map f).take i=(l.take i).map f:=List.map_take.symm
theorem Ft{α:Type}{f:α->AV}(h:∀x,(f x).pure=true):∀l:List α,Bh (l.map f)=true
 |[]=>rfl
 |x::l=>by simp[Bh,h x,Ft h l]
theorem D9(k:IntKind)(l:List Int):Bh (l.map (AV.int k))=true:=Ft (λ_=>rfl) l
theorem z37(k:IntKind)(l:List Int):Bh (l.map λx=>AV.int k x)=true:=Ft (λ_=>rfl) l
theorem z38(l:List Bool):Bh (l.map AV.bool)=true:=Ft (λ_=>rfl) l
attribute [push_cast] z34 z35 z36 zgf z9q z9r Z3 z2u Z4 z9s z2v z9t z2w Qg z9u z2x z9w
attribute [push_cast] K_clr zl6 K_cap Q_cap zg1 zg2 z2e RB z2f z9k zga zgb zgc zgd zge z9l z9m z9n z9o K_mv zkz zg3 K_box zg4 z9f z9g z9h zg5 zl0 zl1 zl2 K_add K_sub K_mul K_quo K_rem K_and K_or K_xor z9i K_shl K_shr K_eql K_neq K_lss K_leq K_gtr K_geq zl3 zl4 K_eqb K_eqs z2g z2h z2i K_not K_neg zl5 zg6 z9j zg7 z2j z2k zg8 z2l z2m Z0 Z1 zg9 Z2 z2n z2o z2p z2q z2r z2s K_app K_max K_min z2t z9p zl7 Q_mv zl8 zgg zl9 Z5 Q_bin Q_eqb Q_eqs Q_eqn Q_un zla zgh zgi zgj zgk z9v zgl Z6 z2y Q_len Q_max Q_min z9x zgm z9y zgn Q_bsl
attribute [push_cast] z21 z22 z23 z24 z25 z26 z27 z9a
attribute [push_cast] Ga AV.cells AV.isAny Ez AV.one JX eqL eq1 Gy Gx HH F2 Rr optA List.replicate Bh AV.pure Ret zgo z9z za0 resV za1 za2 D9 z37 z38
def pos:List Nat->Nat->Option Nat
 |[],_=>none
 |k::ks,g=>if g=k then some 0 else (pos ks g).map (·+1)
theorem Ns:∀{ks:List Nat}{g j:Nat},pos ks g=some j->j<ks.length/\ks.getD j 0=g
 |[],g,j,h=>by simp[pos] at h
 |k::ks,g,j,h=>by
  rw[pos] at h;split at h
  ·rename_i hk;cases h;exact⟨by simp,by simp[hk]⟩
  ·obtain⟨i,hi,rfl⟩:=Ag.1 h
   obtain⟨h1,h2⟩:=Ns hi;exact⟨by simp;omega,by simpa using h2⟩
theorem RD:∀{ks:List Nat}{g:Nat},pos ks g=none->g∉ks
 |[],g,_=>by simp
 |k::ks,g,h=>by
  rw[pos] at h;split at h
  ·cases h
  ·rename_i hk
   have:=RD (Option.map_eq_none_iff.1 h);simp[hk,this]
def frzL(w:Nat)(ys:List AV):AV:=bif Bh ys then .lst w ys else .any
def frzP(y:AV):AV:=bif y.pure then .cptr y else .any
def rnV(b:Nat)(H:A5)(ks:List Nat):Nat->AV->AV
 |0,x=>bif x.pure then x else .any
 |d+1,.ref g v off len=>if g<b then .ref g v off len else if v=(H.at_ g).ver then
  (match pos ks g with
   |some j=>.ref (b+j) 1 off len
   |none=>if 0<(H.at_ g).w/\off+len<=(H.at_ g).xs.length then frzL (H.at_ g).w ((((H.at_ g).xs.drop off).take len).map (rnV b H ks d)) else .any)
  else .any
 |d+1,.ptr g v i o=>if g<b then .ptr g v i o else if v=(H.at_ g).ver then
  (match pos ks g with
   |some j=>.ptr (b+j) 1 i o
   |none=>if o=0/\i<(H.at_ g).xs.length/\0<(H.at_ g).w then frzP (rnV b H ks d ((H.at_ g).xs.getD i .any)) else .any)
  else .any
 |_+1,.map g v=>if g<b then .map g v else if v=(H.at_ g).ver then (match pos ks g with|some j=>.map (b+j) 1|none=>.any) else .any
 |d+1,.agg cs=>.agg (cs.map (rnV b H ks d))
 |d+1,.tup cs=>.tup (cs.map (rnV b H ks d))
 |d+1,.fn f cs=>.fn f (cs.map (rnV b H ks d))
 |_+1,x=>x
def inv(b:Nat)(ks:List Nat)(j:Nat):Nat:=if j<b then j else ks.getD (j-b) 0
def MS.repack(S:MS)(b:Nat)(H:A5)(ks:List Nat):MS where
 w:=S.w
 im:=λc=>S.im c\/∃g,g<H.n/\b<=g/\g∉ks/\0<(H.at_ g).w/\0<S.cap g/\c=S.place g
 keep:=S.keep
 n:=b+ks.length
 place:=λj=>S.place (inv b ks j)
 cur:=λj=>if j<b then S.cur j else 1
 cap:=λj=>S.cap (inv b ks j)
 wid:=λj=>S.wid (inv b ks j)
 base:=S.base
def A5.repack(H:A5)(b:Nat)(ks:List Nat)(d:Nat):A5:=⟨b+ks.length,λj=>⟨(H.at_ (inv b ks j)).w,if j<b then (H.at_ j).ver else 1,(H.at_ (inv b ks j)).exact,(H.at_ (inv b ks j)).xs.map (rnV b H ks d)⟩⟩
section
variable {S:MS}{H:A5}{b:Nat}{ks:List Nat}
theorem Gn{j:Nat}(h:j<b):inv b ks j=j:=Ae h
theorem V7{j:Nat}:inv b ks (b+j)=ks.getD j 0:=by
 have h1:b+j-b=j:=by omega
 have h2:¬b+j<b:=by omega
 rw[inv,Ab h2,h1]
theorem RE{x:AV}{v:Value}(hx:x.pure=true)(h:VRel S x v):VRel (S.repack b H ks) x v:=VRel.of_pure (S:=S) (S':=S.repack b H ks) rfl (λ_ hb=>.inl hb) hx h
theorem Z7(hS:SRel S H):∀(d:Nat){x:AV}{v:Value},VRel S x v->VRel (S.repack b H ks) (rnV b H ks d x) v
 |0,x,v,h=>by
  rw[rnV];cases hp:x.pure
  ·trivial
  ·exact RE hp h
 |d+1,x,v,h=>by
  have keyL:∀{cs:List AV}{vs:List Value},AB S cs vs->AB (S.repack b H ks) (cs.map (rnV b H ks d)) vs:=by
   intro cs
   induction cs with
   |nil=>intro vs hh;exact hh
   |cons c cs ih =>
    intro vs hh;obtain⟨u,r,rfl,h1,h2⟩:=hh;exact⟨u,r,rfl,Z7 hS d h1,ih h2⟩
  cases x with
  |ref g vn off len =>
   obtain⟨⟨a,c,rfl,ha⟩,hg,hvn,hcur⟩:=h;have hG:=hS.live_of hg;rw[rnV];split
   ·rename_i hgb
    refine⟨⟨a,c,rfl,ha⟩,by show g<b+_;omega,by show vn<=if g<b then _ else _;rw[Ae hgb];exact hvn,λhe=>?_⟩;have he':(if g<b then S.cur g else 1)=vn:=he;rw[Ae hgb] at he';show ∃a cap',_=Value.slice a len cap'/\((a=some ⟨S.place (inv b ks g),off * S.wid (inv b ks g),none⟩/\cap'=S.cap (inv b ks g)-off/\off+len<=S.cap (inv b ks g))\/(len=0/\cap'=0/\S.cap (inv b ks g)<=off));rw[Gn hgb];exact hcur he'
   ·split
    ·rename_i hver
     have hh:=hcur (by rw[hG.ver,hver]);split
     ·rename_i j hj
      obtain⟨h1,h2⟩:=Ns hj;refine⟨⟨a,c,rfl,ha⟩,by show b+j<b+_;omega,by show 1<=if b+j<b then _ else 1;rw[Ab (by omega)];exact Ad 1,λ_=>?_⟩;show ∃a cap',_=Value.slice a len cap'/\((a=some ⟨S.place (inv b ks (b+j)),off * S.wid (inv b ks (b+j)),none⟩/\cap'=S.cap (inv b ks (b+j))-off/\off+len<=S.cap (inv b ks (b+j)))\/(len=0/\cap'=0/\S.cap (inv b ks (b+j))<=off));rw[V7,h2];exact hh
     ·rename_i hb hj
      have hnk:=RD hj;split
      ·rename_i hw
       obtain⟨hw,hol⟩:=hw;unfold frzL;cases hpu:Bh ((((H.at_ g).xs.drop off).take len).map (rnV b H ks d))
       ·trivial
       ·obtain⟨a',cap',hv,hcase⟩:=hh
        obtain⟨rfl,-,rfl⟩:a=a'/\len=len/\c=cap':=by cases hv;exact⟨rfl,rfl,rfl⟩
        have hl:((((H.at_ g).xs.drop off).take len).map (rnV b H ks d)).length=len:=by simp;omega
        show VRel _ (.lst _ _) _
        have hnone:a=none->c=0:=λhn=>by
         rcases hcase with⟨rfl,_⟩|⟨_,hh,_⟩
         ·cases hn
         ·exact hh
        by_cases hc0:S.cap g=0
        ·have hlen:=hG.len hw
         have hnil:((H.at_ g).xs.drop off).take len=[]:=Ay (by simp;omega);simp only[hnil,AZ] at hl ⊢;exact⟨rfl,hw,a,c,[],by rw[<-hl],⟨Au _,hnone⟩,rfl,λhne=>absurd rfl hne⟩
        obtain⟨⟨cells,TT,us,hb2,hcs,hus,hfl⟩,_⟩:=hG.live hw (by omega);refine⟨hpu,hw,a,c,_,by rw[hl],⟨?_,hnone⟩,keyL ((hus.drop off).take len),λhne=>?_⟩
        ·rw[hl];rcases hcase with⟨_,c2,c3⟩|⟨c1,c2,_⟩<;>omega
        ·rcases hcase with⟨rfl,_,_⟩|⟨c1,_,_⟩
         ·refine⟨_,_,rfl,.inr ⟨g,by rw[<-hS.n];exact hg,by omega,hnk,hw,by omega,rfl⟩,λj u hu=>?_⟩
          rw[BU] at hu;split at hu
          ·rw[BS] at hu
           have:=hfl.row hb2 (off+j) u hu;rw[Bb,AG] at this;rw[hG.wid];exact this
          ·cases hu
         ·exact absurd (Ay (by rw[hl];exact c1)) hne
      ·trivial
    ·trivial
  |ptr g vn i o =>
   obtain⟨⟨a,rfl⟩,hg,hvn,hcur⟩:=h;have hG:=hS.live_of hg;rw[rnV];split
   ·rename_i hgb
    refine⟨⟨a,rfl⟩,by show g<b+_;omega,by show vn<=if g<b then _ else _;rw[Ae hgb];exact hvn,λhe=>?_⟩;have he':(if g<b then S.cur g else 1)=vn:=he;rw[Ae hgb] at he';show _=Value.pointer (some ⟨S.place (inv b ks g),i * S.wid (inv b ks g)+o,none⟩);rw[Gn hgb];exact hcur he'
   ·split
    ·rename_i hver
     have hh:=hcur (by rw[hG.ver,hver]);split
     ·rename_i j hj
      obtain⟨h1,h2⟩:=Ns hj;refine⟨⟨a,rfl⟩,by show b+j<b+_;omega,by show 1<=if b+j<b then _ else 1;rw[Ab (by omega)];exact Ad 1,λ_=>?_⟩;show _=Value.pointer (some ⟨S.place (inv b ks (b+j)),i * S.wid (inv b ks (b+j))+o,none⟩);rw[V7,h2];exact hh
     ·rename_i hb hj
      have hnk:=RD hj;split
      ·rename_i hc
       obtain⟨rfl,hi,hw⟩:=hc;unfold frzP;cases hpu:(rnV b H ks d ((H.at_ g).xs.getD i .any)).pure
       ·trivial
       ·show VRel _ (.cptr _) _
        obtain⟨u,hu,hl⟩:=hG.elem hw hi;have k1:=Z7 hS d hu;refine⟨hpu,S.place g,i * (H.at_ g).w,u,?_,.inr ⟨g,by rw[<-hS.n];exact hg,by omega,hnk,hw,by have:=hG.len hw;omega,rfl⟩,k1,?_⟩
        ·rw[hh,hG.wid];rfl
        ·rw[hl.1];exact hl
      ·trivial
    ·trivial
  |agg cs=>obtain⟨vs,rfl,hr⟩:=h;exact⟨vs,rfl,keyL hr⟩
  |tup cs=>obtain⟨vs,rfl,hr⟩:=h;exact⟨vs,rfl,keyL hr⟩
  |fn f cs=>obtain⟨vs,rfl,hr⟩:=h;exact⟨vs,rfl,keyL hr⟩
  |full w xs=>exact RE h.1 h
  |map g vn =>
   obtain⟨⟨a,rfl⟩,hg,hvn,hcur⟩:=h;have hG:=hS.live_of hg;rw[rnV];split
   ·rename_i hgb
    refine⟨⟨a,rfl⟩,by show g<b+_;omega,by show vn<=if g<b then _ else _;rw[Ae hgb];exact hvn,λhe=>?_⟩;have he':(if g<b then S.cur g else 1)=vn:=he;rw[Ae hgb] at he';show _=Value.map (some (S.place (inv b ks g)));rw[Gn hgb];exact hcur he'
   ·split
    ·rename_i hver
     have hh:=hcur (by rw[hG.ver,hver]);split
     ·rename_i j hj
      obtain⟨h1,h2⟩:=Ns hj;refine⟨⟨a,rfl⟩,by show b+j<b+_;omega,by show 1<=if b+j<b then _ else 1;rw[Ab (by omega)];exact Ad 1,λ_=>?_⟩;show _=Value.map (some (S.place (inv b ks (b+j))));rw[V7,h2];exact hh
     ·trivial
    ·trivial
  |lst w xs=>exact RE h.1 h
  |cptr x=>exact RE h.1 h
  |any=>trivial
  |bool _=>exact h
  |int _ _=>exact h
  |str _=>exact h
  |nilS=>exact h
  |nul=>exact h
  |emp=>exact h
  |nilP=>exact h
  |nilF=>exact h
  |yld l=>exact h
theorem Jz(hS:SRel S H)(hb:b<=S.n):BEvo b S (S.repack b H ks) where
 base:=rfl
 os:=rfl
 tape:=⟨rfl,Ad _⟩
 output:=rfl
 size:=Ad _
 kept _ _:=rfl
 im _ h:=.inl h
 keep _ h:=h
 fresh c hc:=by
  rcases hc with hc|⟨g,hg,_,_,hw,hcap,rfl⟩
  ·exact .inl hc
  ·exact .inr λhk=>((hS.grp g hg).live hw hcap).2 (.inr hk)
 n:=CB _ _
 cur g hg:=by show _<=if g<b then S.cur g else 1;rw[Ae hg];exact Ad _
 same g hg _:=by
  show S.place (inv b ks g)=_/\S.cap (inv b ks g)=_/\S.wid (inv b ks g)=_;rw[Gn hg];exact⟨rfl,rfl,rfl⟩
theorem LF(d:Nat)(hS:SRel S H)(hb:b<=H.n)(hk:∀k∈ks,b<=k/\k<H.n)(hn:ks.Nodup):SRel (S.repack b H ks) (H.repack b ks d):=by
 have keyL:∀{cs:List AV}{vs:List Value},AB S cs vs->AB (S.repack b H ks) (cs.map (rnV b H ks d)) vs:=by
  intro cs
  induction cs with
  |nil=>intro vs hh;exact hh
  |cons c cs ih =>
   intro vs hh;obtain⟨u,r,rfl,h1,h2⟩:=hh;exact⟨u,r,rfl,Z7 hS d h1,ih h2⟩
 have hinv:∀j,j<b+ks.length->inv b ks j<H.n/\(j<b\/b<=inv b ks j/\inv b ks j∈ks):=by
  intro j hj;by_cases hjb:j<b
  ·rw[Gn hjb];exact⟨by omega,.inl hjb⟩
  ·have h1:j-b<ks.length:=by omega
   have:inv b ks j=ks[j-b]:=by simp[inv,hjb,List.getD,Al h1]
   rw[this];have:=hk _ (BY h1);exact⟨this.2,.inr ⟨this.1,BY h1⟩⟩
 refine⟨rfl,λj hj=>?_,λj j' hj hj' hne hw hw'=>?_,λc hc=>?_⟩
 ·obtain⟨h1,h2⟩:=hinv j hj
  have hG:=hS.grp _ h1
  have hni:(H.at_ (inv b ks j)).has (S.cap (inv b ks j))->¬((S.repack b H ks).im (S.place (inv b ks j))\/(S.repack b H ks).keep (S.place (inv b ks j))):=λhq=>by
   have a5:=hG.has_ni hq;rintro ((hi|⟨g,hg,hbg,hnk,hw',hc',he⟩)|hi)
   ·exact a5 (.inl hi)
   ·have hne:inv b ks j≠g:=by
     intro hh;rcases h2 with h2|h2
     ·rw[Gn h2] at hh;omega
     ·exact hnk (hh ▸ h2.2)
    exact hS.apart _ g h1 hg hne hq (.inl ⟨hw',hc'⟩) he
   ·exact a5 (.inr hi)
  refine⟨?_,hG.wid,λhw hc=>?_,λhw=>?_,λhw he=>?_,λhw he=>?_⟩
  ·show (if j<b then S.cur j else 1)=if j<b then (H.at_ j).ver else 1
   split
   ·rename_i hjb;rw[Gn hjb] at hG;exact hG.ver
   ·rfl
  ·obtain⟨⟨cells,TT,us,a1,a2,a3,a4⟩,a5⟩:=hG.live hw hc
   exact⟨⟨cells,TT,us,a1,a2,keyL a3,a4⟩,hni (.inl ⟨hw,hc⟩)⟩
  ·show ((H.at_ (inv b ks j)).xs.map _).length<=_;rw[AY];exact hG.len hw
  ·show ((H.at_ (inv b ks j)).xs.map _).length=_;rw[AY];exact hG.full hw he
  ·obtain⟨⟨es,clock,a1,a2⟩,a5⟩:=hG.mlive hw he
   exact⟨⟨es,clock,a1,keyL a2⟩,hni (.inr ⟨hw,he⟩)⟩
 ·obtain⟨h1,h2⟩:=hinv j hj
  obtain⟨h1',h2'⟩:=hinv j' hj';refine hS.apart _ _ h1 h1' ?_ hw hw';intro hh;rcases h2 with h2|⟨h2,h3⟩<;>rcases h2' with h2'|⟨h2',h3'⟩
  ·rw[Gn h2,Gn h2'] at hh;exact hne hh
  ·rw[Gn h2] at hh;omega
  ·rw[Gn h2'] at hh;omega
  ·have hjb:¬j<b:=λh=>by rw[Gn h] at h2;omega
   have hjb':¬j'<b:=λh=>by rw[Gn h] at h2';omega
   have e1:j-b<ks.length:=by have:j<b+ks.length:=hj;omega
   have e2:j'-b<ks.length:=by have:j'<b+ks.length:=hj';omega
   have f1:inv b ks j=ks[j-b]:=by simp[inv,hjb,List.getD,Al e1]
   have f2:inv b ks j'=ks[j'-b]:=by simp[inv,hjb',List.getD,Al e2]
   rw[f1,f2] at hh;have:=(List.getElem_inj hn).1 hh;omega
 ·rcases hc with (hc|⟨g,hg,_,_,hw,hcap,rfl⟩)|hc
  ·exact hS.im c (.inl hc)
  ·exact (hS.grp g hg).lt hw hcap
  ·exact hS.im c (.inr hc)
theorem za3{P:Program}{n:Nat}{c:AC}{env:Env}{Q:Ex->Env->A5->Prop}(ks:List Nat)(d:Nat)(hb:b<=H.n)(hk:∀k∈ks,b<=k/\k<H.n)(hn:ks.Nodup)
 (h:T P n b c (λi=>rnV b H ks d (env i)) (H.repack b ks d) Q):T P n b c env H Q:=by
 intro rd mm hrd code hc S a hbS hS hF;have hev:=Jz (ks:=ks) hS hbS;refine wpIn_mono (h rd mm hrd code hc (S.repack b H ks) a (CB _ _) (LF d hS hb hk hn) ⟨hF.size,hF.defers.of hev.base hev.size hev.keep hev.fresh (λb hb=>hev.kept b (.inr hb)),λj hj=>Z7 hS d (hF.val j hj)⟩) λe a w hh=>hh.trans (Jz hS hbS)
end
theorem T9:A5.nil=hl []:=by
 simp[A5.nil,hl]
theorem hl_n(l:List Grp):(hl l).n=l.length:=rfl
theorem SRel.congr{S:MS}{H H':A5}(hn:H'.n=H.n)(h:∀g,g<H.n->H'.at_ g=H.at_ g)(hS:SRel S H):SRel S H' :=
 ⟨hS.n.trans hn.symm,λg hg=>by rw[h g (by omega)];exact hS.grp g (by omega),λg g' hg hg' hne hw hw'=>by
  rw[h g (by omega)] at hw;rw[h g' (by omega)] at hw'
  exact hS.apart g g' (by omega) (by omega) hne hw hw',hS.im⟩
theorem B3.congr{P:Program}{f:Nat}{xs:List AV}{H H':A5}{K:AV->A5->Prop}(hn:H'.n=H.n)(h:∀g,g<H.n->H'.at_ g=H.at_ g)(k:B3 P f xs H' K):B3 P f xs H K :=
 ⟨k.1,λS cargs hS hx=>k.2 S cargs (hS.congr hn h) hx⟩
def A5.groups(H:A5):List Grp:=(List.range H.n).map H.at_
theorem TA(l:List Grp):(hl l).groups=l:=by
 refine Cm (by simp[A5.groups,hl]) λi h1 h2=>?_;simp[A5.groups,hl,h2]
def Ee:Nat->List Nat->List Grp->List Grp
 |_,_,[]=>[]
 |i,ks,G::l=>(if i∈ks then G.dead else G)::Ee (i+1) ks l
theorem FO:∀(i:Nat)(ks:List Nat)(l:List Grp),(Ee i ks l).length=l.length
 |_,_,[]=>rfl
 |i,ks,G::l=>by simp[Ee,FO (i+1) ks l]
theorem Hs:∀(i:Nat)(ks:List Nat)(l:List Grp)(g:Nat),g<l.length->(Ee i ks l).getD g default=if i+g∈ks then (l.getD g default).dead else l.getD g default
 |_,_,[],g,h=>by simp at h
 |i,ks,G::l,0,h=>by simp[Ee]
 |i,ks,G::l,g+1,h=>by
  have:=Hs (i+1) ks l g (by simpa using h);have e:i+1+g=i+(g+1):=by omega
  rw[e] at this;simpa [Ee] using this
theorem Qh{P:Program}{f:Nat}{xs:List AV}{l:List Grp}{K:AV->A5->Prop}(d:Nat)(ks:List Nat)(hok:∀x∈xs,CJ d ((hl l).only ks) x)(h:B3 P f (xs.map (frzV d ((hl l).only ks))) (hl (Ee 0 ks l)) K):B3 P f xs (hl l) K:=by
 refine R9 d ks hok (B3.congr (H':=hl (Ee 0 ks l)) (by simp[hl,A5.kill,FO]) (λg hg=>?_) h);show (Ee 0 ks l).getD g default=if g∈ks then (l.getD g default).dead else l.getD g default
 rw[Hs 0 ks l g hg,Bb]
def leH(H:A5)(x y:AV):Prop:=∀S v,SRel S H->VRel S x v->VRel S y v
section
variable {H:A5}
theorem z3a{l:List Grp}{g v len:Nat}(hv:(l.getD g default).ver=v)(hw:0<(l.getD g default).w)(hx:(l.getD g default).xs=[])(he:(l.getD g default).exact=true)(hg:g<l.length)(h0:len=0):leH (hl l) .nilS (.ref g v 0 len):=λS u hS hu=>by
 subst h0;have hG:=hS.grp g hg;rw[Dr] at hG;have hf:=hG.full hw he;rw[hx] at hf;have hc:S.cap g=0:=hf.symm;have hu':u=.slice none 0 0:=hu;subst hu';exact⟨⟨none,0,rfl,λ_=>rfl⟩,by rw[hS.n];exact hg,by rw[hG.ver,hv];exact Ad _,λ_=>⟨none,0,rfl,.inr ⟨rfl,rfl,by rw[hc];exact Ad _⟩⟩⟩
end
mutual
def leS(l:List Grp):AV->AV->Prop
 |.int k a,y=>(match y with|.int k' b=>k=k'/\a=b|.any=>True|_=>False)
 |.bool a,y=>(match y with|.bool b=>a=b|.any=>True|_=>False)
 |.nilS,y=>(match y with
  |.nilS|.any=>True
  |.lst w ys=>0<w/\ys=[]
  |.ref g v off len=>off=0/\len=0/\(l.getD g default).ver=v/\0<(l.getD g default).w/\(l.getD g default).xs=[]/\(l.getD g default).exact=true/\g<l.length
  |_=>False)
 |.nul,y=>(match y with|.nul|.any=>True|.lst w ys=>0<w/\ys=[]|_=>False)
 |.emp,y=>(match y with|.emp|.any=>True|.lst w ys=>0<w/\ys=[]|_=>False)
 |.lst w xs,y=>(match y with|.lst w' ys=>w=w'/\xs=ys|.any=>True|_=>False)
 |.full w xs,y=>(match y with|.full w' ys=>w=w'/\xs=ys|.lst w' ys=>w=w'/\leSL l xs ys/\Bh ys=true|.any=>True|_=>False)
 |.ref g v o n,y=>(match y with|.ref g' v' o' n'=>g=g'/\v=v'/\o=o'/\n=n'|.any=>True|_=>False)
 |.ptr g v o n,y=>(match y with|.ptr g' v' o' n'=>g=g'/\v=v'/\o=o'/\n=n'|.any=>True|_=>False)
 |.agg xs,y=>(match y with|.agg ys=>leSL l xs ys|.any=>True|_=>False)
 |.tup xs,y=>(match y with|.tup ys=>leSL l xs ys|.any=>True|_=>False)
 |x,y=>(match y with|.any=>True|y=>x=y)
def leSL(l:List Grp):List AV->List AV->Prop
 |[],ys=>ys=[]
 |x::xs,ys=>(match ys with|y::ys=>leS l x y/\leSL l xs ys|[]=>False)
end
mutual
theorem TB{S:MS}{l:List Grp}(hS:SRel S (hl l)\/l=[]):∀(x:AV){y:AV}{v:Value},leS l x y->VRel S x v->VRel S y v
 |.any,y,v,h,hv=>by cases y<;>simp only[leS,reduceCtorEq] at h;trivial
 |.int k a,y,v,h,hv=>by
  cases y<;>simp only[leS] at h
  ·trivial
  ·obtain⟨rfl,rfl⟩:=h;exact hv
 |.bool a,y,v,h,hv=>by
  cases y<;>simp only[leS] at h
  ·trivial
  ·subst h;exact hv
 |.str s,y,v,h,hv=>by cases y<;>simp only[leS] at h<;>first|trivial|(cases h;done)|(cases h;exact hv)
 |.nilP,y,v,h,hv=>by cases y<;>simp only[leS] at h<;>first|trivial|(cases h;done)|exact hv
 |.nilF,y,v,h,hv=>by cases y<;>simp only[leS] at h<;>first|trivial|(cases h;done)|exact hv
 |.yld l,y,v,h,hv=>by cases y<;>simp only[leS] at h<;>first|trivial|(cases h;done)|(cases h;exact hv)
 |.cptr x,y,v,h,hv=>by cases y<;>simp only[leS] at h<;>first|trivial|(cases h;done)|(cases h;exact hv)
 |.fn f xs,y,v,h,hv=>by cases y<;>simp only[leS] at h<;>first|trivial|(cases h;done)|(cases h;exact hv)
 |.nilS,y,v,h,hv=>by
  cases y<;>simp only[leS] at h
  ·trivial
  ·exact hv
  ·obtain⟨h1,rfl⟩:=h;exact AV.le_nilS h1 S v hv
  ·obtain⟨rfl,rfl,h1,h2,h3,h4,h5⟩:=h
   rcases hS with hS|rfl
   ·exact z3a h1 h2 h3 h4 h5 rfl S v hS hv
   ·exact absurd h5 (Ba _)
 |.nul,y,v,h,hv=>by
  cases y<;>simp only[leS] at h
  ·trivial
  ·exact hv
  ·obtain⟨h1,rfl⟩:=h;exact AV.le_nul h1 S v hv
 |.emp,y,v,h,hv=>by
  cases y<;>simp only[leS] at h
  ·trivial
  ·exact hv
  ·obtain⟨h1,rfl⟩:=h;exact AV.le_emp h1 S v hv
 |.lst w xs,y,v,h,hv=>by
  cases y<;>simp only[leS] at h
  ·trivial
  ·obtain⟨rfl,rfl⟩:=h;exact hv
 |.full w xs,y,v,h,hv=>by
  cases y<;>simp only[leS] at h
  ·trivial
  ·rename_i w' ys
   obtain⟨rfl,h1,hp⟩:=h;obtain⟨_,h0,a,cap,vs,hv,hc,hl,hr⟩:=K3 hv;have hn:=AB.length hl;have hm:=Ki hS xs h1 hl;have hln:ys.length=xs.length:=by rw[<-AB.length hm,hn]
   exact⟨hp,h0,a,cap,vs,by rw[hln];exact hv,by rw[hln];exact hc,hm,λhne=>hr λh=>hne (by rw[h] at hln;exact List.length_eq_zero_iff.1 hln)⟩
  ·obtain⟨rfl,rfl⟩:=h;exact hv
 |.map g a,y,v,h,hv=>by cases y<;>simp only[leS] at h<;>first|trivial|(cases h;done)|(cases h;exact hv)
 |.ref g a o n,y,v,h,hv=>by
  cases y<;>simp only[leS] at h
  ·trivial
  ·obtain⟨rfl,rfl,rfl,rfl⟩:=h;exact hv
 |.ptr g a o n,y,v,h,hv=>by
  cases y<;>simp only[leS] at h
  ·trivial
  ·obtain⟨rfl,rfl,rfl,rfl⟩:=h;exact hv
 |.agg xs,y,v,h,hv=>by
  cases y<;>simp only[leS] at h
  ·trivial
  ·obtain⟨vs,rfl,hr⟩:=hv;exact⟨vs,rfl,Ki hS xs h hr⟩
 |.tup xs,y,v,h,hv=>by
  cases y<;>simp only[leS] at h
  ·trivial
  ·obtain⟨vs,rfl,hr⟩:=hv;exact⟨vs,rfl,Ki hS xs h hr⟩
theorem Ki{S:MS}{l:List Grp}(hS:SRel S (hl l)\/l=[]):∀(xs:List AV){ys:List AV}{vs:List Value},leSL l xs ys->AB S xs vs->AB S ys vs
 |[],ys,vs,h,hv=>by rw[show ys=[] from h];exact hv
 |x::xs,[],vs,h,hv=>h.elim
 |x::xs,y::ys,vs,h,hv=>by
  obtain⟨v,r,rfl,h1,h2⟩:=hv;exact⟨v,r,rfl,TB hS x h.1 h1,Ki hS xs h.2 h2⟩
end
theorem X7{l:List Grp}:∀{xs ys:List AV},leSL l xs ys->ys.length=xs.length
 |[],ys,h=>by rw[show ys=[] from h]
 |_::_,[],h=>h.elim
 |_::_,_::_,h=>by simp[X7 h.2]
mutual
theorem EL(l:List Grp):∀x:AV,leS l x x
 |.any=>trivial
 |.int _ _=>⟨rfl,rfl⟩
 |.bool _=>rfl
 |.str _=>rfl
 |.nilS=>trivial
 |.nul=>trivial
 |.emp=>trivial
 |.lst _ _=>⟨rfl,rfl⟩
 |.full _ _=>⟨rfl,rfl⟩
 |.map _ _=>rfl
 |.ref ..=>⟨rfl,rfl,rfl,rfl⟩
 |.ptr ..=>⟨rfl,rfl,rfl,rfl⟩
 |.cptr _=>rfl
 |.nilP=>rfl
 |.nilF=>rfl
 |.yld _=>rfl
 |.fn ..=>rfl
 |.agg xs=>By l xs
 |.tup xs=>By l xs
theorem By(l:List Grp):∀xs:List AV,leSL l xs xs
 |[]=>rfl
 |x::xs=>⟨EL l x,By l xs⟩
end
theorem z3b{x y:AV}(h:leS [] x y):AV.le x y:=λS v hv=>TB (.inr rfl) x h hv
theorem Kj{xs ys:List AV}(h:leSL [] xs ys):leL xs ys:=λS v hv=>Ki (.inr rfl) xs h hv
def z3c(l:List Grp)(G G':Grp):Prop:=G.w=G'.w/\G.ver=G'.ver/\(G'.exact=true->G.exact=true)/\leSL l G.xs G'.xs
def HJ(l0:List Grp):List Grp->List Grp->Prop
 |[],[]=>True
 |G::l,G'::l'=>z3c l0 G G'/\HJ l0 l l'
 |_,_=>False
theorem LG{l0:List Grp}:∀{l l':List Grp},HJ l0 l l'->l'.length=l.length
 |[],[],_=>rfl
 |G::l,G'::l',h=>by simp[LG h.2]
 |[],_::_,h=>h.elim
 |_::_,[],h=>h.elim
theorem NP{l0:List Grp}:∀{l l':List Grp},HJ l0 l l'->∀g,g<l.length->z3c l0 (l.getD g default) (l'.getD g default)
 |[],[],_,g,hg=>by simp at hg
 |G::l,G'::l',h,0,_=>h.1
 |G::l,G'::l',h,g+1,hg=>by simpa using NP h.2 g (by simpa using hg)
 |[],_::_,h,_,_=>h.elim
 |_::_,[],h,_,_=>h.elim
theorem HL{S:MS}{l l':List Grp}(hS:SRel S (hl l))(h:HJ l l l'):SRel S (hl l'):=by
 have hlen:=LG h;refine⟨hS.n.trans hlen.symm,λg hg=>?_,λg g' hg hg' hne hw hw'=>?_,hS.im⟩
 ·have hg':g<l.length:=by rw[<-hlen];exact hg
  obtain⟨h1,h2,h3,h5⟩:=NP h g hg';have h4:(l.getD g default).xs.length=(l'.getD g default).xs.length:=(X7 h5).symm;have hG:=hS.grp g hg';rw[Dr] at hG ⊢;refine⟨by rw[<-h2];exact hG.ver,by rw[<-h1];exact hG.wid,λhw hc=>?_,λhw=>by rw[<-h4];exact hG.len (by rw[h1];exact hw),λhw he=>by rw[<-h4];exact hG.full (by rw[h1];exact hw) (h3 he),λhw he=>?_⟩
  rotate_left
  ·obtain⟨⟨es,clock,a1,a2⟩,a5⟩:=hG.mlive (by rw[h1];exact hw) (h3 he)
   exact⟨⟨es,clock,a1,Ki (.inl hS) _ h5 a2⟩,a5⟩
  obtain⟨⟨cells,TT,us,a1,a2,a3,a4⟩,a5⟩:=hG.live (by rw[h1];exact hw) hc;exact⟨⟨cells,TT,us,a1,by rw[<-h1];exact a2,Ki (.inl hS) _ h5 a3,by rw[<-h1];exact a4⟩,a5⟩
 ·have hg1:g<l.length:=by rw[<-hlen];exact hg
  have hg1':g'<l.length:=by rw[<-hlen];exact hg'
  have key:∀g,g<l.length->((hl l').at_ g).has (S.cap g)->((hl l).at_ g).has (S.cap g):=λg hg hh=>by
   obtain⟨k1,_,k3,_⟩:=NP h g hg;rw[Dr] at hh ⊢;rcases hh with⟨q1,q2⟩|⟨q1,q2⟩
   ·exact .inl ⟨by rw[k1];exact q1,q2⟩
   ·exact .inr ⟨by rw[k1];exact q1,k3 q2⟩
  exact hS.apart g g' hg1 hg1' hne (key g hg1 hw) (key g' hg1' hw')
inductive Src where
 |grp (g:Nat)
 |virt (w:Nat)
def C7(w:Nat):AV->Src
 |.ref g _ _ _=>.grp g
 |.ptr g _ _ _=>.grp g
 |.map g _=>.grp g
 |_=>.virt w
def cellAt(H:A5)(x:AV)(k:Nat):AV:=match x with
 |.ptr g _ i _=>((H.at_ g).xs.getD i .any).cells.getD k .any
 |_=>.any
def Gb:Nat->List Src->List Nat × List Nat
 |_,[]=>([],[])
 |N,.grp g::r=>(g::(Gb N r).1,(Gb N r).2)
 |N,.virt w::r=>(N::(Gb (N+1) r).1,w::(Gb (N+1) r).2)
def IG(w:Nat):Grp:=⟨w,1,true,[]⟩
def EB:List (Nat × AV)->Env
 |[],_=>.any
 |(t,x)::l,j=>if j=t then x else EB l j
def Mt(l2:List Grp)(H1:A5)(b:Nat)(ks:List Nat)(env:Env):List (Nat × AV)->Prop
 |[]=>True
 |(t,y)::r=>leS l2 (rnV b H1 ks 6 (env t)) y/\Mt l2 H1 b ks env r
def allB(b n:Nat):List Nat->Prop
 |[]=>True
 |k::r=>b<=k/\k<n/\allB b n r
def V8:List Nat->Prop
 |[]=>True
 |k::r=>k∉r/\V8 r
def rnG(b:Nat)(H:A5)(ks:List Nat)(v:Nat)(G:Grp):Grp:=⟨G.w,v,G.exact,G.xs.map (rnV b H ks 6)⟩
def Fe(b:Nat)(H:A5)(ks:List Nat):List Grp->List Grp
 |[]=>[]
 |G::l=>rnG b H ks G.ver G::Fe b H ks l
def F4(b:Nat)(H:A5)(ks:List Nat)(l:List Grp):List Nat->List Grp
 |[]=>[]
 |k::r=>rnG b H ks 1 (l.getD k default)::F4 b H ks l r
def zgp(b:Nat)(env:Env)(l1 l2:List Grp)(ks:List Nat)(live:List (Nat × AV))(heap:List Grp):Prop:=Mt l2 (hl l1) b ks env live/\HJ l2 l2 heap
def zgq(b:Nat)(env:Env)(l1:List Grp)(ks:List Nat)(live:List (Nat × AV))(heap:List Grp):Prop :=
 allB b l1.length ks/\V8 ks/\zgp b env l1 (Fe b (hl l1) ks (l1.take b)++F4 b (hl l1) ks l1 ks) ks live heap
def NQ:List Nat->Prop
 |[]=>True
 |w::r=>0<w/\NQ r
theorem J0:∀{ws:List Nat},NQ ws->∀w∈ws,0<w
 |[],_,w,hw=>by simp at hw
 |k::r,h,w,hw=>by
  rcases Af.1 hw with rfl|hw
  ·exact h.1
  ·exact J0 h.2 w hw
def zgr(b:Nat)(env:Env)(l:List Grp)(p:List Nat × List Nat)(live:List (Nat × AV))(heap:List Grp):Prop:=NQ p.2/\zgq b env (l++p.2.map IG) p.1 live heap
def Head(b:Nat)(env:Env)(H:A5)(srcs:List Src)(live:List (Nat × AV))(heap:List Grp):Prop:=b<=H.n/\zgr b env H.groups (Gb H.n srcs) live heap
section
variable {P:Program}{n b:Nat}{env:Env}{H:A5}{Q:Ex->Env->A5->Prop}
theorem zgs{l:List Grp}{srcs:List Src}{live:List (Nat × AV)}{heap:List Grp}:Head b env (hl l) srcs live heap=(b<=l.length/\zgr b env l (Gb l.length srcs) live heap):=by
 rw[Head,TA,hl_n]
theorem zgt{c:AC}(w:Nat)(hw0:0<w)(h:T P n b c env (H.push ⟨w,1,true,[]⟩) Q):T P n b c env H Q:=by
 intro rd mm hrd code hc S a hb hS hF;exact wpIn_mono (h rd mm hrd code hc (S.virt w) a (Nat.le_succ_of_le hb) (hS.virt w hw0) ⟨hF.size,hF.defers.mono (Evo.virt _),λj hj=>VRel.mono (Evo.virt _) _ (hF.val j hj)⟩) λe a w hh=>hh.trans ((Evo.virt _).down hb)
theorem V9{c:AC}:∀(ws:List Nat){l:List Grp},(∀w∈ws,0<w)->T P n b c env (hl (l++ws.map IG)) Q->T P n b c env (hl l) Q
 |[],l,_,h=>by simpa using h
 |w::ws,l,hw,h=>zgt w (hw w (by simp)) (by rw[F3];exact V9 ws (λw' h'=>hw w' (by simp[h'])) (by simpa [IG] using h))
theorem z3d{c:AC}{H':A5}(hn:H'.n=H.n)(h:∀g,g<H.n->H'.at_ g=H.at_ g)(k:T P n b c env H' Q):T P n b c env H Q :=
 λrd mm hrd code hc S a hb hS hF=>k rd mm hrd code hc S a hb (hS.congr hn h) hF
theorem Nt{m:Nat}:∀{ks:List Nat},allB b m ks->∀k∈ks,b<=k/\k<m
 |[],_,k,hk=>by simp at hk
 |k::r,h,j,hj=>by
  rcases Af.1 hj with rfl|hj
  ·exact⟨h.1,h.2.1⟩
  ·exact Nt h.2.2 j hj
theorem Ip:∀{ks:List Nat},V8 ks->ks.Nodup
 |[],_=>Dc
 |k::r,h=>BN.2 ⟨h.1,Ip h.2⟩
theorem NR{H:A5}{ks:List Nat}:∀{l:List Grp},(Fe b H ks l).length=l.length
 |[]=>rfl
 |G::l=>by simp[Fe,NR]
theorem Qi{H:A5}{ks:List Nat}:∀{l:List Grp}{g:Nat},g<l.length->(Fe b H ks l).getD g default=rnG b H ks (l.getD g default).ver (l.getD g default)
 |[],g,h=>by simp at h
 |G::l,0,_=>rfl
 |G::l,g+1,h=>by simpa [Fe] using Qi (l:=l) (g:=g) (by simpa using h)
theorem NS{H:A5}{ks:List Nat}{l:List Grp}:∀{r:List Nat},(F4 b H ks l r).length=r.length
 |[]=>rfl
 |k::r=>by simp[F4,NS]
theorem Qj{H:A5}{ks:List Nat}{l:List Grp}:∀{r:List Nat}{j:Nat},j<r.length->(F4 b H ks l r).getD j default=rnG b H ks 1 (l.getD (r.getD j 0) default)
 |[],j,h=>by simp at h
 |k::r,0,_=>rfl
 |k::r,j+1,h=>by simpa [F4] using Qj (r:=r) (j:=j) (by simpa using h)
theorem NT{l1:List Grp}{ks:List Nat}(hb:b<=l1.length):((hl (Fe b (hl l1) ks (l1.take b)++F4 b (hl l1) ks l1 ks)).n=((hl l1).repack b ks 6).n) /\
 ∀g,g<((hl l1).repack b ks 6).n->(hl (Fe b (hl l1) ks (l1.take b)++F4 b (hl l1) ks l1 ks)).at_ g=((hl l1).repack b ks 6).at_ g:=by
 have hO:(Fe b (hl l1) ks (l1.take b)).length=b:=by rw[NR,BA];omega
 refine⟨?_,λg hg=>?_⟩
 ·show (Fe b (hl l1) ks (l1.take b)++F4 b (hl l1) ks l1 ks).length=b+ks.length
  rw[Aj,hO,NS]
 ·have hg':g<b+ks.length:=hg
  rw[Dr];show _=(⟨_,if g<b then (l1.getD g default).ver else 1,_,_⟩:Grp);by_cases hgb:g<b
  ·rw[Ae hgb,Gn hgb]
   have e:(Fe b (hl l1) ks (l1.take b)++F4 b (hl l1) ks l1 ks).getD g default=(Fe b (hl l1) ks (l1.take b)).getD g default:=by
    simp[List.getD,A9 (show g<(Fe b (hl l1) ks (l1.take b)).length by omega)]
   have e2:(l1.take b).getD g default=l1.getD g default:=by
    simp[List.getD,hgb]
   rw[e,Qi (by simp;omega),e2];rfl
  ·rw[Ab hgb]
   have e:(Fe b (hl l1) ks (l1.take b)++F4 b (hl l1) ks l1 ks).getD g default=(F4 b (hl l1) ks l1 ks).getD (g-b) default:=by
    have:=AD (l₁:=Fe b (hl l1) ks (l1.take b)) (l₂:=F4 b (hl l1) ks l1 ks) (i:=g) (by omega);rw[hO] at this;simp[List.getD,this]
   rw[e,Qj (by omega)];have e3:inv b ks g=ks.getD (g-b) 0:=by rw[inv,Ab hgb]
   rw[e3];rfl
theorem NU{S:MS}{l2:List Grp}{H1:A5}{ks:List Nat}{a:Act}(hS:SRel S (hl l2))(hF:FRel S n (λi=>rnV b H1 ks 6 (env i)) a):∀{live:List (Nat × AV)},Mt l2 H1 b ks env live->∀i,i<n->VRel S (EB live i) (a.tmps.getD i undef)
 |[],_,i,_=>trivial
 |(t,y)::r,h,i,hi=>by
  show VRel S (if i=t then y else EB r i) _;split
  ·rename_i hit
   subst hit;exact TB (.inl hS) _ h.1 (hF.val i hi)
  ·exact NU hS hF h.2 i hi
theorem Qk{c:AC}{srcs:List Src}{live:List (Nat × AV)}{heap:List Grp}(hh:Head b env H srcs live heap)(h:T P n b c (EB live) (hl heap) Q):T P n b c env H Q:=by
 obtain⟨hb,hh⟩:=hh;have hgn:H.groups.length=H.n:=by simp[A5.groups]
 refine z3d (H':=hl H.groups) hgn (λg hg=>?_) ?_
 ·show H.groups.getD g default=_
  simp[A5.groups,List.getD,hg]
 refine V9 (Gb H.n srcs).2 (J0 hh.1) ?_;replace hh:=hh.2;generalize hl1:H.groups++(Gb H.n srcs).2.map IG=l1;simp only[hl1] at hh;obtain⟨h1,h2,h3,h4⟩:=hh;have hb1:b<=l1.length:=by rw[<-hl1,Aj];omega
 refine za3 (Gb H.n srcs).1 6 hb1 (λk hk=>Nt h1 k hk) (Ip h2) ?_;obtain⟨e1,e2⟩:=NT (ks:=(Gb H.n srcs).1) hb1;refine z3d e1 e2 ?_;intro rd mm hrd code hc S a hbS hS hF;have hlen:=LG h4;exact h rd mm hrd code hc S a hbS (HL hS h4) ⟨hF.size,hF.defers,NU hS hF h3⟩
theorem Bs{σ:Type}(Fact:σ->Prop)(μ:σ->Nat)(live:σ->List (Nat × AV))(heap:σ->List Grp)(srcs:Env->A5->List Src){c:AC}(s0:σ)(h0:Fact s0)(he:Head b env H (srcs env H) (live s0) (heap s0))
 (round:∀s,Fact s->T P n b c (EB (live s)) (hl (heap s)) (Ex.then (λenv' H'=>∃s',Head b env' H' (srcs env' H') (live s') (heap s')/\Fact s'/\μ s'<μ s) Q)):T P n b (.loop c) env H Q:=by
 refine zec (λs env H=>Fact s/\Head b env H (srcs env H) (live s) (heap s)) μ s0 ⟨h0,he⟩ λs env H hI=>?_;refine Qk hI.2 (T.mono (round s hI.1) λx env' H' hh=>?_);cases x with
 |normal=>obtain⟨s',k1,k2,k3⟩:=hh;exact⟨s',⟨k2,k1⟩,k3⟩
 |exit id=>exact hh
 |ret=>exact hh
end
def hset(l:List Grp)(g:Nat)(G:Grp):A5:=(hl l).set g G
def setQ:List Grp->Nat->Grp->Option (List Grp)
 |[],_,_=>none
 |_::l,0,G=>some (G::l)
 |K::l,g+1,G=>(setQ l g G).map (K::·)
theorem TC:∀{l:List Grp}{g:Nat}{G:Grp}{l':List Grp},setQ l g G=some l'->g<l.length/\l'=l.set g G
 |[],_,_,_,h=>by cases h
 |_::l,0,G,_,h=>by cases h;exact⟨by simp,rfl⟩
 |K::l,g+1,G,l',h=>by
  obtain⟨r,hr,rfl⟩:=Ag.1 h;obtain⟨h1,rfl⟩:=TC hr;exact⟨by simpa using h1,rfl⟩
theorem zgu(l:List Grp)(g:Nat)(G:Grp):(hl l).set g G=(match setQ l g G with|some l'=>hl l'|none=>hset l g G):=by
 cases h:setQ l g G with
 |none=>rfl
 |some l'=>obtain⟨h1,rfl⟩:=TC h;exact Hr l g G h1
theorem z3e(K:Grp)(l:List Grp)(G:Grp):setQ (K::l) 0 G=some (G::l):=rfl
theorem z3f(K:Grp)(l:List Grp)(g:Nat)(G:Grp):setQ (K::l) (g+1) G=(setQ l g G).map (K::·):=rfl
theorem zgv(g:Nat):pos [] g=none:=rfl
theorem za4(k:Nat)(ks:List Nat)(g:Nat):pos (k::ks) g=if g=k then some 0 else (pos ks g).map (·+1):=rfl
section
variable {b d:Nat}{H:A5}{ks:List Nat}
def rnL(b:Nat)(H:A5)(ks:List Nat)(d:Nat)(xs:List AV):List AV:=xs.map (rnV b H ks d)
theorem zlb(xs:List AV):xs.map (rnV b H ks (d+1))=bif Bh xs then xs else rnL b H ks (d+1) xs:=by
 cases h:Bh xs
 ·rfl
 ·have key:∀(d:Nat){x:AV},x.pure=true->rnV b H ks d x=x:=by
   intro d
   induction d with
   |zero=>intro x hx;simp[rnV,hx]
   |succ d ih =>
    intro x hx
    have kl:∀cs:List AV,Bh cs=true->cs.map (rnV b H ks d)=cs:=λcs hc=>by
     have:cs.map (rnV b H ks d)=cs.map id:=AT λy hy=>ih (BZ.1 hc y hy);simpa using this
    cases x with
    |ref=>simp[AV.pure] at hx
    |ptr=>simp[AV.pure] at hx
    |map=>simp[AV.pure] at hx
    |agg cs=>rw[rnV,kl cs (by simpa [AV.pure] using hx)]
    |tup cs=>rw[rnV,kl cs (by simpa [AV.pure] using hx)]
    |fn f cs=>rw[rnV,kl cs (by simpa [AV.pure] using hx)]
    |_=>rfl
  have:xs.map (rnV b H ks (d+1))=xs.map id:=AT λy hy=>key _ (BZ.1 h y hy);simpa using this
theorem zgw:rnL b H ks d []=[]:=rfl
theorem za5(x:AV)(xs:List AV):rnL b H ks d (x::xs)=rnV b H ks d x::rnL b H ks d xs:=rfl
theorem zlc(g v off len:Nat):rnV b H ks (d+1) (.ref g v off len)=if g<b then .ref g v off len else if v=(H.at_ g).ver then
 (match pos ks g with
  |some j=>.ref (b+j) 1 off len
  |none=>if 0<(H.at_ g).w/\off+len<=(H.at_ g).xs.length then frzL (H.at_ g).w ((((H.at_ g).xs.drop off).take len).map (rnV b H ks d)) else .any)
 else .any:=rfl
theorem zld(g v i o:Nat):rnV b H ks (d+1) (.ptr g v i o)=if g<b then .ptr g v i o else if v=(H.at_ g).ver then
 (match pos ks g with
  |some j=>.ptr (b+j) 1 i o
  |none=>if o=0/\i<(H.at_ g).xs.length/\0<(H.at_ g).w then frzP (rnV b H ks d ((H.at_ g).xs.getD i .any)) else .any)
 else .any:=rfl
theorem zle(cs:List AV):rnV b H ks (d+1) (.agg cs)=.agg (cs.map (rnV b H ks d)):=rfl
theorem zlf(cs:List AV):rnV b H ks (d+1) (.tup cs)=.tup (cs.map (rnV b H ks d)):=rfl
theorem rn_fn(f:Nat)(cs:List AV):rnV b H ks (d+1) (.fn f cs)=.fn f (cs.map (rnV b H ks d)):=rfl
theorem zlg:rnV b H ks (d+1) .any=.any:=rfl
theorem zgx(w:Nat)(xs:List AV):rnV b H ks (d+1) (.full w xs)=.full w xs:=rfl
theorem rn_mp(g v:Nat):rnV b H ks (d+1) (.map g v)=if g<b then .map g v else if v=(H.at_ g).ver then (match pos ks g with|some j=>.map (b+j) 1|none=>.any) else .any:=rfl
theorem zgy(q:Bool):rnV b H ks (d+1) (.bool q)=.bool q:=rfl
theorem zlh(k:IntKind)(n:Int):rnV b H ks (d+1) (.int k n)=.int k n:=rfl
theorem zli(s:List UInt8):rnV b H ks (d+1) (.str s)=.str s:=rfl
theorem zgz:rnV b H ks (d+1) .nilS=.nilS:=rfl
theorem zlj:rnV b H ks (d+1) .nul=.nul:=rfl
theorem zh0:rnV b H ks (d+1) .nilP=.nilP:=rfl
theorem zh1:rnV b H ks (d+1) .nilF=.nilF:=rfl
theorem zlk(l:Nat):rnV b H ks (d+1) (.yld l)=.yld l:=rfl
theorem zll(w:Nat)(xs:List AV):rnV b H ks (d+1) (.lst w xs)=.lst w xs:=rfl
theorem zh2(x:AV):rnV b H ks (d+1) (.cptr x)=.cptr x:=rfl
end
section
variable {l l0 l':List Grp}{G G':Grp}
theorem zlm:HJ l0 [] []=True:=rfl
theorem zh3:HJ l0 (G::l) (G'::l')=(z3c l0 G G'/\HJ l0 l l'):=rfl
theorem g_le:z3c l0 G G'=(G.w=G'.w/\G.ver=G'.ver/\(G'.exact=true->G.exact=true)/\leSL l0 G.xs G'.xs):=rfl
theorem z3g{x:AV}:leS l x x=True:=Dq (EL l x)
theorem za6{xs:List AV}:leSL l xs xs=True:=Dq (By l xs)
theorem zh4{ys:List AV}:leSL l [] ys=(ys=[]):=by simp only[leSL]
theorem za7{x y:AV}{xs ys:List AV}:leSL l (x::xs) (y::ys)=(leS l x y/\leSL l xs ys):=by simp only[leSL]
theorem Ql{k:IntKind}{a:Int}{k':IntKind}{b:Int}:leS l (.int k a) (.int k' b)=(k=k'/\a=b):=by simp only[leS]
theorem Mu{a:Bool}{b:Bool}:leS l (.bool a) (.bool b)=(a=b):=by simp only[leS]
theorem NV  {w:Nat} {ys:List AV}:leS l .nilS (.lst w ys)=(0<w/\ys=[]):=by simp only[leS]
theorem VA  {g v o n:Nat}:leS l .nilS (.ref g v o n)=(o=0/\n=0/\(l.getD g default).ver=v/\0<(l.getD g default).w/\(l.getD g default).xs=[]/\(l.getD g default).exact=true/\g<l.length):=by simp only[leS]
theorem Qm  {w:Nat} {ys:List AV}:leS l .nul (.lst w ys)=(0<w/\ys=[]):=by simp only[leS]
theorem Qn  {w:Nat} {ys:List AV}:leS l .emp (.lst w ys)=(0<w/\ys=[]):=by simp only[leS]
theorem TD{w:Nat}{xs:List AV}{w':Nat}{ys:List AV}:leS l (.full w xs) (.full w' ys)=(w=w'/\xs=ys):=by simp only[leS]
theorem NW{w:Nat}{xs:List AV}{w':Nat}{ys:List AV}:leS l (.full w xs) (.lst w' ys)=(w=w'/\leSL l xs ys/\Bh ys=true):=by simp only[leS]
theorem Z8{g v g' v':Nat}:leS l (.map g v) (.map g' v')=(g=g'/\v=v'):=by simp only[leS,AV.map.injEq]
theorem Qo{w:Nat}{xs:List AV}{w':Nat}{ys:List AV}:leS l (.lst w xs) (.lst w' ys)=(w=w'/\xs=ys):=by simp only[leS]
theorem Z9{g v o n:Nat}{g' v' o' n':Nat}:leS l (.ref g v o n) (.ref g' v' o' n')=(g=g'/\v=v'/\o=o'/\n=n'):=by simp only[leS]
theorem ZA{g v o n:Nat}{g' v' o' n':Nat}:leS l (.ptr g v o n) (.ptr g' v' o' n')=(g=g'/\v=v'/\o=o'/\n=n'):=by simp only[leS]
theorem Qp{xs:List AV}{ys:List AV}:leS l (.agg xs) (.agg ys)=leSL l xs ys:=by simp only[leS]
theorem Qq{xs:List AV}{ys:List AV}:leS l (.tup xs) (.tup ys)=leSL l xs ys:=by simp only[leS]
theorem zln{x:AV}:leS l x .any=True:=Dq (by cases x<;>simp only[leS])
def ansW(x y:AV):Prop:=leS [] x y
theorem zh5{x:AV}:ansW x x=True:=z3g
theorem zlo{k k':IntKind}{a b:Int}:ansW (.int k a) (.int k' b)=(k=k'/\a=b):=Ql
theorem zh6{a b:Bool}:ansW (.bool a) (.bool b)=(a=b):=Mu
theorem zh7{w w':Nat}{xs ys:List AV}:ansW (.full w xs) (.lst w' ys)=(w=w'/\leSL [] xs ys/\Bh ys=true):=NW
theorem zlp{w w':Nat}{xs ys:List AV}:ansW (.lst w xs) (.lst w' ys)=(w=w'/\xs=ys):=Qo
theorem zh8{w:Nat}{ys:List AV}:ansW .nilS (.lst w ys)=(0<w/\ys=[]):=NV
theorem zlq{w:Nat}{ys:List AV}:ansW .nul (.lst w ys)=(0<w/\ys=[]):=Qm
theorem zlr{w:Nat}{ys:List AV}:ansW .emp (.lst w ys)=(0<w/\ys=[]):=Qn
theorem zls{xs ys:List AV}:ansW (.agg xs) (.agg ys)=leSL [] xs ys:=Qp
theorem D3{xs ys:List AV}:ansW (.tup xs) (.tup ys)=leSL [] xs ys:=Qq
end
attribute [push_cast] TD NW Z8 zh7 zgx rn_mp
attribute [push_cast] z3g za6 zh4 za7 Ql Mu NV VA Qm Qn Qo Z9 ZA Qp Qq zln zh5 zlo zh6 zlp zh8 zlq zlr zls
section
variable {H H1:A5}{l0:List Grp}{b t:Nat}{ks:List Nat}{env:Env}{y:AV}{r:List (Nat × AV)}
theorem za8:Mt l0 H1 b ks env []=True:=rfl
theorem z3h:Mt l0 H1 b ks env ((t,y)::r)=(leS l0 (rnV b H1 ks 6 (env t)) y/\Mt l0 H1 b ks env r):=rfl
theorem za9{n:Nat}:allB b n []=True:=rfl
theorem z3i{n k:Nat}:allB b n (k::ks)=(b<=k/\k<n/\allB b n ks):=rfl
theorem z3j:V8 []=True:=rfl
theorem ZB{k:Nat}:V8 (k::ks)=(k∉ks/\V8 ks):=rfl
theorem z3k{w g v o n:Nat}:C7 w (.ref g v o n)=.grp g:=rfl
theorem z3l{w g v i o:Nat}:C7 w (.ptr g v i o)=.grp g:=rfl
theorem z3m{w g v:Nat}:C7 w (.map g v)=.grp g:=rfl
theorem ZC:NQ []=True:=rfl
theorem VB{w:Nat}{r:List Nat}:NQ (w::r)=(0<w/\NQ r):=rfl
theorem ZD{w:Nat}:C7 w .nilS=.virt w:=rfl
theorem ZE{g v i o k:Nat}:cellAt H (.ptr g v i o) k=((H.at_ g).xs.getD i .any).cells.getD k .any:=rfl
theorem zlt{N:Nat}:Gb N []=([],[]):=rfl
theorem zlu{N g:Nat}{l:List Src}:Gb N (.grp g::l)=(g::(Gb N l).1,(Gb N l).2):=rfl
theorem zh9{N w:Nat}{l:List Src}:Gb N (.virt w::l)=(N::(Gb (N+1) l).1,w::(Gb (N+1) l).2):=rfl
theorem zlv{j:Nat}:EB [] j=.any:=rfl
theorem zha{j:Nat}:EB ((t,y)::r) j=if j=t then y else EB r j:=rfl
variable {l l1 l2:List Grp}{G:Grp}{live:List (Nat × AV)}{heap:List Grp}
theorem head1{p q:List Nat}:zgr b env l (p,q) live heap=(NQ q/\zgq b env (l++q.map IG) p live heap):=rfl
theorem head2:zgq b env l1 ks live heap=(allB b l1.length ks/\V8 ks/\zgp b env l1 (Fe b (hl l1) ks (l1.take b)++F4 b (hl l1) ks l1 ks) ks live heap):=rfl
theorem head3:zgp b env l1 l2 ks live heap=(Mt l2 (hl l1) b ks env live/\HJ l2 l2 heap):=rfl
theorem zlw:Fe b H ks []=[]:=rfl
theorem zhb:Fe b H ks (G::l)=rnG b H ks G.ver G::Fe b H ks l:=rfl
theorem zlx:F4 b H ks l []=[]:=rfl
theorem zhc{k:Nat}{r:List Nat}:F4 b H ks l (k::r)=rnG b H ks 1 (l.getD k default)::F4 b H ks l r:=rfl
theorem zly{v:Nat}:rnG b H ks v G=⟨G.w,v,G.exact,G.xs.map (rnV b H ks 6)⟩:=rfl
end
theorem RF(i:Nat)(ks:List Nat):Ee i ks []=[]:=rfl
theorem Hg(i:Nat)(ks:List Nat)(G:Grp)(l:List Grp):Ee i ks (G::l)=(if i∈ks then G.dead else G)::Ee (i+1) ks l:=rfl
theorem zhd(w:Nat):IG w=⟨w,1,true,[]⟩:=rfl
theorem zhe(w:Nat)(xs:List AV):frzL w xs=bif Bh xs then .lst w xs else .any:=rfl
theorem zhf(x:AV):frzP x=bif x.pure then .cptr x else .any:=rfl
theorem KE(xs ys:List AV):Bh (xs++ys)=(Bh xs&&Bh ys):=by
 induction xs with
 |nil=>rfl
 |cons x xs ih=>simp[Bh,ih,Bool.and_assoc]
theorem ZF(i:Nat):((i:Int)-1).toNat=i-1:=by omega
theorem ZG(i:Nat):((i:Int)+1).toNat=i+1:=by omega
theorem z3n(i k:Nat):((i:Int)+(k:Int)).toNat=i+k:=by omega
theorem drop_at{α:Type}[Inhabited α]{l:List α}{i:Nat}(h:i<l.length):l.drop i=nth l i::l.drop (i+1):=by
 rw[BV h];simp[nth,List.getD,h]
theorem take_at{α:Type}[Inhabited α]{l:List α}{i:Nat}(h:i<l.length):l.take (i+1)=l.take i++[nth l i]:=by
 rw[List.take_succ_eq_append_getElem h];simp[nth,List.getD,h]
theorem RG{α:Type}[Inhabited α](x:α)(l:List α):nth (x::l) 0=x:=rfl
theorem KF{α:Type}[Inhabited α](x:α)(l:List α)(i:Nat):nth (x::l) (i+1)=nth l i:=rfl
theorem AS{α:Type}[Inhabited α]{l:List α}{i:Nat}(h:i<l.length):nth l i∈l:=by
 have:nth l i=l[i]:=by simp[nth,List.getD,h]
 rw[this];exact BY h
theorem Gp{α:Type}[Inhabited α]{l:List α}{i:Nat}(h:i<l.length):nth l i=l[i]:=by simp[nth,List.getD,h]
theorem zhg(g k:Nat)(ks:List Nat):(g∈k::ks)=(g=k\/g∈ks):=by simp
theorem VC(g:Nat):(g∈([]:List Nat))=False:=by simp
theorem zhh(H:A5)(ks:List Nat)(g:Nat):(H.only ks).at_ g=if g∈ks then H.at_ g else (H.at_ g).dead:=rfl
def C3:List AV->List Nat
 |[]=>[]
 |.ref g _ _ _::l=>g::C3 l
 |.ptr g _ _ _::l=>g::C3 l
 |.agg cs::l=>C3 cs++C3 l
 |.fn _ cs::l=>C3 cs++C3 l
 |_::l=>C3 l
theorem E1{w:Nat}{xs l:List AV}:C3 (.lst w xs::l)=C3 l:=by rw[C3]<;>(intros;simp_all)
theorem z3o{x:AV}{l:List AV}:C3 (.cptr x::l)=C3 l:=by rw[C3]<;>(intros;simp_all)
theorem zaa{k:IntKind}{n:Int}{l:List AV}:C3 (.int k n::l)=C3 l:=by rw[C3]<;>(intros;simp_all)
theorem z3p{b:Bool}{l:List AV}:C3 (.bool b::l)=C3 l:=by rw[C3]<;>(intros;simp_all)
theorem z3q{l:List AV}:C3 (.nilS::l)=C3 l:=by rw[C3]<;>(intros;simp_all)
theorem zab{g v o n:Nat}{l:List AV}:C3 (.ref g v o n::l)=g::C3 l:=by rw[C3]
theorem zac{g v o n:Nat}{l:List AV}:C3 (.ptr g v o n::l)=g::C3 l:=by rw[C3]
theorem zad{cs l:List AV}:C3 (.agg cs::l)=C3 cs++C3 l:=by rw[C3]
theorem zhi{f:Nat}{cs l:List AV}:C3 (.fn f cs::l)=C3 cs++C3 l:=by rw[C3]
theorem zae:C3 []=[]:=by rw[C3]
attribute [push_cast] E1 z3o zaa z3p z3q zab zac zad zhi zae
def okA(d:Nat)(H:A5):List AV->Prop
 |[]=>True
 |x::l=>CJ d H x/\okA d H l
section
variable {P:Program}{f:Nat}{xs ys:List AV}{y:AV}{l:List Grp}{H:A5}
theorem NX{d:Nat}:∀{xs:List AV},okA d H xs->∀x∈xs,CJ d H x
 |[],_,x,hx=>by simp at hx
 |z::r,h,x,hx=>by
  rcases Af.1 hx with rfl|hx
  ·exact h.1
  ·exact NX h.2 x hx
theorem zhj{d:Nat}:okA d H []=True:=rfl
theorem zaf{d:Nat}{x:AV}:okA d H (x::xs)=(CJ d H x/\okA d H xs):=rfl
theorem Iq(h:PC P f ys y)(hl:leL xs ys):PC P f xs y:=Gm hl h
def chB(c:Bool)(p q:Prop):Prop:=match c with
 |true=>p
 |false=>q
theorem zag{p q:Prop}:chB true p q=p:=rfl
theorem z3r{p q:Prop}:chB false p q=q:=rfl
def frA(d:Nat)(H:A5)(xs:List AV):List AV:=xs.map (frzV d H)
theorem zhk{d:Nat}:frA d H []=[]:=rfl
theorem zah{d:Nat}{x:AV}:frA d H (x::xs)=frzV d H x::frA d H xs:=rfl
theorem cK{K:AV->A5->Prop}(h:PC P f ys y)(hh:chB (Bh xs) (leSL [] xs ys/\Bh ys=true/\@nx y (hl l) ⟨K⟩)
 (chB y.flat (okA 4 (hl l) xs/\leSL [] (frA 4 (hl l) xs) ys/\@nx y (hl l) ⟨K⟩)
  (okA 4 ((hl l).only (C3 xs)) xs/\leSL [] (frA 4 ((hl l).only (C3 xs)) xs) ys/\Bh ys=true/\@nx y (hl (Ee 0 (C3 xs) l)) ⟨K⟩))):@KD P f xs (hl l) ⟨K⟩:=by
 cases hp:Bh xs<;>rw[hp] at hh
 ·cases hy:y.flat<;>rw[hy] at hh
  ·obtain⟨h1,h2,h3,h4⟩:=hh
   exact Qh 4 (C3 xs) (NX h1) (Gm (Kj h2) (Io h h3 h4))
  ·obtain⟨h1,h2,h3⟩:=hh
   exact z1v (Iq h (Kj h2)) 4 (NX h1) rfl hy h3
 ·obtain⟨h1,h2,h3⟩:=hh
  exact Gm (Kj h1) (Io h h2 h3)
theorem eK{K:AV->A5->Prop}(h:PC P f xs y)(hh:Bh xs=true/\@nx y H ⟨K⟩):@KD P f xs H ⟨K⟩:=Io h hh.1 hh.2
theorem eQ{K:AV->Prop}(h:PC P f xs y)(hh:Bh xs=true/\@nq y ⟨K⟩):@z9d P f xs H ⟨K⟩:=⟨y,Io h hh.1 ⟨rfl,rfl⟩,hh.2⟩
theorem cQ{K:AV->Prop}(h:PC P f ys y)(hh:chB (Bh xs) (leSL [] xs ys/\Bh ys=true/\@nq y ⟨K⟩)
 (y.flat=true/\okA 4 (hl l) xs/\leSL [] (frA 4 (hl l) xs) ys/\@nq y ⟨K⟩)):@z9d P f xs (hl l) ⟨K⟩:=by
 cases hp:Bh xs<;>rw[hp] at hh
 ·obtain⟨hy,h1,h2,h3⟩:=hh
  exact⟨y,z1v (Iq h (Kj h2)) 4 (NX h1) rfl hy ⟨rfl,rfl⟩,h3⟩
 ·obtain⟨h1,h2,h3⟩:=hh
  exact⟨y,Gm (Kj h1) (Io h h2 ⟨rfl,rfl⟩),h3⟩
end
attribute [push_cast] zhj zaf zhk zah zag z3r AV.flat z1s
section
variable {d:Nat}{H:A5}
def okL(d:Nat)(H:A5)(xs:List AV):Prop:=∀y∈xs,CJ d H y
def frL(d:Nat)(H:A5)(xs:List AV):List AV:=xs.map (frzV d H)
def okM(d:Nat)(H:A5)(xs:List AV):Prop:=okL d H xs
def frM(d:Nat)(H:A5)(xs:List AV):List AV:=frL d H xs
def ifB(b:Bool)(p:Prop):Prop:=b=true\/p
theorem zai(p:Prop):ifB true p=True:=by simp[ifB]
theorem z3s(p:Prop):ifB false p=p:=by simp[ifB]
theorem zlz(xs:List AV):okL d H xs=ifB (Bh xs) (okM d H xs):=propext ⟨λh=>.inr h,λh=>h.elim (λh=>(FN H d h).1) id⟩
theorem zm0(xs:List AV):frL d H xs=bif Bh xs then xs else frM d H xs:=by
 cases h:Bh xs
 ·rfl
 ·exact (FN H d h).2
theorem zhl:okM d H []=True:=by simp[okM,okL]
theorem zaj(x:AV)(xs:List AV):okM d H (x::xs)=(CJ d H x/\okM d H xs):=by simp[okM,okL]
theorem zhm:frM d H []=[]:=rfl
theorem zak(x:AV)(xs:List AV):frM d H (x::xs)=frzV d H x::frM d H xs:=rfl
theorem zm1(g v off len:Nat):CJ (d+1) H (.ref g v off len)=((H.at_ g).ver=v/\0<(H.at_ g).w/\off+len<=(H.at_ g).xs.length/\okL d H (((H.at_ g).xs.drop off).take len)):=rfl
theorem zm2(g v i o:Nat):CJ (d+1) H (.ptr g v i o)=((H.at_ g).ver=v/\i<(H.at_ g).xs.length/\0<(H.at_ g).w/\o=0/\CJ d H ((H.at_ g).xs.getD i .any)):=rfl
theorem zm3(cs:List AV):CJ (d+1) H (.agg cs)=okL d H cs:=rfl
theorem zm4(cs:List AV):CJ (d+1) H (.tup cs)=okL d H cs:=rfl
theorem ok_fn(f:Nat)(cs:List AV):CJ (d+1) H (.fn f cs)=okL d H cs:=rfl
theorem zm5:CJ (d+1) H .any=True:=Dq rfl
theorem zhn(b:Bool):CJ (d+1) H (.bool b)=True:=Dq rfl
theorem ok_int(k:IntKind)(n:Int):CJ (d+1) H (.int k n)=True:=Dq rfl
theorem zm6(s:List UInt8):CJ (d+1) H (.str s)=True:=Dq rfl
theorem zho:CJ (d+1) H .nilS=True:=Dq rfl
theorem zm7:CJ (d+1) H .nul=True:=Dq rfl
theorem zm8:CJ (d+1) H .emp=True:=Dq rfl
theorem zhp:CJ (d+1) H .nilP=True:=Dq rfl
theorem zhq:CJ (d+1) H .nilF=True:=Dq rfl
theorem zm9(l:Nat):CJ (d+1) H (.yld l)=True:=Dq rfl
theorem zhr(w:Nat)(xs:List AV):CJ (d+1) H (.full w xs)=(Bh xs=true):=rfl
theorem zhs(w:Nat)(xs:List AV):frzV (d+1) H (.full w xs)=.full w xs:=rfl
theorem zma(w:Nat)(xs:List AV):CJ (d+1) H (.lst w xs)=(Bh xs=true):=rfl
theorem zht(x:AV):CJ (d+1) H (.cptr x)=(x.pure=true):=rfl
theorem zmb(g v off len:Nat):frzV (d+1) H (.ref g v off len)=.lst (H.at_ g).w (frL d H (((H.at_ g).xs.drop off).take len)):=rfl
theorem zmc(g v i o:Nat):frzV (d+1) H (.ptr g v i o)=if o=0 then .cptr (frzV d H ((H.at_ g).xs.getD i .any)) else .any:=rfl
theorem zmd(cs:List AV):frzV (d+1) H (.agg cs)=.agg (frL d H cs):=rfl
theorem zme(cs:List AV):frzV (d+1) H (.tup cs)=.tup (frL d H cs):=rfl
theorem fr_fn(f:Nat)(cs:List AV):frzV (d+1) H (.fn f cs)=.fn f (frL d H cs):=rfl
theorem zmf:frzV (d+1) H .any=.any:=rfl
theorem zhu(b:Bool):frzV (d+1) H (.bool b)=.bool b:=rfl
theorem zmg(k:IntKind)(n:Int):frzV (d+1) H (.int k n)=.int k n:=rfl
theorem zmh(s:List UInt8):frzV (d+1) H (.str s)=.str s:=rfl
theorem zhv:frzV (d+1) H .nilS=.nilS:=rfl
theorem zmi:frzV (d+1) H .nul=.nul:=rfl
theorem zmj:frzV (d+1) H .emp=.emp:=rfl
theorem zhw:frzV (d+1) H .nilP=.nilP:=rfl
theorem zhx:frzV (d+1) H .nilF=.nilF:=rfl
theorem zmk(l:Nat):frzV (d+1) H (.yld l)=.yld l:=rfl
theorem zml(w:Nat)(xs:List AV):frzV (d+1) H (.lst w xs)=.lst w xs:=rfl
theorem zhy(x:AV):frzV (d+1) H (.cptr x)=.cptr x:=rfl
end
attribute [push_cast] zai z3s zlz zm0 zhl zaj zhm zak zm1 zm2 zm3 zm4 ok_fn zm5 zhn ok_int zm6 zho zm7 zm8 zhp zhq zm9 zmk zma zhr zhs zht zmb zmc zmd zme fr_fn zmf zhu zmg zmh zhv zmi zmj zhw zhx zml zhy List.take_length
section
variable {P:Program}{l:List Grp}{xs cs:List AV}{K:AV->List Grp->Prop}{z:AV}{w len n:Nat}
theorem D4{k:AK}(h:k.still=true):@opG P k l xs ⟨K⟩=(BX (·<l.length) xs/\@opK P k (hl l) xs ⟨λx _=>K x l⟩):=by
 rw[X4];have hn:¬k.still=false:=by rw[h];simp
 cases k<;>first|(exact propext ⟨λhh=>hh.elim (λhh=>⟨hh.2.1,hh.2.2⟩) (λhh=>absurd hh.1 hn),λhh=>.inl ⟨h,hh.1,hh.2⟩⟩)|(simp[AK.still] at h)
theorem ZH{k:AK}(h:k.still=false)(he:k.eff.isSome=true):@opG P k l xs ⟨K⟩=(k.appOk=true/\Rs k xs/\@opK P k (hl l) xs ⟨λx H'=>∀l',H'=hl l'->K x l'⟩):=by
 rw[X4];have hn:¬k.still=true:=by rw[h];simp
 cases k<;>first|(exact propext ⟨λhh=>hh.elim (λhh=>absurd hh.1 hn) (λhh=>⟨hh.2.2.1,hh.2.2.2⟩),λhh=>.inr ⟨h,he,hh.1,hh.2⟩⟩)|(simp[AK.eff] at he)
theorem G_mv  : @opG P .mv l xs ⟨K⟩=(BX (·<l.length) xs/\@opK P .mv (hl l) xs ⟨λx _=>K x l⟩):=D4 rfl
theorem zmm  : @opG P .pick l xs ⟨K⟩=(BX (·<l.length) xs/\@opK P .pick (hl l) xs ⟨λx _=>K x l⟩):=D4 rfl
theorem zhz{zs:List AV}{pl:List (Nat × Nat)}{idx:List Nat}:@opG P (.build zs pl idx) l xs ⟨K⟩=(BX (·<l.length) xs/\@opK P (.build zs pl idx) (hl l) xs ⟨λx _=>K x l⟩):=D4 rfl
theorem zmn{a:Bool}{s:Nat}:@opG P (.load a s) l xs ⟨K⟩=(BX (·<l.length) xs/\@opK P (.load a s) (hl l) xs ⟨λx _=>K x l⟩):=D4 rfl
theorem ZI  : @opG P .nilCheck l xs ⟨K⟩=(BX (·<l.length) xs/\@opK P .nilCheck (hl l) xs ⟨λx _=>K x l⟩):=D4 rfl
theorem G_bin{op:BinOp}:@opG P (.bin op) l xs ⟨K⟩=(BX (·<l.length) xs/\@opK P (.bin op) (hl l) xs ⟨λx _=>K x l⟩):=D4 rfl
theorem G_eqb{n:Bool}:@opG P (.eqb n) l xs ⟨K⟩=(BX (·<l.length) xs/\@opK P (.eqb n) (hl l) xs ⟨λx _=>K x l⟩):=D4 rfl
theorem G_eqs{n:Bool}{ks:List Nat}:@opG P (.eqs n ks) l xs ⟨K⟩=(BX (·<l.length) xs/\@opK P (.eqs n ks) (hl l) xs ⟨λx _=>K x l⟩):=D4 rfl
theorem G_eqn{n:Bool}:@opG P (.eqn n) l xs ⟨K⟩=(BX (·<l.length) xs/\@opK P (.eqn n) (hl l) xs ⟨λx _=>K x l⟩):=D4 rfl
theorem G_un{op:UnOp}:@opG P (.un op) l xs ⟨K⟩=(BX (·<l.length) xs/\@opK P (.un op) (hl l) xs ⟨λx _=>K x l⟩):=D4 rfl
theorem zmo{k:IntKind}:@opG P (.conv k) l xs ⟨K⟩=(BX (·<l.length) xs/\@opK P (.conv k) (hl l) xs ⟨λx _=>K x l⟩):=D4 rfl
theorem zi0{w:Nat}{lo hi mx:Bool}:@opG P (.slice w lo hi mx) l xs ⟨K⟩=(BX (·<l.length) xs/\@opK P (.slice w lo hi mx) (hl l) xs ⟨λx _=>K x l⟩):=D4 rfl
theorem zi1{a:Bool}{o s:Nat}:@opG P (.faddr a o s) l xs ⟨K⟩=(BX (·<l.length) xs/\@opK P (.faddr a o s) (hl l) xs ⟨λx _=>K x l⟩):=D4 rfl
theorem zi2{a:Bool}{o s:Nat}:@opG P (.field a o s) l xs ⟨K⟩=(BX (·<l.length) xs/\@opK P (.field a o s) (hl l) xs ⟨λx _=>K x l⟩):=D4 rfl
theorem zi3{w:Nat}:@opG P (.iaddr w) l xs ⟨K⟩=(BX (·<l.length) xs/\@opK P (.iaddr w) (hl l) xs ⟨λx _=>K x l⟩):=D4 rfl
theorem zal{n w:Nat}{a:Bool}:@opG P (.iaddrA n w a) l xs ⟨K⟩=(BX (·<l.length) xs/\@opK P (.iaddrA n w a) (hl l) xs ⟨λx _=>K x l⟩):=D4 rfl
theorem zi4{n w:Nat}{a:Bool}:@opG P (.index n w a) l xs ⟨K⟩=(BX (·<l.length) xs/\@opK P (.index n w a) (hl l) xs ⟨λx _=>K x l⟩):=D4 rfl
theorem ZJ  : @opG P .indexStr l xs ⟨K⟩=(BX (·<l.length) xs/\@opK P .indexStr (hl l) xs ⟨λx _=>K x l⟩):=D4 rfl
theorem z3t{i:Nat}:@opG P (.extract i) l xs ⟨K⟩=(BX (·<l.length) xs/\@opK P (.extract i) (hl l) xs ⟨λx _=>K x l⟩):=D4 rfl
theorem G_len{b:Bool}:@opG P (.len b) l xs ⟨K⟩=(BX (·<l.length) xs/\@opK P (.len b) (hl l) xs ⟨λx _=>K x l⟩):=D4 rfl
theorem G_max  : @opG P .max l xs ⟨K⟩=(BX (·<l.length) xs/\@opK P .max (hl l) xs ⟨λx _=>K x l⟩):=D4 rfl
theorem G_min  : @opG P .min l xs ⟨K⟩=(BX (·<l.length) xs/\@opK P .min (hl l) xs ⟨λx _=>K x l⟩):=D4 rfl
theorem zam:@opG P (.mapGet z) l xs ⟨K⟩=(BX (·<l.length) xs/\@opK P (.mapGet z) (hl l) xs ⟨λx _=>K x l⟩):=D4 rfl
theorem zan{f:Nat}:@opG P (.mkFunc f) l xs ⟨K⟩=(BX (·<l.length) xs/\@opK P (.mkFunc f) (hl l) xs ⟨λx _=>K x l⟩):=D4 rfl
theorem zi5  : @opG P .toStr l xs ⟨K⟩=(BX (·<l.length) xs/\@opK P .toStr (hl l) xs ⟨λx _=>K x l⟩):=D4 rfl
theorem zao  : @opG P .runStr l xs ⟨K⟩=(BX (·<l.length) xs/\@opK P .runStr (hl l) xs ⟨λx _=>K x l⟩):=D4 rfl
theorem zi6  : @opG P (.alloc z w) l xs ⟨K⟩=@opK P (.alloc z w) (hl l) xs ⟨λx H'=>∀l',H'=hl l'->K x l'⟩:=(ZH rfl rfl).trans (by simp only[AK.appOk,Rs,Ey])
theorem G_box  : @opG P .box l xs ⟨K⟩=@opK P .box (hl l) xs ⟨λx H'=>∀l',H'=hl l'->K x l'⟩:=(ZH rfl rfl).trans (by simp only[AK.appOk,Rs,Ey])
theorem zi7  : @opG P (.store w) l xs ⟨K⟩=@opK P (.store w) (hl l) xs ⟨λx H'=>∀l',H'=hl l'->K x l'⟩:=(ZH rfl rfl).trans (by simp only[AK.appOk,Rs,Ey])
theorem z3u  : @opG P (.mkSlice w n z) l xs ⟨K⟩=@opK P (.mkSlice w n z) (hl l) xs ⟨λx H'=>∀l',H'=hl l'->K x l'⟩:=(ZH rfl rfl).trans (by simp only[AK.appOk,Rs,Ey])
theorem G_app:@opG P (.app w n z) l xs ⟨K⟩=(0<w/\offA xs/\@opK P (.app w n z) (hl l) xs ⟨λx H'=>∀l',H'=hl l'->K x l'⟩):=(ZH rfl rfl).trans (by simp only[AK.appOk,Rs,Ah])
theorem zap{g v o n:Nat}:offA (.ref g v o n::xs)=(o=0):=rfl
theorem z3v:offA (.nilS::xs)=True:=rfl
theorem zaq:offA (.nul::xs)=True:=rfl
theorem zar:offA (.emp::xs)=True:=rfl
theorem z3w{w:Nat}{ys:List AV}:offA (.full w ys::xs)=True:=rfl
theorem zas{w:Nat}{ys:List AV}:offA (.lst w ys::xs)=True:=rfl
theorem zmp{f:Nat}:@opG P .call l (.fn f cs::xs) ⟨K⟩=@z9e P f (xs++cs) l ⟨K⟩:=(rfl)
theorem G_bsl{idx:List Nat}:@opG P (.bslice w len z idx) l xs ⟨K⟩=(HH w len idx xs/\0<w/\Bh (F2 idx xs (List.replicate len z))=true/\@nx (.full w (F2 idx xs (List.replicate len z))) (hl l) ⟨λx _=>K x l⟩):=(rfl)
theorem hl_eq{l l':List Grp}:(hl l=hl l')=(l=l'):=propext ⟨zee,λh=>h ▸ rfl⟩
theorem eG{f:Nat}{y:AV}(h:PC P f xs y)(hh:Bh xs=true/\@nx y (hl l) ⟨λy _=>K y l⟩):@z9e P f xs l ⟨K⟩:=⟨y,λH=>Io h hh.1 ⟨rfl,rfl⟩,hh.2⟩
theorem cG{f:Nat}{ys:List AV}{y:AV}(h:PC P f ys y)(hh:leSL [] xs ys/\Bh ys=true/\@nx y (hl l) ⟨λy _=>K y l⟩):@z9e P f xs l ⟨K⟩:=⟨y,λH=>Gm (Kj hh.1) (Io h hh.2.1 ⟨rfl,rfl⟩),hh.2.2⟩
end
theorem Cf{P:Program}{f m np:Nat}{xs:List AV}{y:AV}{res:List ARes}{B:AC}(hf:Bj P f xs.length=some ⟨m,np,res,B⟩)(h:W P m 0 B (entry xs) (hl []) (Ret P res λz H=>CJ 4 H z/\ansW (frzV 4 H z) y)):PC P f xs y:=by
 refine zfz hf 4 ?_;rw[T9];exact T.mono (W_T h) λx env H hh=>RA (λz H hh=>⟨hh.1,z3b hh.2⟩) hh
theorem zmq{P:Program}{f w:Nat}{y:AV}(h1:PC P f [.nilS] y)(h2:PC P f [.emp] y):PC P f [.lst w []] y:=by
 refine⟨h1.1,λS cargs hS hx=>?_⟩;obtain⟨v,r,rfl,⟨_,_,a,cap,vs,rfl,⟨_,hn⟩,_,_⟩,hr⟩:=hx;cases a with
 |none=>exact h1.2 S _ hS ⟨_,r,rfl,by rw[hn rfl];rfl,hr⟩
 |some a=>exact h2.2 S _ hS ⟨_,r,rfl,⟨a,cap,rfl⟩,hr⟩
section
variable {P:Program}{H:A5}{K:AV->A5->Prop}{n:Bool}{b d:Nat}{ks:List Nat}
theorem z3x:@opK P (.eqn n) H [.emp,.nilS] ⟨K⟩=@nx (.bool n) H ⟨K⟩:=(rfl)
theorem z3y:@opK P (.len false) H [.emp] ⟨K⟩=@nx (.int .i64 0) H ⟨K⟩:=(rfl)
theorem zmr:rnV b H ks (d+1) .emp=.emp:=rfl
end
theorem Br{P:Program}{n b:Nat}{c:AC}{env:Env}{H:A5}{Q:Ex->Env->A5->Prop}(h:T P n b (.loop c) env H Q):@Kg ⟨T P n b (.loop c) env H Q⟩:=h
attribute [push_cast] z3x z3y zmr T9 hl_n Dr F3 zgu z3e z3f TA zgv za4 zlb zgw za5 zlc zld zle zlf rn_fn zlg zgy zlh zli zgz zlj zh0 zh1 zlk zll zh2
attribute [push_cast] zlm zh3 g_le za8 z3h za9 z3i z3j ZB z3k z3l ZD z3m ZC VB ZE zlt zlu zh9 zlv zha zgs head1 head2 head3 zlw zhb zlx zhc zly RF Hg zhd zhe zhf KE zhh C3 List.cons_append List.nil_append
attribute [push_cast] zap z3v zaq zar z3w zas G_mv zmm zhz zmn ZI G_bin G_eqb G_eqs G_eqn G_un zmo zi0 zi1 zi2 zi3 zal zi4 ZJ z3t G_len G_max G_min zan zi5 zao zi6 G_box zi7 z3u G_app zmp G_bsl hl_eq BX forall_eq' forall_eq
attribute [push_cast] List.isEmpty_nil List.isEmpty_cons List.map_eq_nil_iff Option.isSome_some Option.isSome_none
attribute [push_cast] List.map_append List.length_append Option.map_some Option.map_none zhg VC Int.add_sub_cancel Int.sub_add_cancel ZF ZG z3n Nat.not_lt_zero Nat.zero_le
open IntWalk in
attribute [push_cast] i64_in i32_in u8_in u32_in u64_in z2z
theorem zz:type_of% (Aa @z1 <| Aa @z2 <| Aa @z3 <| Aa @z4 <| Aa @z5 <| Aa @z6 <| Aa @z7 <| Aa @z8 <| Aa @z9 <| Aa @z10 <| Aa @z11 <| Aa @z12 <| Aa @z13 <| Aa @z14 <| Aa @z15 <| Aa @z16 <| Aa @z17 <| Aa @z18 <| Aa @z19 <| Aa @z20 <| Aa @z21 <| Aa @z22 <| Aa @z23 <| Aa @z24 <| Aa @z25 <| Aa @z26 <| Aa @z27 <| Aa @z28 <| Aa @z29 <| Aa @z30 <| Aa @z31 <| Aa @z32 <| @z33):=Aa @z1 <| Aa @z2 <| Aa @z3 <| Aa @z4 <| Aa @z5 <| Aa @z6 <| Aa @z7 <| Aa @z8 <| Aa @z9 <| Aa @z10 <| Aa @z11 <| Aa @z12 <| Aa @z13 <| Aa @z14 <| Aa @z15 <| Aa @z16 <| Aa @z17 <| Aa @z18 <| Aa @z19 <| Aa @z20 <| Aa @z21 <| Aa @z22 <| Aa @z23 <| Aa @z24 <| Aa @z25 <| Aa @z26 <| Aa @z27 <| Aa @z28 <| Aa @z29 <| Aa @z30 <| Aa @z31 <| Aa @z32 <| @z33
namespace O1
theorem sp_{p q:Prop}(hp:p)(hq:q):p/\q:=⟨hp,hq⟩
theorem ee:type_of% @eK:=@eK
theorem cc:type_of% @cK:=@cK
end O1
namespace O2
theorem sp_:type_of% @NM:=@NM
theorem ee:type_of% @eQ:=@eQ
theorem cc:type_of% @cQ:=@cQ
end O2
namespace O3
theorem sp_:type_of% @Ms:=@Ms
theorem ee:type_of% @eG:=@eG
theorem cc:type_of% @cG:=@cG
end O3
open Go.RowKit
inductive Sh where
 |bool
 |int (k:IntKind)
 |str
 |sl (agg:Bool) (fs:List Sh)
mutual
def Is:Sh->AV->Prop
 |.bool,x=>∃b,x=.bool b
 |.int k,x=>∃n,x=.int k n/\(Lit.int k n).wf=true
 |.str,x=>∃s:List UInt8,x=.str s/\s.length<=maxLen
 |.sl agg fs,x=>x=.nilS\/∃xs,x=.lst fs.length xs/\xs.length<=maxLen/\∀y∈xs,∃cs,y=(if agg then .agg cs else cs.headD .any)/\IsL fs cs
def IsL:List Sh->List AV->Prop
 |[],cs=>cs=[]
 |s::fs,cs=>∃c r,cs=c::r/\Is s c/\IsL fs r
end
theorem RH:∀{fs:List Sh}{cs:List AV},IsL fs cs->cs.length=fs.length
 |[],_,h=>by rw[show _=[] from h];rfl
 |_::_,_,⟨_,_,h,_,k⟩=>by rw[h];simp[RH k]
mutual
def PG(P:Program):Sh->TypeId->Bool
 |.bool,t=>match P.underlying t with|some .bool=>true|_=>false
 |.int k,t=>match P.underlying t with|some (.int k')=>k' == k|_=>false
 |.str,t=>match P.underlying t with|some .string=>true|_=>false
 |.sl agg fs,t=>match P.underlying t with
  |some (.slice e)=>P.cellsOf e == fs.length&&!fs.isEmpty&&(match agg,P.underlying e with
   |true,some (.struct fl)=>Kk P fs 0 fl.toList
   |true,some (.array n u)=>fs.length == n&&P.cellsOf u == 1&&z3z P fs u
   |false,_=>fs.length == 1&&z3z P fs e
   |_,_=>false)
  |_=>false
def Kk(P:Program):List Sh->Nat->List Field->Bool
 |[],_,[]=>true
 |s::ss,i,f::fl=>f.offset == i&&P.cellsOf f.type == 1&&PG P s f.type&&Kk P ss (i+1) fl
 |_,_,_=>false
def z3z(P:Program):List Sh->TypeId->Bool
 |[],_=>true
 |s::ss,u=>PG P s u&&z3z P ss u
end
section
variable {H:Type}{enc:TypeId × Value->H}{P:Program}{w:World}{base:Nat}{spare:Nat->Bool}{held:Bool}
def Got(w:World)(s:Sh)(v:Value):Prop:=∃x,Is s x/\VRel (MS.start w) x v/\x.pure=true/\x.one=true
def GotL(w:World)(fs:List Sh)(vs:List Value):Prop:=∃xs,IsL fs xs/\AB (MS.start w) xs vs/\Bh xs=true/\Ez xs=true
theorem X8:GotL w [] []:=⟨[],rfl,rfl,rfl,rfl⟩
theorem TE{s:Sh}{fs:List Sh}{v:Value}{vs:List Value}(h:Got w s v)(k:GotL w fs vs):GotL w (s::fs) (v::vs):=by
 obtain⟨x,h1,h2,h3,h4⟩:=h;obtain⟨xs,k1,k2,k3,k4⟩:=k;exact⟨x::xs,⟨x,xs,rfl,h1,k1⟩,⟨v,vs,rfl,h2,k2⟩,by simp[Bh,h3,k3],by simp[Ez,h4,k4]⟩
theorem NY{a:Addr}{v:Value}(h:w.cell? a=some v):(MS.start w).im a.block:=Zy h
theorem zi8{agg:Bool}{fs:List Sh}{a:Addr}{len cap sz:Nat}(hsz:sz=fs.length)(hpos:0<fs.length)(hagg:agg=false->fs.length=1)(hlc:len<=cap)(hcap:cap<=maxLen)
 (h:∀i,i<len->∃cs',w.cells? base (a.add (i * sz)) sz=some cs'/\GotL w fs cs'):Got w (.sl agg fs) (.slice (some a) len cap):=by
 subst hsz
 have h':∀i:Nat,∃p:List AV × List Value,i<len->(w.cells? base (a.add (i * fs.length)) fs.length=some p.2/\IsL fs p.1/\AB (MS.start w) p.1 p.2/\Bh p.1=true/\Ez p.1=true):=by
  intro i;by_cases hi:i<len
  ·obtain⟨cs',h1,xs,h2,h3,h4,h5⟩:=h i hi
   exact⟨(xs,cs'),λ_=>⟨h1,h2,h3,h4,h5⟩⟩
  ·exact⟨([],[]),λh=>absurd h hi⟩
 obtain⟨p,hp⟩:=Classical.axiomOfChoice h'
 let E:List AV->AV:=λcs=>if agg then .agg cs else cs.headD .any
 let V:List Value->Value:=λcs=>if agg then .agg cs.toArray else cs.headD undef
 let xs:List AV:=(List.range len).map λi=>E (p i).1
 let vs:List Value:=(List.range len).map λi=>V (p i).2
 have hone:∀i,i<len->(V (p i).2).cells.toList=(p i).2/\VRel (MS.start w) (E (p i).1) (V (p i).2)/\(E (p i).1).pure=true:=by
  intro i hi;obtain⟨q1,q2,q3,q4,q5⟩:=hp i hi;have hl1:(p i).1.length=fs.length:=RH q2;cases agg with
  |true=>exact⟨by simp[V,Value.cells],⟨_,rfl,q3⟩,by simp[E,AV.pure,q4]⟩
  |false =>
   have h1:=hagg rfl;rw[h1] at hl1
   match hc:(p i).1,(p i).2,q3,q4,q5,hl1 with
   |[c],[v],⟨v',r,hv,hr,hr2⟩,q4,q5,_ =>
    cases hv;have hno:c.one=true:=by simpa [Ez] using q5
    have hcc:c.cells=[c]:=by cases c<;>first|rfl|(simp[AV.one] at hno)
    have hca:c.isAny=false:=by cases c<;>first|rfl|(simp[AV.one] at hno)
    have hcl:=VRel.cells hca hr;rw[hcc] at hcl;obtain⟨u,r2,hu,hu2,hu3⟩:=hcl;rw[show r2=[] from hu3] at hu
    have hv1:v.cells.toList=[v]:=by
     have:=one_cell hr hno;cases v<;>first|rfl|(simp[Value.oneCell'] at this)
    exact⟨by simpa [V] using hv1,by simpa [E,V] using hr,by simpa [E,Bh] using q4⟩
 have hxl:xs.length=len:=by simp[xs]
 have hvl:vs.length=len:=by simp[vs]
 have hxi:∀i,i<len->xs[i]? = some (E (p i).1):=λi hi=>by simp[xs,hi]
 have hvi:∀i,i<len->vs[i]? = some (V (p i).2):=λi hi=>by simp[vs,hi]
 have hvs:AB (MS.start w) xs vs:=AB.of_get (by rw[hxl,hvl]) λi x v hx hv=>by
  have hi:i<len:=by rw[<-hxl];exact (AI.1 hx).1
  rw[hxi i hi] at hx;rw[hvi i hi] at hv;cases hx;cases hv;exact (hone i hi).2.1
 have hpu:Bh xs=true:=BZ.2 λx hx=>by
  obtain⟨i,hi,rfl⟩:=Ax.1 hx;exact (hone i (Bq.1 hi)).2.2
 refine⟨.lst fs.length xs,.inr ⟨xs,rfl,by rw[hxl];omega,λy hy=>?_⟩,⟨hpu,hpos,some a,cap,vs,by rw[hxl],⟨by rw[hxl];exact hlc,λhn=>by cases hn⟩,hvs,λhne=>?_⟩,by simpa [AV.pure] using hpu,rfl⟩
 ·obtain⟨i,hi,rfl⟩:=Ax.1 hy
  exact⟨_,rfl,(hp i (Bq.1 hi)).2.1⟩
 ·have h0:0<len:=by rw[<-hxl];exact Db.2 hne
  obtain⟨b,o,spot⟩:=a
  have hcell:∀i,i<len->∀j,j<fs.length->w.cell? ((⟨b,o,spot⟩:Addr).add (i * fs.length+j))=(p i).2[j]? := λi hi j hj=>by
   obtain⟨_,_,hat⟩:=World.cells?_some (hp i hi).1;rw[<-hat j hj,<-Go.Deep.add_add]
  have hlen2:∀i,i<len->(p i).2.length=fs.length:=λi hi=>(World.cells?_some (hp i hi).1).2.1;have hc0:=hcell 0 h0 0 hpos;rw[Al (by rw[hlen2 0 h0];exact hpos)] at hc0;have hspot:spot=none:=by simpa [Addr.add] using World.cell?_spot hc0
  subst hspot;have hbk:∀k:Nat,((⟨b,o,none⟩:Addr).add k).block=b:=λk=>by unfold Addr.add;split<;>rfl
  refine⟨b,o,rfl,by have:=NY hc0;rwa [hbk] at this,λi v hv=>?_⟩;have hi:i<len:=by rw[<-hvl];exact (AI.1 hv).1
  rw[hvi i hi] at hv;cases hv;obtain⟨e1,_,_⟩:=hone i hi;have e1':(V (p i).2).cells=(p i).2.toArray:=by simpa using Dl List.toArray e1
  obtain⟨_,q2,q3,_,q5⟩:=hp i hi;refine⟨by rw[e1'];simp[hlen2 i hi],λc hc=>?_,λj hj=>?_⟩
  ·rw[e1'] at hc
   exact K7 q3 q5 c (by simpa using hc)
  ·rw[e1']
   have:=hcell i hi j hj
   have ea:(⟨b,o,none⟩:Addr).add (i * fs.length+j)=⟨b,o+i * fs.length+j,none⟩:=by
    unfold Addr.add;split
    ·rename_i hz
     have:i * fs.length=0/\j=0:=by simpa using hz
     rw[this.1,this.2];rfl
    ·simp[Bo]
   rw[ea] at this;refine this.trans ?_;simp
theorem NZ:∀{fs:List Sh}{i:Nat}{fl:List Field},Kk P fs i fl=true->fl.length=fs.length
 |[],_,[],_=>rfl
 |[],_,_::_,h=>by simp[Kk] at h
 |_::_,_,[],h=>by simp[Kk] at h
 |s::fs,i,f::fl,h=>by
  simp only[Kk,Ac] at h;simp[NZ h.2]
mutual
theorem zi9:∀(s:Sh){t:TypeId}{fuel:Nat}{v:Value}{d:DataW H × List MemPlace},PG P s t=true->DataW.trod enc P w base spare held fuel t [v]=some d->Got w s v
 |.bool,t,fuel,v,d,hf,h=>by
  cases fuel with
  |zero=>simp[DataW.trod] at h
  |succ n =>
   simp only[PG] at hf;split at hf
   ·rename_i ht
    unfold DataW.trod at h;rw[ht] at h;cases v<;>simp at h;rename_i b;exact⟨.bool b,⟨b,rfl⟩,rfl,rfl,rfl⟩
   ·cases hf
 |.int k,t,fuel,v,d,hf,h=>by
  cases fuel with
  |zero=>simp[DataW.trod] at h
  |succ n =>
   simp only[PG] at hf;split at hf
   ·rename_i k' ht
    obtain rfl:k'=k:=by simpa using hf
    unfold DataW.trod at h;rw[ht] at h;cases v<;>simp at h;rename_i k2 m;obtain⟨⟨rfl,hw⟩,_⟩:=h;exact⟨.int k2 m,⟨m,rfl,hw⟩,rfl,rfl,rfl⟩
   ·cases hf
 |.str,t,fuel,v,d,hf,h=>by
  cases fuel with
  |zero=>simp[DataW.trod] at h
  |succ n =>
   simp only[PG] at hf;split at hf
   ·rename_i ht
    unfold DataW.trod at h;rw[ht] at h;cases v<;>simp at h;rename_i s;exact⟨.str s.data.toList,⟨_,rfl,by simpa using h.1⟩,rfl,rfl,rfl⟩
   ·cases hf
 |.sl agg fs,t,fuel,v,d,hf,h=>by
  simp only[PG] at hf;split at hf
  ·rename_i e ht
   simp only[Ac,BK,AA,List.isEmpty_eq_false_iff] at hf;obtain⟨⟨hsz,hne⟩,hfe⟩:=hf;have hpos:0<fs.length:=Db.2 hne;rcases Go.Deep.open_slice ht h with⟨hv,_⟩|⟨a,len,cap,m,n,D,Pl,hv,hb,hl,hm,hmm,hx,hi⟩
   ·cases hv
    exact⟨.nilS,.inl rfl,rfl,rfl,rfl⟩
   ·cases hv
    have hlm:len<=m:=by rw[hmm];split<;>omega
    have hag:agg=false->fs.length=1:=λha=>by
     subst ha;simp only[Ac,BK] at hfe;exact hfe.1
    refine zi8 (base:=base) hsz hpos hag hl hm λi hil=>?_;obtain⟨cs',hc,ht'⟩:=hi i (by omega);refine⟨cs',hc,?_⟩;have hcl:=(World.cells?_some hc).2.1;cases agg with
    |true =>
     split at hfe
     ·rename_i fl _ he
      obtain⟨ys,n',_,_,_,hlen,hg⟩:=DataW.trod_struct he ht';have hfl:=NZ hfe
      exact zat fs (fl:=fl.toList) (i:=0) (cs:=cs') hfe (by rw[hcl,hsz];omega) λj f hj=>by
       have:=hg j f (by simpa using hj);have hj2:j<ys.length:=by rw[hlen];have:=(AI.1 hj).1;simpa using this
       rw[Al hj2] at this;exact⟨n',_,this,rfl⟩
     ·rename_i n2 u _ he
      simp only[Ac,BK] at hfe;obtain⟨⟨hn,hu⟩,hfa⟩:=hfe;obtain⟨ys,n',_,_,hlen,hyl,hg⟩:=DataW.trod_array he ht';refine zia fs (u:=u) (cs:=cs') (i:=0) hfa (by omega) λj hj=>?_;have h1:=hg j (by omega);rw[hu,ER] at h1;have h2:ys[j]? = some (ys[j]'(by omega)):=Al (by omega);rw[h2] at h1;exact⟨n',_,by rw[Bb];exact h1⟩
     ·rename_i hh;cases hh
     ·cases hfe
    |false =>
     simp only[Ac,BK] at hfe;refine zia fs (u:=e) (cs:=cs') (i:=0) hfe.2 (by omega) λj hj=>?_;obtain rfl:j=0:=by omega
     exact⟨n,_,by rw[B6,Az (by omega)];exact ht'⟩
  ·cases hf
theorem zat:∀(fs:List Sh){fl:List Field}{i:Nat}{cs:List Value},Kk P fs i fl=true->cs.length=i+fs.length ->
 (∀(j:Nat)(f:Field),fl[j]? = some f->∃n y,DataW.trod enc P w base spare held n f.type ((cs.drop f.offset).take (P.cellsOf f.type))=y/\y.isSome=true)->GotL w fs (cs.drop i)
 |[],fl,i,cs,hf,hl,h=>by
  rw[An (by rw[hl];simp)];exact X8
 |s::fs,fl,i,cs,hf,hl,h=>by
  cases fl with
  |nil=>simp[Kk] at hf
  |cons f fl =>
   simp only[Kk,Ac,BK] at hf;obtain⟨⟨⟨ho,hc⟩,hs⟩,hr⟩:=hf;have hi:i<cs.length:=by rw[hl];simp
   rw[BV hi];obtain⟨n,y,h1,h2⟩:=h 0 f rfl;obtain⟨d,rfl⟩:=Option.isSome_iff_exists.1 h2;rw[ho,hc,BV hi,List.take_succ_cons,List.take_zero] at h1;refine TE (zi9 s hs h1) (zat fs hr (by rw[hl];simp;omega) λj g hj=>h (j+1) g (by simpa using hj))
theorem zia:∀(fs:List Sh){u:TypeId}{i:Nat}{cs:List Value},z3z P fs u=true->cs.length=i+fs.length ->
 (∀j,j<fs.length->∃n d,DataW.trod enc P w base spare held n u ((cs.drop (i+j)).take 1)=some d)->GotL w fs (cs.drop i)
 |[],u,i,cs,hf,hl,h=>by
  rw[An (by rw[hl];simp)];exact X8
 |s::fs,u,i,cs,hf,hl,h=>by
  simp only[z3z,Ac] at hf;have hi:i<cs.length:=by rw[hl];simp
  rw[BV hi];obtain⟨n,d,h1⟩:=h 0 (by simp);rw[Nat.add_zero,BV hi,List.take_succ_cons,List.take_zero] at h1;refine TE (zi9 s hf.1 h1) (zia fs hf.2 (by rw[hl];simp;omega) λj hj=>?_);have:=h (j+1) (by simp;omega)
  rwa [show i+(j+1)=i+1+j by omega] at this
end
end
open Go.RowKit Go.ChangeShapes Go.WideShapes
inductive PSh where
 |cell (s:Sh)
 |rcd (fs:List Sh)
def IsP:PSh->AV->Prop
 |.cell s,x=>Is s x
 |.rcd fs,x=>∃cs,x=.agg cs/\IsL fs cs
def zib(P:Program):PSh->TypeId->Bool
 |.cell s,t=>PG P s t
 |.rcd fs,t=>match P.underlying t with
  |some (.struct fl)=>P.cellsOf t == fs.length&&Kk P fs 0 fl.toList
  |_=>false
section
variable {H:Type}{enc:TypeId × Value->H}{P:Program}{w:World}{spare:Nat->Bool}{held:Bool}
theorem VD{s:Sh}{t:TypeId}{r:Reach}{b0:Nat}{v:Value}(hf:PG P s t=true)(h:Value.okWide P w r b0 t v):v.cells.toList=[v]:=by
 cases s<;>simp only[PG] at hf<;>split at hf<;>first|(cases hf;done)|skip
 ·obtain⟨b,rfl⟩:=okWide_bool ‹_› h;rfl
 ·obtain⟨b,rfl⟩:=okWide_int ‹_› h;rfl
 ·obtain⟨b,rfl⟩:=okWide_string ‹_› h;rfl
 ·obtain⟨a,l,c,rfl⟩:=okWide_slice ‹_› h;rfl
theorem zic{p:PSh}{t:TypeId}{r:Reach}{b0:Nat}{v:Value}{d:DataW H}{ps:List MemPlace}(hf:zib P p t=true)(hw:Value.okWide P w r b0 t v)(h:DataW.Trod enc P w 0 spare held t v d ps):∃x,IsP p x/\VRel (MS.start w) x v:=by
 obtain⟨fuel,h⟩:=h;cases p with
 |cell s =>
  rw[VD hf hw] at h;obtain⟨x,h1,h2,_⟩:=zi9 s hf h;exact⟨x,h1,h2⟩
 |rcd fs =>
  simp only[zib] at hf;split at hf
  ·rename_i fl ht
   simp only[Ac,BK] at hf;obtain⟨cs,rfl,hc⟩:=okWide_struct ht hw;obtain⟨ys,n',_,_,_,hlen,hg⟩:=DataW.trod_struct ht h;have hfl:=NZ hf.2
   obtain⟨xs,h1,h2,_⟩:=zat fs (fl:=fl.toList) (i:=0) (cs:=cs.toList) hf.2 (by simp;omega) λj f hj=>by
    have:=hg j f (by simpa using hj);have hj2:j<ys.length:=by rw[hlen];have:=(AI.1 hj).1;simpa using this
    rw[Al hj2] at this;exact⟨n',_,this,rfl⟩
   exact⟨.agg xs,⟨xs,rfl,h1⟩,cs.toList,by simp,by simpa using h2⟩
  ·cases hf
def z40(P:Program)(ts:List TypeId):Bool:=ts.all λt=>P.readableRec t&&decide (t<P.types.size)
theorem TF{W W':World}(hl:laidOutB P=true)(hb:Below W.heap.size W W'):∀{ts:List TypeId}{vs:List Value}{ds:List (DataW H)}{ps:List MemPlace},z40 P ts=true->(∀x∈ps,x.block<W.heap.size) ->
 DataW.TrodAll enc P W 0 (λ_=>true) true ts vs ds ps->DataW.TrodAll enc P W' 0 (λb=>decide (b<W.heap.size)) true ts vs ds ps
 |[],[],[],_,_,_,h=>h
 |t::ts,v::vs,d::ds,_,hr,hlt,⟨a,b,h1,h2,e⟩=>by
  subst e;simp only[z40,List.all_cons,Ac,Ah] at hr;exact⟨a,b,Below.trod hl hr.1.1 hr.1.2 h1 hb (λx hx=>hlt x (C0 _ hx)),TF hl hb (by simpa [z40] using hr.2) (λx hx=>hlt x (CG _ hx)) h2,rfl⟩
 |[],[],_::_,_,_,_,h=>h.elim
 |[],_::_,_,_,_,_,h=>by cases ‹List (DataW H)›<;>exact h.elim
 |_::_,[],_,_,_,_,h=>by cases ‹List (DataW H)›<;>exact h.elim
 |_::_,_::_,[],_,_,_,h=>h.elim
end
mutual
def valOf:AV->Value
 |.int k a=>.int k a
 |.bool b=>.bool b
 |.agg xs=>.agg (zef xs).toArray
 |_=>undef
def zef:List AV->List Value
 |[]=>[]
 |x::xs=>valOf x::zef xs
end
def Flat(x:AV):Prop:=∀S:MS,VRel S x (valOf x)
abbrev encI(r:List AV):Array Value:=(r.map valOf).toArray
def Clo(J:Nat->(Nat->Prop)->World->Prop):Prop :=
 ∀k O W W',J k O W->W'.os=W.os->JW W' W->W'.output=W.output->W.heap.size<=W'.heap.size ->
  (∀b,b<W.heap.size->¬O b->W'.heap[b]? = W.heap[b]?)->J k (λb=>O b\/(W.heap.size<=b/\b<W'.heap.size)) W'
def TG(P:Program)(gf:Nat)(caps:List AV)(rows:List (List AV)):Prop :=
 Enters P gf/\∀(m l:Nat)(S:MS)(lb:List Value)(J Jx:Nat->(Nat->Prop)->World->Prop),
  SRel S A5.nil->AB S caps lb->Clo J->Clo Jx->J 0 (λ_=>False) S.w ->
  (∀k O W,J k O W\/Jx k O W->(∀b,S.im b->¬O b/\W.heap[b]? = S.w.heap[b]?)/\(W.os=S.w.os/\JW W S.w/\W.output=S.w.output)/\S.w.heap.size<=W.heap.size/\∀b,O b->S.w.heap.size<=b/\b<W.heap.size) ->
  (∀k row O W,rows[k]? = some row->J k O W->YieldAt Fence.wide m P l (encI row) W λe W'=>W.heap.size<=W'.heap.size/\(∀b,O b->W'.heap[b]? = W.heap[b]?)/\(e=.returned (.bool true)/\J (k+1) O W'\/e=.returned (.bool false)/\Jx (k+1) O W')) ->
  CallsIn Fence.wide (m+1) P gf (#[.func (.yield l) #[] #[]]++lb.toArray) S.w λe W'=>(∃v,e=.returned v)/\((∃O,J rows.length O W')\/∃k O,Jx k O W')
def setL:Env->List Nat->List AV->Env
 |env,p::ps,x::r=>setL (env.put (some p) x) ps r
 |env,_,_=>env
section
variable {P:Program}{n b:Nat}{env:Env}{H:A5}{Q:Ex->Env->A5->Prop}
theorem SRel.turn2{S S':MS}{H:A5}(h:SRel S H)(hw:∀b,S.im b->S'.w.heap[b]? = S.w.heap[b]?)(hi:S'.im=S.im)(hn:S'.n=S.n)(hc:S'.cur=S.cur)(hp:S'.place=S.place)(hcap:S'.cap=S.cap)(hwid:S'.wid=S.wid)
 (hk:∀b,S'.keep b->S.keep b\/S.w.heap.size<=b) (hkb:∀b,S'.keep b->b<S'.w.heap.size) (hg:∀b,¬(S.im b\/S.keep b)->b<S.w.heap.size->S'.w.heap[b]? = S.w.heap[b]?) (hsz:S.w.heap.size<=S'.w.heap.size):SRel S' H:=by
 have ev:=Evi.of hw hi hn hc hp hcap hwid;refine⟨hn.trans h.n,λg hgn=>?_,λg g' h1 h2 h3 h4 h5=>?_,λb hb=>?_⟩
 ·have hG:=h.grp g hgn
  have hni:¬(S.im (S.place g)\/S.keep (S.place g))->S.place g<S.w.heap.size->¬(S'.im (S'.place g)\/S'.keep (S'.place g)):=λhn hlt hh=>by
   rw[hi,hp] at hh;rcases hh with hh|hh
   ·exact hn (.inl hh)
   ·rcases hk _ hh with hh|hh
    ·exact hn (.inr hh)
    ·omega
  refine⟨by rw[hc];exact hG.ver,by rw[hwid];exact hG.wid,λhw0 hc0=>?_,λhw0=>by rw[hcap];exact hG.len hw0,λhw0 he=>by rw[hcap];exact hG.full hw0 he,λhw0 he=>?_⟩
  ·rw[hcap] at hc0 ⊢
   obtain⟨⟨cells,T,vs,a1,a2,a3,a4⟩,a5⟩:=hG.live hw0 hc0;exact⟨⟨cells,T,vs,by rw[hp,hg _ a5 (hG.lt hw0 hc0)];exact a1,a2,AB.moni ev _ a3,a4⟩,hni a5 (hG.lt hw0 hc0)⟩
  ·obtain⟨⟨es,clock,a1,a2⟩,a5⟩:=hG.mlive hw0 he
   exact⟨⟨es,clock,by rw[hp,hg _ a5 (hG.mlt hw0 he)];exact a1,AB.moni ev _ a2⟩,hni a5 (hG.mlt hw0 he)⟩
 ·rw[hp]
  rw[hcap] at h4 h5;exact h.apart g g' h1 h2 h3 h4 h5
 ·rcases hb with hb|hb
  ·rw[hi] at hb;exact AX (h.im b (.inl hb)) hsz
  ·exact hkb b hb
theorem X9{S:MS}{ds:List Deferred}(hd:Marks S ds):∀{ps:List Nat}{row:List AV}{env:Env}{tmps:Array Value}{ds':List Deferred},FRel S n env { tmps:=tmps,defers:=ds' }->(∀p∈ps,p<n)->(∀x∈row,Flat x) ->
 FRel S n (setL env ps row) { tmps:=(ps.zip (row.map valOf)).foldl (λt (p,v)=>t.setIfInBounds p v) tmps,defers:=ds }
 |[],row,env,tmps,_,hF,_,_=>by
  rw[show setL env [] row=env from by cases row<;>rfl];exact⟨hF.size,hd,hF.val⟩
 |p::ps,[],env,tmps,_,hF,_,_=>⟨hF.size,hd,hF.val⟩
 |p::ps,x::row,env,tmps,ds',hF,hp,hx=>by
  have:=hF.put (dst:=some p) (by simpa using hp p (by simp)) (x:=x) (v:=valOf x) (hx x (by simp) S);exact X9 hd (ps:=ps) (row:=row) this (λq hq=>hp q (by simp[hq])) (λy hy=>hx y (by simp[hy]))
def codeOf:Ex->Code
 |.normal=>.skip
 |.exit id=>.exit id
 |.ret=>.ret
structure Lo(S:MS)(rec:LoopState->Option Code->Loop)(W1:Nat)(st:LoopState)(pe:Option Code)(O:Nat->Prop)(S':MS)(H':A5):Prop where
 evo:Evo S S'
 rel:SRel S' H'
 own:∀b,O b->S'.keep b/\¬S'.im b/\W1<=b/\b<S'.w.heap.size
 size:W1<=S'.w.heap.size
 loop:S'.w.heap[S.w.heap.size+1]? = some (.loop (rec st pe))
 defd:S'.w.heap[S.w.heap.size]? = some (.deferred (some []))
 k1:S'.keep S.w.heap.size/\¬S'.im S.w.heap.size
 k2:S'.keep (S.w.heap.size+1)/\¬S'.im (S.w.heap.size+1)
theorem Lo.clo{S S':MS}{rec:LoopState->Option Code->Loop}{st:LoopState}{pe:Option Code}{O:Nat->Prop}{H':A5}(hS:∀b,S.im b\/S.keep b->b<S.w.heap.size)(h:Lo S rec (S.w.heap.size+2) st pe O S' H'){W':World}
 (h1:W'.os=S'.w.os) (h2:JW W' S'.w) (h3:W'.output=S'.w.output) (h4:S'.w.heap.size<=W'.heap.size) (h5:∀b,b<S'.w.heap.size->¬O b->W'.heap[b]? = S'.w.heap[b]?) :
 ∃S'':MS,S''.w=W'/\Lo S rec (S.w.heap.size+2) st pe (λb=>O b\/(S'.w.heap.size<=b/\b<W'.heap.size)) S'' H':=by
 obtain⟨S'',hd⟩:∃S'':MS,S''={ S' with w:=W',keep:=λb=>S'.keep b\/(S'.w.heap.size<=b/\b<W'.heap.size) }:=⟨_,rfl⟩;have him:∀b,S'.im b->b<S'.w.heap.size:=λb hb=>h.rel.im b (.inl hb);have hio:∀b,S'.im b->¬O b:=λb hb ho=>(h.own b ho).2.1 hb;have hlt:∀b,S.im b\/S.keep b->¬O b:=λb hb ho=>by have:=(h.own b ho).2.2.1;have:=hS b hb;omega
 have hsz:=h.size;refine⟨S'',by rw[hd],?_⟩
 have hrel:SRel S'' H':=by
  subst hd
  exact h.rel.turn2 (λb hb=>h5 b (him b hb) (hio b hb)) rfl rfl rfl rfl rfl rfl (λb hb=>hb.imp id And.left) (λb hb=>hb.elim (λhh=>AX (h.rel.im b (.inr hh)) h4) And.right)
   (λb hb hl=>h5 b hl (λho=>hb (.inr (h.own b ho).1))) h4
 have hevo:Evo S S'':=by
  have e:=h.evo;subst hd;refine⟨e.base,h1.trans e.os,h2.trans e.tape,h3.trans e.output,AJ e.size h4,λb hb=>?_,e.im,λb hb=>.inl (e.keep b hb),e.fresh,e.n,e.cur,e.same⟩;exact (h5 b (AX (hS b hb) e.size) (hlt b hb)).trans (e.kept b hb)
 have hw:S''.w=W':=by rw[hd]
 have hkeep:S''.keep=λb=>S'.keep b\/(S'.w.heap.size<=b/\b<W'.heap.size):=by rw[hd]
 have himm:S''.im=S'.im:=by rw[hd]
 have hnO:∀b,b<S.w.heap.size+2->¬O b:=λb hb ho=>by have:=(h.own b ho).2.2.1;omega
 refine⟨hevo,hrel,λb hb=>?_,by rw[hw];omega,?_,?_,?_,?_⟩
 ·rw[hkeep,himm,hw]
  rcases hb with hb|⟨hb1,hb2⟩
  ·obtain⟨q1,q2,q3,q4⟩:=h.own b hb
   exact⟨.inl q1,q2,q3,by omega⟩
  ·exact⟨.inr ⟨hb1,hb2⟩,λhi=>by have:=him b hi;omega,by omega,hb2⟩
 ·rw[hw,h5 _ (by omega) (hnO _ (by omega))];exact h.loop
 ·rw[hw,h5 _ (by omega) (hnO _ (by omega))];exact h.defd
 ·rw[hkeep,himm];exact⟨.inl h.k1.1,h.k1.2⟩
 ·rw[hkeep,himm];exact⟨.inl h.k2.1,h.k2.2⟩
theorem Lo.turn{S S':MS}{rec:LoopState->Option Code->Loop}{st:LoopState}{pe:Option Code}{O:Nat->Prop}{H':A5}(hS:∀b,S.im b\/S.keep b->b<S.w.heap.size)(h:Lo S rec (S.w.heap.size+2) st pe O S' H')(st':LoopState)(pe':Option Code):
 ∃S'':MS,S''.w=S'.w.putObj (S.w.heap.size+1) (.loop (rec st' pe'))/\Lo S rec (S.w.heap.size+2) st' pe' O S'' H'/\Evi S' S''/\S''.n=S'.n/\S''.base=S'.base/\S''.keep=S'.keep/\S''.im=S'.im:=by
 obtain⟨S'',hd⟩:∃S'':MS,S''={ S' with w:=S'.w.putObj (S.w.heap.size+1) (.loop (rec st' pe')) }:=⟨_,rfl⟩;have hne:∀b,S'.im b->b≠S.w.heap.size+1:=λb hb hh=>h.k2.2 (hh ▸ hb);have hsz:=h.size;have hw:S''.w=S'.w.putObj (S.w.heap.size+1) (.loop (rec st' pe')):=by rw[hd]
 refine⟨S'',hw,⟨?_,?_,λb hb=>?_,by rw[hw,World.putObj_size];exact hsz,?_,?_,?_,?_⟩,?_,by rw[hd],by rw[hd],by rw[hd],by rw[hd]⟩
 ·have e:=h.evo
  subst hd;refine⟨e.base,e.os,e.tape,e.output,by show _<=(World.putObj _ _ _).heap.size;rw[World.putObj_size];exact e.size,λb hb=>?_,e.im,e.keep,e.fresh,e.n,e.cur,e.same⟩;show (World.putObj _ _ _).heap[b]? = _;rw[World.putObj_heap_other (by have:=hS b hb;omega)];exact e.kept b hb
 ·subst hd
  refine h.rel.turn (λb hb=>World.putObj_heap_other (hne b hb)) rfl rfl rfl rfl rfl rfl (λ_ h=>h) (λb hb _=>World.putObj_heap_other λhh=>hb (.inr (hh ▸ h.k2.1))) (by show _<=(World.putObj _ _ _).heap.size;rw[World.putObj_size];exact Ad _)
 ·obtain⟨q1,q2,q3,q4⟩:=h.own b hb
  rw[hd];exact⟨q1,q2,q3,by show _<(World.putObj _ _ _).heap.size;rw[World.putObj_size];exact q4⟩
 ·rw[hw];exact World.putObj_heap_same (by omega)
 ·rw[hw,World.putObj_heap_other (by omega)];exact h.defd
 ·rw[hd];exact h.k1
 ·rw[hd];exact h.k2
 ·subst hd
  exact Evi.of (λb hb=>World.putObj_heap_other (hne b hb)) rfl rfl rfl rfl rfl rfl
theorem Lo.on{S S' S2:MS}{rec:LoopState->Option Code->Loop}{W1:Nat}{st:LoopState}{pe:Option Code}{O:Nat->Prop}{H' H2:A5}(h:Lo S rec W1 st pe O S' H')(e:BEvo S.n S' S2)(hr:SRel S2 H2):Lo S rec W1 st pe O S2 H2/\∀b,O b->S2.w.heap[b]? = S'.w.heap[b]? := by
 have hk:∀b,S'.keep b->¬S'.im b->S2.keep b/\¬S2.im b/\S2.w.heap[b]? = S'.w.heap[b]? := λb h1 h2=>⟨e.keep b h1,λhi=>(e.fresh b hi).elim h2 (λhh=>hh h1),e.kept b (.inr h1)⟩;refine⟨⟨((h.evo.down (Ad _)).trans e).up,hr,λb hb=>?_,AJ h.size e.size,?_,?_,?_,?_⟩,λb hb=>?_⟩
 ·obtain⟨q1,q2,q3,q4⟩:=h.own b hb
  obtain⟨r1,r2,_⟩:=hk b q1 q2;exact⟨r1,r2,q3,AX q4 e.size⟩
 ·rw[(hk _ h.k2.1 h.k2.2).2.2];exact h.loop
 ·rw[(hk _ h.k1.1 h.k1.2).2.2];exact h.defd
 ·obtain⟨r1,r2,_⟩:=hk _ h.k1.1 h.k1.2;exact⟨r1,r2⟩
 ·obtain⟨r1,r2,_⟩:=hk _ h.k2.1 h.k2.2;exact⟨r1,r2⟩
 ·obtain⟨q1,q2,_,_⟩:=h.own b hb
  exact (hk b q1 q2).2.2
theorem T_rng{f:AArg}{ps:List Nat}{asg body:AC}{gf:Nat}{caps:List AV}(hf:f.eval env=.fn gf caps)(hpure:Bh caps=true)(hfr1:asg.free=true)(hfr2:body.free=true){rows:List (List AV)}(hit:TG P gf caps rows)(hfl:∀r∈rows,∀x∈r,Flat x)
 (hps:∀r∈rows,r.length=ps.length) (hpn:∀p∈ps,p<n) (Inv:Nat->A5->Prop) (Qx:Ex->A5->Prop) (h0:Inv 0 H) (hn:∀k H',Inv k H'->H'.n=H.n) (hnx:∀x H',Qx x H'->H'.n=H.n)
 (round:∀k row H1,rows[k]? = some row->Inv k H1->T P n H.n asg (setL env ps row) H1 (λx env1 H2=>x=.normal/\T P n H.n body env1 H2 (λx _ H3=>(x=.normal/\Inv (k+1) H3)\/(x≠.normal/\Qx x H3))))
 (done:∀H1,Inv rows.length H1->Q .normal env H1) (out:∀x H1,Qx x H1->Q x env H1):T P n b (.rng f ps asg body) env H Q:=T_of λrd mm hrd code hc hs S a hb hS hF=>by
 obtain rfl:rd=none:=by
  rcases hrd with h|h
  ·cases h
  ·exact h
 cases code<;>simp only[E0,reduceCtorEq,Aq] at hc
 case rangeFunc g pps asgc bodyc =>
  split at hc
  ·rename_i z x y hz hx hy
   cases hc;have hSim:=hS.im;have hv:=R4 hF hz;rw[hf] at hv;obtain⟨lb,hgv,hlb⟩:=hv;obtain⟨hent,hit⟩:=hit;have hFn:S.n=H.n:=hS.n;refine wpIn_rangeFunc (F:=fen none) λfn _=>?_;obtain⟨rec,hrec⟩:∃rec:LoopState->Option Code->Loop,rec=λst pe=>{ state:=st,pending:=pe,fn,tmps:=a.tmps,params:=pps,assign:=asgc,body:=bodyc,defers:=S.w.heap.size }:=⟨_,rfl⟩;obtain⟨W1,hW1⟩:∃W1,(S.w.alloc (.deferred (some []))).alloc (.loop (rec .ready none))=W1:=⟨_,rfl⟩;have hW1s:W1.heap.size=S.w.heap.size+2:=by rw[<-hW1,size_alloc,size_alloc]
   have hW1o:∀b,b<S.w.heap.size->W1.heap[b]? = S.w.heap[b]? := λb hb=>by
    rw[<-hW1,heap_alloc_lt _ _ _ (by rw[size_alloc];omega),heap_alloc_lt _ _ _ hb]
   have hL1:W1.heap[S.w.heap.size+1]? = some (.loop (rec .ready none)):=by
    rw[<-hW1];have:=heap_alloc_new (S.w.alloc (.deferred (some []))) (.loop (rec .ready none));rwa [size_alloc] at this
   have hK1:W1.heap[S.w.heap.size]? = some (.deferred (some [])):=by
    rw[<-hW1,heap_alloc_lt _ _ _ (by rw[size_alloc];omega)];exact heap_alloc_new _ _
   -- the state at the loop's beginning
   obtain⟨S1,hS1d⟩:∃S1:MS,S1={ S with w:=W1,keep:=λb=>S.keep b\/b=S.w.heap.size\/b=S.w.heap.size+1 }:=⟨_,rfl⟩;have hw1:S1.w=W1:=by rw[hS1d]
   have hlo:Lo S rec (S.w.heap.size+2) .ready none (λ_=>False) S1 H:=by
    refine⟨?_,?_,λb hb=>hb.elim,by rw[hw1,hW1s];exact Ad _,by rw[hw1];exact hL1,by rw[hw1];exact hK1,?_,?_⟩
    ·subst hS1d hW1
     exact⟨rfl,rfl,⟨rfl,Ad _⟩,rfl,by rw[hW1s];omega,λb hb=>hW1o b (hSim b hb),λ_ h=>h,λ_ h=>.inl h,λ_ h=>.inl h,Ad _,λ_ _=>Ad _,λ_ _ _=>⟨rfl,rfl,rfl⟩⟩
    ·subst hS1d
     exact hS.turn2 (λb hb=>hW1o b (hSim b (.inl hb))) rfl rfl rfl rfl rfl rfl (λb hb=>hb.imp id (λh=>by omega)) (λb hb=>by
      show b<W1.heap.size;rw[hW1s];rcases hb with hb|hb
      ·have:=hSim b (.inr hb);omega
      ·omega) (λb _ hl=>hW1o b hl) (by show _<=W1.heap.size;rw[hW1s];omega)
    ·rw[hS1d];exact⟨.inr (.inl rfl),λhi=>by have:=hSim _ (.inl hi);omega⟩
    ·rw[hS1d];exact⟨.inr (.inr rfl),λhi=>by have:=hSim _ (.inl hi);omega⟩
   obtain⟨Sit,hSid⟩:∃Sit:MS,Sit={ S1 with n:=0,keep:=λ_=>False }:=⟨_,rfl⟩
   have hSit:SRel Sit A5.nil:=by
    subst hSid;exact⟨rfl,λg hg=>absurd hg (Ba _),λg _ hg=>absurd hg (Ba _),λb hb=>hlo.rel.im b (hb.imp id False.elim)⟩
   have hlb':AB Sit caps lb:=by
    have:=AB.mono hlo.evo _ hlb;subst hSid;exact AB.of_pure (S:=S1) (S':={ S1 with n:=0,keep:=λ_=>False }) rfl (λ_ h=>h) hpure this
   have hwit:Sit.w=W1:=by rw[hSid];exact hw1
   have himit:Sit.im=S.im:=by rw[hSid,hS1d]
   refine⟨S.w.heap.size+1,[mark S.w.heap.size],W1,{ target:=.fn (.func gf) lb.toArray,args:=#[.func (.yield (S.w.heap.size+1)) #[] #[]] },W1,gf,#[.func (.yield (S.w.heap.size+1)) #[] #[]]++lb.toArray,W1,?_,?_,λ_ _=>trivial,?_,λh=>(by cases h),?_⟩
   ·rw[<-hW1,hrec];exact run_enterLoop_outer _ _ _ _ _
   ·simp only[rangeCall,resolve,hgv]
    simp[go_sem,Act.eval]
   ·simpa [invoke,go_sem] using hent (Value.func (.yield (S.w.heap.size+1)) #[] #[]::lb).toArray W1
   -- the iterator
   have hcall:=hit (mm+1) (S.w.heap.size+1) Sit lb
    (λk O W=>∃S' H',S'.w=W/\Lo S rec (S.w.heap.size+2) .ready none O S' H'/\Inv k H')
    (λk O W=>∃x S' H',S'.w=W/\Lo S rec (S.w.heap.size+2) .done (some (codeOf x)) O S' H'/\x≠.normal/\Qx x H')
    hSit hlb'
    (λk O W W' ⟨S',H',hw,hl,hi⟩ h1 h2 h3 h4 h5=>by
     subst hw;obtain⟨S'',hw',hl'⟩:=hl.clo hSim h1 h2 h3 h4 h5
     exact⟨S'',H',hw',hl',hi⟩)
    (λk O W W' ⟨x,S',H',hw,hl,hi⟩ h1 h2 h3 h4 h5=>by
     subst hw;obtain⟨S'',hw',hl'⟩:=hl.clo hSim h1 h2 h3 h4 h5
     exact⟨x,S'',H',hw',hl',hi⟩)
    ⟨S1,H,by rw[hwit,hw1],hlo,h0⟩
    (λk O W hJ=>by
     have hW1e:W1.os=S.w.os/\(W1.tape=S.w.tape/\W1.drawn=S.w.drawn)/\W1.output=S.w.output:=by rw[<-hW1];exact⟨rfl,⟨rfl,rfl⟩,rfl⟩
     have key:∀{st:LoopState}{pe:Option Code}{S':MS}{H':A5},Lo S rec (S.w.heap.size+2) st pe O S' H'->(∀b,Sit.im b->¬O b/\S'.w.heap[b]? = Sit.w.heap[b]?)/\(S'.w.os=Sit.w.os/\JW S'.w Sit.w/\S'.w.output=Sit.w.output)/\Sit.w.heap.size<=S'.w.heap.size/\∀b,O b->Sit.w.heap.size<=b/\b<S'.w.heap.size:=λhl=>by
      refine⟨λb hb=>?_,⟨by rw[hwit,hW1e.1];exact hl.evo.os,⟨by rw[hwit,hW1e.2.1.1];exact hl.evo.tape.1,by rw[hwit,hW1e.2.1.2];exact hl.evo.tape.2⟩,by rw[hwit,hW1e.2.2];exact hl.evo.output⟩,by rw[hwit,hW1s];exact hl.size,λb hb=>?_⟩
      ·rw[himit] at hb
       refine⟨λho=>by have:=(hl.own b ho).2.2.1;have:=hSim b (.inl hb);omega,?_⟩;rw[hwit,hW1o b (hSim b (.inl hb))];exact hl.evo.kept b (.inl hb)
      ·obtain⟨_,_,q3,q4⟩:=hl.own b hb
       rw[hwit,hW1s];exact⟨q3,q4⟩
     rcases hJ with⟨S',H',hw,hl,_⟩|⟨x,S',H',hw,hl,_,_⟩
     ·subst hw;exact key hl
     ·subst hw;exact key hl)
    (λk row O W hrow ⟨S',H',hw,hl,hi⟩=>by
     subst hw
     have hlen:(encI row).size=(rec .ready none).params.size:=by
      rw[hrec];have:=hps row (D7 hrow);simp[this]
     refine⟨_,_,_,_,run_yield hl.loop hlen,?_⟩;have hrf:rec .ready none={ state:=.ready,pending:=none,fn,tmps:=a.tmps,params:=pps,assign:=asgc,body:=bodyc,defers:=S.w.heap.size }:=by rw[hrec]
     rw[hrf];refine roundIn_of_wpIn (F:=Fence.wide) trivial ?_;have hF':FRel S' n env a:=hF.mono hl.evo;have hFr:=X9 (n:=n) (Marks.nil hF'.defers.1) (ps:=pps.toList) (row:=row) (env:=env) (tmps:=a.tmps) (ds':=a.defers) hF' hpn (hfl row (D7 hrow));have hTa':=(round k row H' hrow hi) (some (S.w.heap.size+1)) (mm+1) (.inl hfr1) asgc hx S' _ (by rw[hl.rel.n,hn k H' hi];exact Ad _) hl.rel hFr
     have hzip:(pps.zip (encI row)).foldl (λt (p,v)=>t.setIfInBounds p v) a.tmps=(pps.toList.zip (row.map valOf)).foldl (λt (p,v)=>t.setIfInBounds p v) a.tmps:=by
      rw[<-Array.foldl_toList];simp
     rw[hzip];refine wpIn_mono hTa' λe a1 w1 hh=>?_;obtain⟨S2,env1,H2,x1,rfl,e2,hS2,hF2,rfl,rfl,hbody⟩:=hh;have hn':H'.n=H.n:=hn k H' hi;have hsz2:=hl.size;obtain⟨hl2,ho2⟩:=hl.on (by rw[hFn];exact e2) hS2;obtain⟨S3,hw3,hl3,ev3,hn3,hb3,hk3,hi3⟩:=hl2.turn hSim .busy none;have hbr:=run_beginRound (P:=P) hl2.loop (by rw[hrec]);have hrb:({ rec .ready none with state:=.busy }:Loop)=rec .busy none:=by rw[hrec]
     rw[hrb] at hbr;refine⟨_,hbr,?_⟩;rw[<-hw3]
     have hMs:Marks S3 a1.defers:=by
      obtain⟨q0,Ds,q1,q2,q3⟩:=hF2.defers;refine⟨by rw[hb3,hw3,World.putObj_size];exact q0,Ds,q1,q2,λD hD=>?_⟩;obtain⟨r1,r2,r3,r4⟩:=q3 D hD;refine⟨by rw[hb3];exact r1,by rw[hk3];exact r2,by rw[hi3];exact r3,?_⟩;rw[hw3,World.putObj_heap_other,r4];intro hDl;rw[hDl,hl2.loop] at r4;cases r4
     have hF3:FRel S3 n env1 a1:=⟨hF2.size,hMs,λi hi=>VRel.moni ev3 _ (hF2.val i hi)⟩;have hTb:=hbody (some (S.w.heap.size+1)) (mm+1) (.inl hfr2) bodyc hy S3 a1 (by rw[<-hFn];exact hl3.evo.n) hl3.rel hF3;refine wpIn_mono hTb λe a4 w4 hh=>?_;obtain⟨S4,env4,H4,x4,rfl,e4,hS4,hF4,rfl,hx4⟩:=hh;obtain⟨hl4,ho4⟩:=hl3.on (by rw[hFn];exact e4) hS4
     have hob:∀b,O b->S4.w.heap[b]? = S'.w.heap[b]? := λb hb=>by
      have hne:b≠S.w.heap.size+1:=by have:=(hl.own b hb).2.2.1;omega
      rw[ho4 b hb,hw3,World.putObj_heap_other hne,ho2 b hb]
     have hput:∀(o:Obj) b,O b->(S4.w.putObj (S.w.heap.size+1) o).heap[b]? = S'.w.heap[b]? := λo b hb=>by
      have hne:b≠S.w.heap.size+1:=by have:=(hl.own b hb).2.2.1;omega
      rw[World.putObj_heap_other hne,hob b hb]
     have hend:=λj=>run_endRound (P:=P) j hl4.loop
     have hgrow:∀o:Obj,S'.w.heap.size<=(S4.w.putObj (S.w.heap.size+1) o).heap.size:=λo=>by
      have g1:=e2.size;have g2:=e4.size;rw[hw3,World.putObj_size] at g2;rw[World.putObj_size];omega
     have hr1:({ rec .busy none with state:=.ready,pending:=none }:Loop)=rec .ready none:=by rw[hrec]
     have hr2:∀c,({ rec .busy none with state:=.done,pending:=some c }:Loop)=rec .done (some c):=λc=>by rw[hrec]
     rcases hx4 with⟨rfl,hinv⟩|⟨hxn,hqx⟩
     ·obtain⟨S5,hw5,hl5,_⟩:=hl4.turn hSim .ready none
      have:=hend none;simp only[Option.isNone_none,Bi,hr1] at this;exact⟨_,_,this,hgrow _,hput _,.inl ⟨rfl,S5,H4,hw5,hl5,hinv⟩⟩
     ·obtain⟨S5,hw5,hl5,_⟩:=hl4.turn hSim .done (some (codeOf x4))
      have:=hend (some (codeOf x4));simp only[Option.isNone_some,A8,Bt,hr2] at this;cases x4 with
      |normal=>exact absurd rfl hxn
      |exit id=>exact⟨_,_,this,hgrow _,hput _,.inr ⟨rfl,.exit id,S5,H4,hw5,hl5,hxn,hqx⟩⟩
      |ret=>exact⟨_,_,this,hgrow _,hput _,.inr ⟨rfl,.ret,S5,H4,hw5,hl5,hxn,hqx⟩⟩)
   rw[hwit] at hcall
   have hmk:∀(S':MS)(H':A5),Evo S S'->SRel S' H'->S'.keep S.w.heap.size/\¬S'.im S.w.heap.size->S'.w.heap[S.w.heap.size]? = some (.deferred (some []))->FRel S' n env { a with defers:=[mark S.w.heap.size]++a.defers }:=λS' H' ev _ hk hd=>by
    have hF':=hF.mono ev;refine⟨hF'.size,?_,hF'.val⟩;obtain⟨q0,Ds,q1,q2,q3⟩:=hF'.defers;obtain⟨_,Ds',p1,_,p3⟩:=hF.defers
    have hDs:Ds'=Ds:=by
     rw[q1] at p1
     have hinj:∀{l l':List Nat},l.map mark=l'.map mark->l=l':=by
      intro l
      induction l with
      |nil=>intro l' h;cases l' with
       |nil=>rfl
       |cons=>simp at h
      |cons x l ih=>intro l' h;cases l' with
       |nil=>simp at h
       |cons y l' =>
        simp only[AR,DZ,mark,Deferred.mk.injEq,and_true,Target.collected.injEq] at h;rw[h.1,ih h.2]
     exact (hinj p1).symm
    subst hDs;refine⟨q0,S.w.heap.size::Ds',by rw[q1];rfl,BN.2 ⟨λhm=>by have:=hSim _ (.inr (p3 _ hm).2.1);omega,q2⟩,λD hD=>?_⟩;rcases Af.1 hD with rfl|hD
    ·exact⟨by rw[ev.base];exact hF.defers.1,hk.1,hk.2,hd⟩
    ·exact q3 D hD
   refine CallsIn.mono (callsIn_wide.2 (callsIn_wide.1 hcall)) λe w3 hh=>?_;obtain⟨⟨v,rfl⟩,hh⟩:=hh;rcases hh with⟨O,S',H',rfl,hl,hinv⟩|⟨k,O,x,S',H',rfl,hl,hxn,hqx⟩
   ·obtain⟨S5,hw5,hl5,_⟩:=hl.turn hSim .exhausted none
    have:=run_endLoop (P:=P) hl.loop (by rw[hrec];intro hh;cases hh);have hr1:({ rec .ready none with state:=.exhausted }:Loop)=rec .exhausted none:=by rw[hrec]
    rw[hr1] at this;have hpn':(rec .ready none).pending=none:=by rw[hrec]
    rw[hpn'] at this;exact⟨_,_,this,S5,env,H',.normal,hw5,hl5.evo.down hb,hl5.rel,hmk S5 H' hl5.evo hl5.rel hl5.k1 hl5.defd,rfl,done H' hinv⟩
   ·obtain⟨S5,hw5,hl5,_⟩:=hl.turn hSim .exhausted (some (codeOf x))
    have:=run_endLoop (P:=P) hl.loop (by rw[hrec];intro hh;cases hh);have hr1:({ rec .done (some (codeOf x)) with state:=.exhausted }:Loop)=rec .exhausted (some (codeOf x)):=by rw[hrec]
    rw[hr1] at this;have hpn':(rec .done (some (codeOf x))).pending=some (codeOf x):=by rw[hrec]
    rw[hpn'] at this;refine⟨_,_,this,?_⟩
    have hAft:After S n b Q (Ex.up x) { a with defers:=[mark S.w.heap.size]++a.defers } (S'.w.putObj (S.w.heap.size+1) (.loop (rec .exhausted (some (codeOf x))))) :=
     ⟨S5,env,H',x,hw5,hl5.evo.down hb,hl5.rel,hmk S5 H' hl5.evo hl5.rel hl5.k1 hl5.defd,rfl,out x H' hqx⟩
    cases x with
    |normal=>exact absurd rfl hxn
    |exit id=>exact wpIn_exit hAft
    |ret=>exact wpIn_ret hAft
  ·cases hc
 case region=>exact absurd hc Dj
 case seq=>split at hc<;>cases hc
 case cond=>split at hc<;>cases hc
 case block=>obtain⟨_,_,h⟩:=Ag.1 hc;cases h
 case loop=>obtain⟨_,_,h⟩:=Ag.1 hc;cases h
 case scope d=>exact absurd rfl (hs d)
end
section
variable {P:Program}{n b:Nat}{env:Env}{H:A5}{Q:Ex->Env->A5->Prop}
theorem XA{a:Act}:∀(ws:List Nat){S:MS}{l:List Grp},(∀w∈ws,0<w)->SRel S (hl l)->FRel S n env a->∃S',S'.w=S.w/\Evo S S'/\SRel S' (hl (l++ws.map IG))/\FRel S' n env a
 |[],S,l,_,hS,hF=>⟨S,rfl,.refl S,by simpa using hS,hF⟩
 |w::ws,S,l,hw,hS,hF=>by
  have h1:=hS.virt w (hw w (by simp));rw[F3] at h1;obtain⟨S',e1,e2,e3,e4⟩:=XA ws (S:=S.virt w) (l:=l++[IG w]) (λw' h'=>hw w' (by simp[h'])) h1 ⟨hF.size,hF.defers.mono (Evo.virt _),λj hj=>VRel.mono (Evo.virt _) _ (hF.val j hj)⟩;exact⟨S',e1,(Evo.virt _).trans e2,by simpa using e3,e4⟩
theorem zau{srcs:List Src}{live:List (Nat × AV)}{heap:List Grp}{S:MS}{a:Act}(hh:Head b env H srcs live heap)(hbS:b<=S.n)(hS:SRel S H)(hF:FRel S n env a):
 ∃S',S'.w=S.w/\BEvo b S S'/\SRel S' (hl heap)/\FRel S' n (EB live) a:=by
 obtain⟨hb,hh⟩:=hh;have hgn:H.groups.length=H.n:=by simp[A5.groups]
 have hS1:SRel S (hl H.groups):=hS.congr hgn (λg hg=>by
  show H.groups.getD g default=_
  simp[A5.groups,List.getD,hg])
 obtain⟨S2,e1,e2,e3,e4⟩:=XA (Gb H.n srcs).2 (J0 hh.1) hS1 hF;replace hh:=hh.2;generalize hl1:H.groups++(Gb H.n srcs).2.map IG=l1 at *;obtain⟨h1,h2,h3,h4⟩:=hh;have hb1:b<=l1.length:=by rw[<-hl1,Aj];omega
 have hbS2:b<=S2.n:=AJ hbS e2.n;obtain⟨k1,k2⟩:=NT (ks:=(Gb H.n srcs).1) hb1;have hev:=Jz (ks:=(Gb H.n srcs).1) e3 hbS2;have hrel:=(LF (ks:=(Gb H.n srcs).1) 6 e3 hb1 (λk hk=>Nt h1 k hk) (Ip h2)).congr k1 k2;have hF3:FRel (S2.repack b (hl l1) (Gb H.n srcs).1) n (λi=>rnV b (hl l1) (Gb H.n srcs).1 6 (env i)) a:=⟨e4.size,e4.defers.of hev.base hev.size hev.keep hev.fresh (λb hb=>hev.kept b (.inr hb)),λj hj=>Z7 e3 6 (e4.val j hj)⟩;exact⟨S2.repack b (hl l1) (Gb H.n srcs).1,e1,(e2.down hbS).trans hev,HL hrel h4,⟨hF3.size,hF3.defers,NU hrel hF3 h3⟩⟩
theorem zms{c:AC}{Q':Ex->Env->A5->Prop}(h:T P n b c env H Q')(hq:∀x env' H',Q' x env' H'->∃srcs live heap,Head b env' H' srcs live heap/\Q x (EB live) (hl heap)):T P n b c env H Q :=
 λrd mm hrd code hc S a hb hS hF=>wpIn_mono (h rd mm hrd code hc S a hb hS hF) λe a w hh=>by
  obtain⟨S',env',H',x,e1,e2,e3,e4,e5,e6⟩:=hh;obtain⟨srcs,live,heap,k1,k2⟩:=hq _ _ _ e6;obtain⟨S2,q1,q2,q3,q4⟩:=zau k1 e2.n e3 e4;exact⟨S2,_,_,x,q1.trans e1,e2.trans q2,q3,q4,e5,k2⟩
theorem XB{σ:Type}(Fact:Nat->σ->Prop)(live:List (Nat × AV))(heap:σ->List Grp)(srcs:List Src)(N:Nat){f:AArg}{ps:List Nat}{asg body:AC}{gf:Nat}{caps:List AV}{rows:List (List AV)}(s0:σ)
 (hit:TG P gf caps rows) (he:Head b env H srcs live (heap s0)) (hN:∀s,(heap s).length=N) (hf:f.eval (EB live)=.fn gf caps) (hpure:Bh caps=true) (hfr1:asg.free=true) (hfr2:body.free=true)
 (hfl:∀r∈rows,∀x∈r,Flat x) (hps:∀r∈rows,r.length=ps.length) (hpn:∀p∈ps,p<n) (h0:Fact 0 s0)
 (round:∀k row s,rows[k]? = some row->Fact k s->T P n N asg (setL (EB live) ps row) (hl (heap s)) (λx env1 H2=>x=.normal/\T P n N body env1 H2 (Ex.then (λenv3 H3=>∃s',Head N env3 H3 [] [] (heap s')/\Fact (k+1) s') (λ_ _ _=>False))))
 (done:∀s,Fact rows.length s->Q .normal (EB live) (hl (heap s))):T P n b (.rng f ps asg body) env H Q:=by
 refine Qk he ?_;refine T_rng hf hpure hfr1 hfr2 hit hfl hps hpn (λk H'=>∃s,H'=hl (heap s)/\Fact k s) (λ_ _=>False) ⟨s0,rfl,h0⟩ (λk H' hh=>?_) (λ_ _ hh=>hh.elim) (λk row H1 hrow hh=>?_) (λH1 hh=>?_) (λ_ _ hh=>hh.elim)
 ·obtain⟨s,rfl,_⟩:=hh
  show (heap s).length=(heap s0).length;rw[hN,hN]
 ·obtain⟨s,rfl,hs⟩:=hh
  have hn0:(hl (heap s0)).n=N:=hN s0;rw[hn0];refine T.mono (round k row s hrow hs) λx env1 H2 hh=>⟨hh.1,?_⟩;refine zms hh.2 λx env3 H3 hq=>?_;cases x with
  |normal =>
   obtain⟨s',q1,q2⟩:=hq;exact⟨[],[],heap s',q1,.inl ⟨rfl,s',rfl,q2⟩⟩
  |exit id=>exact hq.elim
  |ret=>exact hq.elim
 ·obtain⟨s,rfl,hs⟩:=hh
  exact done s hs
theorem RI{f:AArg}{ps:List Nat}{asg body:AC}(h:T P n b (.rng f ps asg body) env H Q):@Kg ⟨T P n b (.rng f ps asg body) env H Q⟩:=h
end
mutual
def ren(σ:Nat->Nat):AV->AV
 |.any=>.any
 |.bool b=>.bool b
 |.int k n=>.int k n
 |.str s=>.str s
 |.nilS=>.nilS
 |.nul=>.nul
 |.emp=>.emp
 |.lst w xs=>.lst w xs
 |.full w xs=>.full w xs
 |.map g v=>.map (σ g) v
 |.ref g v o n=>.ref (σ g) v o n
 |.cptr x=>.cptr x
 |.ptr g v i o=>.ptr (σ g) v i o
 |.nilP=>.nilP
 |.agg cs=>.agg (renL σ cs)
 |.tup cs=>.tup (renL σ cs)
 |.fn f cs=>.fn f (renL σ cs)
 |.nilF=>.nilF
 |.yld l=>.yld l
def renL(σ:Nat->Nat):List AV->List AV
 |[]=>[]
 |x::xs=>ren σ x::renL σ xs
end
mutual
def ltV(m:Nat):AV->Prop
 |.map g _|.ref g _ _ _|.ptr g _ _ _=>g<m
 |.agg cs|.tup cs|.fn _ cs=>ltL m cs
 |.any|.bool _|.int ..|.str _|.nilS|.nul|.emp|.lst ..|.full ..|.cptr _|.nilP|.nilF|.yld _=>True
def ltL(m:Nat):List AV->Prop
 |[]=>True
 |x::xs=>ltV m x/\ltL m xs
end
def renG(σ:Nat->Nat)(G:Grp):Grp:=⟨G.w,G.ver,G.exact,renL σ G.xs⟩
mutual
theorem zeg{A B:MS}{σ:Nat->Nat}(hw:B.w=A.w)(hi:∀b,A.im b->B.im b)(hg:∀g,g<A.n->σ g<B.n/\B.cur (σ g)=A.cur g/\B.place (σ g)=A.place g/\B.cap (σ g)=A.cap g/\B.wid (σ g)=A.wid g):∀(x:AV){v:Value},VRel A x v->VRel B (ren σ x) v
 |.any,_,_=>trivial
 |.bool _,_,h=>h
 |.int _ _,_,h=>h
 |.str _,_,h=>h
 |.nilS,_,h=>h
 |.nul,_,h=>h
 |.emp,_,h=>h
 |.nilP,_,h=>h
 |.nilF,_,h=>h
 |.yld _,_,h=>h
 |.lst wd xs,v,h=>by
  obtain⟨hp,h0,a,cap,vs,hv,hc,hl,hr⟩:=h;refine⟨hp,h0,a,cap,vs,hv,hc,AB.of_pure hw hi hp hl,λhne=>?_⟩;obtain⟨b,o,ha,hb,hrow⟩:=hr hne;exact⟨b,o,ha,hi b hb,by rw[hw];exact hrow⟩
 |.full wd xs,v,h=>by
  obtain⟨hp,h0,a,vs,hv,hc,hl,hr⟩:=h;refine⟨hp,h0,a,vs,hv,hc,AB.of_pure hw hi hp hl,λhne=>?_⟩;obtain⟨b,o,ha,hb,hrow⟩:=hr hne;exact⟨b,o,ha,hi b hb,by rw[hw];exact hrow⟩
 |.cptr x,v,h=>by
  obtain⟨hp,b,o,u,hv,hb,hx,hl⟩:=h;exact⟨hp,b,o,u,hv,hi b hb,VRel.of_pure hw hi hp hx,by rw[hw];exact hl⟩
 |.map g vn,v,h=>by
  obtain⟨hs,hgn,hc,hv⟩:=h;obtain⟨k1,k2,k3,k4,k5⟩:=hg g hgn;exact⟨hs,k1,by rw[k2];exact hc,λh'=>by rw[k3];exact hv (by rw[<-k2];exact h')⟩
 |.ref g vn off len,v,h=>by
  obtain⟨hs,hgn,hc,hv⟩:=h;obtain⟨k1,k2,k3,k4,k5⟩:=hg g hgn;exact⟨hs,k1,by rw[k2];exact hc,λh'=>by rw[k3,k4,k5];exact hv (by rw[<-k2];exact h')⟩
 |.ptr g vn i o,v,h=>by
  obtain⟨hs,hgn,hc,hv⟩:=h;obtain⟨k1,k2,k3,k4,k5⟩:=hg g hgn;exact⟨hs,k1,by rw[k2];exact hc,λh'=>by rw[k3,k5];exact hv (by rw[<-k2];exact h')⟩
 |.agg cs,v,h=>by obtain⟨vs,hv,h⟩:=h;exact⟨vs,hv,LH hw hi hg cs h⟩
 |.tup cs,v,h=>by obtain⟨vs,hv,h⟩:=h;exact⟨vs,hv,LH hw hi hg cs h⟩
 |.fn f cs,v,h=>by obtain⟨vs,hv,h⟩:=h;exact⟨vs,hv,LH hw hi hg cs h⟩
theorem LH{A B:MS}{σ:Nat->Nat}(hw:B.w=A.w)(hi:∀b,A.im b->B.im b)(hg:∀g,g<A.n->σ g<B.n/\B.cur (σ g)=A.cur g/\B.place (σ g)=A.place g/\B.cap (σ g)=A.cap g/\B.wid (σ g)=A.wid g):∀(xs:List AV){vs:List Value},AB A xs vs->AB B (renL σ xs) vs
 |[],_,h=>h
 |x::xs,_,h=>by
  obtain⟨v,r,hv,h1,h2⟩:=h;exact⟨v,r,hv,zeg hw hi hg x h1,LH hw hi hg xs h2⟩
end
mutual
theorem RJ{A B:MS}{σ:Nat->Nat}{m:Nat}(hw:A.w=B.w)(hi:∀b,B.im b->A.im b)(hg:∀g,g<m->g<A.n/\B.cur (σ g)=A.cur g/\B.place (σ g)=A.place g/\B.cap (σ g)=A.cap g/\B.wid (σ g)=A.wid g):∀(x:AV){v:Value},ltV m x->VRel B (ren σ x) v->VRel A x v
 |.any,_,_,_=>trivial
 |.bool _,_,_,h=>h
 |.int _ _,_,_,h=>h
 |.str _,_,_,h=>h
 |.nilS,_,_,h=>h
 |.nul,_,_,h=>h
 |.emp,_,_,h=>h
 |.nilP,_,_,h=>h
 |.nilF,_,_,h=>h
 |.yld _,_,_,h=>h
 |.lst wd xs,v,_,h=>by
  obtain⟨hp,h0,a,cap,vs,hv,hc,hl,hr⟩:=h;refine⟨hp,h0,a,cap,vs,hv,hc,AB.of_pure hw hi hp hl,λhne=>?_⟩;obtain⟨b,o,ha,hb,hrow⟩:=hr hne;exact⟨b,o,ha,hi b hb,by rw[hw];exact hrow⟩
 |.full wd xs,v,_,h=>by
  obtain⟨hp,h0,a,vs,hv,hc,hl,hr⟩:=h;refine⟨hp,h0,a,vs,hv,hc,AB.of_pure hw hi hp hl,λhne=>?_⟩;obtain⟨b,o,ha,hb,hrow⟩:=hr hne;exact⟨b,o,ha,hi b hb,by rw[hw];exact hrow⟩
 |.cptr x,v,_,h=>by
  obtain⟨hp,b,o,u,hv,hb,hx,hl⟩:=h;exact⟨hp,b,o,u,hv,hi b hb,VRel.of_pure hw hi hp hx,by rw[hw];exact hl⟩
 |.map g vn,v,hm,h=>by
  obtain⟨hs,hgn,hc,hv⟩:=h;obtain⟨k1,k2,k3,k4,k5⟩:=hg g hm;exact⟨hs,k1,by rw[<-k2];exact hc,λh'=>by rw[<-k3];exact hv (by rw[k2];exact h')⟩
 |.ref g vn off len,v,hm,h=>by
  obtain⟨hs,hgn,hc,hv⟩:=h;obtain⟨k1,k2,k3,k4,k5⟩:=hg g hm;exact⟨hs,k1,by rw[<-k2];exact hc,λh'=>by rw[<-k3,<-k4,<-k5];exact hv (by rw[k2];exact h')⟩
 |.ptr g vn i o,v,hm,h=>by
  obtain⟨hs,hgn,hc,hv⟩:=h;obtain⟨k1,k2,k3,k4,k5⟩:=hg g hm;exact⟨hs,k1,by rw[<-k2];exact hc,λh'=>by rw[<-k3,<-k5];exact hv (by rw[k2];exact h')⟩
 |.agg cs,v,hm,h=>by obtain⟨vs,hv,h⟩:=h;exact⟨vs,hv,GE hw hi hg cs hm h⟩
 |.tup cs,v,hm,h=>by obtain⟨vs,hv,h⟩:=h;exact⟨vs,hv,GE hw hi hg cs hm h⟩
 |.fn f cs,v,hm,h=>by obtain⟨vs,hv,h⟩:=h;exact⟨vs,hv,GE hw hi hg cs hm h⟩
theorem GE{A B:MS}{σ:Nat->Nat}{m:Nat}(hw:A.w=B.w)(hi:∀b,B.im b->A.im b)(hg:∀g,g<m->g<A.n/\B.cur (σ g)=A.cur g/\B.place (σ g)=A.place g/\B.cap (σ g)=A.cap g/\B.wid (σ g)=A.wid g):∀(xs:List AV){vs:List Value},ltL m xs->AB B (renL σ xs) vs->AB A xs vs
 |[],_,_,h=>h
 |x::xs,_,hm,h=>by
  obtain⟨v,r,hv,h1,h2⟩:=h;exact⟨v,r,hv,RJ hw hi hg x hm.1 h1,GE hw hi hg xs hm.2 h2⟩
end
theorem KG{σ:Nat->Nat}:∀xs:List AV,(renL σ xs).length=xs.length
 |[]=>rfl
 |x::xs=>by simp[renL,KG xs]
def sg(ks:List Nat)(N i:Nat):Nat:=if i<ks.length then ks.getD i 0 else N+(i-ks.length)
def iv(ks:List Nat)(N g:Nat):Nat:=if g<N then ks.idxOf g else ks.length+(g-N)
def setG:List Nat->List Grp->List Grp->List Grp
 |[],r,l=>l++r
 |_::_,[],l=>l
 |k::ks,G::r,l=>setG ks r (l.set k G)
theorem XC:∀{ks:List Nat}{r l:List Grp},ks.length<=r.length->(setG ks r l).length=l.length+(r.length-ks.length)
 |[],r,l,_=>by simp[setG]
 |k::ks,[],l,h=>by simp at h
 |k::ks,G::r,l,h=>by
  rw[setG,XC (by simpa using h)];simp
theorem LI:∀{ks:List Nat}{r l:List Grp}{g:Nat},g<l.length->g∉ks->(setG ks r l).getD g default=l.getD g default
 |[],r,l,g,hg,_=>by simp[setG,List.getD,A9 hg]
 |k::ks,[],l,g,_,_=>rfl
 |k::ks,G::r,l,g,hg,hk=>by
  simp only[Af,CR] at hk;rw[setG,LI (by simpa using hg) hk.2];simp[List.getD,Cz (λh=>hk.1 h.symm)]
theorem z41:∀{ks:List Nat}{r l:List Grp}{i:Nat},ks.Nodup->(∀k∈ks,k<l.length)->i<r.length->(setG ks r l).getD (sg ks l.length i) default=r.getD i default
 |[],r,l,i,_,_,hi=>by
  simp only[setG,sg,List.length_nil,Ba,Bt,Nat.sub_zero,List.getD];rw[AD (by omega),Nat.add_sub_cancel_left]
 |k::ks,[],l,i,_,_,hi=>by simp at hi
 |k::ks,G::r,l,0,hn,hk,_=>by
  rw[BN] at hn;have h1:k<l.length:=hk k (by simp);have e:sg (k::ks) l.length 0=k:=by simp[sg]
  rw[e,setG,LI (by simpa using h1) hn.1];simp[List.getD,Ep h1]
 |k::ks,G::r,l,i+1,hn,hk,hi=>by
  rw[BN] at hn;have e:sg (k::ks) l.length (i+1)=sg ks (l.set k G).length i:=by simp[sg]
  rw[e,setG,z41 hn.2 (λk' h'=>by simpa using hk k' (by simp[h'])) (by simpa using hi)];simp
theorem sg_lt{ks:List Nat}{N i n:Nat}(hk:∀k∈ks,k<N)(hi:i<n)(hm:ks.length<=n):sg ks N i<N+(n-ks.length):=by
 unfold sg;split
 ·rename_i h
  have:ks.getD i 0∈ks:=by rw[As,Al h];exact BY h
  have:=hk _ this;omega
 ·omega
theorem zid{ks:List Nat}{N i:Nat}(hn:ks.Nodup)(hk:∀k∈ks,k<N):iv ks N (sg ks N i)=i:=by
 unfold sg;split
 ·rename_i h
  have hmem:ks.getD i 0∈ks:=by rw[As,Al h];exact BY h
  rw[iv,Ae (hk _ hmem),As,Al h];exact hn.idxOf_getElem i h
 ·rw[iv,Ab (by omega)];omega
theorem z42{ks:List Nat}{N g:Nat}(hg:g∈ks):∃i,i<ks.length/\sg ks N i=g:=by
 obtain⟨i,hi,he⟩:=Bv hg;exact⟨i,hi,by rw[sg,Ae hi,As,Al hi];exact he⟩
theorem zav{ks:List Nat}{N g n:Nat}(hm:ks.length<=n)(hg:g<N+(n-ks.length))(h:¬(g<N/\g∉ks)):∃i,i<n/\sg ks N i=g:=by
 by_cases hgN:g<N
 ·have hmem:g∈ks:=by
   by_cases hh:g∈ks
   ·exact hh
   ·exact absurd ⟨hgN,hh⟩ h
  obtain⟨i,hi,he⟩:=z42 (N:=N) hmem;exact⟨i,by omega,he⟩
 ·exact⟨ks.length+(g-N),by omega,by rw[sg,Ab (by omega)];omega⟩
theorem Mv{σ:Nat->Nat}{l:List Grp}{i:Nat}(h:i<l.length):(l.map (renG σ)).getD i default=renG σ (l.getD i default):=by
 simp[List.getD,Al h]
theorem TH{P:Program}{f:Nat}{xs0 xs:List AV}{l0 l:List Grp}{K0 K:AV->A5->Prop}(ks:List Nat)(h:B3 P f xs0 (hl l0) K0)(hxs:renL (sg ks l.length) xs0=xs)
 (hl0:l0.map (renG (sg ks l.length))=ks.map (λk=>l.getD k default)) (hn:ks.Nodup) (hk:∀k∈ks,k<l.length) (hlt:ltL ks.length xs0) (hltG:∀G∈l0,ltL ks.length G.xs)
 (hK:∀y H',K0 y H'->∃l',H'=hl l'/\ks.length<=l'.length/\K (ren (sg ks l.length) y) (hl (setG ks (l'.map (renG (sg ks l.length))) l))):B3 P f xs (hl l) K:=by
 refine⟨h.1,λS cargs hS hx=>?_⟩;have hm:l0.length=ks.length:=by simpa using Dl List.length hl0
 have hSn:S.n=l.length:=hS.n;have hinj:∀i j,sg ks l.length i=sg ks l.length j->i=j:=λi j e=>by rw[<-zid (i:=i) hn hk,e,zid hn hk]
 have hin:∀i,i<ks.length->sg ks l.length i<l.length/\sg ks l.length i∈ks:=λi hi=>by
  have e:sg ks l.length i=ks[i]:=by rw[sg,Ae hi,As,Al hi];rfl
  rw[e];exact⟨hk _ (BY hi),BY hi⟩
 have hat:∀i,i<ks.length->l.getD (sg ks l.length i) default=renG (sg ks l.length) (l0.getD i default):=λi hi=>by
  rw[<-Mv (by omega),hl0,sg,Ae hi];simp[List.getD,Al hi]
 have hG:∀i,i<ks.length->GRel S (renG (sg ks l.length) (l0.getD i default)) (sg ks l.length i):=λi hi=>by
  have:=hS.grp (sg ks l.length i) (hin i hi).1
  rwa [Dr,hat i hi] at this
 obtain⟨O,hO⟩:∃O:Nat->Prop,∀b,O b↔∃g,g<l.length/\g∉ks/\(l.getD g default).has (S.cap g)/\S.place g=b:=⟨_,λ_=>Fy⟩
 have hOfree:∀b,O b->¬(S.im b\/S.keep b):=λb hb=>by
  obtain⟨g,h1,h2,h3,rfl⟩:=(hO b).1 hb;exact (hS.grp g h1).has_ni (by rw[Dr];exact h3)
 obtain⟨S0,hS0d⟩:∃S0:MS,S0={ S with keep:=λb=>S.keep b\/O b,n:=ks.length,place:=λi=>S.place (sg ks l.length i),cur:=λi=>S.cur (sg ks l.length i),cap:=λi=>S.cap (sg ks l.length i),wid:=λi=>S.wid (sg ks l.length i) }:=⟨_,rfl⟩
 have hdn:∀g,g<ks.length->g<S0.n/\S.cur (sg ks l.length g)=S0.cur g/\S.place (sg ks l.length g)=S0.place g/\S.cap (sg ks l.length g)=S0.cap g/\S.wid (sg ks l.length g)=S0.wid g:=λg hg=>by
  subst hS0d;exact⟨hg,rfl,rfl,rfl,rfl⟩
 have hw0:S0.w=S.w:=by subst hS0d;rfl
 have hi0:∀b,S.im b->S0.im b:=λb hb=>by subst hS0d;exact hb
 have hrel0:SRel S0 (hl l0):=by
  refine⟨by subst hS0d;exact hm.symm,λi hi=>?_,λi j hi hj hne h1 h2=>?_,λb hb=>?_⟩
  ·have hi':i<ks.length:=by rw[<-hm];exact hi
   have hg:=hG i hi';have hmem:l0.getD i default∈l0:=by rw[As,Al (show i<l0.length from hi)];exact BY _
   have hlg:=hltG _ hmem;rw[Dr]
   have hnO:(l0.getD i default).has (S.cap (sg ks l.length i))->¬O (S.place (sg ks l.length i)):=λhh ho=>by
    obtain⟨g,a1,a2,a3,a4⟩:=(hO _).1 ho;exact hS.apart g (sg ks l.length i) a1 (hin i hi').1 (λe=>a2 (e ▸ (hin i hi').2)) (by rw[Dr];exact a3) (by rw[Dr,hat i hi'];exact hh) a4
   refine⟨by subst hS0d;exact hg.ver,by subst hS0d;exact hg.wid,λhw hc=>?_,λhw=>by have:=hg.len hw;subst hS0d;simpa [renG,KG] using this,λhw he=>by have:=hg.full hw he;subst hS0d;simpa [renG,KG] using this,λhw he=>?_⟩
   ·have hc':0<S.cap (sg ks l.length i):=by subst hS0d;exact hc
    obtain⟨⟨cells,T,vs,b1,b2,b3,b4⟩,ni⟩:=hg.live hw hc';refine⟨⟨cells,T,vs,by subst hS0d;exact b1,by subst hS0d;exact b2,GE hw0 hi0 hdn _ hlg b3,b4⟩,λhh=>?_⟩;have hno:=hnO (.inl ⟨hw,hc'⟩);subst hS0d;exact hh.elim (λhh=>ni (.inl hh)) (λhh=>hh.elim (λhh=>ni (.inr hh)) hno)
   ·obtain⟨⟨es,clock,b1,b2⟩,ni⟩:=hg.mlive hw he
    refine⟨⟨es,clock,by subst hS0d;exact b1,GE hw0 hi0 hdn _ hlg b2⟩,λhh=>?_⟩;have hno:=hnO (.inr ⟨hw,he⟩);subst hS0d;exact hh.elim (λhh=>ni (.inl hh)) (λhh=>hh.elim (λhh=>ni (.inr hh)) hno)
  ·have hi':i<ks.length:=by rw[<-hm];exact hi
   have hj':j<ks.length:=by rw[<-hm];exact hj
   rw[Dr] at h1 h2;have:=hS.apart (sg ks l.length i) (sg ks l.length j) (hin i hi').1 (hin j hj').1 (λe=>hne (hinj _ _ e)) (by rw[Dr,hat i hi'];subst hS0d;exact h1) (by rw[Dr,hat j hj'];subst hS0d;exact h2);subst hS0d;exact this
  ·subst hS0d
   rcases hb with hb|hb|hb
   ·exact hS.im b (.inl hb)
   ·exact hS.im b (.inr hb)
   ·obtain⟨g,a1,a2,a3,rfl⟩:=(hO _).1 hb
    exact (hS.grp g a1).has_lt (by rw[Dr];exact a3)
 have hx0:AB S0 xs0 cargs:=GE hw0 hi0 hdn xs0 hlt (by rw[hxs];exact hx);have hsz:S0.w.heap=S.w.heap:=by rw[hw0]
 have hcall:=h.2 S0 cargs hrel0 hx0;rw[hw0] at hcall;refine hcall.mono λe w' hh=>?_;obtain⟨v,S1,y,H',he,hw1,ev,hS1,hv,hk0⟩:=hh;obtain⟨l',rfl,hml,hK'⟩:=hK y H' hk0;have hn1:S1.n=l'.length:=hS1.n
 have hnot:∀i,¬(sg ks l.length i<l.length/\sg ks l.length i∉ks):=λi hh=>by
  by_cases hi:i<ks.length
  ·exact hh.2 (hin i hi).2
  ·have:sg ks l.length i=l.length+(i-ks.length):=by rw[sg,Ab hi]
   omega
 obtain⟨S',hS'd⟩:∃S':MS,S'={ w:=S1.w,im:=S1.im,keep:=λb=>S1.keep b/\¬O b,n:=l.length+(l'.length-ks.length),place:=λg=>if g<l.length/\g∉ks then S.place g else S1.place (iv ks l.length g),cur:=λg=>if g<l.length/\g∉ks then S.cur g else S1.cur (iv ks l.length g),cap:=λg=>if g<l.length/\g∉ks then S.cap g else S1.cap (iv ks l.length g),wid:=λg=>if g<l.length/\g∉ks then S.wid g else S1.wid (iv ks l.length g),base:=S1.base }:=⟨_,rfl⟩
 have hoth:∀g,g<l.length->g∉ks->S'.place g=S.place g/\S'.cur g=S.cur g/\S'.cap g=S.cap g/\S'.wid g=S.wid g:=λg h1 h2=>by
  subst hS'd;exact⟨Ae ⟨h1,h2⟩,Ae ⟨h1,h2⟩,Ae ⟨h1,h2⟩,Ae ⟨h1,h2⟩⟩
 have hour:∀i,S'.place (sg ks l.length i)=S1.place i/\S'.cur (sg ks l.length i)=S1.cur i/\S'.cap (sg ks l.length i)=S1.cap i/\S'.wid (sg ks l.length i)=S1.wid i:=λi=>by
  subst hS'd;refine⟨?_,?_,?_,?_⟩<;>simp only[Ab (hnot i),zid hn hk]
 have hn':S'.n=l.length+(l'.length-ks.length):=by subst hS'd;rfl
 have hwS':S'.w=S1.w:=by subst hS'd;rfl
 have hup:∀g,g<S1.n->sg ks l.length g<S'.n/\S'.cur (sg ks l.length g)=S1.cur g/\S'.place (sg ks l.length g)=S1.place g/\S'.cap (sg ks l.length g)=S1.cap g/\S'.wid (sg ks l.length g)=S1.wid g:=λg hg=>by
  obtain⟨a1,a2,a3,a4⟩:=hour g;exact⟨by rw[hn'];exact sg_lt hk (by omega) hml,a2,a1,a3,a4⟩
 have hiS':∀b,S1.im b->S'.im b:=λb hb=>by subst hS'd;exact hb
 have hkS0:∀b,O b->S0.keep b:=λb hb=>by subst hS0d;exact .inr hb
 have hn0:S0.n=ks.length:=by subst hS0d;rfl
 have hevo:Evo S S':=by
  refine⟨?_,?_,?_,?_,?_,λb hb=>?_,λb hb=>?_,λb hb=>?_,λb hb=>?_,?_,λg hg=>?_,λg hg he=>?_⟩
  ·have:=ev.base;subst hS'd;subst hS0d;exact this
  ·have:=ev.os;rw[hw0] at this;rw[hwS'];exact this
  ·have:=ev.tape;rw[hw0] at this;rw[hwS'];exact this
  ·have:=ev.output;rw[hw0] at this;rw[hwS'];exact this
  ·have:=ev.size;rw[hw0] at this;rw[hwS'];exact this
  ·have:=ev.kept b (by subst hS0d;exact hb.imp id .inl);rw[hw0] at this;rw[hwS'];exact this
  ·exact hiS' b (ev.im b (hi0 b hb))
  ·have h1:=ev.keep b (by subst hS0d;exact .inl hb)
   subst hS'd;exact⟨h1,λho=>hOfree b ho (.inr hb)⟩
  ·have h1:=ev.fresh b (by subst hS'd;exact hb)
   subst hS0d;exact h1.imp id λhh h2=>hh (.inl h2)
  ·rw[hn',hSn];omega
  ·rw[hSn] at hg
   by_cases hmem:g∈ks
   ·obtain⟨i,hi,rfl⟩:=z42 (N:=l.length) hmem
    rw[(hour i).2.1];have:=ev.cur i (by rw[hn0];exact hi);subst hS0d;exact this
   ·rw[(hoth g hg hmem).2.1];exact Ad _
  ·rw[hSn] at hg
   by_cases hmem:g∈ks
   ·obtain⟨i,hi,rfl⟩:=z42 (N:=l.length) hmem
    obtain⟨a1,a2,a3,a4⟩:=hour i;rw[a1,a3,a4];rw[a2] at he;have:=ev.same i (by rw[hn0];exact hi) (by subst hS0d;exact he);subst hS0d;exact this
   ·obtain⟨a1,a2,a3,a4⟩:=hoth g hg hmem
    exact⟨a1,a3,a4⟩
 have hlen:(setG ks (l'.map (renG (sg ks l.length))) l).length=l.length+(l'.length-ks.length):=by rw[XC (by simpa using hml)];simp
 have hatO:∀g,g<l.length->g∉ks->(setG ks (l'.map (renG (sg ks l.length))) l).getD g default=l.getD g default:=λg h1 h2=>LI h1 h2
 have hatI:∀i,i<l'.length->(setG ks (l'.map (renG (sg ks l.length))) l).getD (sg ks l.length i) default=renG (sg ks l.length) (l'.getD i default):=λi hi=>by
  rw[z41 hn hk (by simpa using hi),Mv hi]
 have hrel':SRel S' (hl (setG ks (l'.map (renG (sg ks l.length))) l)):=by
  have hcov:∀g,g<(setG ks (l'.map (renG (sg ks l.length))) l).length->(g<l.length/\g∉ks)\/∃i,i<l'.length/\sg ks l.length i=g:=λg hg=>by
   by_cases hh:g<l.length/\g∉ks
   ·exact .inl hh
   ·exact .inr (zav hml (by rw[<-hlen];exact hg) hh)
  have hfree1:∀i,i<l'.length->(l'.getD i default).has (S1.cap i)->¬S1.keep (S1.place i):=λi hi hh hkk=>(hS1.grp i hi).has_ni (by rw[Dr];exact hh) (.inr hkk);refine⟨by rw[hn'];exact hlen.symm,λg hg=>?_,λg g' hg hg' hne h1 h2=>?_,λb hb=>?_⟩
  ·rcases hcov g hg with⟨h1,h2⟩|⟨i,hi,rfl⟩
   ·have hr:=hS.grp g h1
    obtain⟨a1,a2,a3,a4⟩:=hoth g h1 h2;rw[Dr] at hr ⊢;rw[hatO g h1 h2]
    have hblk:(l.getD g default).has (S.cap g)->S'.w.heap[S.place g]? = S.w.heap[S.place g]? := λhh=>by
     have:=ev.kept (S.place g) (.inr (hkS0 _ ((hO _).2 ⟨g,h1,h2,hh,rfl⟩)));rw[hw0] at this;rw[hwS'];exact this
    have hnik:(l.getD g default).has (S.cap g)->¬(S'.im (S.place g)\/S'.keep (S.place g)):=λhh hik=>by
     have ho:O (S.place g):=(hO _).2 ⟨g,h1,h2,hh,rfl⟩;rcases hik with hik|hik
     ·rcases ev.fresh (S.place g) (by subst hS'd;exact hik) with h3|h3
      ·exact hOfree _ ho (.inl (by subst hS0d;exact h3))
      ·exact h3 (hkS0 _ ho)
     ·subst hS'd;exact hik.2 ho
    refine⟨by rw[a2];exact hr.ver,by rw[a4];exact hr.wid,λhw hc=>?_,λhw=>by rw[a3];exact hr.len hw,λhw he=>by rw[a3];exact hr.full hw he,λhw he=>?_⟩
    ·rw[a3] at hc
     obtain⟨⟨cells,T,vs,b1,b2,b3,b4⟩,ni⟩:=hr.live hw hc;rw[a1,a3];exact⟨⟨cells,T,vs,by rw[hblk (.inl ⟨hw,hc⟩)];exact b1,b2,b3.mono hevo,b4⟩,hnik (.inl ⟨hw,hc⟩)⟩
    ·obtain⟨⟨es,clock,b1,b2⟩,ni⟩:=hr.mlive hw he
     rw[a1];exact⟨⟨es,clock,by rw[hblk (.inr ⟨hw,he⟩)];exact b1,b2.mono hevo⟩,hnik (.inr ⟨hw,he⟩)⟩
   ·have hr:=hS1.grp i hi
    obtain⟨a1,a2,a3,a4⟩:=hour i;rw[Dr] at hr ⊢;rw[hatI i hi]
    have hnik:¬(S1.im (S1.place i)\/S1.keep (S1.place i))->¬(S'.im (S1.place i)\/S'.keep (S1.place i)):=λhh hik=>by
     subst hS'd;exact hh (hik.imp id λh3=>h3.1)
    refine⟨by rw[a2];exact hr.ver,by rw[a4];exact hr.wid,λhw hc=>?_,λhw=>by rw[a3];have:=hr.len hw;simpa [renG,KG] using this,λhw he=>by rw[a3];have:=hr.full hw he;simpa [renG,KG] using this,λhw he=>?_⟩
    ·rw[a3] at hc
     obtain⟨⟨cells,T,vs,b1,b2,b3,b4⟩,ni⟩:=hr.live hw hc;rw[a1,a3];exact⟨⟨cells,T,vs,by rw[hwS'];exact b1,b2,LH hwS' hiS' hup _ b3,b4⟩,hnik ni⟩
    ·obtain⟨⟨es,clock,b1,b2⟩,ni⟩:=hr.mlive hw he
     rw[a1];exact⟨⟨es,clock,by rw[hwS'];exact b1,LH hwS' hiS' hup _ b2⟩,hnik ni⟩
  ·have hmix:∀g i,g<l.length->g∉ks->i<l'.length->(l.getD g default).has (S.cap g)->(l'.getD i default).has (S1.cap i)->S.place g≠S1.place i:=λg i b1 b2 b3 b4 b5 e=>by
    have h3:=ev.keep _ (hkS0 _ ((hO _).2 ⟨g,b1,b2,b4,rfl⟩));rw[e] at h3;exact hfree1 i b3 b5 h3
   rw[Dr] at h1 h2;rcases hcov g hg with⟨c1,c2⟩|⟨i,hi,rfl⟩<;>rcases hcov g' hg' with⟨d1,d2⟩|⟨j,hj,rfl⟩
   ·rw[hatO g c1 c2,(hoth g c1 c2).2.2.1] at h1
    rw[hatO g' d1 d2,(hoth g' d1 d2).2.2.1] at h2;rw[(hoth g c1 c2).1,(hoth g' d1 d2).1];exact hS.apart g g' c1 d1 hne (by rw[Dr];exact h1) (by rw[Dr];exact h2)
   ·rw[hatO g c1 c2,(hoth g c1 c2).2.2.1] at h1
    rw[hatI j hj,(hour j).2.2.1] at h2;rw[(hoth g c1 c2).1,(hour j).1];exact hmix g j c1 c2 hj h1 h2
   ·rw[hatI i hi,(hour i).2.2.1] at h1
    rw[hatO g' d1 d2,(hoth g' d1 d2).2.2.1] at h2;rw[(hoth g' d1 d2).1,(hour i).1];exact λe=>hmix g' i d1 d2 hi h2 h1 e.symm
   ·rw[hatI i hi,(hour i).2.2.1] at h1
    rw[hatI j hj,(hour j).2.2.1] at h2;rw[(hour i).1,(hour j).1];exact hS1.apart i j hi hj (λe=>hne (by rw[e])) (by rw[Dr];exact h1) (by rw[Dr];exact h2)
  ·rw[hwS']
   refine hS1.im b ?_;subst hS'd;exact hb.imp id λh3=>h3.1
 exact⟨v,S',_,_,he,by rw[hwS'];exact hw1,hevo,hrel',zeg hwS' hiS' hup y hv,hK'⟩
mutual
theorem zaw(σ:Nat->Nat):∀(x:AV),x.pure=true->ren σ x=x
 |.any,_=>rfl
 |.bool _,_=>rfl
 |.int _ _,_=>rfl
 |.str _,_=>rfl
 |.nilS,_=>rfl
 |.nul,_=>rfl
 |.emp,_=>rfl
 |.lst _ _,_=>rfl
 |.full _ _,_=>rfl
 |.cptr _,_=>rfl
 |.nilP,_=>rfl
 |.nilF,_=>rfl
 |.yld _,_=>rfl
 |.map _ _,h=>by cases h
 |.ref _ _ _ _,h=>by cases h
 |.ptr _ _ _ _,h=>by cases h
 |.agg cs,h=>by rw[ren,IS σ cs h]
 |.tup cs,h=>by rw[ren,IS σ cs h]
 |.fn f cs,h=>by rw[ren,IS σ cs h]
theorem IS(σ:Nat->Nat):∀(xs:List AV),Bh xs=true->renL σ xs=xs
 |[],_=>rfl
 |x::xs,h=>by
  simp only[Bh,Ac] at h;rw[renL,zaw σ x h.1,IS σ xs h.2]
end
mutual
theorem Cy(m:Nat):∀(x:AV),x.pure=true->ltV m x
 |.any,_=>trivial
 |.bool _,_=>trivial
 |.int _ _,_=>trivial
 |.str _,_=>trivial
 |.nilS,_=>trivial
 |.nul,_=>trivial
 |.emp,_=>trivial
 |.lst _ _,_=>trivial
 |.full _ _,_=>trivial
 |.cptr _,_=>trivial
 |.nilP,_=>trivial
 |.nilF,_=>trivial
 |.yld _,_=>trivial
 |.map _ _,h=>by cases h
 |.ref _ _ _ _,h=>by cases h
 |.ptr _ _ _ _,h=>by cases h
 |.agg cs,h=>CK m cs h
 |.tup cs,h=>CK m cs h
 |.fn f cs,h=>CK m cs h
theorem CK(m:Nat):∀(xs:List AV),Bh xs=true->ltL m xs
 |[],_=>trivial
 |x::xs,h=>by
  simp only[Bh,Ac] at h;exact⟨Cy m x h.1,CK m xs h.2⟩
end
def renM(σ:Nat->Nat)(xs:List AV):List AV:=renL σ xs
def ltM(m:Nat)(xs:List AV):Prop:=ltL m xs
section
variable {ks:List Nat}{N i m g k v o n w f:Nat}{x:AV}{xs cs:List AV}{e:Bool}{G:Grp}{r l:List Grp}
theorem zie:renL (sg ks N) xs=bif Bh xs then xs else renM (sg ks N) xs:=by
 cases h:Bh xs
 ·rfl
 ·exact IS _ xs h
theorem zmt:ltL m xs=ifB (Bh xs) (ltM m xs):=propext ⟨λh=>.inr h,λh=>h.elim (CK m xs) id⟩
theorem zax:renM (sg ks N) []=[]:=rfl
theorem z43:renM (sg ks N) (x::xs)=ren (sg ks N) x::renM (sg ks N) xs:=rfl
theorem zif:ltM m []=True:=rfl
theorem zay:ltM m (x::xs)=(ltV m x/\ltM m xs):=rfl
theorem zmu:ren (sg ks N) .any=.any:=rfl
theorem zig{b:Bool}:ren (sg ks N) (.bool b)=.bool b:=rfl
theorem zmv{q:IntKind}{z:Int}:ren (sg ks N) (.int q z)=.int q z:=rfl
theorem zmw{s:List UInt8}:ren (sg ks N) (.str s)=.str s:=rfl
theorem zih:ren (sg ks N) .nilS=.nilS:=rfl
theorem zmx:ren (sg ks N) .nul=.nul:=rfl
theorem zmy:ren (sg ks N) .emp=.emp:=rfl
theorem zii:ren (sg ks N) .nilP=.nilP:=rfl
theorem zij:ren (sg ks N) .nilF=.nilF:=rfl
theorem zmz:ren (sg ks N) (.lst w xs)=.lst w xs:=rfl
theorem zik:ren (sg ks N) (.full w xs)=.full w xs:=rfl
theorem zil:ren (sg ks N) (.cptr x)=.cptr x:=rfl
theorem zn0:ren (sg ks N) (.ref g v o n)=.ref (sg ks N g) v o n:=rfl
theorem zn1:ren (sg ks N) (.ptr g v i o)=.ptr (sg ks N g) v i o:=rfl
theorem zn2:ren (sg ks N) (.map g v)=.map (sg ks N g) v:=rfl
theorem zn3:ren (sg ks N) (.agg cs)=.agg (renL (sg ks N) cs):=rfl
theorem zn4:ren (sg ks N) (.tup cs)=.tup (renL (sg ks N) cs):=rfl
theorem re_fn:ren (sg ks N) (.fn f cs)=.fn f (renL (sg ks N) cs):=rfl
theorem zn5:ltV m .any=True:=rfl
theorem zim{b:Bool}:ltV m (.bool b)=True:=rfl
theorem zn6{q:IntKind}{z:Int}:ltV m (.int q z)=True:=rfl
theorem zn7{s:List UInt8}:ltV m (.str s)=True:=rfl
theorem zin:ltV m .nilS=True:=rfl
theorem zn8:ltV m .nul=True:=rfl
theorem zn9:ltV m .emp=True:=rfl
theorem zio:ltV m .nilP=True:=rfl
theorem ziq:ltV m .nilF=True:=rfl
theorem zna:ltV m (.lst w xs)=True:=rfl
theorem zir:ltV m (.full w xs)=True:=rfl
theorem zis:ltV m (.cptr x)=True:=rfl
theorem znb:ltV m (.ref g v o n)=(g<m):=rfl
theorem znc:ltV m (.ptr g v i o)=(g<m):=rfl
theorem znd:ltV m (.map g v)=(g<m):=rfl
theorem zne:ltV m (.agg cs)=ltL m cs:=rfl
theorem znf:ltV m (.tup cs)=ltL m cs:=rfl
theorem lv_fn:ltV m (.fn f cs)=ltL m cs:=rfl
theorem sg_eq:sg ks N i=if i<ks.length then ks.getD i 0 else N+(i-ks.length):=rfl
theorem reG{σ:Nat->Nat}:renG σ ⟨w,v,e,xs⟩=⟨w,v,e,renL σ xs⟩:=rfl
theorem zng:setG [] r l=l++r:=rfl
theorem z44:setG (k::ks) (G::r) l=setG ks r (l.set k G):=rfl
end
attribute [push_cast] zie zmt zax z43 zif zay zmu zig zmv zmw zih zmx zmy zii zij zmz zik zil zn0 zn1 zn2 zn3 zn4 re_fn
attribute [push_cast] zn5 zim zn6 zn7 zin zn8 zn9 zio ziq zna zir zis znb znc znd zne znf lv_fn sg_eq reG zng z44 List.set_cons_zero List.set_cons_succ List.getD_cons_zero List.getD_cons_succ
theorem z47{P:Program}{f:Nat}{xs0 xs:List AV}{l0 l:List Grp}{K0 K:AV->A5->Prop}(ks:List Nat)(h:B3 P f xs0 (hl l0) K0)(hn:ks.Nodup)(hk:∀k∈ks,k<l.length)(hxs:renL (sg ks l.length) xs0=xs)
 (hl0:l0.map (renG (sg ks l.length))=ks.map (λk=>l.getD k default)) (hlt:ltL ks.length xs0) (hltG:∀G∈l0,ltL ks.length G.xs)
 (hK:∀y H',K0 y H'->∃l',H'=hl l'/\ks.length<=l'.length/\@nx (ren (sg ks l.length) y) (hl (setG ks (l'.map (renG (sg ks l.length))) l)) ⟨K⟩):@KD P f xs (hl l) ⟨K⟩ :=
 TH ks h hxs hl0 hn hk hlt hltG hK
theorem at_c{P:Program}{f:Nat}{xs0 xs:List AV}{l0 l:List Grp}{K0 K:AV->A5->Prop}(ks:List Nat)(h:B3 P f xs0 (hl l0) K0)(hn:ks.Nodup)(hk:∀k∈ks,k<l.length)
 (hs:renL (sg ks l.length) xs0=xs/\l0.map (renG (sg ks l.length))=ks.map (λk=>l.getD k default)/\ltL ks.length xs0/\∀G∈l0,ltL ks.length G.xs)
 (hK:∀y H',K0 y H'->∃l',H'=hl l'/\ks.length<=l'.length/\@nx (ren (sg ks l.length) y) (hl (setG ks (l'.map (renG (sg ks l.length))) l)) ⟨K⟩):@KD P f xs (hl l) ⟨K⟩ :=
 z47 ks h hn hk hs.1 hs.2.1 hs.2.2.1 hs.2.2.2 hK
section
variable {P:Program}{n b:Nat}{env:Env}{H:A5}
theorem Qr{S:MS}{l2:List Grp}{H1:A5}{ks:List Nat}{val:Nat->Value}(hS:SRel S (hl l2))(hF:∀i,VRel S (rnV b H1 ks 6 (env i)) (val i)):∀{live:List (Nat × AV)},Mt l2 H1 b ks env live->∀i,VRel S (EB live i) (val i)
 |[],_,i=>trivial
 |(t,y)::r,h,i=>by
  show VRel S (if i=t then y else EB r i) _;split
  ·rename_i hit
   subst hit;exact TB (.inl hS) _ h.1 (hF i)
  ·exact Qr hS hF h.2 i
theorem RL:∀(ws:List Nat){S:MS}{l:List Grp}{val:Nat->Value},(∀w∈ws,0<w)->SRel S (hl l)->(∀i,VRel S (env i) (val i))->∃S',S'.w=S.w/\Evo S S'/\SRel S' (hl (l++ws.map IG))/\∀i,VRel S' (env i) (val i)
 |[],S,l,val,_,hS,hF=>⟨S,rfl,.refl S,by simpa using hS,hF⟩
 |w::ws,S,l,val,hw,hS,hF=>by
  have h1:=hS.virt w (hw w (by simp));rw[F3] at h1;obtain⟨S',e1,e2,e3,e4⟩:=RL ws (S:=S.virt w) (l:=l++[IG w]) (λw' h'=>hw w' (by simp[h'])) h1 (λj=>VRel.mono (Evo.virt _) _ (hF j));exact⟨S',e1,(Evo.virt _).trans e2,by simpa using e3,e4⟩
theorem zaz{srcs:List Src}{live:List (Nat × AV)}{heap:List Grp}{S:MS}{val:Nat->Value}(hh:Head b env H srcs live heap)(hbS:b<=S.n)(hS:SRel S H)(hF:∀i,VRel S (env i) (val i)):
 ∃S',S'.w=S.w/\BEvo b S S'/\SRel S' (hl heap)/\∀i,VRel S' (EB live i) (val i):=by
 obtain⟨hb,hh⟩:=hh;have hgn:H.groups.length=H.n:=by simp[A5.groups]
 have hS1:SRel S (hl H.groups):=hS.congr hgn (λg hg=>by
  show H.groups.getD g default=_
  simp[A5.groups,List.getD,hg])
 obtain⟨S2,e1,e2,e3,e4⟩:=RL (Gb H.n srcs).2 (J0 hh.1) hS1 hF;replace hh:=hh.2;generalize hl1:H.groups++(Gb H.n srcs).2.map IG=l1 at *;obtain⟨h1,h2,h3,h4⟩:=hh;have hb1:b<=l1.length:=by rw[<-hl1,Aj];omega
 have hbS2:b<=S2.n:=AJ hbS e2.n;obtain⟨k1,k2⟩:=NT (ks:=(Gb H.n srcs).1) hb1;have hev:=Jz (ks:=(Gb H.n srcs).1) e3 hbS2;have hrel:=(LF (ks:=(Gb H.n srcs).1) 6 e3 hb1 (λk hk=>Nt h1 k hk) (Ip h2)).congr k1 k2;exact⟨S2.repack b (hl l1) (Gb H.n srcs).1,e1,(e2.down hbS).trans hev,HL hrel h4,Qr hrel (λj=>Z7 e3 6 (e4 j)) h3⟩
def Drop(b:Nat)(y:AV)(H:A5)[K:HK]:Prop:=∃srcs y' heap,Head b (EB [(0,y)]) H srcs [(0,y')] heap/\K.f y' (hl heap)
theorem TJ{y:AV}{K:AV->A5->Prop}(srcs:List Src)(y':AV)(heap:List Grp)(h1:Head b (EB [(0,y)]) H srcs [(0,y')] heap)(h2:K y' (hl heap)):@Drop b y H ⟨K⟩:=⟨srcs,y',heap,h1,h2⟩
theorem Oa{f:Nat}{xs:List AV}{l:List Grp}{K:AV->A5->Prop}(h:B3 P f xs (hl l) (λy H'=>@Drop l.length y H' ⟨K⟩)):B3 P f xs (hl l) K :=
 ⟨h.1,λS cargs hS hx=>(h.2 S cargs hS hx).mono λe w' hh=>by
  obtain⟨v,S1,y,H',he,hw,ev,hS1,hv,srcs,y',heap,h1,h2⟩:=hh;have hn:S.n=l.length:=hS.n
  obtain⟨S2,q1,q2,q3,q4⟩:=zaz (S:=S1) (val:=λi=>if i=0 then v else undef) h1 (by rw[<-hn];exact ev.n) hS1 (λi=>by
   show VRel S1 (if i=0 then y else .any) _;split
   ·exact hv
   ·trivial)
  have hb:=(ev.down (b:=l.length) (by omega)).trans q2
  exact⟨v,S2,y',_,he,q1.trans hw,⟨hb.base,hb.os,hb.tape,hb.output,hb.size,hb.kept,hb.im,hb.keep,hb.fresh,by rw[hn];exact hb.n,λg hg=>hb.cur g (by omega),λg hg=>hb.same g (by omega)⟩,q3,q4 0,h2⟩⟩
theorem XD{f m np b:Nat}{xs:List AV}{l:List Grp}{K:AV->A5->Prop}{res:List ARes}{B:AC}(hf:Bj P f xs.length=some ⟨m,np,res,B⟩)(hb:b=l.length)(h:W P m b B (entry xs) (hl l) (Ret P res λy H'=>@Drop b y H' ⟨K⟩)):B3 P f xs (hl l) K:=by
 subst hb;exact Oa (GD hf (W_T h))
end
theorem zb0(env:Env):setL env [] []=env:=rfl
theorem z48(env:Env)(p:Nat)(ps:List Nat)(x:AV)(r:List AV):setL env (p::ps) (x::r)=setL (env.put (some p) x) ps r:=rfl
attribute [push_cast] zb0 z48
section
variable {P:Program}{n b:Nat}{Q:Ex->Env->A5->Prop}
def Qs(P:Program)(n b:Nat)(c:AC)(Q:Ex->Env->A5->Prop):Nat->Env->A5->Prop
 |0,_,_=>False
 |m+1,env,H=>T P n b c env H (Ex.then (Qs P n b c Q m) Q)
theorem TK{c:AC}{d:Code}(hd:E0 P n d=some c){rd:Option Nat}{mm:Nat}(hrd:c.free=true\/rd=none){S0:MS}:∀(m:Nat)(env:Env)(H:A5)(S:MS)(a:Act),BEvo b S0 S->SRel S H->FRel S n env a->Qs P n b c Q m env H ->
 Code.roundsIn (fen rd) mm P d (After S0 n b Q) m a S.w
 |0,_,_,_,_,_,_,_,h=>h.elim
 |m+1,env,H,S,a,e0,hS,hF,h=>by
  rw[Code.roundsIn];refine wpIn_mono (h rd mm hrd d hd S a e0.n hS hF) λe a' w' hh=>?_;obtain⟨S2,env2,H2,z,rfl,e2,hS2,hF2,rfl,hq⟩:=hh;cases z with
  |normal=>exact TK hd hrd m env2 H2 S2 a' (e0.trans e2) hS2 hF2 hq
  |exit id=>exact⟨S2,env2,H2,.exit id,rfl,e0.trans e2,hS2,hF2,rfl,hq⟩
  |ret=>exact⟨S2,env2,H2,.ret,rfl,e0.trans e2,hS2,hF2,rfl,hq⟩
theorem zb1{c:AC}{env:Env}{H:A5}(m:Nat)(h:Qs P n b c Q m env H):T P n b (.loop c) env H Q:=T_of λrd mm hrd code hc hs S a hb hS hF=>by
 cases code<;>simp only[E0,reduceCtorEq,Aq] at hc
 case loop d =>
  obtain⟨x,hx,hh⟩:=Ag.1 hc;cases hh;exact wpIn_loop_rounds m (TK hx hrd m env H S a (.refl hb) hS hF h)
 case region=>exact absurd hc Dj
 case seq=>split at hc<;>cases hc
 case cond=>split at hc<;>cases hc
 case block=>obtain⟨_,_,h⟩:=Ag.1 hc;cases h
 case rangeFunc=>split at hc<;>cases hc
 case scope d=>exact absurd rfl (hs d)
theorem TL{c:AC}{env:Env}{H:A5}(m:Nat)(h:W P n b c env H (Ex.then (Qs P n b c Q m) Q)):@Kg ⟨T P n b (.loop c) env H Q⟩:=zb1 (m+1) (W_T h)
theorem VE{c:AC}{env:Env}{H:A5}{m:Nat}(h:W P n b c env H (Ex.then (Qs P n b c Q m) Q)):Qs P n b c Q (m+1) env H:=W_T h
end
theorem XE{S:MS}:∀{xs ys:List AV}{vs:List Value},AB S (xs++ys) vs->∃v1 v2,vs=v1++v2/\AB S xs v1
 |[],ys,vs,h=>⟨[],vs,rfl,rfl⟩
 |x::xs,ys,vs,h=>by
  obtain⟨v,r,rfl,h1,h2⟩:=h;obtain⟨v1,v2,rfl,h3⟩:=XE (xs:=xs) (ys:=ys) h2;exact⟨v::v1,v2,rfl,v,v1,rfl,h1,h3⟩
theorem ZK{S:MS}{w v:Nat}{ex:Bool}{xs ys:List AV}(hw:0<w)(hS:SRel S (hl [⟨w,v,ex,xs++ys⟩])):SRel S (hl [⟨w,v,false,xs⟩]):=by
 have h0:GRel S ⟨w,v,ex,xs++ys⟩ 0:=hS.grp 0 (by show 0<1;omega)
 have hg:GRel S ⟨w,v,false,xs⟩ 0:=by
  refine⟨h0.ver,h0.wid,λ_ hc=>?_,λ_=>?_,λ_ h=>(by cases h),λh=>?_⟩
  ·obtain⟨⟨cells,TT,vs,a1,a2,a3,a4⟩,a5⟩:=h0.live hw hc
   obtain⟨v1,v2,rfl,h1⟩:=XE a3;refine⟨⟨cells,TT,v1,a1,a2,h1,λi u hu=>a4 i u ?_⟩,a5⟩;obtain⟨hl1,_⟩:=AI.1 hu;rw[A9 hl1];exact hu
  ·have:=h0.len hw
   simp only[Aj] at this;show xs.length<=_;omega
  ·simp only at h;omega
 refine⟨hS.n,λg hg'=>?_,λg g' a c hne=>?_,hS.im⟩
 ·have hz:g<1:=hg'
  obtain rfl:g=0:=by omega
  exact hg
 ·have a':g<1:=a
  have c':g'<1:=c;omega
theorem TM{P:Program}{f:Nat}{args:List AV}{H:A5}{w v:Nat}{ex:Bool}{xs:List AV}{y0:AV}(hw:0<w)(h:B3 P f args H λy H'=>∃ys,y=y0/\H'=hl [⟨w,v,ex,xs++ys⟩]):B3 P f args H λy H'=>y=y0/\H'=hl [⟨w,v,false,xs⟩] :=
 ⟨h.1,λS cargs hS hx=>(h.2 S cargs hS hx).mono λe w' hh=>by
  obtain⟨v,S1,y,H',he,hw',ev,hS1,hv,ys,rfl,rfl⟩:=hh
  exact⟨v,S1,_,_,he,hw',ev,ZK hw hS1,hv,rfl,rfl⟩⟩
theorem zit{P:Program}{f:Nat}{xs ys:List AV}{l:List Grp}{K:AV->A5->Prop}(h1:okA 4 ((hl l).only (C3 xs)) xs)(h2:leSL [] (frA 4 ((hl l).only (C3 xs)) xs) ys)(h3:@KD P f ys (hl (Ee 0 (C3 xs) l)) ⟨K⟩):@KD P f xs (hl l) ⟨K⟩ :=
 Qh 4 (C3 xs) (NX h1) (Gm (Kj h2) h3)
def Df(i:Nat)(ks:List Nat):List Grp->List Grp->Prop
 |[],_=>True
 |_::_,[]=>False
 |G::l,G'::l'=>(i∈ks\/G=G')/\Df (i+1) ks l l'
theorem Df.of{ks:List Nat}:∀{i:Nat}{l l':List Grp},Df i ks l l'->l.length<=l'.length/\∀g,i+g∉ks->g<l.length->l'.getD g default=l.getD g default
 |_,[],_,_=>⟨by simp,λg _ h=>absurd h (by simp)⟩
 |_,_::_,[],h=>h.elim
 |i,G::l,G'::l',h=>by
  obtain⟨h1,h2⟩:=Df.of h.2;refine⟨by simpa using h1,λg hg hl=>?_⟩;cases g with
  |zero =>
   rcases h.1 with h3|h3
   ·exact absurd h3 hg
   ·simp[h3]
  |succ g =>
   have:=h2 g (by rwa [show i+1+g=i+(g+1) by omega]) (by simpa using hl);simpa using this
def effB(ks:List Nat):AK->List Grp->List Grp->Prop
 |.app ..,l,l'=>Df 0 ks l l'
 |.mkMap,l,l'=>Df 0 ks l l'
 |.mapSet,l,l'=>Df 0 ks l l'
 |_,_,_=>True
theorem z49{ks:List Nat}{k:AK}{l l':List Grp}(h:effB ks k l l')(h2:k.eff=some 2):l.length<=l'.length/\∀g,g∉ks->g<l.length->l'.getD g default=l.getD g default:=by
 have key:Df 0 ks l l':=by cases k<;>first|exact h|(simp[AK.eff] at h2)
 obtain⟨a,c⟩:=key.of;exact⟨a,λg hg=>c g (by simpa using hg)⟩
def xk(P:Program)(ks:List Nat):List Bool->List AOp->Env->List Grp->(Env->List Grp->Prop)->Prop
 |_,[],env,l,K=>K env l
 |fl,⟨dst,args,none,k⟩::r,env,l,K=>(fl.headD false=true->BX (·∉ks) (args.map (·.eval env)))/\@opG P k l (args.map (·.eval env)) ⟨λx l'=>effB ks k l l'/\xk P ks fl.tail r (env.put dst x) l' K⟩
 |fl,⟨dst,args,some (d,want),k⟩::r,env,l,K=>@FG (env d) want
  ⟨(fl.headD false=true->BX (·∉ks) (args.map (·.eval (env.put (some d) (.bool want)))))/\@opG P k l (args.map (·.eval (env.put (some d) (.bool want)))) ⟨λx l'=>effB ks k l l'/\xk P ks fl.tail r ((env.put (some d) (.bool want)).put dst x) l' K⟩⟩
  ⟨xk P ks fl.tail r ((env.put (some d) (.bool (!want))).put dst (.tup [])) l K⟩ ⟨xk P ks fl.tail r (env.put dst (.tup [])) l K⟩
theorem Ob(P:Program)(ks:List Nat):∀(L:List AOp)(fl:List Bool)(env:Env)(l:List Grp){K:Env->List Grp->Prop},xk P ks fl L env l K->runX P ks fl L env l K
 |[],_,_,_,_,h=>h
 |⟨dst,args,none,k⟩::r,fl,env,l,K,h=>by
  obtain⟨h0,h'⟩:=h;have:=LD h';simp only[runX,He,AOp.vals,Bi];split at this
  ·rename_i he
   rw[Ae he];obtain⟨x,h1,h2⟩:=this;exact⟨h0,x,h1,Ob P ks r _ _ _ h2.2⟩
  ·rename_i he
   rw[Ab he];obtain⟨x,l',b1,b2,b3⟩:=this;exact⟨x,l',b1,b2,z49 b3.1,h0,Ob P ks r _ _ _ b3.2⟩
 |⟨dst,args,some (d,want),k⟩::r,fl,env,l,K,h=>by
  have h':Hd (env d) want ((fl.headD false=true->BX (·∉ks) (args.map (·.eval (env.put (some d) (.bool want)))))/\@opG P k l (args.map (·.eval (env.put (some d) (.bool want)))) ⟨λx l'=>effB ks k l l'/\xk P ks fl.tail r ((env.put (some d) (.bool want)).put dst x) l' K⟩)
   (xk P ks fl.tail r ((env.put (some d) (.bool (!want))).put dst (.tup [])) l K) (xk P ks fl.tail r (env.put dst (.tup [])) l K):=h
  simp only[runX,He,AOp.vals,Bi,A8,Bt];refine Kh (λh1=>?_) (λh1=>Ob P ks r _ _ _ h1) (λh1=>Ob P ks r _ _ _ h1) h';obtain⟨h0,h1⟩:=h1;have:=LD h1;split at this
  ·rename_i he
   obtain⟨x,h1,h2⟩:=this;rw[Ae he];exact⟨h0,x,h1,Ob P ks r _ _ _ h2.2⟩
  ·rename_i he
   rw[Ab he];obtain⟨x,l',b1,b2,b3⟩:=this;exact⟨x,l',b1,b2,z49 b3.1,h0,Ob P ks r _ _ _ b3.2⟩
section
variable {P:Program}{n b:Nat}{Q:Ex->Env->A5->Prop}{ks:List Nat}{env:Env}{l:List Grp}{K:Env->List Grp->Prop}{fl:List Bool}{r:List AOp}{dst:Option Nat}{args:List AArg}{k:AK}
theorem H7{L:List AOp}(ks:List Nat)(h:xk P ks fl L env l λenv' l'=>Q .normal env' (hl l')):@Kg ⟨T P n b (.grx fl L) env (hl l) Q⟩:=T_grx ks (Ob P ks L fl env l h)
theorem Ht{x:AV}{w:Bool}{p p2 q s:HP}(h:p.p=p2.p):@FG x w p q s=@FG x w p2 q s:=by cases p;cases p2;cases h;rfl
theorem xk1:xk P ks fl [] env l K=K env l:=by cases fl<;>rfl
theorem xk2:xk P ks (false::fl) (⟨dst,args,none,k⟩::r) env l K=@opG P k l (args.map (·.eval env)) ⟨λx l'=>effB ks k l l'/\xk P ks fl r (env.put dst x) l' K⟩:=propext ⟨λh=>h.2,λh=>⟨λh0=>(by cases h0),h⟩⟩
theorem xk3:xk P ks (true::fl) (⟨dst,args,none,k⟩::r) env l K=(BX (·∉ks) (args.map (·.eval env))/\@opG P k l (args.map (·.eval env)) ⟨λx l'=>effB ks k l l'/\xk P ks fl r (env.put dst x) l' K⟩):=propext ⟨λh=>⟨h.1 rfl,h.2⟩,λh=>⟨λ_=>h.1,h.2⟩⟩
theorem xk4{d:Nat}{want:Bool}:xk P ks (false::fl) (⟨dst,args,some (d,want),k⟩::r) env l K=@FG (env d) want
 ⟨@opG P k l (args.map (·.eval (env.put (some d) (.bool want)))) ⟨λx l'=>effB ks k l l'/\xk P ks fl r ((env.put (some d) (.bool want)).put dst x) l' K⟩⟩
 ⟨xk P ks fl r ((env.put (some d) (.bool (!want))).put dst (.tup [])) l K⟩ ⟨xk P ks fl r (env.put dst (.tup [])) l K⟩:=Ht (propext ⟨λh=>h.2,λh=>⟨λh0=>(by cases h0),h⟩⟩)
theorem xk5{d:Nat}{want:Bool}:xk P ks (true::fl) (⟨dst,args,some (d,want),k⟩::r) env l K=@FG (env d) want
 ⟨BX (·∉ks) (args.map (·.eval (env.put (some d) (.bool want))))/\@opG P k l (args.map (·.eval (env.put (some d) (.bool want)))) ⟨λx l'=>effB ks k l l'/\xk P ks fl r ((env.put (some d) (.bool want)).put dst x) l' K⟩⟩
 ⟨xk P ks fl r ((env.put (some d) (.bool (!want))).put dst (.tup [])) l K⟩ ⟨xk P ks fl r (env.put dst (.tup [])) l K⟩:=Ht (propext ⟨λh=>⟨h.1 rfl,h.2⟩,λh=>⟨λ_=>h.1,h.2⟩⟩)
variable {l2:List Grp}
theorem xk6{w s:Nat}{z:AV}:effB ks (.app w s z) l l2=Df 0 ks l l2:=rfl
theorem xk7:effB ks .mapSet l l2=Df 0 ks l l2:=rfl
theorem xk8:effB ks .mkMap l l2=Df 0 ks l l2:=rfl
theorem znh  : effB ks (.mv ) l l2=True:=rfl
theorem z4a  : effB ks (.pick ) l l2=True:=rfl
theorem XF{a0:AV}{a1:Nat}:effB ks (.alloc a0 a1) l l2=True:=rfl
theorem zeh  : effB ks (.box ) l l2=True:=rfl
theorem XG{a0:List AV}{a1:List (Nat × Nat)}{a2:List Nat}:effB ks (.build a0 a1 a2) l l2=True:=rfl
theorem TN{a0:Nat}{a1:Nat}{a2:AV}{a3:List Nat}:effB ks (.bslice a0 a1 a2 a3) l l2=True:=rfl
theorem z4b{a0:Bool}{a1:Nat}:effB ks (.load a0 a1) l l2=True:=rfl
theorem XH{a0:Nat}:effB ks (.store a0) l l2=True:=rfl
theorem Oc  : effB ks (.nilCheck ) l l2=True:=rfl
theorem zei{a0:BinOp}:effB ks (.bin a0) l l2=True:=rfl
theorem zej{a0:Bool}:effB ks (.eqb a0) l l2=True:=rfl
theorem zek{a0:Bool}{a1:List Nat}:effB ks (.eqs a0 a1) l l2=True:=rfl
theorem zel{a0:Bool}:effB ks (.eqn a0) l l2=True:=rfl
theorem zni{a0:UnOp}:effB ks (.un a0) l l2=True:=rfl
theorem z4c{a0:IntKind}:effB ks (.conv a0) l l2=True:=rfl
theorem XI  : effB ks (.toStr ) l l2=True:=rfl
theorem TO  : effB ks (.runStr ) l l2=True:=rfl
theorem XJ{a0:Nat}{a1:Bool}{a2:Bool}{a3:Bool}:effB ks (.slice a0 a1 a2 a3) l l2=True:=rfl
theorem XK{a0:Bool}{a1:Nat}{a2:Nat}:effB ks (.faddr a0 a1 a2) l l2=True:=rfl
theorem XL{a0:Bool}{a1:Nat}{a2:Nat}:effB ks (.field a0 a1 a2) l l2=True:=rfl
theorem XM{a0:Nat}:effB ks (.iaddr a0) l l2=True:=rfl
theorem TP{a0:Nat}{a1:Nat}{a2:Bool}:effB ks (.iaddrA a0 a1 a2) l l2=True:=rfl
theorem XN{a0:Nat}{a1:Nat}{a2:Bool}:effB ks (.index a0 a1 a2) l l2=True:=rfl
theorem Od  : effB ks (.indexStr ) l l2=True:=rfl
theorem Qt{a0:Nat}:effB ks (.extract a0) l l2=True:=rfl
theorem zem{a0:Bool}:effB ks (.len a0) l l2=True:=rfl
theorem zen  : effB ks (.max ) l l2=True:=rfl
theorem zeo  : effB ks (.min ) l l2=True:=rfl
theorem Qu{a0:Nat}{a1:Nat}{a2:AV}:effB ks (.mkSlice a0 a1 a2) l l2=True:=rfl
theorem TQ{a0:Nat}:effB ks (.mkFunc a0) l l2=True:=rfl
theorem TR{a0:AV}:effB ks (.mapGet a0) l l2=True:=rfl
theorem z4d  : effB ks (.call ) l l2=True:=rfl
theorem sb1{i:Nat}:Df i ks [] l=True:=rfl
theorem sb2{i:Nat}{G G2:Grp}:Df i ks (G::l) (G2::l2)=((i∈ks\/G=G2)/\Df (i+1) ks l l2):=rfl
end
theorem xx:type_of% (Aa @xk1 <| Aa @xk2 <| Aa @xk3 <| Aa @xk4 <| Aa @xk5 <| Aa @xk6 <| Aa @xk7 <| Aa @xk8 <| Aa @znh <| Aa @z4a <| Aa @XF <| Aa @zeh <| Aa @XG <| Aa @TN <| Aa @z4b <| Aa @XH <| Aa @Oc <| Aa @zei <| Aa @zej <| Aa @zek <| Aa @zel <| Aa @zni <| Aa @z4c <| Aa @XI <| Aa @TO <| Aa @XJ <| Aa @XK <| Aa @XL <| Aa @XM <| Aa @TP <| Aa @XN <| Aa @Od <| Aa @Qt <| Aa @zem <| Aa @zen <| Aa @zeo <| Aa @Qu <| Aa @TQ <| Aa @TR <| Aa @z4d <| Aa @sb1 <| @sb2):=Aa @xk1 <| Aa @xk2 <| Aa @xk3 <| Aa @xk4 <| Aa @xk5 <| Aa @xk6 <| Aa @xk7 <| Aa @xk8 <| Aa @znh <| Aa @z4a <| Aa @XF <| Aa @zeh <| Aa @XG <| Aa @TN <| Aa @z4b <| Aa @XH <| Aa @Oc <| Aa @zei <| Aa @zej <| Aa @zek <| Aa @zel <| Aa @zni <| Aa @z4c <| Aa @XI <| Aa @TO <| Aa @XJ <| Aa @XK <| Aa @XL <| Aa @XM <| Aa @TP <| Aa @XN <| Aa @Od <| Aa @Qt <| Aa @zem <| Aa @zen <| Aa @zeo <| Aa @Qu <| Aa @TQ <| Aa @TR <| Aa @z4d <| Aa @sb1 <| @sb2
theorem zb2{P:Program}{l:List Grp}{xs:List AV}{K:AV->List Grp->Prop}:@opG P .mapSet l xs ⟨K⟩=@opK P .mapSet (hl l) xs ⟨λx H'=>∀l',H'=hl l'->K x l'⟩:=(ZH rfl rfl).trans (by simp only[AK.appOk,Rs,Ey])
attribute [push_cast] zam zb2
def effY(ks:List Nat):AK->List Grp->List Grp->Prop
 |.app ..,l,l'=>Df 0 ks l l'/\(l'.length=l.length\/l.length∈ks/\l'.length=l.length+1)
 |.mkMap,l,l'=>Df 0 ks l l'
 |.mapSet,l,l'=>Df 0 ks l l'
 |.store _,l,l'=>Df 0 ks l l'/\l'.length=l.length
 |_,_,_=>True
theorem LJ{ks:List Nat}{k:AK}{l l':List Grp}(h:effY ks k l l'):((k.eff=some 1\/k.eff=some 2)->l.length<=l'.length/\∀g,g∉ks->g<l.length->l'.getD g default=l.getD g default)/\(k.eff=some 1->l'.length=l.length)/\(k.grows=true->∀g,g∉ks->g<l'.length->g<l.length):=by
 have key:(k.eff=some 1\/k.eff=some 2)->Df 0 ks l l':=λh2=>by cases k<;>first|exact h|exact h.1|(simp[AK.eff] at h2)
 refine⟨λh2=>?_,λh2=>by cases k<;>first|exact h.2|(simp[AK.eff] at h2),λh2 g hg hlt=>?_⟩
 ·obtain⟨a,c⟩:=(key h2).of
  exact⟨a,λg hg=>c g (by simpa using hg)⟩
 ·cases k<;>first|(cases h2;done)|skip
  rcases h.2 with h3|⟨h3,h4⟩
  ·omega
  ·rcases Ak g l.length with h5|h5
   ·exact h5
   ·exact absurd ((show g=l.length by omega) ▸ h3) hg
class KM where
 f:Int->Int->Prop
def twoI(x y:AV)[K:KM]:Prop:=match x,y with
 |.int _ a,.int _ b=>K.f a b
 |_,_=>False
structure KL where
 f:Grp->AV->Prop
def ziu(k:AK)(xs:List AV)(g:Nat)(K:KL):Prop:=match k,xs with
 |.alloc z w,[]=>K.f ⟨w,2,true,[z]⟩ (.ptr g 2 0 0)
 |.box,[y]=>Ez y.cells=true/\0<y.cells.length/\K.f ⟨y.cells.length,2,true,[y]⟩ (.ptr g 2 0 0)
 |.mkSlice w bytes z,[a,b]=>@twoI a b ⟨λl c=>0<=l/\l<=c/\c * bytes<=140737488355328/\K.f ⟨w,2,true,List.replicate c.toNat z⟩ (.ref g 2 0 l.toNat)⟩
 |_,_=>False
theorem zb3{k:AK}{xs:List AV}{g:Nat}{K:KL}(h:ziu k xs g K):∃G x,Vz k xs g G x/\K.f G x:=by
 unfold ziu at h;split at h
 ·exact⟨_,_,⟨rfl,rfl⟩,h⟩
 ·exact⟨_,_,⟨h.1,h.2.1,rfl,rfl⟩,h.2.2⟩
 ·rename_i a b
  cases a<;>cases b<;>try exact h.elim
  obtain⟨h1,h2,h3,h4⟩:=h;exact⟨_,_,⟨h1,h2,h3,rfl,rfl⟩,h4⟩
 ·exact h.elim
def gsOk:List (Option Nat)->List AOp->Bool
 |_,[]=>true
 |gs,o::r=>(match gs.headD none with|some _=>o.guard.isNone&&o.k.laid|none=>!o.k.laid)&&gsOk gs.tail r
def xy(P:Program)(ks:List Nat):List (Option Nat)->List Bool->List AOp->Env->List Grp->(Env->List Grp->Prop)->Prop
 |_,_,[],env,l,K=>K env l
 |gs,fl,⟨dst,args,none,k⟩::r,env,l,K=>match gs.headD none with
  |some g=>ziu k (args.map (·.eval env)) g ⟨λG x=>g<l.length/\(hl l).at_ g=⟨G.w,1,true,[]⟩/\g∈ks/\∀l',(hl l).set g G=hl l'->xy P ks gs.tail fl.tail r (env.put dst x) l' K⟩
  |none=>(fl.headD false=true->BX (·∉ks) (args.map (·.eval env)))/\@opG P k l (args.map (·.eval env)) ⟨λx l'=>effY ks k l l'/\xy P ks gs.tail fl.tail r (env.put dst x) l' K⟩
 |gs,fl,⟨dst,args,some (d,want),k⟩::r,env,l,K=>@FG (env d) want
  ⟨(fl.headD false=true->BX (·∉ks) (args.map (·.eval (env.put (some d) (.bool want)))))/\@opG P k l (args.map (·.eval (env.put (some d) (.bool want)))) ⟨λx l'=>effY ks k l l'/\xy P ks gs.tail fl.tail r ((env.put (some d) (.bool want)).put dst x) l' K⟩⟩
  ⟨xy P ks gs.tail fl.tail r ((env.put (some d) (.bool (!want))).put dst (.tup [])) l K⟩ ⟨xy P ks gs.tail fl.tail r (env.put dst (.tup [])) l K⟩
theorem Mw(P:Program)(ks:List Nat):∀(L:List AOp)(gs:List (Option Nat))(fl:List Bool)(env:Env)(l:List Grp){K:Env->List Grp->Prop},gsOk gs L=true->xy P ks gs fl L env l K->runY P ks fl L env l K
 |[],_,_,_,_,_,_,h=>by simpa only[xy,runY] using h
 |⟨dst,args,none,k⟩::r,gs,fl,env,l,K,hg,h=>by
  simp only[gsOk,Ac] at hg;simp only[xy] at h;simp only[runY,He,AOp.vals,Bi];cases hh:gs.headD none with
  |some g =>
   rw[hh] at h hg;have hla:k.laid=true:=by simpa using hg.1
   obtain⟨G,x,hG,h1,h2,h3,h4⟩:=zb3 h;rw[Ae hla];exact⟨_,_,⟨g,G,hG,h1,h2,h3,rfl⟩,Mw P ks r _ _ _ _ hg.2 (h4 _ (Hr _ _ _ h1))⟩
  |none =>
   rw[hh] at h hg;have hl:k.laid=false:=by simpa using hg.1
   rw[Ab (by rw[hl];simp)];obtain⟨h0,h'⟩:=h;have:=LD h';split at this
   ·rename_i he
    rw[Ae he];obtain⟨x,h1,h2⟩:=this;exact⟨h0,x,h1,Mw P ks r _ _ _ _ hg.2 h2.2⟩
   ·rename_i he
    rw[Ab he];obtain⟨x,l',b1,b2,b3⟩:=this;exact⟨x,l',b1,b2,(LJ b3.1).1,(LJ b3.1).2.1,(LJ b3.1).2.2,h0,Mw P ks r _ _ _ _ hg.2 b3.2⟩
 |⟨dst,args,some (d,want),k⟩::r,gs,fl,env,l,K,hg,h=>by
  simp only[gsOk,Ac] at hg
  have hl:k.laid=false:=by
   cases hh:gs.headD none with
   |some g=>rw[hh] at hg;simp at hg
   |none=>rw[hh] at hg;simpa using hg.1
  have h':Hd (env d) want ((fl.headD false=true->BX (·∉ks) (args.map (·.eval (env.put (some d) (.bool want)))))/\@opG P k l (args.map (·.eval (env.put (some d) (.bool want)))) ⟨λx l'=>effY ks k l l'/\xy P ks gs.tail fl.tail r ((env.put (some d) (.bool want)).put dst x) l' K⟩)
   (xy P ks gs.tail fl.tail r ((env.put (some d) (.bool (!want))).put dst (.tup [])) l K) (xy P ks gs.tail fl.tail r (env.put dst (.tup [])) l K):=h
  simp only[runY,He,AOp.vals,Bi,A8,Bt];refine Kh (λh1=>?_) (λh1=>Mw P ks r _ _ _ _ hg.2 h1) (λh1=>Mw P ks r _ _ _ _ hg.2 h1) h';rw[Ab (by rw[hl];simp)];obtain⟨h0,h1⟩:=h1;have:=LD h1;split at this
  ·rename_i he
   obtain⟨x,h1,h2⟩:=this;rw[Ae he];exact⟨h0,x,h1,Mw P ks r _ _ _ _ hg.2 h2.2⟩
  ·rename_i he
   rw[Ab he];obtain⟨x,l',b1,b2,b3⟩:=this;exact⟨x,l',b1,b2,(LJ b3.1).1,(LJ b3.1).2.1,(LJ b3.1).2.2,h0,Mw P ks r _ _ _ _ hg.2 b3.2⟩
section
variable {P:Program}{n b:Nat}{Q:Ex->Env->A5->Prop}{ks:List Nat}{gs:List (Option Nat)}{g:Nat}{env:Env}{l:List Grp}{K:Env->List Grp->Prop}{f:Bool}{fl:List Bool}{r:List AOp}{dst:Option Nat}{args:List AArg}{k:AK}
theorem z4e{L:List AOp}(ks:List Nat)(ws:List Nat)(gs:List (Option Nat))(hw:∀w∈ws,0<w)(hg:gsOk gs L=true)(h:xy P ks gs fl L env (l++ws.map IG) λenv' l'=>Q .normal env' (hl l')):@Kg ⟨T P n b (.gry fl L) env (hl l) Q⟩:=V9 ws hw (zku ks (Mw P ks L gs fl env _ hg h))
theorem xy1:xy P ks gs fl [] env l K=K env l:=by simp only[xy]
theorem xy2:xy P ks (none::gs) (false::fl) (⟨dst,args,none,k⟩::r) env l K=@opG P k l (args.map (·.eval env)) ⟨λx l'=>effY ks k l l'/\xy P ks gs fl r (env.put dst x) l' K⟩:=by simp only[xy];exact propext ⟨λh=>h.2,λh=>⟨λh0=>(by cases h0),h⟩⟩
theorem xy3:xy P ks (none::gs) (true::fl) (⟨dst,args,none,k⟩::r) env l K=(BX (·∉ks) (args.map (·.eval env))/\@opG P k l (args.map (·.eval env)) ⟨λx l'=>effY ks k l l'/\xy P ks gs fl r (env.put dst x) l' K⟩):=by simp only[xy];exact propext ⟨λh=>⟨h.1 rfl,h.2⟩,λh=>⟨λ_=>h.1,h.2⟩⟩
theorem xy4{d:Nat}{want:Bool}:xy P ks (none::gs) (false::fl) (⟨dst,args,some (d,want),k⟩::r) env l K=@FG (env d) want
 ⟨@opG P k l (args.map (·.eval (env.put (some d) (.bool want)))) ⟨λx l'=>effY ks k l l'/\xy P ks gs fl r ((env.put (some d) (.bool want)).put dst x) l' K⟩⟩
 ⟨xy P ks gs fl r ((env.put (some d) (.bool (!want))).put dst (.tup [])) l K⟩ ⟨xy P ks gs fl r (env.put dst (.tup [])) l K⟩:=by simp only[xy];exact Ht (propext ⟨λh=>h.2,λh=>⟨λh0=>(by cases h0),h⟩⟩)
theorem xy5{d:Nat}{want:Bool}:xy P ks (none::gs) (true::fl) (⟨dst,args,some (d,want),k⟩::r) env l K=@FG (env d) want
 ⟨BX (·∉ks) (args.map (·.eval (env.put (some d) (.bool want))))/\@opG P k l (args.map (·.eval (env.put (some d) (.bool want)))) ⟨λx l'=>effY ks k l l'/\xy P ks gs fl r ((env.put (some d) (.bool want)).put dst x) l' K⟩⟩
 ⟨xy P ks gs fl r ((env.put (some d) (.bool (!want))).put dst (.tup [])) l K⟩ ⟨xy P ks gs fl r (env.put dst (.tup [])) l K⟩:=by simp only[xy];exact Ht (propext ⟨λh=>⟨h.1 rfl,h.2⟩,λh=>⟨λ_=>h.1,h.2⟩⟩)
theorem xy6{z:AV}{w:Nat}:xy P ks (some g::gs) (f::fl) (⟨dst,[],none,.alloc z w⟩::r) env l K=(g<l.length/\(hl l).at_ g=⟨w,1,true,[]⟩/\g∈ks/\∀l',(hl l).set g ⟨w,2,true,[z]⟩=hl l'->xy P ks gs fl r (env.put dst (.ptr g 2 0 0)) l' K):=by simp only[xy];rfl
theorem xy6b{a:AArg}:xy P ks (some g::gs) (f::fl) (⟨dst,[a],none,.box⟩::r) env l K=(Ez (a.eval env).cells=true/\0<(a.eval env).cells.length/\g<l.length/\(hl l).at_ g=⟨(a.eval env).cells.length,1,true,[]⟩/\g∈ks/\∀l',(hl l).set g ⟨(a.eval env).cells.length,2,true,[a.eval env]⟩=hl l'->xy P ks gs fl r (env.put dst (.ptr g 2 0 0)) l' K):=by simp only[xy];rfl
theorem xy6m{a a':AArg}{w m:Nat}{z:AV}:xy P ks (some g::gs) (f::fl) (⟨dst,[a,a'],none,.mkSlice w m z⟩::r) env l K=@twoI (a.eval env) (a'.eval env) ⟨λi c=>0<=i/\i<=c/\c * m<=140737488355328/\g<l.length/\(hl l).at_ g=⟨w,1,true,[]⟩/\g∈ks/\∀l',(hl l).set g ⟨w,2,true,List.replicate c.toNat z⟩=hl l'->xy P ks gs fl r (env.put dst (.ref g 2 0 i.toNat)) l' K⟩:=by simp only[xy];rfl
theorem XO{k k':IntKind}{a c:Int}{K:Int->Int->Prop}:@twoI (.int k a) (.int k' c) ⟨K⟩=K a c:=rfl
theorem xy7:xy P ks [] fl (⟨dst,args,none,k⟩::r) env l K=xy P ks [none] fl (⟨dst,args,none,k⟩::r) env l K:=by simp only[xy];rfl
theorem xy8{d:Nat}{want:Bool}:xy P ks [] fl (⟨dst,args,some (d,want),k⟩::r) env l K=xy P ks [none] fl (⟨dst,args,some (d,want),k⟩::r) env l K:=by simp only[xy];rfl
variable {l2:List Grp}
theorem zep{w s:Nat}{z:AV}:effY ks (.app w s z) l l2=(Df 0 ks l l2/\(l2.length=l.length\/l.length∈ks/\l2.length=l.length+1)):=rfl
theorem TS:effY ks .mapSet l l2=Df 0 ks l l2:=rfl
theorem XP:effY ks .mkMap l l2=Df 0 ks l l2:=rfl
theorem XQ{s:Nat}:effY ks (.store s) l l2=(Df 0 ks l l2/\l2.length=l.length):=rfl
theorem znj  : effY ks (.mv ) l l2=True:=rfl
theorem z4f  : effY ks (.pick ) l l2=True:=rfl
theorem XR{a0:AV}{a1:Nat}:effY ks (.alloc a0 a1) l l2=True:=rfl
theorem zeq  : effY ks (.box ) l l2=True:=rfl
theorem XS{a0:List AV}{a1:List (Nat × Nat)}{a2:List Nat}:effY ks (.build a0 a1 a2) l l2=True:=rfl
theorem TU{a0:Nat}{a1:Nat}{a2:AV}{a3:List Nat}:effY ks (.bslice a0 a1 a2 a3) l l2=True:=rfl
theorem z4g{a0:Bool}{a1:Nat}:effY ks (.load a0 a1) l l2=True:=rfl
theorem Oe  : effY ks (.nilCheck ) l l2=True:=rfl
theorem zer{a0:BinOp}:effY ks (.bin a0) l l2=True:=rfl
theorem zes{a0:Bool}:effY ks (.eqb a0) l l2=True:=rfl
theorem zet{a0:Bool}{a1:List Nat}:effY ks (.eqs a0 a1) l l2=True:=rfl
theorem zeu{a0:Bool}:effY ks (.eqn a0) l l2=True:=rfl
theorem znk{a0:UnOp}:effY ks (.un a0) l l2=True:=rfl
theorem z4h{a0:IntKind}:effY ks (.conv a0) l l2=True:=rfl
theorem XT  : effY ks (.toStr ) l l2=True:=rfl
theorem TV  : effY ks (.runStr ) l l2=True:=rfl
theorem XU{a0:Nat}{a1:Bool}{a2:Bool}{a3:Bool}:effY ks (.slice a0 a1 a2 a3) l l2=True:=rfl
theorem XV{a0:Bool}{a1:Nat}{a2:Nat}:effY ks (.faddr a0 a1 a2) l l2=True:=rfl
theorem XW{a0:Bool}{a1:Nat}{a2:Nat}:effY ks (.field a0 a1 a2) l l2=True:=rfl
theorem XX{a0:Nat}:effY ks (.iaddr a0) l l2=True:=rfl
theorem TW{a0:Nat}{a1:Nat}{a2:Bool}:effY ks (.iaddrA a0 a1 a2) l l2=True:=rfl
theorem XY{a0:Nat}{a1:Nat}{a2:Bool}:effY ks (.index a0 a1 a2) l l2=True:=rfl
theorem Of  : effY ks (.indexStr ) l l2=True:=rfl
theorem Qv{a0:Nat}:effY ks (.extract a0) l l2=True:=rfl
theorem zev{a0:Bool}:effY ks (.len a0) l l2=True:=rfl
theorem zew  : effY ks (.max ) l l2=True:=rfl
theorem zex  : effY ks (.min ) l l2=True:=rfl
theorem Qw{a0:Nat}{a1:Nat}{a2:AV}:effY ks (.mkSlice a0 a1 a2) l l2=True:=rfl
theorem TX{a0:Nat}:effY ks (.mkFunc a0) l l2=True:=rfl
theorem TY{a0:AV}:effY ks (.mapGet a0) l l2=True:=rfl
theorem z4i  : effY ks (.call ) l l2=True:=rfl
end
theorem yy:type_of% (Aa @xy1 <| Aa @xy2 <| Aa @xy3 <| Aa @xy4 <| Aa @xy5 <| Aa @xy6 <| Aa @xy6b <| Aa @xy6m <| Aa @XO <| Aa @xy7 <| Aa @xy8 <| Aa @zep <| Aa @TS <| Aa @XP <| Aa @XQ <| Aa @znj <| Aa @z4f <| Aa @XR <| Aa @zeq <| Aa @XS <| Aa @TU <| Aa @z4g <| Aa @Oe <| Aa @zer <| Aa @zes <| Aa @zet <| Aa @zeu <| Aa @znk <| Aa @z4h <| Aa @XT <| Aa @TV <| Aa @XU <| Aa @XV <| Aa @XW <| Aa @XX <| Aa @TW <| Aa @XY <| Aa @Of <| Aa @Qv <| Aa @zev <| Aa @zew <| Aa @zex <| Aa @Qw <| Aa @TX <| Aa @TY <| Aa @z4i <| Aa @sb1 <| @sb2):=Aa @xy1 <| Aa @xy2 <| Aa @xy3 <| Aa @xy4 <| Aa @xy5 <| Aa @xy6 <| Aa @xy6b <| Aa @xy6m <| Aa @XO <| Aa @xy7 <| Aa @xy8 <| Aa @zep <| Aa @TS <| Aa @XP <| Aa @XQ <| Aa @znj <| Aa @z4f <| Aa @XR <| Aa @zeq <| Aa @XS <| Aa @TU <| Aa @z4g <| Aa @Oe <| Aa @zer <| Aa @zes <| Aa @zet <| Aa @zeu <| Aa @znk <| Aa @z4h <| Aa @XT <| Aa @TV <| Aa @XU <| Aa @XV <| Aa @XW <| Aa @XX <| Aa @TW <| Aa @XY <| Aa @Of <| Aa @Qv <| Aa @zev <| Aa @zew <| Aa @zex <| Aa @Qw <| Aa @TX <| Aa @TY <| Aa @z4i <| Aa @sb1 <| @sb2
def Ent(n b:Nat)(env:Env)(H:A5)(env':Env)(H':A5):Prop:=∀(S:MS)(val:Nat->Value),b<=S.n->SRel S H->(∀i,i<n->VRel S (env i) (val i)) ->
 ∃S',S'.w=S.w/\BEvo b S S'/\SRel S' H'/\∀i,i<n->VRel S' (env' i) (val i)
section
variable {P:Program}{n b:Nat}{env env':Env}{H H':A5}{Q:Ex->Env->A5->Prop}
theorem Ent.refl:Ent n b env H env H:=λS val hb hS hv=>⟨S,rfl,.refl hb,hS,hv⟩
theorem Ent.trans{env2:Env}{H2:A5}(h1:Ent n b env H env' H')(h2:Ent n b env' H' env2 H2):Ent n b env H env2 H2:=λS val hb hS hv=>by
 obtain⟨S1,a1,a2,a3,a4⟩:=h1 S val hb hS hv;obtain⟨S2,c1,c2,c3,c4⟩:=h2 S1 val a2.n a3 a4;exact⟨S2,c1.trans a1,a2.trans c2,c3,c4⟩
theorem IT{c:AC}(he:Ent n b env H env' H')(h:T P n b c env' H' Q):T P n b c env H Q:=by
 intro rd mm hrd code hc S a hbS hS hF;obtain⟨S',hw,hev,hS',hv⟩:=he S (λi=>a.tmps.getD i undef) hbS hS hF.val;have:=h rd mm hrd code hc S' a hev.n hS' ⟨hF.size,hF.defers.of hev.base hev.size hev.keep hev.fresh (λb hb=>hev.kept b (.inr hb)),hv⟩;rw[hw] at this;exact wpIn_mono this λe a w hh=>hh.trans hev
theorem Kl{σ:Type}(Fact:σ->Prop)(μ:σ->Nat)(envs:σ->Env)(heap:σ->A5){c:AC}(s0:σ)(h0:Fact s0)(he:Ent n b env H (envs s0) (heap s0))
 (round:∀s,Fact s->T P n b c (envs s) (heap s) (Ex.then (λenv' H'=>∃s',Ent n b env' H' (envs s') (heap s')/\Fact s'/\μ s'<μ s) Q)):T P n b (.loop c) env H Q:=by
 refine zec (λs env H=>Fact s/\Ent n b env H (envs s) (heap s)) μ s0 ⟨h0,he⟩ λs env H hI=>?_;refine IT hI.2 (T.mono (round s hI.1) λx env' H' hh=>?_);cases x with
 |normal=>obtain⟨s',k1,k2,k3⟩:=hh;exact⟨s',⟨k2,k1⟩,k3⟩
 |exit id=>exact hh
 |ret=>exact hh
theorem Nu(live:List (Nat × AV))(h:∀p∈live,env p.1=p.2):Ent n b env H (EB live) H:=λS val hb hS hv=>by
 refine⟨S,rfl,.refl hb,hS,λi hi=>?_⟩
 have key:∀(l:List (Nat × AV)),(∀p∈l,env p.1=p.2)->VRel S (EB l i) (val i):=λl=>by
  induction l with
  |nil=>exact λ_=>trivial
  |cons p l ih =>
   intro hp;obtain⟨t,y⟩:=p;show VRel S (if i=t then y else EB l i) _;split
   ·rename_i hit
    subst hit;have e:env i=y:=hp (i,y) (by simp);rw[<-e];exact hv i hi
   ·exact ih λp hp'=>hp p (by simp[hp'])
 exact key live h
mutual
theorem RN:∀x:AV,ren (λg=>g) x=x
 |.any|.bool _|.int _ _|.str _|.nilS|.nul|.emp|.nilP|.nilF|.yld _|.lst _ _|.full _ _|.cptr _|.map _ _|.ref _ _ _ _|.ptr _ _ _ _=>rfl
 |.agg cs=>by rw[ren,IU cs]
 |.tup cs=>by rw[ren,IU cs]
 |.fn f cs=>by rw[ren,IU cs]
theorem IU:∀xs:List AV,renL (λg=>g) xs=xs
 |[]=>rfl
 |x::xs=>by rw[renL,RN x,IU xs]
end
theorem Og{l gar:List Grp}(hb:b<=l.length)(hcl:∀G∈l,ltL l.length G.xs)(hlive:∀i,i<n->ltV l.length (env i)):Ent n b env (hl (l++gar)) env (hl l):=λS val hbS hS hv=>by
 have hn:S.n=l.length+gar.length:=by rw[<-Aj];exact hS.n
 have hat:∀g,g<l.length->(hl (l++gar)).at_ g=(hl l).at_ g:=λg hg=>by
  rw[Dr,Dr];simp[List.getD,A9 hg]
 let S':MS:={ S with n:=l.length }
 have hdown:∀(x:AV){v:Value},ltV l.length x->VRel S x v->VRel S' x v:=λx v hx h=>by
  rw[<-RN x] at h;exact RJ (A:=S') (B:=S) (σ:=λg=>g) (m:=l.length) rfl (λb hb=>hb) (λg hg=>⟨hg,rfl,rfl,rfl,rfl⟩) x hx h
 have hdownL:∀(xs:List AV){vs:List Value},ltL l.length xs->AB S xs vs->AB S' xs vs:=λxs vs hx h=>by
  rw[<-IU xs] at h;exact GE (A:=S') (B:=S) (σ:=λg=>g) (m:=l.length) rfl (λb hb=>hb) (λg hg=>⟨hg,rfl,rfl,rfl,rfl⟩) xs hx h
 refine⟨S',rfl,⟨rfl,rfl,⟨rfl,Ad _⟩,rfl,Ad _,λ_ _=>rfl,λ_ h=>h,λ_ h=>h,λ_ h=>.inl h,hb,λ_ _=>Ad _,λ_ _ _=>⟨rfl,rfl,rfl⟩⟩,⟨rfl,λg hg=>?_,λg g' hg hg' hne hw hw'=>?_,hS.im⟩,λi hi=>hdown _ (hlive i hi) (hv i hi)⟩
 ·have hg':g<l.length:=hg
  have hG:=hS.grp g (by show g<(l++gar).length;rw[Aj];omega);rw[hat g hg'] at hG;have hm:(hl l).at_ g∈l:=by rw[Dr,As,Al hg'];exact BY _
  have hc:=hcl _ hm;refine⟨hG.ver,hG.wid,λhw hcap=>?_,hG.len,hG.full,λhw he=>?_⟩
  ·obtain⟨⟨cells,TT,vs,a1,a2,a3,a4⟩,a5⟩:=hG.live hw hcap
   exact⟨⟨cells,TT,vs,a1,a2,hdownL _ hc a3,a4⟩,a5⟩
  ·obtain⟨⟨es,clock,a1,a2⟩,a5⟩:=hG.mlive hw he
   exact⟨⟨es,clock,a1,hdownL _ hc a2⟩,a5⟩
 ·have hg1:g<l.length:=hg
  have hg2:g'<l.length:=hg';rw[<-hat g hg1] at hw;rw[<-hat g' hg2] at hw';exact hS.apart g g' (by show g<(l++gar).length;rw[Aj];omega) (by show g'<(l++gar).length;rw[Aj];omega) hne hw hw'
theorem RO{l:List Grp}(ws:List Nat)(hw:∀w∈ws,0<w):Ent n b env (hl l) env (hl (l++ws.map IG)):=λS val hbS hS hv=>by
 obtain⟨S',e1,e2,e3,e4⟩:=RL ws (env:=λi=>if i<n then env i else .any) (val:=val) hw hS (λi=>by
  show VRel S (if i<n then env i else .any) _;split
  ·exact hv i (by assumption)
  ·trivial)
 refine⟨S',e1,e2.down hbS,e3,λi hi=>?_⟩;have:=e4 i;simp only[Ae hi] at this;exact this
theorem TZ{l l':List Grp}(h:HJ l l l')(hv:∀i,i<n->leS l (env i) (env' i)):Ent n b env (hl l) env' (hl l'):=λS val hbS hS hval =>
 ⟨S,rfl,.refl hbS,HL hS h,λi hi=>TB (.inl hS) _ (hv i hi) (hval i hi)⟩
theorem VF(i d:Nat)(ks:List Nat)(hok:CJ d (H.only ks) (env i)):Ent n b env H (env.put (some i) (frzV d (H.only ks) (env i))) (H.kill ks):=λS val hbS hS hv=>by
 refine⟨S.kill H ks,rfl,(FV ks hS).down hbS,Jw ks hS,λj hj=>?_⟩;show VRel _ (if j=i then _ else _) _;split
 ·rename_i hji
  subst hji;exact Jy ks hS d hok (hv j hj)
 ·exact VRel.mono (FV ks hS) _ (hv j hj)
theorem ziv{c:AC}(he:Ent n b env H env' H')(h:@Kg ⟨T P n b c env' H' Q⟩):@Kg ⟨T P n b c env H Q⟩:=IT he h
end
end Go.Proofs.YtflibbceibjddaaGreat.Abs
namespace Go.Proofs.YtflibbceibjddaaGreat
open Abs O1 O2 O3
structure Span where
 lo:Int
 hi:Int
 deriving DecidableEq,Inhabited
structure Part where
 at_:Int
 drop:Int
 take:Int
 up:Int
 deriving DecidableEq,Inhabited
structure Term where
 base:Int
 drop:Int
 take:Int
 up:Int
 sum:Int
 parts:List Part
 deriving DecidableEq,Inhabited
structure Rule where
 from_:Int
 to_:Int
 guards:List (List Span)
 eat:Int
 out:List Term
 deriving DecidableEq,Inhabited
structure H8 where
 from_:Int
 guards:List (List Span)
 out:List Term
 deriving DecidableEq,Inhabited
structure Desc where
 in_:Int
 out:Int
 states:Int
 start:Int
 rules:List Rule
 finals:List H8
 deriving DecidableEq,Inhabited
abbrev Nh(l:List Int):AV:=.lst 1 (l.map (AV.int .i64))
abbrev A6(l:List Int):AV:=.lst 1 (l.map (AV.int .i32))
abbrev C2(s:Span):AV:=.agg [.int .i64 s.lo,.int .i64 s.hi]
abbrev Bg(l:List Span):AV:=.lst 2 (l.map C2)
abbrev Du(l:List (List Span)):AV:=.lst 1 (l.map Bg)
abbrev Ga(p:Part):AV:=.agg [.int .i64 p.at_,.int .i64 p.drop,.int .i64 p.take,.int .i64 p.up]
abbrev GF(l:List Part):AV:=.lst 4 (l.map Ga)
abbrev G0(t:Term):AV:=.agg [.int .i64 t.base,.int .i64 t.drop,.int .i64 t.take,.int .i64 t.up,.int .i64 t.sum,GF t.parts]
abbrev GG(l:List Term):AV:=.lst 6 (l.map G0)
abbrev Hp(r:Rule):AV:=.agg [.int .i64 r.from_,.int .i64 r.to_,Du r.guards,.int .i64 r.eat,GG r.out]
abbrev XZ(f:H8):AV:=.agg [.int .i64 f.from_,Du f.guards,GG f.out]
abbrev FH(l:List Rule):AV:=.lst 5 (l.map Hp)
abbrev G1(l:List H8):AV:=.lst 3 (l.map XZ)
abbrev DV(d:Desc):AV:=.agg [.int .i64 d.in_,.int .i64 d.out,.int .i64 d.states,.int .i64 d.start,FH d.rules,G1 d.finals]
abbrev F5(l:List (List Int)):AV:=.lst 1 (l.map A6)
theorem Cd(l:List Span):Bh (l.map C2)=true:=Ft (λ_=>rfl) l
theorem J1(l:List Part):Bh (l.map Ga)=true:=Ft (λ_=>rfl) l
theorem BQ(l:List (List Span)):Bh (l.map Bg)=true:=Ft (λs=>by simp only[Bg,AV.pure,Cd]) l
theorem Ct(l:List Term):Bh (l.map G0)=true:=Ft (λs=>by simp[G0,AV.pure,Bh,J1]) l
theorem BO(l:List Rule):Bh (l.map Hp)=true:=Ft (λs=>by simp[Hp,AV.pure,Bh,BQ,Ct]) l
theorem Ch(l:List H8):Bh (l.map XZ)=true:=Ft (λs=>by simp[XZ,AV.pure,Bh,BQ,Ct]) l
theorem Bf(l:List Int):Bh (l.map (AV.int .i32))=true:=D9 .i32 _
theorem Ce(l:List (List Int)):Bh (l.map A6)=true:=Ft (λs=>by simp only[A6,AV.pure,D9]) l
attribute [push_cast] Cd J1 BQ Ct BO Ch Ce
end Go.Proofs.YtflibbceibjddaaGreat
