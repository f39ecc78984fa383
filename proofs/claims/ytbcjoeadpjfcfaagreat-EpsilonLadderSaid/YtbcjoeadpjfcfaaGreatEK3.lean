/-
  Parts of the proof that the law holds whatever the input; without conditions.
-/
import Derived.Deep.Slices
import Derived.OpenShut
import Derived.Carry
import Derived.WideShapes
import Derived.ProofKit
import Derived.ChangeOld
import Derived.Test.YtbcjoeadpjfcfaaGreatProg
import Derived.KernelRfl
import Derived.Test.YtbcjoeadpjfcfaaGreatEK2
set_option linter.unusedSimpArgs false
set_option linter.unusedVariables false
namespace Go.Proofs.YtbcjoeadpjfcfaaGreat.Abs
def nx(x:AV)(H:A7)[K:HK]:Prop:=K.f x H
theorem zdg(x:AV)(H:A7)(f:AV->A7->Prop):@nx x H ⟨f⟩=f x H:=(rfl)
class HF (α:Type) where
 f:α->Prop
def optN{α:Type}(o:Option α)[F:HF α]:Prop:=optK o F.f
theorem z0b{α:Type}(x:α)(f:α->Prop):@optN α (some x) ⟨f⟩=f x:=(rfl)
def ifN(c:Bool)[p:HP][q:HP]:Prop:=match c with
 |false=>p.p
 |true=>q.p
theorem z7f{p q:Prop}:@ifN true ⟨p⟩ ⟨q⟩=q:=(rfl)
theorem z0c{p q:Prop}:@ifN false ⟨p⟩ ⟨q⟩=p:=(rfl)
def appN(w bytes:Nat)(s:AV)(news:List AV)(H:A7)[K:HK]:Prop:=Kj w bytes s news H K.f
def slcN(w:Nat)(x:AV)(lo hi mx:Option Int)(H:A7)[K:HK]:Prop:=GX w x lo hi mx H λy=>K.f y H
def nq(x:AV)[K:HQ]:Prop:=K.f x
theorem zdh(x:AV)(f:AV->Prop):@nq x ⟨f⟩=f x:=(rfl)
section
variable {P:Program}{H:A7}{K:AV->A7->Prop}{k:IntKind}{a b c:Int}{x y z:AV}{xs ys cs:List AV}{w s o i g v off len n:Nat}{p q r:Bool}
theorem K_mv:@opK P .mv H [x] ⟨K⟩=@nx x H ⟨K⟩:=(rfl)
theorem zi9:@opK P .pick H [.bool p,x,y] ⟨K⟩=@nx (bif p then x else y) H ⟨K⟩:=(rfl)
theorem zdi:@opK P (.alloc z w) H [] ⟨K⟩=@nx (.ptr H.n 1 0 0) (H.push ⟨w,1,true,[z]⟩) ⟨K⟩:=(rfl)
theorem K_box:@opK P .box H [x] ⟨K⟩=(Gn x.cells=true/\0<x.cells.length/\@nx (.ptr H.n 1 0 0) (H.push ⟨x.cells.length,1,true,[x]⟩) ⟨K⟩):=(rfl)
theorem zdj{zs:List AV}{pl:List (Nat × Nat)}{idx:List Nat}:@opK P (.build zs pl idx) H xs ⟨K⟩=@optN _ (Qu pl idx xs zs) ⟨λcs=>@nx (.agg cs) H ⟨K⟩⟩:=(rfl)
theorem z7g{idx:List Nat}:@opK P (.bslice w len z idx) H xs ⟨K⟩=(Ih w len idx xs/\@nx (.ref H.n 1 0 len) (H.push ⟨w,1,true,FQ idx xs (List.replicate len z)⟩) ⟨K⟩):=(rfl)
theorem z7h:@opK P (.load p s) H [.cptr x] ⟨K⟩=(x.isAny=false/\x.cells.length=s/\(p=false->s=1)/\@nx (DO p 0 s x) H ⟨K⟩):=(rfl)
theorem z7i:@opK P (.load p s) H [.ptr g v i o] ⟨K⟩=((H.at_ g).ver=v/\i<(H.at_ g).xs.length/\((H.at_ g).xs.getD i .any).isAny=false/\((H.at_ g).xs.getD i .any).cells.length=(H.at_ g).w/\0<s/\o+s<=(H.at_ g).w /\
 (p=false->s=1)/\@nx (DO p o s ((H.at_ g).xs.getD i .any)) H ⟨K⟩):=(rfl)
theorem zdk:@opK P (.store s) H [.ptr g v i o,x] ⟨K⟩=((H.at_ g).ver=v/\i<(H.at_ g).xs.length/\0<s/\o+s<=(H.at_ g).w/\x.cells.length=s/\Gn x.cells=true /\
 (s=(H.at_ g).w\/((H.at_ g).xs.getD i .any).isAny=false/\((H.at_ g).xs.getD i .any).cells.length=(H.at_ g).w) /\
 @nx .any (H.set g ⟨(H.at_ g).w,v,(H.at_ g).exact,(H.at_ g).xs.set i (Ki (H.at_ g).w o s ((H.at_ g).xs.getD i .any) x)⟩) ⟨K⟩):=(rfl)
theorem zia:@opK P .nilCheck H [.cptr x] ⟨K⟩=@nx (.cptr x) H ⟨K⟩:=(rfl)
theorem zib:@opK P .nilCheck H [.ptr g v i o] ⟨K⟩=@nx (.ptr g v i o) H ⟨K⟩:=(rfl)
theorem zic{f:Nat}:@opK P .nilCheck H [.fn f xs] ⟨K⟩=@nx (.fn f xs) H ⟨K⟩:=(rfl)
theorem K_add:@opK P (.bin .add) H [.int k a,.int k b] ⟨K⟩=@nx (.int k (k.wrap (a+b))) H ⟨K⟩:=by simp[opK,AJ,binI,nx]
theorem K_sub:@opK P (.bin .sub) H [.int k a,.int k b] ⟨K⟩=@nx (.int k (k.wrap (a-b))) H ⟨K⟩:=by simp[opK,AJ,binI,nx]
theorem K_mul:@opK P (.bin .mul) H [.int k a,.int k b] ⟨K⟩=@nx (.int k (k.wrap (a * b))) H ⟨K⟩:=by simp[opK,AJ,binI,nx]
theorem K_quo:@opK P (.bin .quo) H [.int k a,.int k b] ⟨K⟩=(b≠0/\@nx (.int k (k.wrap (a.tdiv b))) H ⟨K⟩):=by simp[opK,AJ,binI,nx]
theorem K_rem:@opK P (.bin .rem) H [.int k a,.int k b] ⟨K⟩=(b≠0/\@nx (.int k (a.tmod b)) H ⟨K⟩):=by simp[opK,AJ,binI,nx]
theorem K_and:@opK P (.bin .and) H [.int k a,.int k b] ⟨K⟩=@nx (.int k (JS .and k a b)) H ⟨K⟩:=by simp[opK,AJ,binI,nx]
theorem K_or:@opK P (.bin .or) H [.int k a,.int k b] ⟨K⟩=@nx (.int k (JS .or k a b)) H ⟨K⟩:=by simp[opK,AJ,binI,nx]
theorem K_xor:@opK P (.bin .xor) H [.int k a,.int k b] ⟨K⟩=@nx (.int k (JS .xor k a b)) H ⟨K⟩:=by simp[opK,AJ,binI,nx]
theorem z7j:@opK P (.bin .andNot) H [.int k a,.int k b] ⟨K⟩=@nx (.int k (JS .andNot k a b)) H ⟨K⟩:=by simp[opK,AJ,binI,nx]
theorem K_shl{k':IntKind}:@opK P (.bin .shl) H [.int k a,.int k' b] ⟨K⟩=(0<=b/\@nx (.int k (k.wrap (a * 2 ^ (Min.min b.toNat k.bits)))) H ⟨K⟩):=(rfl)
theorem K_shr{k':IntKind}:@opK P (.bin .shr) H [.int k a,.int k' b] ⟨K⟩=(0<=b/\@nx (.int k (a.fdiv (2 ^ (Min.min b.toNat k.bits)))) H ⟨K⟩):=(rfl)
theorem K_eql:@opK P (.bin .eql) H [.int k a,.int k b] ⟨K⟩=@nx (.bool (decide (a=b))) H ⟨K⟩:=by simp[opK,AJ,binI,nx]
theorem K_neq:@opK P (.bin .neq) H [.int k a,.int k b] ⟨K⟩=@nx (.bool (!decide (a=b))) H ⟨K⟩:=by simp[opK,AJ,binI,nx]
theorem K_lss:@opK P (.bin .lss) H [.int k a,.int k b] ⟨K⟩=@nx (.bool (decide (a<b))) H ⟨K⟩:=by simp[opK,AJ,binI,nx]
theorem K_leq:@opK P (.bin .leq) H [.int k a,.int k b] ⟨K⟩=@nx (.bool (decide (a<=b))) H ⟨K⟩:=by simp[opK,AJ,binI,nx]
theorem K_gtr:@opK P (.bin .gtr) H [.int k a,.int k b] ⟨K⟩=@nx (.bool (decide (b<a))) H ⟨K⟩:=by simp[opK,AJ,binI,nx]
theorem K_geq:@opK P (.bin .geq) H [.int k a,.int k b] ⟨K⟩=@nx (.bool (decide (b<=a))) H ⟨K⟩:=by simp[opK,AJ,binI,nx]
theorem zid{s t:List UInt8}:@opK P (.bin .eql) H [.str s,.str t] ⟨K⟩=@nx (.bool (decide (s=t))) H ⟨K⟩:=(rfl)
theorem zie{s t:List UInt8}:@opK P (.bin .neq) H [.str s,.str t] ⟨K⟩=@nx (.bool (!decide (s=t))) H ⟨K⟩:=(rfl)
theorem K_eqb:@opK P (.eqb p) H [.bool q,.bool r] ⟨K⟩=@nx (.bool (if p then !(q == r) else q == r)) H ⟨K⟩:=(rfl)
theorem K_eqs{ks:List Nat}:@opK P (.eqs p ks) H [.agg xs,.agg ys] ⟨K⟩=@optN _ (eqL ks xs ys) ⟨λb=>@nx (.bool (if p then !b else b)) H ⟨K⟩⟩:=(rfl)
theorem z0d:@opK P (.eqn p) H [.nilS,.nilS] ⟨K⟩=@nx (.bool (!p)) H ⟨K⟩:=(rfl)
theorem z0e:@opK P (.eqn p) H [.lst w xs,.nilS] ⟨K⟩=(xs≠[]/\@nx (.bool p) H ⟨K⟩):=(rfl)
theorem z0f:@opK P (.eqn p) H [.ref g v off len,.nilS] ⟨K⟩=(0<len/\@nx (.bool p) H ⟨K⟩):=(rfl)
theorem K_not:@opK P (.un .not) H [.bool p] ⟨K⟩=@nx (.bool (!p)) H ⟨K⟩:=(rfl)
theorem K_neg:@opK P (.un .neg) H [.int k a] ⟨K⟩=@nx (.int k (k.wrap (0-a))) H ⟨K⟩:=(rfl)
theorem zif{k':IntKind}:@opK P (.conv k) H [.int k' a] ⟨K⟩=@nx (.int k (k.wrap a)) H ⟨K⟩:=(rfl)
theorem zdl:@opK P .toStr H [x] ⟨K⟩=(GI H 1 x/\(match x with|.str _=>False|_=>True)/\∃bs:List UInt8,GH H x=some (bs.map λb=>.int .u8 b.toNat)/\@nx (.str bs) H ⟨K⟩):=(rfl)
theorem z7k:@opK P .runStr H [x] ⟨K⟩=(GI H 1 x/\(match x with|.str _=>False|_=>True)/\∃zs:List Int,GH H x=some (zs.map (AV.int .i32))/\@nx (.str (Lq zs)) H ⟨K⟩):=(rfl)
theorem zdm{lo hi mx:Bool}:@opK P (.slice w lo hi mx) H (x::xs) ⟨K⟩=@optN _ (optA lo xs) ⟨λp=>@optN _ (optA hi p.2) ⟨λq=>@optN _ (optA mx q.2) ⟨λr=>r.2=[]/\@slcN w x p.1 q.1 r.1 H ⟨K⟩⟩⟩⟩:=(rfl)
theorem z0g:@opK P (.faddr p off s) H [.cptr x] ⟨K⟩=(x.isAny=false/\off+s<=x.cells.length/\(p=false->s=1)/\0<s/\@nx (.cptr (DO p off s x)) H ⟨K⟩):=(rfl)
theorem z0h:@opK P (.faddr p off s) H [.ptr g v i o] ⟨K⟩=((H.at_ g).ver=v/\@nx (.ptr g v i (o+off)) H ⟨K⟩):=(rfl)
theorem zdn:@opK P (.field p off s) H [.agg cs] ⟨K⟩=(off+s<=cs.length/\(p=false->s=1)/\@nx (DO p off s (.agg cs)) H ⟨K⟩):=(rfl)
theorem z0i{w':Nat}:@opK P (.iaddr w) H [.lst w' xs,.int k a] ⟨K⟩=(w'=w/\0<=a/\a<xs.length/\@nx (.cptr (xs.getD a.toNat .any)) H ⟨K⟩):=(rfl)
theorem z0j:@opK P (.iaddr w) H [.ref g v off len,.int k a] ⟨K⟩=((H.at_ g).ver=v/\(H.at_ g).w=w/\0<=a/\a<len/\@nx (.ptr g v (off+a.toNat) 0) H ⟨K⟩):=(rfl)
theorem Yt:@opK P (.iaddrA n w p) H [.ptr g v i o,.int k a] ⟨K⟩=((H.at_ g).ver=v/\0<=a/\a<n/\@nx (.ptr g v i (o+a.toNat * w)) H ⟨K⟩):=(rfl)
theorem Yu:@opK P (.iaddrA n w p) H [.cptr x,.int k a] ⟨K⟩=(x.isAny=false/\0<=a/\a<n/\n * w<=x.cells.length/\(p=false->w=1)/\0<w/\@nx (.cptr (DO p (a.toNat * w) w x)) H ⟨K⟩):=(rfl)
theorem zdo:@opK P (.index n w p) H [.agg cs,.int k a] ⟨K⟩=(0<=a/\a<n/\n * w<=cs.length/\(p=false->w=1)/\@nx (DO p (a.toNat * w) w (.agg cs)) H ⟨K⟩):=(rfl)
theorem Yv{s:List UInt8}:@opK P .indexStr H [.str s,.int k a] ⟨K⟩=(0<=a/\a<s.length/\@nx (.int .u8 (s.getD a.toNat 0).toNat) H ⟨K⟩):=(rfl)
theorem z0k:@opK P (.extract i) H [.tup xs] ⟨K⟩=(i<xs.length/\@nx (xs.getD i .any) H ⟨K⟩):=(rfl)
theorem z0l:@opK P (.len false) H [.nilS] ⟨K⟩=@nx (.int .i64 0) H ⟨K⟩:=(rfl)
theorem z0m:@opK P (.len false) H [.nul] ⟨K⟩=@nx (.int .i64 0) H ⟨K⟩:=(rfl)
theorem z0n:@opK P (.len false) H [.lst w xs] ⟨K⟩=@nx (.int .i64 xs.length) H ⟨K⟩:=(rfl)
theorem z0o:@opK P (.len false) H [.ref g v off len] ⟨K⟩=@nx (.int .i64 len) H ⟨K⟩:=(rfl)
theorem z0p{s:List UInt8}:@opK P (.len true) H [.str s] ⟨K⟩=@nx (.int .i64 s.length) H ⟨K⟩:=(rfl)
theorem K_app:@opK P (.app w n z) H [x,y] ⟨K⟩=(GI H w y/\@optN _ (GH H y) ⟨λnews=>@appN w n x news H ⟨K⟩⟩):=(rfl)
theorem z7l:@appN w n .nilS xs H ⟨K⟩=(xs.length * n<=140737488355328/\@nx (.ref H.n 1 0 xs.length) (H.push ⟨w,1,xs.isEmpty,xs⟩) ⟨K⟩):=(rfl)
theorem zdp:@appN w n .nul xs H ⟨K⟩=(xs.length * n<=140737488355328/\@nx (.ref H.n 1 0 xs.length) (H.push ⟨w,1,xs.isEmpty,xs⟩) ⟨K⟩):=(rfl)
theorem zdq:@appN w n (.ref g v off len) xs H ⟨K⟩=((H.at_ g).ver=v/\(H.at_ g).w=w/\(len+xs.length) * n<=140737488355328/\off+len<=(H.at_ g).xs.length/\@ifN (!(H.at_ g).exact||(H.at_ g).xs.isEmpty)
 ⟨(off+len+xs.length<=(H.at_ g).xs.length->@nx (.ref g v off (len+xs.length)) (H.set g ⟨w,v,true,(H.at_ g).xs.take (off+len)++xs++(H.at_ g).xs.drop (off+len+xs.length)⟩) ⟨K⟩) /\
  ((H.at_ g).xs.length<off+len+xs.length->@nx (.ref H.n 1 0 (len+xs.length)) (H.push ⟨w,1,false,((H.at_ g).xs.drop off).take len++xs⟩) ⟨K⟩)⟩
 ⟨(off=0\/off+len=(H.at_ g).xs.length)/\(off+len=(H.at_ g).xs.length->@nx (.ref g (v+1) off (len+xs.length)) (H.set g ⟨w,v+1,(H.at_ g).exact&&xs.isEmpty,(H.at_ g).xs++xs⟩) ⟨K⟩) /\
  (off+len<(H.at_ g).xs.length->off+len+xs.length<=(H.at_ g).xs.length/\@nx (.ref g v off (len+xs.length)) (H.set g ⟨w,v,(H.at_ g).exact,(H.at_ g).xs.take (off+len)++xs++(H.at_ g).xs.drop (off+len+xs.length)⟩) ⟨K⟩) /\
  (off≠0->@nx (.ref g (v+1) 0 (len+xs.length)) (H.set g ⟨w,v+1,(H.at_ g).exact&&xs.isEmpty,(H.at_ g).xs.drop off++xs⟩) ⟨K⟩)⟩):=by
 simp only[appN,Kj,ifN];generalize (!(H.at_ g).exact||(H.at_ g).xs.isEmpty)=c;cases c<;>rfl
theorem zdr{w':Nat}{lo hi:Option Int}:@slcN w (.lst w' xs) lo hi none H ⟨K⟩=(w'=w/\0<=lo.getD 0/\lo.getD 0<=hi.getD xs.length/\hi.getD xs.length<=xs.length/\@nx (.lst w' ((xs.take (hi.getD xs.length).toNat).drop (lo.getD 0).toNat)) H ⟨K⟩):=(rfl)
theorem zds{lo hi:Option Int}:@slcN w .nilS lo hi none H ⟨K⟩=((lo=none\/lo=some 0)/\(hi=none\/hi=some 0)/\@nx .nilS H ⟨K⟩):=(rfl)
theorem zdt{lo hi:Option Int}:@slcN w (.ref g v off len) lo hi none H ⟨K⟩=((H.at_ g).ver=v/\(H.at_ g).w=w/\0<w/\0<=lo.getD 0/\lo.getD 0<=hi.getD len/\(hi.getD len<=len\/(H.at_ g).exact=true/\off+hi.getD len<=(H.at_ g).xs.length) /\
 @nx (.ref g v (off+(lo.getD 0).toNat) ((hi.getD len).toNat-(lo.getD 0).toNat)) H ⟨K⟩):=(rfl)
theorem z7m{w':Nat}{lo hi:Option Int}{m:Int}:@slcN w (.lst w' xs) lo hi (some m) H ⟨K⟩=(m=0/\hi=some 0/\(lo=none\/lo=some 0)/\@nx .nul H ⟨K⟩):=(rfl)
theorem z7n{lo hi:Option Int}{m:Int}:@slcN w .nilS lo hi (some m) H ⟨K⟩=(m=0/\hi=some 0/\(lo=none\/lo=some 0)/\@nx .nilS H ⟨K⟩):=(rfl)
theorem z7o{lo hi:Option Int}{m:Int}:@slcN w .nul lo hi (some m) H ⟨K⟩=(m=0/\hi=some 0/\(lo=none\/lo=some 0)/\@nx .nul H ⟨K⟩):=(rfl)
theorem z7p{lo hi:Option Int}{m:Int}:@slcN w (.ref g v off len) lo hi (some m) H ⟨K⟩=(m=0/\hi=some 0/\(lo=none\/lo=some 0)/\@nx .nul H ⟨K⟩):=(rfl)
theorem K_cap:@opK P .cap H [.nilS] ⟨K⟩=@nx (.int .i64 0) H ⟨K⟩:=(rfl)
theorem K_clr{g v off len:Nat}:@opK P (.clr w z) H [.ref g v off len] ⟨K⟩=((H.at_ g).ver=v/\(H.at_ g).w=w/\off+len<=(H.at_ g).xs.length/\@nx (.tup []) (H.set g ⟨w,v,(H.at_ g).exact,(H.at_ g).xs.take off++List.replicate len z++(H.at_ g).xs.drop (off+len)⟩) ⟨K⟩):=(rfl)
theorem zig{m:Nat}{k:IntKind}:@opK P (.appZ w m z) H [.nilS,.int k a] ⟨K⟩=(0<a/\a * m<=140737488355328/\@nx (.ref H.n 1 0 a.toNat) (H.push ⟨w,1,false,List.replicate a.toNat z⟩) ⟨K⟩):=(rfl)
theorem K_max:@opK P .max H [.int k a,.int k b] ⟨K⟩=@nx (.int k (Max.max a b)) H ⟨K⟩:=by simp[opK,AJ,nx]
theorem K_min:@opK P .min H [.int k a,.int k b] ⟨K⟩=@nx (.int k (Min.min a b)) H ⟨K⟩:=by simp[opK,AJ,nx]
theorem z0q{k':IntKind}:@opK P (.mkSlice w n z) H [.int k a,.int k' b] ⟨K⟩=(0<=a/\a<=b/\b * n<=140737488355328/\@nx (.ref H.n 1 0 a.toNat) (H.push ⟨w,1,true,List.replicate b.toNat z⟩) ⟨K⟩):=(rfl)
theorem z7q{f:Nat}:@opK P (.mkFunc f) H xs ⟨K⟩=@nx (.fn f xs) H ⟨K⟩:=(rfl)
theorem zdu:@opK P .mkMap H [] ⟨K⟩=@nx (.map H.n 1) (H.push ⟨0,1,true,[]⟩) ⟨K⟩:=(rfl)
theorem z7r:@opK P (.mapGet z) H [.map g v,.int k a] ⟨K⟩=(k=.i64/\(H.at_ g).ver=v/\(H.at_ g).w=0/\(H.at_ g).exact=true/\@optN _ (D5 z a (H.at_ g).xs) ⟨λy=>@nx y H ⟨K⟩⟩):=(rfl)
theorem z7s:@opK P .mapSet H [.map g v,.int k a,x] ⟨K⟩=(k=.i64/\(H.at_ g).ver=v/\(H.at_ g).w=0/\(H.at_ g).exact=true/\@optN _ (setM a x (H.at_ g).xs) ⟨λys=>@nx .any (H.set g ⟨0,v,true,ys⟩) ⟨K⟩⟩):=(rfl)
theorem Yw:@opK P (.len false) H [.full w xs] ⟨K⟩=@nx (.int .i64 xs.length) H ⟨K⟩:=(rfl)
theorem z0r{w':Nat}:@opK P (.iaddr w) H [.full w' xs,.int k a] ⟨K⟩=(w'=w/\0<=a/\a<xs.length/\@nx (.cptr (xs.getD a.toNat .any)) H ⟨K⟩):=(rfl)
theorem Yx:@opK P (.eqn p) H [.full w xs,.nilS] ⟨K⟩=(xs≠[]/\@nx (.bool p) H ⟨K⟩):=(rfl)
theorem z7t{w':Nat}{lo hi:Option Int}:@slcN w (.full w' xs) lo hi none H ⟨K⟩=(w'=w/\0<=lo.getD 0/\lo.getD 0<=hi.getD xs.length/\hi.getD xs.length<=xs.length/\@nx (.lst w' ((xs.take (hi.getD xs.length).toNat).drop (lo.getD 0).toNat)) H ⟨K⟩):=(rfl)
theorem z0s{w':Nat}{lo hi:Option Int}{m:Int}:@slcN w (.full w' xs) lo hi (some m) H ⟨K⟩=(m=0/\hi=some 0/\(lo=none\/lo=some 0)/\@nx .nul H ⟨K⟩):=(rfl)
theorem z7u{w':Nat}:@appN w n (.full w' xs) ys H ⟨K⟩=(w'=w/\0<ys.length/\(xs.length+ys.length) * n<=140737488355328/\@nx (.ref H.n 1 0 (xs.length+ys.length)) (H.push ⟨w,1,false,xs++ys⟩) ⟨K⟩):=(rfl)
theorem z0t:D5 z a []=some z:=rfl
theorem Yy:D5 z a (.int .i64 b::y::xs)=if b=a then some y else D5 z a xs:=rfl
theorem z7v:setM a x []=some [.int .i64 a,x]:=rfl
theorem z0u:setM a x (.int .i64 b::y::xs)=if b=a then some (.int .i64 b::x::xs) else (setM a x xs).map λr'=>.int .i64 b::y::r':=rfl
theorem zih{f:Nat}:@opK P .call H (.fn f cs::xs) ⟨K⟩=@QB P f (xs++cs) H ⟨K⟩:=(rfl)
end
section
variable {P:Program}{H:A7}{K:AV->Prop}{xs cs:List AV}{z:AV}{w len:Nat}
theorem DU{k:AK}(h:k.still=true):@opQ P k H xs ⟨K⟩=@opK P k H xs ⟨λx _=>K x⟩:=by
 cases k<;>first|(exact propext ⟨λh=>h.2,λh=>⟨rfl,h⟩⟩)|(simp[AK.still] at h)
theorem Q_mv  : @opQ P .mv H xs ⟨K⟩=@opK P .mv H xs ⟨λx _=>K x⟩:=DU rfl
theorem zii  : @opQ P .pick H xs ⟨K⟩=@opK P .pick H xs ⟨λx _=>K x⟩:=DU rfl
theorem zdv{zs:List AV}{pl:List (Nat × Nat)}{idx:List Nat}:@opQ P (.build zs pl idx) H xs ⟨K⟩=@opK P (.build zs pl idx) H xs ⟨λx _=>K x⟩:=DU rfl
theorem zij{a:Bool}{s:Nat}:@opQ P (.load a s) H xs ⟨K⟩=@opK P (.load a s) H xs ⟨λx _=>K x⟩:=DU rfl
theorem Yz  : @opQ P .nilCheck H xs ⟨K⟩=@opK P .nilCheck H xs ⟨λx _=>K x⟩:=DU rfl
theorem Q_bin{op:BinOp}:@opQ P (.bin op) H xs ⟨K⟩=@opK P (.bin op) H xs ⟨λx _=>K x⟩:=DU rfl
theorem Q_eqb{n:Bool}:@opQ P (.eqb n) H xs ⟨K⟩=@opK P (.eqb n) H xs ⟨λx _=>K x⟩:=DU rfl
theorem Q_eqs{n:Bool}{ks:List Nat}:@opQ P (.eqs n ks) H xs ⟨K⟩=@opK P (.eqs n ks) H xs ⟨λx _=>K x⟩:=DU rfl
theorem Q_eqn{n:Bool}:@opQ P (.eqn n) H xs ⟨K⟩=@opK P (.eqn n) H xs ⟨λx _=>K x⟩:=DU rfl
theorem Q_un{op:UnOp}:@opQ P (.un op) H xs ⟨K⟩=@opK P (.un op) H xs ⟨λx _=>K x⟩:=DU rfl
theorem zik{k:IntKind}:@opQ P (.conv k) H xs ⟨K⟩=@opK P (.conv k) H xs ⟨λx _=>K x⟩:=DU rfl
theorem zdw{w:Nat}{lo hi mx:Bool}:@opQ P (.slice w lo hi mx) H xs ⟨K⟩=@opK P (.slice w lo hi mx) H xs ⟨λx _=>K x⟩:=DU rfl
theorem zdx{a:Bool}{o s:Nat}:@opQ P (.faddr a o s) H xs ⟨K⟩=@opK P (.faddr a o s) H xs ⟨λx _=>K x⟩:=DU rfl
theorem zdy{a:Bool}{o s:Nat}:@opQ P (.field a o s) H xs ⟨K⟩=@opK P (.field a o s) H xs ⟨λx _=>K x⟩:=DU rfl
theorem zdz{w:Nat}:@opQ P (.iaddr w) H xs ⟨K⟩=@opK P (.iaddr w) H xs ⟨λx _=>K x⟩:=DU rfl
theorem z7w{n w:Nat}{a:Bool}:@opQ P (.iaddrA n w a) H xs ⟨K⟩=@opK P (.iaddrA n w a) H xs ⟨λx _=>K x⟩:=DU rfl
theorem ze0{n w:Nat}{a:Bool}:@opQ P (.index n w a) H xs ⟨K⟩=@opK P (.index n w a) H xs ⟨λx _=>K x⟩:=DU rfl
theorem Y0  : @opQ P .indexStr H xs ⟨K⟩=@opK P .indexStr H xs ⟨λx _=>K x⟩:=DU rfl
theorem z0v{i:Nat}:@opQ P (.extract i) H xs ⟨K⟩=@opK P (.extract i) H xs ⟨λx _=>K x⟩:=DU rfl
theorem Q_cap:@opQ P .cap H xs ⟨K⟩=@opK P .cap H xs ⟨λx _=>K x⟩:=DU rfl
theorem Q_len{b:Bool}:@opQ P (.len b) H xs ⟨K⟩=@opK P (.len b) H xs ⟨λx _=>K x⟩:=DU rfl
theorem Q_max  : @opQ P .max H xs ⟨K⟩=@opK P .max H xs ⟨λx _=>K x⟩:=DU rfl
theorem Q_min  : @opQ P .min H xs ⟨K⟩=@opK P .min H xs ⟨λx _=>K x⟩:=DU rfl
theorem z7x:@opQ P (.mapGet z) H xs ⟨K⟩=@opK P (.mapGet z) H xs ⟨λx _=>K x⟩:=DU rfl
theorem z7y{f:Nat}:@opQ P (.mkFunc f) H xs ⟨K⟩=@opK P (.mkFunc f) H xs ⟨λx _=>K x⟩:=DU rfl
theorem ze1  : @opQ P .toStr H xs ⟨K⟩=@opK P .toStr H xs ⟨λx _=>K x⟩:=DU rfl
theorem z7z  : @opQ P .runStr H xs ⟨K⟩=@opK P .runStr H xs ⟨λx _=>K x⟩:=DU rfl
theorem ze2{f:Nat}:@opQ P .call H (.fn f cs::xs) ⟨K⟩=@z7d P f (xs++cs) H ⟨K⟩:=(rfl)
theorem Q_bsl{idx:List Nat}:@opQ P (.bslice w len z idx) H xs ⟨K⟩=(Ih w len idx xs/\0<w/\AT (FQ idx xs (List.replicate len z))=true/\@nq (.full w (FQ idx xs (List.replicate len z))) ⟨K⟩):=(rfl)
end
section
variable {H:A7}{G:Grp}{g j:Nat}
end
section
variable {P:Program}{H:A7}{env:Env}{K:List AV->Prop}{l:List ARes}{t s:Nat}{a:Bool}
theorem ze3:resK P [] env H K=K []:=(rfl)
theorem z80:resK P (.slot t::l) env H K=resK P l env H λxs=>K (env t::xs):=(rfl)
theorem z81:resK P (.cell t a s::l) env H K=@opK P (.load a s) H [env t] ⟨λx _=>resK P l env H λxs=>K (x::xs)⟩:=(rfl)
end
theorem Wg{p:Prop}[Decidable p](h:p):true=decide p:=(Ba h).symm
theorem Wh{p:Prop}[Decidable p](h:¬p):false=decide p:=(By h).symm
theorem Ni{p q:Prop}[Decidable p][Decidable q](h:p↔q):decide p=decide q:=DC.2 h
theorem getD_map{α:Type}[Inhabited α](f:α->AV)(l:List α)(i:Nat):(l.map f).getD i .any=if i<l.length then f (l.getD i default) else .any:=by
 by_cases h:i<l.length<;>simp[List.getD,h]
def nth{α:Type}[Inhabited α](l:List α)(i:Nat):α:=l.getD i default
theorem z0w{α:Type}[Inhabited α](f:α->AV)(l:List α)(i:Nat)(h:i<l.length):(l.map f).getD i .any=f (nth l i):=by rw[getD_map,Ai h];rfl
theorem z82{α:Type}(f:α->AV)(l:List α)(i:Nat):(l.map f).drop i=(l.drop i).map f:=List.map_drop.symm
theorem z83{α:Type}(f:α->AV)(l:List α)(i:Nat):(l.map f).take i=(l.take i).map f:=List.map_take.symm
theorem G6{α:Type}{f:α->AV}(h:∀x,(f x).pure=true):∀l:List α,AT (l.map f)=true
 |[]=>rfl
 |x::l=>by simp[AT,h x,G6 h l]
theorem Cv(k:IntKind)(l:List Int):AT (l.map (AV.int k))=true:=G6 (λ_=>rfl) l
theorem z0x(k:IntKind)(l:List Int):AT (l.map λx=>AV.int k x)=true:=G6 (λ_=>rfl) l
theorem z0y(l:List Bool):AT (l.map AV.bool)=true:=G6 (λ_=>rfl) l
attribute [push_cast] z34 z35 z36 zdu z7r z7s Yw z0r Yx z7t z0s z7u z0t Yy z7v z0u z7x
attribute [push_cast] K_clr zig K_cap Q_cap zdg zdh z0b z7f z0c z7l zdp zdq zdr zds zdt z7m z7n z7o z7p K_mv zi9 zdi K_box zdj z7g z7h z7i zdk zia zib zic K_add K_sub K_mul K_quo K_rem K_and K_or K_xor z7j K_shl K_shr K_eql K_neq K_lss K_leq K_gtr K_geq zid zie K_eqb K_eqs z0d z0e z0f K_not K_neg zif zdl z7k zdm z0g z0h zdn z0i z0j Yt Yu zdo Yv z0k z0l z0m z0n z0o z0p K_app K_max K_min z0q z7q zih Q_mv zii zdv zij Yz Q_bin Q_eqb Q_eqs Q_eqn Q_un zik zdw zdx zdy zdz z7w ze0 Y0 z0v Q_len Q_max Q_min z7y ze1 z7z ze2 Q_bsl
attribute [push_cast] z21 z22 z23 z24 z25 z26 z27 z7a
attribute [push_cast] DO AV.cells AV.isAny Gn AV.one Ki eqL eq1 GI GH Ih FQ Qu optA List.replicate AT AV.pure Ret ze3 z80 z81 resV z82 z83 Cv z0x z0y
def pos:List Nat->Nat->Option Nat
 |[],_=>none
 |k::ks,g=>if g=k then some 0 else (pos ks g).map (·+1)
theorem MH:∀{ks:List Nat}{g j:Nat},pos ks g=some j->j<ks.length/\ks.getD j 0=g
 |[],g,j,h=>by simp[pos] at h
 |k::ks,g,j,h=>by
  rw[pos] at h;split at h
  ·rename_i hk;cases h;exact⟨by simp,by simp[hk]⟩
  ·obtain⟨i,hi,rfl⟩:=Af.1 h
   obtain⟨h1,h2⟩:=MH hi;exact⟨by simp;omega,by simpa using h2⟩
theorem QC:∀{ks:List Nat}{g:Nat},pos ks g=none->g∉ks
 |[],g,_=>by simp
 |k::ks,g,h=>by
  rw[pos] at h;split at h
  ·cases h
  ·rename_i hk
   have:=QC (Option.map_eq_none_iff.1 h);simp[hk,this]
def frzL(w:Nat)(ys:List AV):AV:=bif AT ys then .lst w ys else .any
def frzP(y:AV):AV:=bif y.pure then .cptr y else .any
def rnV(b:Nat)(H:A7)(ks:List Nat):Nat->AV->AV
 |0,x=>bif x.pure then x else .any
 |d+1,.ref g v off len=>if g<b then .ref g v off len else if v=(H.at_ g).ver then
  (match pos ks g with
   |some j=>.ref (b+j) 1 off len
   |none=>if 0<(H.at_ g).w/\off+len<=(H.at_ g).xs.length then frzL (H.at_ g).w ((((H.at_ g).xs.drop off).take len).map (rnV b H ks d)) else .any)
  else .any
 |d+1,.ptr g v i o=>if g<b then .ptr g v i o else if v=(H.at_ g).ver then
  (match pos ks g with
   |some j=>.ptr (b+j) 1 i o
   |none=>if o=0/\i<(H.at_ g).xs.length/\0<(H.at_ g).w then frzP (rnV b H ks d ((H.at_ g).xs.getD i .any)) else .any)
  else .any
 |_+1,.map g v=>if g<b then .map g v else if v=(H.at_ g).ver then (match pos ks g with|some j=>.map (b+j) 1|none=>.any) else .any
 |d+1,.agg cs=>.agg (cs.map (rnV b H ks d))
 |d+1,.tup cs=>.tup (cs.map (rnV b H ks d))
 |d+1,.fn f cs=>.fn f (cs.map (rnV b H ks d))
 |_+1,x=>x
def inv(b:Nat)(ks:List Nat)(j:Nat):Nat:=if j<b then j else ks.getD (j-b) 0
def MS.repack(S:MS)(b:Nat)(H:A7)(ks:List Nat):MS where
 w:=S.w
 im:=λc=>S.im c\/∃g,g<H.n/\b<=g/\g∉ks/\0<(H.at_ g).w/\0<S.cap g/\c=S.place g
 keep:=S.keep
 n:=b+ks.length
 place:=λj=>S.place (inv b ks j)
 cur:=λj=>if j<b then S.cur j else 1
 cap:=λj=>S.cap (inv b ks j)
 wid:=λj=>S.wid (inv b ks j)
 base:=S.base
def A7.repack(H:A7)(b:Nat)(ks:List Nat)(d:Nat):A7:=⟨b+ks.length,λj=>⟨(H.at_ (inv b ks j)).w,if j<b then (H.at_ j).ver else 1,(H.at_ (inv b ks j)).exact,(H.at_ (inv b ks j)).xs.map (rnV b H ks d)⟩⟩
section
variable {S:MS}{H:A7}{b:Nat}{ks:List Nat}
theorem G7{j:Nat}(h:j<b):inv b ks j=j:=Ai h
theorem Uq{j:Nat}:inv b ks (b+j)=ks.getD j 0:=by
 have h1:b+j-b=j:=by omega
 have h2:¬b+j<b:=by omega
 rw[inv,Ah h2,h1]
theorem QD{x:AV}{v:Value}(hx:x.pure=true)(h:VRel S x v):VRel (S.repack b H ks) x v:=VRel.of_pure (S:=S) (S':=S.repack b H ks) rfl (λ_ hb=>.inl hb) hx h
theorem Y1(hS:SRel S H):∀(d:Nat){x:AV}{v:Value},VRel S x v->VRel (S.repack b H ks) (rnV b H ks d x) v
 |0,x,v,h=>by
  rw[rnV];cases hp:x.pure
  ·trivial
  ·exact QD hp h
 |d+1,x,v,h=>by
  have keyL:∀{cs:List AV}{vs:List Value},AI S cs vs->AI (S.repack b H ks) (cs.map (rnV b H ks d)) vs:=by
   intro cs
   induction cs with
   |nil=>intro vs hh;exact hh
   |cons c cs ih =>
    intro vs hh;obtain⟨u,r,rfl,h1,h2⟩:=hh;exact⟨u,r,rfl,Y1 hS d h1,ih h2⟩
  cases x with
  |ref g vn off len =>
   obtain⟨⟨a,c,rfl,ha⟩,hg,hvn,hcur⟩:=h;have hG:=hS.live_of hg;rw[rnV];split
   ·rename_i hgb
    refine⟨⟨a,c,rfl,ha⟩,by show g<b+_;omega,by show vn<=if g<b then _ else _;rw[Ai hgb];exact hvn,λhe=>?_⟩;have he':(if g<b then S.cur g else 1)=vn:=he;rw[Ai hgb] at he';show ∃a cap',_=Value.slice a len cap'/\((a=some ⟨S.place (inv b ks g),off * S.wid (inv b ks g),none⟩/\cap'=S.cap (inv b ks g)-off/\off+len<=S.cap (inv b ks g))\/(len=0/\cap'=0/\S.cap (inv b ks g)<=off));rw[G7 hgb];exact hcur he'
   ·split
    ·rename_i hver
     have hh:=hcur (by rw[hG.ver,hver]);split
     ·rename_i j hj
      obtain⟨h1,h2⟩:=MH hj;refine⟨⟨a,c,rfl,ha⟩,by show b+j<b+_;omega,by show 1<=if b+j<b then _ else 1;rw[Ah (by omega)];exact Ae 1,λ_=>?_⟩;show ∃a cap',_=Value.slice a len cap'/\((a=some ⟨S.place (inv b ks (b+j)),off * S.wid (inv b ks (b+j)),none⟩/\cap'=S.cap (inv b ks (b+j))-off/\off+len<=S.cap (inv b ks (b+j)))\/(len=0/\cap'=0/\S.cap (inv b ks (b+j))<=off));rw[Uq,h2];exact hh
     ·rename_i hb hj
      have hnk:=QC hj;split
      ·rename_i hw
       obtain⟨hw,hol⟩:=hw;unfold frzL;cases hpu:AT ((((H.at_ g).xs.drop off).take len).map (rnV b H ks d))
       ·trivial
       ·obtain⟨a',cap',hv,hcase⟩:=hh
        obtain⟨rfl,-,rfl⟩:a=a'/\len=len/\c=cap':=by cases hv;exact⟨rfl,rfl,rfl⟩
        have hl:((((H.at_ g).xs.drop off).take len).map (rnV b H ks d)).length=len:=by simp;omega
        show VRel _ (.lst _ _) _
        have hnone:a=none->c=0:=λhn=>by
         rcases hcase with⟨rfl,_⟩|⟨_,hh,_⟩
         ·cases hn
         ·exact hh
        by_cases hc0:S.cap g=0
        ·have hlen:=hG.len hw
         have hnil:((H.at_ g).xs.drop off).take len=[]:=Az (by simp;omega);simp only[hnil,BF] at hl ⊢;exact⟨rfl,hw,a,c,[],by rw[<-hl],⟨AD _,hnone⟩,rfl,λhne=>absurd rfl hne⟩
        obtain⟨⟨cells,TT,us,hb2,hcs,hus,hfl⟩,_⟩:=hG.live hw (by omega);refine⟨hpu,hw,a,c,_,by rw[hl],⟨?_,hnone⟩,keyL ((hus.drop off).take len),λhne=>?_⟩
        ·rw[hl];rcases hcase with⟨_,c2,c3⟩|⟨c1,c2,_⟩<;>omega
        ·rcases hcase with⟨rfl,_,_⟩|⟨c1,_,_⟩
         ·refine⟨_,_,rfl,.inr ⟨g,by rw[<-hS.n];exact hg,by omega,hnk,hw,by omega,rfl⟩,λj u hu=>?_⟩
          rw[Cu] at hu;split at hu
          ·rw[Cl] at hu
           have:=hfl.row hb2 (off+j) u hu;rw[Bn,AS] at this;rw[hG.wid];exact this
          ·cases hu
         ·exact absurd (Az (by rw[hl];exact c1)) hne
      ·trivial
    ·trivial
  |ptr g vn i o =>
   obtain⟨⟨a,rfl⟩,hg,hvn,hcur⟩:=h;have hG:=hS.live_of hg;rw[rnV];split
   ·rename_i hgb
    refine⟨⟨a,rfl⟩,by show g<b+_;omega,by show vn<=if g<b then _ else _;rw[Ai hgb];exact hvn,λhe=>?_⟩;have he':(if g<b then S.cur g else 1)=vn:=he;rw[Ai hgb] at he';show _=Value.pointer (some ⟨S.place (inv b ks g),i * S.wid (inv b ks g)+o,none⟩);rw[G7 hgb];exact hcur he'
   ·split
    ·rename_i hver
     have hh:=hcur (by rw[hG.ver,hver]);split
     ·rename_i j hj
      obtain⟨h1,h2⟩:=MH hj;refine⟨⟨a,rfl⟩,by show b+j<b+_;omega,by show 1<=if b+j<b then _ else 1;rw[Ah (by omega)];exact Ae 1,λ_=>?_⟩;show _=Value.pointer (some ⟨S.place (inv b ks (b+j)),i * S.wid (inv b ks (b+j))+o,none⟩);rw[Uq,h2];exact hh
     ·rename_i hb hj
      have hnk:=QC hj;split
      ·rename_i hc
       obtain⟨rfl,hi,hw⟩:=hc;unfold frzP;cases hpu:(rnV b H ks d ((H.at_ g).xs.getD i .any)).pure
       ·trivial
       ·show VRel _ (.cptr _) _
        obtain⟨u,hu,hl⟩:=hG.elem hw hi;have k1:=Y1 hS d hu;refine⟨hpu,S.place g,i * (H.at_ g).w,u,?_,.inr ⟨g,by rw[<-hS.n];exact hg,by omega,hnk,hw,by have:=hG.len hw;omega,rfl⟩,k1,?_⟩
        ·rw[hh,hG.wid];rfl
        ·rw[hl.1];exact hl
      ·trivial
    ·trivial
  |agg cs=>obtain⟨vs,rfl,hr⟩:=h;exact⟨vs,rfl,keyL hr⟩
  |tup cs=>obtain⟨vs,rfl,hr⟩:=h;exact⟨vs,rfl,keyL hr⟩
  |fn f cs=>obtain⟨vs,rfl,hr⟩:=h;exact⟨vs,rfl,keyL hr⟩
  |full w xs=>exact QD h.1 h
  |map g vn =>
   obtain⟨⟨a,rfl⟩,hg,hvn,hcur⟩:=h;have hG:=hS.live_of hg;rw[rnV];split
   ·rename_i hgb
    refine⟨⟨a,rfl⟩,by show g<b+_;omega,by show vn<=if g<b then _ else _;rw[Ai hgb];exact hvn,λhe=>?_⟩;have he':(if g<b then S.cur g else 1)=vn:=he;rw[Ai hgb] at he';show _=Value.map (some (S.place (inv b ks g)));rw[G7 hgb];exact hcur he'
   ·split
    ·rename_i hver
     have hh:=hcur (by rw[hG.ver,hver]);split
     ·rename_i j hj
      obtain⟨h1,h2⟩:=MH hj;refine⟨⟨a,rfl⟩,by show b+j<b+_;omega,by show 1<=if b+j<b then _ else 1;rw[Ah (by omega)];exact Ae 1,λ_=>?_⟩;show _=Value.map (some (S.place (inv b ks (b+j))));rw[Uq,h2];exact hh
     ·trivial
    ·trivial
  |lst w xs=>exact QD h.1 h
  |cptr x=>exact QD h.1 h
  |any=>trivial
  |bool _=>exact h
  |int _ _=>exact h
  |str _=>exact h
  |nilS=>exact h
  |nul=>exact h
  |emp=>exact h
  |nilP=>exact h
  |nilF=>exact h
  |yld l=>exact h
theorem JF(hS:SRel S H)(hb:b<=S.n):BEvo b S (S.repack b H ks) where
 base:=rfl
 os:=rfl
 tape:=⟨rfl,Ae _⟩
 output:=rfl
 size:=Ae _
 kept _ _:=rfl
 im _ h:=.inl h
 keep _ h:=h
 fresh c hc:=by
  rcases hc with hc|⟨g,hg,_,_,hw,hcap,rfl⟩
  ·exact .inl hc
  ·exact .inr λhk=>((hS.grp g hg).live hw hcap).2 (.inr hk)
 n:=Fh _ _
 cur g hg:=by show _<=if g<b then S.cur g else 1;rw[Ai hg];exact Ae _
 same g hg _:=by
  show S.place (inv b ks g)=_/\S.cap (inv b ks g)=_/\S.wid (inv b ks g)=_;rw[G7 hg];exact⟨rfl,rfl,rfl⟩
theorem Lw(d:Nat)(hS:SRel S H)(hb:b<=H.n)(hk:∀k∈ks,b<=k/\k<H.n)(hn:ks.Nodup):SRel (S.repack b H ks) (H.repack b ks d):=by
 have keyL:∀{cs:List AV}{vs:List Value},AI S cs vs->AI (S.repack b H ks) (cs.map (rnV b H ks d)) vs:=by
  intro cs
  induction cs with
  |nil=>intro vs hh;exact hh
  |cons c cs ih =>
   intro vs hh;obtain⟨u,r,rfl,h1,h2⟩:=hh;exact⟨u,r,rfl,Y1 hS d h1,ih h2⟩
 have hinv:∀j,j<b+ks.length->inv b ks j<H.n/\(j<b\/b<=inv b ks j/\inv b ks j∈ks):=by
  intro j hj;by_cases hjb:j<b
  ·rw[G7 hjb];exact⟨by omega,.inl hjb⟩
  ·have h1:j-b<ks.length:=by omega
   have:inv b ks j=ks[j-b]:=by simp[inv,hjb,List.getD,Ao h1]
   rw[this];have:=hk _ (Cg h1);exact⟨this.2,.inr ⟨this.1,Cg h1⟩⟩
 refine⟨rfl,λj hj=>?_,λj j' hj hj' hne hw hw'=>?_,λc hc=>?_⟩
 ·obtain⟨h1,h2⟩:=hinv j hj
  have hG:=hS.grp _ h1
  have hni:(H.at_ (inv b ks j)).has (S.cap (inv b ks j))->¬((S.repack b H ks).im (S.place (inv b ks j))\/(S.repack b H ks).keep (S.place (inv b ks j))):=λhq=>by
   have a5:=hG.has_ni hq;rintro ((hi|⟨g,hg,hbg,hnk,hw',hc',he⟩)|hi)
   ·exact a5 (.inl hi)
   ·have hne:inv b ks j≠g:=by
     intro hh;rcases h2 with h2|h2
     ·rw[G7 h2] at hh;omega
     ·exact hnk (hh ▸ h2.2)
    exact hS.apart _ g h1 hg hne hq (.inl ⟨hw',hc'⟩) he
   ·exact a5 (.inr hi)
  refine⟨?_,hG.wid,λhw hc=>?_,λhw=>?_,λhw he=>?_,λhw he=>?_⟩
  ·show (if j<b then S.cur j else 1)=if j<b then (H.at_ j).ver else 1
   split
   ·rename_i hjb;rw[G7 hjb] at hG;exact hG.ver
   ·rfl
  ·obtain⟨⟨cells,TT,us,a1,a2,a3,a4⟩,a5⟩:=hG.live hw hc
   exact⟨⟨cells,TT,us,a1,a2,keyL a3,a4⟩,hni (.inl ⟨hw,hc⟩)⟩
  ·show ((H.at_ (inv b ks j)).xs.map _).length<=_;rw[AM];exact hG.len hw
  ·show ((H.at_ (inv b ks j)).xs.map _).length=_;rw[AM];exact hG.full hw he
  ·obtain⟨⟨es,clock,a1,a2⟩,a5⟩:=hG.mlive hw he
   exact⟨⟨es,clock,a1,keyL a2⟩,hni (.inr ⟨hw,he⟩)⟩
 ·obtain⟨h1,h2⟩:=hinv j hj
  obtain⟨h1',h2'⟩:=hinv j' hj';refine hS.apart _ _ h1 h1' ?_ hw hw';intro hh;rcases h2 with h2|⟨h2,h3⟩<;>rcases h2' with h2'|⟨h2',h3'⟩
  ·rw[G7 h2,G7 h2'] at hh;exact hne hh
  ·rw[G7 h2] at hh;omega
  ·rw[G7 h2'] at hh;omega
  ·have hjb:¬j<b:=λh=>by rw[G7 h] at h2;omega
   have hjb':¬j'<b:=λh=>by rw[G7 h] at h2';omega
   have e1:j-b<ks.length:=by have:j<b+ks.length:=hj;omega
   have e2:j'-b<ks.length:=by have:j'<b+ks.length:=hj';omega
   have f1:inv b ks j=ks[j-b]:=by simp[inv,hjb,List.getD,Ao e1]
   have f2:inv b ks j'=ks[j'-b]:=by simp[inv,hjb',List.getD,Ao e2]
   rw[f1,f2] at hh;have:=(List.getElem_inj hn).1 hh;omega
 ·rcases hc with (hc|⟨g,hg,_,_,hw,hcap,rfl⟩)|hc
  ·exact hS.im c (.inl hc)
  ·exact (hS.grp g hg).lt hw hcap
  ·exact hS.im c (.inr hc)
theorem z84{P:Program}{n:Nat}{c:AC}{env:Env}{Q:Ex->Env->A7->Prop}(ks:List Nat)(d:Nat)(hb:b<=H.n)(hk:∀k∈ks,b<=k/\k<H.n)(hn:ks.Nodup)
 (h:T P n b c (λi=>rnV b H ks d (env i)) (H.repack b ks d) Q):T P n b c env H Q:=by
 intro rd mm hrd code hc S a hbS hS hF;have hev:=JF (ks:=ks) hS hbS;refine wpIn_mono (h rd mm hrd code hc (S.repack b H ks) a (Fh _ _) (Lw d hS hb hk hn) ⟨hF.size,hF.defers.of hev.base hev.size hev.keep hev.fresh (λb hb=>hev.kept b (.inr hb)),λj hj=>Y1 hS d (hF.val j hj)⟩) λe a w hh=>hh.trans (JF hS hbS)
end
theorem Wi:A7.nil=hl []:=by
 simp[A7.nil,hl]
theorem hl_n(l:List Grp):(hl l).n=l.length:=rfl
theorem SRel.congr{S:MS}{H H':A7}(hn:H'.n=H.n)(h:∀g,g<H.n->H'.at_ g=H.at_ g)(hS:SRel S H):SRel S H' :=
 ⟨hS.n.trans hn.symm,λg hg=>by rw[h g (by omega)];exact hS.grp g (by omega),λg g' hg hg' hne hw hw'=>by
  rw[h g (by omega)] at hw;rw[h g' (by omega)] at hw'
  exact hS.apart g g' (by omega) (by omega) hne hw hw',hS.im⟩
theorem BZ.congr{P:Program}{f:Nat}{xs:List AV}{H H':A7}{K:AV->A7->Prop}(hn:H'.n=H.n)(h:∀g,g<H.n->H'.at_ g=H.at_ g)(k:BZ P f xs H' K):BZ P f xs H K :=
 ⟨k.1,λS cargs hS hx=>k.2 S cargs (hS.congr hn h) hx⟩
def A7.groups(H:A7):List Grp:=(List.range H.n).map H.at_
theorem Sn(l:List Grp):(hl l).groups=l:=by
 refine C7 (by simp[A7.groups,hl]) λi h1 h2=>?_;simp[A7.groups,hl,h2]
def Fv:Nat->List Nat->List Grp->List Grp
 |_,_,[]=>[]
 |i,ks,G::l=>(if i∈ks then G.dead else G)::Fv (i+1) ks l
theorem GZ:∀(i:Nat)(ks:List Nat)(l:List Grp),(Fv i ks l).length=l.length
 |_,_,[]=>rfl
 |i,ks,G::l=>by simp[Fv,GZ (i+1) ks l]
theorem JG:∀(i:Nat)(ks:List Nat)(l:List Grp)(g:Nat),g<l.length->(Fv i ks l).getD g default=if i+g∈ks then (l.getD g default).dead else l.getD g default
 |_,_,[],g,h=>by simp at h
 |i,ks,G::l,0,h=>by simp[Fv]
 |i,ks,G::l,g+1,h=>by
  have:=JG (i+1) ks l g (by simpa using h);have e:i+1+g=i+(g+1):=by omega
  rw[e] at this;simpa [Fv] using this
theorem Pk{P:Program}{f:Nat}{xs:List AV}{l:List Grp}{K:AV->A7->Prop}(d:Nat)(ks:List Nat)(hok:∀x∈xs,Ea d ((hl l).only ks) x)(h:BZ P f (xs.map (frzV d ((hl l).only ks))) (hl (Fv 0 ks l)) K):BZ P f xs (hl l) K:=by
 refine QA d ks hok (BZ.congr (H':=hl (Fv 0 ks l)) (by simp[hl,A7.kill,GZ]) (λg hg=>?_) h);show (Fv 0 ks l).getD g default=if g∈ks then (l.getD g default).dead else l.getD g default
 rw[JG 0 ks l g hg,Bn]
def leH(H:A7)(x y:AV):Prop:=∀S v,SRel S H->VRel S x v->VRel S y v
section
variable {H:A7}
theorem z0z{l:List Grp}{g v len:Nat}(hv:(l.getD g default).ver=v)(hw:0<(l.getD g default).w)(hx:(l.getD g default).xs=[])(he:(l.getD g default).exact=true)(hg:g<l.length)(h0:len=0):leH (hl l) .nilS (.ref g v 0 len):=λS u hS hu=>by
 subst h0;have hG:=hS.grp g hg;rw[DT] at hG;have hf:=hG.full hw he;rw[hx] at hf;have hc:S.cap g=0:=hf.symm;have hu':u=.slice none 0 0:=hu;subst hu';exact⟨⟨none,0,rfl,λ_=>rfl⟩,by rw[hS.n];exact hg,by rw[hG.ver,hv];exact Ae _,λ_=>⟨none,0,rfl,.inr ⟨rfl,rfl,by rw[hc];exact Ae _⟩⟩⟩
end
mutual
def leS(l:List Grp):AV->AV->Prop
 |.int k a,y=>(match y with|.int k' b=>k=k'/\a=b|.any=>True|_=>False)
 |.bool a,y=>(match y with|.bool b=>a=b|.any=>True|_=>False)
 |.nilS,y=>(match y with
  |.nilS|.any=>True
  |.lst w ys=>0<w/\ys=[]
  |.ref g v off len=>off=0/\len=0/\(l.getD g default).ver=v/\0<(l.getD g default).w/\(l.getD g default).xs=[]/\(l.getD g default).exact=true/\g<l.length
  |_=>False)
 |.nul,y=>(match y with|.nul|.any=>True|.lst w ys=>0<w/\ys=[]|_=>False)
 |.emp,y=>(match y with|.emp|.any=>True|.lst w ys=>0<w/\ys=[]|_=>False)
 |.lst w xs,y=>(match y with|.lst w' ys=>w=w'/\xs=ys|.any=>True|_=>False)
 |.full w xs,y=>(match y with|.full w' ys=>w=w'/\xs=ys|.lst w' ys=>w=w'/\leSL l xs ys/\AT ys=true|.any=>True|_=>False)
 |.ref g v o n,y=>(match y with|.ref g' v' o' n'=>g=g'/\v=v'/\o=o'/\n=n'|.any=>True|_=>False)
 |.ptr g v o n,y=>(match y with|.ptr g' v' o' n'=>g=g'/\v=v'/\o=o'/\n=n'|.any=>True|_=>False)
 |.agg xs,y=>(match y with|.agg ys=>leSL l xs ys|.any=>True|_=>False)
 |.tup xs,y=>(match y with|.tup ys=>leSL l xs ys|.any=>True|_=>False)
 |x,y=>(match y with|.any=>True|y=>x=y)
def leSL(l:List Grp):List AV->List AV->Prop
 |[],ys=>ys=[]
 |x::xs,ys=>(match ys with|y::ys=>leS l x y/\leSL l xs ys|[]=>False)
end
mutual
theorem So{S:MS}{l:List Grp}(hS:SRel S (hl l)\/l=[]):∀(x:AV){y:AV}{v:Value},leS l x y->VRel S x v->VRel S y v
 |.any,y,v,h,hv=>by cases y<;>simp only[leS,reduceCtorEq] at h;trivial
 |.int k a,y,v,h,hv=>by
  cases y<;>simp only[leS] at h
  ·trivial
  ·obtain⟨rfl,rfl⟩:=h;exact hv
 |.bool a,y,v,h,hv=>by
  cases y<;>simp only[leS] at h
  ·trivial
  ·subst h;exact hv
 |.str s,y,v,h,hv=>by cases y<;>simp only[leS] at h<;>first|trivial|(cases h;done)|(cases h;exact hv)
 |.nilP,y,v,h,hv=>by cases y<;>simp only[leS] at h<;>first|trivial|(cases h;done)|exact hv
 |.nilF,y,v,h,hv=>by cases y<;>simp only[leS] at h<;>first|trivial|(cases h;done)|exact hv
 |.yld l,y,v,h,hv=>by cases y<;>simp only[leS] at h<;>first|trivial|(cases h;done)|(cases h;exact hv)
 |.cptr x,y,v,h,hv=>by cases y<;>simp only[leS] at h<;>first|trivial|(cases h;done)|(cases h;exact hv)
 |.fn f xs,y,v,h,hv=>by cases y<;>simp only[leS] at h<;>first|trivial|(cases h;done)|(cases h;exact hv)
 |.nilS,y,v,h,hv=>by
  cases y<;>simp only[leS] at h
  ·trivial
  ·exact hv
  ·obtain⟨h1,rfl⟩:=h;exact AV.le_nilS h1 S v hv
  ·obtain⟨rfl,rfl,h1,h2,h3,h4,h5⟩:=h
   rcases hS with hS|rfl
   ·exact z0z h1 h2 h3 h4 h5 rfl S v hS hv
   ·exact absurd h5 (Bh _)
 |.nul,y,v,h,hv=>by
  cases y<;>simp only[leS] at h
  ·trivial
  ·exact hv
  ·obtain⟨h1,rfl⟩:=h;exact AV.le_nul h1 S v hv
 |.emp,y,v,h,hv=>by
  cases y<;>simp only[leS] at h
  ·trivial
  ·exact hv
  ·obtain⟨h1,rfl⟩:=h;exact AV.le_emp h1 S v hv
 |.lst w xs,y,v,h,hv=>by
  cases y<;>simp only[leS] at h
  ·trivial
  ·obtain⟨rfl,rfl⟩:=h;exact hv
 |.full w xs,y,v,h,hv=>by
  cases y<;>simp only[leS] at h
  ·trivial
  ·rename_i w' ys
   obtain⟨rfl,h1,hp⟩:=h;obtain⟨_,h0,a,cap,vs,hv,hc,hl,hr⟩:=K2 hv;have hn:=AI.length hl;have hm:=Je hS xs h1 hl;have hln:ys.length=xs.length:=by rw[<-AI.length hm,hn]
   exact⟨hp,h0,a,cap,vs,by rw[hln];exact hv,by rw[hln];exact hc,hm,λhne=>hr λh=>hne (by rw[h] at hln;exact List.length_eq_zero_iff.1 hln)⟩
  ·obtain⟨rfl,rfl⟩:=h;exact hv
 |.map g a,y,v,h,hv=>by cases y<;>simp only[leS] at h<;>first|trivial|(cases h;done)|(cases h;exact hv)
 |.ref g a o n,y,v,h,hv=>by
  cases y<;>simp only[leS] at h
  ·trivial
  ·obtain⟨rfl,rfl,rfl,rfl⟩:=h;exact hv
 |.ptr g a o n,y,v,h,hv=>by
  cases y<;>simp only[leS] at h
  ·trivial
  ·obtain⟨rfl,rfl,rfl,rfl⟩:=h;exact hv
 |.agg xs,y,v,h,hv=>by
  cases y<;>simp only[leS] at h
  ·trivial
  ·obtain⟨vs,rfl,hr⟩:=hv;exact⟨vs,rfl,Je hS xs h hr⟩
 |.tup xs,y,v,h,hv=>by
  cases y<;>simp only[leS] at h
  ·trivial
  ·obtain⟨vs,rfl,hr⟩:=hv;exact⟨vs,rfl,Je hS xs h hr⟩
theorem Je{S:MS}{l:List Grp}(hS:SRel S (hl l)\/l=[]):∀(xs:List AV){ys:List AV}{vs:List Value},leSL l xs ys->AI S xs vs->AI S ys vs
 |[],ys,vs,h,hv=>by rw[show ys=[] from h];exact hv
 |x::xs,[],vs,h,hv=>h.elim
 |x::xs,y::ys,vs,h,hv=>by
  obtain⟨v,r,rfl,h1,h2⟩:=hv;exact⟨v,r,rfl,So hS x h.1 h1,Je hS xs h.2 h2⟩
end
theorem Wj{l:List Grp}:∀{xs ys:List AV},leSL l xs ys->ys.length=xs.length
 |[],ys,h=>by rw[show ys=[] from h]
 |_::_,[],h=>h.elim
 |_::_,_::_,h=>by simp[Wj h.2]
mutual
theorem HN(l:List Grp):∀x:AV,leS l x x
 |.any=>trivial
 |.int _ _=>⟨rfl,rfl⟩
 |.bool _=>rfl
 |.str _=>rfl
 |.nilS=>trivial
 |.nul=>trivial
 |.emp=>trivial
 |.lst _ _=>⟨rfl,rfl⟩
 |.full _ _=>⟨rfl,rfl⟩
 |.map _ _=>rfl
 |.ref ..=>⟨rfl,rfl,rfl,rfl⟩
 |.ptr ..=>⟨rfl,rfl,rfl,rfl⟩
 |.cptr _=>rfl
 |.nilP=>rfl
 |.nilF=>rfl
 |.yld _=>rfl
 |.fn ..=>rfl
 |.agg xs=>Ck l xs
 |.tup xs=>Ck l xs
theorem Ck(l:List Grp):∀xs:List AV,leSL l xs xs
 |[]=>rfl
 |x::xs=>⟨HN l x,Ck l xs⟩
end
theorem zc2{x y:AV}(h:leS [] x y):AV.le x y:=λS v hv=>So (.inr rfl) x h hv
theorem Kr{xs ys:List AV}(h:leSL [] xs ys):leL xs ys:=λS v hv=>Je (.inr rfl) xs h hv
def z1a(l:List Grp)(G G':Grp):Prop:=G.w=G'.w/\G.ver=G'.ver/\(G'.exact=true->G.exact=true)/\leSL l G.xs G'.xs
def Il(l0:List Grp):List Grp->List Grp->Prop
 |[],[]=>True
 |G::l,G'::l'=>z1a l0 G G'/\Il l0 l l'
 |_,_=>False
theorem Lx{l0:List Grp}:∀{l l':List Grp},Il l0 l l'->l'.length=l.length
 |[],[],_=>rfl
 |G::l,G'::l',h=>by simp[Lx h.2]
 |[],_::_,h=>h.elim
 |_::_,[],h=>h.elim
theorem Nj{l0:List Grp}:∀{l l':List Grp},Il l0 l l'->∀g,g<l.length->z1a l0 (l.getD g default) (l'.getD g default)
 |[],[],_,g,hg=>by simp at hg
 |G::l,G'::l',h,0,_=>h.1
 |G::l,G'::l',h,g+1,hg=>by simpa using Nj h.2 g (by simpa using hg)
 |[],_::_,h,_,_=>h.elim
 |_::_,[],h,_,_=>h.elim
theorem Im{S:MS}{l l':List Grp}(hS:SRel S (hl l))(h:Il l l l'):SRel S (hl l'):=by
 have hlen:=Lx h;refine⟨hS.n.trans hlen.symm,λg hg=>?_,λg g' hg hg' hne hw hw'=>?_,hS.im⟩
 ·have hg':g<l.length:=by rw[<-hlen];exact hg
  obtain⟨h1,h2,h3,h5⟩:=Nj h g hg';have h4:(l.getD g default).xs.length=(l'.getD g default).xs.length:=(Wj h5).symm;have hG:=hS.grp g hg';rw[DT] at hG ⊢;refine⟨by rw[<-h2];exact hG.ver,by rw[<-h1];exact hG.wid,λhw hc=>?_,λhw=>by rw[<-h4];exact hG.len (by rw[h1];exact hw),λhw he=>by rw[<-h4];exact hG.full (by rw[h1];exact hw) (h3 he),λhw he=>?_⟩
  rotate_left
  ·obtain⟨⟨es,clock,a1,a2⟩,a5⟩:=hG.mlive (by rw[h1];exact hw) (h3 he)
   exact⟨⟨es,clock,a1,Je (.inl hS) _ h5 a2⟩,a5⟩
  obtain⟨⟨cells,TT,us,a1,a2,a3,a4⟩,a5⟩:=hG.live (by rw[h1];exact hw) hc;exact⟨⟨cells,TT,us,a1,by rw[<-h1];exact a2,Je (.inl hS) _ h5 a3,by rw[<-h1];exact a4⟩,a5⟩
 ·have hg1:g<l.length:=by rw[<-hlen];exact hg
  have hg1':g'<l.length:=by rw[<-hlen];exact hg'
  have key:∀g,g<l.length->((hl l').at_ g).has (S.cap g)->((hl l).at_ g).has (S.cap g):=λg hg hh=>by
   obtain⟨k1,_,k3,_⟩:=Nj h g hg;rw[DT] at hh ⊢;rcases hh with⟨q1,q2⟩|⟨q1,q2⟩
   ·exact .inl ⟨by rw[k1];exact q1,q2⟩
   ·exact .inr ⟨by rw[k1];exact q1,k3 q2⟩
  exact hS.apart g g' hg1 hg1' hne (key g hg1 hw) (key g' hg1' hw')
inductive Src where
 |grp (g:Nat)
 |virt (w:Nat)
def C0(w:Nat):AV->Src
 |.ref g _ _ _=>.grp g
 |.ptr g _ _ _=>.grp g
 |.map g _=>.grp g
 |_=>.virt w
def cellAt(H:A7)(x:AV)(k:Nat):AV:=match x with
 |.ptr g _ i _=>((H.at_ g).xs.getD i .any).cells.getD k .any
 |_=>.any
def Gw:Nat->List Src->List Nat × List Nat
 |_,[]=>([],[])
 |N,.grp g::r=>(g::(Gw N r).1,(Gw N r).2)
 |N,.virt w::r=>(N::(Gw (N+1) r).1,w::(Gw (N+1) r).2)
def IX(w:Nat):Grp:=⟨w,1,true,[]⟩
def E4:List (Nat × AV)->Env
 |[],_=>.any
 |(t,x)::l,j=>if j=t then x else E4 l j
def LS(l2:List Grp)(H1:A7)(b:Nat)(ks:List Nat)(env:Env):List (Nat × AV)->Prop
 |[]=>True
 |(t,y)::r=>leS l2 (rnV b H1 ks 6 (env t)) y/\LS l2 H1 b ks env r
def allB(b n:Nat):List Nat->Prop
 |[]=>True
 |k::r=>b<=k/\k<n/\allB b n r
def Ur:List Nat->Prop
 |[]=>True
 |k::r=>k∉r/\Ur r
def rnG(b:Nat)(H:A7)(ks:List Nat)(v:Nat)(G:Grp):Grp:=⟨G.w,v,G.exact,G.xs.map (rnV b H ks 6)⟩
def F7(b:Nat)(H:A7)(ks:List Nat):List Grp->List Grp
 |[]=>[]
 |G::l=>rnG b H ks G.ver G::F7 b H ks l
def FS(b:Nat)(H:A7)(ks:List Nat)(l:List Grp):List Nat->List Grp
 |[]=>[]
 |k::r=>rnG b H ks 1 (l.getD k default)::FS b H ks l r
def ze4(b:Nat)(env:Env)(l1 l2:List Grp)(ks:List Nat)(live:List (Nat × AV))(heap:List Grp):Prop:=LS l2 (hl l1) b ks env live/\Il l2 l2 heap
def ze5(b:Nat)(env:Env)(l1:List Grp)(ks:List Nat)(live:List (Nat × AV))(heap:List Grp):Prop :=
 allB b l1.length ks/\Ur ks/\ze4 b env l1 (F7 b (hl l1) ks (l1.take b)++FS b (hl l1) ks l1 ks) ks live heap
def Nk:List Nat->Prop
 |[]=>True
 |w::r=>0<w/\Nk r
theorem JH:∀{ws:List Nat},Nk ws->∀w∈ws,0<w
 |[],_,w,hw=>by simp at hw
 |k::r,h,w,hw=>by
  rcases Ag.1 hw with rfl|hw
  ·exact h.1
  ·exact JH h.2 w hw
def ze6(b:Nat)(env:Env)(l:List Grp)(p:List Nat × List Nat)(live:List (Nat × AV))(heap:List Grp):Prop:=Nk p.2/\ze5 b env (l++p.2.map IX) p.1 live heap
def Head(b:Nat)(env:Env)(H:A7)(srcs:List Src)(live:List (Nat × AV))(heap:List Grp):Prop:=b<=H.n/\ze6 b env H.groups (Gw H.n srcs) live heap
section
variable {P:Program}{n b:Nat}{env:Env}{H:A7}{Q:Ex->Env->A7->Prop}
theorem ze7{l:List Grp}{srcs:List Src}{live:List (Nat × AV)}{heap:List Grp}:Head b env (hl l) srcs live heap=(b<=l.length/\ze6 b env l (Gw l.length srcs) live heap):=by
 rw[Head,Sn,hl_n]
theorem ze8{c:AC}(w:Nat)(hw0:0<w)(h:T P n b c env (H.push ⟨w,1,true,[]⟩) Q):T P n b c env H Q:=by
 intro rd mm hrd code hc S a hb hS hF;exact wpIn_mono (h rd mm hrd code hc (S.virt w) a (Nat.le_succ_of_le hb) (hS.virt w hw0) ⟨hF.size,hF.defers.mono (Evo.virt _),λj hj=>VRel.mono (Evo.virt _) _ (hF.val j hj)⟩) λe a w hh=>hh.trans ((Evo.virt _).down hb)
theorem Us{c:AC}:∀(ws:List Nat){l:List Grp},(∀w∈ws,0<w)->T P n b c env (hl (l++ws.map IX)) Q->T P n b c env (hl l) Q
 |[],l,_,h=>by simpa using h
 |w::ws,l,hw,h=>ze8 w (hw w (by simp)) (by rw[FR];exact Us ws (λw' h'=>hw w' (by simp[h'])) (by simpa [IX] using h))
theorem z1b{c:AC}{H':A7}(hn:H'.n=H.n)(h:∀g,g<H.n->H'.at_ g=H.at_ g)(k:T P n b c env H' Q):T P n b c env H Q :=
 λrd mm hrd code hc S a hb hS hF=>k rd mm hrd code hc S a hb (hS.congr hn h) hF
theorem MI{m:Nat}:∀{ks:List Nat},allB b m ks->∀k∈ks,b<=k/\k<m
 |[],_,k,hk=>by simp at hk
 |k::r,h,j,hj=>by
  rcases Ag.1 hj with rfl|hj
  ·exact⟨h.1,h.2.1⟩
  ·exact MI h.2.2 j hj
theorem IB:∀{ks:List Nat},Ur ks->ks.Nodup
 |[],_=>D3
 |k::r,h=>Cd.2 ⟨h.1,IB h.2⟩
theorem Nl{H:A7}{ks:List Nat}:∀{l:List Grp},(F7 b H ks l).length=l.length
 |[]=>rfl
 |G::l=>by simp[F7,Nl]
theorem Pm{H:A7}{ks:List Nat}:∀{l:List Grp}{g:Nat},g<l.length->(F7 b H ks l).getD g default=rnG b H ks (l.getD g default).ver (l.getD g default)
 |[],g,h=>by simp at h
 |G::l,0,_=>rfl
 |G::l,g+1,h=>by simpa [F7] using Pm (l:=l) (g:=g) (by simpa using h)
theorem Nm{H:A7}{ks:List Nat}{l:List Grp}:∀{r:List Nat},(FS b H ks l r).length=r.length
 |[]=>rfl
 |k::r=>by simp[FS,Nm]
theorem Pn{H:A7}{ks:List Nat}{l:List Grp}:∀{r:List Nat}{j:Nat},j<r.length->(FS b H ks l r).getD j default=rnG b H ks 1 (l.getD (r.getD j 0) default)
 |[],j,h=>by simp at h
 |k::r,0,_=>rfl
 |k::r,j+1,h=>by simpa [FS] using Pn (r:=r) (j:=j) (by simpa using h)
theorem Nn{l1:List Grp}{ks:List Nat}(hb:b<=l1.length):((hl (F7 b (hl l1) ks (l1.take b)++FS b (hl l1) ks l1 ks)).n=((hl l1).repack b ks 6).n) /\
 ∀g,g<((hl l1).repack b ks 6).n->(hl (F7 b (hl l1) ks (l1.take b)++FS b (hl l1) ks l1 ks)).at_ g=((hl l1).repack b ks 6).at_ g:=by
 have hO:(F7 b (hl l1) ks (l1.take b)).length=b:=by rw[Nl,Db];omega
 refine⟨?_,λg hg=>?_⟩
 ·show (F7 b (hl l1) ks (l1.take b)++FS b (hl l1) ks l1 ks).length=b+ks.length
  rw[Ak,hO,Nm]
 ·have hg':g<b+ks.length:=hg
  rw[DT];show _=(⟨_,if g<b then (l1.getD g default).ver else 1,_,_⟩:Grp);by_cases hgb:g<b
  ·rw[Ai hgb,G7 hgb]
   have e:(F7 b (hl l1) ks (l1.take b)++FS b (hl l1) ks l1 ks).getD g default=(F7 b (hl l1) ks (l1.take b)).getD g default:=by
    simp[List.getD,AE (show g<(F7 b (hl l1) ks (l1.take b)).length by omega)]
   have e2:(l1.take b).getD g default=l1.getD g default:=by
    simp[List.getD,hgb]
   rw[e,Pm (by simp;omega),e2];rfl
  ·rw[Ah hgb]
   have e:(F7 b (hl l1) ks (l1.take b)++FS b (hl l1) ks l1 ks).getD g default=(FS b (hl l1) ks l1 ks).getD (g-b) default:=by
    have:=AG (l₁:=F7 b (hl l1) ks (l1.take b)) (l₂:=FS b (hl l1) ks l1 ks) (i:=g) (by omega);rw[hO] at this;simp[List.getD,this]
   rw[e,Pn (by omega)];have e3:inv b ks g=ks.getD (g-b) 0:=by rw[inv,Ah hgb]
   rw[e3];rfl
theorem No{S:MS}{l2:List Grp}{H1:A7}{ks:List Nat}{a:Act}(hS:SRel S (hl l2))(hF:FRel S n (λi=>rnV b H1 ks 6 (env i)) a):∀{live:List (Nat × AV)},LS l2 H1 b ks env live->∀i,i<n->VRel S (E4 live i) (a.tmps.getD i undef)
 |[],_,i,_=>trivial
 |(t,y)::r,h,i,hi=>by
  show VRel S (if i=t then y else E4 r i) _;split
  ·rename_i hit
   subst hit;exact So (.inl hS) _ h.1 (hF.val i hi)
  ·exact No hS hF h.2 i hi
theorem Np{c:AC}{srcs:List Src}{live:List (Nat × AV)}{heap:List Grp}(hh:Head b env H srcs live heap)(h:T P n b c (E4 live) (hl heap) Q):T P n b c env H Q:=by
 obtain⟨hb,hh⟩:=hh;have hgn:H.groups.length=H.n:=by simp[A7.groups]
 refine z1b (H':=hl H.groups) hgn (λg hg=>?_) ?_
 ·show H.groups.getD g default=_
  simp[A7.groups,List.getD,hg]
 refine Us (Gw H.n srcs).2 (JH hh.1) ?_;replace hh:=hh.2;generalize hl1:H.groups++(Gw H.n srcs).2.map IX=l1;simp only[hl1] at hh;obtain⟨h1,h2,h3,h4⟩:=hh;have hb1:b<=l1.length:=by rw[<-hl1,Ak];omega
 refine z84 (Gw H.n srcs).1 6 hb1 (λk hk=>MI h1 k hk) (IB h2) ?_;obtain⟨e1,e2⟩:=Nn (ks:=(Gw H.n srcs).1) hb1;refine z1b e1 e2 ?_;intro rd mm hrd code hc S a hbS hS hF;have hlen:=Lx h4;exact h rd mm hrd code hc S a hbS (Im hS h4) ⟨hF.size,hF.defers,No hS hF h3⟩
theorem BK{σ:Type}(Fact:σ->Prop)(μ:σ->Nat)(live:σ->List (Nat × AV))(heap:σ->List Grp)(srcs:Env->A7->List Src){c:AC}(s0:σ)(h0:Fact s0)(he:Head b env H (srcs env H) (live s0) (heap s0))
 (round:∀s,Fact s->T P n b c (E4 (live s)) (hl (heap s)) (Ex.then (λenv' H'=>∃s',Head b env' H' (srcs env' H') (live s') (heap s')/\Fact s'/\μ s'<μ s) Q)):T P n b (.loop c) env H Q:=by
 refine zbz (λs env H=>Fact s/\Head b env H (srcs env H) (live s) (heap s)) μ s0 ⟨h0,he⟩ λs env H hI=>?_;refine Np hI.2 (T.mono (round s hI.1) λx env' H' hh=>?_);cases x with
 |normal=>obtain⟨s',k1,k2,k3⟩:=hh;exact⟨s',⟨k2,k1⟩,k3⟩
 |exit id=>exact hh
 |ret=>exact hh
end
def hset(l:List Grp)(g:Nat)(G:Grp):A7:=(hl l).set g G
def setQ:List Grp->Nat->Grp->Option (List Grp)
 |[],_,_=>none
 |_::l,0,G=>some (G::l)
 |K::l,g+1,G=>(setQ l g G).map (K::·)
theorem Sp:∀{l:List Grp}{g:Nat}{G:Grp}{l':List Grp},setQ l g G=some l'->g<l.length/\l'=l.set g G
 |[],_,_,_,h=>by cases h
 |_::l,0,G,_,h=>by cases h;exact⟨by simp,rfl⟩
 |K::l,g+1,G,l',h=>by
  obtain⟨r,hr,rfl⟩:=Af.1 h;obtain⟨h1,rfl⟩:=Sp hr;exact⟨by simpa using h1,rfl⟩
theorem ze9(l:List Grp)(g:Nat)(G:Grp):(hl l).set g G=(match setQ l g G with|some l'=>hl l'|none=>hset l g G):=by
 cases h:setQ l g G with
 |none=>rfl
 |some l'=>obtain⟨h1,rfl⟩:=Sp h;exact HL l g G h1
theorem z1c(K:Grp)(l:List Grp)(G:Grp):setQ (K::l) 0 G=some (G::l):=rfl
theorem z1d(K:Grp)(l:List Grp)(g:Nat)(G:Grp):setQ (K::l) (g+1) G=(setQ l g G).map (K::·):=rfl
theorem zea(g:Nat):pos [] g=none:=rfl
theorem z85(k:Nat)(ks:List Nat)(g:Nat):pos (k::ks) g=if g=k then some 0 else (pos ks g).map (·+1):=rfl
section
variable {b d:Nat}{H:A7}{ks:List Nat}
def rnL(b:Nat)(H:A7)(ks:List Nat)(d:Nat)(xs:List AV):List AV:=xs.map (rnV b H ks d)
theorem zil(xs:List AV):xs.map (rnV b H ks (d+1))=bif AT xs then xs else rnL b H ks (d+1) xs:=by
 cases h:AT xs
 ·rfl
 ·have key:∀(d:Nat){x:AV},x.pure=true->rnV b H ks d x=x:=by
   intro d
   induction d with
   |zero=>intro x hx;simp[rnV,hx]
   |succ d ih =>
    intro x hx
    have kl:∀cs:List AV,AT cs=true->cs.map (rnV b H ks d)=cs:=λcs hc=>by
     have:cs.map (rnV b H ks d)=cs.map id:=AQ λy hy=>ih (Ca.1 hc y hy);simpa using this
    cases x with
    |ref=>simp[AV.pure] at hx
    |ptr=>simp[AV.pure] at hx
    |map=>simp[AV.pure] at hx
    |agg cs=>rw[rnV,kl cs (by simpa [AV.pure] using hx)]
    |tup cs=>rw[rnV,kl cs (by simpa [AV.pure] using hx)]
    |fn f cs=>rw[rnV,kl cs (by simpa [AV.pure] using hx)]
    |_=>rfl
  have:xs.map (rnV b H ks (d+1))=xs.map id:=AQ λy hy=>key _ (Ca.1 h y hy);simpa using this
theorem zeb:rnL b H ks d []=[]:=rfl
theorem z86(x:AV)(xs:List AV):rnL b H ks d (x::xs)=rnV b H ks d x::rnL b H ks d xs:=rfl
theorem zim(g v off len:Nat):rnV b H ks (d+1) (.ref g v off len)=if g<b then .ref g v off len else if v=(H.at_ g).ver then
 (match pos ks g with
  |some j=>.ref (b+j) 1 off len
  |none=>if 0<(H.at_ g).w/\off+len<=(H.at_ g).xs.length then frzL (H.at_ g).w ((((H.at_ g).xs.drop off).take len).map (rnV b H ks d)) else .any)
 else .any:=rfl
theorem zin(g v i o:Nat):rnV b H ks (d+1) (.ptr g v i o)=if g<b then .ptr g v i o else if v=(H.at_ g).ver then
 (match pos ks g with
  |some j=>.ptr (b+j) 1 i o
  |none=>if o=0/\i<(H.at_ g).xs.length/\0<(H.at_ g).w then frzP (rnV b H ks d ((H.at_ g).xs.getD i .any)) else .any)
 else .any:=rfl
theorem zio(cs:List AV):rnV b H ks (d+1) (.agg cs)=.agg (cs.map (rnV b H ks d)):=rfl
theorem ziq(cs:List AV):rnV b H ks (d+1) (.tup cs)=.tup (cs.map (rnV b H ks d)):=rfl
theorem rn_fn(f:Nat)(cs:List AV):rnV b H ks (d+1) (.fn f cs)=.fn f (cs.map (rnV b H ks d)):=rfl
theorem zir:rnV b H ks (d+1) .any=.any:=rfl
theorem zec(w:Nat)(xs:List AV):rnV b H ks (d+1) (.full w xs)=.full w xs:=rfl
theorem rn_mp(g v:Nat):rnV b H ks (d+1) (.map g v)=if g<b then .map g v else if v=(H.at_ g).ver then (match pos ks g with|some j=>.map (b+j) 1|none=>.any) else .any:=rfl
theorem zed(q:Bool):rnV b H ks (d+1) (.bool q)=.bool q:=rfl
theorem zis(k:IntKind)(n:Int):rnV b H ks (d+1) (.int k n)=.int k n:=rfl
theorem zit(s:List UInt8):rnV b H ks (d+1) (.str s)=.str s:=rfl
theorem zee:rnV b H ks (d+1) .nilS=.nilS:=rfl
theorem ziu:rnV b H ks (d+1) .nul=.nul:=rfl
theorem zef:rnV b H ks (d+1) .nilP=.nilP:=rfl
theorem zeg:rnV b H ks (d+1) .nilF=.nilF:=rfl
theorem ziv(l:Nat):rnV b H ks (d+1) (.yld l)=.yld l:=rfl
theorem ziw(w:Nat)(xs:List AV):rnV b H ks (d+1) (.lst w xs)=.lst w xs:=rfl
theorem zeh(x:AV):rnV b H ks (d+1) (.cptr x)=.cptr x:=rfl
end
section
variable {l l0 l':List Grp}{G G':Grp}
theorem zix:Il l0 [] []=True:=rfl
theorem zei:Il l0 (G::l) (G'::l')=(z1a l0 G G'/\Il l0 l l'):=rfl
theorem g_le:z1a l0 G G'=(G.w=G'.w/\G.ver=G'.ver/\(G'.exact=true->G.exact=true)/\leSL l0 G.xs G'.xs):=rfl
theorem z1e{x:AV}:leS l x x=True:=DN (HN l x)
theorem z87{xs:List AV}:leSL l xs xs=True:=DN (Ck l xs)
theorem zej{ys:List AV}:leSL l [] ys=(ys=[]):=by simp only[leSL]
theorem z88{x y:AV}{xs ys:List AV}:leSL l (x::xs) (y::ys)=(leS l x y/\leSL l xs ys):=by simp only[leSL]
theorem Po{k:IntKind}{a:Int}{k':IntKind}{b:Int}:leS l (.int k a) (.int k' b)=(k=k'/\a=b):=by simp only[leS]
theorem LU{a:Bool}{b:Bool}:leS l (.bool a) (.bool b)=(a=b):=by simp only[leS]
theorem Nq  {w:Nat} {ys:List AV}:leS l .nilS (.lst w ys)=(0<w/\ys=[]):=by simp only[leS]
theorem Ut  {g v o n:Nat}:leS l .nilS (.ref g v o n)=(o=0/\n=0/\(l.getD g default).ver=v/\0<(l.getD g default).w/\(l.getD g default).xs=[]/\(l.getD g default).exact=true/\g<l.length):=by simp only[leS]
theorem Pp  {w:Nat} {ys:List AV}:leS l .nul (.lst w ys)=(0<w/\ys=[]):=by simp only[leS]
theorem Pq  {w:Nat} {ys:List AV}:leS l .emp (.lst w ys)=(0<w/\ys=[]):=by simp only[leS]
theorem Sq{w:Nat}{xs:List AV}{w':Nat}{ys:List AV}:leS l (.full w xs) (.full w' ys)=(w=w'/\xs=ys):=by simp only[leS]
theorem Nr{w:Nat}{xs:List AV}{w':Nat}{ys:List AV}:leS l (.full w xs) (.lst w' ys)=(w=w'/\leSL l xs ys/\AT ys=true):=by simp only[leS]
theorem Y2{g v g' v':Nat}:leS l (.map g v) (.map g' v')=(g=g'/\v=v'):=by simp only[leS,AV.map.injEq]
theorem Pr{w:Nat}{xs:List AV}{w':Nat}{ys:List AV}:leS l (.lst w xs) (.lst w' ys)=(w=w'/\xs=ys):=by simp only[leS]
theorem Y3{g v o n:Nat}{g' v' o' n':Nat}:leS l (.ref g v o n) (.ref g' v' o' n')=(g=g'/\v=v'/\o=o'/\n=n'):=by simp only[leS]
theorem Y4{g v o n:Nat}{g' v' o' n':Nat}:leS l (.ptr g v o n) (.ptr g' v' o' n')=(g=g'/\v=v'/\o=o'/\n=n'):=by simp only[leS]
theorem Ps{xs:List AV}{ys:List AV}:leS l (.agg xs) (.agg ys)=leSL l xs ys:=by simp only[leS]
theorem Pt{xs:List AV}{ys:List AV}:leS l (.tup xs) (.tup ys)=leSL l xs ys:=by simp only[leS]
theorem ziy{x:AV}:leS l x .any=True:=DN (by cases x<;>simp only[leS])
def ansW(x y:AV):Prop:=leS [] x y
theorem zek{x:AV}:ansW x x=True:=z1e
theorem ziz{k k':IntKind}{a b:Int}:ansW (.int k a) (.int k' b)=(k=k'/\a=b):=Po
theorem zel{a b:Bool}:ansW (.bool a) (.bool b)=(a=b):=LU
theorem zem{w w':Nat}{xs ys:List AV}:ansW (.full w xs) (.lst w' ys)=(w=w'/\leSL [] xs ys/\AT ys=true):=Nr
theorem zj0{w w':Nat}{xs ys:List AV}:ansW (.lst w xs) (.lst w' ys)=(w=w'/\xs=ys):=Pr
theorem zen{w:Nat}{ys:List AV}:ansW .nilS (.lst w ys)=(0<w/\ys=[]):=Nq
theorem zj1{w:Nat}{ys:List AV}:ansW .nul (.lst w ys)=(0<w/\ys=[]):=Pp
theorem zj2{w:Nat}{ys:List AV}:ansW .emp (.lst w ys)=(0<w/\ys=[]):=Pq
theorem zj3{xs ys:List AV}:ansW (.agg xs) (.agg ys)=leSL [] xs ys:=Ps
theorem Du{xs ys:List AV}:ansW (.tup xs) (.tup ys)=leSL [] xs ys:=Pt
end
attribute [push_cast] Sq Nr Y2 zem zec rn_mp
attribute [push_cast] z1e z87 zej z88 Po LU Nq Ut Pp Pq Pr Y3 Y4 Ps Pt ziy zek ziz zel zj0 zen zj1 zj2 zj3
section
variable {H H1:A7}{l0:List Grp}{b t:Nat}{ks:List Nat}{env:Env}{y:AV}{r:List (Nat × AV)}
theorem z89:LS l0 H1 b ks env []=True:=rfl
theorem z1f:LS l0 H1 b ks env ((t,y)::r)=(leS l0 (rnV b H1 ks 6 (env t)) y/\LS l0 H1 b ks env r):=rfl
theorem z8a{n:Nat}:allB b n []=True:=rfl
theorem z1g{n k:Nat}:allB b n (k::ks)=(b<=k/\k<n/\allB b n ks):=rfl
theorem z1h:Ur []=True:=rfl
theorem Y5{k:Nat}:Ur (k::ks)=(k∉ks/\Ur ks):=rfl
theorem z1i{w g v o n:Nat}:C0 w (.ref g v o n)=.grp g:=rfl
theorem z1j{w g v i o:Nat}:C0 w (.ptr g v i o)=.grp g:=rfl
theorem z1k{w g v:Nat}:C0 w (.map g v)=.grp g:=rfl
theorem Y6:Nk []=True:=rfl
theorem Uu{w:Nat}{r:List Nat}:Nk (w::r)=(0<w/\Nk r):=rfl
theorem Y7{w:Nat}:C0 w .nilS=.virt w:=rfl
theorem Y8{g v i o k:Nat}:cellAt H (.ptr g v i o) k=((H.at_ g).xs.getD i .any).cells.getD k .any:=rfl
theorem zj4{N:Nat}:Gw N []=([],[]):=rfl
theorem zj5{N g:Nat}{l:List Src}:Gw N (.grp g::l)=(g::(Gw N l).1,(Gw N l).2):=rfl
theorem zeo{N w:Nat}{l:List Src}:Gw N (.virt w::l)=(N::(Gw (N+1) l).1,w::(Gw (N+1) l).2):=rfl
theorem zj6{j:Nat}:E4 [] j=.any:=rfl
theorem zep{j:Nat}:E4 ((t,y)::r) j=if j=t then y else E4 r j:=rfl
variable {l l1 l2:List Grp}{G:Grp}{live:List (Nat × AV)}{heap:List Grp}
theorem head1{p q:List Nat}:ze6 b env l (p,q) live heap=(Nk q/\ze5 b env (l++q.map IX) p live heap):=rfl
theorem head2:ze5 b env l1 ks live heap=(allB b l1.length ks/\Ur ks/\ze4 b env l1 (F7 b (hl l1) ks (l1.take b)++FS b (hl l1) ks l1 ks) ks live heap):=rfl
theorem head3:ze4 b env l1 l2 ks live heap=(LS l2 (hl l1) b ks env live/\Il l2 l2 heap):=rfl
theorem zj7:F7 b H ks []=[]:=rfl
theorem zeq:F7 b H ks (G::l)=rnG b H ks G.ver G::F7 b H ks l:=rfl
theorem zj8:FS b H ks l []=[]:=rfl
theorem zer{k:Nat}{r:List Nat}:FS b H ks l (k::r)=rnG b H ks 1 (l.getD k default)::FS b H ks l r:=rfl
theorem zj9{v:Nat}:rnG b H ks v G=⟨G.w,v,G.exact,G.xs.map (rnV b H ks 6)⟩:=rfl
end
theorem Wl(i:Nat)(ks:List Nat):Fv i ks []=[]:=rfl
theorem FA(i:Nat)(ks:List Nat)(G:Grp)(l:List Grp):Fv i ks (G::l)=(if i∈ks then G.dead else G)::Fv (i+1) ks l:=rfl
theorem zes(w:Nat):IX w=⟨w,1,true,[]⟩:=rfl
theorem zet(w:Nat)(xs:List AV):frzL w xs=bif AT xs then .lst w xs else .any:=rfl
theorem zeu(x:AV):frzP x=bif x.pure then .cptr x else .any:=rfl
theorem Jf(xs ys:List AV):AT (xs++ys)=(AT xs&&AT ys):=by
 induction xs with
 |nil=>rfl
 |cons x xs ih=>simp[AT,ih,Bool.and_assoc]
theorem Y9(i:Nat):((i:Int)-1).toNat=i-1:=by omega
theorem YA(i:Nat):((i:Int)+1).toNat=i+1:=by omega
theorem z1l(i k:Nat):((i:Int)+(k:Int)).toNat=i+k:=by omega
theorem drop_at{α:Type}[Inhabited α]{l:List α}{i:Nat}(h:i<l.length):l.drop i=nth l i::l.drop (i+1):=by
 rw[CG h];simp[nth,List.getD,h]
theorem take_at{α:Type}[Inhabited α]{l:List α}{i:Nat}(h:i<l.length):l.take (i+1)=l.take i++[nth l i]:=by
 rw[List.take_succ_eq_append_getElem h];simp[nth,List.getD,h]
theorem z8b{α:Type}[Inhabited α](x:α)(l:List α)(i:Nat):nth (x::l) (i+1)=nth l i:=rfl
theorem B2{α:Type}[Inhabited α]{l:List α}{i:Nat}(h:i<l.length):nth l i∈l:=by
 have:nth l i=l[i]:=by simp[nth,List.getD,h]
 rw[this];exact Cg h
theorem GK{α:Type}[Inhabited α]{l:List α}{i:Nat}(h:i<l.length):nth l i=l[i]:=by simp[nth,List.getD,h]
theorem zev(g k:Nat)(ks:List Nat):(g∈k::ks)=(g=k\/g∈ks):=by simp
theorem Uv(g:Nat):(g∈([]:List Nat))=False:=by simp
theorem zew(H:A7)(ks:List Nat)(g:Nat):(H.only ks).at_ g=if g∈ks then H.at_ g else (H.at_ g).dead:=rfl
def CX:List AV->List Nat
 |[]=>[]
 |.ref g _ _ _::l=>g::CX l
 |.ptr g _ _ _::l=>g::CX l
 |.agg cs::l=>CX cs++CX l
 |.fn _ cs::l=>CX cs++CX l
 |_::l=>CX l
theorem EP{w:Nat}{xs l:List AV}:CX (.lst w xs::l)=CX l:=by rw[CX]<;>(intros;simp_all)
theorem z1m{x:AV}{l:List AV}:CX (.cptr x::l)=CX l:=by rw[CX]<;>(intros;simp_all)
theorem z8c{k:IntKind}{n:Int}{l:List AV}:CX (.int k n::l)=CX l:=by rw[CX]<;>(intros;simp_all)
theorem z1n{b:Bool}{l:List AV}:CX (.bool b::l)=CX l:=by rw[CX]<;>(intros;simp_all)
theorem z1o{l:List AV}:CX (.nilS::l)=CX l:=by rw[CX]<;>(intros;simp_all)
theorem z8d{g v o n:Nat}{l:List AV}:CX (.ref g v o n::l)=g::CX l:=by rw[CX]
theorem z8e{g v o n:Nat}{l:List AV}:CX (.ptr g v o n::l)=g::CX l:=by rw[CX]
theorem z8f{cs l:List AV}:CX (.agg cs::l)=CX cs++CX l:=by rw[CX]
theorem zex{f:Nat}{cs l:List AV}:CX (.fn f cs::l)=CX cs++CX l:=by rw[CX]
theorem z8g:CX []=[]:=by rw[CX]
attribute [push_cast] EP z1m z8c z1n z1o z8d z8e z8f zex z8g
def okA(d:Nat)(H:A7):List AV->Prop
 |[]=>True
 |x::l=>Ea d H x/\okA d H l
section
variable {P:Program}{f:Nat}{xs ys:List AV}{y:AV}{l:List Grp}{H:A7}
theorem Ns{d:Nat}:∀{xs:List AV},okA d H xs->∀x∈xs,Ea d H x
 |[],_,x,hx=>by simp at hx
 |z::r,h,x,hx=>by
  rcases Ag.1 hx with rfl|hx
  ·exact h.1
  ·exact Ns h.2 x hx
theorem zey{d:Nat}:okA d H []=True:=rfl
theorem z8h{d:Nat}{x:AV}:okA d H (x::xs)=(Ea d H x/\okA d H xs):=rfl
theorem Jg(h:PC P f ys y)(hl:leL xs ys):PC P f xs y:=Ik hl h
def chB(c:Bool)(p q:Prop):Prop:=match c with
 |true=>p
 |false=>q
theorem z8i{p q:Prop}:chB true p q=p:=rfl
theorem z1p{p q:Prop}:chB false p q=q:=rfl
def frA(d:Nat)(H:A7)(xs:List AV):List AV:=xs.map (frzV d H)
theorem zez{d:Nat}:frA d H []=[]:=rfl
theorem z8j{d:Nat}{x:AV}:frA d H (x::xs)=frzV d H x::frA d H xs:=rfl
theorem cK{K:AV->A7->Prop}(h:PC P f ys y)(hh:chB (AT xs) (leSL [] xs ys/\AT ys=true/\@nx y (hl l) ⟨K⟩)
 (chB y.flat (okA 4 (hl l) xs/\leSL [] (frA 4 (hl l) xs) ys/\@nx y (hl l) ⟨K⟩)
  (okA 4 ((hl l).only (CX xs)) xs/\leSL [] (frA 4 ((hl l).only (CX xs)) xs) ys/\AT ys=true/\@nx y (hl (Fv 0 (CX xs) l)) ⟨K⟩))):@QB P f xs (hl l) ⟨K⟩:=by
 cases hp:AT xs<;>rw[hp] at hh
 ·cases hy:y.flat<;>rw[hy] at hh
  ·obtain⟨h1,h2,h3,h4⟩:=hh
   exact Pk 4 (CX xs) (Ns h1) (Ik (Kr h2) (IA h h3 h4))
  ·obtain⟨h1,h2,h3⟩:=hh
   exact z02 (Jg h (Kr h2)) 4 (Ns h1) rfl hy h3
 ·obtain⟨h1,h2,h3⟩:=hh
  exact Ik (Kr h1) (IA h h2 h3)
theorem eK{K:AV->A7->Prop}(h:PC P f xs y)(hh:AT xs=true/\@nx y H ⟨K⟩):@QB P f xs H ⟨K⟩:=IA h hh.1 hh.2
theorem eQ{K:AV->Prop}(h:PC P f xs y)(hh:AT xs=true/\@nq y ⟨K⟩):@z7d P f xs H ⟨K⟩:=⟨y,IA h hh.1 ⟨rfl,rfl⟩,hh.2⟩
theorem cQ{K:AV->Prop}(h:PC P f ys y)(hh:chB (AT xs) (leSL [] xs ys/\AT ys=true/\@nq y ⟨K⟩)
 (y.flat=true/\okA 4 (hl l) xs/\leSL [] (frA 4 (hl l) xs) ys/\@nq y ⟨K⟩)):@z7d P f xs (hl l) ⟨K⟩:=by
 cases hp:AT xs<;>rw[hp] at hh
 ·obtain⟨hy,h1,h2,h3⟩:=hh
  exact⟨y,z02 (Jg h (Kr h2)) 4 (Ns h1) rfl hy ⟨rfl,rfl⟩,h3⟩
 ·obtain⟨h1,h2,h3⟩:=hh
  exact⟨y,Ik (Kr h1) (IA h h2 ⟨rfl,rfl⟩),h3⟩
end
attribute [push_cast] zey z8h zez z8j z8i z1p AV.flat ZZ
section
variable {d:Nat}{H:A7}
def okL(d:Nat)(H:A7)(xs:List AV):Prop:=∀y∈xs,Ea d H y
def frL(d:Nat)(H:A7)(xs:List AV):List AV:=xs.map (frzV d H)
def okM(d:Nat)(H:A7)(xs:List AV):Prop:=okL d H xs
def frM(d:Nat)(H:A7)(xs:List AV):List AV:=frL d H xs
def ifB(b:Bool)(p:Prop):Prop:=b=true\/p
theorem z8k(p:Prop):ifB true p=True:=by simp[ifB]
theorem z1q(p:Prop):ifB false p=p:=by simp[ifB]
theorem zja(xs:List AV):okL d H xs=ifB (AT xs) (okM d H xs):=propext ⟨λh=>.inr h,λh=>h.elim (λh=>(H5 H d h).1) id⟩
theorem zjb(xs:List AV):frL d H xs=bif AT xs then xs else frM d H xs:=by
 cases h:AT xs
 ·rfl
 ·exact (H5 H d h).2
theorem zf0:okM d H []=True:=by simp[okM,okL]
theorem z8l(x:AV)(xs:List AV):okM d H (x::xs)=(Ea d H x/\okM d H xs):=by simp[okM,okL]
theorem zf1:frM d H []=[]:=rfl
theorem z8m(x:AV)(xs:List AV):frM d H (x::xs)=frzV d H x::frM d H xs:=rfl
theorem zjc(g v off len:Nat):Ea (d+1) H (.ref g v off len)=((H.at_ g).ver=v/\0<(H.at_ g).w/\off+len<=(H.at_ g).xs.length/\okL d H (((H.at_ g).xs.drop off).take len)):=rfl
theorem zjd(g v i o:Nat):Ea (d+1) H (.ptr g v i o)=((H.at_ g).ver=v/\i<(H.at_ g).xs.length/\0<(H.at_ g).w/\o=0/\Ea d H ((H.at_ g).xs.getD i .any)):=rfl
theorem zje(cs:List AV):Ea (d+1) H (.agg cs)=okL d H cs:=rfl
theorem zjf(cs:List AV):Ea (d+1) H (.tup cs)=okL d H cs:=rfl
theorem ok_fn(f:Nat)(cs:List AV):Ea (d+1) H (.fn f cs)=okL d H cs:=rfl
theorem zjg:Ea (d+1) H .any=True:=DN rfl
theorem zf2(b:Bool):Ea (d+1) H (.bool b)=True:=DN rfl
theorem ok_int(k:IntKind)(n:Int):Ea (d+1) H (.int k n)=True:=DN rfl
theorem zjh(s:List UInt8):Ea (d+1) H (.str s)=True:=DN rfl
theorem zf3:Ea (d+1) H .nilS=True:=DN rfl
theorem zji:Ea (d+1) H .nul=True:=DN rfl
theorem zjj:Ea (d+1) H .emp=True:=DN rfl
theorem zf4:Ea (d+1) H .nilP=True:=DN rfl
theorem zf5:Ea (d+1) H .nilF=True:=DN rfl
theorem zjk(l:Nat):Ea (d+1) H (.yld l)=True:=DN rfl
theorem zf6(w:Nat)(xs:List AV):Ea (d+1) H (.full w xs)=(AT xs=true):=rfl
theorem zf7(w:Nat)(xs:List AV):frzV (d+1) H (.full w xs)=.full w xs:=rfl
theorem zjl(w:Nat)(xs:List AV):Ea (d+1) H (.lst w xs)=(AT xs=true):=rfl
theorem zf8(x:AV):Ea (d+1) H (.cptr x)=(x.pure=true):=rfl
theorem zjm(g v off len:Nat):frzV (d+1) H (.ref g v off len)=.lst (H.at_ g).w (frL d H (((H.at_ g).xs.drop off).take len)):=rfl
theorem zjn(g v i o:Nat):frzV (d+1) H (.ptr g v i o)=if o=0 then .cptr (frzV d H ((H.at_ g).xs.getD i .any)) else .any:=rfl
theorem zjo(cs:List AV):frzV (d+1) H (.agg cs)=.agg (frL d H cs):=rfl
theorem zjp(cs:List AV):frzV (d+1) H (.tup cs)=.tup (frL d H cs):=rfl
theorem fr_fn(f:Nat)(cs:List AV):frzV (d+1) H (.fn f cs)=.fn f (frL d H cs):=rfl
theorem zjq:frzV (d+1) H .any=.any:=rfl
theorem zf9(b:Bool):frzV (d+1) H (.bool b)=.bool b:=rfl
theorem zjr(k:IntKind)(n:Int):frzV (d+1) H (.int k n)=.int k n:=rfl
theorem zjs(s:List UInt8):frzV (d+1) H (.str s)=.str s:=rfl
theorem zfa:frzV (d+1) H .nilS=.nilS:=rfl
theorem zjt:frzV (d+1) H .nul=.nul:=rfl
theorem zju:frzV (d+1) H .emp=.emp:=rfl
theorem zfb:frzV (d+1) H .nilP=.nilP:=rfl
theorem zfc:frzV (d+1) H .nilF=.nilF:=rfl
theorem zjv(l:Nat):frzV (d+1) H (.yld l)=.yld l:=rfl
theorem zjw(w:Nat)(xs:List AV):frzV (d+1) H (.lst w xs)=.lst w xs:=rfl
theorem zfd(x:AV):frzV (d+1) H (.cptr x)=.cptr x:=rfl
end
attribute [push_cast] z8k z1q zja zjb zf0 z8l zf1 z8m zjc zjd zje zjf ok_fn zjg zf2 ok_int zjh zf3 zji zjj zf4 zf5 zjk zjv zjl zf6 zf7 zf8 zjm zjn zjo zjp fr_fn zjq zf9 zjr zjs zfa zjt zju zfb zfc zjw zfd List.take_length
section
variable {P:Program}{l:List Grp}{xs cs:List AV}{K:AV->List Grp->Prop}{z:AV}{w len n:Nat}
theorem Ec{k:AK}(h:k.still=true):@opG P k l xs ⟨K⟩=(Ct (·<l.length) xs/\@opK P k (hl l) xs ⟨λx _=>K x l⟩):=by
 rw[Wc];have hn:¬k.still=false:=by rw[h];simp
 cases k<;>first|(exact propext ⟨λhh=>hh.elim (λhh=>⟨hh.2.1,hh.2.2⟩) (λhh=>absurd hh.1 hn),λhh=>.inl ⟨h,hh.1,hh.2⟩⟩)|(simp[AK.still] at h)
theorem YB{k:AK}(h:k.still=false)(he:k.eff.isSome=true):@opG P k l xs ⟨K⟩=(k.appOk=true/\Qv k xs/\@opK P k (hl l) xs ⟨λx H'=>∀l',H'=hl l'->K x l'⟩):=by
 rw[Wc];have hn:¬k.still=true:=by rw[h];simp
 cases k<;>first|(exact propext ⟨λhh=>hh.elim (λhh=>absurd hh.1 hn) (λhh=>⟨hh.2.2.1,hh.2.2.2⟩),λhh=>.inr ⟨h,he,hh.1,hh.2⟩⟩)|(simp[AK.eff] at he)
theorem G_mv  : @opG P .mv l xs ⟨K⟩=(Ct (·<l.length) xs/\@opK P .mv (hl l) xs ⟨λx _=>K x l⟩):=Ec rfl
theorem zjx  : @opG P .pick l xs ⟨K⟩=(Ct (·<l.length) xs/\@opK P .pick (hl l) xs ⟨λx _=>K x l⟩):=Ec rfl
theorem zfe{zs:List AV}{pl:List (Nat × Nat)}{idx:List Nat}:@opG P (.build zs pl idx) l xs ⟨K⟩=(Ct (·<l.length) xs/\@opK P (.build zs pl idx) (hl l) xs ⟨λx _=>K x l⟩):=Ec rfl
theorem zjy{a:Bool}{s:Nat}:@opG P (.load a s) l xs ⟨K⟩=(Ct (·<l.length) xs/\@opK P (.load a s) (hl l) xs ⟨λx _=>K x l⟩):=Ec rfl
theorem YC  : @opG P .nilCheck l xs ⟨K⟩=(Ct (·<l.length) xs/\@opK P .nilCheck (hl l) xs ⟨λx _=>K x l⟩):=Ec rfl
theorem G_bin{op:BinOp}:@opG P (.bin op) l xs ⟨K⟩=(Ct (·<l.length) xs/\@opK P (.bin op) (hl l) xs ⟨λx _=>K x l⟩):=Ec rfl
theorem G_eqb{n:Bool}:@opG P (.eqb n) l xs ⟨K⟩=(Ct (·<l.length) xs/\@opK P (.eqb n) (hl l) xs ⟨λx _=>K x l⟩):=Ec rfl
theorem G_eqs{n:Bool}{ks:List Nat}:@opG P (.eqs n ks) l xs ⟨K⟩=(Ct (·<l.length) xs/\@opK P (.eqs n ks) (hl l) xs ⟨λx _=>K x l⟩):=Ec rfl
theorem G_eqn{n:Bool}:@opG P (.eqn n) l xs ⟨K⟩=(Ct (·<l.length) xs/\@opK P (.eqn n) (hl l) xs ⟨λx _=>K x l⟩):=Ec rfl
theorem G_un{op:UnOp}:@opG P (.un op) l xs ⟨K⟩=(Ct (·<l.length) xs/\@opK P (.un op) (hl l) xs ⟨λx _=>K x l⟩):=Ec rfl
theorem zjz{k:IntKind}:@opG P (.conv k) l xs ⟨K⟩=(Ct (·<l.length) xs/\@opK P (.conv k) (hl l) xs ⟨λx _=>K x l⟩):=Ec rfl
theorem zff{w:Nat}{lo hi mx:Bool}:@opG P (.slice w lo hi mx) l xs ⟨K⟩=(Ct (·<l.length) xs/\@opK P (.slice w lo hi mx) (hl l) xs ⟨λx _=>K x l⟩):=Ec rfl
theorem zfg{a:Bool}{o s:Nat}:@opG P (.faddr a o s) l xs ⟨K⟩=(Ct (·<l.length) xs/\@opK P (.faddr a o s) (hl l) xs ⟨λx _=>K x l⟩):=Ec rfl
theorem zfh{a:Bool}{o s:Nat}:@opG P (.field a o s) l xs ⟨K⟩=(Ct (·<l.length) xs/\@opK P (.field a o s) (hl l) xs ⟨λx _=>K x l⟩):=Ec rfl
theorem zfi{w:Nat}:@opG P (.iaddr w) l xs ⟨K⟩=(Ct (·<l.length) xs/\@opK P (.iaddr w) (hl l) xs ⟨λx _=>K x l⟩):=Ec rfl
theorem z8n{n w:Nat}{a:Bool}:@opG P (.iaddrA n w a) l xs ⟨K⟩=(Ct (·<l.length) xs/\@opK P (.iaddrA n w a) (hl l) xs ⟨λx _=>K x l⟩):=Ec rfl
theorem zfj{n w:Nat}{a:Bool}:@opG P (.index n w a) l xs ⟨K⟩=(Ct (·<l.length) xs/\@opK P (.index n w a) (hl l) xs ⟨λx _=>K x l⟩):=Ec rfl
theorem YD  : @opG P .indexStr l xs ⟨K⟩=(Ct (·<l.length) xs/\@opK P .indexStr (hl l) xs ⟨λx _=>K x l⟩):=Ec rfl
theorem z1r{i:Nat}:@opG P (.extract i) l xs ⟨K⟩=(Ct (·<l.length) xs/\@opK P (.extract i) (hl l) xs ⟨λx _=>K x l⟩):=Ec rfl
theorem G_len{b:Bool}:@opG P (.len b) l xs ⟨K⟩=(Ct (·<l.length) xs/\@opK P (.len b) (hl l) xs ⟨λx _=>K x l⟩):=Ec rfl
theorem G_max  : @opG P .max l xs ⟨K⟩=(Ct (·<l.length) xs/\@opK P .max (hl l) xs ⟨λx _=>K x l⟩):=Ec rfl
theorem G_min  : @opG P .min l xs ⟨K⟩=(Ct (·<l.length) xs/\@opK P .min (hl l) xs ⟨λx _=>K x l⟩):=Ec rfl
theorem z8o:@opG P (.mapGet z) l xs ⟨K⟩=(Ct (·<l.length) xs/\@opK P (.mapGet z) (hl l) xs ⟨λx _=>K x l⟩):=Ec rfl
theorem z8p{f:Nat}:@opG P (.mkFunc f) l xs ⟨K⟩=(Ct (·<l.length) xs/\@opK P (.mkFunc f) (hl l) xs ⟨λx _=>K x l⟩):=Ec rfl
theorem zfk  : @opG P .toStr l xs ⟨K⟩=(Ct (·<l.length) xs/\@opK P .toStr (hl l) xs ⟨λx _=>K x l⟩):=Ec rfl
theorem z8q  : @opG P .runStr l xs ⟨K⟩=(Ct (·<l.length) xs/\@opK P .runStr (hl l) xs ⟨λx _=>K x l⟩):=Ec rfl
theorem zfl  : @opG P (.alloc z w) l xs ⟨K⟩=@opK P (.alloc z w) (hl l) xs ⟨λx H'=>∀l',H'=hl l'->K x l'⟩:=(YB rfl rfl).trans (by simp only[AK.appOk,Qv,EN])
theorem G_box  : @opG P .box l xs ⟨K⟩=@opK P .box (hl l) xs ⟨λx H'=>∀l',H'=hl l'->K x l'⟩:=(YB rfl rfl).trans (by simp only[AK.appOk,Qv,EN])
theorem zfm  : @opG P (.store w) l xs ⟨K⟩=@opK P (.store w) (hl l) xs ⟨λx H'=>∀l',H'=hl l'->K x l'⟩:=(YB rfl rfl).trans (by simp only[AK.appOk,Qv,EN])
theorem z1s  : @opG P (.mkSlice w n z) l xs ⟨K⟩=@opK P (.mkSlice w n z) (hl l) xs ⟨λx H'=>∀l',H'=hl l'->K x l'⟩:=(YB rfl rfl).trans (by simp only[AK.appOk,Qv,EN])
theorem G_app:@opG P (.app w n z) l xs ⟨K⟩=(0<w/\offA xs/\@opK P (.app w n z) (hl l) xs ⟨λx H'=>∀l',H'=hl l'->K x l'⟩):=(YB rfl rfl).trans (by simp only[AK.appOk,Qv,Aj])
theorem z8r{g v o n:Nat}:offA (.ref g v o n::xs)=(o=0):=rfl
theorem z1t:offA (.nilS::xs)=True:=rfl
theorem z8s:offA (.nul::xs)=True:=rfl
theorem z8t:offA (.emp::xs)=True:=rfl
theorem z1u{w:Nat}{ys:List AV}:offA (.full w ys::xs)=True:=rfl
theorem z8u{w:Nat}{ys:List AV}:offA (.lst w ys::xs)=True:=rfl
theorem zk0{f:Nat}:@opG P .call l (.fn f cs::xs) ⟨K⟩=@z7e P f (xs++cs) l ⟨K⟩:=(rfl)
theorem G_bsl{idx:List Nat}:@opG P (.bslice w len z idx) l xs ⟨K⟩=(Ih w len idx xs/\0<w/\AT (FQ idx xs (List.replicate len z))=true/\@nx (.full w (FQ idx xs (List.replicate len z))) (hl l) ⟨λx _=>K x l⟩):=(rfl)
theorem hl_eq{l l':List Grp}:(hl l=hl l')=(l=l'):=propext ⟨zc1,λh=>h ▸ rfl⟩
theorem eG{f:Nat}{y:AV}(h:PC P f xs y)(hh:AT xs=true/\@nx y (hl l) ⟨λy _=>K y l⟩):@z7e P f xs l ⟨K⟩:=⟨y,λH=>IA h hh.1 ⟨rfl,rfl⟩,hh.2⟩
theorem cG{f:Nat}{ys:List AV}{y:AV}(h:PC P f ys y)(hh:leSL [] xs ys/\AT ys=true/\@nx y (hl l) ⟨λy _=>K y l⟩):@z7e P f xs l ⟨K⟩:=⟨y,λH=>Ik (Kr hh.1) (IA h hh.2.1 ⟨rfl,rfl⟩),hh.2.2⟩
end
theorem BV{P:Program}{f m np:Nat}{xs:List AV}{y:AV}{res:List ARes}{B:AC}(hf:Bv P f xs.length=some ⟨m,np,res,B⟩)(h:W P m 0 B (entry xs) (hl []) (Ret P res λz H=>Ea 4 H z/\ansW (frzV 4 H z) y)):PC P f xs y:=by
 refine zi6 hf 4 ?_;rw[Wi];exact T.mono (W_T h) λx env H hh=>We (λz H hh=>⟨hh.1,zc2 hh.2⟩) hh
theorem z1v{P:Program}{f w:Nat}{y:AV}(h1:PC P f [.nilS] y)(h2:PC P f [.emp] y):PC P f [.lst w []] y:=by
 refine⟨h1.1,λS cargs hS hx=>?_⟩;obtain⟨v,r,rfl,⟨_,_,a,cap,vs,rfl,⟨_,hn⟩,_,_⟩,hr⟩:=hx;cases a with
 |none=>exact h1.2 S _ hS ⟨_,r,rfl,by rw[hn rfl];rfl,hr⟩
 |some a=>exact h2.2 S _ hS ⟨_,r,rfl,⟨a,cap,rfl⟩,hr⟩
section
variable {P:Program}{H:A7}{K:AV->A7->Prop}{n:Bool}{b d:Nat}{ks:List Nat}
theorem z1w:@opK P (.eqn n) H [.emp,.nilS] ⟨K⟩=@nx (.bool n) H ⟨K⟩:=(rfl)
theorem z1x:@opK P (.len false) H [.emp] ⟨K⟩=@nx (.int .i64 0) H ⟨K⟩:=(rfl)
theorem zk1:rnV b H ks (d+1) .emp=.emp:=rfl
end
theorem B4{P:Program}{n b:Nat}{c:AC}{env:Env}{H:A7}{Q:Ex->Env->A7->Prop}(h:T P n b (.loop c) env H Q):@JV ⟨T P n b (.loop c) env H Q⟩:=h
attribute [push_cast] z1w z1x zk1 Wi hl_n DT FR ze9 z1c z1d Sn zea z85 zil zeb z86 zim zin zio ziq rn_fn zir zed zis zit zee ziu zef zeg ziv ziw zeh
attribute [push_cast] zix zei g_le z89 z1f z8a z1g z1h Y5 z1i z1j Y7 z1k Y6 Uu Y8 zj4 zj5 zeo zj6 zep ze7 head1 head2 head3 zj7 zeq zj8 zer zj9 Wl FA zes zet zeu Jf zew CX List.cons_append List.nil_append
attribute [push_cast] z8r z1t z8s z8t z1u z8u G_mv zjx zfe zjy YC G_bin G_eqb G_eqs G_eqn G_un zjz zff zfg zfh zfi z8n zfj YD z1r G_len G_max G_min z8p zfk z8q zfl G_box zfm z1s G_app zk0 G_bsl hl_eq Ct forall_eq' forall_eq
attribute [push_cast] List.isEmpty_nil List.isEmpty_cons List.map_eq_nil_iff Option.isSome_some Option.isSome_none
attribute [push_cast] List.map_append List.length_append Option.map_some Option.map_none zev Uv Int.add_sub_cancel Int.sub_add_cancel Y9 YA z1l Nat.not_lt_zero Nat.zero_le
open IntWalk in
attribute [push_cast] i64_in i32_in u8_in u32_in u64_in z0w
theorem zz:type_of% (Aa @z1 <| Aa @z2 <| Aa @z3 <| Aa @z4 <| Aa @z5 <| Aa @z6 <| Aa @z7 <| Aa @z8 <| Aa @z9 <| Aa @z10 <| Aa @z11 <| Aa @z12 <| Aa @z13 <| Aa @z14 <| Aa @z15 <| Aa @z16 <| Aa @z17 <| Aa @z18 <| Aa @z19 <| Aa @z20 <| Aa @z21 <| Aa @z22 <| Aa @z23 <| Aa @z24 <| Aa @z25 <| Aa @z26 <| Aa @z27 <| Aa @z28 <| Aa @z29 <| Aa @z30 <| Aa @z31 <| Aa @z32 <| @z33):=Aa @z1 <| Aa @z2 <| Aa @z3 <| Aa @z4 <| Aa @z5 <| Aa @z6 <| Aa @z7 <| Aa @z8 <| Aa @z9 <| Aa @z10 <| Aa @z11 <| Aa @z12 <| Aa @z13 <| Aa @z14 <| Aa @z15 <| Aa @z16 <| Aa @z17 <| Aa @z18 <| Aa @z19 <| Aa @z20 <| Aa @z21 <| Aa @z22 <| Aa @z23 <| Aa @z24 <| Aa @z25 <| Aa @z26 <| Aa @z27 <| Aa @z28 <| Aa @z29 <| Aa @z30 <| Aa @z31 <| Aa @z32 <| @z33
end Go.Proofs.YtbcjoeadpjfcfaaGreat.Abs
namespace Go.Proofs.YtbcjoeadpjfcfaaGreat
open Abs
structure Span where
 lo:Int
 hi:Int
 deriving DecidableEq,Inhabited
structure Part where
 at_:Int
 drop:Int
 take:Int
 up:Int
 deriving DecidableEq,Inhabited
structure Term where
 base:Int
 drop:Int
 take:Int
 up:Int
 sum:Int
 parts:List Part
 deriving DecidableEq,Inhabited
structure Rule where
 from_:Int
 to_:Int
 guards:List (List Span)
 eat:Int
 out:List Term
 deriving DecidableEq,Inhabited
structure Es where
 from_:Int
 guards:List (List Span)
 out:List Term
 deriving DecidableEq,Inhabited
structure Desc where
 in_:Int
 out:Int
 states:Int
 start:Int
 rules:List Rule
 finals:List Es
 deriving DecidableEq,Inhabited
abbrev OK(l:List Int):AV:=.lst 1 (l.map (AV.int .i64))
abbrev Bf(l:List Int):AV:=.lst 1 (l.map (AV.int .i32))
abbrev Dl(s:Span):AV:=.agg [.int .i64 s.lo,.int .i64 s.hi]
abbrev AY(l:List Span):AV:=.lst 2 (l.map Dl)
abbrev Bs(l:List (List Span)):AV:=.lst 1 (l.map AY)
abbrev DO(p:Part):AV:=.agg [.int .i64 p.at_,.int .i64 p.drop,.int .i64 p.take,.int .i64 p.up]
abbrev Co(l:List Part):AV:=.lst 4 (l.map DO)
abbrev Dv(t:Term):AV:=.agg [.int .i64 t.base,.int .i64 t.drop,.int .i64 t.take,.int .i64 t.up,.int .i64 t.sum,Co t.parts]
abbrev C9(l:List Term):AV:=.lst 6 (l.map Dv)
abbrev D6(r:Rule):AV:=.agg [.int .i64 r.from_,.int .i64 r.to_,Bs r.guards,.int .i64 r.eat,C9 r.out]
abbrev CB(f:Es):AV:=.agg [.int .i64 f.from_,Bs f.guards,C9 f.out]
abbrev DF(l:List Rule):AV:=.lst 5 (l.map D6)
abbrev Fb(l:List Es):AV:=.lst 3 (l.map CB)
abbrev Dm(d:Desc):AV:=.agg [.int .i64 d.in_,.int .i64 d.out,.int .i64 d.states,.int .i64 d.start,DF d.rules,Fb d.finals]
abbrev Hl(l:List (List Int)):AV:=.lst 1 (l.map Bf)
theorem FC(l:List Span):AT (l.map Dl)=true:=G6 (λ_=>rfl) l
theorem Io(l:List Part):AT (l.map DO)=true:=G6 (λ_=>rfl) l
theorem AL(l:List (List Span)):AT (l.map AY)=true:=G6 (λs=>by simp only[AY,AV.pure,FC]) l
theorem B5(l:List Term):AT (l.map Dv)=true:=G6 (λs=>by simp[Dv,AV.pure,AT,Io]) l
theorem B8(l:List Rule):AT (l.map D6)=true:=G6 (λs=>by simp[D6,AV.pure,AT,AL,B5]) l
theorem B6(l:List Es):AT (l.map CB)=true:=G6 (λs=>by simp[CB,AV.pure,AT,AL,B5]) l
theorem CI(l:List (List Int)):AT (l.map Bf)=true:=G6 (λs=>by simp only[Bf,AV.pure,Cv]) l
attribute [push_cast] FC Io AL B5 B8 B6 CI
end Go.Proofs.YtbcjoeadpjfcfaaGreat
namespace Go.Proofs.YtbcjoeadpjfcfaaGreat.Abs
open Go.RowKit
inductive Sh where
 |bool
 |int (k:IntKind)
 |str
 |sl (agg:Bool) (fs:List Sh)
mutual
def Is:Sh->AV->Prop
 |.bool,x=>∃b,x=.bool b
 |.int k,x=>∃n,x=.int k n/\(Lit.int k n).wf=true
 |.str,x=>∃s:List UInt8,x=.str s/\s.length<=maxLen
 |.sl agg fs,x=>x=.nilS\/∃xs,x=.lst fs.length xs/\xs.length<=maxLen/\∀y∈xs,∃cs,y=(if agg then .agg cs else cs.headD .any)/\IsL fs cs
def IsL:List Sh->List AV->Prop
 |[],cs=>cs=[]
 |s::fs,cs=>∃c r,cs=c::r/\Is s c/\IsL fs r
end
theorem z1y:∀{fs:List Sh}{cs:List AV},IsL fs cs->cs.length=fs.length
 |[],_,h=>by rw[show _=[] from h];rfl
 |_::_,_,⟨_,_,h,_,k⟩=>by rw[h];simp[z1y k]
mutual
def OL(P:Program):Sh->TypeId->Bool
 |.bool,t=>match P.underlying t with|some .bool=>true|_=>false
 |.int k,t=>match P.underlying t with|some (.int k')=>k' == k|_=>false
 |.str,t=>match P.underlying t with|some .string=>true|_=>false
 |.sl agg fs,t=>match P.underlying t with
  |some (.slice e)=>P.cellsOf e == fs.length&&!fs.isEmpty&&(match agg,P.underlying e with
   |true,some (.struct fl)=>OM P fs 0 fl.toList
   |true,some (.array n u)=>fs.length == n&&P.cellsOf u == 1&&z1z P fs u
   |false,_=>fs.length == 1&&z1z P fs e
   |_,_=>false)
  |_=>false
def OM(P:Program):List Sh->Nat->List Field->Bool
 |[],_,[]=>true
 |s::ss,i,f::fl=>f.offset == i&&P.cellsOf f.type == 1&&OL P s f.type&&OM P ss (i+1) fl
 |_,_,_=>false
def z1z(P:Program):List Sh->TypeId->Bool
 |[],_=>true
 |s::ss,u=>OL P s u&&z1z P ss u
end
section
variable {H:Type}{enc:TypeId × Value->H}{P:Program}{w:World}{base:Nat}{spare:Nat->Bool}{held:Bool}
def Got(w:World)(s:Sh)(v:Value):Prop:=∃x,Is s x/\VRel (MS.start w) x v/\x.pure=true/\x.one=true
def GotL(w:World)(fs:List Sh)(vs:List Value):Prop:=∃xs,IsL fs xs/\AI (MS.start w) xs vs/\AT xs=true/\Gn xs=true
theorem Wm:GotL w [] []:=⟨[],rfl,rfl,rfl,rfl⟩
theorem Sr{s:Sh}{fs:List Sh}{v:Value}{vs:List Value}(h:Got w s v)(k:GotL w fs vs):GotL w (s::fs) (v::vs):=by
 obtain⟨x,h1,h2,h3,h4⟩:=h;obtain⟨xs,k1,k2,k3,k4⟩:=k;exact⟨x::xs,⟨x,xs,rfl,h1,k1⟩,⟨v,vs,rfl,h2,k2⟩,by simp[AT,h3,k3],by simp[Gn,h4,k4]⟩
theorem Uw{a:Addr}{v:Value}(h:w.cell? a=some v):(MS.start w).im a.block:=Yr h
theorem zfn{agg:Bool}{fs:List Sh}{a:Addr}{len cap sz:Nat}(hsz:sz=fs.length)(hpos:0<fs.length)(hagg:agg=false->fs.length=1)(hlc:len<=cap)(hcap:cap<=maxLen)
 (h:∀i,i<len->∃cs',w.cells? base (a.add (i * sz)) sz=some cs'/\GotL w fs cs'):Got w (.sl agg fs) (.slice (some a) len cap):=by
 subst hsz
 have h':∀i:Nat,∃p:List AV × List Value,i<len->(w.cells? base (a.add (i * fs.length)) fs.length=some p.2/\IsL fs p.1/\AI (MS.start w) p.1 p.2/\AT p.1=true/\Gn p.1=true):=by
  intro i;by_cases hi:i<len
  ·obtain⟨cs',h1,xs,h2,h3,h4,h5⟩:=h i hi
   exact⟨(xs,cs'),λ_=>⟨h1,h2,h3,h4,h5⟩⟩
  ·exact⟨([],[]),λh=>absurd h hi⟩
 obtain⟨p,hp⟩:=Classical.axiomOfChoice h'
 let E:List AV->AV:=λcs=>if agg then .agg cs else cs.headD .any
 let V:List Value->Value:=λcs=>if agg then .agg cs.toArray else cs.headD undef
 let xs:List AV:=(List.range len).map λi=>E (p i).1
 let vs:List Value:=(List.range len).map λi=>V (p i).2
 have hone:∀i,i<len->(V (p i).2).cells.toList=(p i).2/\VRel (MS.start w) (E (p i).1) (V (p i).2)/\(E (p i).1).pure=true:=by
  intro i hi;obtain⟨q1,q2,q3,q4,q5⟩:=hp i hi;have hl1:(p i).1.length=fs.length:=z1y q2;cases agg with
  |true=>exact⟨by simp[V,Value.cells],⟨_,rfl,q3⟩,by simp[E,AV.pure,q4]⟩
  |false =>
   have h1:=hagg rfl;rw[h1] at hl1
   match hc:(p i).1,(p i).2,q3,q4,q5,hl1 with
   |[c],[v],⟨v',r,hv,hr,hr2⟩,q4,q5,_ =>
    cases hv;have hno:c.one=true:=by simpa [Gn] using q5
    have hcc:c.cells=[c]:=by cases c<;>first|rfl|(simp[AV.one] at hno)
    have hca:c.isAny=false:=by cases c<;>first|rfl|(simp[AV.one] at hno)
    have hcl:=VRel.cells hca hr;rw[hcc] at hcl;obtain⟨u,r2,hu,hu2,hu3⟩:=hcl;rw[show r2=[] from hu3] at hu
    have hv1:v.cells.toList=[v]:=by
     have:=one_cell hr hno;cases v<;>first|rfl|(simp[Value.oneCell'] at this)
    exact⟨by simpa [V] using hv1,by simpa [E,V] using hr,by simpa [E,AT] using q4⟩
 have hxl:xs.length=len:=by simp[xs]
 have hvl:vs.length=len:=by simp[vs]
 have hxi:∀i,i<len->xs[i]? = some (E (p i).1):=λi hi=>by simp[xs,hi]
 have hvi:∀i,i<len->vs[i]? = some (V (p i).2):=λi hi=>by simp[vs,hi]
 have hvs:AI (MS.start w) xs vs:=AI.of_get (by rw[hxl,hvl]) λi x v hx hv=>by
  have hi:i<len:=by rw[<-hxl];exact (Bq.1 hx).1
  rw[hxi i hi] at hx;rw[hvi i hi] at hv;cases hx;cases hv;exact (hone i hi).2.1
 have hpu:AT xs=true:=Ca.2 λx hx=>by
  obtain⟨i,hi,rfl⟩:=Aq.1 hx;exact (hone i (Bo.1 hi)).2.2
 refine⟨.lst fs.length xs,.inr ⟨xs,rfl,by rw[hxl];omega,λy hy=>?_⟩,⟨hpu,hpos,some a,cap,vs,by rw[hxl],⟨by rw[hxl];exact hlc,λhn=>by cases hn⟩,hvs,λhne=>?_⟩,by simpa [AV.pure] using hpu,rfl⟩
 ·obtain⟨i,hi,rfl⟩:=Aq.1 hy
  exact⟨_,rfl,(hp i (Bo.1 hi)).2.1⟩
 ·have h0:0<len:=by rw[<-hxl];exact E0.2 hne
  obtain⟨b,o,spot⟩:=a
  have hcell:∀i,i<len->∀j,j<fs.length->w.cell? ((⟨b,o,spot⟩:Addr).add (i * fs.length+j))=(p i).2[j]? := λi hi j hj=>by
   obtain⟨_,_,hat⟩:=World.cells?_some (hp i hi).1;rw[<-hat j hj,<-Go.Deep.add_add]
  have hlen2:∀i,i<len->(p i).2.length=fs.length:=λi hi=>(World.cells?_some (hp i hi).1).2.1;have hc0:=hcell 0 h0 0 hpos;rw[Ao (by rw[hlen2 0 h0];exact hpos)] at hc0;have hspot:spot=none:=by simpa [Addr.add] using World.cell?_spot hc0
  subst hspot;have hbk:∀k:Nat,((⟨b,o,none⟩:Addr).add k).block=b:=λk=>by unfold Addr.add;split<;>rfl
  refine⟨b,o,rfl,by have:=Uw hc0;rwa [hbk] at this,λi v hv=>?_⟩;have hi:i<len:=by rw[<-hvl];exact (Bq.1 hv).1
  rw[hvi i hi] at hv;cases hv;obtain⟨e1,_,_⟩:=hone i hi;have e1':(V (p i).2).cells=(p i).2.toArray:=by simpa using EL List.toArray e1
  obtain⟨_,q2,q3,_,q5⟩:=hp i hi;refine⟨by rw[e1'];simp[hlen2 i hi],λc hc=>?_,λj hj=>?_⟩
  ·rw[e1'] at hc
   exact MV q3 q5 c (by simpa using hc)
  ·rw[e1']
   have:=hcell i hi j hj
   have ea:(⟨b,o,none⟩:Addr).add (i * fs.length+j)=⟨b,o+i * fs.length+j,none⟩:=by
    unfold Addr.add;split
    ·rename_i hz
     have:i * fs.length=0/\j=0:=by simpa using hz
     rw[this.1,this.2];rfl
    ·simp[Bu]
   rw[ea] at this;refine this.trans ?_;simp
theorem Nt:∀{fs:List Sh}{i:Nat}{fl:List Field},OM P fs i fl=true->fl.length=fs.length
 |[],_,[],_=>rfl
 |[],_,_::_,h=>by simp[OM] at h
 |_::_,_,[],h=>by simp[OM] at h
 |s::fs,i,f::fl,h=>by
  simp only[OM,Ad] at h;simp[Nt h.2]
mutual
theorem zfo:∀(s:Sh){t:TypeId}{fuel:Nat}{v:Value}{d:DataW H × List MemPlace},OL P s t=true->DataW.trod enc P w base spare held fuel t [v]=some d->Got w s v
 |.bool,t,fuel,v,d,hf,h=>by
  cases fuel with
  |zero=>simp[DataW.trod] at h
  |succ n =>
   simp only[OL] at hf;split at hf
   ·rename_i ht
    unfold DataW.trod at h;rw[ht] at h;cases v<;>simp at h;rename_i b;exact⟨.bool b,⟨b,rfl⟩,rfl,rfl,rfl⟩
   ·cases hf
 |.int k,t,fuel,v,d,hf,h=>by
  cases fuel with
  |zero=>simp[DataW.trod] at h
  |succ n =>
   simp only[OL] at hf;split at hf
   ·rename_i k' ht
    obtain rfl:k'=k:=by simpa using hf
    unfold DataW.trod at h;rw[ht] at h;cases v<;>simp at h;rename_i k2 m;obtain⟨⟨rfl,hw⟩,_⟩:=h;exact⟨.int k2 m,⟨m,rfl,hw⟩,rfl,rfl,rfl⟩
   ·cases hf
 |.str,t,fuel,v,d,hf,h=>by
  cases fuel with
  |zero=>simp[DataW.trod] at h
  |succ n =>
   simp only[OL] at hf;split at hf
   ·rename_i ht
    unfold DataW.trod at h;rw[ht] at h;cases v<;>simp at h;rename_i s;exact⟨.str s.data.toList,⟨_,rfl,by simpa using h.1⟩,rfl,rfl,rfl⟩
   ·cases hf
 |.sl agg fs,t,fuel,v,d,hf,h=>by
  simp only[OL] at hf;split at hf
  ·rename_i e ht
   simp only[Ad,Cp,CC,List.isEmpty_eq_false_iff] at hf;obtain⟨⟨hsz,hne⟩,hfe⟩:=hf;have hpos:0<fs.length:=E0.2 hne;rcases Go.Deep.open_slice ht h with⟨hv,_⟩|⟨a,len,cap,m,n,D,Pl,hv,hb,hl,hm,hmm,hx,hi⟩
   ·cases hv
    exact⟨.nilS,.inl rfl,rfl,rfl,rfl⟩
   ·cases hv
    have hlm:len<=m:=by rw[hmm];split<;>omega
    have hag:agg=false->fs.length=1:=λha=>by
     subst ha;simp only[Ad,Cp] at hfe;exact hfe.1
    refine zfn (base:=base) hsz hpos hag hl hm λi hil=>?_;obtain⟨cs',hc,ht'⟩:=hi i (by omega);refine⟨cs',hc,?_⟩;have hcl:=(World.cells?_some hc).2.1;cases agg with
    |true =>
     split at hfe
     ·rename_i fl _ he
      obtain⟨ys,n',_,_,_,hlen,hg⟩:=DataW.trod_struct he ht';have hfl:=Nt hfe
      exact zfp fs (fl:=fl.toList) (i:=0) (cs:=cs') hfe (by rw[hcl,hsz];omega) λj f hj=>by
       have:=hg j f (by simpa using hj);have hj2:j<ys.length:=by rw[hlen];have:=(Bq.1 hj).1;simpa using this
       rw[Ao hj2] at this;exact⟨n',_,this,rfl⟩
     ·rename_i n2 u _ he
      simp only[Ad,Cp] at hfe;obtain⟨⟨hn,hu⟩,hfa⟩:=hfe;obtain⟨ys,n',_,_,hlen,hyl,hg⟩:=DataW.trod_array he ht';refine zfq fs (u:=u) (cs:=cs') (i:=0) hfa (by omega) λj hj=>?_;have h1:=hg j (by omega);rw[hu,Nat.mul_one] at h1;have h2:ys[j]? = some (ys[j]'(by omega)):=Ao (by omega);rw[h2] at h1;exact⟨n',_,by rw[Bn];exact h1⟩
     ·rename_i hh;cases hh
     ·cases hfe
    |false =>
     simp only[Ad,Cp] at hfe;refine zfq fs (u:=e) (cs:=cs') (i:=0) hfe.2 (by omega) λj hj=>?_;obtain rfl:j=0:=by omega
     exact⟨n,_,by rw[CM,Ar (by omega)];exact ht'⟩
  ·cases hf
theorem zfp:∀(fs:List Sh){fl:List Field}{i:Nat}{cs:List Value},OM P fs i fl=true->cs.length=i+fs.length ->
 (∀(j:Nat)(f:Field),fl[j]? = some f->∃n y,DataW.trod enc P w base spare held n f.type ((cs.drop f.offset).take (P.cellsOf f.type))=y/\y.isSome=true)->GotL w fs (cs.drop i)
 |[],fl,i,cs,hf,hl,h=>by
  rw[A6 (by rw[hl];simp)];exact Wm
 |s::fs,fl,i,cs,hf,hl,h=>by
  cases fl with
  |nil=>simp[OM] at hf
  |cons f fl =>
   simp only[OM,Ad,Cp] at hf;obtain⟨⟨⟨ho,hc⟩,hs⟩,hr⟩:=hf;have hi:i<cs.length:=by rw[hl];simp
   rw[CG hi];obtain⟨n,y,h1,h2⟩:=h 0 f rfl;obtain⟨d,rfl⟩:=Option.isSome_iff_exists.1 h2;rw[ho,hc,CG hi,List.take_succ_cons,List.take_zero] at h1;refine Sr (zfo s hs h1) (zfp fs hr (by rw[hl];simp;omega) λj g hj=>h (j+1) g (by simpa using hj))
theorem zfq:∀(fs:List Sh){u:TypeId}{i:Nat}{cs:List Value},z1z P fs u=true->cs.length=i+fs.length ->
 (∀j,j<fs.length->∃n d,DataW.trod enc P w base spare held n u ((cs.drop (i+j)).take 1)=some d)->GotL w fs (cs.drop i)
 |[],u,i,cs,hf,hl,h=>by
  rw[A6 (by rw[hl];simp)];exact Wm
 |s::fs,u,i,cs,hf,hl,h=>by
  simp only[z1z,Ad] at hf;have hi:i<cs.length:=by rw[hl];simp
  rw[CG hi];obtain⟨n,d,h1⟩:=h 0 (by simp);rw[Nat.add_zero,CG hi,List.take_succ_cons,List.take_zero] at h1;refine Sr (zfo s hf.1 h1) (zfq fs hf.2 (by rw[hl];simp;omega) λj hj=>?_);have:=h (j+1) (by simp;omega)
  rwa [show i+(j+1)=i+1+j by omega] at this
end
end
open Go.RowKit Go.ChangeShapes Go.WideShapes
inductive PSh where
 |cell (s:Sh)
 |rcd (fs:List Sh)
def IsP:PSh->AV->Prop
 |.cell s,x=>Is s x
 |.rcd fs,x=>∃cs,x=.agg cs/\IsL fs cs
def IsPs:List PSh->List AV->Prop
 |[],xs=>xs=[]
 |p::ps,xs=>∃x r,xs=x::r/\IsP p x/\IsPs ps r
def zfr(P:Program):PSh->TypeId->Bool
 |.cell s,t=>OL P s t
 |.rcd fs,t=>match P.underlying t with
  |some (.struct fl)=>P.cellsOf t == fs.length&&OM P fs 0 fl.toList
  |_=>false
def Pu(P:Program):List PSh->List TypeId->Bool
 |[],[]=>true
 |p::ps,t::ts=>zfr P p t&&Pu P ps ts
 |_,_=>false
section
variable {H:Type}{enc:TypeId × Value->H}{P:Program}{w:World}{spare:Nat->Bool}{held:Bool}
theorem Ux{s:Sh}{t:TypeId}{r:Reach}{b0:Nat}{v:Value}(hf:OL P s t=true)(h:Value.okWide P w r b0 t v):v.cells.toList=[v]:=by
 cases s<;>simp only[OL] at hf<;>split at hf<;>first|(cases hf;done)|skip
 ·obtain⟨b,rfl⟩:=okWide_bool ‹_› h;rfl
 ·obtain⟨b,rfl⟩:=okWide_int ‹_› h;rfl
 ·obtain⟨b,rfl⟩:=okWide_string ‹_› h;rfl
 ·obtain⟨a,l,c,rfl⟩:=okWide_slice ‹_› h;rfl
theorem zfs{p:PSh}{t:TypeId}{r:Reach}{b0:Nat}{v:Value}{d:DataW H}{ps:List MemPlace}(hf:zfr P p t=true)(hw:Value.okWide P w r b0 t v)(h:DataW.Trod enc P w 0 spare held t v d ps):∃x,IsP p x/\VRel (MS.start w) x v:=by
 obtain⟨fuel,h⟩:=h;cases p with
 |cell s =>
  rw[Ux hf hw] at h;obtain⟨x,h1,h2,_⟩:=zfo s hf h;exact⟨x,h1,h2⟩
 |rcd fs =>
  simp only[zfr] at hf;split at hf
  ·rename_i fl ht
   simp only[Ad,Cp] at hf;obtain⟨cs,rfl,hc⟩:=okWide_struct ht hw;obtain⟨ys,n',_,_,_,hlen,hg⟩:=DataW.trod_struct ht h;have hfl:=Nt hf.2
   obtain⟨xs,h1,h2,_⟩:=zfp fs (fl:=fl.toList) (i:=0) (cs:=cs.toList) hf.2 (by simp;omega) λj f hj=>by
    have:=hg j f (by simpa using hj);have hj2:j<ys.length:=by rw[hlen];have:=(Bq.1 hj).1;simpa using this
    rw[Ao hj2] at this;exact⟨n',_,this,rfl⟩
   exact⟨.agg xs,⟨xs,rfl,h1⟩,cs.toList,by simp,by simpa using h2⟩
  ·cases hf
theorem Wn:∀{ps:List PSh}{ts:List TypeId}{vs:List Value}{ds:List (DataW H)}{q:List MemPlace}{r:Reach}{b0:Nat},Pu P ps ts=true->(∀(j:Nat) t v,ts[j]? = some t->vs[j]? = some v->Value.okWide P w r b0 t v) ->
 DataW.TrodAll enc P w 0 spare held ts vs ds q->∃xs,IsPs ps xs/\AI (MS.start w) xs vs
 |[],[],[],[],_,_,_,_,_,_=>⟨[],rfl,rfl⟩
 |p::ps,t::ts,v::vs,d::ds,_,_,_,hf,hw,⟨a,b,h1,h2,_⟩=>by
  simp only[Pu,Ad] at hf;obtain⟨x,k1,k2⟩:=zfs hf.1 (hw 0 t v rfl rfl) h1;obtain⟨xs,k3,k4⟩:=Wn hf.2 (λj t v ht hv=>hw (j+1) t v (by simpa using ht) (by simpa using hv)) h2;exact⟨x::xs,⟨x,xs,rfl,k1,k3⟩,v,vs,rfl,k2,k4⟩
 |[],_::_,_,_,_,_,_,hf,_,_=>by simp[Pu] at hf
 |_::_,[],_,_,_,_,_,hf,_,_=>by simp[Pu] at hf
 |[],[],_::_,_,_,_,_,_,_,h=>h.elim
 |[],[],[],_::_,_,_,_,_,_,h=>h.elim
 |_::_,_::_,[],_,_,_,_,_,_,h=>by cases ‹List (DataW H)›<;>exact h.elim
 |_::_,_::_,_::_,[],_,_,_,_,_,h=>h.elim
def z2a(P:Program)(ts:List TypeId):Bool:=ts.all λt=>P.readableRec t&&decide (t<P.types.size)
theorem Nu{W W':World}(hl:laidOutB P=true)(hb:Below W.heap.size W W'):∀{ts:List TypeId}{vs:List Value}{ds:List (DataW H)}{ps:List MemPlace},z2a P ts=true->(∀x∈ps,x.block<W.heap.size) ->
 DataW.TrodAll enc P W 0 (λ_=>true) true ts vs ds ps->DataW.TrodAll enc P W' 0 (λb=>decide (b<W.heap.size)) true ts vs ds ps
 |[],[],[],_,_,_,h=>h
 |t::ts,v::vs,d::ds,_,hr,hlt,⟨a,b,h1,h2,e⟩=>by
  subst e;simp only[z2a,List.all_cons,Ad,Aj] at hr;exact⟨a,b,Below.trod hl hr.1.1 hr.1.2 h1 hb (λx hx=>hlt x (Dq _ hx)),Nu hl hb (by simpa [z2a] using hr.2) (λx hx=>hlt x (DZ _ hx)) h2,rfl⟩
 |[],[],_::_,_,_,_,h=>h.elim
 |[],_::_,_,_,_,_,h=>by cases ‹List (DataW H)›<;>exact h.elim
 |_::_,[],_,_,_,_,h=>by cases ‹List (DataW H)›<;>exact h.elim
 |_::_,_::_,[],_,_,_,h=>h.elim
theorem Ss{f:Nat}{ps:List PSh}{ts:List TypeId}(hf:Pu P ps ts=true)(h:∀xs,IsPs ps xs->PC P f xs (.bool true)){args:Array Value}{ds:List (DataW H)}{q:List MemPlace}{r:Reach}{b0:Nat}
 (hw:∀(j:Nat) t v,ts[j]? = some t->args.toList[j]? = some v->Value.okWide P w r b0 t v) (hA:DataW.TrodAll enc P w 0 spare held ts args.toList ds q) :
 Calls P f args w λe w'=>e=.returned (.bool true)/\Below w.heap.size w w':=by
 obtain⟨xs,h1,h2⟩:=Wn hf hw hA;have:=(h xs h1).below h2;simpa using this
end
end Go.Proofs.YtbcjoeadpjfcfaaGreat.Abs
set_option maxRecDepth 100000
namespace Go.Proofs.YtbcjoeadpjfcfaaGreat
open Abs
abbrev s_(n:Nat):AArg:=.slot n
abbrev k_(x:AV):AArg:=.const x
abbrev h_(a:List AArg)(k:AK):AOp:=⟨none,a,none,k⟩
abbrev m_(d:Nat)(a:List AArg)(k:AK):AOp:=⟨some d,a,none,k⟩
abbrev g_(d g:Nat)(w:Bool)(a:List AArg)(k:AK):AOp:=⟨some d,a,some (g,w),k⟩
abbrev ld:AK:=.load false 1
abbrev ln:AK:=.len false
abbrev l6:AK:=.load true 6
abbrev nt:AK:=.un .not
abbrev st:AK:=.store 1
abbrev f0_:AK:=.faddr false 0 1
abbrev f1_:AK:=.faddr false 1 1
abbrev f2_:AK:=.faddr false 2 1
abbrev f3_:AK:=.faddr false 3 1
abbrev f4_:AK:=.faddr false 4 1
abbrev f5_:AK:=.faddr false 5 1
abbrev bad_:AK:=.bin .add
abbrev bls_:AK:=.bin .lss
abbrev beq_:AK:=.bin .eql
abbrev bgt_:AK:=.bin .gtr
abbrev bsu_:AK:=.bin .sub
abbrev ble_:AK:=.bin .leq
abbrev bne_:AK:=.bin .neq
abbrev bge_:AK:=.bin .geq
abbrev a1_:AK:=.iaddr 1
abbrev a2_:AK:=.iaddr 2
abbrev a3_:AK:=.iaddr 3
abbrev a4_:AK:=.iaddr 4
abbrev a5_:AK:=.iaddr 5
abbrev a6_:AK:=.iaddr 6
abbrev v_(d a:Nat):AOp:=⟨some d,[.slot a],none,.mv⟩
abbrev z_(d:Nat):AOp:=⟨some d,[.const (.int .i64 0)],none,.mv⟩
abbrev i1_(d a:Nat):AOp:=⟨some d,[.slot a,.const (.int .i64 1)],none,.bin .add⟩
abbrev bf_(d:Nat):AOp:=⟨some d,[.const (.bool false)],none,.mv⟩
abbrev bt_(d:Nat):AOp:=⟨some d,[.const (.bool true)],none,.mv⟩
abbrev ns_(d:Nat):AOp:=⟨some d,[.const .nilS],none,.mv⟩
abbrev ex_(s e:Nat):AC:=.cond (.slot s) .skip (.exit e)
abbrev i_(s:Nat)(a b:AC):AC:=.cond (.slot s) a b
abbrev sr_(l:List AOp)(c:AC):AC:=.seq (.reg l) c
def Ha:AC:=(sr_ [bf_ 2] (sr_ [v_ 14 0,c2 15 14 (.int .u8 14) (.bin .rem),o1 16 15 (.conv .i64),v_ 3 16] (sr_ [v_ 17 3,i1_ 18 17,v_ 19 3,o1 20 19 (.build [(.int .i64 0),.nilS,.nilS] [(0,1),(1,1),(2,1)] [0]),o1 21 20 (.bslice 3 1 (.agg [(.int .i64 0),.nilS,.nilS]) [0]),m_ 22 [k_ (.int .i64 1),k_ (.int .i64 1),s_ 18,s_ 21] (.build [(.int .i64 0),(.int .i64 0),(.int .i64 0),(.int .i64 0),.nilS,.nilS] [(0,1),(1,1),(2,1),(3,1),(4,1),(5,1)] [0,1,2,5]),o0 4 (.alloc (.agg [(.int .i64 0),(.int .i64 0),(.int .i64 0),(.int .i64 0),.nilS,.nilS]) 6),n2 4 22 (.store 6)] (sr_ [z_ 5] (.seq (sr_ [z_ 6] (.block 0 (.loop (.seq (sr_ [v_ 23 6,v_ 24 3,o2 25 23 24 bls_] (ex_ 25 0)) (.seq (.block 1 (.reg [o1 28 4 f4_,o1 29 28 ld,v_ 30 6,v_ 31 6,i1_ 32 31,m_ 33 [k_ (.int .i64 21),k_ (.int .i64 120)] (.build [(.int .i64 0),(.int .i64 0),(.int .i64 0),(.int .i64 0),(.int .i64 0),.nilS] [(0,1),(1,1),(2,1),(3,1),(4,1),(5,1)] [2,4]),o1 34 33 (.bslice 6 1 (.agg [(.int .i64 0),(.int .i64 0),(.int .i64 0),(.int .i64 0),(.int .i64 0),.nilS]) [0]),o3 35 30 32 34 (.build [(.int .i64 0),(.int .i64 0),.nilS,(.int .i64 0),.nilS] [(0,1),(1,1),(2,1),(3,1),(4,1)] [0,1,4]),v_ 36 6,v_ 37 6,i1_ 38 37,m_ 39 [k_ (.int .i64 21),k_ (.int .i64 121)] (.build [(.int .i64 0),(.int .i64 0),(.int .i64 0),(.int .i64 0),(.int .i64 0),.nilS] [(0,1),(1,1),(2,1),(3,1),(4,1),(5,1)] [2,4]),o1 40 39 (.bslice 6 1 (.agg [(.int .i64 0),(.int .i64 0),(.int .i64 0),(.int .i64 0),(.int .i64 0),.nilS]) [0]),o3 41 36 38 40 (.build [(.int .i64 0),(.int .i64 0),.nilS,(.int .i64 0),.nilS] [(0,1),(1,1),(2,1),(3,1),(4,1)] [0,1,4]),o2 42 35 41 (.bslice 5 2 (.agg [(.int .i64 0),(.int .i64 0),.nilS,(.int .i64 0),.nilS]) [0,1]),o2 43 29 42 (.app 5 72 (.agg [(.int .i64 0),(.int .i64 0),.nilS,(.int .i64 0),.nilS])),o1 44 4 f4_,n2 44 43 st])) (.reg [v_ 26 6,i1_ 27 26,v_ 6 27])))))) (.seq (sr_ [z_ 7] (.block 2 (.loop (.seq (sr_ [v_ 45 7,v_ 46 3,o2 47 45 46 ble_] (ex_ 47 2)) (.seq (.block 3 (.reg [v_ 50 5,v_ 51 7,i1_ 52 51,m_ 53 [k_ (.int .i64 1),s_ 52] (.bin .shl),o2 54 50 53 bad_,c2 55 54 (.int .i64 1) bsu_,v_ 5 55])) (.reg [v_ 48 7,i1_ 49 48,v_ 7 49])))))) (sr_ [o1 57 4 l6,k1 58 17 57,v_ 56 58,o1 59 56 (.extract 0),o1 60 56 (.extract 1),v_ 8 59,v_ 9 60] (sr_ [o1 62 4 l6,k1 63 20 62,v_ 61 63,o1 64 61 (.extract 0),o1 65 61 (.extract 1),o0 10 (.alloc (.agg [(.int .i64 0),(.int .i64 0),(.int .i64 0),(.int .i64 0),.nilS,.nilS]) 6),n2 10 64 (.store 6),v_ 11 65] (.seq (sr_ [v_ 66 5,c2 67 66 (.int .i64 4096) bgt_] (i_ 67 (sr_ [v_ 68 8,c2 69 68 (.int .i64 0) beq_,v_ 70 69,g1 71 70 9 .mv,g_ 72 70 true [s_ 71,k_ (.int .i64 4)] beq_,m_ 73 [s_ 70,s_ 72,k_ (.bool false)] .pick,v_ 74 73,g1 75 74 11 .mv,g_ 76 74 true [s_ 75,k_ (.int .i64 4)] beq_,m_ 77 [s_ 74,s_ 76,k_ (.bool false)] .pick,v_ 78 77,g_ 79 78 true [k_ (.fn 16 [])] .call,m_ 80 [s_ 78,s_ 79,k_ (.bool false)] .pick,v_ 2 80] .ret) .skip)) (sr_ [o1 82 10 l6,m_ 83 [k_ (.fn 26 []),s_ 82,k_ .nilS,k_ (.int .i64 10000)] .call,v_ 81 83,o1 84 81 (.extract 0),o1 85 81 (.extract 1),v_ 12 84,v_ 13 85] (.seq (.dtl [v_ 86 8,v_ 87 5,o2 88 86 87 beq_,v_ 89 88,g1 90 89 9 .mv,g_ 91 89 true [s_ 90,k_ (.int .i64 0)] beq_,m_ 92 [s_ 89,s_ 91,k_ (.bool false)] .pick,v_ 93 92,g1 94 93 11 .mv,g_ 95 93 true [s_ 94,k_ (.int .i64 0)] beq_,m_ 96 [s_ 93,s_ 95,k_ (.bool false)] .pick,v_ 97 96,g1 98 97 10 f5_,g1 99 97 98 ld,g1 100 97 99 ln,g1 101 97 3 .mv,g_ 102 97 true [s_ 101,k_ (.int .i64 1)] bad_,g_ 103 97 true [k_ (.int .i64 1),s_ 102] (.bin .shl),g_ 104 97 true [s_ 103,k_ (.int .i64 1)] bsu_,g2 105 97 100 104 beq_,m_ 106 [s_ 97,s_ 105,k_ (.bool false)] .pick,v_ 107 106,g1 108 107 13 .mv,g_ 109 107 true [s_ 108,k_ (.int .i64 0)] beq_,m_ 110 [s_ 107,s_ 109,k_ (.bool false)] .pick,v_ 111 110,g1 112 111 12 .mv,g1 113 111 112 ln,g1 114 111 3 .mv,g_ 115 111 true [k_ (.int .i64 1),s_ 114] (.bin .shl),g2 116 111 113 115 beq_,m_ 117 [s_ 111,s_ 116,k_ (.bool false)] .pick,v_ 118 117] [g_ 119 118 true [k_ (.fn 16 [])] .call,m_ 120 [s_ 118,s_ 119,k_ (.bool false)] .pick,v_ 2 120]) .ret)))))))))))
theorem Jh:Bv Tryz.prog 12 1=some ⟨121,1,[(.slot 2)],Ha⟩:=by kernel_rfl
def CJ:AC:=(sr_ [o1 2 0 .box,bf_ 4] (.seq (sr_ [o1 11 2 l6,k1 12 15 11,o1 13 12 nt,v_ 14 13,g_ 15 14 false [s_ 1] .mv,g_ 16 14 false [s_ 15] ln,g_ 17 14 false [s_ 16,k_ (.int .i64 12)] bgt_,m_ 18 [s_ 14,k_ (.bool true),s_ 17] .pick] (i_ 18 (sr_ [k0 19 16,v_ 4 19] .ret) .skip)) (sr_ [o1 21 2 l6,k1 22 20 21,v_ 20 22,o1 23 20 (.extract 0),o1 24 20 (.extract 1),o0 5 (.alloc (.agg [(.int .i64 0),(.int .i64 0),(.int .i64 0),(.int .i64 0),.nilS,.nilS]) 6),n2 5 23 (.store 6),v_ 6 24] (.seq (sr_ [v_ 25 6,c2 26 25 (.int .i64 0) bne_] (i_ 26 (sr_ [k0 27 16,v_ 4 27] .ret) .skip)) (sr_ [o1 29 2 l6,v_ 30 1,m_ 31 [k_ (.fn 26 []),s_ 29,s_ 30,k_ (.int .i64 200)] .call,v_ 28 31,o1 32 28 (.extract 0),o1 33 28 (.extract 1),v_ 7 32,v_ 8 33] (sr_ [o1 35 5 l6,v_ 36 1,m_ 37 [k_ (.fn 26 []),s_ 35,s_ 36,k_ (.int .i64 200)] .call,v_ 34 37,o1 38 34 (.extract 0),o1 39 34 (.extract 1),v_ 9 38,v_ 10 39] (sr_ [v_ 40 8,v_ 41 10,o2 42 40 41 beq_,v_ 43 42,g1 44 43 7 .mv,g1 45 43 9 .mv,g_ 46 43 true [k_ (.fn 28 []),s_ 44,s_ 45] .call,m_ 47 [s_ 43,s_ 46,k_ (.bool false)] .pick,v_ 48 47,g1 49 48 5 l6,g_ 50 48 true [k_ (.fn 42 []),s_ 49] .call,m_ 51 [s_ 48,s_ 50,k_ (.bool false)] .pick,v_ 52 51,g1 53 52 5 l6,g_ 54 52 true [k_ (.fn 39 []),s_ 53] .call,g_ 55 52 true [s_ 54,k_ (.int .i64 0)] beq_,m_ 56 [s_ 52,s_ 55,k_ (.bool false)] .pick,v_ 57 56,g_ 58 57 true [k_ (.fn 16 [])] .call,m_ 59 [s_ 57,s_ 58,k_ (.bool false)] .pick,v_ 4 59] .ret)))))))
theorem Dc:Bv Tryz.prog 14 2=some ⟨60,2,[(.slot 4)],CJ⟩:=by kernel_rfl
def KC:AC:=(sr_ [o1 1 0 .box,bf_ 2] (sr_ [z_ 3] (.seq (sr_ [o1 6 1 f4_,o1 7 6 ld,o1 8 7 ln,c2 9 8 (.int .i64 80) bgt_,v_ 10 9,g_ 11 10 false [s_ 1] f5_,g_ 12 10 false [s_ 11] ld,g_ 13 10 false [s_ 12] ln,g_ 14 10 false [s_ 13,k_ (.int .i64 80)] bgt_,m_ 15 [s_ 10,k_ (.bool true),s_ 14] .pick] (i_ 15 (sr_ [bf_ 2] .ret) .skip)) (.seq (sr_ [z_ 4] (.block 0 (.loop (.seq (sr_ [v_ 16 4,o1 17 1 f4_,o1 18 17 ld,o1 19 18 ln,o2 20 16 19 bls_] (ex_ 20 0)) (.seq (.block 1 (.dreg [v_ 23 3,o1 24 1 f4_,o1 25 24 ld,v_ 26 4,o2 27 25 26 a5_,o1 28 27 f2_,o1 29 28 ld,o1 30 1 f4_,o1 31 30 ld,v_ 32 4,o2 33 31 32 a5_,o1 34 33 f4_,o1 35 34 ld,k2 36 43 29 35,o2 37 23 36 bad_,v_ 3 37])) (.reg [v_ 21 4,i1_ 22 21,v_ 4 22])))))) (.seq (sr_ [z_ 5] (.block 2 (.loop (.seq (sr_ [v_ 38 5,o1 39 1 f5_,o1 40 39 ld,o1 41 40 ln,o2 42 38 41 bls_] (ex_ 42 2)) (.seq (.block 3 (.dreg [v_ 45 3,o1 46 1 f5_,o1 47 46 ld,v_ 48 5,o2 49 47 48 a3_,o1 50 49 f1_,o1 51 50 ld,o1 52 1 f5_,o1 53 52 ld,v_ 54 5,o2 55 53 54 a3_,o1 56 55 f2_,o1 57 56 ld,k2 58 43 51 57,o2 59 45 58 bad_,v_ 3 59])) (.reg [v_ 43 5,i1_ 44 43,v_ 5 44])))))) (sr_ [v_ 60 3,c2 61 60 (.int .i64 1500) ble_,v_ 2 61] .ret))))))
theorem QE:Bv Tryz.prog 15 1=some ⟨62,1,[(.slot 2)],KC⟩:=by kernel_rfl
def KD:AC:=(sr_ [bf_ 0] (sr_ [m_ 7 [k_ (.int .i64 97),k_ (.int .i64 97)] (.build [(.int .i64 0),(.int .i64 0)] [(0,1),(1,1)] [0,1]),o1 8 7 (.bslice 2 1 (.agg [(.int .i64 0),(.int .i64 0)]) [0]),o1 9 8 (.bslice 1 1 .nilS [0]),v_ 1 9] (sr_ [c1 10 (.int .i64 1) (.build [(.int .i64 0),.nilS,.nilS] [(0,1),(1,1),(2,1)] [0]),o1 11 10 (.bslice 3 1 (.agg [(.int .i64 0),.nilS,.nilS]) [0]),m_ 12 [k_ (.int .i64 21),k_ (.int .i64 120)] (.build [(.int .i64 0),(.int .i64 0),(.int .i64 0),(.int .i64 0),(.int .i64 0),.nilS] [(0,1),(1,1),(2,1),(3,1),(4,1),(5,1)] [2,4]),o1 13 12 (.bslice 6 1 (.agg [(.int .i64 0),(.int .i64 0),(.int .i64 0),(.int .i64 0),(.int .i64 0),.nilS]) [0]),m_ 14 [k_ (.int .i64 1),s_ 13] (.build [(.int .i64 0),(.int .i64 0),.nilS,(.int .i64 0),.nilS] [(0,1),(1,1),(2,1),(3,1),(4,1)] [1,4]),v_ 15 1,m_ 16 [k_ (.int .i64 21),k_ (.int .i64 121)] (.build [(.int .i64 0),(.int .i64 0),(.int .i64 0),(.int .i64 0),(.int .i64 0),.nilS] [(0,1),(1,1),(2,1),(3,1),(4,1),(5,1)] [2,4]),o1 17 16 (.bslice 6 1 (.agg [(.int .i64 0),(.int .i64 0),(.int .i64 0),(.int .i64 0),(.int .i64 0),.nilS]) [0]),m_ 18 [k_ (.int .i64 1),k_ (.int .i64 1),s_ 15,k_ (.int .i64 1),s_ 17] (.build [(.int .i64 0),(.int .i64 0),.nilS,(.int .i64 0),.nilS] [(0,1),(1,1),(2,1),(3,1),(4,1)] [0,1,2,3,4]),o2 19 14 18 (.bslice 5 2 (.agg [(.int .i64 0),(.int .i64 0),.nilS,(.int .i64 0),.nilS]) [0,1]),m_ 20 [k_ (.int .i64 1),k_ (.int .i64 1),k_ (.int .i64 2),s_ 11,s_ 19] (.build [(.int .i64 0),(.int .i64 0),(.int .i64 0),(.int .i64 0),.nilS,.nilS] [(0,1),(1,1),(2,1),(3,1),(4,1),(5,1)] [0,1,2,5,4]),o0 2 (.alloc (.agg [(.int .i64 0),(.int .i64 0),(.int .i64 0),(.int .i64 0),.nilS,.nilS]) 6),n2 2 20 (.store 6)] (sr_ [o1 22 2 l6,k1 23 20 22,v_ 21 23,o1 24 21 (.extract 0),o1 25 21 (.extract 1),o0 3 (.alloc (.agg [(.int .i64 0),(.int .i64 0),(.int .i64 0),(.int .i64 0),.nilS,.nilS]) 6),n2 3 24 (.store 6),v_ 4 25] (sr_ [o1 27 2 l6,k1 28 17 27,v_ 26 28,o1 29 26 (.extract 0),o1 30 26 (.extract 1),v_ 5 29,v_ 6 30] (sr_ [v_ 31 4,c2 32 31 (.int .i64 0) beq_,v_ 33 32,g1 34 33 6 .mv,g_ 35 33 true [s_ 34,k_ (.int .i64 0)] beq_,m_ 36 [s_ 33,s_ 35,k_ (.bool false)] .pick,v_ 37 36,g1 38 37 5 .mv,g_ 39 37 true [s_ 38,k_ (.int .i64 3)] beq_,m_ 40 [s_ 37,s_ 39,k_ (.bool false)] .pick,v_ 41 40,g1 42 41 3 f4_,g1 43 41 42 ld,g1 44 41 43 ln,g_ 45 41 true [s_ 44,k_ (.int .i64 2)] beq_,m_ 46 [s_ 41,s_ 45,k_ (.bool false)] .pick,v_ 47 46,g1 48 47 3 f4_,g1 49 47 48 ld,g_ 50 47 true [s_ 49,k_ (.int .i64 0)] a5_,g1 51 47 50 f4_,g1 52 47 51 ld,g1 53 47 52 ln,g_ 54 47 true [s_ 53,k_ (.int .i64 2)] beq_,m_ 55 [s_ 47,s_ 54,k_ (.bool false)] .pick,v_ 56 55,g1 57 56 3 f4_,g1 58 56 57 ld,g_ 59 56 true [s_ 58,k_ (.int .i64 0)] a5_,g1 60 56 59 f4_,g1 61 56 60 ld,g_ 62 56 true [s_ 61,k_ (.int .i64 1)] a6_,g1 63 56 62 f4_,g1 64 56 63 ld,g_ 65 56 true [s_ 64,k_ (.int .i64 121)] beq_,m_ 66 [s_ 56,s_ 65,k_ (.bool false)] .pick,v_ 67 66,g1 68 67 3 f5_,g1 69 67 68 ld,g1 70 67 69 ln,g_ 71 67 true [s_ 70,k_ (.int .i64 2)] beq_,m_ 72 [s_ 67,s_ 71,k_ (.bool false)] .pick,v_ 0 72] .ret))))))
theorem QF:Bv Tryz.prog 16 0=some ⟨73,0,[(.slot 0)],KD⟩:=by kernel_rfl
def JX:AC:=(sr_ [o1 1 0 .box,z_ 2,z_ 3] (sr_ [o1 10 1 l6,k1 11 44 10,v_ 9 11,o1 12 9 (.extract 0),o1 13 9 (.extract 1),v_ 4 12,v_ 5 13] (sr_ [z_ 6] (.seq (sr_ [v_ 14 4,o1 15 14 ln,z_ 16] (.block 0 (.loop (sr_ [o2 17 16 15 bls_] (.seq (ex_ 17 0) (.seq (.block 1 (sr_ [o2 18 14 16 a1_,o1 19 18 ld,v_ 8 19] (.reg [v_ 20 6,v_ 21 8,o1 22 21 ln,o2 23 20 22 bad_,v_ 6 23]))) (.reg [i1_ 24 16,v_ 16 24]))))))) (sr_ [v_ 25 6,v_ 26 5,v_ 2 25,v_ 3 26] .ret)))))
theorem ON:Bv Tryz.prog 17 1=some ⟨27,1,[(.slot 2),(.slot 3)],JX⟩:=by kernel_rfl
def GV:AC:=(sr_ [o1 1 0 .box,o0 2 (.alloc (.agg [(.int .i64 0),(.int .i64 0),(.int .i64 0),(.int .i64 0),.nilS,.nilS]) 6),z_ 3] (sr_ [o1 18 1 l6,k1 19 44 18,v_ 17 19,o1 20 17 (.extract 0),o1 21 17 (.extract 1),v_ 4 20,v_ 5 21] (.seq (sr_ [v_ 22 5,c2 23 22 (.int .i64 0) bne_] (i_ 23 (sr_ [o0 24 (.build [(.int .i64 0),(.int .i64 0),(.int .i64 0),(.int .i64 0),.nilS,.nilS] [(0,1),(1,1),(2,1),(3,1),(4,1),(5,1)] []),v_ 25 5,n2 2 24 (.store 6),v_ 3 25] .ret) .skip)) (sr_ [o1 26 1 f2_,o1 27 26 ld,o1 28 1 f4_,o1 29 28 ld,m_ 30 [k_ (.fn 47 []),s_ 27,s_ 29,k_ (.fn 48 [])] .call,v_ 6 30] (sr_ [o1 31 1 f2_,o1 32 31 ld,o1 33 1 f5_,o1 34 33 ld,m_ 35 [k_ (.fn 49 []),s_ 32,s_ 34,k_ (.fn 50 [])] .call,v_ 7 35] (sr_ [o1 36 1 f0_,o1 37 36 ld,o1 38 1 f1_,o1 39 38 ld,o1 40 1 f2_,o1 41 40 ld,o1 42 1 f3_,o1 43 42 ld,m_ 44 [s_ 37,s_ 39,s_ 41,s_ 43] (.build [(.int .i64 0),(.int .i64 0),(.int .i64 0),(.int .i64 0),.nilS,.nilS] [(0,1),(1,1),(2,1),(3,1),(4,1),(5,1)] [0,1,2,3]),o0 8 (.alloc (.agg [(.int .i64 0),(.int .i64 0),(.int .i64 0),(.int .i64 0),.nilS,.nilS]) 6),n2 8 44 (.store 6)] (.seq (sr_ [v_ 45 4,o1 46 45 ln,z_ 47] (.block 0 (.loop (sr_ [o2 48 47 46 bls_] (.seq (ex_ 48 0) (.seq (.block 1 (sr_ [v_ 49 47,o2 50 45 47 a1_,o1 51 50 ld,v_ 9 49,v_ 10 51] (sr_ [v_ 52 10,o1 53 52 ln,z_ 54] (.block 2 (.loop (sr_ [o2 55 54 53 bls_] (.seq (ex_ 55 2) (.seq (.block 3 (sr_ [o2 56 52 54 a2_,o1 57 56 (.load true 2),o0 12 (.alloc (.agg [(.int .i64 0),.nilS]) 2),n2 12 57 (.store 2)] (.seq (sr_ [v_ 58 6,o1 59 12 f0_,o1 60 59 ld,o2 61 58 60 a1_,o1 62 61 ld,o1 63 62 ln,z_ 64] (.block 4 (.loop (sr_ [o2 65 64 63 bls_] (.seq (ex_ 65 4) (.seq (.block 5 (sr_ [o2 66 62 64 a5_,o1 67 66 (.load true 5),o0 14 (.alloc (.agg [(.int .i64 0),(.int .i64 0),.nilS,(.int .i64 0),.nilS]) 5),n2 14 67 (.store 5)] (.dtl [o1 68 8 f4_,o1 69 68 ld,v_ 70 9,o1 71 14 f1_,o1 72 71 ld,o1 73 14 f2_,o1 74 73 ld,k1 75 51 74,o1 76 14 f3_,o1 77 76 ld,o1 78 12 (.load true 2),o1 79 14 f4_,o1 80 79 ld,k2 81 52 78 80,m_ 82 [s_ 70,s_ 72,s_ 75,s_ 77,s_ 81] (.build [(.int .i64 0),(.int .i64 0),.nilS,(.int .i64 0),.nilS] [(0,1),(1,1),(2,1),(3,1),(4,1)] [0,1,2,3,4]),o1 83 82 (.bslice 5 1 (.agg [(.int .i64 0),(.int .i64 0),.nilS,(.int .i64 0),.nilS]) [0])] [o2 84 69 83 (.app 5 72 (.agg [(.int .i64 0),(.int .i64 0),.nilS,(.int .i64 0),.nilS])),o1 85 8 f4_,n2 85 84 st]))) (.reg [i1_ 86 64,v_ 64 86]))))))) (.seq (sr_ [v_ 87 7,o1 88 12 f0_,o1 89 88 ld,o2 90 87 89 a1_,o1 91 90 ld,o1 92 91 ln,z_ 93] (.block 6 (.loop (sr_ [o2 94 93 92 bls_] (.seq (ex_ 94 6) (.seq (.block 7 (sr_ [o2 95 91 93 a3_,o1 96 95 (.load true 3),o0 16 (.alloc (.agg [(.int .i64 0),.nilS,.nilS]) 3),n2 16 96 (.store 3)] (.dtl [o1 97 8 f5_,o1 98 97 ld,v_ 99 9,o1 100 16 f1_,o1 101 100 ld,k1 102 51 101,o1 103 12 (.load true 2),o1 104 16 f2_,o1 105 104 ld,k2 106 52 103 105,o3 107 99 102 106 (.build [(.int .i64 0),.nilS,.nilS] [(0,1),(1,1),(2,1)] [0,1,2]),o1 108 107 (.bslice 3 1 (.agg [(.int .i64 0),.nilS,.nilS]) [0])] [o2 109 98 108 (.app 3 56 (.agg [(.int .i64 0),.nilS,.nilS])),o1 110 8 f5_,n2 110 109 st]))) (.reg [i1_ 111 93,v_ 93 111]))))))) (sr_ [o1 112 8 f4_,o1 113 112 ld,o1 114 113 ln,c2 115 114 (.int .i64 4096) bgt_,v_ 116 115,g_ 117 116 false [s_ 8] f5_,g_ 118 116 false [s_ 117] ld,g_ 119 116 false [s_ 118] ln,g_ 120 116 false [s_ 119,k_ (.int .i64 4096)] bgt_,m_ 121 [s_ 116,k_ (.bool true),s_ 120] .pick] (i_ 121 (sr_ [o0 122 (.build [(.int .i64 0),(.int .i64 0),(.int .i64 0),(.int .i64 0),.nilS,.nilS] [(0,1),(1,1),(2,1),(3,1),(4,1),(5,1)] []),n2 2 122 (.store 6),c1 3 (.int .i64 4) .mv] .ret) .skip)))))) (.reg [i1_ 123 54,v_ 54 123]))))))))) (.reg [i1_ 124 47,v_ 47 124]))))))) (.seq (sr_ [o1 125 8 l6,k1 126 53 125,c2 127 126 (.int .i64 64) bgt_] (i_ 127 (sr_ [o0 128 (.build [(.int .i64 0),(.int .i64 0),(.int .i64 0),(.int .i64 0),.nilS,.nilS] [(0,1),(1,1),(2,1),(3,1),(4,1),(5,1)] []),n2 2 128 (.store 6),c1 3 (.int .i64 4) .mv] .ret) .skip)) (sr_ [o1 129 8 l6,n2 2 129 (.store 6),z_ 3] .ret)))))))))
theorem HX:Bv Tryz.prog 20 1=some ⟨130,1,[(.cell 2 true 6),(.slot 3)],GV⟩:=by kernel_rfl
def Hn:AC:=(sr_ [o1 3 0 .box,o1 5 2 .box,ns_ 6,z_ 7] (.seq (sr_ [o1 12 3 l6,v_ 13 1,k2 14 59 12 13,v_ 8 14] (sr_ [v_ 15 8,c2 16 15 (.int .i64 0) bne_] (i_ 16 (sr_ [v_ 17 8,ns_ 6,v_ 7 17] .ret) .skip))) (.seq (sr_ [o1 18 5 ld,c2 19 18 (.int .i64 1) bls_] (i_ 19 (sr_ [ns_ 6,c1 7 (.int .i64 1) .mv] .ret) .skip)) (sr_ [o1 20 3 l6,v_ 21 1,k2 22 60 20 21,o0 9 (.alloc .nilP 1),n2 9 22 st] (sr_ [o1 23 9 ld,o1 24 23 .nilCheck,o1 25 24 (.faddr false 10 1),o1 26 25 ld,o1 27 26 ln,o2 28 27 27 (.mkSlice 1 24 .nilS),o0 10 (.alloc .nilS 1),n2 10 28 st] (sr_ [o0 11 (.alloc (.bool false) 1),h_ [s_ 11,k_ (.bool false)] st] (sr_ [o1 29 9 ld,m_ 30 [s_ 11,s_ 9,s_ 3,s_ 10,s_ 5] (.mkFunc 62),k2 31 61 29 30] (.seq (sr_ [o1 32 11 ld] (i_ 32 (sr_ [ns_ 6,c1 7 (.int .i64 5) .mv] .ret) .skip)) (sr_ [o1 33 10 ld,o1 34 3 f3_,o1 35 34 ld,o2 36 33 35 a1_,o1 37 36 ld,v_ 6 37,z_ 7] .ret)))))))))
theorem IC:Bv Tryz.prog 26 3=some ⟨38,3,[(.slot 6),(.slot 7)],Hn⟩:=by kernel_rfl
def Ip:AC:=(sr_ [bf_ 4] (.seq (sr_ [v_ 6 0,o1 7 6 ln,v_ 8 1,o1 9 8 ln,o2 10 7 9 bne_] (i_ 10 (sr_ [bf_ 4] .ret) .skip)) (.seq (sr_ [z_ 5] (.block 0 (.loop (.seq (sr_ [v_ 11 5,v_ 12 0,o1 13 12 ln,o2 14 11 13 bls_] (ex_ 14 0)) (.seq (.block 1 (.seq (.dtl [v_ 17 0,v_ 18 5,o2 19 17 18 a1_,o1 20 19 ld,v_ 21 1,v_ 22 5,o2 23 21 22 a1_,o1 24 23 ld] [k2 25 32 20 24,o1 26 25 nt]) (i_ 26 (sr_ [bf_ 4] .ret) .skip))) (.reg [v_ 15 5,i1_ 16 15,v_ 5 16])))))) (sr_ [bt_ 4] .ret))))
theorem Ly:Bv Tryz.prog 28 2=some ⟨27,2,[(.slot 4)],Ip⟩:=by kernel_rfl
def LW:AC:=(sr_ [bf_ 4] (.seq (sr_ [v_ 6 0,o1 7 6 ln,v_ 8 1,o1 9 8 ln,o2 10 7 9 bne_] (i_ 10 (sr_ [bf_ 4] .ret) .skip)) (.seq (sr_ [z_ 5] (.block 0 (.loop (.seq (sr_ [v_ 11 5,v_ 12 0,o1 13 12 ln,o2 14 11 13 bls_] (ex_ 14 0)) (.seq (.block 1 (.seq (.dreg [v_ 17 0,v_ 18 5,o2 19 17 18 a1_,o1 20 19 ld,v_ 21 1,v_ 22 5,o2 23 21 22 a1_,o1 24 23 ld,o2 25 20 24 bne_]) (i_ 25 (sr_ [bf_ 4] .ret) .skip))) (.reg [v_ 15 5,i1_ 16 15,v_ 5 16])))))) (sr_ [bt_ 4] .ret))))
theorem Su:Bv Tryz.prog 32 2=some ⟨26,2,[(.slot 4)],LW⟩:=by kernel_rfl
def LX:AC:=(sr_ [o1 1 0 .box,z_ 2] (.seq (sr_ [o1 6 1 l6,k1 7 82 6,v_ 5 7,o1 8 5 (.extract 0),o1 9 5 (.extract 1),v_ 3 8,v_ 4 9] (sr_ [v_ 10 3,c2 11 10 (.int .i64 0) bne_] (i_ 11 (sr_ [c1 2 (.int .i64 2) .mv] .ret) .skip))) (sr_ [z_ 2] .ret)))
theorem Sv:Bv Tryz.prog 39 1=some ⟨12,1,[(.slot 2)],LX⟩:=by kernel_rfl
def Nv:AC:=(sr_ [o1 1 0 .box,bf_ 2] (sr_ [o1 3 1 f4_,o1 4 3 ld,m_ 5 [k_ (.fn 88 []),s_ 4,k_ (.fn 89 [])] .call,o1 6 5 nt,v_ 2 6] .ret))
theorem Uy:Bv Tryz.prog 42 1=some ⟨7,1,[(.slot 2)],Nv⟩:=by kernel_rfl
def LY:AC:=(sr_ [z_ 4] (.seq (sr_ [v_ 8 0,o1 9 8 ln,c2 10 9 (.int .i64 100) bgt_,v_ 11 10,g_ 12 11 false [s_ 1] .mv,g_ 13 11 false [s_ 12] ln,g_ 14 11 false [s_ 13,k_ (.int .i64 200)] bgt_,m_ 15 [s_ 11,k_ (.bool true),s_ 14] .pick] (i_ 15 (sr_ [c1 4 (.int .i64 4000) .mv] .ret) .skip)) (sr_ [c1 5 (.int .i64 1) .mv] (.seq (sr_ [z_ 6] (.block 0 (.loop (.seq (sr_ [v_ 16 6,v_ 17 0,o1 18 17 ln,o2 19 16 18 bls_] (ex_ 19 0)) (.seq (.block 1 (.reg [v_ 22 5,v_ 23 0,v_ 24 6,o2 25 23 24 a1_,o1 26 25 ld,o1 27 26 ln,c2 28 27 (.int .i64 4000) .min,o2 29 22 28 bad_,v_ 5 29])) (.reg [v_ 20 6,i1_ 21 20,v_ 6 21])))))) (.seq (sr_ [z_ 7] (.block 2 (.loop (.seq (sr_ [v_ 30 7,v_ 31 1,o1 32 31 ln,o2 33 30 32 bls_] (ex_ 33 2)) (.seq (.block 3 (.reg [v_ 36 5,i1_ 37 36,v_ 38 1,v_ 39 7,o2 40 38 39 a6_,o1 41 40 f5_,o1 42 41 ld,o1 43 42 ln,c2 44 43 (.int .i64 4000) .min,o2 45 37 44 bad_,v_ 5 45])) (.reg [v_ 34 7,i1_ 35 34,v_ 7 35])))))) (sr_ [v_ 46 5,v_ 4 46] .ret))))))
theorem Sw:Bv Tryz.prog 43 2=some ⟨47,2,[(.slot 4)],LY⟩:=by kernel_rfl
def HZ:AC:=(sr_ [o1 1 0 .box,ns_ 2,z_ 3] (.seq (sr_ [o1 8 1 l6,k1 9 39 8,c2 10 9 (.int .i64 0) bne_] (i_ 10 (sr_ [ns_ 2,c1 3 (.int .i64 2) .mv] .ret) .skip)) (.seq (.gry [true,true,true,false,true,true,false,false,false,false] [m_ 11 [s_ 1] l6,m_ 12 [s_ 1] f2_,m_ 13 [s_ 12] ld,m_ 14 [s_ 13,s_ 13] (.mkSlice 1 24 .nilS),m_ 15 [s_ 1] f2_,m_ 16 [s_ 15] ld,m_ 17 [s_ 16,s_ 16] (.mkSlice 1 24 .nilS),m_ 18 [s_ 11,s_ 14,s_ 17,k_ (.int .i64 4096)] (.build [(.int .i64 0),(.int .i64 0),(.int .i64 0),(.int .i64 0),.nilS,.nilS,.nilS,.nilS,(.int .i64 0)] [(0,6),(6,1),(7,1),(8,1)] [0,1,2,3]),m_ 19 [s_ 18] .box,m_ 4 [s_ 19] .mv]) (.seq (sr_ [o1 20 1 f4_,o1 21 20 ld,o1 22 21 ln,z_ 23] (.block 0 (.loop (sr_ [o2 24 23 22 bls_] (.seq (ex_ 24 0) (.seq (.block 1 (sr_ [v_ 25 23,o2 26 21 23 a5_,o1 27 26 (.load true 5),o0 6 (.alloc (.agg [(.int .i64 0),(.int .i64 0),.nilS,(.int .i64 0),.nilS]) 5),v_ 5 25,n2 6 27 (.store 5)] (sr_ [o1 28 6 f2_,o1 29 28 ld,o1 30 29 ln,c2 31 30 (.int .i64 0) beq_] (i_ 31 (.grx [false,false,true,true,true,true,false,false,true,true,true,true,true,false,false,false,false,false,false] [m_ 32 [s_ 4] .mv,m_ 33 [s_ 32] .nilCheck,m_ 34 [s_ 33] (.faddr false 6 1),m_ 35 [s_ 34] ld,m_ 36 [s_ 6] f0_,m_ 37 [s_ 36] ld,m_ 38 [s_ 4] .mv,m_ 39 [s_ 38] .nilCheck,m_ 40 [s_ 39] (.faddr false 6 1),m_ 41 [s_ 40] ld,m_ 42 [s_ 6] f0_,m_ 43 [s_ 42] ld,m_ 44 [s_ 41,s_ 43] a1_,m_ 45 [s_ 44] ld,m_ 46 [s_ 5] .mv,m_ 47 [s_ 46] (.bslice 1 1 (.int .i64 0) [0]),m_ 48 [s_ 45,s_ 47] (.app 1 8 (.int .i64 0)),m_ 49 [s_ 35,s_ 37] a1_,h_ [s_ 49,s_ 48] st]) .skip)))) (.reg [i1_ 50 23,v_ 23 50]))))))) (.seq (sr_ [o1 51 1 f2_,o1 52 51 ld,z_ 53] (.block 2 (.loop (sr_ [o2 54 53 52 bls_] (.seq (ex_ 54 2) (.seq (.block 3 (sr_ [v_ 55 53,v_ 7 55] (sr_ [v_ 56 4,v_ 57 7,v_ 58 7,m_ 59 [k_ (.fn 90 []),s_ 56,s_ 57,s_ 58,k_ .nilS] .call,o1 60 59 nt] (i_ 60 (sr_ [ns_ 2,c1 3 (.int .i64 4) .mv] .ret) .skip)))) (.reg [i1_ 61 53,v_ 53 61]))))))) (sr_ [v_ 62 4,o1 63 62 .nilCheck,o1 64 63 (.faddr false 7 1),o1 65 64 ld,v_ 2 65,z_ 3] .ret))))))
theorem JY:Bv Tryz.prog 44 1=some ⟨66,1,[(.slot 2),(.slot 3)],HZ⟩:=by kernel_rfl
def Gi:AC:=(sr_ [ns_ 6] (sr_ [v_ 12 0,o2 13 12 12 (.mkSlice 1 24 .nilS),v_ 7 13] (.seq (sr_ [v_ 14 1,o1 15 14 ln,z_ 16] (.block 0 (.loop (sr_ [o2 17 16 15 bls_] (.seq (ex_ 17 0) (.seq (.block 1 (sr_ [o2 18 14 16 a5_,o1 19 18 (.load true 5),o0 9 (.alloc (.agg [(.int .i64 0),(.int .i64 0),.nilS,(.int .i64 0),.nilS]) 5),n2 9 19 (.store 5)] (sr_ [v_ 21 2,o1 22 9 (.load true 5),o2 23 21 22 .call,v_ 20 23,o1 24 20 (.extract 0),o1 25 20 (.extract 1),v_ 10 24,v_ 11 25] (sr_ [v_ 26 11] (i_ 26 (.grx [false,false,false,false,true,false,true,false,false,false,false] [m_ 27 [s_ 7] .mv,m_ 28 [s_ 10] .mv,m_ 29 [s_ 7] .mv,m_ 30 [s_ 10] .mv,m_ 31 [s_ 29,s_ 30] a1_,m_ 32 [s_ 31] ld,m_ 33 [s_ 9] (.load true 5),m_ 34 [s_ 33] (.bslice 5 1 (.agg [(.int .i64 0),(.int .i64 0),.nilS,(.int .i64 0),.nilS]) [0]),m_ 35 [s_ 32,s_ 34] (.app 5 72 (.agg [(.int .i64 0),(.int .i64 0),.nilS,(.int .i64 0),.nilS])),m_ 36 [s_ 27,s_ 28] a1_,h_ [s_ 36,s_ 35] st]) .skip))))) (.reg [i1_ 37 16,v_ 16 37]))))))) (sr_ [v_ 38 7,v_ 6 38] .ret))))
theorem HI:Bv Tryz.prog 47 3=some ⟨39,3,[(.slot 6)],Gi⟩:=by kernel_rfl
def IS:AC:=(sr_ [o1 1 0 .box,z_ 2,bf_ 3] (.seq (.dreg [o1 4 1 f0_,o1 5 4 ld,o1 6 1 f2_,o1 7 6 ld,o1 8 7 ln,c2 9 8 (.int .i64 0) bgt_,v_ 2 5,v_ 3 9]) .ret))
theorem M0:Bv Tryz.prog 48 1=some ⟨10,1,[(.slot 2),(.slot 3)],IS⟩:=by kernel_rfl
def FT:AC:=(sr_ [ns_ 6] (sr_ [v_ 12 0,o2 13 12 12 (.mkSlice 1 24 .nilS),v_ 7 13] (.seq (sr_ [v_ 14 1,o1 15 14 ln,z_ 16] (.block 0 (.loop (sr_ [o2 17 16 15 bls_] (.seq (ex_ 17 0) (.seq (.block 1 (sr_ [o2 18 14 16 a3_,o1 19 18 (.load true 3),o0 9 (.alloc (.agg [(.int .i64 0),.nilS,.nilS]) 3),n2 9 19 (.store 3)] (sr_ [v_ 21 2,o1 22 9 (.load true 3),o2 23 21 22 .call,v_ 20 23,o1 24 20 (.extract 0),o1 25 20 (.extract 1),v_ 10 24,v_ 11 25] (sr_ [v_ 26 11] (i_ 26 (.grx [false,false,false,false,true,false,true,false,false,false,false] [m_ 27 [s_ 7] .mv,m_ 28 [s_ 10] .mv,m_ 29 [s_ 7] .mv,m_ 30 [s_ 10] .mv,m_ 31 [s_ 29,s_ 30] a1_,m_ 32 [s_ 31] ld,m_ 33 [s_ 9] (.load true 3),m_ 34 [s_ 33] (.bslice 3 1 (.agg [(.int .i64 0),.nilS,.nilS]) [0]),m_ 35 [s_ 32,s_ 34] (.app 3 56 (.agg [(.int .i64 0),.nilS,.nilS])),m_ 36 [s_ 27,s_ 28] a1_,h_ [s_ 36,s_ 35] st]) .skip))))) (.reg [i1_ 37 16,v_ 16 37]))))))) (sr_ [v_ 38 7,v_ 6 38] .ret))))
theorem H6:Bv Tryz.prog 49 3=some ⟨39,3,[(.slot 6)],FT⟩:=by kernel_rfl
def IT:AC:=(sr_ [o1 1 0 .box,z_ 2,bf_ 3] (sr_ [o1 4 1 f0_,o1 5 4 ld,v_ 2 5,bt_ 3] .ret))
theorem M1:Bv Tryz.prog 50 1=some ⟨6,1,[(.slot 2),(.slot 3)],IT⟩:=by kernel_rfl
def IU:AC:=(sr_ [ns_ 2] (sr_ [ns_ 3] (.seq (sr_ [v_ 6 0,o1 7 6 ln,z_ 8] (.block 0 (.loop (sr_ [o2 9 8 7 bls_] (.seq (ex_ 9 0) (.seq (.block 1 (sr_ [o2 10 6 8 a1_,o1 11 10 ld,v_ 5 11] (.reg [v_ 12 3,v_ 13 5,k1 14 95 13,o1 15 14 (.bslice 1 1 .nilS [0]),o2 16 12 15 (.app 1 24 .nilS),v_ 3 16]))) (.reg [i1_ 17 8,v_ 8 17]))))))) (sr_ [v_ 18 3,v_ 2 18] .ret))))
theorem M2:Bv Tryz.prog 51 1=some ⟨19,1,[(.slot 2)],IU⟩:=by kernel_rfl
def IV:AC:=(sr_ [o1 2 0 .box,ns_ 4] (sr_ [ns_ 5] (.seq (sr_ [o1 8 2 f1_,o1 9 8 ld,v_ 10 1,o2 11 9 10 (.bslice 1 2 .nilS [0,1]),k1 12 96 11,o1 13 12 ln,z_ 14] (.block 0 (.loop (sr_ [o2 15 14 13 bls_] (.seq (ex_ 15 0) (.seq (.block 1 (sr_ [o2 16 12 14 a6_,o1 17 16 l6,o0 7 (.alloc (.agg [(.int .i64 0),(.int .i64 0),(.int .i64 0),(.int .i64 0),(.int .i64 0),.nilS]) 6),n2 7 17 (.store 6)] (sr_ [o1 18 7 f5_,o1 19 18 ld,k1 20 97 19,o1 21 7 f5_,n2 21 20 st] (.reg [v_ 22 5,o1 23 7 l6,o1 24 23 (.bslice 6 1 (.agg [(.int .i64 0),(.int .i64 0),(.int .i64 0),(.int .i64 0),(.int .i64 0),.nilS]) [0]),o2 25 22 24 (.app 6 64 (.agg [(.int .i64 0),(.int .i64 0),(.int .i64 0),(.int .i64 0),(.int .i64 0),.nilS])),v_ 5 25])))) (.reg [i1_ 26 14,v_ 14 26]))))))) (sr_ [v_ 27 5,v_ 4 27] .ret))))
theorem M3:Bv Tryz.prog 52 2=some ⟨28,2,[(.slot 4)],IV⟩:=by kernel_rfl
def JZ:AC:=(sr_ [o1 1 0 .box,z_ 2] (sr_ [z_ 3] (.seq (sr_ [o1 8 1 f4_,o1 9 8 ld,o1 10 9 ln,z_ 11] (.block 0 (.loop (sr_ [o2 12 11 10 bls_] (.seq (ex_ 12 0) (.seq (.block 1 (sr_ [o2 13 9 11 a5_,o1 14 13 (.load true 5),o0 5 (.alloc (.agg [(.int .i64 0),(.int .i64 0),.nilS,(.int .i64 0),.nilS]) 5),n2 5 14 (.store 5)] (.reg [v_ 15 3,o1 16 5 f4_,o1 17 16 ld,o1 18 17 ln,o2 19 15 18 .max,v_ 3 19]))) (.reg [i1_ 20 11,v_ 11 20]))))))) (.seq (sr_ [o1 21 1 f5_,o1 22 21 ld,o1 23 22 ln,z_ 24] (.block 2 (.loop (sr_ [o2 25 24 23 bls_] (.seq (ex_ 25 2) (.seq (.block 3 (sr_ [o2 26 22 24 a3_,o1 27 26 (.load true 3),o0 7 (.alloc (.agg [(.int .i64 0),.nilS,.nilS]) 3),n2 7 27 (.store 3)] (.reg [v_ 28 3,o1 29 7 f2_,o1 30 29 ld,o1 31 30 ln,o2 32 28 31 .max,v_ 3 32]))) (.reg [i1_ 33 24,v_ 24 33]))))))) (sr_ [v_ 34 3,v_ 2 34] .ret)))))
theorem OO:Bv Tryz.prog 53 1=some ⟨35,1,[(.slot 2)],JZ⟩:=by kernel_rfl
def Nw:AC:=(sr_ [o1 2 0 .box,z_ 4] (.seq (.block 0 (sr_ [o1 6 2 l6,k1 7 39 6,c2 8 7 (.int .i64 0) bne_,v_ 5 8] (i_ 5 (sr_ [c1 4 (.int .i64 2) .mv] .ret) (sr_ [v_ 10 1,o1 11 10 ln,c2 12 11 (.int .i64 1024) bgt_,v_ 9 12] (i_ 9 (sr_ [c1 4 (.int .i64 4) .mv] .ret) (sr_ [o1 14 2 f0_,o1 15 14 ld,v_ 16 1,k2 17 100 15 16,o1 18 17 nt,v_ 13 18] (i_ 13 (sr_ [c1 4 (.int .i64 1) .mv] .ret) .skip))))))) (sr_ [z_ 4] .ret)))
theorem Uz:Bv Tryz.prog 59 2=some ⟨19,2,[(.slot 4)],Nw⟩:=by kernel_rfl
def Nx:AC:=(sr_ [o1 2 0 .box,c1 4 .nilP .mv] (.seq (.gry [true,false,true,true,false,true,true,false,false,false,false,false] [m_ 18 [s_ 2] l6,m_ 19 [s_ 1] .mv,m_ 20 [s_ 2] f2_,m_ 21 [s_ 20] ld,m_ 22 [s_ 21,s_ 21] (.mkSlice 1 24 .nilS),m_ 23 [s_ 2] f2_,m_ 24 [s_ 23] ld,m_ 25 [s_ 24,s_ 24] (.mkSlice 1 24 .nilS),m_ 26 [s_ 18,s_ 19,s_ 22,s_ 25] (.build [(.int .i64 0),(.int .i64 0),(.int .i64 0),(.int .i64 0),.nilS,.nilS,.nilS,.nilS,.nilS,.nilS,.nilS] [(0,6),(6,1),(7,1),(8,1),(9,1),(10,1)] [0,1,2,3]),m_ 27 [s_ 26] .box,m_ 5 [] (.alloc .nilP 1),h_ [s_ 5,s_ 27] st]) (.seq (sr_ [o1 28 2 f4_,o1 29 28 ld,o1 30 29 ln,z_ 31] (.block 0 (.loop (sr_ [o2 32 31 30 bls_] (.seq (ex_ 32 0) (.seq (.block 1 (sr_ [v_ 33 31,o2 34 29 31 a5_,o1 35 34 (.load true 5),o0 7 (.alloc (.agg [(.int .i64 0),(.int .i64 0),.nilS,(.int .i64 0),.nilS]) 5),v_ 6 33,n2 7 35 (.store 5)] (.grx [true,false,true,true,true,true,true,false,true,true,true,true,true,false,false,false,false,false,false] [m_ 36 [s_ 5] ld,m_ 37 [s_ 36] .nilCheck,m_ 38 [s_ 37] (.faddr false 7 1),m_ 39 [s_ 38] ld,m_ 40 [s_ 7] f0_,m_ 41 [s_ 40] ld,m_ 42 [s_ 5] ld,m_ 43 [s_ 42] .nilCheck,m_ 44 [s_ 43] (.faddr false 7 1),m_ 45 [s_ 44] ld,m_ 46 [s_ 7] f0_,m_ 47 [s_ 46] ld,m_ 48 [s_ 45,s_ 47] a1_,m_ 49 [s_ 48] ld,m_ 50 [s_ 6] .mv,m_ 51 [s_ 50] (.bslice 1 1 (.int .i64 0) [0]),m_ 52 [s_ 49,s_ 51] (.app 1 8 (.int .i64 0)),m_ 53 [s_ 39,s_ 41] a1_,h_ [s_ 53,s_ 52] st]))) (.reg [i1_ 54 31,v_ 31 54]))))))) (.seq (sr_ [o1 55 2 f5_,o1 56 55 ld,o1 57 56 ln,z_ 58] (.block 2 (.loop (sr_ [o2 59 58 57 bls_] (.seq (ex_ 59 2) (.seq (.block 3 (sr_ [v_ 60 58,o2 61 56 58 a3_,o1 62 61 (.load true 3),o0 9 (.alloc (.agg [(.int .i64 0),.nilS,.nilS]) 3),v_ 8 60,n2 9 62 (.store 3)] (.grx [true,false,true,true,true,true,true,false,true,true,true,true,true,false,false,false,false,false,false] [m_ 63 [s_ 5] ld,m_ 64 [s_ 63] .nilCheck,m_ 65 [s_ 64] (.faddr false 8 1),m_ 66 [s_ 65] ld,m_ 67 [s_ 9] f0_,m_ 68 [s_ 67] ld,m_ 69 [s_ 5] ld,m_ 70 [s_ 69] .nilCheck,m_ 71 [s_ 70] (.faddr false 8 1),m_ 72 [s_ 71] ld,m_ 73 [s_ 9] f0_,m_ 74 [s_ 73] ld,m_ 75 [s_ 72,s_ 74] a1_,m_ 76 [s_ 75] ld,m_ 77 [s_ 8] .mv,m_ 78 [s_ 77] (.bslice 1 1 (.int .i64 0) [0]),m_ 79 [s_ 76,s_ 78] (.app 1 8 (.int .i64 0)),m_ 80 [s_ 66,s_ 68] a1_,h_ [s_ 80,s_ 79] st]))) (.reg [i1_ 81 58,v_ 58 81]))))))) (sr_ [o1 82 2 f2_,o1 83 82 ld,o2 84 83 83 (.mkSlice 1 1 (.bool false)),v_ 10 84] (.seq (sr_ [o1 85 2 f2_,o1 86 85 ld,z_ 87] (.block 4 (.loop (sr_ [o2 88 87 86 bls_] (.seq (ex_ 88 4) (.seq (.block 5 (sr_ [v_ 89 87,v_ 11 89] (.reg [o1 90 5 ld,v_ 91 11,v_ 92 10,k3 93 101 90 91 92]))) (.reg [i1_ 94 87,v_ 87 94]))))))) (.seq (.greg [o1 95 5 ld,v_ 96 1,o1 97 96 ln,i1_ 98 97,o1 99 2 f2_,o1 100 99 ld,o2 101 98 100 (.bin .mul),o2 102 101 101 (.mkSlice 1 1 (.bool false)),o1 103 95 .nilCheck,o1 104 103 (.faddr false 10 1),n2 104 102 st]) (.seq (.dtl [o1 105 5 ld,o1 106 105 .nilCheck,o1 107 106 (.faddr false 10 1),o1 108 107 ld,o1 109 2 f3_,o1 110 109 ld,o2 111 108 110 a1_] [h_ [s_ 111,k_ (.bool true)] st]) (.seq (sr_ [o0 12 (.alloc (.int .i64 0) 1),h_ [s_ 12,k_ (.int .i64 0)] st] (.block 6 (.loop (.seq (sr_ [o1 112 12 ld,v_ 113 1,o1 114 113 ln,o2 115 112 114 ble_] (ex_ 115 6)) (.seq (.block 7 (sr_ [o1 118 5 ld,o1 119 118 .nilCheck,o1 120 119 (.faddr false 9 1),o1 121 120 ld,k1 122 102 121] (.block 8 (.rng (.slot 122) [123,124] (.reg [v_ 14 124]) (.block 9 (.seq (.seq (.dreg [o1 125 5 ld,o1 126 125 .nilCheck,o1 127 126 (.faddr false 10 1),o1 128 127 ld,o1 129 12 ld,o1 130 2 f2_,o1 131 130 ld,o2 132 129 131 (.bin .mul),v_ 133 14,o2 134 132 133 bad_,o2 135 128 134 a1_,o1 136 135 ld,o1 137 136 nt]) (i_ 137 (.exit 9) .skip)) (sr_ [o1 138 5 ld,o1 139 138 .nilCheck,o1 140 139 (.faddr false 7 1),o1 141 140 ld,v_ 142 14,o2 143 141 142 a1_,o1 144 143 ld,o1 145 144 ln,z_ 146] (.block 10 (.loop (sr_ [o2 147 146 145 bls_] (.seq (ex_ 147 10) (.seq (.block 11 (sr_ [o2 148 144 146 a1_,o1 149 148 ld,v_ 16 149] (sr_ [o1 150 2 f4_,o1 151 150 ld,v_ 152 16,o2 153 151 152 a5_,o1 154 153 (.load true 5),o0 17 (.alloc (.agg [(.int .i64 0),(.int .i64 0),.nilS,(.int .i64 0),.nilS]) 5),n2 17 154 (.store 5)] (sr_ [o1 155 5 ld,o1 156 17 f2_,o1 157 156 ld,o1 158 12 ld,k3 159 65 155 157 158] (i_ 159 (.dtl [o1 160 5 ld,o1 161 160 .nilCheck,o1 162 161 (.faddr false 10 1),o1 163 162 ld,o1 164 12 ld,o1 165 17 f3_,o1 166 165 ld,o2 167 164 166 bad_,o1 168 2 f2_,o1 169 168 ld,o2 170 167 169 (.bin .mul),o1 171 17 f1_,o1 172 171 ld,o2 173 170 172 bad_,o2 174 163 173 a1_] [h_ [s_ 174,k_ (.bool true)] st]) .skip))))) (.reg [i1_ 175 146,v_ 146 175]))))))))))))) (.seq (sr_ [o1 176 12 ld] (.reg [o0 12 (.alloc (.int .i64 0) 1),n2 12 176 st])) (.reg [o1 116 12 ld,i1_ 117 116,n2 12 117 st]))))))) (sr_ [o1 177 5 ld,v_ 4 177] .ret))))))))))
theorem U0:Bv Tryz.prog 60 2=some ⟨178,2,[(.slot 4)],Nx⟩:=by kernel_rfl
def Iq:AC:=(sr_ [v_ 7 0,o1 8 7 .nilCheck,o1 9 8 (.faddr false 6 1),o1 10 9 ld,o1 11 10 ln,v_ 4 11] (.block 0 (.loop (.seq (sr_ [v_ 12 4,c2 13 12 (.int .i64 0) bge_] (ex_ 13 0)) (.seq (.block 1 (sr_ [v_ 16 0,o1 17 16 .nilCheck,o1 18 17 (.faddr false 9 1),o1 19 18 ld,o1 20 19 ln,z_ 21] (.block 2 (.loop (sr_ [o2 22 21 20 bls_] (.seq (ex_ 22 2) (.seq (.block 3 (sr_ [o2 23 19 21 a1_,o1 24 23 ld,v_ 6 24] (.seq (.dreg [v_ 25 0,o1 26 25 .nilCheck,o1 27 26 (.faddr false 10 1),o1 28 27 ld,v_ 29 4,v_ 30 0,o1 31 30 .nilCheck,o1 32 31 (.faddr true 0 6),o1 33 32 f2_,o1 34 33 ld,o2 35 29 34 (.bin .mul),v_ 36 6,o2 37 35 36 bad_,o2 38 28 37 a1_,o1 39 38 ld]) (i_ 39 (.reg [v_ 40 1,v_ 41 4,v_ 42 6,o3 43 40 41 42 .call]) .skip)))) (.reg [i1_ 44 21,v_ 21 44])))))))) (.reg [v_ 14 4,c2 15 14 (.int .i64 1) bsu_,v_ 4 15]))))))
theorem Lz:Bv Tryz.prog 61 2=some ⟨45,2,[],Iq⟩:=by kernel_rfl
def Ji:AC:=(.seq (sr_ [o1 19 2 ld] (i_ 19 .ret .skip)) (sr_ [ns_ 9] (.seq (sr_ [o1 20 3 ld,o1 21 20 .nilCheck,o1 22 21 (.faddr false 8 1),o1 23 22 ld,v_ 24 1,o2 25 23 24 a1_,o1 26 25 ld,o1 27 26 ln,z_ 28] (.block 0 (.loop (sr_ [o2 29 28 27 bls_] (.seq (ex_ 29 0) (.seq (.block 1 (sr_ [o2 30 26 28 a1_,o1 31 30 ld,v_ 11 31] (sr_ [o1 32 4 f5_,o1 33 32 ld,v_ 34 11,o2 35 33 34 a3_,o1 36 35 (.load true 3),o0 12 (.alloc (.agg [(.int .i64 0),.nilS,.nilS]) 3),n2 12 36 (.store 3)] (sr_ [o1 37 3 ld,o1 38 12 (.load true 3),v_ 39 0,k3 40 63 37 38 39] (i_ 40 (.reg [v_ 41 9,o1 42 3 ld,o1 43 12 f2_,o1 44 43 ld,v_ 45 0,o1 46 12 f1_,o1 47 46 ld,o1 48 47 ln,m_ 49 [k_ (.fn 64 []),s_ 42,s_ 44,s_ 45,s_ 48] .call,o1 50 49 (.bslice 1 1 .nilS [0]),o2 51 41 50 (.app 1 24 .nilS),v_ 9 51]) .skip))))) (.reg [i1_ 52 28,v_ 28 52]))))))) (.seq (sr_ [o1 53 3 ld,o1 54 53 .nilCheck,o1 55 54 (.faddr false 7 1),o1 56 55 ld,v_ 57 1,o2 58 56 57 a1_,o1 59 58 ld,o1 60 59 ln,z_ 61] (.block 2 (.loop (sr_ [o2 62 61 60 bls_] (.seq (ex_ 62 2) (.seq (.block 3 (sr_ [o2 63 59 61 a1_,o1 64 63 ld,v_ 14 64] (sr_ [o1 65 4 f4_,o1 66 65 ld,v_ 67 14,o2 68 66 67 a5_,o1 69 68 (.load true 5),o0 15 (.alloc (.agg [(.int .i64 0),(.int .i64 0),.nilS,(.int .i64 0),.nilS]) 5),n2 15 69 (.store 5)] (.seq (sr_ [o1 70 3 ld,o1 71 15 f2_,o1 72 71 ld,v_ 73 0,k3 74 65 70 72 73,o1 75 74 nt] (i_ 75 (.exit 3) .skip)) (sr_ [o1 76 3 ld,o1 77 15 f4_,o1 78 77 ld,v_ 79 0,o1 80 15 f2_,o1 81 80 ld,o1 82 81 ln,m_ 83 [k_ (.fn 64 []),s_ 76,s_ 78,s_ 79,s_ 82] .call,v_ 16 83] (sr_ [o1 84 5 ld,v_ 85 0,o1 86 15 f3_,o1 87 86 ld,o2 88 85 87 bad_,o1 89 4 f2_,o1 90 89 ld,o2 91 88 90 (.bin .mul),o1 92 15 f1_,o1 93 92 ld,o2 94 91 93 bad_,o2 95 84 94 a1_,o1 96 95 ld,o1 97 96 ln,z_ 98] (.block 4 (.loop (sr_ [o2 99 98 97 bls_] (.seq (ex_ 99 4) (.seq (.block 5 (sr_ [o2 100 96 98 a1_,o1 101 100 ld,v_ 18 101] (.reg [v_ 102 9,v_ 103 16,v_ 104 18,o2 105 103 104 (.bslice 1 2 .nilS [0,1]),k1 106 66 105,o1 107 106 (.bslice 1 1 .nilS [0]),o2 108 102 107 (.app 1 24 .nilS),v_ 9 108]))) (.reg [i1_ 109 98,v_ 98 109])))))))))))) (.reg [i1_ 110 61,v_ 61 110]))))))) (sr_ [v_ 111 9,k1 112 67 111,v_ 9 112] (sr_ [v_ 113 9,o1 114 113 ln,o1 115 6 ld,o2 116 114 115 bgt_,n2 2 116 st] (.reg [o1 117 5 ld,v_ 118 0,o1 119 4 f2_,o1 120 119 ld,o2 121 118 120 (.bin .mul),v_ 122 1,o2 123 121 122 bad_,v_ 124 9,o2 125 117 123 a1_,n2 125 124 st])))))))
theorem Ny:Bv Tryz.prog 62 7=some ⟨126,7,[],Ji⟩:=by kernel_rfl
def Ir:AC:=(sr_ [o1 4 1 .box,bf_ 6] (.seq (.dtl [o1 7 4 f1_,o1 8 7 ld,o1 9 8 ln,v_ 10 0,o1 11 10 .nilCheck,o1 12 11 (.faddr false 6 1),o1 13 12 ld,o1 14 13 ln,v_ 15 2,o2 16 14 15 bsu_,o2 17 9 16 beq_,v_ 18 17,g1 19 18 0 .mv,g1 20 18 4 f1_,g1 21 18 20 ld,g1 22 18 2 .mv] [g_ 23 18 true [k_ (.fn 65 []),s_ 19,s_ 21,s_ 22] .call,m_ 24 [s_ 18,s_ 23,k_ (.bool false)] .pick,v_ 6 24]) .ret))
theorem L1:Bv Tryz.prog 63 3=some ⟨25,3,[(.slot 6)],Ir⟩:=by kernel_rfl
def H7:AC:=(sr_ [ns_ 8] (sr_ [ns_ 9] (.seq (sr_ [v_ 14 1,o1 15 14 ln,z_ 16] (.block 0 (.loop (sr_ [o2 17 16 15 bls_] (.seq (ex_ 17 0) (.seq (.block 1 (sr_ [o2 18 14 16 a6_,o1 19 18 l6,o0 11 (.alloc (.agg [(.int .i64 0),(.int .i64 0),(.int .i64 0),(.int .i64 0),(.int .i64 0),.nilS]) 6),n2 11 19 (.store 6)] (.seq (.dreg [o1 21 11 l6,v_ 22 0,o1 23 22 .nilCheck,o1 24 23 (.faddr false 6 1),o1 25 24 ld,v_ 26 2,v_ 27 2,v_ 28 3,o2 29 27 28 bad_,o3 30 25 26 29 (.slice 1 true true false),k2 31 103 21 30,v_ 20 31,o1 32 20 (.extract 0),o1 33 20 (.extract 1),v_ 12 32,v_ 13 33]) (.reg [v_ 34 9,v_ 35 12,o1 36 35 (.conv .i32),o1 37 36 (.bslice 1 1 (.int .i32 0) [0]),o2 38 34 37 (.app 1 4 (.int .i32 0)),v_ 9 38])))) (.reg [i1_ 39 16,v_ 16 39]))))))) (sr_ [v_ 40 9,v_ 8 40] .ret))))
theorem Ks:Bv Tryz.prog 64 4=some ⟨41,4,[(.slot 8)],H7⟩:=by kernel_rfl
def It:AC:=(sr_ [bf_ 6] (.seq (sr_ [v_ 9 1,o1 10 9 ln,v_ 11 0,o1 12 11 .nilCheck,o1 13 12 (.faddr false 6 1),o1 14 13 ld,o1 15 14 ln,v_ 16 2,o2 17 15 16 bsu_,o2 18 10 17 bgt_] (i_ 18 (sr_ [bf_ 6] .ret) .skip)) (.seq (sr_ [v_ 19 1,o1 20 19 ln,z_ 21] (.block 0 (.loop (sr_ [o2 22 21 20 bls_] (.seq (ex_ 22 0) (.seq (.block 1 (sr_ [v_ 23 21,o2 24 19 21 a1_,o1 25 24 ld,v_ 7 23,v_ 8 25] (sr_ [v_ 26 8,v_ 27 0,o1 28 27 .nilCheck,o1 29 28 (.faddr false 6 1),o1 30 29 ld,v_ 31 2,v_ 32 7,o2 33 31 32 bad_,o2 34 30 33 a1_,o1 35 34 ld,o1 36 35 (.conv .i64),k2 37 104 26 36,o1 38 37 nt] (i_ 38 (sr_ [bf_ 6] .ret) .skip)))) (.reg [i1_ 39 21,v_ 21 39]))))))) (sr_ [bt_ 6] .ret))))
theorem L3:Bv Tryz.prog 65 3=some ⟨40,3,[(.slot 6)],It⟩:=by kernel_rfl
def Fc:AC:=(sr_ [ns_ 2] (sr_ [z_ 3] (.seq (sr_ [v_ 9 0,o1 10 9 ln,z_ 11] (.block 0 (.loop (sr_ [o2 12 11 10 bls_] (.seq (ex_ 12 0) (.seq (.block 1 (sr_ [o2 13 9 11 a1_,o1 14 13 ld,v_ 5 14] (sr_ [v_ 15 3,v_ 16 5,o1 17 16 ln,o2 18 15 17 bad_,v_ 3 18] (sr_ [v_ 19 3,c2 20 19 (.int .i64 0) bls_] (i_ 20 (.reg [c1 21 (.str [108,101,110,32,111,117,116,32,111,102,32,114,97,110,103,101]) .no,h_ [s_ 21] .no]) .skip))))) (.reg [i1_ 22 11,v_ 11 22]))))))) (sr_ [v_ 23 3,m_ 24 [k_ (.fn 105 []),k_ .nilS,s_ 23] .call,v_ 6 24] (.seq (sr_ [v_ 25 0,o1 26 25 ln,z_ 27] (.block 2 (.loop (sr_ [o2 28 27 26 bls_] (.seq (ex_ 28 2) (.seq (.block 3 (sr_ [o2 29 25 27 a1_,o1 30 29 ld,v_ 8 30] (.reg [v_ 31 6,v_ 32 8,o2 33 31 32 (.app 1 4 (.int .i32 0)),v_ 6 33]))) (.reg [i1_ 34 27,v_ 27 34]))))))) (sr_ [v_ 35 6,v_ 2 35] .ret))))))
theorem Gp:Bv Tryz.prog 66 1=some ⟨36,1,[(.slot 2)],Fc⟩:=by kernel_rfl
def Nz:AC:=(sr_ [ns_ 2] (sr_ [v_ 6 0,o1 7 6 ln,o2 8 7 7 (.mkSlice 1 24 .nilS),v_ 3 8] (.seq (sr_ [v_ 9 0,o1 10 9 ln,z_ 11] (.block 0 (.loop (sr_ [o2 12 11 10 bls_] (.seq (ex_ 12 0) (.seq (.block 1 (sr_ [v_ 13 11,o2 14 9 11 a1_,o1 15 14 ld,v_ 4 13,v_ 5 15] (.reg [v_ 16 3,v_ 17 4,v_ 18 5,k1 19 106 18,o2 20 16 17 a1_,n2 20 19 st]))) (.reg [i1_ 21 11,v_ 11 21]))))))) (sr_ [v_ 22 3,m_ 23 [k_ (.fn 107 []),s_ 22,k_ (.fn 77 [])] .call] (sr_ [v_ 24 3,m_ 25 [k_ (.fn 108 []),s_ 24,k_ (.fn 109 [])] .call,v_ 2 25] .ret)))))
theorem U1:Bv Tryz.prog 67 1=some ⟨26,1,[(.slot 2)],Nz⟩:=by kernel_rfl
def KE:AC:=(sr_ [ns_ 2] (.seq (sr_ [v_ 3 0] (.block 0 (sr_ [c2 5 3 (.int .i64 1) beq_,v_ 4 5] (i_ 4 (sr_ [m_ 6 [k_ (.int .i64 0),k_ (.int .i64 255)] (.build [(.int .i64 0),(.int .i64 0)] [(0,1),(1,1)] [0,1]),o1 7 6 (.bslice 2 1 (.agg [(.int .i64 0),(.int .i64 0)]) [0]),v_ 2 7] .ret) (sr_ [c2 9 3 (.int .i64 2) beq_,v_ 8 9] (i_ 8 (sr_ [m_ 10 [k_ (.int .i64 0),k_ (.int .i64 55295)] (.build [(.int .i64 0),(.int .i64 0)] [(0,1),(1,1)] [0,1]),m_ 11 [k_ (.int .i64 57344),k_ (.int .i64 1114111)] (.build [(.int .i64 0),(.int .i64 0)] [(0,1),(1,1)] [0,1]),o2 12 10 11 (.bslice 2 2 (.agg [(.int .i64 0),(.int .i64 0)]) [0,1]),v_ 2 12] .ret) .skip)))))) (sr_ [ns_ 2] .ret)))
theorem QH:Bv Tryz.prog 72 1=some ⟨13,1,[(.slot 2)],KE⟩:=by kernel_rfl
def Ka:AC:=(sr_ [z_ 4] (sr_ [v_ 6 0,v_ 7 1,k2 8 114 6 7,v_ 5 8] (.seq (.block 0 (sr_ [v_ 10 5,v_ 11 0,o1 12 11 ln,o2 13 10 12 beq_,v_ 14 13,g1 15 14 5 .mv,g1 16 14 1 .mv,g1 17 14 16 ln,g2 18 14 15 17 beq_,m_ 19 [s_ 14,s_ 18,k_ (.bool false)] .pick,v_ 9 19] (i_ 9 (sr_ [z_ 4] .ret) (sr_ [v_ 21 5,v_ 22 0,o1 23 22 ln,o2 24 21 23 beq_,v_ 20 24] (i_ 20 (sr_ [c1 4 (.int .i64 (-1)) .mv] .ret) (sr_ [v_ 26 5,v_ 27 1,o1 28 27 ln,o2 29 26 28 beq_,v_ 25 29] (i_ 25 (sr_ [c1 4 (.int .i64 1) .mv] .ret) .skip))))))) (.seq (.dtl [v_ 30 0,v_ 31 5,o2 32 30 31 a1_,o1 33 32 ld,v_ 34 1,v_ 35 5,o2 36 34 35 a1_,o1 37 36 ld] [k2 38 115 33 37,v_ 4 38]) .ret))))
theorem OP:Bv Tryz.prog 77 2=some ⟨39,2,[(.slot 4)],Ka⟩:=by kernel_rfl
def LZ:AC:=(sr_ [o1 1 0 .box,z_ 2,z_ 3] (.seq (sr_ [o1 8 1 l6,k1 9 117 8,o1 10 9 nt] (i_ 10 (sr_ [c1 2 (.int .i64 1) .mv,z_ 3] .ret) .skip)) (.seq (sr_ [o1 11 1 f4_,o1 12 11 ld,o1 13 12 ln,z_ 14] (.block 0 (.loop (sr_ [o2 15 14 13 bls_] (.seq (ex_ 15 0) (.seq (.block 1 (sr_ [v_ 16 14,o2 17 12 14 a5_,o1 18 17 (.load true 5),o0 5 (.alloc (.agg [(.int .i64 0),(.int .i64 0),.nilS,(.int .i64 0),.nilS]) 5),v_ 4 16,n2 5 18 (.store 5)] (sr_ [o1 19 1 l6,o1 20 5 (.load true 5),k2 21 118 19 20,o1 22 21 nt] (i_ 22 (sr_ [v_ 23 4,c1 2 (.int .i64 2) .mv,v_ 3 23] .ret) .skip)))) (.reg [i1_ 24 14,v_ 14 24]))))))) (.seq (sr_ [o1 25 1 f5_,o1 26 25 ld,o1 27 26 ln,z_ 28] (.block 2 (.loop (sr_ [o2 29 28 27 bls_] (.seq (ex_ 29 2) (.seq (.block 3 (sr_ [v_ 30 28,o2 31 26 28 a3_,o1 32 31 (.load true 3),o0 7 (.alloc (.agg [(.int .i64 0),.nilS,.nilS]) 3),v_ 6 30,n2 7 32 (.store 3)] (sr_ [o1 33 1 l6,o1 34 7 f0_,o1 35 34 ld,k2 36 119 33 35,o1 37 36 nt,v_ 38 37,g_ 39 38 false [s_ 1] f0_,g_ 40 38 false [s_ 39] ld,g_ 41 38 false [s_ 7] f1_,g_ 42 38 false [s_ 41] ld,g_ 43 38 false [k_ (.fn 120 []),s_ 40,s_ 42] .call,g_ 44 38 false [s_ 43] nt,m_ 45 [s_ 38,k_ (.bool true),s_ 44] .pick,v_ 46 45,g_ 47 46 false [s_ 1] l6,g_ 48 46 false [s_ 7] f2_,g_ 49 46 false [s_ 48] ld,g_ 50 46 false [s_ 7] f1_,g_ 51 46 false [s_ 50] ld,g_ 52 46 false [k_ (.fn 121 []),s_ 47,s_ 49,s_ 51] .call,g_ 53 46 false [s_ 52] nt,m_ 54 [s_ 46,k_ (.bool true),s_ 53] .pick] (i_ 54 (sr_ [v_ 55 6,c1 2 (.int .i64 3) .mv,v_ 3 55] .ret) .skip)))) (.reg [i1_ 56 28,v_ 28 56]))))))) (.seq (sr_ [o1 57 1 l6,k1 58 122 57] (i_ 58 (sr_ [c1 2 (.int .i64 4) .mv,z_ 3] .ret) .skip)) (sr_ [z_ 2,z_ 3] .ret))))))
theorem Sx:Bv Tryz.prog 82 1=some ⟨59,1,[(.slot 2),(.slot 3)],LZ⟩:=by kernel_rfl
def Ed:AC:=(sr_ [bf_ 4] (sr_ [v_ 5 0,v_ 6 1,k2 7 127 5 6,c2 8 7 (.int .i64 0) bge_,v_ 4 8] .ret))
theorem FU:Bv Tryz.prog 88 2=some ⟨9,2,[(.slot 4)],Ed⟩:=by kernel_rfl
def KF:AC:=(sr_ [o1 1 0 .box,bf_ 2] (sr_ [o1 3 1 f2_,o1 4 3 ld,o1 5 4 ln,c2 6 5 (.int .i64 0) beq_,v_ 2 6] .ret))
theorem QI:Bv Tryz.prog 89 1=some ⟨7,1,[(.slot 2)],KF⟩:=by kernel_rfl
set_option maxRecDepth 100000
def Hb:AC:=(sr_ [bf_ 8] (.seq (sr_ [v_ 12 0,o1 13 12 .nilCheck,o1 14 13 (.faddr false 8 1),o1 15 14 ld,c2 16 15 (.int .i64 0) beq_] (i_ 16 (sr_ [bf_ 8] .ret) .skip)) (sr_ [v_ 17 0,o1 18 17 .nilCheck,o1 19 18 (.faddr false 8 1),o1 20 19 ld,c2 21 20 (.int .i64 1) bsu_,o1 22 17 .nilCheck,o1 23 22 (.faddr false 8 1),n2 23 21 st] (.seq (.grx [false,false,true,true,false,false,false,true,true,false,true,false,false,false,false,false,false,false,false] [m_ 24 [s_ 0] .mv,m_ 25 [s_ 24] .nilCheck,m_ 26 [s_ 25] (.faddr false 7 1),m_ 27 [s_ 26] ld,m_ 28 [s_ 1] .mv,m_ 29 [s_ 0] .mv,m_ 30 [s_ 29] .nilCheck,m_ 31 [s_ 30] (.faddr false 7 1),m_ 32 [s_ 31] ld,m_ 33 [s_ 1] .mv,m_ 34 [s_ 32,s_ 33] a1_,m_ 35 [s_ 34] ld,m_ 36 [s_ 2] .mv,m_ 37 [s_ 3] .mv,m_ 38 [s_ 36,s_ 37] (.build [(.int .i64 0),.nilS] [(0,1),(1,1)] [0,1]),m_ 39 [s_ 38] (.bslice 2 1 (.agg [(.int .i64 0),.nilS]) [0]),m_ 40 [s_ 35,s_ 39] (.app 2 32 (.agg [(.int .i64 0),.nilS])),m_ 41 [s_ 27,s_ 28] a1_,h_ [s_ 41,s_ 40] st]) (.seq (sr_ [v_ 42 0,o1 43 42 .nilCheck,o1 44 43 (.faddr false 6 1),o1 45 44 ld,v_ 46 2,o2 47 45 46 a1_,o1 48 47 ld,o1 49 48 ln,z_ 50] (.block 0 (.loop (sr_ [o2 51 50 49 bls_] (.seq (ex_ 51 0) (.seq (.block 1 (sr_ [o2 52 48 50 a1_,o1 53 52 ld,v_ 10 53] (sr_ [v_ 54 0,o1 55 54 .nilCheck,o1 56 55 (.faddr true 0 6),o1 57 56 f4_,o1 58 57 ld,v_ 59 10,o2 60 58 59 a5_,o1 61 60 (.load true 5),o0 11 (.alloc (.agg [(.int .i64 0),(.int .i64 0),.nilS,(.int .i64 0),.nilS]) 5),n2 11 61 (.store 5)] (.seq (.dtl [v_ 62 0,v_ 63 1,o1 64 11 f1_,o1 65 64 ld,v_ 66 3,o1 67 11 f4_,o1 68 67 ld,o2 69 66 68 (.bslice 1 2 .nilS [0,1]),k1 70 96 69] [m_ 71 [k_ (.fn 90 []),s_ 62,s_ 63,s_ 65,s_ 70] .call,o1 72 71 nt]) (i_ 72 (sr_ [bf_ 8] .ret) .skip))))) (.reg [i1_ 73 50,v_ 50 73]))))))) (sr_ [bt_ 8] .ret))))))
theorem Jj:Bv Tryz.prog 90 4=some ⟨74,4,[(.slot 8)],Hb⟩:=by kernel_rfl
def CQ:AC:=(sr_ [ns_ 2] (.seq (sr_ [v_ 3 0,c2 4 3 .nilS (.eqn false)] (i_ 4 (sr_ [ns_ 2] .ret) .skip)) (sr_ [o0 5 (.bslice 2 0 (.agg [(.int .i64 0),(.int .i64 0)]) []),v_ 6 0,o2 7 5 6 (.app 2 16 (.agg [(.int .i64 0),(.int .i64 0)])),v_ 2 7] .ret)))
theorem DG:Bv Tryz.prog 95 1=some ⟨8,1,[(.slot 2)],CQ⟩:=by kernel_rfl
def D7:AC:=(sr_ [ns_ 2] (sr_ [z_ 3] (.seq (sr_ [v_ 9 0,o1 10 9 ln,z_ 11] (.block 0 (.loop (sr_ [o2 12 11 10 bls_] (.seq (ex_ 12 0) (.seq (.block 1 (sr_ [o2 13 9 11 a1_,o1 14 13 ld,v_ 5 14] (sr_ [v_ 15 3,v_ 16 5,o1 17 16 ln,o2 18 15 17 bad_,v_ 3 18] (sr_ [v_ 19 3,c2 20 19 (.int .i64 0) bls_] (i_ 20 (.reg [c1 21 (.str [108,101,110,32,111,117,116,32,111,102,32,114,97,110,103,101]) .no,h_ [s_ 21] .no]) .skip))))) (.reg [i1_ 22 11,v_ 11 22]))))))) (sr_ [v_ 23 3,m_ 24 [k_ (.fn 132 []),k_ .nilS,s_ 23] .call,v_ 6 24] (.seq (sr_ [v_ 25 0,o1 26 25 ln,z_ 27] (.block 2 (.loop (sr_ [o2 28 27 26 bls_] (.seq (ex_ 28 2) (.seq (.block 3 (sr_ [o2 29 25 27 a1_,o1 30 29 ld,v_ 8 30] (.reg [v_ 31 6,v_ 32 8,o2 33 31 32 (.app 6 64 (.agg [(.int .i64 0),(.int .i64 0),(.int .i64 0),(.int .i64 0),(.int .i64 0),.nilS])),v_ 6 33]))) (.reg [i1_ 34 27,v_ 27 34]))))))) (sr_ [v_ 35 6,v_ 2 35] .ret))))))
theorem ER:Bv Tryz.prog 96 1=some ⟨36,1,[(.slot 2)],D7⟩:=by kernel_rfl
def CR:AC:=(sr_ [ns_ 2] (.seq (sr_ [v_ 3 0,c2 4 3 .nilS (.eqn false)] (i_ 4 (sr_ [ns_ 2] .ret) .skip)) (sr_ [o0 5 (.bslice 4 0 (.agg [(.int .i64 0),(.int .i64 0),(.int .i64 0),(.int .i64 0)]) []),v_ 6 0,o2 7 5 6 (.app 4 32 (.agg [(.int .i64 0),(.int .i64 0),(.int .i64 0),(.int .i64 0)])),v_ 2 7] .ret)))
theorem DI:Bv Tryz.prog 97 1=some ⟨8,1,[(.slot 2)],CR⟩:=by kernel_rfl
def N0:AC:=(sr_ [bf_ 4] (.seq (sr_ [v_ 7 1,o1 8 7 ln,z_ 9] (.block 0 (.loop (sr_ [o2 10 9 8 bls_] (.seq (ex_ 10 0) (.seq (.block 1 (sr_ [o2 11 7 9 a1_,o1 12 11 ld,v_ 6 12] (sr_ [v_ 13 0,v_ 14 6,k2 15 133 13 14,o1 16 15 nt] (i_ 16 (sr_ [bf_ 4] .ret) .skip)))) (.reg [i1_ 17 9,v_ 9 17]))))))) (sr_ [bt_ 4] .ret)))
theorem U2:Bv Tryz.prog 100 2=some ⟨18,2,[(.slot 4)],N0⟩:=by kernel_rfl
def Iu:AC:=(.seq (sr_ [v_ 9 2,v_ 10 1,o2 11 9 10 a1_,o1 12 11 ld] (i_ 12 .ret .skip)) (sr_ [v_ 13 2,v_ 14 1,o2 15 13 14 a1_,h_ [s_ 15,k_ (.bool true)] st] (.seq (sr_ [v_ 16 0,o1 17 16 .nilCheck,o1 18 17 (.faddr false 7 1),o1 19 18 ld,v_ 20 1,o2 21 19 20 a1_,o1 22 21 ld,o1 23 22 ln,z_ 24] (.block 0 (.loop (sr_ [o2 25 24 23 bls_] (.seq (ex_ 25 0) (.seq (.block 1 (sr_ [o2 26 22 24 a1_,o1 27 26 ld,v_ 7 27] (sr_ [v_ 28 0,o1 29 28 .nilCheck,o1 30 29 (.faddr true 0 6),o1 31 30 f4_,o1 32 31 ld,v_ 33 7,o2 34 32 33 a5_,o1 35 34 (.load true 5),o0 8 (.alloc (.agg [(.int .i64 0),(.int .i64 0),.nilS,(.int .i64 0),.nilS]) 5),n2 8 35 (.store 5)] (sr_ [o1 36 8 f2_,o1 37 36 ld,o1 38 37 ln,c2 39 38 (.int .i64 0) beq_] (i_ 39 (.reg [v_ 40 0,o1 41 8 f1_,o1 42 41 ld,v_ 43 2,k3 44 101 40 42 43]) .skip))))) (.reg [i1_ 45 24,v_ 24 45]))))))) (.reg [v_ 46 0,v_ 47 0,o1 48 47 .nilCheck,o1 49 48 (.faddr false 9 1),o1 50 49 ld,v_ 51 1,o1 52 51 (.bslice 1 1 (.int .i64 0) [0]),o2 53 50 52 (.app 1 8 (.int .i64 0)),o1 54 46 .nilCheck,o1 55 54 (.faddr false 9 1),n2 55 53 st]))))
theorem L4:Bv Tryz.prog 101 3=some ⟨56,3,[],Iu⟩:=by kernel_rfl
def Gq:AC:=(sr_ [o1 1 0 .box,c1 2 .nilF .mv] (sr_ [o1 3 1 (.mkFunc 134),v_ 2 3] .ret))
theorem Ia:Bv Tryz.prog 102 1=some ⟨4,1,[(.slot 2)],Gq⟩:=by kernel_rfl
def Ma:AC:=(sr_ [o1 2 0 .box,z_ 4,bf_ 5] (.seq (sr_ [v_ 15 1,o1 16 15 ln,z_ 17] (.block 0 (.loop (sr_ [o2 18 17 16 bls_] (.seq (ex_ 18 0) (.seq (.block 1 (sr_ [o2 19 15 17 a1_,o1 20 19 ld,v_ 7 20] (sr_ [v_ 21 7,c2 22 21 (.int .i32 0) bls_,v_ 23 22,g_ 24 23 false [s_ 7] .mv,g_ 25 23 false [s_ 24,k_ (.int .i32 1114111)] bgt_,m_ 26 [s_ 23,k_ (.bool true),s_ 25] .pick] (i_ 26 (sr_ [z_ 4,bf_ 5] .ret) .skip)))) (.reg [i1_ 27 17,v_ 17 27]))))))) (sr_ [o1 28 2 f4_,o1 29 28 ld,v_ 8 29] (.seq (sr_ [o1 30 2 f5_,o1 31 30 ld,o1 32 31 ln,z_ 33] (.block 2 (.loop (sr_ [o2 34 33 32 bls_] (.seq (ex_ 34 2) (.seq (.block 3 (sr_ [o2 35 31 33 a4_,o1 36 35 (.load true 4),o0 10 (.alloc (.agg [(.int .i64 0),(.int .i64 0),(.int .i64 0),(.int .i64 0)]) 4),n2 10 36 (.store 4)] (.seq (sr_ [o1 37 10 (.load true 4),v_ 38 1,o1 39 38 ln,k2 40 135 37 39,o1 41 40 nt] (i_ 41 (sr_ [z_ 4,bf_ 5] .ret) .skip)) (.seq (.dreg [o1 43 10 (.load true 4),v_ 44 1,o1 45 10 f0_,o1 46 45 ld,o2 47 44 46 a1_,o1 48 47 ld,o1 49 48 (.conv .i64),k2 50 136 43 49,v_ 42 50,o1 51 42 (.extract 0),o1 52 42 (.extract 1),v_ 11 51,v_ 12 52]) (.reg [v_ 53 8,v_ 54 11,o2 55 53 54 bad_,v_ 8 55]))))) (.reg [i1_ 56 33,v_ 33 56]))))))) (.seq (sr_ [v_ 57 8,c2 58 57 (.int .i64 1114111) bgt_] (i_ 58 (sr_ [z_ 4,bf_ 5] .ret) .skip)) (sr_ [o1 60 2 l6,k1 61 137 60,v_ 62 8,k2 63 136 61 62,v_ 59 63,o1 64 59 (.extract 0),o1 65 59 (.extract 1),v_ 13 64,v_ 14 65] (.seq (sr_ [v_ 66 14,o1 67 66 nt] (i_ 67 (sr_ [z_ 4,bf_ 5] .ret) .skip)) (sr_ [o1 68 2 f0_,o1 69 68 ld,v_ 70 13,o2 71 69 70 bad_,v_ 4 71,bt_ 5] .ret))))))))
theorem Sy:Bv Tryz.prog 103 2=some ⟨72,2,[(.slot 4),(.slot 5)],Ma⟩:=by kernel_rfl
def Pv:AC:=(sr_ [bf_ 4] (.seq (sr_ [v_ 7 1,c2 8 7 (.int .i64 (-1073741824)) bls_,v_ 9 8,g_ 10 9 false [s_ 1] .mv,g_ 11 9 false [s_ 10,k_ (.int .i64 1073741824)] bgt_,m_ 12 [s_ 9,k_ (.bool true),s_ 11] .pick] (i_ 12 (sr_ [bf_ 4] .ret) .skip)) (.seq (sr_ [v_ 13 0,o1 14 13 ln,z_ 15] (.block 0 (.loop (sr_ [o2 16 15 14 bls_] (.seq (ex_ 16 0) (.seq (.block 1 (sr_ [o2 17 13 15 a2_,o1 18 17 (.load true 2),o0 6 (.alloc (.agg [(.int .i64 0),(.int .i64 0)]) 2),n2 6 18 (.store 2)] (sr_ [v_ 19 1,o1 20 6 f0_,o1 21 20 ld,o2 22 19 21 bge_,v_ 23 22,g1 24 23 1 .mv,g1 25 23 6 f1_,g1 26 23 25 ld,g2 27 23 24 26 ble_,m_ 28 [s_ 23,s_ 27,k_ (.bool false)] .pick] (i_ 28 (sr_ [bt_ 4] .ret) .skip)))) (.reg [i1_ 29 15,v_ 15 29]))))))) (sr_ [bf_ 4] .ret))))
theorem YE:Bv Tryz.prog 104 2=some ⟨30,2,[(.slot 4)],Pv⟩:=by kernel_rfl
def F8:AC:=(sr_ [ns_ 4] (.seq (sr_ [v_ 5 1,c2 6 5 (.int .i64 0) bls_] (i_ 6 (.reg [c1 7 (.str [99,97,110,110,111,116,32,98,101,32,110,101,103,97,116,105,118,101]) .no,h_ [s_ 7] .no]) .skip)) (.seq (sr_ [v_ 8 1,v_ 9 0,o1 10 9 .cap,v_ 11 0,o1 12 11 ln,o2 13 10 12 bsu_,o2 14 8 13 bsu_,v_ 1 14] (sr_ [v_ 15 1,c2 16 15 (.int .i64 0) bgt_] (i_ 16 (.reg [v_ 17 0,v_ 18 0,o1 19 18 .cap,o2 20 17 19 (.slice 1 false true false),v_ 21 1,o2 22 20 21 (.appZ 1 4 (.int .i32 0)),v_ 23 0,o1 24 23 ln,o2 25 22 24 (.slice 1 false true false),v_ 0 25]) .skip))) (sr_ [v_ 26 0,v_ 4 26] .ret))))
theorem G8:Bv Tryz.prog 105 2=some ⟨27,2,[(.slot 4)],F8⟩:=by kernel_rfl
def Ei:AC:=(sr_ [ns_ 2] (.seq (sr_ [v_ 3 0,c2 4 3 .nilS (.eqn false)] (i_ 4 (sr_ [ns_ 2] .ret) .skip)) (sr_ [o0 5 (.bslice 1 0 (.int .i32 0) []),v_ 6 0,o2 7 5 6 (.app 1 4 (.int .i32 0)),v_ 2 7] .ret)))
theorem Fw:Bv Tryz.prog 106 1=some ⟨8,1,[(.slot 2)],Ei⟩:=by kernel_rfl
def FB:AC:=(sr_ [v_ 5 0,o1 6 5 ln,v_ 4 6] (.reg [v_ 7 0,v_ 8 4,v_ 9 4,o1 10 9 (.conv .u64),k1 11 139 10,v_ 12 1,m_ 13 [k_ (.fn 138 []),s_ 7,k_ (.int .i64 0),s_ 8,s_ 11,s_ 12] .call]))
theorem Hh:Bv Tryz.prog 107 2=some ⟨14,2,[],FB⟩:=by kernel_rfl
def Fe:AC:=(sr_ [ns_ 4] (.seq (sr_ [v_ 8 0,o1 9 8 ln,c2 10 9 (.int .i64 2) bls_] (i_ 10 (sr_ [v_ 11 0,v_ 4 11] .ret) .skip)) (.seq (sr_ [c1 5 (.int .i64 1) .mv] (.block 0 (.loop (.seq (sr_ [v_ 12 5,v_ 13 0,o1 14 13 ln,o2 15 12 14 bls_] (ex_ 15 0)) (.seq (.block 1 (.seq (.dtl [v_ 18 1,v_ 19 0,v_ 20 5,o2 21 19 20 a1_,o1 22 21 ld,v_ 23 0,v_ 24 5,c2 25 24 (.int .i64 1) bsu_,o2 26 23 25 a1_,o1 27 26 ld] [o3 28 18 22 27 .call]) (i_ 28 (sr_ [v_ 29 0,v_ 30 5,o2 31 29 30 (.slice 1 true false false),v_ 6 31] (.seq (sr_ [c1 7 (.int .i64 1) .mv] (.block 2 (.loop (.seq (sr_ [v_ 32 7,v_ 33 6,o1 34 33 ln,o2 35 32 34 bls_] (ex_ 35 2)) (.seq (.block 3 (.seq (.dtl [v_ 38 1,v_ 39 6,v_ 40 7,o2 41 39 40 a1_,o1 42 41 ld,v_ 43 6,v_ 44 7,c2 45 44 (.int .i64 1) bsu_,o2 46 43 45 a1_,o1 47 46 ld] [o3 48 38 42 47 .call,o1 49 48 nt]) (i_ 49 (sr_ [v_ 50 0,v_ 51 5,v_ 52 6,v_ 53 7,o2 54 52 53 a1_,o1 55 54 ld,o2 56 50 51 a1_,n2 56 55 st] (.reg [v_ 57 5,i1_ 58 57,v_ 5 58])) .skip))) (.reg [v_ 36 7,i1_ 37 36,v_ 7 37])))))) (sr_ [v_ 59 0,v_ 60 5,o2 61 59 60 (.slice 1 true false false),h_ [s_ 61] (.clr 1 .nilS)] (sr_ [v_ 62 0,v_ 63 5,o2 64 62 63 (.slice 1 false true false),v_ 4 64] .ret)))) .skip))) (.reg [v_ 16 5,i1_ 17 16,v_ 5 17])))))) (sr_ [v_ 65 0,v_ 4 65] .ret))))
theorem GD:Bv Tryz.prog 108 2=some ⟨66,2,[(.slot 4)],Fe⟩:=by kernel_rfl
def KG:AC:=(sr_ [bf_ 4] (sr_ [v_ 5 0,v_ 6 1,k2 7 77 5 6,c2 8 7 (.int .i64 0) beq_,v_ 4 8] .ret))
theorem QJ:Bv Tryz.prog 109 2=some ⟨9,2,[(.slot 4)],KG⟩:=by kernel_rfl
def Mb:AC:=(sr_ [o0 2 (.alloc (.agg [(.int .i64 0),(.int .i64 0),(.int .i64 0),(.int .i64 0)]) 4)] (sr_ [v_ 3 0,c2 4 3 (.int .i64 21) (.build [(.int .i64 0),(.int .i64 0),(.int .i64 0),(.int .i64 0)] [(0,1),(1,1),(2,1),(3,1)] [0,2]),n2 2 4 (.store 4)] .ret))
theorem Sz:Bv Tryz.prog 113 1=some ⟨5,1,[(.cell 2 true 4)],Mb⟩:=by kernel_rfl
def Mc:AC:=(sr_ [z_ 4] (sr_ [z_ 5] (.seq (.block 0 (.loop (.seq (.seq (.dreg [v_ 6 5,v_ 7 0,o1 8 7 ln,o2 9 6 8 bls_,v_ 10 9,g1 11 10 5 .mv,g1 12 10 1 .mv,g1 13 10 12 ln,g2 14 10 11 13 bls_,m_ 15 [s_ 10,s_ 14,k_ (.bool false)] .pick,v_ 16 15,g1 17 16 0 .mv,g1 18 16 5 .mv,g2 19 16 17 18 a1_,g1 20 16 19 ld,g1 21 16 1 .mv,g1 22 16 5 .mv,g2 23 16 21 22 a1_,g1 24 16 23 ld,g2 25 16 20 24 beq_,m_ 26 [s_ 16,s_ 25,k_ (.bool false)] .pick]) (ex_ 26 0)) (.block 1 (.reg [v_ 27 5,i1_ 28 27,v_ 5 28]))))) (sr_ [v_ 29 5,v_ 4 29] .ret))))
theorem S6:Bv Tryz.prog 114 2=some ⟨30,2,[(.slot 4)],Mc⟩:=by kernel_rfl
def HO:AC:=(sr_ [z_ 4] (sr_ [v_ 7 0,k1 8 144 7,v_ 5 8] (sr_ [v_ 9 1,k1 10 144 9,v_ 6 10] (.seq (sr_ [v_ 11 5] (i_ 11 (.seq (sr_ [v_ 12 6] (i_ 12 (sr_ [z_ 4] .ret) .skip)) (sr_ [c1 4 (.int .i64 (-1)) .mv] .ret)) .skip)) (.seq (sr_ [v_ 13 6] (i_ 13 (sr_ [c1 4 (.int .i64 1) .mv] .ret) .skip)) (.seq (sr_ [v_ 14 0,v_ 15 1,o2 16 14 15 bls_] (i_ 16 (sr_ [c1 4 (.int .i64 (-1)) .mv] .ret) .skip)) (.seq (sr_ [v_ 17 0,v_ 18 1,o2 19 17 18 bgt_] (i_ 19 (sr_ [c1 4 (.int .i64 1) .mv] .ret) .skip)) (sr_ [z_ 4] .ret))))))))
theorem KH:Bv Tryz.prog 115 2=some ⟨20,2,[(.slot 4)],HO⟩:=by kernel_rfl
def N1:AC:=(sr_ [o1 1 0 .box,bf_ 2] (sr_ [o1 3 1 f0_,o1 4 3 ld,k1 5 72 4,o1 6 5 ln,c2 7 6 (.int .i64 0) bgt_,v_ 8 7,g1 9 8 1 f1_,g1 10 8 9 ld,g_ 11 8 true [k_ (.fn 72 []),s_ 10] .call,g1 12 8 11 ln,g_ 13 8 true [s_ 12,k_ (.int .i64 0)] bgt_,m_ 14 [s_ 8,s_ 13,k_ (.bool false)] .pick,v_ 15 14,g1 16 15 1 f2_,g1 17 15 16 ld,g_ 18 15 true [s_ 17,k_ (.int .i64 1)] bge_,m_ 19 [s_ 15,s_ 18,k_ (.bool false)] .pick,v_ 20 19,g1 21 20 1 f2_,g1 22 20 21 ld,g_ 23 20 true [s_ 22,k_ (.int .i64 1024)] ble_,m_ 24 [s_ 20,s_ 23,k_ (.bool false)] .pick,v_ 25 24,g1 26 25 1 l6,g1 27 25 1 f3_,g1 28 25 27 ld,g_ 29 25 true [k_ (.fn 119 []),s_ 26,s_ 28] .call,m_ 30 [s_ 25,s_ 29,k_ (.bool false)] .pick,v_ 31 30,g1 32 31 1 f4_,g1 33 31 32 ld,g1 34 31 33 ln,g_ 35 31 true [s_ 34,k_ (.int .i64 4096)] ble_,m_ 36 [s_ 31,s_ 35,k_ (.bool false)] .pick,v_ 37 36,g1 38 37 1 f5_,g1 39 37 38 ld,g1 40 37 39 ln,g_ 41 37 true [s_ 40,k_ (.int .i64 4096)] ble_,m_ 42 [s_ 37,s_ 41,k_ (.bool false)] .pick,v_ 2 42] .ret))
theorem U3:Bv Tryz.prog 117 1=some ⟨43,1,[(.slot 2)],N1⟩:=by kernel_rfl
def N2:AC:=(sr_ [o1 2 0 .box,o1 3 1 .box,bf_ 4] (sr_ [o1 6 3 f2_,o1 7 6 ld,o1 8 7 ln,v_ 5 8] (.seq (sr_ [o1 9 2 l6,o1 10 3 f0_,o1 11 10 ld,k2 12 119 9 11,o1 13 12 nt,v_ 14 13,g_ 15 14 false [s_ 2] l6,g_ 16 14 false [s_ 3] f1_,g_ 17 14 false [s_ 16] ld,g_ 18 14 false [k_ (.fn 119 []),s_ 15,s_ 17] .call,g_ 19 14 false [s_ 18] nt,m_ 20 [s_ 14,k_ (.bool true),s_ 19] .pick,v_ 21 20,g_ 22 21 false [s_ 2] f0_,g_ 23 21 false [s_ 22] ld,g_ 24 21 false [s_ 3] f2_,g_ 25 21 false [s_ 24] ld,g_ 26 21 false [k_ (.fn 120 []),s_ 23,s_ 25] .call,g_ 27 21 false [s_ 26] nt,m_ 28 [s_ 21,k_ (.bool true),s_ 27] .pick,v_ 29 28,g_ 30 29 false [s_ 3] f3_,g_ 31 29 false [s_ 30] ld,g_ 32 29 false [s_ 5] .mv,g_ 33 29 false [s_ 32,k_ (.int .i64 1)] .min,g_ 34 29 false [s_ 31,s_ 33] bls_,m_ 35 [s_ 29,k_ (.bool true),s_ 34] .pick,v_ 36 35,g_ 37 36 false [s_ 3] f3_,g_ 38 36 false [s_ 37] ld,g_ 39 36 false [s_ 5] .mv,g_ 40 36 false [s_ 38,s_ 39] bgt_,m_ 41 [s_ 36,k_ (.bool true),s_ 40] .pick] (i_ 41 (sr_ [bf_ 4] .ret) .skip)) (sr_ [o1 42 2 l6,o1 43 3 f4_,o1 44 43 ld,o1 45 3 f2_,o1 46 45 ld,k3 47 121 42 44 46,v_ 4 47] .ret))))
theorem U4:Bv Tryz.prog 118 2=some ⟨48,2,[(.slot 4)],N2⟩:=by kernel_rfl
def Md:AC:=(sr_ [o1 2 0 .box,bf_ 4] (sr_ [v_ 5 1,c2 6 5 (.int .i64 0) bge_,v_ 7 6,g1 8 7 1 .mv,g1 9 7 2 f2_,g1 10 7 9 ld,g2 11 7 8 10 bls_,m_ 12 [s_ 7,s_ 11,k_ (.bool false)] .pick,v_ 4 12] .ret))
theorem S7:Bv Tryz.prog 119 2=some ⟨13,2,[(.slot 4)],Md⟩:=by kernel_rfl
def KI:AC:=(sr_ [bf_ 4] (.seq (sr_ [v_ 8 1,o1 9 8 ln,c2 10 9 (.int .i64 4) bgt_] (i_ 10 (sr_ [bf_ 4] .ret) .skip)) (sr_ [v_ 11 0,k1 12 72 11,v_ 5 12] (.seq (sr_ [v_ 13 1,o1 14 13 ln,z_ 15] (.block 0 (.loop (sr_ [o2 16 15 14 bls_] (.seq (ex_ 16 0) (.seq (.block 1 (sr_ [o2 17 13 15 a1_,o1 18 17 ld,v_ 7 18] (sr_ [v_ 19 7,o1 20 19 ln,c2 21 20 (.int .i64 0) beq_,v_ 22 21,g_ 23 22 false [s_ 7] .mv,g_ 24 22 false [s_ 23] ln,g_ 25 22 false [s_ 24,k_ (.int .i64 64)] bgt_,m_ 26 [s_ 22,k_ (.bool true),s_ 25] .pick,v_ 27 26,g_ 28 27 false [s_ 7] .mv,g_ 29 27 false [k_ (.fn 145 []),s_ 28] .call,g_ 30 27 false [s_ 29] nt,m_ 31 [s_ 27,k_ (.bool true),s_ 30] .pick,v_ 32 31,g_ 33 32 false [s_ 7] .mv,g_ 34 32 false [s_ 5] .mv,g_ 35 32 false [k_ (.fn 146 []),s_ 33,s_ 34] .call,g_ 36 32 false [s_ 35] nt,m_ 37 [s_ 32,k_ (.bool true),s_ 36] .pick] (i_ 37 (sr_ [bf_ 4] .ret) .skip)))) (.reg [i1_ 38 15,v_ 15 38]))))))) (sr_ [bt_ 4] .ret)))))
theorem QK:Bv Tryz.prog 120 2=some ⟨39,2,[(.slot 4)],KI⟩:=by kernel_rfl
def KJ:AC:=(sr_ [o1 3 0 .box,bf_ 6] (.seq (sr_ [v_ 9 1,o1 10 9 ln,c2 11 10 (.int .i64 64) bgt_] (i_ 11 (sr_ [bf_ 6] .ret) .skip)) (.seq (sr_ [v_ 12 1,o1 13 12 ln,z_ 14] (.block 0 (.loop (sr_ [o2 15 14 13 bls_] (.seq (ex_ 15 0) (.seq (.block 1 (sr_ [o2 16 12 14 a6_,o1 17 16 l6,o0 8 (.alloc (.agg [(.int .i64 0),(.int .i64 0),(.int .i64 0),(.int .i64 0),(.int .i64 0),.nilS]) 6),n2 8 17 (.store 6)] (sr_ [o1 18 8 l6,o1 19 3 f0_,o1 20 19 ld,o1 21 3 f1_,o1 22 21 ld,v_ 23 2,m_ 24 [k_ (.fn 147 []),s_ 18,s_ 20,s_ 22,s_ 23] .call,o1 25 24 nt] (i_ 25 (sr_ [bf_ 6] .ret) .skip)))) (.reg [i1_ 26 14,v_ 14 26]))))))) (sr_ [bt_ 6] .ret))))
theorem QL:Bv Tryz.prog 121 3=some ⟨27,3,[(.slot 6)],KJ⟩:=by kernel_rfl
def Me:AC:=(sr_ [o1 1 0 .box,bf_ 2] (sr_ [o1 14 1 f2_,o1 15 14 ld,o2 16 15 15 (.mkSlice 1 24 .nilS),v_ 3 16] (sr_ [o1 17 1 f2_,o1 18 17 ld,o2 19 18 18 (.mkSlice 1 8 (.int .i64 0)),v_ 4 19] (.seq (sr_ [o1 20 1 f4_,o1 21 20 ld,o1 22 21 ln,z_ 23] (.block 0 (.loop (sr_ [o2 24 23 22 bls_] (.seq (ex_ 24 0) (.seq (.block 1 (sr_ [o2 25 21 23 a5_,o1 26 25 (.load true 5),o0 6 (.alloc (.agg [(.int .i64 0),(.int .i64 0),.nilS,(.int .i64 0),.nilS]) 5),n2 6 26 (.store 5)] (sr_ [o1 27 6 f2_,o1 28 27 ld,o1 29 28 ln,c2 30 29 (.int .i64 0) beq_] (i_ 30 (.seq (.grx [false,true,true,false,true,true,true,false,true,true,false,false,false,false] [m_ 31 [s_ 3] .mv,m_ 32 [s_ 6] f0_,m_ 33 [s_ 32] ld,m_ 34 [s_ 3] .mv,m_ 35 [s_ 6] f0_,m_ 36 [s_ 35] ld,m_ 37 [s_ 34,s_ 36] a1_,m_ 38 [s_ 37] ld,m_ 39 [s_ 6] f1_,m_ 40 [s_ 39] ld,m_ 41 [s_ 40] (.bslice 1 1 (.int .i64 0) [0]),m_ 42 [s_ 38,s_ 41] (.app 1 8 (.int .i64 0)),m_ 43 [s_ 31,s_ 33] a1_,h_ [s_ 43,s_ 42] st]) (.reg [v_ 44 4,o1 45 6 f1_,o1 46 45 ld,o2 47 44 46 a1_,o1 48 47 ld,i1_ 49 48,o2 50 44 46 a1_,n2 50 49 st])) .skip)))) (.reg [i1_ 51 23,v_ 23 51]))))))) (sr_ [ns_ 7] (.seq (sr_ [v_ 52 4,o1 53 52 ln,z_ 54] (.block 2 (.loop (sr_ [o2 55 54 53 bls_] (.seq (ex_ 55 2) (.seq (.block 3 (sr_ [v_ 56 54,o2 57 52 54 a1_,o1 58 57 ld,v_ 8 56,v_ 9 58] (sr_ [v_ 59 9,c2 60 59 (.int .i64 0) beq_] (i_ 60 (.reg [v_ 61 7,v_ 62 8,o1 63 62 (.bslice 1 1 (.int .i64 0) [0]),o2 64 61 63 (.app 1 8 (.int .i64 0)),v_ 7 64]) .skip)))) (.reg [i1_ 65 54,v_ 54 65]))))))) (sr_ [z_ 10] (.seq (.block 4 (.loop (.seq (sr_ [v_ 66 7,o1 67 66 ln,c2 68 67 (.int .i64 0) bgt_] (ex_ 68 4)) (.seq (.block 5 (sr_ [v_ 71 7,c2 72 71 (.int .i64 0) a1_,o1 73 72 ld,v_ 11 73] (sr_ [v_ 74 7,c2 75 74 (.int .i64 1) (.slice 1 true false false),v_ 7 75] (sr_ [v_ 76 3,v_ 77 11,o2 78 76 77 a1_,o1 79 78 ld,o1 80 79 ln,z_ 81] (.block 6 (.loop (sr_ [o2 82 81 80 bls_] (.seq (ex_ 82 6) (.seq (.block 7 (sr_ [o2 83 79 81 a1_,o1 84 83 ld,v_ 13 84] (sr_ [v_ 85 4,v_ 86 13,o2 87 85 86 a1_,o1 88 87 ld,c2 89 88 (.int .i64 1) bsu_,o2 90 85 86 a1_,n2 90 89 st] (sr_ [v_ 91 4,v_ 92 13,o2 93 91 92 a1_,o1 94 93 ld,c2 95 94 (.int .i64 0) beq_] (i_ 95 (.reg [v_ 96 7,v_ 97 13,o1 98 97 (.bslice 1 1 (.int .i64 0) [0]),o2 99 96 98 (.app 1 8 (.int .i64 0)),v_ 7 99]) .skip))))) (.reg [i1_ 100 81,v_ 81 100])))))))))) (.reg [v_ 69 10,i1_ 70 69,v_ 10 70]))))) (sr_ [v_ 101 10,o1 102 1 f2_,o1 103 102 ld,o2 104 101 103 bls_,v_ 2 104] .ret)))))))))
theorem S8:Bv Tryz.prog 122 1=some ⟨105,1,[(.slot 2)],Me⟩:=by kernel_rfl
def E2:AC:=(sr_ [z_ 4] (.seq (sr_ [v_ 6 0,o1 7 6 ln,z_ 8] (.block 0 (.loop (sr_ [o2 9 8 7 bls_] (.seq (ex_ 9 0) (.seq (.block 1 (sr_ [v_ 10 8,v_ 5 10] (sr_ [v_ 11 1,v_ 12 0,v_ 13 5,o2 14 12 13 a5_,o1 15 14 (.load true 5),o2 16 11 15 .call] (i_ 16 (sr_ [v_ 17 5,v_ 4 17] .ret) .skip)))) (.reg [i1_ 18 8,v_ 8 18]))))))) (sr_ [c1 4 (.int .i64 (-1)) .mv] .ret)))
theorem Gr:Bv Tryz.prog 127 2=some ⟨19,2,[(.slot 4)],E2⟩:=by kernel_rfl
def DV:AC:=(sr_ [ns_ 4] (.seq (sr_ [v_ 5 1,c2 6 5 (.int .i64 0) bls_] (i_ 6 (.reg [c1 7 (.str [99,97,110,110,111,116,32,98,101,32,110,101,103,97,116,105,118,101]) .no,h_ [s_ 7] .no]) .skip)) (.seq (sr_ [v_ 8 1,v_ 9 0,o1 10 9 .cap,v_ 11 0,o1 12 11 ln,o2 13 10 12 bsu_,o2 14 8 13 bsu_,v_ 1 14] (sr_ [v_ 15 1,c2 16 15 (.int .i64 0) bgt_] (i_ 16 (.reg [v_ 17 0,v_ 18 0,o1 19 18 .cap,o2 20 17 19 (.slice 6 false true false),v_ 21 1,o2 22 20 21 (.appZ 6 64 (.agg [(.int .i64 0),(.int .i64 0),(.int .i64 0),(.int .i64 0),(.int .i64 0),.nilS])),v_ 23 0,o1 24 23 ln,o2 25 22 24 (.slice 6 false true false),v_ 0 25]) .skip))) (sr_ [v_ 26 0,v_ 4 26] .ret))))
theorem Fx:Bv Tryz.prog 132 2=some ⟨27,2,[(.slot 4)],DV⟩:=by kernel_rfl
def SA:AC:=(sr_ [bf_ 4] (.seq (sr_ [v_ 5 0] (.block 0 (sr_ [c2 7 5 (.int .i64 1) beq_,v_ 6 7] (i_ 6 (sr_ [v_ 8 1,c2 9 8 (.int .i32 0) bge_,v_ 10 9,g1 11 10 1 .mv,g_ 12 10 true [s_ 11,k_ (.int .i32 255)] ble_,m_ 13 [s_ 10,s_ 12,k_ (.bool false)] .pick,v_ 4 13] .ret) (sr_ [c2 15 5 (.int .i64 2) beq_,v_ 14 15] (i_ 14 (sr_ [v_ 16 1,c2 17 16 (.int .i32 0) bge_,v_ 18 17,g1 19 18 1 .mv,g_ 20 18 true [s_ 19,k_ (.int .i32 1114111)] ble_,m_ 21 [s_ 18,s_ 20,k_ (.bool false)] .pick,v_ 22 21,g1 23 22 1 .mv,g_ 24 22 true [s_ 23,k_ (.int .i32 55296)] bls_,g1 25 22 24 .mv,g_ 26 25 false [s_ 1] .mv,g_ 27 25 false [s_ 26,k_ (.int .i32 57343)] bgt_,g_ 28 22 true [s_ 25,k_ (.bool true),s_ 27] .pick,m_ 29 [s_ 22,s_ 28,k_ (.bool false)] .pick,v_ 4 29] .ret) .skip)))))) (sr_ [bf_ 4] .ret)))
theorem z2b:Bv Tryz.prog 133 2=some ⟨30,2,[(.slot 4)],SA⟩:=by kernel_rfl
def E7:AC:=(sr_ [o1 4 1 ld,o1 5 4 ln,c2 6 5 (.int .i64 1) bsu_,v_ 3 6] (.block 0 (.loop (.seq (sr_ [v_ 7 3,c2 8 7 (.int .i64 0) bge_] (ex_ 8 0)) (.seq (.block 1 (sr_ [v_ 11 0,v_ 12 3,o1 13 1 ld,v_ 14 3,o2 15 13 14 a1_,o1 16 15 ld,o3 17 11 12 16 .call,o1 18 17 nt] (i_ 18 .ret .skip))) (.reg [v_ 9 3,c2 10 9 (.int .i64 1) bsu_,v_ 3 10]))))))
theorem H8:Bv Tryz.prog 134 2=some ⟨19,2,[],E7⟩:=by kernel_rfl
def Mf:AC:=(sr_ [o1 2 0 .box,bf_ 4] (sr_ [o1 5 2 f0_,o1 6 5 ld,c2 7 6 (.int .i64 0) bge_,v_ 8 7,g1 9 8 2 f0_,g1 10 8 9 ld,g1 11 8 1 .mv,g2 12 8 10 11 bls_,m_ 13 [s_ 8,s_ 12,k_ (.bool false)] .pick,v_ 14 13,g1 15 14 2 (.load true 4),g_ 16 14 true [k_ (.fn 153 []),s_ 15] .call,m_ 17 [s_ 14,s_ 16,k_ (.bool false)] .pick,v_ 4 17] .ret))
theorem SB:Bv Tryz.prog 135 2=some ⟨18,2,[(.slot 4)],Mf⟩:=by kernel_rfl
def Mg:AC:=(sr_ [o1 2 0 .box,z_ 4,bf_ 5] (.seq (sr_ [o1 6 2 (.load true 4),k1 7 153 6,o1 8 7 nt,v_ 9 8,g_ 10 9 false [s_ 1] .mv,g_ 11 9 false [s_ 10,k_ (.int .i64 0)] bls_,m_ 12 [s_ 9,k_ (.bool true),s_ 11] .pick,v_ 13 12,g_ 14 13 false [s_ 1] .mv,g_ 15 13 false [s_ 14,k_ (.int .i64 2097151)] bgt_,m_ 16 [s_ 13,k_ (.bool true),s_ 15] .pick] (i_ 16 (sr_ [z_ 4,bf_ 5] .ret) .skip)) (.seq (.dreg [v_ 17 1,o1 18 2 f1_,o1 19 18 ld,o2 20 17 19 (.bin .shr),o1 21 2 f2_,o1 22 21 ld,m_ 23 [k_ (.int .i64 1),s_ 22] (.bin .shl),c2 24 23 (.int .i64 1) bsu_,o2 25 20 24 (.bin .and),o1 26 2 f3_,o1 27 26 ld,o2 28 25 27 (.bin .shl),v_ 4 28,bt_ 5]) .ret)))
theorem SC:Bv Tryz.prog 136 2=some ⟨29,2,[(.slot 4),(.slot 5)],Mg⟩:=by kernel_rfl
def Mh:AC:=(sr_ [o1 1 0 .box,o0 2 (.alloc (.agg [(.int .i64 0),(.int .i64 0),(.int .i64 0),(.int .i64 0)]) 4)] (sr_ [o1 3 1 f1_,o1 4 3 ld,o1 5 1 f2_,o1 6 5 ld,o1 7 1 f3_,o1 8 7 ld,o3 9 4 6 8 (.build [(.int .i64 0),(.int .i64 0),(.int .i64 0),(.int .i64 0)] [(0,1),(1,1),(2,1),(3,1)] [1,2,3]),n2 2 9 (.store 4)] .ret))
theorem SD:Bv Tryz.prog 137 1=some ⟨10,1,[(.cell 2 true 4)],Mh⟩:=by kernel_rfl
def FF:AC:=(sr_ [bt_ 10] (sr_ [bt_ 11] (.block 0 (.loop (.block 1 (sr_ [v_ 21 2,v_ 22 1,o2 23 21 22 bsu_,v_ 12 23] (.seq (sr_ [v_ 24 12,c2 25 24 (.int .i64 12) ble_] (i_ 25 (sr_ [v_ 26 0,v_ 27 1,v_ 28 2,v_ 29 4,m_ 30 [k_ (.fn 154 []),s_ 26,s_ 27,s_ 28,s_ 29] .call] .ret) .skip)) (.seq (sr_ [v_ 31 3,c2 32 31 (.int .i64 0) beq_] (i_ 32 (sr_ [v_ 33 0,v_ 34 1,v_ 35 2,v_ 36 4,m_ 37 [k_ (.fn 155 []),s_ 33,s_ 34,s_ 35,s_ 36] .call] .ret) .skip)) (.seq (sr_ [v_ 38 10,o1 39 38 nt] (i_ 39 (sr_ [v_ 40 0,v_ 41 1,v_ 42 2,v_ 43 4,m_ 44 [k_ (.fn 156 []),s_ 40,s_ 41,s_ 42,s_ 43] .call] (.reg [v_ 45 3,c2 46 45 (.int .i64 1) bsu_,v_ 3 46])) .skip)) (sr_ [v_ 48 0,v_ 49 1,v_ 50 2,v_ 51 4,m_ 52 [k_ (.fn 157 []),s_ 48,s_ 49,s_ 50,s_ 51] .call,v_ 47 52,o1 53 47 (.extract 0),o1 54 47 (.extract 1),v_ 13 53,v_ 14 54] (.seq (sr_ [v_ 55 14,c2 56 55 (.int .i64 2) beq_] (i_ 56 (sr_ [v_ 57 0,v_ 58 1,v_ 59 2,v_ 60 4,m_ 61 [k_ (.fn 158 []),s_ 57,s_ 58,s_ 59,s_ 60] .call] (sr_ [v_ 62 2,c2 63 62 (.int .i64 1) bsu_,v_ 64 13,v_ 65 1,o2 66 64 65 bsu_,o2 67 63 66 bsu_,v_ 13 67] (.reg [c1 14 (.int .i64 1) .mv]))) .skip)) (.seq (sr_ [v_ 68 10,v_ 69 68,g1 70 69 11 .mv,m_ 71 [s_ 69,s_ 70,k_ (.bool false)] .pick,v_ 72 71,g1 73 72 14 .mv,g_ 74 72 true [s_ 73,k_ (.int .i64 1)] beq_,m_ 75 [s_ 72,s_ 74,k_ (.bool false)] .pick] (i_ 75 (sr_ [v_ 76 0,v_ 77 1,v_ 78 2,v_ 79 4,m_ 80 [k_ (.fn 159 []),s_ 76,s_ 77,s_ 78,s_ 79] .call] (i_ 80 .ret .skip)) .skip)) (.seq (.seq (.dtl [v_ 81 1,c2 82 81 (.int .i64 0) bgt_,v_ 83 82,g1 84 83 4 .mv,g1 85 83 0 .mv,g1 86 83 1 .mv,g_ 87 83 true [s_ 86,k_ (.int .i64 1)] bsu_,g2 88 83 85 87 a1_,g1 89 83 88 ld,g1 90 83 0 .mv,g1 91 83 13 .mv,g2 92 83 90 91 a1_,g1 93 83 92 ld] [g_ 94 83 true [s_ 84,s_ 89,s_ 93] .call,g_ 95 83 true [s_ 94,k_ (.int .i64 0)] bls_,g1 96 83 95 nt,m_ 97 [s_ 83,s_ 96,k_ (.bool false)] .pick]) (i_ 97 (sr_ [v_ 98 0,v_ 99 1,v_ 100 2,v_ 101 13,v_ 102 4,m_ 103 [k_ (.fn 160 []),s_ 98,s_ 99,s_ 100,s_ 101,s_ 102] .call,v_ 15 103] (sr_ [v_ 104 15,v_ 1 104] (.exit 1))) .skip)) (sr_ [v_ 106 0,v_ 107 1,v_ 108 2,v_ 109 13,v_ 110 4,m_ 111 [k_ (.fn 161 []),s_ 106,s_ 107,s_ 108,s_ 109,s_ 110] .call,v_ 105 111,o1 112 105 (.extract 0),o1 113 105 (.extract 1),v_ 16 112,v_ 17 113] (sr_ [v_ 114 17,v_ 11 114] (sr_ [v_ 115 16,v_ 116 1,o2 117 115 116 bsu_,v_ 118 2,v_ 119 16,o2 120 118 119 bsu_,v_ 18 117,v_ 19 120] (sr_ [v_ 121 12,c2 122 121 (.int .i64 8) (.bin .quo),v_ 20 122] (sr_ [v_ 123 18,v_ 124 19,o2 125 123 124 bls_] (i_ 125 (sr_ [v_ 126 18,v_ 127 20,o2 128 126 127 bge_,v_ 10 128] (sr_ [v_ 129 0,v_ 130 1,v_ 131 16,v_ 132 3,v_ 133 4,m_ 134 [k_ (.fn 138 []),s_ 129,s_ 130,s_ 131,s_ 132,s_ 133] .call] (.reg [v_ 135 16,i1_ 136 135,v_ 1 136]))) (sr_ [v_ 137 19,v_ 138 20,o2 139 137 138 bge_,v_ 10 139] (sr_ [v_ 140 0,v_ 141 16,i1_ 142 141,v_ 143 2,v_ 144 3,v_ 145 4,m_ 146 [k_ (.fn 138 []),s_ 140,s_ 142,s_ 143,s_ 144,s_ 145] .call] (.reg [v_ 147 16,v_ 2 147]))))))))))))))))))))))
theorem Ho:Bv Tryz.prog 138 5=some ⟨148,5,[],FF⟩:=by kernel_rfl
def Jk:AC:=(sr_ [z_ 2] (.seq (.cond (.const (.bool false)) (sr_ [v_ 3 0,o1 4 3 (.conv .u32),k1 5 162 4,v_ 2 5] .ret) .skip) (sr_ [v_ 6 0,k1 7 163 6,v_ 2 7] .ret)))
theorem N3:Bv Tryz.prog 139 1=some ⟨8,1,[(.slot 2)],Jk⟩:=by kernel_rfl
def IW:AC:=(sr_ [bf_ 2] (sr_ [v_ 3 0,v_ 4 0,o2 5 3 4 bne_,v_ 2 5] .ret))
theorem M4:Bv Tryz.prog 144 1=some ⟨6,1,[(.slot 2)],IW⟩:=by kernel_rfl
def Mi:AC:=(sr_ [bf_ 2] (sr_ [c1 3 (.int .i64 (-1073741826)) .mv] (.seq (sr_ [v_ 6 0,o1 7 6 ln,z_ 8] (.block 0 (.loop (sr_ [o2 9 8 7 bls_] (.seq (ex_ 9 0) (.seq (.block 1 (sr_ [o2 10 6 8 a2_,o1 11 10 (.load true 2),o0 5 (.alloc (.agg [(.int .i64 0),(.int .i64 0)]) 2),n2 5 11 (.store 2)] (.seq (sr_ [o1 12 5 f0_,o1 13 12 ld,o1 14 5 f1_,o1 15 14 ld,o2 16 13 15 bgt_,v_ 17 16,g_ 18 17 false [s_ 5] f0_,g_ 19 17 false [s_ 18] ld,g_ 20 17 false [s_ 19,k_ (.int .i64 (-1073741824))] bls_,m_ 21 [s_ 17,k_ (.bool true),s_ 20] .pick,v_ 22 21,g_ 23 22 false [s_ 5] f1_,g_ 24 22 false [s_ 23] ld,g_ 25 22 false [s_ 24,k_ (.int .i64 1073741824)] bgt_,m_ 26 [s_ 22,k_ (.bool true),s_ 25] .pick,v_ 27 26,g_ 28 27 false [s_ 5] f0_,g_ 29 27 false [s_ 28] ld,g_ 30 27 false [s_ 3] .mv,g_ 31 27 false [s_ 30,k_ (.int .i64 1)] bad_,g_ 32 27 false [s_ 29,s_ 31] ble_,m_ 33 [s_ 27,k_ (.bool true),s_ 32] .pick] (i_ 33 (sr_ [bf_ 2] .ret) .skip)) (.reg [o1 34 5 f1_,o1 35 34 ld,v_ 3 35])))) (.reg [i1_ 36 8,v_ 8 36]))))))) (sr_ [bt_ 2] .ret))))
theorem SE:Bv Tryz.prog 145 1=some ⟨37,1,[(.slot 2)],Mi⟩:=by kernel_rfl
def KN:AC:=(sr_ [bf_ 4] (sr_ [v_ 5 0,v_ 6 1,k2 7 165 5 6,o1 8 7 ln,c2 9 8 (.int .i64 0) beq_,v_ 4 9] .ret))
theorem QM:Bv Tryz.prog 146 2=some ⟨10,2,[(.slot 4)],KN⟩:=by kernel_rfl
def N4:AC:=(sr_ [o1 4 0 .box,bf_ 8] (.seq (sr_ [o1 11 4 l6,v_ 12 1,v_ 13 2,v_ 14 3,o1 15 14 ln,m_ 16 [k_ (.fn 166 []),s_ 11,s_ 12,s_ 13,s_ 15] .call,o1 17 16 nt] (i_ 17 (sr_ [bf_ 8] .ret) .skip)) (sr_ [o1 19 4 l6,v_ 20 3,k2 21 167 19 20,v_ 18 21,o1 22 18 (.extract 0),o1 23 18 (.extract 1),v_ 9 22,v_ 10 23] (sr_ [v_ 24 10,v_ 25 24,g1 26 25 9 .mv,g1 27 25 2 .mv,g_ 28 25 true [k_ (.fn 72 []),s_ 27] .call,g_ 29 25 true [k_ (.fn 146 []),s_ 26,s_ 28] .call,m_ 30 [s_ 25,s_ 29,k_ (.bool false)] .pick,v_ 8 30] .ret))))
theorem U5:Bv Tryz.prog 147 4=some ⟨31,4,[(.slot 8)],N4⟩:=by kernel_rfl
def N5:AC:=(sr_ [o1 1 0 .box,bf_ 2] (sr_ [o1 3 1 f1_,o1 4 3 ld,c2 5 4 (.int .i64 0) bge_,v_ 6 5,g1 7 6 1 f1_,g1 8 6 7 ld,g_ 9 6 true [s_ 8,k_ (.int .i64 21)] bls_,m_ 10 [s_ 6,s_ 9,k_ (.bool false)] .pick,v_ 11 10,g1 12 11 1 f2_,g1 13 11 12 ld,g_ 14 11 true [s_ 13,k_ (.int .i64 1)] bge_,m_ 15 [s_ 11,s_ 14,k_ (.bool false)] .pick,v_ 16 15,g1 17 16 1 f2_,g1 18 16 17 ld,g_ 19 16 true [s_ 18,k_ (.int .i64 21)] ble_,m_ 20 [s_ 16,s_ 19,k_ (.bool false)] .pick,v_ 21 20,g1 22 21 1 f3_,g1 23 21 22 ld,g_ 24 21 true [s_ 23,k_ (.int .i64 0)] bge_,m_ 25 [s_ 21,s_ 24,k_ (.bool false)] .pick,v_ 26 25,g1 27 26 1 f3_,g1 28 26 27 ld,g_ 29 26 true [s_ 28,k_ (.int .i64 21)] bls_,m_ 30 [s_ 26,s_ 29,k_ (.bool false)] .pick,v_ 31 30,g1 32 31 1 f3_,g1 33 31 32 ld,g_ 34 31 true [s_ 33,k_ (.int .i64 0)] beq_,g1 35 31 34 .mv,g_ 36 35 false [s_ 1] f2_,g_ 37 35 false [s_ 36] ld,g_ 38 35 false [s_ 37,k_ (.int .i64 6)] ble_,g_ 39 31 true [s_ 35,k_ (.bool true),s_ 38] .pick,m_ 40 [s_ 31,s_ 39,k_ (.bool false)] .pick,v_ 2 40] .ret))
theorem U6:Bv Tryz.prog 153 1=some ⟨41,1,[(.slot 2)],N5⟩:=by kernel_rfl
def ED:AC:=(sr_ [v_ 10 1,i1_ 11 10,v_ 8 11] (.block 0 (.loop (.seq (sr_ [v_ 12 8,v_ 13 2,o2 14 12 13 bls_] (ex_ 14 0)) (.seq (.block 1 (sr_ [v_ 17 8,v_ 9 17] (.block 2 (.loop (.seq (.seq (.dtl [v_ 18 9,v_ 19 1,o2 20 18 19 bgt_,v_ 21 20,g1 22 21 3 .mv,g1 23 21 0 .mv,g1 24 21 9 .mv,g2 25 21 23 24 a1_,g1 26 21 25 ld,g1 27 21 0 .mv,g1 28 21 9 .mv,g_ 29 21 true [s_ 28,k_ (.int .i64 1)] bsu_,g2 30 21 27 29 a1_,g1 31 21 30 ld] [g_ 32 21 true [s_ 22,s_ 26,s_ 31] .call,g_ 33 21 true [s_ 32,k_ (.int .i64 0)] bls_,m_ 34 [s_ 21,s_ 33,k_ (.bool false)] .pick]) (ex_ 34 2)) (.seq (.block 3 (.greg [v_ 37 0,v_ 38 9,v_ 39 0,v_ 40 9,c2 41 40 (.int .i64 1) bsu_,v_ 42 0,v_ 43 9,c2 44 43 (.int .i64 1) bsu_,o2 45 42 44 a1_,o1 46 45 ld,v_ 47 0,v_ 48 9,o2 49 47 48 a1_,o1 50 49 ld,o2 51 37 38 a1_,n2 51 46 st,o2 52 39 41 a1_,n2 52 50 st])) (.reg [v_ 35 9,c2 36 35 (.int .i64 1) bsu_,v_ 9 36]))))))) (.reg [v_ 15 8,i1_ 16 15,v_ 8 16]))))))
theorem G1:Bv Tryz.prog 154 4=some ⟨53,4,[],ED⟩:=by kernel_rfl
def Iv:AC:=(sr_ [z_ 2] (.seq (sr_ [v_ 3 0,c2 4 3 (.int .u64 4294967296) bge_] (i_ 4 (sr_ [v_ 5 0,c2 6 5 (.int .u64 32) (.bin .shr),v_ 0 6] (.reg [c1 2 (.int .i64 32) .mv])) .skip)) (.seq (sr_ [v_ 7 0,c2 8 7 (.int .u64 65536) bge_] (i_ 8 (sr_ [v_ 9 0,c2 10 9 (.int .u64 16) (.bin .shr),v_ 0 10] (.reg [v_ 11 2,c2 12 11 (.int .i64 16) bad_,v_ 2 12])) .skip)) (.seq (sr_ [v_ 13 0,c2 14 13 (.int .u64 256) bge_] (i_ 14 (sr_ [v_ 15 0,c2 16 15 (.int .u64 8) (.bin .shr),v_ 0 16] (.reg [v_ 17 2,c2 18 17 (.int .i64 8) bad_,v_ 2 18])) .skip)) (sr_ [v_ 19 2,v_ 20 0,o1 21 20 (.conv .u8),m_ 22 [k_ (.str [0,1,2,2,3,3,3,3,4,4,4,4,4,4,4,4,5,5,5,5,5,5,5,5,5,5,5,5,5,5,5,5,6,6,6,6,6,6,6,6,6,6,6,6,6,6,6,6,6,6,6,6,6,6,6,6,6,6,6,6,6,6,6,6,7,7,7,7,7,7,7,7,7,7,7,7,7,7,7,7,7,7,7,7,7,7,7,7,7,7,7,7,7,7,7,7,7,7,7,7,7,7,7,7,7,7,7,7,7,7,7,7,7,7,7,7,7,7,7,7,7,7,7,7,7,7,7,7,8,8,8,8,8,8,8,8,8,8,8,8,8,8,8,8,8,8,8,8,8,8,8,8,8,8,8,8,8,8,8,8,8,8,8,8,8,8,8,8,8,8,8,8,8,8,8,8,8,8,8,8,8,8,8,8,8,8,8,8,8,8,8,8,8,8,8,8,8,8,8,8,8,8,8,8,8,8,8,8,8,8,8,8,8,8,8,8,8,8,8,8,8,8,8,8,8,8,8,8,8,8,8,8,8,8,8,8,8,8,8,8,8,8,8,8,8,8,8,8,8,8,8,8,8,8,8,8]),s_ 21] .indexStr,o1 23 22 (.conv .i64),o2 24 19 23 bad_,v_ 2 24] .ret)))))
theorem L5:Bv Tryz.prog 163 1=some ⟨25,1,[(.slot 2)],Iv⟩:=by kernel_rfl
def Mj:AC:=(sr_ [ns_ 4] (sr_ [ns_ 5] (sr_ [c1 6 (.int .i64 (-1073741824)) .mv] (.seq (sr_ [v_ 9 1,k1 10 181 9,o1 11 10 ln,z_ 12] (.block 0 (.loop (sr_ [o2 13 12 11 bls_] (.seq (ex_ 13 0) (.seq (.block 1 (sr_ [o2 14 10 12 a2_,o1 15 14 (.load true 2),o0 8 (.alloc (.agg [(.int .i64 0),(.int .i64 0)]) 2),n2 8 15 (.store 2)] (sr_ [v_ 16 5,v_ 17 6,o1 18 8 f0_,o1 19 18 ld,c2 20 19 (.int .i64 1) bsu_,o2 21 17 20 (.build [(.int .i64 0),(.int .i64 0)] [(0,1),(1,1)] [0,1]),o1 22 21 (.bslice 2 1 (.agg [(.int .i64 0),(.int .i64 0)]) [0]),o2 23 16 22 (.app 2 16 (.agg [(.int .i64 0),(.int .i64 0)])),v_ 5 23] (.reg [o1 24 8 f1_,o1 25 24 ld,i1_ 26 25,v_ 6 26])))) (.reg [i1_ 27 12,v_ 12 27]))))))) (sr_ [v_ 28 5,v_ 29 6,c2 30 29 (.int .i64 1073741824) (.build [(.int .i64 0),(.int .i64 0)] [(0,1),(1,1)] [0,1]),o1 31 30 (.bslice 2 1 (.agg [(.int .i64 0),(.int .i64 0)]) [0]),o2 32 28 31 (.app 2 16 (.agg [(.int .i64 0),(.int .i64 0)])),v_ 5 32] (sr_ [v_ 33 0,v_ 34 5,k2 35 182 33 34,v_ 4 35] .ret))))))
theorem SG:Bv Tryz.prog 165 2=some ⟨36,2,[(.slot 4)],Mj⟩:=by kernel_rfl
def Mk:AC:=(sr_ [o1 4 0 .box,bf_ 8] (.seq (sr_ [v_ 11 1,k1 12 72 11,o1 13 12 ln,c2 14 13 (.int .i64 0) beq_,v_ 15 14,g_ 16 15 false [s_ 2] .mv,g_ 17 15 false [k_ (.fn 72 []),s_ 16] .call,g_ 18 15 false [s_ 17] ln,g_ 19 15 false [s_ 18,k_ (.int .i64 0)] beq_,m_ 20 [s_ 15,k_ (.bool true),s_ 19] .pick,v_ 21 20,g_ 22 21 false [s_ 4] l6,g_ 23 21 false [k_ (.fn 183 []),s_ 22] .call,g_ 24 21 false [s_ 23] nt,m_ 25 [s_ 21,k_ (.bool true),s_ 24] .pick] (i_ 25 (sr_ [bf_ 8] .ret) .skip)) (.seq (sr_ [o1 26 4 f5_,o1 27 26 ld,o1 28 27 ln,z_ 29] (.block 0 (.loop (sr_ [o2 30 29 28 bls_] (.seq (ex_ 30 0) (.seq (.block 1 (sr_ [o2 31 27 29 a4_,o1 32 31 (.load true 4),o0 10 (.alloc (.agg [(.int .i64 0),(.int .i64 0),(.int .i64 0),(.int .i64 0)]) 4),n2 10 32 (.store 4)] (.seq (.dreg [o1 33 10 (.load true 4),v_ 34 3,k2 35 135 33 34,o1 36 35 nt,v_ 37 36,g_ 38 37 false [s_ 1] .mv,g_ 39 37 false [s_ 38,k_ (.int .i64 2)] beq_,g_ 40 37 false [s_ 39] .mv,g1 41 40 10 (.load true 4),g1 42 40 10 f0_,g1 43 40 42 ld,g_ 44 40 true [k_ (.fn 113 []),s_ 43] .call,g2 45 40 41 44 (.eqs true [1,1,1,1]),g_ 46 37 false [s_ 40,s_ 45,k_ (.bool false)] .pick,m_ 47 [s_ 37,k_ (.bool true),s_ 46] .pick]) (i_ 47 (sr_ [bf_ 8] .ret) .skip)))) (.reg [i1_ 48 29,v_ 29 48]))))))) (sr_ [v_ 49 1,c2 50 49 (.int .i64 2) bne_,v_ 51 50,g_ 52 51 false [s_ 4] f5_,g_ 53 51 false [s_ 52] ld,g_ 54 51 false [s_ 53] ln,g_ 55 51 false [s_ 54,k_ (.int .i64 1)] ble_,m_ 56 [s_ 51,k_ (.bool true),s_ 55] .pick,v_ 57 56,g1 58 57 2 .mv,g_ 59 57 true [s_ 58,k_ (.int .i64 2)] bne_,g1 60 57 59 .mv,g_ 61 60 false [s_ 4] l6,g_ 62 60 false [k_ (.fn 184 []),s_ 61] .call,g_ 63 57 true [s_ 60,k_ (.bool true),s_ 62] .pick,m_ 64 [s_ 57,s_ 63,k_ (.bool false)] .pick,v_ 8 64] .ret))))
theorem SH:Bv Tryz.prog 166 4=some ⟨65,4,[(.slot 8)],Mk⟩:=by kernel_rfl
def Ml:AC:=(sr_ [o1 2 0 .box,ns_ 4,bf_ 5] (sr_ [o1 9 2 l6,v_ 10 1,k2 11 185 9 10,v_ 8 11,o1 12 8 (.extract 0),o1 13 8 (.extract 1),v_ 6 12,v_ 7 13] (.seq (sr_ [v_ 14 7,o1 15 14 nt] (i_ 15 (sr_ [ns_ 4,bf_ 5] .ret) .skip)) (.seq (sr_ [v_ 16 6,o1 17 16 ln,c2 18 17 (.int .i64 0) beq_] (i_ 18 (sr_ [ns_ 4,bt_ 5] .ret) .skip)) (.seq (.dtl [o1 19 2 l6,k1 20 137 19,v_ 21 6,k2 22 187 20 21,o1 23 2 f0_,o1 24 23 ld] [k2 25 186 22 24,v_ 4 25,bt_ 5]) .ret)))))
theorem SI:Bv Tryz.prog 167 2=some ⟨26,2,[(.slot 4),(.slot 5)],Ml⟩:=by kernel_rfl
def N6:AC:=(sr_ [ns_ 2] (sr_ [v_ 10 0,o1 11 10 ln,m_ 12 [k_ (.int .i64 0),s_ 11] (.mkSlice 2 16 (.agg [(.int .i64 0),(.int .i64 0)])),v_ 3 12] (.seq (sr_ [v_ 13 0,o1 14 13 ln,z_ 15] (.block 0 (.loop (sr_ [o2 16 15 14 bls_] (.seq (ex_ 16 0) (.seq (.block 1 (sr_ [o2 17 13 15 a2_,o1 18 17 (.load true 2),o0 5 (.alloc (.agg [(.int .i64 0),(.int .i64 0)]) 2),n2 5 18 (.store 2)] (sr_ [o1 19 5 f0_,o1 20 19 ld,c2 21 20 (.int .i64 (-1073741824)) .max,o1 22 5 f1_,o1 23 22 ld,c2 24 23 (.int .i64 1073741824) .min,o1 25 5 f0_,n2 25 21 st,o1 26 5 f1_,n2 26 24 st] (sr_ [o1 27 5 f0_,o1 28 27 ld,o1 29 5 f1_,o1 30 29 ld,o2 31 28 30 ble_] (i_ 31 (.reg [v_ 32 3,o1 33 5 (.load true 2),o1 34 33 (.bslice 2 1 (.agg [(.int .i64 0),(.int .i64 0)]) [0]),o2 35 32 34 (.app 2 16 (.agg [(.int .i64 0),(.int .i64 0)])),v_ 3 35]) .skip))))) (.reg [i1_ 36 15,v_ 15 36]))))))) (sr_ [v_ 37 3,m_ 38 [k_ (.fn 190 []),s_ 37,k_ (.fn 191 [])] .call] (sr_ [v_ 39 3,c2 40 39 (.int .i64 0) (.slice 2 false true false),v_ 6 40] (.seq (sr_ [v_ 41 3,o1 42 41 ln,z_ 43] (.block 2 (.loop (sr_ [o2 44 43 42 bls_] (.seq (ex_ 44 2) (.seq (.block 3 (sr_ [o2 45 41 43 a2_,o1 46 45 (.load true 2),o0 8 (.alloc (.agg [(.int .i64 0),(.int .i64 0)]) 2),n2 8 46 (.store 2)] (.seq (sr_ [v_ 47 6,o1 48 47 ln,v_ 9 48] (.seq (.dreg [v_ 49 9,c2 50 49 (.int .i64 0) bgt_,v_ 51 50,g1 52 51 8 f0_,g1 53 51 52 ld,g1 54 51 6 .mv,g1 55 51 9 .mv,g_ 56 51 true [s_ 55,k_ (.int .i64 1)] bsu_,g2 57 51 54 56 a2_,g1 58 51 57 f1_,g1 59 51 58 ld,g_ 60 51 true [s_ 59,k_ (.int .i64 1)] bad_,g2 61 51 53 60 ble_,m_ 62 [s_ 51,s_ 61,k_ (.bool false)] .pick]) (i_ 62 (.seq (.dtl [v_ 63 6,v_ 64 9,c2 65 64 (.int .i64 1) bsu_,v_ 66 6,v_ 67 9,c2 68 67 (.int .i64 1) bsu_,o2 69 66 68 a2_,o1 70 69 f1_,o1 71 70 ld,o1 72 8 f1_,o1 73 72 ld,o2 74 71 73 .max,o2 75 63 65 a2_,o1 76 75 f1_] [n2 76 74 st]) (.exit 3)) .skip))) (.reg [v_ 77 6,o1 78 8 (.load true 2),o1 79 78 (.bslice 2 1 (.agg [(.int .i64 0),(.int .i64 0)]) [0]),o2 80 77 79 (.app 2 16 (.agg [(.int .i64 0),(.int .i64 0)])),v_ 6 80])))) (.reg [i1_ 81 43,v_ 43 81]))))))) (sr_ [v_ 82 6,v_ 2 82] .ret)))))))
theorem U7:Bv Tryz.prog 181 1=some ⟨83,1,[(.slot 2)],N6⟩:=by kernel_rfl
def N7:AC:=(sr_ [ns_ 4] (sr_ [v_ 7 0,k1 8 181 7,v_ 9 1,k1 10 181 9,v_ 0 8,v_ 1 10] (sr_ [ns_ 5] (.seq (.block 0 (.loop (.seq (sr_ [v_ 11 0,o1 12 11 ln,c2 13 12 (.int .i64 0) bgt_,v_ 14 13,g1 15 14 1 .mv,g1 16 14 15 ln,g_ 17 14 true [s_ 16,k_ (.int .i64 0)] bgt_,m_ 18 [s_ 14,s_ 17,k_ (.bool false)] .pick] (ex_ 18 0)) (.block 1 (.seq (.greg [v_ 19 0,c2 20 19 (.int .i64 0) a2_,o1 21 20 f0_,o1 22 21 ld,v_ 23 1,c2 24 23 (.int .i64 0) a2_,o1 25 24 f0_,o1 26 25 ld,o2 27 22 26 .max,v_ 28 0,c2 29 28 (.int .i64 0) a2_,o1 30 29 f1_,o1 31 30 ld,v_ 32 1,c2 33 32 (.int .i64 0) a2_,o1 34 33 f1_,o1 35 34 ld,o2 36 31 35 .min,o2 37 27 36 (.build [(.int .i64 0),(.int .i64 0)] [(0,1),(1,1)] [0,1]),o0 6 (.alloc (.agg [(.int .i64 0),(.int .i64 0)]) 2),n2 6 37 (.store 2)]) (.seq (sr_ [o1 38 6 f0_,o1 39 38 ld,o1 40 6 f1_,o1 41 40 ld,o2 42 39 41 ble_] (i_ 42 (.reg [v_ 43 5,o1 44 6 (.load true 2),o1 45 44 (.bslice 2 1 (.agg [(.int .i64 0),(.int .i64 0)]) [0]),o2 46 43 45 (.app 2 16 (.agg [(.int .i64 0),(.int .i64 0)])),v_ 5 46]) .skip)) (.seq (.dreg [v_ 47 0,c2 48 47 (.int .i64 0) a2_,o1 49 48 f1_,o1 50 49 ld,v_ 51 1,c2 52 51 (.int .i64 0) a2_,o1 53 52 f1_,o1 54 53 ld,o2 55 50 54 bls_]) (i_ 55 (.reg [v_ 56 0,c2 57 56 (.int .i64 1) (.slice 2 true false false),v_ 0 57]) (.reg [v_ 58 1,c2 59 58 (.int .i64 1) (.slice 2 true false false),v_ 1 59]))))))))) (sr_ [v_ 60 5,v_ 4 60] .ret)))))
theorem U8:Bv Tryz.prog 182 2=some ⟨61,2,[(.slot 4)],N7⟩:=by kernel_rfl
def Kb:AC:=(sr_ [o1 1 0 .box,bf_ 2] (sr_ [o1 3 1 f0_,o1 4 3 ld,k1 5 193 4,v_ 6 5,g1 7 6 1 f4_,g1 8 6 7 ld,g_ 9 6 true [k_ (.fn 193 []),s_ 8] .call,m_ 10 [s_ 6,s_ 9,k_ (.bool false)] .pick,v_ 11 10,g1 12 11 1 l6,g_ 13 11 true [k_ (.fn 137 []),s_ 12] .call,g_ 14 11 true [k_ (.fn 135 []),s_ 13,k_ (.int .i64 1)] .call,m_ 15 [s_ 11,s_ 14,k_ (.bool false)] .pick,v_ 16 15,g1 17 16 1 f5_,g1 18 16 17 ld,g_ 19 16 true [k_ (.fn 194 []),s_ 18] .call,m_ 20 [s_ 16,s_ 19,k_ (.bool false)] .pick,v_ 2 20] .ret))
theorem OQ:Bv Tryz.prog 183 1=some ⟨21,1,[(.slot 2)],Kb⟩:=by kernel_rfl
def Mm:AC:=(sr_ [o1 1 0 .box,bf_ 2] (sr_ [o1 3 1 f0_,o1 4 3 ld,c2 5 4 (.int .i64 0) beq_,v_ 6 5,g1 7 6 1 l6,g_ 8 6 true [k_ (.fn 137 []),s_ 7] .call,g_ 9 6 true [k_ (.fn 113 []),k_ (.int .i64 0)] .call,g2 10 6 8 9 (.eqs false [1,1,1,1]),m_ 11 [s_ 6,s_ 10,k_ (.bool false)] .pick,v_ 2 11] .ret))
theorem SJ:Bv Tryz.prog 184 1=some ⟨12,1,[(.slot 2)],Mm⟩:=by kernel_rfl
def Mn:AC:=(sr_ [o1 2 0 .box,ns_ 4,bf_ 5] (.seq (sr_ [v_ 12 1,o1 13 12 ln,c2 14 13 (.int .i64 4) bgt_,v_ 15 14,g_ 16 15 false [s_ 2] l6,g_ 17 15 false [k_ (.fn 183 []),s_ 16] .call,g_ 18 15 false [s_ 17] nt,m_ 19 [s_ 15,k_ (.bool true),s_ 18] .pick] (i_ 19 (sr_ [ns_ 4,bf_ 5] .ret) .skip)) (sr_ [bt_ 6] (sr_ [v_ 20 1,o1 21 20 ln,o2 22 21 21 (.mkSlice 1 24 .nilS),v_ 7 22] (.seq (sr_ [v_ 23 1,o1 24 23 ln,z_ 25] (.block 0 (.loop (sr_ [o2 26 25 24 bls_] (.seq (ex_ 26 0) (.seq (.block 1 (sr_ [v_ 27 25,o2 28 23 25 a1_,o1 29 28 ld,v_ 8 27,v_ 9 29] (sr_ [v_ 30 7,v_ 31 8,v_ 32 9,k0 33 195,k2 34 182 32 33,o2 35 30 31 a1_,n2 35 34 st] (.reg [v_ 36 6,v_ 37 36,g1 38 37 7 .mv,g1 39 37 8 .mv,g2 40 37 38 39 a1_,g1 41 37 40 ld,g1 42 37 41 ln,g_ 43 37 true [s_ 42,k_ (.int .i64 0)] bgt_,m_ 44 [s_ 37,s_ 43,k_ (.bool false)] .pick,v_ 6 44])))) (.reg [i1_ 45 25,v_ 25 45]))))))) (.seq (sr_ [o1 46 2 f5_,o1 47 46 ld,o1 48 47 ln,z_ 49] (.block 2 (.loop (sr_ [o2 50 49 48 bls_] (.seq (ex_ 50 2) (.seq (.block 3 (sr_ [o2 51 47 49 a4_,o1 52 51 (.load true 4),o0 11 (.alloc (.agg [(.int .i64 0),(.int .i64 0),(.int .i64 0),(.int .i64 0)]) 4),n2 11 52 (.store 4)] (sr_ [o1 53 11 (.load true 4),v_ 54 1,o1 55 54 ln,k2 56 135 53 55,o1 57 56 nt] (i_ 57 (sr_ [ns_ 4,bf_ 5] .ret) .skip)))) (.reg [i1_ 58 49,v_ 49 58]))))))) (.seq (sr_ [v_ 59 6,o1 60 59 nt] (i_ 60 (sr_ [ns_ 4,bt_ 5] .ret) .skip)) (sr_ [o1 61 2 l6,v_ 62 7,k2 63 196 61 62,o1 64 63 (.extract 0),o1 65 63 (.extract 1),v_ 4 64,v_ 5 65] .ret))))))))
theorem SK:Bv Tryz.prog 185 2=some ⟨66,2,[(.slot 4),(.slot 5)],Mn⟩:=by kernel_rfl
def N8:AC:=(sr_ [ns_ 4] (.seq (sr_ [v_ 7 1,c2 8 7 (.int .i64 (-2147483648)) bls_,v_ 9 8,g_ 10 9 false [s_ 1] .mv,g_ 11 9 false [s_ 10,k_ (.int .i64 2147483648)] bgt_,m_ 12 [s_ 9,k_ (.bool true),s_ 11] .pick] (i_ 12 (sr_ [ns_ 4] .ret) .skip)) (sr_ [v_ 13 0,k1 14 181 13,v_ 5 14] (.seq (sr_ [v_ 15 5,o1 16 15 ln,z_ 17] (.block 0 (.loop (sr_ [o2 18 17 16 bls_] (.seq (ex_ 18 0) (.seq (.block 1 (sr_ [v_ 19 17,v_ 6 19] (sr_ [v_ 20 5,v_ 21 6,o2 22 20 21 a2_,o1 23 22 f0_,o1 24 23 ld,v_ 25 1,o2 26 24 25 bad_,o2 27 20 21 a2_,o1 28 27 f0_,n2 28 26 st] (.reg [v_ 29 5,v_ 30 6,o2 31 29 30 a2_,o1 32 31 f1_,o1 33 32 ld,v_ 34 1,o2 35 33 34 bad_,o2 36 29 30 a2_,o1 37 36 f1_,n2 37 35 st])))) (.reg [i1_ 38 17,v_ 17 38]))))))) (sr_ [v_ 39 5,k1 40 181 39,v_ 4 40] .ret)))))
theorem U9:Bv Tryz.prog 186 2=some ⟨41,2,[(.slot 4)],N8⟩:=by kernel_rfl
def Jl:AC:=(sr_ [o1 2 0 .box,ns_ 4] (.seq (sr_ [o1 13 2 (.load true 4),k1 14 153 13,o1 15 14 nt] (i_ 15 (sr_ [ns_ 4] .ret) .skip)) (sr_ [o1 16 2 f2_,o1 17 16 ld,m_ 18 [k_ (.int .i64 1),s_ 17] (.bin .shl),c2 19 18 (.int .i64 1) bsu_,v_ 5 19] (sr_ [ns_ 6] (.seq (sr_ [v_ 20 1,m_ 21 [k_ (.int .i64 0),k_ (.int .i64 2097151)] (.build [(.int .i64 0),(.int .i64 0)] [(0,1),(1,1)] [0,1]),o1 22 21 (.bslice 2 1 (.agg [(.int .i64 0),(.int .i64 0)]) [0]),k2 23 182 20 22,o1 24 23 ln,z_ 25] (.block 0 (.loop (sr_ [o2 26 25 24 bls_] (.seq (ex_ 26 0) (.seq (.block 1 (sr_ [o2 27 23 25 a2_,o1 28 27 (.load true 2),o0 8 (.alloc (.agg [(.int .i64 0),(.int .i64 0)]) 2),n2 8 28 (.store 2)] (.seq (.dreg [o1 29 8 f0_,o1 30 29 ld,o1 31 2 f1_,o1 32 31 ld,o2 33 30 32 (.bin .shr),o1 34 8 f1_,o1 35 34 ld,o1 36 2 f1_,o1 37 36 ld,o2 38 35 37 (.bin .shr),v_ 9 33,v_ 10 38]) (.seq (sr_ [v_ 39 10,v_ 40 9,o2 41 39 40 bsu_,v_ 42 5,o2 43 41 42 bge_] (i_ 43 (sr_ [v_ 44 5,m_ 45 [k_ (.int .i64 0),s_ 44] (.build [(.int .i64 0),(.int .i64 0)] [(0,1),(1,1)] [0,1]),o1 46 45 (.bslice 2 1 (.agg [(.int .i64 0),(.int .i64 0)]) [0]),v_ 6 46] (.exit 0)) .skip)) (sr_ [v_ 47 9,v_ 48 5,o2 49 47 48 (.bin .and),v_ 50 10,v_ 51 5,o2 52 50 51 (.bin .and),o2 53 49 52 ble_] (i_ 53 (.reg [v_ 54 6,v_ 55 9,v_ 56 5,o2 57 55 56 (.bin .and),v_ 58 10,v_ 59 5,o2 60 58 59 (.bin .and),o2 61 57 60 (.build [(.int .i64 0),(.int .i64 0)] [(0,1),(1,1)] [0,1]),o1 62 61 (.bslice 2 1 (.agg [(.int .i64 0),(.int .i64 0)]) [0]),o2 63 54 62 (.app 2 16 (.agg [(.int .i64 0),(.int .i64 0)])),v_ 6 63]) (.reg [v_ 64 6,v_ 65 10,v_ 66 5,o2 67 65 66 (.bin .and),m_ 68 [k_ (.int .i64 0),s_ 67] (.build [(.int .i64 0),(.int .i64 0)] [(0,1),(1,1)] [0,1]),v_ 69 9,v_ 70 5,o2 71 69 70 (.bin .and),v_ 72 5,o2 73 71 72 (.build [(.int .i64 0),(.int .i64 0)] [(0,1),(1,1)] [0,1]),o2 74 68 73 (.bslice 2 2 (.agg [(.int .i64 0),(.int .i64 0)]) [0,1]),o2 75 64 74 (.app 2 16 (.agg [(.int .i64 0),(.int .i64 0)])),v_ 6 75]))))))) (.reg [i1_ 76 25,v_ 25 76]))))))) (sr_ [v_ 77 6,k1 78 181 77,v_ 6 78] (.seq (sr_ [o1 79 2 f3_,o1 80 79 ld,c2 81 80 (.int .i64 0) beq_] (i_ 81 (sr_ [v_ 82 6,v_ 4 82] .ret) .skip)) (sr_ [o0 11 (.alloc .nilS 1)] (.seq (sr_ [v_ 83 6,k1 84 197 83] (.block 2 (.rng (.slot 84) [85] (.reg [v_ 12 85]) (.block 3 (.dtl [o1 86 11 ld,v_ 87 12,o1 88 2 f3_,o1 89 88 ld,o2 90 87 89 (.bin .shl),v_ 91 12,o1 92 2 f3_,o1 93 92 ld,o2 94 91 93 (.bin .shl),o2 95 90 94 (.build [(.int .i64 0),(.int .i64 0)] [(0,1),(1,1)] [0,1]),o1 96 95 (.bslice 2 1 (.agg [(.int .i64 0),(.int .i64 0)]) [0])] [o2 97 86 96 (.app 2 16 (.agg [(.int .i64 0),(.int .i64 0)])),n2 11 97 st]))))) (sr_ [o1 98 11 ld,k1 99 181 98,v_ 4 99] .ret))))))))))
theorem Mo:Bv Tryz.prog 187 2=some ⟨100,2,[(.slot 4)],Jl⟩:=by kernel_rfl
def E8:AC:=(sr_ [v_ 5 0,o1 6 5 ln,v_ 4 6] (.reg [v_ 7 0,v_ 8 4,v_ 9 4,o1 10 9 (.conv .u64),k1 11 139 10,v_ 12 1,m_ 13 [k_ (.fn 198 []),s_ 7,k_ (.int .i64 0),s_ 8,s_ 11,s_ 12] .call]))
theorem Gx:Bv Tryz.prog 190 2=some ⟨14,2,[],E8⟩:=by kernel_rfl
def Mp:AC:=(sr_ [bf_ 2] (sr_ [v_ 3 0,c2 4 3 (.int .i64 (-1114111)) bge_,v_ 5 4,g1 6 5 0 .mv,g_ 7 5 true [s_ 6,k_ (.int .i64 1114111)] ble_,m_ 8 [s_ 5,s_ 7,k_ (.bool false)] .pick,v_ 2 8] .ret))
theorem SL:Bv Tryz.prog 193 1=some ⟨9,1,[(.slot 2)],Mp⟩:=by kernel_rfl
def KO:AC:=(sr_ [bf_ 2] (.seq (sr_ [v_ 5 0,o1 6 5 ln,z_ 7] (.block 0 (.loop (sr_ [o2 8 7 6 bls_] (.seq (ex_ 8 0) (.seq (.block 1 (sr_ [v_ 9 7,o2 10 5 7 a4_,o1 11 10 (.load true 4),o0 4 (.alloc (.agg [(.int .i64 0),(.int .i64 0),(.int .i64 0),(.int .i64 0)]) 4),v_ 3 9,n2 4 11 (.store 4)] (.seq (.dreg [v_ 12 3,c2 13 12 (.int .i64 0) bgt_,v_ 14 13,g1 15 14 4 f3_,g1 16 14 15 ld,g1 17 14 0 .mv,g1 18 14 3 .mv,g_ 19 14 true [s_ 18,k_ (.int .i64 1)] bsu_,g2 20 14 17 19 a4_,g1 21 14 20 f3_,g1 22 14 21 ld,g2 23 14 16 22 ble_,m_ 24 [s_ 14,s_ 23,k_ (.bool false)] .pick]) (i_ 24 (sr_ [bf_ 2] .ret) .skip)))) (.reg [i1_ 25 7,v_ 7 25]))))))) (sr_ [v_ 26 0,o1 27 26 ln,c2 28 27 (.int .i64 4) ble_,v_ 2 28] .ret)))
theorem QN:Bv Tryz.prog 194 1=some ⟨29,1,[(.slot 2)],KO⟩:=by kernel_rfl
def Kc:AC:=(sr_ [ns_ 0] (sr_ [m_ 1 [k_ (.int .i64 0),k_ (.int .i64 1114111)] (.build [(.int .i64 0),(.int .i64 0)] [(0,1),(1,1)] [0,1]),o1 2 1 (.bslice 2 1 (.agg [(.int .i64 0),(.int .i64 0)]) [0]),v_ 0 2] .ret))
theorem OR:Bv Tryz.prog 195 0=some ⟨3,0,[(.slot 0)],Kc⟩:=by kernel_rfl
def BO:AC:=(sr_ [o1 2 0 .box,ns_ 4,bf_ 5] (sr_ [o0 17 .mkMap,v_ 6 17] (sr_ [ns_ 7] (.seq (sr_ [o1 18 2 f5_,o1 19 18 ld,o1 20 19 ln,z_ 21] (.block 0 (.loop (sr_ [o2 22 21 20 bls_] (.seq (ex_ 22 0) (.seq (.block 1 (sr_ [o2 23 19 21 a4_,o1 24 23 (.load true 4),o0 9 (.alloc (.agg [(.int .i64 0),(.int .i64 0),(.int .i64 0),(.int .i64 0)]) 4),n2 9 24 (.store 4)] (.seq (sr_ [v_ 25 6,o1 26 9 f0_,o1 27 26 ld,o2 28 25 27 (.mapGet .nilS),o1 29 28 ln,c2 30 29 (.int .i64 0) beq_] (i_ 30 (.reg [v_ 31 7,o1 32 9 f0_,o1 33 32 ld,o1 34 33 (.bslice 1 1 (.int .i64 0) [0]),o2 35 31 34 (.app 1 8 (.int .i64 0)),v_ 7 35]) .skip)) (.grx [false,true,true,false,true,true,false,true,false,false,false] [m_ 36 [s_ 6] .mv,m_ 37 [s_ 9] f0_,m_ 38 [s_ 37] ld,m_ 39 [s_ 6] .mv,m_ 40 [s_ 9] f0_,m_ 41 [s_ 40] ld,m_ 42 [s_ 39,s_ 41] (.mapGet .nilS),m_ 43 [s_ 9] (.load true 4),m_ 44 [s_ 43] (.bslice 4 1 (.agg [(.int .i64 0),(.int .i64 0),(.int .i64 0),(.int .i64 0)]) [0]),m_ 45 [s_ 42,s_ 44] (.app 4 32 (.agg [(.int .i64 0),(.int .i64 0),(.int .i64 0),(.int .i64 0)])),h_ [s_ 36,s_ 38,s_ 45] .mapSet])))) (.reg [i1_ 46 21,v_ 21 46]))))))) (sr_ [o1 47 2 f4_,o1 48 47 ld,o1 49 2 f4_,o1 50 49 ld,o2 51 48 50 (.build [(.int .i64 0),(.int .i64 0)] [(0,1),(1,1)] [0,1]),o1 52 51 (.bslice 2 1 (.agg [(.int .i64 0),(.int .i64 0)]) [0]),v_ 10 52] (.seq (sr_ [v_ 53 7,o1 54 53 ln,z_ 55] (.block 2 (.loop (sr_ [o2 56 55 54 bls_] (.seq (ex_ 56 2) (.seq (.block 3 (sr_ [o2 57 53 55 a1_,o1 58 57 ld,v_ 12 58] (.dtl [v_ 59 10,v_ 60 6,v_ 61 12,o2 62 60 61 (.mapGet .nilS),v_ 63 1,v_ 64 12,o2 65 63 64 a1_,o1 66 65 ld,k2 67 201 62 66] [k2 68 200 59 67,v_ 10 68]))) (.reg [i1_ 69 55,v_ 55 69]))))))) (sr_ [v_ 71 10,k1 72 202 71,v_ 70 72,o1 73 70 (.extract 0),o1 74 70 (.extract 1),v_ 13 73,v_ 14 74] (sr_ [v_ 76 10,k1 77 203 76,v_ 75 77,o1 78 75 (.extract 0),o1 79 75 (.extract 1),v_ 15 78,v_ 16 79] (sr_ [v_ 80 10,v_ 81 10,o1 82 81 ln,c2 83 82 (.int .i64 0) bgt_,v_ 84 83,g1 85 84 13 .mv,g_ 86 84 true [s_ 85,k_ (.int .i64 0)] bge_,m_ 87 [s_ 84,s_ 86,k_ (.bool false)] .pick,v_ 88 87,g1 89 88 15 .mv,g_ 90 88 true [s_ 89,k_ (.int .i64 1114111)] ble_,m_ 91 [s_ 88,s_ 90,k_ (.bool false)] .pick,v_ 4 80,v_ 5 91] .ret)))))))))
theorem BQ:Bv Tryz.prog 196 2=some ⟨92,2,[(.slot 4),(.slot 5)],BO⟩:=by kernel_rfl
def N9:AC:=(sr_ [c1 2 .nilF .mv] (sr_ [v_ 4 0,k1 5 181 4,o0 3 (.alloc .nilS 1),n2 3 5 st] (sr_ [o1 6 3 (.mkFunc 204),v_ 2 6] .ret)))
theorem UA:Bv Tryz.prog 197 1=some ⟨7,1,[(.slot 2)],N9⟩:=by kernel_rfl
def Ff:AC:=(sr_ [bt_ 10] (sr_ [bt_ 11] (.block 0 (.loop (.block 1 (sr_ [v_ 21 2,v_ 22 1,o2 23 21 22 bsu_,v_ 12 23] (.seq (sr_ [v_ 24 12,c2 25 24 (.int .i64 12) ble_] (i_ 25 (sr_ [v_ 26 0,v_ 27 1,v_ 28 2,v_ 29 4,m_ 30 [k_ (.fn 205 []),s_ 26,s_ 27,s_ 28,s_ 29] .call] .ret) .skip)) (.seq (sr_ [v_ 31 3,c2 32 31 (.int .i64 0) beq_] (i_ 32 (sr_ [v_ 33 0,v_ 34 1,v_ 35 2,v_ 36 4,m_ 37 [k_ (.fn 206 []),s_ 33,s_ 34,s_ 35,s_ 36] .call] .ret) .skip)) (.seq (sr_ [v_ 38 10,o1 39 38 nt] (i_ 39 (sr_ [v_ 40 0,v_ 41 1,v_ 42 2,v_ 43 4,m_ 44 [k_ (.fn 207 []),s_ 40,s_ 41,s_ 42,s_ 43] .call] (.reg [v_ 45 3,c2 46 45 (.int .i64 1) bsu_,v_ 3 46])) .skip)) (sr_ [v_ 48 0,v_ 49 1,v_ 50 2,v_ 51 4,m_ 52 [k_ (.fn 208 []),s_ 48,s_ 49,s_ 50,s_ 51] .call,v_ 47 52,o1 53 47 (.extract 0),o1 54 47 (.extract 1),v_ 13 53,v_ 14 54] (.seq (sr_ [v_ 55 14,c2 56 55 (.int .i64 2) beq_] (i_ 56 (sr_ [v_ 57 0,v_ 58 1,v_ 59 2,v_ 60 4,m_ 61 [k_ (.fn 209 []),s_ 57,s_ 58,s_ 59,s_ 60] .call] (sr_ [v_ 62 2,c2 63 62 (.int .i64 1) bsu_,v_ 64 13,v_ 65 1,o2 66 64 65 bsu_,o2 67 63 66 bsu_,v_ 13 67] (.reg [c1 14 (.int .i64 1) .mv]))) .skip)) (.seq (sr_ [v_ 68 10,v_ 69 68,g1 70 69 11 .mv,m_ 71 [s_ 69,s_ 70,k_ (.bool false)] .pick,v_ 72 71,g1 73 72 14 .mv,g_ 74 72 true [s_ 73,k_ (.int .i64 1)] beq_,m_ 75 [s_ 72,s_ 74,k_ (.bool false)] .pick] (i_ 75 (sr_ [v_ 76 0,v_ 77 1,v_ 78 2,v_ 79 4,m_ 80 [k_ (.fn 210 []),s_ 76,s_ 77,s_ 78,s_ 79] .call] (i_ 80 .ret .skip)) .skip)) (.seq (.seq (.dtl [v_ 81 1,c2 82 81 (.int .i64 0) bgt_,v_ 83 82,g1 84 83 4 .mv,g1 85 83 0 .mv,g1 86 83 1 .mv,g_ 87 83 true [s_ 86,k_ (.int .i64 1)] bsu_,g2 88 83 85 87 a2_,g1 89 83 88 (.load true 2),g1 90 83 0 .mv,g1 91 83 13 .mv,g2 92 83 90 91 a2_,g1 93 83 92 (.load true 2)] [g_ 94 83 true [s_ 84,s_ 89,s_ 93] .call,g_ 95 83 true [s_ 94,k_ (.int .i64 0)] bls_,g1 96 83 95 nt,m_ 97 [s_ 83,s_ 96,k_ (.bool false)] .pick]) (i_ 97 (sr_ [v_ 98 0,v_ 99 1,v_ 100 2,v_ 101 13,v_ 102 4,m_ 103 [k_ (.fn 211 []),s_ 98,s_ 99,s_ 100,s_ 101,s_ 102] .call,v_ 15 103] (sr_ [v_ 104 15,v_ 1 104] (.exit 1))) .skip)) (sr_ [v_ 106 0,v_ 107 1,v_ 108 2,v_ 109 13,v_ 110 4,m_ 111 [k_ (.fn 212 []),s_ 106,s_ 107,s_ 108,s_ 109,s_ 110] .call,v_ 105 111,o1 112 105 (.extract 0),o1 113 105 (.extract 1),v_ 16 112,v_ 17 113] (sr_ [v_ 114 17,v_ 11 114] (sr_ [v_ 115 16,v_ 116 1,o2 117 115 116 bsu_,v_ 118 2,v_ 119 16,o2 120 118 119 bsu_,v_ 18 117,v_ 19 120] (sr_ [v_ 121 12,c2 122 121 (.int .i64 8) (.bin .quo),v_ 20 122] (sr_ [v_ 123 18,v_ 124 19,o2 125 123 124 bls_] (i_ 125 (sr_ [v_ 126 18,v_ 127 20,o2 128 126 127 bge_,v_ 10 128] (sr_ [v_ 129 0,v_ 130 1,v_ 131 16,v_ 132 3,v_ 133 4,m_ 134 [k_ (.fn 198 []),s_ 129,s_ 130,s_ 131,s_ 132,s_ 133] .call] (.reg [v_ 135 16,i1_ 136 135,v_ 1 136]))) (sr_ [v_ 137 19,v_ 138 20,o2 139 137 138 bge_,v_ 10 139] (sr_ [v_ 140 0,v_ 141 16,i1_ 142 141,v_ 143 2,v_ 144 3,v_ 145 4,m_ 146 [k_ (.fn 198 []),s_ 140,s_ 142,s_ 143,s_ 144,s_ 145] .call] (.reg [v_ 147 16,v_ 2 147]))))))))))))))))))))))
theorem GE:Bv Tryz.prog 198 5=some ⟨148,5,[],Ff⟩:=by kernel_rfl
def NA:AC:=(sr_ [ns_ 4] (sr_ [ns_ 5] (.seq (sr_ [v_ 10 0,o1 11 10 ln,z_ 12] (.block 0 (.loop (sr_ [o2 13 12 11 bls_] (.seq (ex_ 13 0) (.seq (.block 1 (sr_ [o2 14 10 12 a2_,o1 15 14 (.load true 2),o0 7 (.alloc (.agg [(.int .i64 0),(.int .i64 0)]) 2),n2 7 15 (.store 2)] (.seq (sr_ [v_ 16 1,o1 17 16 ln,z_ 18] (.block 2 (.loop (sr_ [o2 19 18 17 bls_] (.seq (ex_ 19 2) (.seq (.block 3 (sr_ [o2 20 16 18 a2_,o1 21 20 (.load true 2),o0 9 (.alloc (.agg [(.int .i64 0),(.int .i64 0)]) 2),n2 9 21 (.store 2)] (.reg [v_ 22 5,o1 23 7 f0_,o1 24 23 ld,o1 25 9 f0_,o1 26 25 ld,o2 27 24 26 bad_,o1 28 7 f1_,o1 29 28 ld,o1 30 9 f1_,o1 31 30 ld,o2 32 29 31 bad_,o2 33 27 32 (.build [(.int .i64 0),(.int .i64 0)] [(0,1),(1,1)] [0,1]),o1 34 33 (.bslice 2 1 (.agg [(.int .i64 0),(.int .i64 0)]) [0]),o2 35 22 34 (.app 2 16 (.agg [(.int .i64 0),(.int .i64 0)])),v_ 5 35]))) (.reg [i1_ 36 18,v_ 18 36]))))))) (sr_ [v_ 37 5,o1 38 37 ln,c2 39 38 (.int .i64 65536) bgt_] (i_ 39 (.reg [v_ 40 5,k1 41 181 40,v_ 5 41]) .skip))))) (.reg [i1_ 42 12,v_ 12 42]))))))) (sr_ [v_ 43 5,k1 44 181 43,v_ 4 44] .ret))))
theorem UB:Bv Tryz.prog 200 2=some ⟨45,2,[(.slot 4)],NA⟩:=by kernel_rfl
def Jm:AC:=(sr_ [o1 2 0 .box,ns_ 4] (.seq (sr_ [o1 13 2 ld,o1 14 13 ln,c2 15 14 (.int .i64 1) beq_] (i_ 15 (sr_ [o1 16 2 ld,c2 17 16 (.int .i64 0) a4_,o1 18 17 (.load true 4),v_ 19 1,k2 20 187 18 19,v_ 4 20] .ret) .skip)) (sr_ [o0 5 (.alloc .nilS 1)] (.seq (sr_ [v_ 21 1,k1 22 197 21] (.block 0 (.rng (.slot 22) [23] (.reg [v_ 6 23]) (.block 1 (sr_ [z_ 7] (.seq (sr_ [o1 24 2 ld,o1 25 24 ln,z_ 26] (.block 2 (.loop (sr_ [o2 27 26 25 bls_] (.seq (ex_ 27 2) (.seq (.block 3 (sr_ [o2 28 24 26 a4_,o1 29 28 (.load true 4),o0 9 (.alloc (.agg [(.int .i64 0),(.int .i64 0),(.int .i64 0),(.int .i64 0)]) 4),n2 9 29 (.store 4)] (sr_ [o1 31 9 (.load true 4),v_ 32 6,k2 33 136 31 32,v_ 30 33,o1 34 30 (.extract 0),o1 35 30 (.extract 1),v_ 10 34,v_ 11 35] (.reg [v_ 36 7,v_ 37 10,o2 38 36 37 bad_,v_ 7 38])))) (.reg [i1_ 39 26,v_ 26 39]))))))) (sr_ [o1 40 5 ld,o1 41 40 ln,v_ 12 41] (sr_ [v_ 42 12,c2 43 42 (.int .i64 0) bgt_,v_ 44 43,g1 45 44 5 ld,g1 46 44 12 .mv,g_ 47 44 true [s_ 46,k_ (.int .i64 1)] bsu_,g2 48 44 45 47 a2_,g1 49 44 48 f1_,g1 50 44 49 ld,g1 51 44 7 .mv,g_ 52 44 true [s_ 51,k_ (.int .i64 1)] bsu_,g2 53 44 50 52 beq_,m_ 54 [s_ 44,s_ 53,k_ (.bool false)] .pick] (i_ 54 (.reg [o1 55 5 ld,v_ 56 12,c2 57 56 (.int .i64 1) bsu_,v_ 58 7,o2 59 55 57 a2_,o1 60 59 f1_,n2 60 58 st]) (.reg [o1 61 5 ld,v_ 62 7,v_ 63 7,o2 64 62 63 (.build [(.int .i64 0),(.int .i64 0)] [(0,1),(1,1)] [0,1]),o1 65 64 (.bslice 2 1 (.agg [(.int .i64 0),(.int .i64 0)]) [0]),o2 66 61 65 (.app 2 16 (.agg [(.int .i64 0),(.int .i64 0)])),n2 5 66 st])))))))))) (sr_ [o1 67 5 ld,k1 68 181 67,v_ 4 68] .ret)))))
theorem NB:Bv Tryz.prog 201 2=some ⟨69,2,[(.slot 4)],Jm⟩:=by kernel_rfl
def Mq:AC:=(sr_ [z_ 2,bf_ 3] (sr_ [v_ 5 0,k1 6 181 5,v_ 4 6] (.seq (sr_ [v_ 7 4,o1 8 7 ln,c2 9 8 (.int .i64 0) beq_] (i_ 9 (sr_ [z_ 2,bf_ 3] .ret) .skip)) (sr_ [v_ 10 4,c2 11 10 (.int .i64 0) a2_,o1 12 11 f0_,o1 13 12 ld,v_ 2 13,bt_ 3] .ret))))
theorem SN:Bv Tryz.prog 202 1=some ⟨14,1,[(.slot 2),(.slot 3)],Mq⟩:=by kernel_rfl
def NC:AC:=(sr_ [z_ 2,bf_ 3] (sr_ [v_ 5 0,k1 6 181 5,v_ 4 6] (.seq (sr_ [v_ 7 4,o1 8 7 ln,c2 9 8 (.int .i64 0) beq_] (i_ 9 (sr_ [z_ 2,bf_ 3] .ret) .skip)) (sr_ [v_ 10 4,v_ 11 4,o1 12 11 ln,c2 13 12 (.int .i64 1) bsu_,o2 14 10 13 a2_,o1 15 14 f1_,o1 16 15 ld,v_ 2 16,bt_ 3] .ret))))
theorem UC:Bv Tryz.prog 203 1=some ⟨17,1,[(.slot 2),(.slot 3)],NC⟩:=by kernel_rfl
def ID:AC:=(sr_ [o1 6 1 ld,o1 7 6 ln,z_ 8] (.block 0 (.loop (sr_ [o2 9 8 7 bls_] (.seq (ex_ 9 0) (.seq (.block 1 (sr_ [o2 10 6 8 a2_,o1 11 10 (.load true 2),o0 4 (.alloc (.agg [(.int .i64 0),(.int .i64 0)]) 2),n2 4 11 (.store 2)] (sr_ [o1 12 4 f0_,o1 13 12 ld,v_ 5 13] (.block 2 (.loop (.seq (sr_ [v_ 14 5,o1 15 4 f1_,o1 16 15 ld,o2 17 14 16 ble_] (ex_ 17 2)) (.seq (.block 3 (sr_ [v_ 20 0,v_ 21 5,o2 22 20 21 .call,o1 23 22 nt] (i_ 23 .ret .skip))) (.reg [v_ 18 5,i1_ 19 18,v_ 5 19])))))))) (.reg [i1_ 24 8,v_ 8 24])))))))
theorem QO:Bv Tryz.prog 204 2=some ⟨25,2,[],ID⟩:=by kernel_rfl
def Ej:AC:=(sr_ [v_ 10 1,i1_ 11 10,v_ 8 11] (.block 0 (.loop (.seq (sr_ [v_ 12 8,v_ 13 2,o2 14 12 13 bls_] (ex_ 14 0)) (.seq (.block 1 (sr_ [v_ 17 8,v_ 9 17] (.block 2 (.loop (.seq (.seq (.dtl [v_ 18 9,v_ 19 1,o2 20 18 19 bgt_,v_ 21 20,g1 22 21 3 .mv,g1 23 21 0 .mv,g1 24 21 9 .mv,g2 25 21 23 24 a2_,g1 26 21 25 (.load true 2),g1 27 21 0 .mv,g1 28 21 9 .mv,g_ 29 21 true [s_ 28,k_ (.int .i64 1)] bsu_,g2 30 21 27 29 a2_,g1 31 21 30 (.load true 2)] [g_ 32 21 true [s_ 22,s_ 26,s_ 31] .call,g_ 33 21 true [s_ 32,k_ (.int .i64 0)] bls_,m_ 34 [s_ 21,s_ 33,k_ (.bool false)] .pick]) (ex_ 34 2)) (.seq (.block 3 (.greg [v_ 37 0,v_ 38 9,v_ 39 0,v_ 40 9,c2 41 40 (.int .i64 1) bsu_,v_ 42 0,v_ 43 9,c2 44 43 (.int .i64 1) bsu_,o2 45 42 44 a2_,o1 46 45 (.load true 2),v_ 47 0,v_ 48 9,o2 49 47 48 a2_,o1 50 49 (.load true 2),o2 51 37 38 a2_,n2 51 46 (.store 2),o2 52 39 41 a2_,n2 52 50 (.store 2)])) (.reg [v_ 35 9,c2 36 35 (.int .i64 1) bsu_,v_ 9 36]))))))) (.reg [v_ 15 8,i1_ 16 15,v_ 8 16]))))))
theorem Gd:Bv Tryz.prog 205 4=some ⟨53,4,[],Ej⟩:=by kernel_rfl
theorem HR{P:Program}{f m np b:Nat}{xs:List AV}{l:List Grp}{K:AV->A7->Prop}{res:List ARes}{B:AC}(hf:Bv P f xs.length=some ⟨m,np,res,B⟩)(hb:b=l.length)(h:W P m b B (entry xs) (Abs.hl l) (Ret P res K)):BZ P f xs (Abs.hl l) K:=by
 subst hb;exact LQ hf (W_T h)
theorem zft(l:List Span):BZ Tryz.prog 205 [.ref 0 1 0 0,.int .i64 0,.int .i64 0,.fn 191 []] (Abs.hl [⟨2,1,true,l.map Dl⟩]) λy H'=>y=.tup []/\H'=Abs.hl [⟨2,1,true,l.map Dl⟩]:=by
 refine HR (b:=1) Gd rfl ?_;unfold Ej;(with_reducible repeat'(first|(simp(disch:=omega)only[push_cast,↓zz,seval])|refine Aa ?_ ?_|(first|refine Ac ?_ ?_|refine Ab ?_ ?_)<;>intro hc<;>(try simp only[push_cast] at hc)|omega|intro _))
 refine B4 (BK (λ(_:Unit)=>True) (λ_=>0) (λ_=>[(0,.ref 0 1 0 0),(1,.int .i64 0),(2,.int .i64 0),(3,.fn 191 []),(8,.int .i64 1)])
  (λ_=>[⟨2,1,true,l.map Dl⟩]) (λ_ _=>[]) () trivial ?_ ?_)
 ·(with_reducible repeat'(first|(simp(disch:=omega)only[push_cast,↓zz,seval])|refine Aa ?_ ?_|(first|refine Ac ?_ ?_|refine Ab ?_ ?_)<;>intro hc<;>(try simp only[push_cast] at hc)|omega|intro _))
 rintro _ _;refine W_T ?_;(with_reducible repeat'(first|(simp(disch:=omega)only[push_cast,↓zz,seval])|refine Aa ?_ ?_|(first|refine Ac ?_ ?_|refine Ab ?_ ?_)<;>intro hc<;>(try simp only[push_cast] at hc)|omega|intro _))
 all_goals trace_state
set_option maxRecDepth 100000 in
theorem len0:PC Tryz.prog 163 [.int .u64 0] (.int .i64 0):=by
 refine BV L5 ?_;unfold Iv;(with_reducible repeat'(first|(simp(disch:=omega)only[push_cast,↓zz,seval])|refine Aa ?_ ?_|(first|refine Ac ?_ ?_|refine Ab ?_ ?_)<;>intro hc<;>(try simp only[push_cast] at hc)|omega|intro _))
 all_goals decide
theorem M5:PC Tryz.prog 139 [.int .u64 0] (.int .i64 0):=by
 refine BV N3 ?_;unfold Jk;(with_reducible repeat'(first|(simp(disch:=omega)only[push_cast,↓zz,seval])|refine Aa ?_ ?_|(first|refine Ac ?_ ?_|refine Ab ?_ ?_)<;>intro hc<;>(try simp only[push_cast] at hc)|refine eK len0 ?_|refine eQ len0 ?_|refine eG len0 ?_|((first|refine cK len0 ?_|refine cQ len0 ?_|refine cG len0 ?_);(simp(disch:=omega)only[push_cast,↓zz,seval]);(fail_if_success change False))|omega|intro _))
theorem pdq0(l:List Span):BZ Tryz.prog 198 [.ref 0 1 0 0,.int .i64 0,.int .i64 0,.int .i64 0,.fn 191 []] (Abs.hl [⟨2,1,true,l.map Dl⟩]) λy H'=>y=.tup []/\H'=Abs.hl [⟨2,1,true,l.map Dl⟩]:=by
 refine HR (b:=1) GE rfl ?_;unfold Ff;(with_reducible repeat'(first|(simp(disch:=omega)only[push_cast,↓zz,seval])|refine Aa ?_ ?_|(first|refine Ac ?_ ?_|refine Ab ?_ ?_)<;>intro hc<;>(try simp only[push_cast] at hc)|omega|intro _))
 refine B4 (BK (λ(_:Unit)=>True) (λ_=>0) (λ_=>[(0,.ref 0 1 0 0),(1,.int .i64 0),(2,.int .i64 0),(3,.int .i64 0),(4,.fn 191 []),(10,.bool true),(11,.bool true)])
  (λ_=>[⟨2,1,true,l.map Dl⟩]) (λ_ _=>[]) () trivial ?_ ?_)
 ·(with_reducible repeat'(first|(simp(disch:=omega)only[push_cast,↓zz,seval])|refine Aa ?_ ?_|(first|refine Ac ?_ ?_|refine Ab ?_ ?_)<;>intro hc<;>(try simp only[push_cast] at hc)|omega|intro _))
 rintro _ _;refine W_T ?_;(with_reducible repeat'(first|(simp(disch:=omega)only[push_cast,↓zz,seval])|refine Aa ?_ ?_|(first|refine Ac ?_ ?_|refine Ab ?_ ?_)<;>intro hc<;>(try simp only[push_cast] at hc)|omega|intro _));refine BZ.mono (zft l) ?_;rintro y H' ⟨rfl,rfl⟩;(with_reducible repeat'(first|(simp(disch:=omega)only[push_cast,↓zz,seval])|refine Aa ?_ ?_|(first|refine Ac ?_ ?_|refine Ab ?_ ?_)<;>intro hc<;>(try simp only[push_cast] at hc)|omega|intro _))
 all_goals trace_state
theorem sort0(l:List Span):BZ Tryz.prog 190 [.ref 0 1 0 0,.fn 191 []] (Abs.hl [⟨2,1,true,l.map Dl⟩]) λy H'=>y=.tup []/\H'=Abs.hl [⟨2,1,true,l.map Dl⟩]:=by
 refine HR (b:=1) Gx rfl ?_;unfold E8;(with_reducible repeat'(first|(simp(disch:=omega)only[push_cast,↓zz,seval])|refine Aa ?_ ?_|(first|refine Ac ?_ ?_|refine Ab ?_ ?_)<;>intro hc<;>(try simp only[push_cast] at hc)|refine eK M5 ?_|refine eQ M5 ?_|refine eG M5 ?_|((first|refine cK M5 ?_|refine cQ M5 ?_|refine cG M5 ?_);(simp(disch:=omega)only[push_cast,↓zz,seval]);(fail_if_success change False))|omega|intro _));refine BZ.mono (pdq0 l) ?_;rintro y H' ⟨rfl,rfl⟩;(with_reducible repeat'(first|(simp(disch:=omega)only[push_cast,↓zz,seval])|refine Aa ?_ ?_|(first|refine Ac ?_ ?_|refine Ab ?_ ?_)<;>intro hc<;>(try simp only[push_cast] at hc)|omega|intro _))
 all_goals trace_state
end Go.Proofs.YtbcjoeadpjfcfaaGreat
