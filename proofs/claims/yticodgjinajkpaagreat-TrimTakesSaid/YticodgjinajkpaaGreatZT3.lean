/-
  Parts of the proof that the law holds whatever the input; without conditions.
-/
import Derived.Deep.Slices
import Derived.OpenShut
import Derived.Carry
import Derived.WideShapes
import Derived.ProofKit
import Derived.ChangeOld
import Derived.LoopNIn
import Derived.Test.YticodgjinajkpaaGreatZT2
set_option linter.unusedSimpArgs false
set_option linter.unusedVariables false
namespace Go.Proofs.YticodgjinajkpaaGreat.Abs
def nx (x:AV) (H:Ac) [K:HK]:Prop:=K.f x H
theorem zk1 (x:AV) (H:Ac) (f:AV→Ac→Prop):@nx x H ⟨f⟩=f x H:=(rfl)
class HF (α:Type) where
 f:α→Prop
def optN {α:Type} (o:Option α) [F:HF α]:Prop:=optK o F.f
theorem z9y {α:Type} (x:α) (f:α→Prop):@optN α (some x) ⟨f⟩=f x:=(rfl)
def ifN (c:Bool) [p:HP] [q:HP]:Prop:=match c with
 | false=>p.p
 | true=>q.p
theorem zf3 {p q:Prop}:@ifN true ⟨p⟩ ⟨q⟩=q:=(rfl)
theorem z9z {p q:Prop}:@ifN false ⟨p⟩ ⟨q⟩=p:=(rfl)
def appN (w bytes:Nat) (s:AV) (news:List AV) (H:Ac) [K:HK]:Prop:=Jy w bytes s news H K.f
def slcN (w:Nat) (x:AV) (lo hi mx:Option Int) (H:Ac) [K:HK]:Prop:=E8 w x lo hi mx H fun y=>K.f y H
def nq (x:AV) [K:HQ]:Prop:=K.f x
theorem zk2 (x:AV) (f:AV→Prop):@nq x ⟨f⟩=f x:=(rfl)
section
variable {P:Program} {H:Ac} {K:AV→Ac→Prop} {k:IntKind} {a b c:Int} {x y z:AV} {xs ys cs:List AV} {w s o i g v off len n:Nat} {p q r:Bool}
theorem K_mv:@opK P .mv H [x] ⟨K⟩=@nx x H ⟨K⟩:=(rfl)
theorem zoe:@opK P .pick H [.bool p,x,y] ⟨K⟩=@nx (bif p then x else y) H ⟨K⟩:=(rfl)
theorem zk3:@opK P (.alloc z w) H [] ⟨K⟩=@nx (.ptr H.n 1 0 0) (H.push ⟨w,1,true,[z]⟩) ⟨K⟩:=(rfl)
theorem K_box:@opK P .box H [x] ⟨K⟩=(E7 x.cells=true∧0 < x.cells.length∧@nx (.ptr H.n 1 0 0) (H.push ⟨x.cells.length,1,true,[x]⟩) ⟨K⟩):=(rfl)
theorem zk4 {zs:List AV} {pl:List (Nat × Nat)} {idx:List Nat}:@opK P (.build zs pl idx) H xs ⟨K⟩=@optN _ (Ue pl idx xs zs) ⟨fun cs=>@nx (.agg cs) H ⟨K⟩⟩:=(rfl)
theorem zf4 {idx:List Nat}:@opK P (.bslice w len z idx) H xs ⟨K⟩=(Gi w len idx xs∧@nx (.ref H.n 1 0 len) (H.push ⟨w,1,true,D1 idx xs (List.replicate len z)⟩) ⟨K⟩):=(rfl)
theorem zf5:@opK P (.load p s) H [.cptr x] ⟨K⟩=(x.isAny=false∧x.cells.length=s∧(p=false→s=1)∧@nx (Ca p 0 s x) H ⟨K⟩):=(rfl)
theorem zf6:@opK P (.load p s) H [.ptr g v i o] ⟨K⟩=((H.at_ g).ver=v∧i < (H.at_ g).xs.length∧((H.at_ g).xs.getD i .any).isAny=false∧((H.at_ g).xs.getD i .any).cells.length=(H.at_ g).w∧0 < s∧o + s ≤ (H.at_ g).w ∧
     (p=false→s=1)∧@nx (Ca p o s ((H.at_ g).xs.getD i .any)) H ⟨K⟩):=(rfl)
theorem zk5:@opK P (.store s) H [.ptr g v i o,x] ⟨K⟩=((H.at_ g).ver=v∧i < (H.at_ g).xs.length∧0 < s∧o + s ≤ (H.at_ g).w∧x.cells.length=s∧E7 x.cells=true ∧
     (s=(H.at_ g).w ∨ ((H.at_ g).xs.getD i .any).isAny=false∧((H.at_ g).xs.getD i .any).cells.length=(H.at_ g).w) ∧
     @nx .any (H.set g ⟨(H.at_ g).w,v,(H.at_ g).exact,(H.at_ g).xs.set i (Jw (H.at_ g).w o s ((H.at_ g).xs.getD i .any) x)⟩) ⟨K⟩):=(rfl)
theorem zof:@opK P .nilCheck H [.cptr x] ⟨K⟩=@nx (.cptr x) H ⟨K⟩:=(rfl)
theorem zog:@opK P .nilCheck H [.ptr g v i o] ⟨K⟩=@nx (.ptr g v i o) H ⟨K⟩:=(rfl)
theorem zoh {f:Nat}:@opK P .nilCheck H [.fn f xs] ⟨K⟩=@nx (.fn f xs) H ⟨K⟩:=(rfl)
theorem K_add:@opK P (.bin .add) H [.int k a,.int k b] ⟨K⟩=@nx (.int k (k.wrap (a + b))) H ⟨K⟩:=by simp [opK,Ag,binI,nx]
theorem K_sub:@opK P (.bin .sub) H [.int k a,.int k b] ⟨K⟩=@nx (.int k (k.wrap (a - b))) H ⟨K⟩:=by simp [opK,Ag,binI,nx]
theorem K_mul:@opK P (.bin .mul) H [.int k a,.int k b] ⟨K⟩=@nx (.int k (k.wrap (a * b))) H ⟨K⟩:=by simp [opK,Ag,binI,nx]
theorem K_quo:@opK P (.bin .quo) H [.int k a,.int k b] ⟨K⟩=(b ≠ 0∧@nx (.int k (k.wrap (a.tdiv b))) H ⟨K⟩):=by simp [opK,Ag,binI,nx]
theorem K_rem:@opK P (.bin .rem) H [.int k a,.int k b] ⟨K⟩=(b ≠ 0∧@nx (.int k (a.tmod b)) H ⟨K⟩):=by simp [opK,Ag,binI,nx]
theorem K_and:@opK P (.bin .and) H [.int k a,.int k b] ⟨K⟩=@nx (.int k (Jb .and k a b)) H ⟨K⟩:=by simp [opK,Ag,binI,nx]
theorem K_or:@opK P (.bin .or) H [.int k a,.int k b] ⟨K⟩=@nx (.int k (Jb .or k a b)) H ⟨K⟩:=by simp [opK,Ag,binI,nx]
theorem K_xor:@opK P (.bin .xor) H [.int k a,.int k b] ⟨K⟩=@nx (.int k (Jb .xor k a b)) H ⟨K⟩:=by simp [opK,Ag,binI,nx]
theorem zf7:@opK P (.bin .andNot) H [.int k a,.int k b] ⟨K⟩=@nx (.int k (Jb .andNot k a b)) H ⟨K⟩:=by simp [opK,Ag,binI,nx]
theorem K_shl {k':IntKind}:@opK P (.bin .shl) H [.int k a,.int k' b] ⟨K⟩=(0 ≤ b∧@nx (.int k (k.wrap (a * 2 ^ (Min.min b.toNat k.bits)))) H ⟨K⟩):=(rfl)
theorem K_shr {k':IntKind}:@opK P (.bin .shr) H [.int k a,.int k' b] ⟨K⟩=(0 ≤ b∧@nx (.int k (a.fdiv (2 ^ (Min.min b.toNat k.bits)))) H ⟨K⟩):=(rfl)
theorem K_eql:@opK P (.bin .eql) H [.int k a,.int k b] ⟨K⟩=@nx (.bool (decide (a=b))) H ⟨K⟩:=by simp [opK,Ag,binI,nx]
theorem K_neq:@opK P (.bin .neq) H [.int k a,.int k b] ⟨K⟩=@nx (.bool (!decide (a=b))) H ⟨K⟩:=by simp [opK,Ag,binI,nx]
theorem K_lss:@opK P (.bin .lss) H [.int k a,.int k b] ⟨K⟩=@nx (.bool (decide (a < b))) H ⟨K⟩:=by simp [opK,Ag,binI,nx]
theorem K_leq:@opK P (.bin .leq) H [.int k a,.int k b] ⟨K⟩=@nx (.bool (decide (a ≤ b))) H ⟨K⟩:=by simp [opK,Ag,binI,nx]
theorem K_gtr:@opK P (.bin .gtr) H [.int k a,.int k b] ⟨K⟩=@nx (.bool (decide (b < a))) H ⟨K⟩:=by simp [opK,Ag,binI,nx]
theorem K_geq:@opK P (.bin .geq) H [.int k a,.int k b] ⟨K⟩=@nx (.bool (decide (b ≤ a))) H ⟨K⟩:=by simp [opK,Ag,binI,nx]
theorem zoi {s t:List UInt8}:@opK P (.bin .eql) H [.str s,.str t] ⟨K⟩=@nx (.bool (decide (s=t))) H ⟨K⟩:=(rfl)
theorem zoj {s t:List UInt8}:@opK P (.bin .neq) H [.str s,.str t] ⟨K⟩=@nx (.bool (!decide (s=t))) H ⟨K⟩:=(rfl)
theorem K_eqb:@opK P (.eqb p) H [.bool q,.bool r] ⟨K⟩=@nx (.bool (if p then !(q == r) else q == r)) H ⟨K⟩:=(rfl)
theorem K_eqs {ks:List Nat}:@opK P (.eqs p ks) H [.agg xs,.agg ys] ⟨K⟩=@optN _ (eqL ks xs ys) ⟨fun b=>@nx (.bool (if p then !b else b)) H ⟨K⟩⟩:=(rfl)
theorem za0:@opK P (.eqn p) H [.nilS,.nilS] ⟨K⟩=@nx (.bool (!p)) H ⟨K⟩:=(rfl)
theorem za1:@opK P (.eqn p) H [.lst w xs,.nilS] ⟨K⟩=(xs ≠ []∧@nx (.bool p) H ⟨K⟩):=(rfl)
theorem za2:@opK P (.eqn p) H [.ref g v off len,.nilS] ⟨K⟩=(0 < len∧@nx (.bool p) H ⟨K⟩):=(rfl)
theorem K_not:@opK P (.un .not) H [.bool p] ⟨K⟩=@nx (.bool (!p)) H ⟨K⟩:=(rfl)
theorem K_neg:@opK P (.un .neg) H [.int k a] ⟨K⟩=@nx (.int k (k.wrap (0 - a))) H ⟨K⟩:=(rfl)
theorem zok {k':IntKind}:@opK P (.conv k) H [.int k' a] ⟨K⟩=@nx (.int k (k.wrap a)) H ⟨K⟩:=(rfl)
theorem zk6:@opK P .toStr H [x] ⟨K⟩=(Ga H 1 x∧(match x with|.str _=>False|_=>True)∧∃ bs:List UInt8,F9 H x=some (bs.map fun b=>.int .u8 b.toNat)∧@nx (.str bs) H ⟨K⟩):=(rfl)
theorem zk7 {lo hi mx:Bool}:@opK P (.slice w lo hi mx) H (x :: xs) ⟨K⟩=@optN _ (optA lo xs) ⟨fun p=>@optN _ (optA hi p.2) ⟨fun q=>@optN _ (optA mx q.2) ⟨fun r=>r.2=[]∧@slcN w x p.1 q.1 r.1 H ⟨K⟩⟩⟩⟩:=(rfl)
theorem za3:@opK P (.faddr p off s) H [.cptr x] ⟨K⟩=(x.isAny=false∧off + s ≤ x.cells.length∧(p=false→s=1)∧0 < s∧@nx (.cptr (Ca p off s x)) H ⟨K⟩):=(rfl)
theorem za4:@opK P (.faddr p off s) H [.ptr g v i o] ⟨K⟩=((H.at_ g).ver=v∧@nx (.ptr g v i (o + off)) H ⟨K⟩):=(rfl)
theorem zk8:@opK P (.field p off s) H [.agg cs] ⟨K⟩=(off + s ≤ cs.length∧(p=false→s=1)∧@nx (Ca p off s (.agg cs)) H ⟨K⟩):=(rfl)
theorem za5 {w':Nat}:@opK P (.iaddr w) H [.lst w' xs,.int k a] ⟨K⟩=(w'=w∧0 ≤ a∧a < xs.length∧@nx (.cptr (xs.getD a.toNat .any)) H ⟨K⟩):=(rfl)
theorem za6:@opK P (.iaddr w) H [.ref g v off len,.int k a] ⟨K⟩=((H.at_ g).ver=v∧(H.at_ g).w=w∧0 ≤ a∧a < len∧@nx (.ptr g v (off + a.toNat) 0) H ⟨K⟩):=(rfl)
theorem z6u:@opK P (.iaddrA n w p) H [.ptr g v i o,.int k a] ⟨K⟩=((H.at_ g).ver=v∧0 ≤ a∧a < n∧@nx (.ptr g v i (o + a.toNat * w)) H ⟨K⟩):=(rfl)
theorem z6v:@opK P (.iaddrA n w p) H [.cptr x,.int k a] ⟨K⟩=(x.isAny=false∧0 ≤ a∧a < n∧n * w ≤ x.cells.length∧(p=false→w=1)∧0 < w∧@nx (.cptr (Ca p (a.toNat * w) w x)) H ⟨K⟩):=(rfl)
theorem zk9:@opK P (.index n w p) H [.agg cs,.int k a] ⟨K⟩=(0 ≤ a∧a < n∧n * w ≤ cs.length∧(p=false→w=1)∧@nx (Ca p (a.toNat * w) w (.agg cs)) H ⟨K⟩):=(rfl)
theorem z6w {s:List UInt8}:@opK P .indexStr H [.str s,.int k a] ⟨K⟩=(0 ≤ a∧a < s.length∧@nx (.int .u8 (s.getD a.toNat 0).toNat) H ⟨K⟩):=(rfl)
theorem za7:@opK P (.extract i) H [.tup xs] ⟨K⟩=(i < xs.length∧@nx (xs.getD i .any) H ⟨K⟩):=(rfl)
theorem za8:@opK P (.len false) H [.nilS] ⟨K⟩=@nx (.int .i64 0) H ⟨K⟩:=(rfl)
theorem za9:@opK P (.len false) H [.nul] ⟨K⟩=@nx (.int .i64 0) H ⟨K⟩:=(rfl)
theorem zaa:@opK P (.len false) H [.lst w xs] ⟨K⟩=@nx (.int .i64 xs.length) H ⟨K⟩:=(rfl)
theorem zab:@opK P (.len false) H [.ref g v off len] ⟨K⟩=@nx (.int .i64 len) H ⟨K⟩:=(rfl)
theorem zac {s:List UInt8}:@opK P (.len true) H [.str s] ⟨K⟩=@nx (.int .i64 s.length) H ⟨K⟩:=(rfl)
theorem K_app:@opK P (.app w n z) H [x,y] ⟨K⟩=(Ga H w y∧@optN _ (F9 H y) ⟨fun news=>@appN w n x news H ⟨K⟩⟩):=(rfl)
theorem zf8:@appN w n .nilS xs H ⟨K⟩=(xs.length * n ≤ 140737488355328∧@nx (.ref H.n 1 0 xs.length) (H.push ⟨w,1,xs.isEmpty,xs⟩) ⟨K⟩):=(rfl)
theorem zka:@appN w n .nul xs H ⟨K⟩=(xs.length * n ≤ 140737488355328∧@nx (.ref H.n 1 0 xs.length) (H.push ⟨w,1,xs.isEmpty,xs⟩) ⟨K⟩):=(rfl)
theorem zkb:@appN w n (.ref g v off len) xs H ⟨K⟩=((H.at_ g).ver=v∧(H.at_ g).w=w∧(len + xs.length) * n ≤ 140737488355328∧off + len ≤ (H.at_ g).xs.length∧@ifN (!(H.at_ g).exact || (H.at_ g).xs.isEmpty)
    ⟨(off + len + xs.length ≤ (H.at_ g).xs.length→@nx (.ref g v off (len + xs.length)) (H.set g ⟨w,v,true,(H.at_ g).xs.take (off + len) ++ xs ++ (H.at_ g).xs.drop (off + len + xs.length)⟩) ⟨K⟩) ∧
      ((H.at_ g).xs.length < off + len + xs.length→@nx (.ref H.n 1 0 (len + xs.length)) (H.push ⟨w,1,false,((H.at_ g).xs.drop off).take len ++ xs⟩) ⟨K⟩)⟩
    ⟨(off=0 ∨ off + len=(H.at_ g).xs.length)∧(off + len=(H.at_ g).xs.length→@nx (.ref g (v + 1) off (len + xs.length)) (H.set g ⟨w,v + 1,(H.at_ g).exact && xs.isEmpty,(H.at_ g).xs ++ xs⟩) ⟨K⟩) ∧
      (off + len < (H.at_ g).xs.length→off + len + xs.length ≤ (H.at_ g).xs.length∧@nx (.ref g v off (len + xs.length)) (H.set g ⟨w,v,(H.at_ g).exact,(H.at_ g).xs.take (off + len) ++ xs ++ (H.at_ g).xs.drop (off + len + xs.length)⟩) ⟨K⟩) ∧
      (off ≠ 0→@nx (.ref g (v + 1) 0 (len + xs.length)) (H.set g ⟨w,v + 1,(H.at_ g).exact && xs.isEmpty,(H.at_ g).xs.drop off ++ xs⟩) ⟨K⟩)⟩):=by
 simp only [appN,Jy,ifN]
 generalize (!(H.at_ g).exact || (H.at_ g).xs.isEmpty)=c
 cases c<;>rfl
theorem zkc {w':Nat} {lo hi:Option Int}:@slcN w (.lst w' xs) lo hi none H ⟨K⟩=(w'=w∧0 ≤ lo.getD 0∧lo.getD 0 ≤ hi.getD xs.length∧hi.getD xs.length ≤ xs.length∧@nx (.lst w' ((xs.take (hi.getD xs.length).toNat).drop (lo.getD 0).toNat)) H ⟨K⟩):=(rfl)
theorem zkd {lo hi:Option Int}:@slcN w .nilS lo hi none H ⟨K⟩=((lo=none ∨ lo=some 0)∧(hi=none ∨ hi=some 0)∧@nx .nilS H ⟨K⟩):=(rfl)
theorem zke {lo hi:Option Int}:@slcN w (.ref g v off len) lo hi none H ⟨K⟩=((H.at_ g).ver=v∧(H.at_ g).w=w∧0 < w∧0 ≤ lo.getD 0∧lo.getD 0 ≤ hi.getD len∧(hi.getD len ≤ len ∨ (H.at_ g).exact=true∧off + hi.getD len ≤ (H.at_ g).xs.length) ∧
     @nx (.ref g v (off + (lo.getD 0).toNat) ((hi.getD len).toNat - (lo.getD 0).toNat)) H ⟨K⟩):=(rfl)
theorem zf9 {w':Nat} {lo hi:Option Int} {m:Int}:@slcN w (.lst w' xs) lo hi (some m) H ⟨K⟩=(m=0∧hi=some 0∧(lo=none ∨ lo=some 0)∧@nx .nul H ⟨K⟩):=(rfl)
theorem zfa {lo hi:Option Int} {m:Int}:@slcN w .nilS lo hi (some m) H ⟨K⟩=(m=0∧hi=some 0∧(lo=none ∨ lo=some 0)∧@nx .nilS H ⟨K⟩):=(rfl)
theorem zfb {lo hi:Option Int} {m:Int}:@slcN w .nul lo hi (some m) H ⟨K⟩=(m=0∧hi=some 0∧(lo=none ∨ lo=some 0)∧@nx .nul H ⟨K⟩):=(rfl)
theorem zfc {lo hi:Option Int} {m:Int}:@slcN w (.ref g v off len) lo hi (some m) H ⟨K⟩=(m=0∧hi=some 0∧(lo=none ∨ lo=some 0)∧@nx .nul H ⟨K⟩):=(rfl)
theorem K_max:@opK P .max H [.int k a,.int k b] ⟨K⟩=@nx (.int k (Max.max a b)) H ⟨K⟩:=by simp [opK,Ag,nx]
theorem K_min:@opK P .min H [.int k a,.int k b] ⟨K⟩=@nx (.int k (Min.min a b)) H ⟨K⟩:=by simp [opK,Ag,nx]
theorem zad {k':IntKind}:@opK P (.mkSlice w n z) H [.int k a,.int k' b] ⟨K⟩=(0 ≤ a∧a ≤ b∧b * n ≤ 140737488355328∧@nx (.ref H.n 1 0 a.toNat) (H.push ⟨w,1,true,List.replicate b.toNat z⟩) ⟨K⟩):=(rfl)
theorem zfd {f:Nat}:@opK P (.mkFunc f) H xs ⟨K⟩=@nx (.fn f xs) H ⟨K⟩:=(rfl)
theorem zkf:@opK P .mkMap H [] ⟨K⟩=@nx (.map H.n 1) (H.push ⟨0,1,true,[]⟩) ⟨K⟩:=(rfl)
theorem zfe:@opK P (.mapGet z) H [.map g v,.int k a] ⟨K⟩=(k=.i64∧(H.at_ g).ver=v∧(H.at_ g).w=0∧(H.at_ g).exact=true∧@optN _ (Cb z a (H.at_ g).xs) ⟨fun y=>@nx y H ⟨K⟩⟩):=(rfl)
theorem zff:@opK P .mapSet H [.map g v,.int k a,x] ⟨K⟩=(k=.i64∧(H.at_ g).ver=v∧(H.at_ g).w=0∧(H.at_ g).exact=true∧@optN _ (setM a x (H.at_ g).xs) ⟨fun ys=>@nx .any (H.set g ⟨0,v,true,ys⟩) ⟨K⟩⟩):=(rfl)
theorem z6x:@opK P (.len false) H [.full w xs] ⟨K⟩=@nx (.int .i64 xs.length) H ⟨K⟩:=(rfl)
theorem zae {w':Nat}:@opK P (.iaddr w) H [.full w' xs,.int k a] ⟨K⟩=(w'=w∧0 ≤ a∧a < xs.length∧@nx (.cptr (xs.getD a.toNat .any)) H ⟨K⟩):=(rfl)
theorem z6y:@opK P (.eqn p) H [.full w xs,.nilS] ⟨K⟩=(xs ≠ []∧@nx (.bool p) H ⟨K⟩):=(rfl)
theorem zfg {w':Nat} {lo hi:Option Int}:@slcN w (.full w' xs) lo hi none H ⟨K⟩=(w'=w∧0 ≤ lo.getD 0∧lo.getD 0 ≤ hi.getD xs.length∧hi.getD xs.length ≤ xs.length∧@nx (.lst w' ((xs.take (hi.getD xs.length).toNat).drop (lo.getD 0).toNat)) H ⟨K⟩):=(rfl)
theorem zaf {w':Nat} {lo hi:Option Int} {m:Int}:@slcN w (.full w' xs) lo hi (some m) H ⟨K⟩=(m=0∧hi=some 0∧(lo=none ∨ lo=some 0)∧@nx .nul H ⟨K⟩):=(rfl)
theorem zfh {w':Nat}:@appN w n (.full w' xs) ys H ⟨K⟩=(w'=w∧0 < ys.length∧(xs.length + ys.length) * n ≤ 140737488355328∧@nx (.ref H.n 1 0 (xs.length + ys.length)) (H.push ⟨w,1,false,xs ++ ys⟩) ⟨K⟩):=(rfl)
theorem zag:Cb z a []=some z:=rfl
theorem z6z:Cb z a (.int .i64 b :: y :: xs)=if b=a then some y else Cb z a xs:=rfl
theorem zfi:setM a x []=some [.int .i64 a,x]:=rfl
theorem zah:setM a x (.int .i64 b :: y :: xs)=if b=a then some (.int .i64 b :: x :: xs) else (setM a x xs).map fun r'=>.int .i64 b :: y :: r':=rfl
theorem zol {f:Nat}:@opK P .call H (.fn f cs :: xs) ⟨K⟩=@z0d P f (xs ++ cs) H ⟨K⟩:=(rfl)
end
section
variable {P:Program} {H:Ac} {K:AV→Prop} {xs cs:List AV} {z:AV} {w len:Nat}
theorem Cs {k:AK} (h:k.still=true):@opQ P k H xs ⟨K⟩=@opK P k H xs ⟨fun x _=>K x⟩:=by
 cases k<;>first|(exact propext ⟨fun h=>h.2,fun h=>⟨rfl,h⟩⟩)|(simp [AK.still] at h)
theorem Q_mv  : @opQ P .mv H xs ⟨K⟩=@opK P .mv H xs ⟨fun x _=>K x⟩:=Cs rfl
theorem zom  : @opQ P .pick H xs ⟨K⟩=@opK P .pick H xs ⟨fun x _=>K x⟩:=Cs rfl
theorem zkg {zs:List AV} {pl:List (Nat × Nat)} {idx:List Nat}:@opQ P (.build zs pl idx) H xs ⟨K⟩=@opK P (.build zs pl idx) H xs ⟨fun x _=>K x⟩:=Cs rfl
theorem zon {a:Bool} {s:Nat}:@opQ P (.load a s) H xs ⟨K⟩=@opK P (.load a s) H xs ⟨fun x _=>K x⟩:=Cs rfl
theorem z71  : @opQ P .nilCheck H xs ⟨K⟩=@opK P .nilCheck H xs ⟨fun x _=>K x⟩:=Cs rfl
theorem Q_bin {op:BinOp}:@opQ P (.bin op) H xs ⟨K⟩=@opK P (.bin op) H xs ⟨fun x _=>K x⟩:=Cs rfl
theorem Q_eqb {n:Bool}:@opQ P (.eqb n) H xs ⟨K⟩=@opK P (.eqb n) H xs ⟨fun x _=>K x⟩:=Cs rfl
theorem Q_eqs {n:Bool} {ks:List Nat}:@opQ P (.eqs n ks) H xs ⟨K⟩=@opK P (.eqs n ks) H xs ⟨fun x _=>K x⟩:=Cs rfl
theorem Q_eqn {n:Bool}:@opQ P (.eqn n) H xs ⟨K⟩=@opK P (.eqn n) H xs ⟨fun x _=>K x⟩:=Cs rfl
theorem Q_un {op:UnOp}:@opQ P (.un op) H xs ⟨K⟩=@opK P (.un op) H xs ⟨fun x _=>K x⟩:=Cs rfl
theorem zoo {k:IntKind}:@opQ P (.conv k) H xs ⟨K⟩=@opK P (.conv k) H xs ⟨fun x _=>K x⟩:=Cs rfl
theorem zkh {w:Nat} {lo hi mx:Bool}:@opQ P (.slice w lo hi mx) H xs ⟨K⟩=@opK P (.slice w lo hi mx) H xs ⟨fun x _=>K x⟩:=Cs rfl
theorem zki {a:Bool} {o s:Nat}:@opQ P (.faddr a o s) H xs ⟨K⟩=@opK P (.faddr a o s) H xs ⟨fun x _=>K x⟩:=Cs rfl
theorem zkj {a:Bool} {o s:Nat}:@opQ P (.field a o s) H xs ⟨K⟩=@opK P (.field a o s) H xs ⟨fun x _=>K x⟩:=Cs rfl
theorem zkk {w:Nat}:@opQ P (.iaddr w) H xs ⟨K⟩=@opK P (.iaddr w) H xs ⟨fun x _=>K x⟩:=Cs rfl
theorem zfj {n w:Nat} {a:Bool}:@opQ P (.iaddrA n w a) H xs ⟨K⟩=@opK P (.iaddrA n w a) H xs ⟨fun x _=>K x⟩:=Cs rfl
theorem zkl {n w:Nat} {a:Bool}:@opQ P (.index n w a) H xs ⟨K⟩=@opK P (.index n w a) H xs ⟨fun x _=>K x⟩:=Cs rfl
theorem z72  : @opQ P .indexStr H xs ⟨K⟩=@opK P .indexStr H xs ⟨fun x _=>K x⟩:=Cs rfl
theorem zai {i:Nat}:@opQ P (.extract i) H xs ⟨K⟩=@opK P (.extract i) H xs ⟨fun x _=>K x⟩:=Cs rfl
theorem Q_len {b:Bool}:@opQ P (.len b) H xs ⟨K⟩=@opK P (.len b) H xs ⟨fun x _=>K x⟩:=Cs rfl
theorem Q_max  : @opQ P .max H xs ⟨K⟩=@opK P .max H xs ⟨fun x _=>K x⟩:=Cs rfl
theorem Q_min  : @opQ P .min H xs ⟨K⟩=@opK P .min H xs ⟨fun x _=>K x⟩:=Cs rfl
theorem zfk:@opQ P (.mapGet z) H xs ⟨K⟩=@opK P (.mapGet z) H xs ⟨fun x _=>K x⟩:=Cs rfl
theorem zfl {f:Nat}:@opQ P (.mkFunc f) H xs ⟨K⟩=@opK P (.mkFunc f) H xs ⟨fun x _=>K x⟩:=Cs rfl
theorem zkm  : @opQ P .toStr H xs ⟨K⟩=@opK P .toStr H xs ⟨fun x _=>K x⟩:=Cs rfl
theorem zkn {f:Nat}:@opQ P .call H (.fn f cs :: xs) ⟨K⟩=@zf1 P f (xs ++ cs) H ⟨K⟩:=(rfl)
theorem Q_bsl {idx:List Nat}:@opQ P (.bslice w len z idx) H xs ⟨K⟩=(Gi w len idx xs∧0 < w∧Ay (D1 idx xs (List.replicate len z))=true∧@nq (.full w (D1 idx xs (List.replicate len z))) ⟨K⟩):=(rfl)
end
section
variable {H:Ac} {G:Grp} {g j:Nat}
end
section
variable {P:Program} {H:Ac} {env:Env} {K:List AV→Prop} {l:List ARes} {t s:Nat} {a:Bool}
theorem zko:resK P [] env H K=K []:=(rfl)
theorem zfm:resK P (.slot t :: l) env H K=resK P l env H fun xs=>K (env t :: xs):=(rfl)
theorem zfn:resK P (.cell t a s :: l) env H K=@opK P (.load a s) H [env t] ⟨fun x _=>resK P l env H fun xs=>K (x :: xs)⟩:=(rfl)
end
theorem Xl {p:Prop} [Decidable p] (h:p):true=decide p:=(decide_eq_true h).symm
theorem Xm {p:Prop} [Decidable p] (h:¬p):false=decide p:=(decide_eq_false h).symm
theorem L8 {p q:Prop} [Decidable p] [Decidable q] (h:p ↔ q):decide p=decide q:=decide_eq_decide.2 h
theorem getD_map {α:Type} [Inhabited α] (f:α→AV) (l:List α) (i:Nat):(l.map f).getD i .any=if i < l.length then f (l.getD i default) else .any:=by
 by_cases h:i < l.length<;>simp [List.getD,h]
def nth {α:Type} [Inhabited α] (l:List α) (i:Nat):α:=l.getD i default
theorem zaj {α:Type} [Inhabited α] (f:α→AV) (l:List α) (i:Nat) (h:i < l.length):(l.map f).getD i .any=f (nth l i):=by rw [getD_map,if_pos h];rfl
theorem zfo {α:Type} (f:α→AV) (l:List α) (i:Nat):(l.map f).drop i=(l.drop i).map f:=List.map_drop.symm
theorem zfp {α:Type} (f:α→AV) (l:List α) (i:Nat):(l.map f).take i=(l.take i).map f:=List.map_take.symm
theorem Dn {α:Type} {f:α→AV} (h:∀ x,(f x).pure=true):∀ l:List α,Ay (l.map f)=true
 | []=>rfl
 | x :: l=>by simp [Ay,h x,Dn h l]
theorem Cw (k:IntKind) (l:List Int):Ay (l.map (AV.int k))=true:=Dn (fun _=>rfl) l
theorem zak (k:IntKind) (l:List Int):Ay (l.map fun x=>AV.int k x)=true:=Dn (fun _=>rfl) l
theorem zal (l:List Bool):Ay (l.map AV.bool)=true:=Dn (fun _=>rfl) l
attribute [push_cast] z34 z35 z36 zkf zfe zff z6x zae z6y zfg zaf zfh zag z6z zfi zah zfk
attribute [push_cast] zk1 zk2 z9y zf3 z9z zf8 zka zkb zkc zkd zke zf9 zfa zfb zfc K_mv zoe zk3 K_box zk4 zf4 zf5 zf6 zk5 zof zog zoh K_add K_sub K_mul K_quo K_rem K_and K_or K_xor zf7 K_shl K_shr K_eql K_neq K_lss K_leq K_gtr K_geq zoi zoj K_eqb K_eqs za0 za1 za2 K_not K_neg zok zk6 zk7 za3 za4 zk8 za5 za6 z6u z6v zk9 z6w za7 za8 za9 zaa zab zac K_app K_max K_min zad zfd zol Q_mv zom zkg zon z71 Q_bin Q_eqb Q_eqs Q_eqn Q_un zoo zkh zki zkj zkk zfj zkl z72 zai Q_len Q_max Q_min zfl zkm zkn Q_bsl
attribute [push_cast] z21 z22 z23 z24 z25 z26 z27 zey
attribute [push_cast] Ca AV.cells AV.isAny E7 AV.one Jw eqL eq1 Ga F9 Gi D1 Ue optA List.replicate Ay AV.pure Ret zko zfm zfn resV zfo zfp Cw zak zal
def pos:List Nat→Nat→Option Nat
 | [],_=>none
 | k :: ks,g=>if g=k then some 0 else (pos ks g).map (· + 1)
theorem Od:∀ {ks:List Nat} {g j:Nat},pos ks g=some j→j < ks.length∧ks.getD j 0=g
 | [],g,j,h=>by simp [pos] at h
 | k :: ks,g,j,h=>by
   rw [pos] at h
   split at h
   · rename_i hk;cases h;exact ⟨by simp,by simp [hk]⟩
   · obtain ⟨i,hi,rfl⟩:=Option.map_eq_some_iff.1 h
     obtain ⟨h1,h2⟩:=Od hi
     exact ⟨by simp;omega,by simpa using h2⟩
theorem Uw:∀ {ks:List Nat} {g:Nat},pos ks g=none→g ∉ ks
 | [],g,_=>by simp
 | k :: ks,g,h=>by
   rw [pos] at h
   split at h
   · cases h
   · rename_i hk
     have:=Uw (Option.map_eq_none_iff.1 h)
     simp [hk,this]
def frzL (w:Nat) (ys:List AV):AV:=bif Ay ys then .lst w ys else .any
def frzP (y:AV):AV:=bif y.pure then .cptr y else .any
def rnV (b:Nat) (H:Ac) (ks:List Nat):Nat→AV→AV
 | 0,x=>bif x.pure then x else .any
 | d + 1,.ref g v off len=>if g < b then .ref g v off len else if v=(H.at_ g).ver then
     (match pos ks g with
      | some j=>.ref (b + j) 1 off len
      | none=>if 0 < (H.at_ g).w∧off + len ≤ (H.at_ g).xs.length then frzL (H.at_ g).w ((((H.at_ g).xs.drop off).take len).map (rnV b H ks d)) else .any)
     else .any
 | d + 1,.ptr g v i o=>if g < b then .ptr g v i o else if v=(H.at_ g).ver then
     (match pos ks g with
      | some j=>.ptr (b + j) 1 i o
      | none=>if o=0∧i < (H.at_ g).xs.length∧0 < (H.at_ g).w then frzP (rnV b H ks d ((H.at_ g).xs.getD i .any)) else .any)
     else .any
 | _ + 1,.map g v=>if g < b then .map g v else if v=(H.at_ g).ver then (match pos ks g with|some j=>.map (b + j) 1|none=>.any) else .any
 | d + 1,.agg cs=>.agg (cs.map (rnV b H ks d))
 | d + 1,.tup cs=>.tup (cs.map (rnV b H ks d))
 | d + 1,.fn f cs=>.fn f (cs.map (rnV b H ks d))
 | _ + 1,x=>x
def inv (b:Nat) (ks:List Nat) (j:Nat):Nat:=if j < b then j else ks.getD (j - b) 0
def MS.repack (S:MS) (b:Nat) (H:Ac) (ks:List Nat):MS where
 w:=S.w
 im:=fun c=>S.im c ∨ ∃ g,g < H.n∧b ≤ g∧g ∉ ks∧0 < (H.at_ g).w∧0 < S.cap g∧c=S.place g
 keep:=S.keep
 n:=b + ks.length
 place:=fun j=>S.place (inv b ks j)
 cur:=fun j=>if j < b then S.cur j else 1
 cap:=fun j=>S.cap (inv b ks j)
 wid:=fun j=>S.wid (inv b ks j)
 base:=S.base
def Ac.repack (H:Ac) (b:Nat) (ks:List Nat) (d:Nat):Ac:=⟨b + ks.length,fun j=>⟨(H.at_ (inv b ks j)).w,if j < b then (H.at_ j).ver else 1,(H.at_ (inv b ks j)).exact,(H.at_ (inv b ks j)).xs.map (rnV b H ks d)⟩⟩
section
variable {S:MS} {H:Ac} {b:Nat} {ks:List Nat}
theorem Eu {j:Nat} (h:j < b):inv b ks j=j:=if_pos h
theorem z0f {j:Nat}:inv b ks (b + j)=ks.getD j 0:=by
 have h1:b + j - b=j:=by omega
 have h2:¬ b + j < b:=by omega
 rw [inv,if_neg h2,h1]
theorem Ux {x:AV} {v:Value} (hx:x.pure=true) (h:VRel S x v):VRel (S.repack b H ks) x v:=VRel.of_pure (S:=S) (S':=S.repack b H ks) rfl (fun _ hb=>.inl hb) hx h
theorem z73 (hS:SRel S H):∀ (d:Nat) {x:AV} {v:Value},VRel S x v→VRel (S.repack b H ks) (rnV b H ks d x) v
 | 0,x,v,h=>by
   rw [rnV]
   cases hp:x.pure
   · trivial
   · exact Ux hp h
 | d + 1,x,v,h=>by
   have keyL:∀ {cs:List AV} {vs:List Value},Af S cs vs→Af (S.repack b H ks) (cs.map (rnV b H ks d)) vs:=by
     intro cs
     induction cs with
     | nil=>intro vs hh;exact hh
     | cons c cs ih =>
       intro vs hh
       obtain ⟨u,r,rfl,h1,h2⟩:=hh
       exact ⟨u,r,rfl,z73 hS d h1,ih h2⟩
   cases x with
   | ref g vn off len =>
     obtain ⟨⟨a,c,rfl,ha⟩,hg,hvn,hcur⟩:=h
     have hG:=hS.live_of hg
     rw [rnV]
     split
     · rename_i hgb
       refine ⟨⟨a,c,rfl,ha⟩,by show g < b + _;omega,by show vn ≤ if g < b then _ else _;rw [if_pos hgb];exact hvn,fun he=>?_⟩
       have he':(if g < b then S.cur g else 1)=vn:=he
       rw [if_pos hgb] at he'
       show ∃ a cap',_=Value.slice a len cap'∧((a=some ⟨S.place (inv b ks g),off * S.wid (inv b ks g),none⟩∧cap'=S.cap (inv b ks g) - off∧off + len ≤ S.cap (inv b ks g)) ∨ (len=0∧cap'=0∧S.cap (inv b ks g) ≤ off))
       rw [Eu hgb]
       exact hcur he'
     · split
       · rename_i hver
         have hh:=hcur (by rw [hG.ver,hver])
         split
         · rename_i j hj
           obtain ⟨h1,h2⟩:=Od hj
           refine ⟨⟨a,c,rfl,ha⟩,by show b + j < b + _;omega,by show 1 ≤ if b + j < b then _ else 1;rw [if_neg (by omega)];exact Nat.le_refl 1,fun _=>?_⟩
           show ∃ a cap',_=Value.slice a len cap'∧((a=some ⟨S.place (inv b ks (b + j)),off * S.wid (inv b ks (b + j)),none⟩∧cap'=S.cap (inv b ks (b + j)) - off∧off + len ≤ S.cap (inv b ks (b + j))) ∨ (len=0∧cap'=0∧S.cap (inv b ks (b + j)) ≤ off))
           rw [z0f,h2]
           exact hh
         · rename_i hb hj
           have hnk:=Uw hj
           split
           · rename_i hw
             obtain ⟨hw,hol⟩:=hw
             unfold frzL
             cases hpu:Ay ((((H.at_ g).xs.drop off).take len).map (rnV b H ks d))
             · trivial
             · obtain ⟨a',cap',hv,hcase⟩:=hh
               obtain ⟨rfl,-,rfl⟩:a=a'∧len=len∧c=cap':=by cases hv;exact ⟨rfl,rfl,rfl⟩
               have hl:((((H.at_ g).xs.drop off).take len).map (rnV b H ks d)).length=len:=by simp;omega
               show VRel _ (.lst _ _) _
               have hnone:a=none→c=0:=fun hn=>by
                 rcases hcase with ⟨rfl,_⟩|⟨_,hh,_⟩
                 · cases hn
                 · exact hh
               by_cases hc0:S.cap g=0
               · have hlen:=hG.len hw
                 have hnil:((H.at_ g).xs.drop off).take len=[]:=List.eq_nil_of_length_eq_zero (by simp;omega)
                 simp only [hnil,List.map_nil] at hl ⊢
                 exact ⟨rfl,hw,a,c,[],by rw [← hl],⟨Nat.zero_le _,hnone⟩,rfl,fun hne=>absurd rfl hne⟩
               obtain ⟨⟨cells,TT,us,hb2,hcs,hus,hfl⟩,_⟩:=hG.live hw (by omega)
               refine ⟨hpu,hw,a,c,_,by rw [hl],⟨?_,hnone⟩,keyL ((hus.drop off).take len),fun hne=>?_⟩
               · rw [hl];rcases hcase with ⟨_,c2,c3⟩|⟨c1,c2,_⟩<;>omega
               · rcases hcase with ⟨rfl,_,_⟩|⟨c1,_,_⟩
                 · refine ⟨_,_,rfl,.inr ⟨g,by rw [← hS.n];exact hg,by omega,hnk,hw,by omega,rfl⟩,fun j u hu=>?_⟩
                   rw [List.getElem?_take] at hu
                   split at hu
                   · rw [List.getElem?_drop] at hu
                     have:=hfl.row hb2 (off + j) u hu
                     rw [Nat.zero_add,Nat.add_mul] at this
                     rw [hG.wid]
                     exact this
                   · cases hu
                 · exact absurd (List.eq_nil_of_length_eq_zero (by rw [hl];exact c1)) hne
           · trivial
       · trivial
   | ptr g vn i o =>
     obtain ⟨⟨a,rfl⟩,hg,hvn,hcur⟩:=h
     have hG:=hS.live_of hg
     rw [rnV]
     split
     · rename_i hgb
       refine ⟨⟨a,rfl⟩,by show g < b + _;omega,by show vn ≤ if g < b then _ else _;rw [if_pos hgb];exact hvn,fun he=>?_⟩
       have he':(if g < b then S.cur g else 1)=vn:=he
       rw [if_pos hgb] at he'
       show _=Value.pointer (some ⟨S.place (inv b ks g),i * S.wid (inv b ks g) + o,none⟩)
       rw [Eu hgb]
       exact hcur he'
     · split
       · rename_i hver
         have hh:=hcur (by rw [hG.ver,hver])
         split
         · rename_i j hj
           obtain ⟨h1,h2⟩:=Od hj
           refine ⟨⟨a,rfl⟩,by show b + j < b + _;omega,by show 1 ≤ if b + j < b then _ else 1;rw [if_neg (by omega)];exact Nat.le_refl 1,fun _=>?_⟩
           show _=Value.pointer (some ⟨S.place (inv b ks (b + j)),i * S.wid (inv b ks (b + j)) + o,none⟩)
           rw [z0f,h2]
           exact hh
         · rename_i hb hj
           have hnk:=Uw hj
           split
           · rename_i hc
             obtain ⟨rfl,hi,hw⟩:=hc
             unfold frzP
             cases hpu:(rnV b H ks d ((H.at_ g).xs.getD i .any)).pure
             · trivial
             · show VRel _ (.cptr _) _
               obtain ⟨u,hu,hl⟩:=hG.elem hw hi
               have k1:=z73 hS d hu
               refine ⟨hpu,S.place g,i * (H.at_ g).w,u,?_,.inr ⟨g,by rw [← hS.n];exact hg,by omega,hnk,hw,by have:=hG.len hw;omega,rfl⟩,k1,?_⟩
               · rw [hh,hG.wid];rfl
               · rw [hl.1];exact hl
           · trivial
       · trivial
   | agg cs=>obtain ⟨vs,rfl,hr⟩:=h;exact ⟨vs,rfl,keyL hr⟩
   | tup cs=>obtain ⟨vs,rfl,hr⟩:=h;exact ⟨vs,rfl,keyL hr⟩
   | fn f cs=>obtain ⟨vs,rfl,hr⟩:=h;exact ⟨vs,rfl,keyL hr⟩
   | full w xs=>exact Ux h.1 h
   | map g vn =>
     obtain ⟨⟨a,rfl⟩,hg,hvn,hcur⟩:=h
     have hG:=hS.live_of hg
     rw [rnV]
     split
     · rename_i hgb
       refine ⟨⟨a,rfl⟩,by show g < b + _;omega,by show vn ≤ if g < b then _ else _;rw [if_pos hgb];exact hvn,fun he=>?_⟩
       have he':(if g < b then S.cur g else 1)=vn:=he
       rw [if_pos hgb] at he'
       show _=Value.map (some (S.place (inv b ks g)))
       rw [Eu hgb]
       exact hcur he'
     · split
       · rename_i hver
         have hh:=hcur (by rw [hG.ver,hver])
         split
         · rename_i j hj
           obtain ⟨h1,h2⟩:=Od hj
           refine ⟨⟨a,rfl⟩,by show b + j < b + _;omega,by show 1 ≤ if b + j < b then _ else 1;rw [if_neg (by omega)];exact Nat.le_refl 1,fun _=>?_⟩
           show _=Value.map (some (S.place (inv b ks (b + j))))
           rw [z0f,h2]
           exact hh
         · trivial
       · trivial
   | lst w xs=>exact Ux h.1 h
   | cptr x=>exact Ux h.1 h
   | any=>trivial
   | bool _=>exact h
   | int _ _=>exact h
   | str _=>exact h
   | nilS=>exact h
   | nul=>exact h
   | emp=>exact h
   | nilP=>exact h
   | nilF=>exact h
   | yld l=>exact h
theorem It (hS:SRel S H) (hb:b ≤ S.n):BEvo b S (S.repack b H ks) where
 base:=rfl
 os:=rfl
 tape:=rfl
 output:=rfl
 size:=Nat.le_refl _
 kept _ _:=rfl
 im _ h:=.inl h
 keep _ h:=h
 fresh c hc:=by
   rcases hc with hc|⟨g,hg,_,_,hw,hcap,rfl⟩
   · exact .inl hc
   · exact .inr fun hk=>((hS.grp g hg).live hw hcap).2 (.inr hk)
 n:=Nat.le_add_right _ _
 cur g hg:=by show _ ≤ if g < b then S.cur g else 1;rw [if_pos hg];exact Nat.le_refl _
 same g hg _:=by
   show S.place (inv b ks g)=_∧S.cap (inv b ks g)=_∧S.wid (inv b ks g)=_
   rw [Eu hg];exact ⟨rfl,rfl,rfl⟩
theorem L9 (d:Nat) (hS:SRel S H) (hb:b ≤ H.n) (hk:∀ k ∈ ks,b ≤ k∧k < H.n) (hn:ks.Nodup):SRel (S.repack b H ks) (H.repack b ks d):=by
 have keyL:∀ {cs:List AV} {vs:List Value},Af S cs vs→Af (S.repack b H ks) (cs.map (rnV b H ks d)) vs:=by
   intro cs
   induction cs with
   | nil=>intro vs hh;exact hh
   | cons c cs ih =>
     intro vs hh
     obtain ⟨u,r,rfl,h1,h2⟩:=hh
     exact ⟨u,r,rfl,z73 hS d h1,ih h2⟩
 have hinv:∀ j,j < b + ks.length→inv b ks j < H.n∧(j < b ∨ b ≤ inv b ks j∧inv b ks j ∈ ks):=by
   intro j hj
   by_cases hjb:j < b
   · rw [Eu hjb];exact ⟨by omega,.inl hjb⟩
   · have h1:j - b < ks.length:=by omega
     have:inv b ks j=ks[j - b]:=by simp [inv,hjb,List.getD,List.getElem?_eq_getElem h1]
     rw [this]
     have:=hk _ (List.getElem_mem h1)
     exact ⟨this.2,.inr ⟨this.1,List.getElem_mem h1⟩⟩
 refine ⟨rfl,fun j hj=>?_,fun j j' hj hj' hne hw hw'=>?_,fun c hc=>?_⟩
 · obtain ⟨h1,h2⟩:=hinv j hj
   have hG:=hS.grp _ h1
   have hni:(H.at_ (inv b ks j)).has (S.cap (inv b ks j))→¬ ((S.repack b H ks).im (S.place (inv b ks j)) ∨ (S.repack b H ks).keep (S.place (inv b ks j))):=fun hq=>by
     have a5:=hG.has_ni hq
     rintro ((hi|⟨g,hg,hbg,hnk,hw',hc',he⟩)|hi)
     · exact a5 (.inl hi)
     · have hne:inv b ks j ≠ g:=by
         intro hh
         rcases h2 with h2|h2
         · rw [Eu h2] at hh;omega
         · exact hnk (hh ▸ h2.2)
       exact hS.apart _ g h1 hg hne hq (.inl ⟨hw',hc'⟩) he
     · exact a5 (.inr hi)
   refine ⟨?_,hG.wid,fun hw hc=>?_,fun hw=>?_,fun hw he=>?_,fun hw he=>?_⟩
   · show (if j < b then S.cur j else 1)=if j < b then (H.at_ j).ver else 1
     split
     · rename_i hjb;rw [Eu hjb] at hG;exact hG.ver
     · rfl
   · obtain ⟨⟨cells,TT,us,a1,a2,a3,a4⟩,a5⟩:=hG.live hw hc
     exact ⟨⟨cells,TT,us,a1,a2,keyL a3,a4⟩,hni (.inl ⟨hw,hc⟩)⟩
   · show ((H.at_ (inv b ks j)).xs.map _).length ≤ _;rw [List.length_map];exact hG.len hw
   · show ((H.at_ (inv b ks j)).xs.map _).length=_;rw [List.length_map];exact hG.full hw he
   · obtain ⟨⟨es,clock,a1,a2⟩,a5⟩:=hG.mlive hw he
     exact ⟨⟨es,clock,a1,keyL a2⟩,hni (.inr ⟨hw,he⟩)⟩
 · obtain ⟨h1,h2⟩:=hinv j hj
   obtain ⟨h1',h2'⟩:=hinv j' hj'
   refine hS.apart _ _ h1 h1' ?_ hw hw'
   intro hh
   rcases h2 with h2|⟨h2,h3⟩<;>rcases h2' with h2'|⟨h2',h3'⟩
   · rw [Eu h2,Eu h2'] at hh;exact hne hh
   · rw [Eu h2] at hh;omega
   · rw [Eu h2'] at hh;omega
   · have hjb:¬ j < b:=fun h=>by rw [Eu h] at h2;omega
     have hjb':¬ j' < b:=fun h=>by rw [Eu h] at h2';omega
     have e1:j - b < ks.length:=by have:j < b + ks.length:=hj;omega
     have e2:j' - b < ks.length:=by have:j' < b + ks.length:=hj';omega
     have f1:inv b ks j=ks[j - b]:=by simp [inv,hjb,List.getD,List.getElem?_eq_getElem e1]
     have f2:inv b ks j'=ks[j' - b]:=by simp [inv,hjb',List.getD,List.getElem?_eq_getElem e2]
     rw [f1,f2] at hh
     have:=(List.getElem_inj hn).1 hh
     omega
 · rcases hc with (hc|⟨g,hg,_,_,hw,hcap,rfl⟩)|hc
   · exact hS.im c (.inl hc)
   · exact (hS.grp g hg).lt hw hcap
   · exact hS.im c (.inr hc)
theorem zfq {P:Program} {n:Nat} {c:AC} {env:Env} {Q:Ex→Env→Ac→Prop} (ks:List Nat) (d:Nat) (hb:b ≤ H.n) (hk:∀ k ∈ ks,b ≤ k∧k < H.n) (hn:ks.Nodup)
   (h:T P n b c (fun i=>rnV b H ks d (env i)) (H.repack b ks d) Q):T P n b c env H Q:=by
 intro rd mm hrd code hc S a hbS hS hF
 have hev:=It (ks:=ks) hS hbS
 refine wpIn_mono (h rd mm hrd code hc (S.repack b H ks) a (Nat.le_add_right _ _) (L9 d hS hb hk hn) ⟨hF.size,hF.defers.of hev.base hev.size hev.keep hev.fresh (fun b hb=>hev.kept b (.inr hb)),fun j hj=>z73 hS d (hF.val j hj)⟩) fun e a w hh=>hh.trans (It hS hbS)
end
theorem z40:Ac.nil=hl []:=by
 simp [Ac.nil,hl]
theorem hl_n (l:List Grp):(hl l).n=l.length:=rfl
theorem SRel.congr {S:MS} {H H':Ac} (hn:H'.n=H.n) (h:∀ g,g < H.n→H'.at_ g=H.at_ g) (hS:SRel S H):SRel S H' :=
 ⟨hS.n.trans hn.symm,fun g hg=>by rw [h g (by omega)];exact hS.grp g (by omega),fun g g' hg hg' hne hw hw'=>by
   rw [h g (by omega)] at hw
   rw [h g' (by omega)] at hw'
   exact hS.apart g g' (by omega) (by omega) hne hw hw',hS.im⟩
theorem Bn.congr {P:Program} {f:Nat} {xs:List AV} {H H':Ac} {K:AV→Ac→Prop} (hn:H'.n=H.n) (h:∀ g,g < H.n→H'.at_ g=H.at_ g) (k:Bn P f xs H' K):Bn P f xs H K :=
 ⟨k.1,fun S cargs hS hx=>k.2 S cargs (hS.congr hn h) hx⟩
def Ac.groups (H:Ac):List Grp:=(List.range H.n).map H.at_
theorem Xn (l:List Grp):(hl l).groups=l:=by
 refine List.ext_getElem (by simp [Ac.groups,hl]) fun i h1 h2=>?_
 simp [Ac.groups,hl,h2]
def Gk:Nat→List Nat→List Grp→List Grp
 | _,_,[]=>[]
 | i,ks,G :: l=>(if i ∈ ks then G.dead else G) :: Gk (i + 1) ks l
theorem Kr:∀ (i:Nat) (ks:List Nat) (l:List Grp),(Gk i ks l).length=l.length
 | _,_,[]=>rfl
 | i,ks,G :: l=>by simp [Gk,Kr (i + 1) ks l]
theorem Uy:∀ (i:Nat) (ks:List Nat) (l:List Grp) (g:Nat),g < l.length→(Gk i ks l).getD g default=if i + g ∈ ks then (l.getD g default).dead else l.getD g default
 | _,_,[],g,h=>by simp at h
 | i,ks,G :: l,0,h=>by simp [Gk]
 | i,ks,G :: l,g + 1,h=>by
   have:=Uy (i + 1) ks l g (by simpa using h)
   have e:i + 1 + g=i + (g + 1):=by omega
   rw [e] at this
   simpa [Gk] using this
theorem Si {P:Program} {f:Nat} {xs:List AV} {l:List Grp} {K:AV→Ac→Prop} (d:Nat) (ks:List Nat) (hok:∀ x ∈ xs,Cr d ((hl l).only ks) x) (h:Bn P f (xs.map (frzV d ((hl l).only ks))) (hl (Gk 0 ks l)) K):Bn P f xs (hl l) K:=by
 refine Uv d ks hok (Bn.congr (H':=hl (Gk 0 ks l)) (by simp [hl,Ac.kill,Kr]) (fun g hg=>?_) h)
 show (Gk 0 ks l).getD g default=if g ∈ ks then (l.getD g default).dead else l.getD g default
 rw [Uy 0 ks l g hg,Nat.zero_add]
def leH (H:Ac) (x y:AV):Prop:=∀ S v,SRel S H→VRel S x v→VRel S y v
section
variable {H:Ac}
theorem zam {l:List Grp} {g v len:Nat} (hv:(l.getD g default).ver=v) (hw:0 < (l.getD g default).w) (hx:(l.getD g default).xs=[]) (he:(l.getD g default).exact=true) (hg:g < l.length) (h0:len=0):leH (hl l) .nilS (.ref g v 0 len):=fun S u hS hu=>by
 subst h0
 have hG:=hS.grp g hg
 rw [Cn] at hG
 have hf:=hG.full hw he
 rw [hx] at hf
 have hc:S.cap g=0:=hf.symm
 have hu':u=.slice none 0 0:=hu
 subst hu'
 exact ⟨⟨none,0,rfl,fun _=>rfl⟩,by rw [hS.n];exact hg,by rw [hG.ver,hv];exact Nat.le_refl _,fun _=>⟨none,0,rfl,.inr ⟨rfl,rfl,by rw [hc];exact Nat.le_refl _⟩⟩⟩
end
mutual
def leS (l:List Grp):AV→AV→Prop
 | .int k a,y=>(match y with|.int k' b=>k=k'∧a=b|.any=>True|_=>False)
 | .bool a,y=>(match y with|.bool b=>a=b|.any=>True|_=>False)
 | .nilS,y=>(match y with
   | .nilS|.any=>True
   | .lst w ys=>0 < w∧ys=[]
   | .ref g v off len=>off=0∧len=0∧(l.getD g default).ver=v∧0 < (l.getD g default).w∧(l.getD g default).xs=[]∧(l.getD g default).exact=true∧g < l.length
   | _=>False)
 | .nul,y=>(match y with|.nul|.any=>True|.lst w ys=>0 < w∧ys=[]|_=>False)
 | .emp,y=>(match y with|.emp|.any=>True|.lst w ys=>0 < w∧ys=[]|_=>False)
 | .lst w xs,y=>(match y with|.lst w' ys=>w=w'∧xs=ys|.any=>True|_=>False)
 | .full w xs,y=>(match y with|.full w' ys=>w=w'∧xs=ys|.lst w' ys=>w=w'∧leSL l xs ys∧Ay ys=true|.any=>True|_=>False)
 | .ref g v o n,y=>(match y with|.ref g' v' o' n'=>g=g'∧v=v'∧o=o'∧n=n'|.any=>True|_=>False)
 | .ptr g v o n,y=>(match y with|.ptr g' v' o' n'=>g=g'∧v=v'∧o=o'∧n=n'|.any=>True|_=>False)
 | .agg xs,y=>(match y with|.agg ys=>leSL l xs ys|.any=>True|_=>False)
 | .tup xs,y=>(match y with|.tup ys=>leSL l xs ys|.any=>True|_=>False)
 | x,y=>(match y with|.any=>True|y=>x=y)
def leSL (l:List Grp):List AV→List AV→Prop
 | [],ys=>ys=[]
 | x :: xs,ys=>(match ys with|y :: ys=>leS l x y∧leSL l xs ys|[]=>False)
end
mutual
theorem Xo {S:MS} {l:List Grp} (hS:SRel S (hl l) ∨ l=[]):∀ (x:AV) {y:AV} {v:Value},leS l x y→VRel S x v→VRel S y v
 | .any,y,v,h,hv=>by cases y<;>simp only [leS,reduceCtorEq] at h;trivial
 | .int k a,y,v,h,hv=>by
   cases y<;>simp only [leS] at h
   · trivial
   · obtain ⟨rfl,rfl⟩:=h;exact hv
 | .bool a,y,v,h,hv=>by
   cases y<;>simp only [leS] at h
   · trivial
   · subst h;exact hv
 | .str s,y,v,h,hv=>by cases y<;>simp only [leS] at h<;>first|trivial|(cases h;done)|(cases h;exact hv)
 | .nilP,y,v,h,hv=>by cases y<;>simp only [leS] at h<;>first|trivial|(cases h;done)|exact hv
 | .nilF,y,v,h,hv=>by cases y<;>simp only [leS] at h<;>first|trivial|(cases h;done)|exact hv
 | .yld l,y,v,h,hv=>by cases y<;>simp only [leS] at h<;>first|trivial|(cases h;done)|(cases h;exact hv)
 | .cptr x,y,v,h,hv=>by cases y<;>simp only [leS] at h<;>first|trivial|(cases h;done)|(cases h;exact hv)
 | .fn f xs,y,v,h,hv=>by cases y<;>simp only [leS] at h<;>first|trivial|(cases h;done)|(cases h;exact hv)
 | .nilS,y,v,h,hv=>by
   cases y<;>simp only [leS] at h
   · trivial
   · exact hv
   · obtain ⟨h1,rfl⟩:=h;exact AV.le_nilS h1 S v hv
   · obtain ⟨rfl,rfl,h1,h2,h3,h4,h5⟩:=h
     rcases hS with hS|rfl
     · exact zam h1 h2 h3 h4 h5 rfl S v hS hv
     · exact absurd h5 (Nat.not_lt_zero _)
 | .nul,y,v,h,hv=>by
   cases y<;>simp only [leS] at h
   · trivial
   · exact hv
   · obtain ⟨h1,rfl⟩:=h;exact AV.le_nul h1 S v hv
 | .emp,y,v,h,hv=>by
   cases y<;>simp only [leS] at h
   · trivial
   · exact hv
   · obtain ⟨h1,rfl⟩:=h;exact AV.le_emp h1 S v hv
 | .lst w xs,y,v,h,hv=>by
   cases y<;>simp only [leS] at h
   · trivial
   · obtain ⟨rfl,rfl⟩:=h;exact hv
 | .full w xs,y,v,h,hv=>by
   cases y<;>simp only [leS] at h
   · trivial
   · rename_i w' ys
     obtain ⟨rfl,h1,hp⟩:=h
     obtain ⟨_,h0,a,cap,vs,hv,hc,hl,hr⟩:=Ki hv
     have hn:=Af.length hl
     have hm:=J5 hS xs h1 hl
     have hln:ys.length=xs.length:=by rw [← Af.length hm,hn]
     exact ⟨hp,h0,a,cap,vs,by rw [hln];exact hv,by rw [hln];exact hc,hm,fun hne=>hr fun h=>hne (by rw [h] at hln;exact List.length_eq_zero_iff.1 hln)⟩
   · obtain ⟨rfl,rfl⟩:=h;exact hv
 | .map g a,y,v,h,hv=>by cases y<;>simp only [leS] at h<;>first|trivial|(cases h;done)|(cases h;exact hv)
 | .ref g a o n,y,v,h,hv=>by
   cases y<;>simp only [leS] at h
   · trivial
   · obtain ⟨rfl,rfl,rfl,rfl⟩:=h;exact hv
 | .ptr g a o n,y,v,h,hv=>by
   cases y<;>simp only [leS] at h
   · trivial
   · obtain ⟨rfl,rfl,rfl,rfl⟩:=h;exact hv
 | .agg xs,y,v,h,hv=>by
   cases y<;>simp only [leS] at h
   · trivial
   · obtain ⟨vs,rfl,hr⟩:=hv;exact ⟨vs,rfl,J5 hS xs h hr⟩
 | .tup xs,y,v,h,hv=>by
   cases y<;>simp only [leS] at h
   · trivial
   · obtain ⟨vs,rfl,hr⟩:=hv;exact ⟨vs,rfl,J5 hS xs h hr⟩
theorem J5 {S:MS} {l:List Grp} (hS:SRel S (hl l) ∨ l=[]):∀ (xs:List AV) {ys:List AV} {vs:List Value},leSL l xs ys→Af S xs vs→Af S ys vs
 | [],ys,vs,h,hv=>by rw [show ys=[] from h];exact hv
 | x :: xs,[],vs,h,hv=>h.elim
 | x :: xs,y :: ys,vs,h,hv=>by
   obtain ⟨v,r,rfl,h1,h2⟩:=hv
   exact ⟨v,r,rfl,Xo hS x h.1 h1,J5 hS xs h.2 h2⟩
end
theorem z41 {l:List Grp}:∀ {xs ys:List AV},leSL l xs ys→ys.length=xs.length
 | [],ys,h=>by rw [show ys=[] from h]
 | _ :: _,[],h=>h.elim
 | _ :: _,_ :: _,h=>by simp [z41 h.2]
mutual
theorem Oe (l:List Grp):∀ x:AV,leS l x x
 | .any=>trivial
 | .int _ _=>⟨rfl,rfl⟩
 | .bool _=>rfl
 | .str _=>rfl
 | .nilS=>trivial
 | .nul=>trivial
 | .emp=>trivial
 | .lst _ _=>⟨rfl,rfl⟩
 | .full _ _=>⟨rfl,rfl⟩
 | .map _ _=>rfl
 | .ref ..=>⟨rfl,rfl,rfl,rfl⟩
 | .ptr ..=>⟨rfl,rfl,rfl,rfl⟩
 | .cptr _=>rfl
 | .nilP=>rfl
 | .nilF=>rfl
 | .yld _=>rfl
 | .fn ..=>rfl
 | .agg xs=>A6 l xs
 | .tup xs=>A6 l xs
theorem A6 (l:List Grp):∀ xs:List AV,leSL l xs xs
 | []=>rfl
 | x :: xs=>⟨Oe l x,A6 l xs⟩
end
theorem zir {x y:AV} (h:leS [] x y):AV.le x y:=fun S v hv=>Xo (.inr rfl) x h hv
theorem J6 {xs ys:List AV} (h:leSL [] xs ys):leL xs ys:=fun S v hv=>J5 (.inr rfl) xs h hv
def zfr (l:List Grp) (G G':Grp):Prop:=G.w=G'.w∧G.ver=G'.ver∧(G'.exact=true→G.exact=true)∧leSL l G.xs G'.xs
def Hs (l0:List Grp):List Grp→List Grp→Prop
 | [],[]=>True
 | G :: l,G' :: l'=>zfr l0 G G'∧Hs l0 l l'
 | _,_=>False
theorem Ma {l0:List Grp}:∀ {l l':List Grp},Hs l0 l l'→l'.length=l.length
 | [],[],_=>rfl
 | G :: l,G' :: l',h=>by simp [Ma h.2]
 | [],_ :: _,h=>h.elim
 | _ :: _,[],h=>h.elim
theorem O2 {l0:List Grp}:∀ {l l':List Grp},Hs l0 l l'→∀ g,g < l.length→zfr l0 (l.getD g default) (l'.getD g default)
 | [],[],_,g,hg=>by simp at hg
 | G :: l,G' :: l',h,0,_=>h.1
 | G :: l,G' :: l',h,g + 1,hg=>by simpa using O2 h.2 g (by simpa using hg)
 | [],_ :: _,h,_,_=>h.elim
 | _ :: _,[],h,_,_=>h.elim
theorem Iu {S:MS} {l l':List Grp} (hS:SRel S (hl l)) (h:Hs l l l'):SRel S (hl l'):=by
 have hlen:=Ma h
 refine ⟨hS.n.trans hlen.symm,fun g hg=>?_,fun g g' hg hg' hne hw hw'=>?_,hS.im⟩
 · have hg':g < l.length:=by rw [← hlen];exact hg
   obtain ⟨h1,h2,h3,h5⟩:=O2 h g hg'
   have h4:(l.getD g default).xs.length=(l'.getD g default).xs.length:=(z41 h5).symm
   have hG:=hS.grp g hg'
   rw [Cn] at hG ⊢
   refine ⟨by rw [← h2];exact hG.ver,by rw [← h1];exact hG.wid,fun hw hc=>?_,fun hw=>by rw [← h4];exact hG.len (by rw [h1];exact hw),fun hw he=>by rw [← h4];exact hG.full (by rw [h1];exact hw) (h3 he),fun hw he=>?_⟩
   rotate_left
   · obtain ⟨⟨es,clock,a1,a2⟩,a5⟩:=hG.mlive (by rw [h1];exact hw) (h3 he)
     exact ⟨⟨es,clock,a1,J5 (.inl hS) _ h5 a2⟩,a5⟩
   obtain ⟨⟨cells,TT,us,a1,a2,a3,a4⟩,a5⟩:=hG.live (by rw [h1];exact hw) hc
   exact ⟨⟨cells,TT,us,a1,by rw [← h1];exact a2,J5 (.inl hS) _ h5 a3,by rw [← h1];exact a4⟩,a5⟩
 · have hg1:g < l.length:=by rw [← hlen];exact hg
   have hg1':g' < l.length:=by rw [← hlen];exact hg'
   have key:∀ g,g < l.length→((hl l').at_ g).has (S.cap g)→((hl l).at_ g).has (S.cap g):=fun g hg hh=>by
     obtain ⟨k1,_,k3,_⟩:=O2 h g hg
     rw [Cn] at hh ⊢
     rcases hh with ⟨q1,q2⟩|⟨q1,q2⟩
     · exact .inl ⟨by rw [k1];exact q1,q2⟩
     · exact .inr ⟨by rw [k1];exact q1,k3 q2⟩
   exact hS.apart g g' hg1 hg1' hne (key g hg1 hw) (key g' hg1' hw')
inductive Src where
 | grp (g:Nat)
 | virt (w:Nat)
def Aw (w:Nat):AV→Src
 | .ref g _ _ _=>.grp g
 | .ptr g _ _ _=>.grp g
 | .map g _=>.grp g
 | _=>.virt w
def cellAt (H:Ac) (x:AV) (k:Nat):AV:=match x with
 | .ptr g _ i _=>((H.at_ g).xs.getD i .any).cells.getD k .any
 | _=>.any
def Em:Nat→List Src→List Nat × List Nat
 | _,[]=>([],[])
 | N,.grp g :: r=>(g :: (Em N r).1,(Em N r).2)
 | N,.virt w :: r=>(N :: (Em (N + 1) r).1,w :: (Em (N + 1) r).2)
def Hm (w:Nat):Grp:=⟨w,1,true,[]⟩
def Dc:List (Nat × AV)→Env
 | [],_=>.any
 | (t,x) :: l,j=>if j=t then x else Dc l j
def Mz (l2:List Grp) (H1:Ac) (b:Nat) (ks:List Nat) (env:Env):List (Nat × AV)→Prop
 | []=>True
 | (t,y) :: r=>leS l2 (rnV b H1 ks 6 (env t)) y∧Mz l2 H1 b ks env r
def allB (b n:Nat):List Nat→Prop
 | []=>True
 | k :: r=>b ≤ k∧k < n∧allB b n r
def z0g:List Nat→Prop
 | []=>True
 | k :: r=>k ∉ r∧z0g r
def rnG (b:Nat) (H:Ac) (ks:List Nat) (v:Nat) (G:Grp):Grp:=⟨G.w,v,G.exact,G.xs.map (rnV b H ks 6)⟩
def Do (b:Nat) (H:Ac) (ks:List Nat):List Grp→List Grp
 | []=>[]
 | G :: l=>rnG b H ks G.ver G :: Do b H ks l
def D5 (b:Nat) (H:Ac) (ks:List Nat) (l:List Grp):List Nat→List Grp
 | []=>[]
 | k :: r=>rnG b H ks 1 (l.getD k default) :: D5 b H ks l r
def zkp (b:Nat) (env:Env) (l1 l2:List Grp) (ks:List Nat) (live:List (Nat × AV)) (heap:List Grp):Prop:=Mz l2 (hl l1) b ks env live∧Hs l2 l2 heap
def zkq (b:Nat) (env:Env) (l1:List Grp) (ks:List Nat) (live:List (Nat × AV)) (heap:List Grp):Prop :=
 allB b l1.length ks∧z0g ks∧zkp b env l1 (Do b (hl l1) ks (l1.take b) ++ D5 b (hl l1) ks l1 ks) ks live heap
def O3:List Nat→Prop
 | []=>True
 | w :: r=>0 < w∧O3 r
theorem Iv:∀ {ws:List Nat},O3 ws→∀ w ∈ ws,0 < w
 | [],_,w,hw=>by simp at hw
 | k :: r,h,w,hw=>by
   rcases List.mem_cons.1 hw with rfl|hw
   · exact h.1
   · exact Iv h.2 w hw
def zkr (b:Nat) (env:Env) (l:List Grp) (p:List Nat × List Nat) (live:List (Nat × AV)) (heap:List Grp):Prop:=O3 p.2∧zkq b env (l ++ p.2.map Hm) p.1 live heap
def Head (b:Nat) (env:Env) (H:Ac) (srcs:List Src) (live:List (Nat × AV)) (heap:List Grp):Prop:=b ≤ H.n∧zkr b env H.groups (Em H.n srcs) live heap
section
variable {P:Program} {n b:Nat} {env:Env} {H:Ac} {Q:Ex→Env→Ac→Prop}
theorem zks {l:List Grp} {srcs:List Src} {live:List (Nat × AV)} {heap:List Grp}:Head b env (hl l) srcs live heap=(b ≤ l.length∧zkr b env l (Em l.length srcs) live heap):=by
 rw [Head,Xn,hl_n]
theorem zkt {c:AC} (w:Nat) (hw0:0 < w) (h:T P n b c env (H.push ⟨w,1,true,[]⟩) Q):T P n b c env H Q:=by
 intro rd mm hrd code hc S a hb hS hF
 exact wpIn_mono (h rd mm hrd code hc (S.virt w) a (Nat.le_succ_of_le hb) (hS.virt w hw0) ⟨hF.size,hF.defers.mono (Evo.virt _),fun j hj=>VRel.mono (Evo.virt _) _ (hF.val j hj)⟩) fun e a w hh=>hh.trans ((Evo.virt _).down hb)
theorem z0h {c:AC}:∀ (ws:List Nat) {l:List Grp},(∀ w ∈ ws,0 < w)→T P n b c env (hl (l ++ ws.map Hm)) Q→T P n b c env (hl l) Q
 | [],l,_,h=>by simpa using h
 | w :: ws,l,hw,h=>zkt w (hw w (by simp)) (by rw [D3];exact z0h ws (fun w' h'=>hw w' (by simp [h'])) (by simpa [Hm] using h))
theorem zan {c:AC} {H':Ac} (hn:H'.n=H.n) (h:∀ g,g < H.n→H'.at_ g=H.at_ g) (k:T P n b c env H' Q):T P n b c env H Q :=
 fun rd mm hrd code hc S a hb hS hF=>k rd mm hrd code hc S a hb (hS.congr hn h) hF
theorem Of {m:Nat}:∀ {ks:List Nat},allB b m ks→∀ k ∈ ks,b ≤ k∧k < m
 | [],_,k,hk=>by simp at hk
 | k :: r,h,j,hj=>by
   rcases List.mem_cons.1 hj with rfl|hj
   · exact ⟨h.1,h.2.1⟩
   · exact Of h.2.2 j hj
theorem Hb:∀ {ks:List Nat},z0g ks→ks.Nodup
 | [],_=>List.nodup_nil
 | k :: r,h=>List.nodup_cons.2 ⟨h.1,Hb h.2⟩
theorem O4 {H:Ac} {ks:List Nat}:∀ {l:List Grp},(Do b H ks l).length=l.length
 | []=>rfl
 | G :: l=>by simp [Do,O4]
theorem Sj {H:Ac} {ks:List Nat}:∀ {l:List Grp} {g:Nat},g < l.length→(Do b H ks l).getD g default=rnG b H ks (l.getD g default).ver (l.getD g default)
 | [],g,h=>by simp at h
 | G :: l,0,_=>rfl
 | G :: l,g + 1,h=>by simpa [Do] using Sj (l:=l) (g:=g) (by simpa using h)
theorem O5 {H:Ac} {ks:List Nat} {l:List Grp}:∀ {r:List Nat},(D5 b H ks l r).length=r.length
 | []=>rfl
 | k :: r=>by simp [D5,O5]
theorem Sk {H:Ac} {ks:List Nat} {l:List Grp}:∀ {r:List Nat} {j:Nat},j < r.length→(D5 b H ks l r).getD j default=rnG b H ks 1 (l.getD (r.getD j 0) default)
 | [],j,h=>by simp at h
 | k :: r,0,_=>rfl
 | k :: r,j + 1,h=>by simpa [D5] using Sk (r:=r) (j:=j) (by simpa using h)
theorem O6 {l1:List Grp} {ks:List Nat} (hb:b ≤ l1.length):((hl (Do b (hl l1) ks (l1.take b) ++ D5 b (hl l1) ks l1 ks)).n=((hl l1).repack b ks 6).n) ∧
   ∀ g,g < ((hl l1).repack b ks 6).n→(hl (Do b (hl l1) ks (l1.take b) ++ D5 b (hl l1) ks l1 ks)).at_ g=((hl l1).repack b ks 6).at_ g:=by
 have hO:(Do b (hl l1) ks (l1.take b)).length=b:=by rw [O4,List.length_take];omega
 refine ⟨?_,fun g hg=>?_⟩
 · show (Do b (hl l1) ks (l1.take b) ++ D5 b (hl l1) ks l1 ks).length=b + ks.length
   rw [List.length_append,hO,O5]
 · have hg':g < b + ks.length:=hg
   rw [Cn]
   show _=(⟨_,if g < b then (l1.getD g default).ver else 1,_,_⟩:Grp)
   by_cases hgb:g < b
   · rw [if_pos hgb,Eu hgb]
     have e:(Do b (hl l1) ks (l1.take b) ++ D5 b (hl l1) ks l1 ks).getD g default=(Do b (hl l1) ks (l1.take b)).getD g default:=by
       simp [List.getD,List.getElem?_append_left (show g < (Do b (hl l1) ks (l1.take b)).length by omega)]
     have e2:(l1.take b).getD g default=l1.getD g default:=by
       simp [List.getD,hgb]
     rw [e,Sj (by simp;omega),e2]
     rfl
   · rw [if_neg hgb]
     have e:(Do b (hl l1) ks (l1.take b) ++ D5 b (hl l1) ks l1 ks).getD g default=(D5 b (hl l1) ks l1 ks).getD (g - b) default:=by
       have:=List.getElem?_append_right (l₁:=Do b (hl l1) ks (l1.take b)) (l₂:=D5 b (hl l1) ks l1 ks) (i:=g) (by omega)
       rw [hO] at this
       simp [List.getD,this]
     rw [e,Sk (by omega)]
     have e3:inv b ks g=ks.getD (g - b) 0:=by rw [inv,if_neg hgb]
     rw [e3]
     rfl
theorem O7 {S:MS} {l2:List Grp} {H1:Ac} {ks:List Nat} {a:Act} (hS:SRel S (hl l2)) (hF:FRel S n (fun i=>rnV b H1 ks 6 (env i)) a):∀ {live:List (Nat × AV)},Mz l2 H1 b ks env live→∀ i,i < n→VRel S (Dc live i) (a.tmps.getD i undef)
 | [],_,i,_=>trivial
 | (t,y) :: r,h,i,hi=>by
   show VRel S (if i=t then y else Dc r i) _
   split
   · rename_i hit
     subst hit
     exact Xo (.inl hS) _ h.1 (hF.val i hi)
   · exact O7 hS hF h.2 i hi
theorem zao {c:AC} {srcs:List Src} {live:List (Nat × AV)} {heap:List Grp} (hh:Head b env H srcs live heap) (h:T P n b c (Dc live) (hl heap) Q):T P n b c env H Q:=by
 obtain ⟨hb,hh⟩:=hh
 have hgn:H.groups.length=H.n:=by simp [Ac.groups]
 refine zan (H':=hl H.groups) hgn (fun g hg=>?_) ?_
 · show H.groups.getD g default=_
   simp [Ac.groups,List.getD,hg]
 refine z0h (Em H.n srcs).2 (Iv hh.1) ?_
 replace hh:=hh.2
 generalize hl1:H.groups ++ (Em H.n srcs).2.map Hm=l1
 simp only [hl1] at hh
 obtain ⟨h1,h2,h3,h4⟩:=hh
 have hb1:b ≤ l1.length:=by rw [← hl1,List.length_append];omega
 refine zfq (Em H.n srcs).1 6 hb1 (fun k hk=>Of h1 k hk) (Hb h2) ?_
 obtain ⟨e1,e2⟩:=O6 (ks:=(Em H.n srcs).1) hb1
 refine zan e1 e2 ?_
 intro rd mm hrd code hc S a hbS hS hF
 have hlen:=Ma h4
 exact h rd mm hrd code hc S a hbS (Iu hS h4) ⟨hF.size,hF.defers,O7 hS hF h3⟩
theorem Ap {σ:Type} (Fact:σ→Prop) (μ:σ→Nat) (live:σ→List (Nat × AV)) (heap:σ→List Grp) (srcs:Env→Ac→List Src) {c:AC} (s0:σ) (h0:Fact s0) (he:Head b env H (srcs env H) (live s0) (heap s0))
   (round:∀ s,Fact s→T P n b c (Dc (live s)) (hl (heap s)) (Ex.then (fun env' H'=>∃ s',Head b env' H' (srcs env' H') (live s') (heap s')∧Fact s'∧μ s' < μ s) Q)):T P n b (.loop c) env H Q:=by
 refine zin (fun s env H=>Fact s∧Head b env H (srcs env H) (live s) (heap s)) μ s0 ⟨h0,he⟩ fun s env H hI=>?_
 refine zao hI.2 (T.mono (round s hI.1) fun x env' H' hh=>?_)
 cases x with
 | normal=>obtain ⟨s',k1,k2,k3⟩:=hh;exact ⟨s',⟨k2,k1⟩,k3⟩
 | exit id=>exact hh
 | ret=>exact hh
end
def hset (l:List Grp) (g:Nat) (G:Grp):Ac:=(hl l).set g G
def setQ:List Grp→Nat→Grp→Option (List Grp)
 | [],_,_=>none
 | _ :: l,0,G=>some (G :: l)
 | K :: l,g + 1,G=>(setQ l g G).map (K :: ·)
theorem Xp:∀ {l:List Grp} {g:Nat} {G:Grp} {l':List Grp},setQ l g G=some l'→g < l.length∧l'=l.set g G
 | [],_,_,_,h=>by cases h
 | _ :: l,0,G,_,h=>by cases h;exact ⟨by simp,rfl⟩
 | K :: l,g + 1,G,l',h=>by
   obtain ⟨r,hr,rfl⟩:=Option.map_eq_some_iff.1 h
   obtain ⟨h1,rfl⟩:=Xp hr
   exact ⟨by simpa using h1,rfl⟩
theorem zku (l:List Grp) (g:Nat) (G:Grp):(hl l).set g G=(match setQ l g G with|some l'=>hl l'|none=>hset l g G):=by
 cases h:setQ l g G with
 | none=>rfl
 | some l'=>obtain ⟨h1,rfl⟩:=Xp h;exact F3 l g G h1
theorem zap (K:Grp) (l:List Grp) (G:Grp):setQ (K :: l) 0 G=some (G :: l):=rfl
theorem zaq (K:Grp) (l:List Grp) (g:Nat) (G:Grp):setQ (K :: l) (g + 1) G=(setQ l g G).map (K :: ·):=rfl
theorem zkv (g:Nat):pos [] g=none:=rfl
theorem zfs (k:Nat) (ks:List Nat) (g:Nat):pos (k :: ks) g=if g=k then some 0 else (pos ks g).map (· + 1):=rfl
section
variable {b d:Nat} {H:Ac} {ks:List Nat}
def rnL (b:Nat) (H:Ac) (ks:List Nat) (d:Nat) (xs:List AV):List AV:=xs.map (rnV b H ks d)
theorem zop (xs:List AV):xs.map (rnV b H ks (d + 1))=bif Ay xs then xs else rnL b H ks (d + 1) xs:=by
 cases h:Ay xs
 · rfl
 · have key:∀ (d:Nat) {x:AV},x.pure=true→rnV b H ks d x=x:=by
     intro d
     induction d with
     | zero=>intro x hx;simp [rnV,hx]
     | succ d ih =>
       intro x hx
       have kl:∀ cs:List AV,Ay cs=true→cs.map (rnV b H ks d)=cs:=fun cs hc=>by
         have:cs.map (rnV b H ks d)=cs.map id:=List.map_congr_left fun y hy=>ih (Cc.1 hc y hy)
         simpa using this
       cases x with
       | ref=>simp [AV.pure] at hx
       | ptr=>simp [AV.pure] at hx
       | map=>simp [AV.pure] at hx
       | agg cs=>rw [rnV,kl cs (by simpa [AV.pure] using hx)]
       | tup cs=>rw [rnV,kl cs (by simpa [AV.pure] using hx)]
       | fn f cs=>rw [rnV,kl cs (by simpa [AV.pure] using hx)]
       | _=>rfl
   have:xs.map (rnV b H ks (d + 1))=xs.map id:=List.map_congr_left fun y hy=>key _ (Cc.1 h y hy)
   simpa using this
theorem zkw:rnL b H ks d []=[]:=rfl
theorem zft (x:AV) (xs:List AV):rnL b H ks d (x :: xs)=rnV b H ks d x :: rnL b H ks d xs:=rfl
theorem zoq (g v off len:Nat):rnV b H ks (d + 1) (.ref g v off len)=if g < b then .ref g v off len else if v=(H.at_ g).ver then
     (match pos ks g with
      | some j=>.ref (b + j) 1 off len
      | none=>if 0 < (H.at_ g).w∧off + len ≤ (H.at_ g).xs.length then frzL (H.at_ g).w ((((H.at_ g).xs.drop off).take len).map (rnV b H ks d)) else .any)
     else .any:=rfl
theorem zor (g v i o:Nat):rnV b H ks (d + 1) (.ptr g v i o)=if g < b then .ptr g v i o else if v=(H.at_ g).ver then
     (match pos ks g with
      | some j=>.ptr (b + j) 1 i o
      | none=>if o=0∧i < (H.at_ g).xs.length∧0 < (H.at_ g).w then frzP (rnV b H ks d ((H.at_ g).xs.getD i .any)) else .any)
     else .any:=rfl
theorem zos (cs:List AV):rnV b H ks (d + 1) (.agg cs)=.agg (cs.map (rnV b H ks d)):=rfl
theorem zot (cs:List AV):rnV b H ks (d + 1) (.tup cs)=.tup (cs.map (rnV b H ks d)):=rfl
theorem rn_fn (f:Nat) (cs:List AV):rnV b H ks (d + 1) (.fn f cs)=.fn f (cs.map (rnV b H ks d)):=rfl
theorem zou:rnV b H ks (d + 1) .any=.any:=rfl
theorem zkx (w:Nat) (xs:List AV):rnV b H ks (d + 1) (.full w xs)=.full w xs:=rfl
theorem rn_mp (g v:Nat):rnV b H ks (d + 1) (.map g v)=if g < b then .map g v else if v=(H.at_ g).ver then (match pos ks g with|some j=>.map (b + j) 1|none=>.any) else .any:=rfl
theorem zky (q:Bool):rnV b H ks (d + 1) (.bool q)=.bool q:=rfl
theorem zov (k:IntKind) (n:Int):rnV b H ks (d + 1) (.int k n)=.int k n:=rfl
theorem zow (s:List UInt8):rnV b H ks (d + 1) (.str s)=.str s:=rfl
theorem zkz:rnV b H ks (d + 1) .nilS=.nilS:=rfl
theorem zox:rnV b H ks (d + 1) .nul=.nul:=rfl
theorem zl0:rnV b H ks (d + 1) .nilP=.nilP:=rfl
theorem zl1:rnV b H ks (d + 1) .nilF=.nilF:=rfl
theorem zoy (l:Nat):rnV b H ks (d + 1) (.yld l)=.yld l:=rfl
theorem zoz (w:Nat) (xs:List AV):rnV b H ks (d + 1) (.lst w xs)=.lst w xs:=rfl
theorem zl2 (x:AV):rnV b H ks (d + 1) (.cptr x)=.cptr x:=rfl
end
section
variable {l l0 l':List Grp} {G G':Grp}
theorem zp0:Hs l0 [] []=True:=rfl
theorem zl3:Hs l0 (G :: l) (G' :: l')=(zfr l0 G G'∧Hs l0 l l'):=rfl
theorem g_le:zfr l0 G G'=(G.w=G'.w∧G.ver=G'.ver∧(G'.exact=true→G.exact=true)∧leSL l0 G.xs G'.xs):=rfl
theorem zar {x:AV}:leS l x x=True:=eq_true (Oe l x)
theorem zfu {xs:List AV}:leSL l xs xs=True:=eq_true (A6 l xs)
theorem zl4 {ys:List AV}:leSL l [] ys=(ys=[]):=by simp only [leSL]
theorem zfv {x y:AV} {xs ys:List AV}:leSL l (x :: xs) (y :: ys)=(leS l x y∧leSL l xs ys):=by simp only [leSL]
theorem Sl {k:IntKind} {a:Int} {k':IntKind} {b:Int}:leS l (.int k a) (.int k' b)=(k=k'∧a=b):=by simp only [leS]
theorem M0 {a:Bool} {b:Bool}:leS l (.bool a) (.bool b)=(a=b):=by simp only [leS]
theorem O8  {w:Nat} {ys:List AV}:leS l .nilS (.lst w ys)=(0 < w∧ys=[]):=by simp only [leS]
theorem z0i  {g v o n:Nat}:leS l .nilS (.ref g v o n)=(o=0∧n=0∧(l.getD g default).ver=v∧0 < (l.getD g default).w∧(l.getD g default).xs=[]∧(l.getD g default).exact=true∧g < l.length):=by simp only [leS]
theorem Sm  {w:Nat} {ys:List AV}:leS l .nul (.lst w ys)=(0 < w∧ys=[]):=by simp only [leS]
theorem Sn  {w:Nat} {ys:List AV}:leS l .emp (.lst w ys)=(0 < w∧ys=[]):=by simp only [leS]
theorem Xq {w:Nat} {xs:List AV} {w':Nat} {ys:List AV}:leS l (.full w xs) (.full w' ys)=(w=w'∧xs=ys):=by simp only [leS]
theorem O9 {w:Nat} {xs:List AV} {w':Nat} {ys:List AV}:leS l (.full w xs) (.lst w' ys)=(w=w'∧leSL l xs ys∧Ay ys=true):=by simp only [leS]
theorem z74 {g v g' v':Nat}:leS l (.map g v) (.map g' v')=(g=g'∧v=v'):=by simp only [leS,AV.map.injEq]
theorem So {w:Nat} {xs:List AV} {w':Nat} {ys:List AV}:leS l (.lst w xs) (.lst w' ys)=(w=w'∧xs=ys):=by simp only [leS]
theorem z75 {g v o n:Nat} {g' v' o' n':Nat}:leS l (.ref g v o n) (.ref g' v' o' n')=(g=g'∧v=v'∧o=o'∧n=n'):=by simp only [leS]
theorem z78 {g v o n:Nat} {g' v' o' n':Nat}:leS l (.ptr g v o n) (.ptr g' v' o' n')=(g=g'∧v=v'∧o=o'∧n=n'):=by simp only [leS]
theorem Sp {xs:List AV} {ys:List AV}:leS l (.agg xs) (.agg ys)=leSL l xs ys:=by simp only [leS]
theorem Sq {xs:List AV} {ys:List AV}:leS l (.tup xs) (.tup ys)=leSL l xs ys:=by simp only [leS]
theorem zp1 {x:AV}:leS l x .any=True:=eq_true (by cases x<;>simp only [leS])
def ansW (x y:AV):Prop:=leS [] x y
theorem zl5 {x:AV}:ansW x x=True:=zar
theorem zp2 {k k':IntKind} {a b:Int}:ansW (.int k a) (.int k' b)=(k=k'∧a=b):=Sl
theorem zl6 {a b:Bool}:ansW (.bool a) (.bool b)=(a=b):=M0
theorem zl7 {w w':Nat} {xs ys:List AV}:ansW (.full w xs) (.lst w' ys)=(w=w'∧leSL [] xs ys∧Ay ys=true):=O9
theorem zp3 {w w':Nat} {xs ys:List AV}:ansW (.lst w xs) (.lst w' ys)=(w=w'∧xs=ys):=So
theorem zl8 {w:Nat} {ys:List AV}:ansW .nilS (.lst w ys)=(0 < w∧ys=[]):=O8
theorem zp4 {w:Nat} {ys:List AV}:ansW .nul (.lst w ys)=(0 < w∧ys=[]):=Sm
theorem zp5 {w:Nat} {ys:List AV}:ansW .emp (.lst w ys)=(0 < w∧ys=[]):=Sn
theorem zp6 {xs ys:List AV}:ansW (.agg xs) (.agg ys)=leSL [] xs ys:=Sp
theorem Bo {xs ys:List AV}:ansW (.tup xs) (.tup ys)=leSL [] xs ys:=Sq
end
attribute [push_cast] Xq O9 z74 zl7 zkx rn_mp
attribute [push_cast] zar zfu zl4 zfv Sl M0 O8 z0i Sm Sn So z75 z78 Sp Sq zp1 zl5 zp2 zl6 zp3 zl8 zp4 zp5 zp6
section
variable {H H1:Ac} {l0:List Grp} {b t:Nat} {ks:List Nat} {env:Env} {y:AV} {r:List (Nat × AV)}
theorem zfw:Mz l0 H1 b ks env []=True:=rfl
theorem zas:Mz l0 H1 b ks env ((t,y) :: r)=(leS l0 (rnV b H1 ks 6 (env t)) y∧Mz l0 H1 b ks env r):=rfl
theorem zfx {n:Nat}:allB b n []=True:=rfl
theorem zat {n k:Nat}:allB b n (k :: ks)=(b ≤ k∧k < n∧allB b n ks):=rfl
theorem zau:z0g []=True:=rfl
theorem z79 {k:Nat}:z0g (k :: ks)=(k ∉ ks∧z0g ks):=rfl
theorem zav {w g v o n:Nat}:Aw w (.ref g v o n)=.grp g:=rfl
theorem zaw {w g v i o:Nat}:Aw w (.ptr g v i o)=.grp g:=rfl
theorem zax {w g v:Nat}:Aw w (.map g v)=.grp g:=rfl
theorem z7a:O3 []=True:=rfl
theorem z0j {w:Nat} {r:List Nat}:O3 (w :: r)=(0 < w∧O3 r):=rfl
theorem z7b {w:Nat}:Aw w .nilS=.virt w:=rfl
theorem z7c {g v i o k:Nat}:cellAt H (.ptr g v i o) k=((H.at_ g).xs.getD i .any).cells.getD k .any:=rfl
theorem zp7 {N:Nat}:Em N []=([],[]):=rfl
theorem zp8 {N g:Nat} {l:List Src}:Em N (.grp g :: l)=(g :: (Em N l).1,(Em N l).2):=rfl
theorem zl9 {N w:Nat} {l:List Src}:Em N (.virt w :: l)=(N :: (Em (N + 1) l).1,w :: (Em (N + 1) l).2):=rfl
theorem zp9 {j:Nat}:Dc [] j=.any:=rfl
theorem zla {j:Nat}:Dc ((t,y) :: r) j=if j=t then y else Dc r j:=rfl
variable {l l1 l2:List Grp} {G:Grp} {live:List (Nat × AV)} {heap:List Grp}
theorem head1 {p q:List Nat}:zkr b env l (p,q) live heap=(O3 q∧zkq b env (l ++ q.map Hm) p live heap):=rfl
theorem head2:zkq b env l1 ks live heap=(allB b l1.length ks∧z0g ks∧zkp b env l1 (Do b (hl l1) ks (l1.take b) ++ D5 b (hl l1) ks l1 ks) ks live heap):=rfl
theorem head3:zkp b env l1 l2 ks live heap=(Mz l2 (hl l1) b ks env live∧Hs l2 l2 heap):=rfl
theorem zpa:Do b H ks []=[]:=rfl
theorem zlb:Do b H ks (G :: l)=rnG b H ks G.ver G :: Do b H ks l:=rfl
theorem zpb:D5 b H ks l []=[]:=rfl
theorem zlc {k:Nat} {r:List Nat}:D5 b H ks l (k :: r)=rnG b H ks 1 (l.getD k default) :: D5 b H ks l r:=rfl
theorem zpc {v:Nat}:rnG b H ks v G=⟨G.w,v,G.exact,G.xs.map (rnV b H ks 6)⟩:=rfl
end
theorem zfy (i:Nat) (ks:List Nat):Gk i ks []=[]:=rfl
theorem zay (i:Nat) (ks:List Nat) (G:Grp) (l:List Grp):Gk i ks (G :: l)=(if i ∈ ks then G.dead else G) :: Gk (i + 1) ks l:=rfl
theorem zld (w:Nat):Hm w=⟨w,1,true,[]⟩:=rfl
theorem zle (w:Nat) (xs:List AV):frzL w xs=bif Ay xs then .lst w xs else .any:=rfl
theorem zlf (x:AV):frzP x=bif x.pure then .cptr x else .any:=rfl
theorem zaz (xs ys:List AV):Ay (xs ++ ys)=(Ay xs && Ay ys):=by
 induction xs with
 | nil=>rfl
 | cons x xs ih=>simp [Ay,ih,Bool.and_assoc]
theorem z7d (i:Nat):((i:Int) - 1).toNat=i - 1:=by omega
theorem z7e (i:Nat):((i:Int) + 1).toNat=i + 1:=by omega
theorem zb0 (i k:Nat):((i:Int) + (k:Int)).toNat=i + k:=by omega
theorem drop_at {α:Type} [Inhabited α] {l:List α} {i:Nat} (h:i < l.length):l.drop i=nth l i :: l.drop (i + 1):=by
 rw [List.drop_eq_getElem_cons h];simp [nth,List.getD,h]
theorem take_at {α:Type} [Inhabited α] {l:List α} {i:Nat} (h:i < l.length):l.take (i + 1)=l.take i ++ [nth l i]:=by
 rw [List.take_succ_eq_append_getElem h];simp [nth,List.getD,h]
theorem Au {α:Type} [Inhabited α] {l:List α} {i:Nat} (h:i < l.length):nth l i ∈ l:=by
 have:nth l i=l[i]:=by simp [nth,List.getD,h]
 rw [this];exact List.getElem_mem h
theorem zlg (g k:Nat) (ks:List Nat):(g ∈ k :: ks)=(g=k ∨ g ∈ ks):=by simp
theorem z0k (g:Nat):(g ∈ ([]:List Nat))=False:=by simp
theorem zlh (H:Ac) (ks:List Nat) (g:Nat):(H.only ks).at_ g=if g ∈ ks then H.at_ g else (H.at_ g).dead:=rfl
def B3:List AV→List Nat
 | []=>[]
 | .ref g _ _ _ :: l=>g :: B3 l
 | .ptr g _ _ _ :: l=>g :: B3 l
 | .agg cs :: l=>B3 cs ++ B3 l
 | .fn _ cs :: l=>B3 cs ++ B3 l
 | _ :: l=>B3 l
theorem Cx {w:Nat} {xs l:List AV}:B3 (.lst w xs :: l)=B3 l:=by rw [B3]<;>(intros;simp_all)
theorem zb1 {x:AV} {l:List AV}:B3 (.cptr x :: l)=B3 l:=by rw [B3]<;>(intros;simp_all)
theorem zfz {k:IntKind} {n:Int} {l:List AV}:B3 (.int k n :: l)=B3 l:=by rw [B3]<;>(intros;simp_all)
theorem zb2 {b:Bool} {l:List AV}:B3 (.bool b :: l)=B3 l:=by rw [B3]<;>(intros;simp_all)
theorem zb3 {l:List AV}:B3 (.nilS :: l)=B3 l:=by rw [B3]<;>(intros;simp_all)
theorem zg0 {g v o n:Nat} {l:List AV}:B3 (.ref g v o n :: l)=g :: B3 l:=by rw [B3]
theorem zg1 {g v o n:Nat} {l:List AV}:B3 (.ptr g v o n :: l)=g :: B3 l:=by rw [B3]
theorem zg2 {cs l:List AV}:B3 (.agg cs :: l)=B3 cs ++ B3 l:=by rw [B3]
theorem zli {f:Nat} {cs l:List AV}:B3 (.fn f cs :: l)=B3 cs ++ B3 l:=by rw [B3]
theorem zg3:B3 []=[]:=by rw [B3]
attribute [push_cast] Cx zb1 zfz zb2 zb3 zg0 zg1 zg2 zli zg3
def okA (d:Nat) (H:Ac):List AV→Prop
 | []=>True
 | x :: l=>Cr d H x∧okA d H l
section
variable {P:Program} {f:Nat} {xs ys:List AV} {y:AV} {l:List Grp} {H:Ac}
theorem Pa {d:Nat}:∀ {xs:List AV},okA d H xs→∀ x ∈ xs,Cr d H x
 | [],_,x,hx=>by simp at hx
 | z :: r,h,x,hx=>by
   rcases List.mem_cons.1 hx with rfl|hx
   · exact h.1
   · exact Pa h.2 x hx
theorem zlj {d:Nat}:okA d H []=True:=rfl
theorem zg4 {d:Nat} {x:AV}:okA d H (x :: xs)=(Cr d H x∧okA d H xs):=rfl
theorem Ht (h:PC P f ys y) (hl:leL xs ys):PC P f xs y:=Gj hl h
def chB (c:Bool) (p q:Prop):Prop:=match c with
 | true=>p
 | false=>q
theorem zg5 {p q:Prop}:chB true p q=p:=rfl
theorem zb4 {p q:Prop}:chB false p q=q:=rfl
def frA (d:Nat) (H:Ac) (xs:List AV):List AV:=xs.map (frzV d H)
theorem zlk {d:Nat}:frA d H []=[]:=rfl
theorem zg6 {d:Nat} {x:AV}:frA d H (x :: xs)=frzV d H x :: frA d H xs:=rfl
theorem cK {K:AV→Ac→Prop} (h:PC P f ys y) (hh:chB (Ay xs) (leSL [] xs ys∧Ay ys=true∧@nx y (hl l) ⟨K⟩)
   (chB y.flat (okA 4 (hl l) xs∧leSL [] (frA 4 (hl l) xs) ys∧@nx y (hl l) ⟨K⟩)
     (okA 4 ((hl l).only (B3 xs)) xs∧leSL [] (frA 4 ((hl l).only (B3 xs)) xs) ys∧Ay ys=true∧@nx y (hl (Gk 0 (B3 xs) l)) ⟨K⟩))):@z0d P f xs (hl l) ⟨K⟩:=by
 cases hp:Ay xs<;>rw [hp] at hh
 · cases hy:y.flat<;>rw [hy] at hh
   · obtain ⟨h1,h2,h3,h4⟩:=hh
     exact Si 4 (B3 xs) (Pa h1) (Gj (J6 h2) (Ha h h3 h4))
   · obtain ⟨h1,h2,h3⟩:=hh
     exact z9p (Ht h (J6 h2)) 4 (Pa h1) rfl hy h3
 · obtain ⟨h1,h2,h3⟩:=hh
   exact Gj (J6 h1) (Ha h h2 h3)
theorem eK {K:AV→Ac→Prop} (h:PC P f xs y) (hh:Ay xs=true∧@nx y H ⟨K⟩):@z0d P f xs H ⟨K⟩:=Ha h hh.1 hh.2
theorem eQ {K:AV→Prop} (h:PC P f xs y) (hh:Ay xs=true∧@nq y ⟨K⟩):@zf1 P f xs H ⟨K⟩:=⟨y,Ha h hh.1 ⟨rfl,rfl⟩,hh.2⟩
theorem cQ {K:AV→Prop} (h:PC P f ys y) (hh:chB (Ay xs) (leSL [] xs ys∧Ay ys=true∧@nq y ⟨K⟩)
   (y.flat=true∧okA 4 (hl l) xs∧leSL [] (frA 4 (hl l) xs) ys∧@nq y ⟨K⟩)):@zf1 P f xs (hl l) ⟨K⟩:=by
 cases hp:Ay xs<;>rw [hp] at hh
 · obtain ⟨hy,h1,h2,h3⟩:=hh
   exact ⟨y,z9p (Ht h (J6 h2)) 4 (Pa h1) rfl hy ⟨rfl,rfl⟩,h3⟩
 · obtain ⟨h1,h2,h3⟩:=hh
   exact ⟨y,Gj (J6 h1) (Ha h h2 ⟨rfl,rfl⟩),h3⟩
end
attribute [push_cast] zlj zg4 zlk zg6 zg5 zb4 AV.flat z9m
section
variable {d:Nat} {H:Ac}
def okL (d:Nat) (H:Ac) (xs:List AV):Prop:=∀ y ∈ xs,Cr d H y
def frL (d:Nat) (H:Ac) (xs:List AV):List AV:=xs.map (frzV d H)
def okM (d:Nat) (H:Ac) (xs:List AV):Prop:=okL d H xs
def frM (d:Nat) (H:Ac) (xs:List AV):List AV:=frL d H xs
def ifB (b:Bool) (p:Prop):Prop:=b=true ∨ p
theorem zg7 (p:Prop):ifB true p=True:=by simp [ifB]
theorem zb5 (p:Prop):ifB false p=p:=by simp [ifB]
theorem zpd (xs:List AV):okL d H xs=ifB (Ay xs) (okM d H xs):=propext ⟨fun h=>.inr h,fun h=>h.elim (fun h=>(Hr H d h).1) id⟩
theorem zpe (xs:List AV):frL d H xs=bif Ay xs then xs else frM d H xs:=by
 cases h:Ay xs
 · rfl
 · exact (Hr H d h).2
theorem zll:okM d H []=True:=by simp [okM,okL]
theorem zg8 (x:AV) (xs:List AV):okM d H (x :: xs)=(Cr d H x∧okM d H xs):=by simp [okM,okL]
theorem zlm:frM d H []=[]:=rfl
theorem zg9 (x:AV) (xs:List AV):frM d H (x :: xs)=frzV d H x :: frM d H xs:=rfl
theorem zpf (g v off len:Nat):Cr (d + 1) H (.ref g v off len)=((H.at_ g).ver=v∧0 < (H.at_ g).w∧off + len ≤ (H.at_ g).xs.length∧okL d H (((H.at_ g).xs.drop off).take len)):=rfl
theorem zpg (g v i o:Nat):Cr (d + 1) H (.ptr g v i o)=((H.at_ g).ver=v∧i < (H.at_ g).xs.length∧0 < (H.at_ g).w∧o=0∧Cr d H ((H.at_ g).xs.getD i .any)):=rfl
theorem zph (cs:List AV):Cr (d + 1) H (.agg cs)=okL d H cs:=rfl
theorem zpi (cs:List AV):Cr (d + 1) H (.tup cs)=okL d H cs:=rfl
theorem ok_fn (f:Nat) (cs:List AV):Cr (d + 1) H (.fn f cs)=okL d H cs:=rfl
theorem zpj:Cr (d + 1) H .any=True:=eq_true rfl
theorem zln (b:Bool):Cr (d + 1) H (.bool b)=True:=eq_true rfl
theorem ok_int (k:IntKind) (n:Int):Cr (d + 1) H (.int k n)=True:=eq_true rfl
theorem zpk (s:List UInt8):Cr (d + 1) H (.str s)=True:=eq_true rfl
theorem zlo:Cr (d + 1) H .nilS=True:=eq_true rfl
theorem zpl:Cr (d + 1) H .nul=True:=eq_true rfl
theorem zpm:Cr (d + 1) H .emp=True:=eq_true rfl
theorem zlp:Cr (d + 1) H .nilP=True:=eq_true rfl
theorem zlq:Cr (d + 1) H .nilF=True:=eq_true rfl
theorem zpn (l:Nat):Cr (d + 1) H (.yld l)=True:=eq_true rfl
theorem zlr (w:Nat) (xs:List AV):Cr (d + 1) H (.full w xs)=(Ay xs=true):=rfl
theorem zls (w:Nat) (xs:List AV):frzV (d + 1) H (.full w xs)=.full w xs:=rfl
theorem zpo (w:Nat) (xs:List AV):Cr (d + 1) H (.lst w xs)=(Ay xs=true):=rfl
theorem zlt (x:AV):Cr (d + 1) H (.cptr x)=(x.pure=true):=rfl
theorem zpp (g v off len:Nat):frzV (d + 1) H (.ref g v off len)=.lst (H.at_ g).w (frL d H (((H.at_ g).xs.drop off).take len)):=rfl
theorem zpq (g v i o:Nat):frzV (d + 1) H (.ptr g v i o)=if o=0 then .cptr (frzV d H ((H.at_ g).xs.getD i .any)) else .any:=rfl
theorem zpr (cs:List AV):frzV (d + 1) H (.agg cs)=.agg (frL d H cs):=rfl
theorem zps (cs:List AV):frzV (d + 1) H (.tup cs)=.tup (frL d H cs):=rfl
theorem fr_fn (f:Nat) (cs:List AV):frzV (d + 1) H (.fn f cs)=.fn f (frL d H cs):=rfl
theorem zpt:frzV (d + 1) H .any=.any:=rfl
theorem zlu (b:Bool):frzV (d + 1) H (.bool b)=.bool b:=rfl
theorem zpu (k:IntKind) (n:Int):frzV (d + 1) H (.int k n)=.int k n:=rfl
theorem zpv (s:List UInt8):frzV (d + 1) H (.str s)=.str s:=rfl
theorem zlv:frzV (d + 1) H .nilS=.nilS:=rfl
theorem zpw:frzV (d + 1) H .nul=.nul:=rfl
theorem zpx:frzV (d + 1) H .emp=.emp:=rfl
theorem zlw:frzV (d + 1) H .nilP=.nilP:=rfl
theorem zlx:frzV (d + 1) H .nilF=.nilF:=rfl
theorem zpy (l:Nat):frzV (d + 1) H (.yld l)=.yld l:=rfl
theorem zpz (w:Nat) (xs:List AV):frzV (d + 1) H (.lst w xs)=.lst w xs:=rfl
theorem zly (x:AV):frzV (d + 1) H (.cptr x)=.cptr x:=rfl
end
attribute [push_cast] zg7 zb5 zpd zpe zll zg8 zlm zg9 zpf zpg zph zpi ok_fn zpj zln ok_int zpk zlo zpl zpm zlp zlq zpn zpy zpo zlr zls zlt zpp zpq zpr zps fr_fn zpt zlu zpu zpv zlv zpw zpx zlw zlx zpz zly List.take_length
section
variable {P:Program} {l:List Grp} {xs cs:List AV} {K:AV→List Grp→Prop} {z:AV} {w len n:Nat}
theorem Ct {k:AK} (h:k.still=true):@opG P k l xs ⟨K⟩=(Bi (· < l.length) xs∧@opK P k (hl l) xs ⟨fun x _=>K x l⟩):=by
 rw [z3y]
 have hn:¬ k.still=false:=by rw [h];simp
 cases k<;>first|(exact propext ⟨fun hh=>hh.elim (fun hh=>⟨hh.2.1,hh.2.2⟩) (fun hh=>absurd hh.1 hn),fun hh=>.inl ⟨h,hh.1,hh.2⟩⟩)|(simp [AK.still] at h)
theorem z7f {k:AK} (h:k.still=false) (he:k.eff.isSome=true):@opG P k l xs ⟨K⟩=(k.appOk=true∧Uf k xs∧@opK P k (hl l) xs ⟨fun x H'=>∀ l',H'=hl l'→K x l'⟩):=by
 rw [z3y]
 have hn:¬ k.still=true:=by rw [h];simp
 cases k<;>first|(exact propext ⟨fun hh=>hh.elim (fun hh=>absurd hh.1 hn) (fun hh=>⟨hh.2.2.1,hh.2.2.2⟩),fun hh=>.inr ⟨h,he,hh.1,hh.2⟩⟩)|(simp [AK.eff] at he)
theorem G_mv  : @opG P .mv l xs ⟨K⟩=(Bi (· < l.length) xs∧@opK P .mv (hl l) xs ⟨fun x _=>K x l⟩):=Ct rfl
theorem zq0  : @opG P .pick l xs ⟨K⟩=(Bi (· < l.length) xs∧@opK P .pick (hl l) xs ⟨fun x _=>K x l⟩):=Ct rfl
theorem zlz {zs:List AV} {pl:List (Nat × Nat)} {idx:List Nat}:@opG P (.build zs pl idx) l xs ⟨K⟩=(Bi (· < l.length) xs∧@opK P (.build zs pl idx) (hl l) xs ⟨fun x _=>K x l⟩):=Ct rfl
theorem zq1 {a:Bool} {s:Nat}:@opG P (.load a s) l xs ⟨K⟩=(Bi (· < l.length) xs∧@opK P (.load a s) (hl l) xs ⟨fun x _=>K x l⟩):=Ct rfl
theorem z7g  : @opG P .nilCheck l xs ⟨K⟩=(Bi (· < l.length) xs∧@opK P .nilCheck (hl l) xs ⟨fun x _=>K x l⟩):=Ct rfl
theorem G_bin {op:BinOp}:@opG P (.bin op) l xs ⟨K⟩=(Bi (· < l.length) xs∧@opK P (.bin op) (hl l) xs ⟨fun x _=>K x l⟩):=Ct rfl
theorem G_eqb {n:Bool}:@opG P (.eqb n) l xs ⟨K⟩=(Bi (· < l.length) xs∧@opK P (.eqb n) (hl l) xs ⟨fun x _=>K x l⟩):=Ct rfl
theorem G_eqs {n:Bool} {ks:List Nat}:@opG P (.eqs n ks) l xs ⟨K⟩=(Bi (· < l.length) xs∧@opK P (.eqs n ks) (hl l) xs ⟨fun x _=>K x l⟩):=Ct rfl
theorem G_eqn {n:Bool}:@opG P (.eqn n) l xs ⟨K⟩=(Bi (· < l.length) xs∧@opK P (.eqn n) (hl l) xs ⟨fun x _=>K x l⟩):=Ct rfl
theorem G_un {op:UnOp}:@opG P (.un op) l xs ⟨K⟩=(Bi (· < l.length) xs∧@opK P (.un op) (hl l) xs ⟨fun x _=>K x l⟩):=Ct rfl
theorem zq2 {k:IntKind}:@opG P (.conv k) l xs ⟨K⟩=(Bi (· < l.length) xs∧@opK P (.conv k) (hl l) xs ⟨fun x _=>K x l⟩):=Ct rfl
theorem zm0 {w:Nat} {lo hi mx:Bool}:@opG P (.slice w lo hi mx) l xs ⟨K⟩=(Bi (· < l.length) xs∧@opK P (.slice w lo hi mx) (hl l) xs ⟨fun x _=>K x l⟩):=Ct rfl
theorem zm1 {a:Bool} {o s:Nat}:@opG P (.faddr a o s) l xs ⟨K⟩=(Bi (· < l.length) xs∧@opK P (.faddr a o s) (hl l) xs ⟨fun x _=>K x l⟩):=Ct rfl
theorem zm2 {a:Bool} {o s:Nat}:@opG P (.field a o s) l xs ⟨K⟩=(Bi (· < l.length) xs∧@opK P (.field a o s) (hl l) xs ⟨fun x _=>K x l⟩):=Ct rfl
theorem zm3 {w:Nat}:@opG P (.iaddr w) l xs ⟨K⟩=(Bi (· < l.length) xs∧@opK P (.iaddr w) (hl l) xs ⟨fun x _=>K x l⟩):=Ct rfl
theorem zga {n w:Nat} {a:Bool}:@opG P (.iaddrA n w a) l xs ⟨K⟩=(Bi (· < l.length) xs∧@opK P (.iaddrA n w a) (hl l) xs ⟨fun x _=>K x l⟩):=Ct rfl
theorem zm4 {n w:Nat} {a:Bool}:@opG P (.index n w a) l xs ⟨K⟩=(Bi (· < l.length) xs∧@opK P (.index n w a) (hl l) xs ⟨fun x _=>K x l⟩):=Ct rfl
theorem z7h  : @opG P .indexStr l xs ⟨K⟩=(Bi (· < l.length) xs∧@opK P .indexStr (hl l) xs ⟨fun x _=>K x l⟩):=Ct rfl
theorem zb6 {i:Nat}:@opG P (.extract i) l xs ⟨K⟩=(Bi (· < l.length) xs∧@opK P (.extract i) (hl l) xs ⟨fun x _=>K x l⟩):=Ct rfl
theorem G_len {b:Bool}:@opG P (.len b) l xs ⟨K⟩=(Bi (· < l.length) xs∧@opK P (.len b) (hl l) xs ⟨fun x _=>K x l⟩):=Ct rfl
theorem G_max  : @opG P .max l xs ⟨K⟩=(Bi (· < l.length) xs∧@opK P .max (hl l) xs ⟨fun x _=>K x l⟩):=Ct rfl
theorem G_min  : @opG P .min l xs ⟨K⟩=(Bi (· < l.length) xs∧@opK P .min (hl l) xs ⟨fun x _=>K x l⟩):=Ct rfl
theorem zgb:@opG P (.mapGet z) l xs ⟨K⟩=(Bi (· < l.length) xs∧@opK P (.mapGet z) (hl l) xs ⟨fun x _=>K x l⟩):=Ct rfl
theorem zgc {f:Nat}:@opG P (.mkFunc f) l xs ⟨K⟩=(Bi (· < l.length) xs∧@opK P (.mkFunc f) (hl l) xs ⟨fun x _=>K x l⟩):=Ct rfl
theorem zm5  : @opG P .toStr l xs ⟨K⟩=(Bi (· < l.length) xs∧@opK P .toStr (hl l) xs ⟨fun x _=>K x l⟩):=Ct rfl
theorem zm6  : @opG P (.alloc z w) l xs ⟨K⟩=@opK P (.alloc z w) (hl l) xs ⟨fun x H'=>∀ l',H'=hl l'→K x l'⟩:=(z7f rfl rfl).trans (by simp only [AK.appOk,Uf,true_and])
theorem G_box  : @opG P .box l xs ⟨K⟩=@opK P .box (hl l) xs ⟨fun x H'=>∀ l',H'=hl l'→K x l'⟩:=(z7f rfl rfl).trans (by simp only [AK.appOk,Uf,true_and])
theorem zm7  : @opG P (.store w) l xs ⟨K⟩=@opK P (.store w) (hl l) xs ⟨fun x H'=>∀ l',H'=hl l'→K x l'⟩:=(z7f rfl rfl).trans (by simp only [AK.appOk,Uf,true_and])
theorem zb7  : @opG P (.mkSlice w n z) l xs ⟨K⟩=@opK P (.mkSlice w n z) (hl l) xs ⟨fun x H'=>∀ l',H'=hl l'→K x l'⟩:=(z7f rfl rfl).trans (by simp only [AK.appOk,Uf,true_and])
theorem G_app:@opG P (.app w n z) l xs ⟨K⟩=(0 < w∧offA xs∧@opK P (.app w n z) (hl l) xs ⟨fun x H'=>∀ l',H'=hl l'→K x l'⟩):=(z7f rfl rfl).trans (by simp only [AK.appOk,Uf,decide_eq_true_eq])
theorem zgd {g v o n:Nat}:offA (.ref g v o n :: xs)=(o=0):=rfl
theorem zb8:offA (.nilS :: xs)=True:=rfl
theorem zge:offA (.nul :: xs)=True:=rfl
theorem zgf:offA (.emp :: xs)=True:=rfl
theorem zb9 {w:Nat} {ys:List AV}:offA (.full w ys :: xs)=True:=rfl
theorem zgg {w:Nat} {ys:List AV}:offA (.lst w ys :: xs)=True:=rfl
theorem zq3 {f:Nat}:@opG P .call l (.fn f cs :: xs) ⟨K⟩=@zf2 P f (xs ++ cs) l ⟨K⟩:=(rfl)
theorem G_bsl {idx:List Nat}:@opG P (.bslice w len z idx) l xs ⟨K⟩=(Gi w len idx xs∧0 < w∧Ay (D1 idx xs (List.replicate len z))=true∧@nx (.full w (D1 idx xs (List.replicate len z))) (hl l) ⟨fun x _=>K x l⟩):=(rfl)
theorem hl_eq {l l':List Grp}:(hl l=hl l')=(l=l'):=propext ⟨ziq,fun h=>h ▸ rfl⟩
theorem eG {f:Nat} {y:AV} (h:PC P f xs y) (hh:Ay xs=true∧@nx y (hl l) ⟨fun y _=>K y l⟩):@zf2 P f xs l ⟨K⟩:=⟨y,fun H=>Ha h hh.1 ⟨rfl,rfl⟩,hh.2⟩
theorem cG {f:Nat} {ys:List AV} {y:AV} (h:PC P f ys y) (hh:leSL [] xs ys∧Ay ys=true∧@nx y (hl l) ⟨fun y _=>K y l⟩):@zf2 P f xs l ⟨K⟩:=⟨y,fun H=>Gj (J6 hh.1) (Ha h hh.2.1 ⟨rfl,rfl⟩),hh.2.2⟩
end
theorem A9 {P:Program} {f m np:Nat} {xs:List AV} {y:AV} {res:List ARes} {B:AC} (hf:As P f xs.length=some ⟨m,np,res,B⟩) (h:W P m 0 B (entry xs) (hl []) (Ret P res fun z H=>Cr 4 H z∧ansW (frzV 4 H z) y)):PC P f xs y:=by
 refine zob hf 4 ?_
 rw [z40]
 exact T.mono (W_T h) fun x env H hh=>z3z (fun z H hh=>⟨hh.1,zir hh.2⟩) hh
theorem z42 {P:Program} {f w:Nat} {y:AV} (h1:PC P f [.nilS] y) (h2:PC P f [.emp] y):PC P f [.lst w []] y:=by
 refine ⟨h1.1,fun S cargs hS hx=>?_⟩
 obtain ⟨v,r,rfl,⟨_,_,a,cap,vs,rfl,⟨_,hn⟩,_,_⟩,hr⟩:=hx
 cases a with
 | none=>exact h1.2 S _ hS ⟨_,r,rfl,by rw [hn rfl];rfl,hr⟩
 | some a=>exact h2.2 S _ hS ⟨_,r,rfl,⟨a,cap,rfl⟩,hr⟩
section
variable {P:Program} {H:Ac} {K:AV→Ac→Prop} {n:Bool} {b d:Nat} {ks:List Nat}
theorem zba:@opK P (.eqn n) H [.emp,.nilS] ⟨K⟩=@nx (.bool n) H ⟨K⟩:=(rfl)
theorem zbb:@opK P (.len false) H [.emp] ⟨K⟩=@nx (.int .i64 0) H ⟨K⟩:=(rfl)
theorem zq4:rnV b H ks (d + 1) .emp=.emp:=rfl
end
theorem Ao {P:Program} {n b:Nat} {c:AC} {env:Env} {H:Ac} {Q:Ex→Env→Ac→Prop} (h:T P n b (.loop c) env H Q):@Je ⟨T P n b (.loop c) env H Q⟩:=h
attribute [push_cast] zba zbb zq4 z40 hl_n Cn D3 zku zap zaq Xn zkv zfs zop zkw zft zoq zor zos zot rn_fn zou zky zov zow zkz zox zl0 zl1 zoy zoz zl2
attribute [push_cast] zp0 zl3 g_le zfw zas zfx zat zau z79 zav zaw z7b zax z7a z0j z7c zp7 zp8 zl9 zp9 zla zks head1 head2 head3 zpa zlb zpb zlc zpc zfy zay zld zle zlf zaz zlh B3 List.cons_append List.nil_append
attribute [push_cast] zgd zb8 zge zgf zb9 zgg G_mv zq0 zlz zq1 z7g G_bin G_eqb G_eqs G_eqn G_un zq2 zm0 zm1 zm2 zm3 zga zm4 z7h zb6 G_len G_max G_min zgc zm5 zm6 G_box zm7 zb7 G_app zq3 G_bsl hl_eq Bi forall_eq' forall_eq
attribute [push_cast] List.isEmpty_nil List.isEmpty_cons List.map_eq_nil_iff Option.isSome_some Option.isSome_none
attribute [push_cast] List.map_append List.length_append Option.map_some Option.map_none zlg z0k Int.add_sub_cancel Int.sub_add_cancel z7d z7e zb0 Nat.not_lt_zero Nat.zero_le
open IntWalk in
attribute [push_cast] i64_in i32_in u8_in u32_in u64_in zaj
theorem zz:type_of% (And.intro @z1 <| And.intro @z2 <| And.intro @z3 <| And.intro @z4 <| And.intro @z5 <| And.intro @z6 <| And.intro @z7 <| And.intro @z8 <| And.intro @z9 <| And.intro @z10 <| And.intro @z11 <| And.intro @z12 <| And.intro @z13 <| And.intro @z14 <| And.intro @z15 <| And.intro @z16 <| And.intro @z17 <| And.intro @z18 <| And.intro @z19 <| And.intro @z20 <| And.intro @z21 <| And.intro @z22 <| And.intro @z23 <| And.intro @z24 <| And.intro @z25 <| And.intro @z26 <| And.intro @z27 <| And.intro @z28 <| And.intro @z29 <| And.intro @z30 <| And.intro @z31 <| And.intro @z32 <| @z33):=And.intro @z1 <| And.intro @z2 <| And.intro @z3 <| And.intro @z4 <| And.intro @z5 <| And.intro @z6 <| And.intro @z7 <| And.intro @z8 <| And.intro @z9 <| And.intro @z10 <| And.intro @z11 <| And.intro @z12 <| And.intro @z13 <| And.intro @z14 <| And.intro @z15 <| And.intro @z16 <| And.intro @z17 <| And.intro @z18 <| And.intro @z19 <| And.intro @z20 <| And.intro @z21 <| And.intro @z22 <| And.intro @z23 <| And.intro @z24 <| And.intro @z25 <| And.intro @z26 <| And.intro @z27 <| And.intro @z28 <| And.intro @z29 <| And.intro @z30 <| And.intro @z31 <| And.intro @z32 <| @z33
open Go.RowKit
inductive Sh where
 | bool
 | int (k:IntKind)
 | str
 | sl (agg:Bool) (fs:List Sh)
mutual
def Is:Sh→AV→Prop
 | .bool,x=>∃ b,x=.bool b
 | .int k,x=>∃ n,x=.int k n∧(Lit.int k n).wf=true
 | .str,x=>∃ s:List UInt8,x=.str s∧s.length ≤ maxLen
 | .sl agg fs,x=>x=.nilS ∨ ∃ xs,x=.lst fs.length xs∧xs.length ≤ maxLen∧∀ y ∈ xs,∃ cs,y=(if agg then .agg cs else cs.headD .any)∧IsL fs cs
def IsL:List Sh→List AV→Prop
 | [],cs=>cs=[]
 | s :: fs,cs=>∃ c r,cs=c :: r∧Is s c∧IsL fs r
end
theorem zbc:∀ {fs:List Sh} {cs:List AV},IsL fs cs→cs.length=fs.length
 | [],_,h=>by rw [show _=[] from h];rfl
 | _ :: _,_,⟨_,_,h,_,k⟩=>by rw [h];simp [zbc k]
mutual
def Rr (P:Program):Sh→TypeId→Bool
 | .bool,t=>match P.underlying t with|some .bool=>true|_=>false
 | .int k,t=>match P.underlying t with|some (.int k')=>k' == k|_=>false
 | .str,t=>match P.underlying t with|some .string=>true|_=>false
 | .sl agg fs,t=>match P.underlying t with
   | some (.slice e)=>P.cellsOf e == fs.length && !fs.isEmpty && (match agg,P.underlying e with
     | true,some (.struct fl)=>Rs P fs 0 fl.toList
     | true,some (.array n u)=>fs.length == n && P.cellsOf u == 1 && zbd P fs u
     | false,_=>fs.length == 1 && zbd P fs e
     | _,_=>false)
   | _=>false
def Rs (P:Program):List Sh→Nat→List Field→Bool
 | [],_,[]=>true
 | s :: ss,i,f :: fl=>f.offset == i && P.cellsOf f.type == 1 && Rr P s f.type && Rs P ss (i + 1) fl
 | _,_,_=>false
def zbd (P:Program):List Sh→TypeId→Bool
 | [],_=>true
 | s :: ss,u=>Rr P s u && zbd P ss u
end
section
variable {H:Type} {enc:TypeId × Value→H} {P:Program} {w:World} {base:Nat} {spare:Nat→Bool} {held:Bool}
def Got (w:World) (s:Sh) (v:Value):Prop:=∃ x,Is s x∧VRel (MS.start w) x v∧x.pure=true∧x.one=true
def GotL (w:World) (fs:List Sh) (vs:List Value):Prop:=∃ xs,IsL fs xs∧Af (MS.start w) xs vs∧Ay xs=true∧E7 xs=true
theorem z43:GotL w [] []:=⟨[],rfl,rfl,rfl,rfl⟩
theorem Xr {s:Sh} {fs:List Sh} {v:Value} {vs:List Value} (h:Got w s v) (k:GotL w fs vs):GotL w (s :: fs) (v :: vs):=by
 obtain ⟨x,h1,h2,h3,h4⟩:=h
 obtain ⟨xs,k1,k2,k3,k4⟩:=k
 exact ⟨x :: xs,⟨x,xs,rfl,h1,k1⟩,⟨v,vs,rfl,h2,k2⟩,by simp [Ay,h3,k3],by simp [E7,h4,k4]⟩
theorem z0l {a:Addr} {v:Value} (h:w.cell? a=some v):(MS.start w).im a.block:=z6s h
theorem zm8 {agg:Bool} {fs:List Sh} {a:Addr} {len cap sz:Nat} (hsz:sz=fs.length) (hpos:0 < fs.length) (hagg:agg=false→fs.length=1) (hlc:len ≤ cap) (hcap:cap ≤ maxLen)
   (h:∀ i,i < len→∃ cs',w.cells? base (a.add (i * sz)) sz=some cs'∧GotL w fs cs'):Got w (.sl agg fs) (.slice (some a) len cap):=by
 subst hsz
 have h':∀ i:Nat,∃ p:List AV × List Value,i < len→(w.cells? base (a.add (i * fs.length)) fs.length=some p.2∧IsL fs p.1∧Af (MS.start w) p.1 p.2∧Ay p.1=true∧E7 p.1=true):=by
   intro i
   by_cases hi:i < len
   · obtain ⟨cs',h1,xs,h2,h3,h4,h5⟩:=h i hi
     exact ⟨(xs,cs'),fun _=>⟨h1,h2,h3,h4,h5⟩⟩
   · exact ⟨([],[]),fun h=>absurd h hi⟩
 obtain ⟨p,hp⟩:=Classical.axiomOfChoice h'
 let E:List AV→AV:=fun cs=>if agg then .agg cs else cs.headD .any
 let V:List Value→Value:=fun cs=>if agg then .agg cs.toArray else cs.headD undef
 let xs:List AV:=(List.range len).map fun i=>E (p i).1
 let vs:List Value:=(List.range len).map fun i=>V (p i).2
 have hone:∀ i,i < len→(V (p i).2).cells.toList=(p i).2∧VRel (MS.start w) (E (p i).1) (V (p i).2)∧(E (p i).1).pure=true:=by
   intro i hi
   obtain ⟨q1,q2,q3,q4,q5⟩:=hp i hi
   have hl1:(p i).1.length=fs.length:=zbc q2
   cases agg with
   | true=>exact ⟨by simp [V,Value.cells],⟨_,rfl,q3⟩,by simp [E,AV.pure,q4]⟩
   | false =>
     have h1:=hagg rfl
     rw [h1] at hl1
     match hc:(p i).1,(p i).2,q3,q4,q5,hl1 with
     | [c],[v],⟨v',r,hv,hr,hr2⟩,q4,q5,_ =>
       cases hv
       have hno:c.one=true:=by simpa [E7] using q5
       have hcc:c.cells=[c]:=by cases c<;>first|rfl|(simp [AV.one] at hno)
       have hca:c.isAny=false:=by cases c<;>first|rfl|(simp [AV.one] at hno)
       have hcl:=VRel.cells hca hr
       rw [hcc] at hcl
       obtain ⟨u,r2,hu,hu2,hu3⟩:=hcl
       rw [show r2=[] from hu3] at hu
       have hv1:v.cells.toList=[v]:=by
         have:=one_cell hr hno
         cases v<;>first|rfl|(simp [Value.oneCell'] at this)
       exact ⟨by simpa [V] using hv1,by simpa [E,V] using hr,by simpa [E,Ay] using q4⟩
 have hxl:xs.length=len:=by simp [xs]
 have hvl:vs.length=len:=by simp [vs]
 have hxi:∀ i,i < len→xs[i]? = some (E (p i).1):=fun i hi=>by simp [xs,hi]
 have hvi:∀ i,i < len→vs[i]? = some (V (p i).2):=fun i hi=>by simp [vs,hi]
 have hvs:Af (MS.start w) xs vs:=Af.of_get (by rw [hxl,hvl]) fun i x v hx hv=>by
   have hi:i < len:=by rw [← hxl];exact (List.getElem?_eq_some_iff.1 hx).1
   rw [hxi i hi] at hx
   rw [hvi i hi] at hv
   cases hx;cases hv
   exact (hone i hi).2.1
 have hpu:Ay xs=true:=Cc.2 fun x hx=>by
   obtain ⟨i,hi,rfl⟩:=List.mem_map.1 hx
   exact (hone i (List.mem_range.1 hi)).2.2
 refine ⟨.lst fs.length xs,.inr ⟨xs,rfl,by rw [hxl];omega,fun y hy=>?_⟩,⟨hpu,hpos,some a,cap,vs,by rw [hxl],⟨by rw [hxl];exact hlc,fun hn=>by cases hn⟩,hvs,fun hne=>?_⟩,by simpa [AV.pure] using hpu,rfl⟩
 · obtain ⟨i,hi,rfl⟩:=List.mem_map.1 hy
   exact ⟨_,rfl,(hp i (List.mem_range.1 hi)).2.1⟩
 · have h0:0 < len:=by rw [← hxl];exact List.length_pos_iff.2 hne
   obtain ⟨b,o,spot⟩:=a
   have hcell:∀ i,i < len→∀ j,j < fs.length→w.cell? ((⟨b,o,spot⟩:Addr).add (i * fs.length + j))=(p i).2[j]? := fun i hi j hj=>by
     obtain ⟨_,_,hat⟩:=World.cells?_some (hp i hi).1
     rw [← hat j hj,← Go.Deep.add_add]
   have hlen2:∀ i,i < len→(p i).2.length=fs.length:=fun i hi=>(World.cells?_some (hp i hi).1).2.1
   have hc0:=hcell 0 h0 0 hpos
   rw [List.getElem?_eq_getElem (by rw [hlen2 0 h0];exact hpos)] at hc0
   have hspot:spot=none:=by simpa [Addr.add] using World.cell?_spot hc0
   subst hspot
   have hbk:∀ k:Nat,((⟨b,o,none⟩:Addr).add k).block=b:=fun k=>by unfold Addr.add;split<;>rfl
   refine ⟨b,o,rfl,by have:=z0l hc0;rwa [hbk] at this,fun i v hv=>?_⟩
   have hi:i < len:=by rw [← hvl];exact (List.getElem?_eq_some_iff.1 hv).1
   rw [hvi i hi] at hv
   cases hv
   obtain ⟨e1,_,_⟩:=hone i hi
   have e1':(V (p i).2).cells=(p i).2.toArray:=by simpa using congrArg List.toArray e1
   obtain ⟨_,q2,q3,_,q5⟩:=hp i hi
   refine ⟨by rw [e1'];simp [hlen2 i hi],fun c hc=>?_,fun j hj=>?_⟩
   · rw [e1'] at hc
     exact Oq q3 q5 c (by simpa using hc)
   · rw [e1']
     have:=hcell i hi j hj
     have ea:(⟨b,o,none⟩:Addr).add (i * fs.length + j)=⟨b,o + i * fs.length + j,none⟩:=by
       unfold Addr.add
       split
       · rename_i hz
         have:i * fs.length=0∧j=0:=by simpa using hz
         rw [this.1,this.2]
         rfl
       · simp [Nat.add_assoc]
     rw [ea] at this
     refine this.trans ?_
     simp
theorem Pb:∀ {fs:List Sh} {i:Nat} {fl:List Field},Rs P fs i fl=true→fl.length=fs.length
 | [],_,[],_=>rfl
 | [],_,_ :: _,h=>by simp [Rs] at h
 | _ :: _,_,[],h=>by simp [Rs] at h
 | s :: fs,i,f :: fl,h=>by
   simp only [Rs,Bool.and_eq_true] at h
   simp [Pb h.2]
mutual
theorem zm9:∀ (s:Sh) {t:TypeId} {fuel:Nat} {v:Value} {d:DataW H × List MemPlace},Rr P s t=true→DataW.trod enc P w base spare held fuel t [v]=some d→Got w s v
 | .bool,t,fuel,v,d,hf,h=>by
   cases fuel with
   | zero=>simp [DataW.trod] at h
   | succ n =>
     simp only [Rr] at hf
     split at hf
     · rename_i ht
       unfold DataW.trod at h
       rw [ht] at h
       cases v<;>simp at h
       rename_i b
       exact ⟨.bool b,⟨b,rfl⟩,rfl,rfl,rfl⟩
     · cases hf
 | .int k,t,fuel,v,d,hf,h=>by
   cases fuel with
   | zero=>simp [DataW.trod] at h
   | succ n =>
     simp only [Rr] at hf
     split at hf
     · rename_i k' ht
       obtain rfl:k'=k:=by simpa using hf
       unfold DataW.trod at h
       rw [ht] at h
       cases v<;>simp at h
       rename_i k2 m
       obtain ⟨⟨rfl,hw⟩,_⟩:=h
       exact ⟨.int k2 m,⟨m,rfl,hw⟩,rfl,rfl,rfl⟩
     · cases hf
 | .str,t,fuel,v,d,hf,h=>by
   cases fuel with
   | zero=>simp [DataW.trod] at h
   | succ n =>
     simp only [Rr] at hf
     split at hf
     · rename_i ht
       unfold DataW.trod at h
       rw [ht] at h
       cases v<;>simp at h
       rename_i s
       exact ⟨.str s.data.toList,⟨_,rfl,by simpa using h.1⟩,rfl,rfl,rfl⟩
     · cases hf
 | .sl agg fs,t,fuel,v,d,hf,h=>by
   simp only [Rr] at hf
   split at hf
   · rename_i e ht
     simp only [Bool.and_eq_true,beq_iff_eq,Bool.not_eq_true',List.isEmpty_eq_false_iff] at hf
     obtain ⟨⟨hsz,hne⟩,hfe⟩:=hf
     have hpos:0 < fs.length:=List.length_pos_iff.2 hne
     rcases Go.Deep.open_slice ht h with ⟨hv,_⟩|⟨a,len,cap,m,n,D,Pl,hv,hb,hl,hm,hmm,hx,hi⟩
     · cases hv
       exact ⟨.nilS,.inl rfl,rfl,rfl,rfl⟩
     · cases hv
       have hlm:len ≤ m:=by rw [hmm];split<;>omega
       have hag:agg=false→fs.length=1:=fun ha=>by
         subst ha
         simp only [Bool.and_eq_true,beq_iff_eq] at hfe
         exact hfe.1
       refine zm8 (base:=base) hsz hpos hag hl hm fun i hil=>?_
       obtain ⟨cs',hc,ht'⟩:=hi i (by omega)
       refine ⟨cs',hc,?_⟩
       have hcl:=(World.cells?_some hc).2.1
       cases agg with
       | true =>
         split at hfe
         · rename_i fl _ he
           obtain ⟨ys,n',_,_,_,hlen,hg⟩:=DataW.trod_struct he ht'
           have hfl:=Pb hfe
           exact zma fs (fl:=fl.toList) (i:=0) (cs:=cs') hfe (by rw [hcl,hsz];omega) fun j f hj=>by
             have:=hg j f (by simpa using hj)
             have hj2:j < ys.length:=by rw [hlen];have:=(List.getElem?_eq_some_iff.1 hj).1;simpa using this
             rw [List.getElem?_eq_getElem hj2] at this
             exact ⟨n',_,this,rfl⟩
         · rename_i n2 u _ he
           simp only [Bool.and_eq_true,beq_iff_eq] at hfe
           obtain ⟨⟨hn,hu⟩,hfa⟩:=hfe
           obtain ⟨ys,n',_,_,hlen,hyl,hg⟩:=DataW.trod_array he ht'
           refine zmb fs (u:=u) (cs:=cs') (i:=0) hfa (by omega) fun j hj=>?_
           have h1:=hg j (by omega)
           rw [hu,Nat.mul_one] at h1
           have h2:ys[j]? = some (ys[j]'(by omega)):=List.getElem?_eq_getElem (by omega)
           rw [h2] at h1
           exact ⟨n',_,by rw [Nat.zero_add];exact h1⟩
         · rename_i hh;cases hh
         · cases hfe
       | false =>
         simp only [Bool.and_eq_true,beq_iff_eq] at hfe
         refine zmb fs (u:=e) (cs:=cs') (i:=0) hfe.2 (by omega) fun j hj=>?_
         obtain rfl:j=0:=by omega
         exact ⟨n,_,by rw [List.drop_zero,List.take_of_length_le (by omega)];exact ht'⟩
   · cases hf
theorem zma:∀ (fs:List Sh) {fl:List Field} {i:Nat} {cs:List Value},Rs P fs i fl=true→cs.length=i + fs.length →
   (∀ (j:Nat) (f:Field),fl[j]? = some f→∃ n y,DataW.trod enc P w base spare held n f.type ((cs.drop f.offset).take (P.cellsOf f.type))=y∧y.isSome=true)→GotL w fs (cs.drop i)
 | [],fl,i,cs,hf,hl,h=>by
   rw [List.drop_of_length_le (by rw [hl];simp)]
   exact z43
 | s :: fs,fl,i,cs,hf,hl,h=>by
   cases fl with
   | nil=>simp [Rs] at hf
   | cons f fl =>
     simp only [Rs,Bool.and_eq_true,beq_iff_eq] at hf
     obtain ⟨⟨⟨ho,hc⟩,hs⟩,hr⟩:=hf
     have hi:i < cs.length:=by rw [hl];simp
     rw [List.drop_eq_getElem_cons hi]
     obtain ⟨n,y,h1,h2⟩:=h 0 f rfl
     obtain ⟨d,rfl⟩:=Option.isSome_iff_exists.1 h2
     rw [ho,hc,List.drop_eq_getElem_cons hi,List.take_succ_cons,List.take_zero] at h1
     refine Xr (zm9 s hs h1) (zma fs hr (by rw [hl];simp;omega) fun j g hj=>h (j + 1) g (by simpa using hj))
theorem zmb:∀ (fs:List Sh) {u:TypeId} {i:Nat} {cs:List Value},zbd P fs u=true→cs.length=i + fs.length →
   (∀ j,j < fs.length→∃ n d,DataW.trod enc P w base spare held n u ((cs.drop (i + j)).take 1)=some d)→GotL w fs (cs.drop i)
 | [],u,i,cs,hf,hl,h=>by
   rw [List.drop_of_length_le (by rw [hl];simp)]
   exact z43
 | s :: fs,u,i,cs,hf,hl,h=>by
   simp only [zbd,Bool.and_eq_true] at hf
   have hi:i < cs.length:=by rw [hl];simp
   rw [List.drop_eq_getElem_cons hi]
   obtain ⟨n,d,h1⟩:=h 0 (by simp)
   rw [Nat.add_zero,List.drop_eq_getElem_cons hi,List.take_succ_cons,List.take_zero] at h1
   refine Xr (zm9 s hf.1 h1) (zmb fs hf.2 (by rw [hl];simp;omega) fun j hj=>?_)
   have:=h (j + 1) (by simp;omega)
   rwa [show i + (j + 1)=i + 1 + j by omega] at this
end
end
open Go.RowKit Go.ChangeShapes Go.WideShapes
inductive PSh where
 | cell (s:Sh)
 | rcd (fs:List Sh)
def IsP:PSh→AV→Prop
 | .cell s,x=>Is s x
 | .rcd fs,x=>∃ cs,x=.agg cs∧IsL fs cs
def IsPs:List PSh→List AV→Prop
 | [],xs=>xs=[]
 | p :: ps,xs=>∃ x r,xs=x :: r∧IsP p x∧IsPs ps r
def zmc (P:Program):PSh→TypeId→Bool
 | .cell s,t=>Rr P s t
 | .rcd fs,t=>match P.underlying t with
   | some (.struct fl)=>P.cellsOf t == fs.length && Rs P fs 0 fl.toList
   | _=>false
def Sr (P:Program):List PSh→List TypeId→Bool
 | [],[]=>true
 | p :: ps,t :: ts=>zmc P p t && Sr P ps ts
 | _,_=>false
section
variable {H:Type} {enc:TypeId × Value→H} {P:Program} {w:World} {spare:Nat→Bool} {held:Bool}
theorem z0m {s:Sh} {t:TypeId} {r:Reach} {b0:Nat} {v:Value} (hf:Rr P s t=true) (h:Value.okWide P w r b0 t v):v.cells.toList=[v]:=by
 cases s<;>simp only [Rr] at hf<;>split at hf<;>first|(cases hf;done)|skip
 · obtain ⟨b,rfl⟩:=okWide_bool ‹_› h;rfl
 · obtain ⟨b,rfl⟩:=okWide_int ‹_› h;rfl
 · obtain ⟨b,rfl⟩:=okWide_string ‹_› h;rfl
 · obtain ⟨a,l,c,rfl⟩:=okWide_slice ‹_› h;rfl
theorem zmd {p:PSh} {t:TypeId} {r:Reach} {b0:Nat} {v:Value} {d:DataW H} {ps:List MemPlace} (hf:zmc P p t=true) (hw:Value.okWide P w r b0 t v) (h:DataW.Trod enc P w 0 spare held t v d ps):∃ x,IsP p x∧VRel (MS.start w) x v:=by
 obtain ⟨fuel,h⟩:=h
 cases p with
 | cell s =>
   rw [z0m hf hw] at h
   obtain ⟨x,h1,h2,_⟩:=zm9 s hf h
   exact ⟨x,h1,h2⟩
 | rcd fs =>
   simp only [zmc] at hf
   split at hf
   · rename_i fl ht
     simp only [Bool.and_eq_true,beq_iff_eq] at hf
     obtain ⟨cs,rfl,hc⟩:=okWide_struct ht hw
     obtain ⟨ys,n',_,_,_,hlen,hg⟩:=DataW.trod_struct ht h
     have hfl:=Pb hf.2
     obtain ⟨xs,h1,h2,_⟩:=zma fs (fl:=fl.toList) (i:=0) (cs:=cs.toList) hf.2 (by simp;omega) fun j f hj=>by
       have:=hg j f (by simpa using hj)
       have hj2:j < ys.length:=by rw [hlen];have:=(List.getElem?_eq_some_iff.1 hj).1;simpa using this
       rw [List.getElem?_eq_getElem hj2] at this
       exact ⟨n',_,this,rfl⟩
     exact ⟨.agg xs,⟨xs,rfl,h1⟩,cs.toList,by simp,by simpa using h2⟩
   · cases hf
theorem z44:∀ {ps:List PSh} {ts:List TypeId} {vs:List Value} {ds:List (DataW H)} {q:List MemPlace} {r:Reach} {b0:Nat},Sr P ps ts=true→(∀ (j:Nat) t v,ts[j]? = some t→vs[j]? = some v→Value.okWide P w r b0 t v) →
   DataW.TrodAll enc P w 0 spare held ts vs ds q→∃ xs,IsPs ps xs∧Af (MS.start w) xs vs
 | [],[],[],[],_,_,_,_,_,_=>⟨[],rfl,rfl⟩
 | p :: ps,t :: ts,v :: vs,d :: ds,_,_,_,hf,hw,⟨a,b,h1,h2,_⟩=>by
   simp only [Sr,Bool.and_eq_true] at hf
   obtain ⟨x,k1,k2⟩:=zmd hf.1 (hw 0 t v rfl rfl) h1
   obtain ⟨xs,k3,k4⟩:=z44 hf.2 (fun j t v ht hv=>hw (j + 1) t v (by simpa using ht) (by simpa using hv)) h2
   exact ⟨x :: xs,⟨x,xs,rfl,k1,k3⟩,v,vs,rfl,k2,k4⟩
 | [],_ :: _,_,_,_,_,_,hf,_,_=>by simp [Sr] at hf
 | _ :: _,[],_,_,_,_,_,hf,_,_=>by simp [Sr] at hf
 | [],[],_ :: _,_,_,_,_,_,_,h=>h.elim
 | [],[],[],_ :: _,_,_,_,_,_,h=>h.elim
 | _ :: _,_ :: _,[],_,_,_,_,_,_,h=>by cases ‹List (DataW H)›<;>exact h.elim
 | _ :: _,_ :: _,_ :: _,[],_,_,_,_,_,h=>h.elim
def zbe (P:Program) (ts:List TypeId):Bool:=ts.all fun t=>P.readableRec t && decide (t < P.types.size)
theorem Xs {W W':World} (hl:laidOutB P=true) (hb:Below W.heap.size W W'):∀ {ts:List TypeId} {vs:List Value} {ds:List (DataW H)} {ps:List MemPlace},zbe P ts=true→(∀ x ∈ ps,x.block < W.heap.size) →
   DataW.TrodAll enc P W 0 (fun _=>true) true ts vs ds ps→DataW.TrodAll enc P W' 0 (fun b=>decide (b < W.heap.size)) true ts vs ds ps
 | [],[],[],_,_,_,h=>h
 | t :: ts,v :: vs,d :: ds,_,hr,hlt,⟨a,b,h1,h2,e⟩=>by
   subst e
   simp only [zbe,List.all_cons,Bool.and_eq_true,decide_eq_true_eq] at hr
   exact ⟨a,b,Below.trod hl hr.1.1 hr.1.2 h1 hb (fun x hx=>hlt x (List.mem_append_left _ hx)),Xs hl hb (by simpa [zbe] using hr.2) (fun x hx=>hlt x (List.mem_append_right _ hx)) h2,rfl⟩
 | [],[],_ :: _,_,_,_,h=>h.elim
 | [],_ :: _,_,_,_,_,h=>by cases ‹List (DataW H)›<;>exact h.elim
 | _ :: _,[],_,_,_,_,h=>by cases ‹List (DataW H)›<;>exact h.elim
 | _ :: _,_ :: _,[],_,_,_,h=>h.elim
theorem zbf {f:Nat} {ps:List PSh} {ts:List TypeId} (hf:Sr P ps ts=true) (h:∀ xs,IsPs ps xs→PC P f xs (.bool true)) {args:Array Value} {ds:List (DataW H)} {q:List MemPlace} {r:Reach} {b0:Nat}
   (hw:∀ (j:Nat) t v,ts[j]? = some t→args.toList[j]? = some v→Value.okWide P w r b0 t v) (hA:DataW.TrodAll enc P w 0 spare held ts args.toList ds q) :
   Calls P f args w fun e w'=>e=.returned (.bool true)∧Below w.heap.size w w':=by
 obtain ⟨xs,h1,h2⟩:=z44 hf hw hA
 have:=(h xs h1).below h2
 simpa using this
end
mutual
def valOf:AV→Value
 | .int k a=>.int k a
 | .bool b=>.bool b
 | .agg xs=>.agg (zis xs).toArray
 | _=>undef
def zis:List AV→List Value
 | []=>[]
 | x :: xs=>valOf x :: zis xs
end
def Flat (x:AV):Prop:=∀ S:MS,VRel S x (valOf x)
abbrev encI (r:List AV):Array Value:=(r.map valOf).toArray
def Clo (J:Nat→(Nat→Prop)→World→Prop):Prop :=
 ∀ k O W W',J k O W→W'.os=W.os→W'.tape=W.tape→W'.output=W.output→W.heap.size ≤ W'.heap.size →
   (∀ b,b < W.heap.size→¬ O b→W'.heap[b]? = W.heap[b]?)→J k (fun b=>O b ∨ (W.heap.size ≤ b∧b < W'.heap.size)) W'
def z47 (P:Program) (gf:Nat) (caps:List AV) (rows:List (List AV)):Prop :=
 Enters P gf∧∀ (m l:Nat) (S:MS) (lb:List Value) (J Jx:Nat→(Nat→Prop)→World→Prop),
   SRel S Ac.nil→Af S caps lb→Clo J→Clo Jx→J 0 (fun _=>False) S.w →
   (∀ k O W,J k O W ∨ Jx k O W→(∀ b,S.im b→¬ O b∧W.heap[b]? = S.w.heap[b]?)∧(W.os=S.w.os∧W.tape=S.w.tape∧W.output=S.w.output)∧S.w.heap.size ≤ W.heap.size∧∀ b,O b→S.w.heap.size ≤ b∧b < W.heap.size) →
   (∀ k row O W,rows[k]? = some row→J k O W→YieldAt Fence.wide m P l (encI row) W fun e W'=>W.heap.size ≤ W'.heap.size∧(∀ b,O b→W'.heap[b]? = W.heap[b]?)∧(e=.returned (.bool true)∧J (k + 1) O W' ∨ e=.returned (.bool false)∧Jx (k + 1) O W')) →
   CallsIn Fence.wide (m + 1) P gf (#[.func (.yield l) #[] #[]] ++ lb.toArray) S.w fun e W'=>(∃ v,e=.returned v)∧((∃ O,J rows.length O W') ∨ ∃ k O,Jx k O W')
def setL:Env→List Nat→List AV→Env
 | env,p :: ps,x :: r=>setL (env.put (some p) x) ps r
 | env,_,_=>env
section
variable {P:Program} {n b:Nat} {env:Env} {H:Ac} {Q:Ex→Env→Ac→Prop}
theorem SRel.turn2 {S S':MS} {H:Ac} (h:SRel S H) (hw:∀ b,S.im b→S'.w.heap[b]? = S.w.heap[b]?) (hi:S'.im=S.im) (hn:S'.n=S.n) (hc:S'.cur=S.cur) (hp:S'.place=S.place) (hcap:S'.cap=S.cap) (hwid:S'.wid=S.wid)
   (hk:∀ b,S'.keep b→S.keep b ∨ S.w.heap.size ≤ b) (hkb:∀ b,S'.keep b→b < S'.w.heap.size) (hg:∀ b,¬ (S.im b ∨ S.keep b)→b < S.w.heap.size→S'.w.heap[b]? = S.w.heap[b]?) (hsz:S.w.heap.size ≤ S'.w.heap.size):SRel S' H:=by
 have ev:=Evi.of hw hi hn hc hp hcap hwid
 refine ⟨hn.trans h.n,fun g hgn=>?_,fun g g' h1 h2 h3 h4 h5=>?_,fun b hb=>?_⟩
 · have hG:=h.grp g hgn
   have hni:¬ (S.im (S.place g) ∨ S.keep (S.place g))→S.place g < S.w.heap.size→¬ (S'.im (S'.place g) ∨ S'.keep (S'.place g)):=fun hn hlt hh=>by
     rw [hi,hp] at hh
     rcases hh with hh|hh
     · exact hn (.inl hh)
     · rcases hk _ hh with hh|hh
       · exact hn (.inr hh)
       · omega
   refine ⟨by rw [hc];exact hG.ver,by rw [hwid];exact hG.wid,fun hw0 hc0=>?_,fun hw0=>by rw [hcap];exact hG.len hw0,fun hw0 he=>by rw [hcap];exact hG.full hw0 he,fun hw0 he=>?_⟩
   · rw [hcap] at hc0 ⊢
     obtain ⟨⟨cells,T,vs,a1,a2,a3,a4⟩,a5⟩:=hG.live hw0 hc0
     exact ⟨⟨cells,T,vs,by rw [hp,hg _ a5 (hG.lt hw0 hc0)];exact a1,a2,Af.moni ev _ a3,a4⟩,hni a5 (hG.lt hw0 hc0)⟩
   · obtain ⟨⟨es,clock,a1,a2⟩,a5⟩:=hG.mlive hw0 he
     exact ⟨⟨es,clock,by rw [hp,hg _ a5 (hG.mlt hw0 he)];exact a1,Af.moni ev _ a2⟩,hni a5 (hG.mlt hw0 he)⟩
 · rw [hp]
   rw [hcap] at h4 h5
   exact h.apart g g' h1 h2 h3 h4 h5
 · rcases hb with hb|hb
   · rw [hi] at hb;exact Nat.lt_of_lt_of_le (h.im b (.inl hb)) hsz
   · exact hkb b hb
theorem z48 {S:MS} {ds:List Deferred} (hd:Marks S ds):∀ {ps:List Nat} {row:List AV} {env:Env} {tmps:Array Value} {ds':List Deferred},FRel S n env { tmps:=tmps,defers:=ds' }→(∀ p ∈ ps,p < n)→(∀ x ∈ row,Flat x) →
   FRel S n (setL env ps row) { tmps:=(ps.zip (row.map valOf)).foldl (fun t (p,v)=>t.setIfInBounds p v) tmps,defers:=ds }
 | [],row,env,tmps,_,hF,_,_=>by
   rw [show setL env [] row=env from by cases row<;>rfl]
   exact ⟨hF.size,hd,hF.val⟩
 | p :: ps,[],env,tmps,_,hF,_,_=>⟨hF.size,hd,hF.val⟩
 | p :: ps,x :: row,env,tmps,ds',hF,hp,hx=>by
   have:=hF.put (dst:=some p) (by simpa using hp p (by simp)) (x:=x) (v:=valOf x) (hx x (by simp) S)
   exact z48 hd (ps:=ps) (row:=row) this (fun q hq=>hp q (by simp [hq])) (fun y hy=>hx y (by simp [hy]))
def codeOf:Ex→Code
 | .normal=>.skip
 | .exit id=>.exit id
 | .ret=>.ret
structure Lo (S:MS) (rec:LoopState→Option Code→Loop) (W1:Nat) (st:LoopState) (pe:Option Code) (O:Nat→Prop) (S':MS) (H':Ac):Prop where
 evo:Evo S S'
 rel:SRel S' H'
 own:∀ b,O b→S'.keep b∧¬ S'.im b∧W1 ≤ b∧b < S'.w.heap.size
 size:W1 ≤ S'.w.heap.size
 loop:S'.w.heap[S.w.heap.size + 1]? = some (.loop (rec st pe))
 defd:S'.w.heap[S.w.heap.size]? = some (.deferred (some []))
 k1:S'.keep S.w.heap.size∧¬ S'.im S.w.heap.size
 k2:S'.keep (S.w.heap.size + 1)∧¬ S'.im (S.w.heap.size + 1)
theorem Lo.clo {S S':MS} {rec:LoopState→Option Code→Loop} {st:LoopState} {pe:Option Code} {O:Nat→Prop} {H':Ac} (hS:∀ b,S.im b ∨ S.keep b→b < S.w.heap.size) (h:Lo S rec (S.w.heap.size + 2) st pe O S' H') {W':World}
   (h1:W'.os=S'.w.os) (h2:W'.tape=S'.w.tape) (h3:W'.output=S'.w.output) (h4:S'.w.heap.size ≤ W'.heap.size) (h5:∀ b,b < S'.w.heap.size→¬ O b→W'.heap[b]? = S'.w.heap[b]?) :
   ∃ S'':MS,S''.w=W'∧Lo S rec (S.w.heap.size + 2) st pe (fun b=>O b ∨ (S'.w.heap.size ≤ b∧b < W'.heap.size)) S'' H':=by
 obtain ⟨S'',hd⟩:∃ S'':MS,S''={ S' with w:=W',keep:=fun b=>S'.keep b ∨ (S'.w.heap.size ≤ b∧b < W'.heap.size) }:=⟨_,rfl⟩
 have him:∀ b,S'.im b→b < S'.w.heap.size:=fun b hb=>h.rel.im b (.inl hb)
 have hio:∀ b,S'.im b→¬ O b:=fun b hb ho=>(h.own b ho).2.1 hb
 have hlt:∀ b,S.im b ∨ S.keep b→¬ O b:=fun b hb ho=>by have:=(h.own b ho).2.2.1;have:=hS b hb;omega
 have hsz:=h.size
 refine ⟨S'',by rw [hd],?_⟩
 have hrel:SRel S'' H':=by
   subst hd
   exact h.rel.turn2 (fun b hb=>h5 b (him b hb) (hio b hb)) rfl rfl rfl rfl rfl rfl (fun b hb=>hb.imp id And.left) (fun b hb=>hb.elim (fun hh=>Nat.lt_of_lt_of_le (h.rel.im b (.inr hh)) h4) And.right)
     (fun b hb hl=>h5 b hl (fun ho=>hb (.inr (h.own b ho).1))) h4
 have hevo:Evo S S'':=by
   have e:=h.evo
   subst hd
   refine ⟨e.base,h1.trans e.os,h2.trans e.tape,h3.trans e.output,Nat.le_trans e.size h4,fun b hb=>?_,e.im,fun b hb=>.inl (e.keep b hb),e.fresh,e.n,e.cur,e.same⟩
   exact (h5 b (Nat.lt_of_lt_of_le (hS b hb) e.size) (hlt b hb)).trans (e.kept b hb)
 have hw:S''.w=W':=by rw [hd]
 have hkeep:S''.keep=fun b=>S'.keep b ∨ (S'.w.heap.size ≤ b∧b < W'.heap.size):=by rw [hd]
 have himm:S''.im=S'.im:=by rw [hd]
 have hnO:∀ b,b < S.w.heap.size + 2→¬ O b:=fun b hb ho=>by have:=(h.own b ho).2.2.1;omega
 refine ⟨hevo,hrel,fun b hb=>?_,by rw [hw];omega,?_,?_,?_,?_⟩
 · rw [hkeep,himm,hw]
   rcases hb with hb|⟨hb1,hb2⟩
   · obtain ⟨q1,q2,q3,q4⟩:=h.own b hb
     exact ⟨.inl q1,q2,q3,by omega⟩
   · exact ⟨.inr ⟨hb1,hb2⟩,fun hi=>by have:=him b hi;omega,by omega,hb2⟩
 · rw [hw,h5 _ (by omega) (hnO _ (by omega))];exact h.loop
 · rw [hw,h5 _ (by omega) (hnO _ (by omega))];exact h.defd
 · rw [hkeep,himm];exact ⟨.inl h.k1.1,h.k1.2⟩
 · rw [hkeep,himm];exact ⟨.inl h.k2.1,h.k2.2⟩
theorem Lo.turn {S S':MS} {rec:LoopState→Option Code→Loop} {st:LoopState} {pe:Option Code} {O:Nat→Prop} {H':Ac} (hS:∀ b,S.im b ∨ S.keep b→b < S.w.heap.size) (h:Lo S rec (S.w.heap.size + 2) st pe O S' H') (st':LoopState) (pe':Option Code) :
   ∃ S'':MS,S''.w=S'.w.putObj (S.w.heap.size + 1) (.loop (rec st' pe'))∧Lo S rec (S.w.heap.size + 2) st' pe' O S'' H'∧Evi S' S''∧S''.n=S'.n∧S''.base=S'.base∧S''.keep=S'.keep∧S''.im=S'.im:=by
 obtain ⟨S'',hd⟩:∃ S'':MS,S''={ S' with w:=S'.w.putObj (S.w.heap.size + 1) (.loop (rec st' pe')) }:=⟨_,rfl⟩
 have hne:∀ b,S'.im b→b ≠ S.w.heap.size + 1:=fun b hb hh=>h.k2.2 (hh ▸ hb)
 have hsz:=h.size
 have hw:S''.w=S'.w.putObj (S.w.heap.size + 1) (.loop (rec st' pe')):=by rw [hd]
 refine ⟨S'',hw,⟨?_,?_,fun b hb=>?_,by rw [hw,World.putObj_size];exact hsz,?_,?_,?_,?_⟩,?_,by rw [hd],by rw [hd],by rw [hd],by rw [hd]⟩
 · have e:=h.evo
   subst hd
   refine ⟨e.base,e.os,e.tape,e.output,by show _ ≤ (World.putObj _ _ _).heap.size;rw [World.putObj_size];exact e.size,fun b hb=>?_,e.im,e.keep,e.fresh,e.n,e.cur,e.same⟩
   show (World.putObj _ _ _).heap[b]? = _
   rw [World.putObj_heap_other (by have:=hS b hb;omega)]
   exact e.kept b hb
 · subst hd
   refine h.rel.turn (fun b hb=>World.putObj_heap_other (hne b hb)) rfl rfl rfl rfl rfl rfl (fun _ h=>h) (fun b hb _=>World.putObj_heap_other fun hh=>hb (.inr (hh ▸ h.k2.1))) (by show _ ≤ (World.putObj _ _ _).heap.size;rw [World.putObj_size];exact Nat.le_refl _)
 · obtain ⟨q1,q2,q3,q4⟩:=h.own b hb
   rw [hd]
   exact ⟨q1,q2,q3,by show _ < (World.putObj _ _ _).heap.size;rw [World.putObj_size];exact q4⟩
 · rw [hw];exact World.putObj_heap_same (by omega)
 · rw [hw,World.putObj_heap_other (by omega)];exact h.defd
 · rw [hd];exact h.k1
 · rw [hd];exact h.k2
 · subst hd
   exact Evi.of (fun b hb=>World.putObj_heap_other (hne b hb)) rfl rfl rfl rfl rfl rfl
theorem Lo.on {S S' S2:MS} {rec:LoopState→Option Code→Loop} {W1:Nat} {st:LoopState} {pe:Option Code} {O:Nat→Prop} {H' H2:Ac} (h:Lo S rec W1 st pe O S' H') (e:BEvo S.n S' S2) (hr:SRel S2 H2):Lo S rec W1 st pe O S2 H2∧∀ b,O b→S2.w.heap[b]? = S'.w.heap[b]? := by
 have hk:∀ b,S'.keep b→¬ S'.im b→S2.keep b∧¬ S2.im b∧S2.w.heap[b]? = S'.w.heap[b]? := fun b h1 h2=>⟨e.keep b h1,fun hi=>(e.fresh b hi).elim h2 (fun hh=>hh h1),e.kept b (.inr h1)⟩
 refine ⟨⟨((h.evo.down (Nat.le_refl _)).trans e).up,hr,fun b hb=>?_,Nat.le_trans h.size e.size,?_,?_,?_,?_⟩,fun b hb=>?_⟩
 · obtain ⟨q1,q2,q3,q4⟩:=h.own b hb
   obtain ⟨r1,r2,_⟩:=hk b q1 q2
   exact ⟨r1,r2,q3,Nat.lt_of_lt_of_le q4 e.size⟩
 · rw [(hk _ h.k2.1 h.k2.2).2.2];exact h.loop
 · rw [(hk _ h.k1.1 h.k1.2).2.2];exact h.defd
 · obtain ⟨r1,r2,_⟩:=hk _ h.k1.1 h.k1.2;exact ⟨r1,r2⟩
 · obtain ⟨r1,r2,_⟩:=hk _ h.k2.1 h.k2.2;exact ⟨r1,r2⟩
 · obtain ⟨q1,q2,_,_⟩:=h.own b hb
   exact (hk b q1 q2).2.2
theorem T_rng {f:AArg} {ps:List Nat} {asg body:AC} {gf:Nat} {caps:List AV} (hf:f.eval env=.fn gf caps) (hpure:Ay caps=true) (hfr1:asg.free=true) (hfr2:body.free=true) {rows:List (List AV)} (hit:z47 P gf caps rows) (hfl:∀ r ∈ rows,∀ x ∈ r,Flat x)
   (hps:∀ r ∈ rows,r.length=ps.length) (hpn:∀ p ∈ ps,p < n) (Inv:Nat→Ac→Prop) (Qx:Ex→Ac→Prop) (h0:Inv 0 H) (hn:∀ k H',Inv k H'→H'.n=H.n) (hnx:∀ x H',Qx x H'→H'.n=H.n)
   (round:∀ k row H1,rows[k]? = some row→Inv k H1→T P n H.n asg (setL env ps row) H1 (fun x env1 H2=>x=.normal∧T P n H.n body env1 H2 (fun x _ H3=>(x=.normal∧Inv (k + 1) H3) ∨ (x ≠ .normal∧Qx x H3))))
   (done:∀ H1,Inv rows.length H1→Q .normal env H1) (out:∀ x H1,Qx x H1→Q x env H1):T P n b (.rng f ps asg body) env H Q:=T_of fun rd mm hrd code hc hs S a hb hS hF=>by
 obtain rfl:rd=none:=by
   rcases hrd with h|h
   · cases h
   · exact h
 cases code<;>simp only [C6,reduceCtorEq,Option.some.injEq] at hc
 case rangeFunc g pps asgc bodyc =>
   split at hc
   · rename_i z x y hz hx hy
     cases hc
     have hSim:=hS.im
     have hv:=Up hF hz
     rw [hf] at hv
     obtain ⟨lb,hgv,hlb⟩:=hv
     obtain ⟨hent,hit⟩:=hit
     have hFn:S.n=H.n:=hS.n
     refine wpIn_rangeFunc (F:=fen none) fun fn _=>?_
     obtain ⟨rec,hrec⟩:∃ rec:LoopState→Option Code→Loop,rec=fun st pe=>{ state:=st,pending:=pe,fn,tmps:=a.tmps,params:=pps,assign:=asgc,body:=bodyc,defers:=S.w.heap.size }:=⟨_,rfl⟩
     obtain ⟨W1,hW1⟩:∃ W1,(S.w.alloc (.deferred (some []))).alloc (.loop (rec .ready none))=W1:=⟨_,rfl⟩
     have hW1s:W1.heap.size=S.w.heap.size + 2:=by rw [← hW1,size_alloc,size_alloc]
     have hW1o:∀ b,b < S.w.heap.size→W1.heap[b]? = S.w.heap[b]? := fun b hb=>by
       rw [← hW1,heap_alloc_lt _ _ _ (by rw [size_alloc];omega),heap_alloc_lt _ _ _ hb]
     have hL1:W1.heap[S.w.heap.size + 1]? = some (.loop (rec .ready none)):=by
       rw [← hW1];have:=heap_alloc_new (S.w.alloc (.deferred (some []))) (.loop (rec .ready none));rwa [size_alloc] at this
     have hK1:W1.heap[S.w.heap.size]? = some (.deferred (some [])):=by
       rw [← hW1,heap_alloc_lt _ _ _ (by rw [size_alloc];omega)];exact heap_alloc_new _ _
     -- the state at the loop's beginning
     obtain ⟨S1,hS1d⟩:∃ S1:MS,S1={ S with w:=W1,keep:=fun b=>S.keep b ∨ b=S.w.heap.size ∨ b=S.w.heap.size + 1 }:=⟨_,rfl⟩
     have hw1:S1.w=W1:=by rw [hS1d]
     have hlo:Lo S rec (S.w.heap.size + 2) .ready none (fun _=>False) S1 H:=by
       refine ⟨?_,?_,fun b hb=>hb.elim,by rw [hw1,hW1s];exact Nat.le_refl _,by rw [hw1];exact hL1,by rw [hw1];exact hK1,?_,?_⟩
       · subst hS1d hW1
         exact ⟨rfl,rfl,rfl,rfl,by rw [hW1s];omega,fun b hb=>hW1o b (hSim b hb),fun _ h=>h,fun _ h=>.inl h,fun _ h=>.inl h,Nat.le_refl _,fun _ _=>Nat.le_refl _,fun _ _ _=>⟨rfl,rfl,rfl⟩⟩
       · subst hS1d
         exact hS.turn2 (fun b hb=>hW1o b (hSim b (.inl hb))) rfl rfl rfl rfl rfl rfl (fun b hb=>hb.imp id (fun h=>by omega)) (fun b hb=>by
           show b < W1.heap.size
           rw [hW1s]
           rcases hb with hb|hb
           · have:=hSim b (.inr hb);omega
           · omega) (fun b _ hl=>hW1o b hl) (by show _ ≤ W1.heap.size;rw [hW1s];omega)
       · rw [hS1d];exact ⟨.inr (.inl rfl),fun hi=>by have:=hSim _ (.inl hi);omega⟩
       · rw [hS1d];exact ⟨.inr (.inr rfl),fun hi=>by have:=hSim _ (.inl hi);omega⟩
     obtain ⟨Sit,hSid⟩:∃ Sit:MS,Sit={ S1 with n:=0,keep:=fun _=>False }:=⟨_,rfl⟩
     have hSit:SRel Sit Ac.nil:=by
       subst hSid
       exact ⟨rfl,fun g hg=>absurd hg (Nat.not_lt_zero _),fun g _ hg=>absurd hg (Nat.not_lt_zero _),fun b hb=>hlo.rel.im b (hb.imp id False.elim)⟩
     have hlb':Af Sit caps lb:=by
       have:=Af.mono hlo.evo _ hlb
       subst hSid
       exact Af.of_pure (S:=S1) (S':={ S1 with n:=0,keep:=fun _=>False }) rfl (fun _ h=>h) hpure this
     have hwit:Sit.w=W1:=by rw [hSid];exact hw1
     have himit:Sit.im=S.im:=by rw [hSid,hS1d]
     refine ⟨S.w.heap.size + 1,[mark S.w.heap.size],W1,{ target:=.fn (.func gf) lb.toArray,args:=#[.func (.yield (S.w.heap.size + 1)) #[] #[]] },W1,gf,#[.func (.yield (S.w.heap.size + 1)) #[] #[]] ++ lb.toArray,W1,?_,?_,fun _ _=>trivial,?_,fun h=>(by cases h),?_⟩
     · rw [← hW1,hrec];exact run_enterLoop_outer _ _ _ _ _
     · simp only [rangeCall,resolve,hgv]
       simp [go_sem,Act.eval]
     · simpa [invoke,go_sem] using hent (Value.func (.yield (S.w.heap.size + 1)) #[] #[] :: lb).toArray W1
     -- the iterator
     have hcall:=hit (mm + 1) (S.w.heap.size + 1) Sit lb
       (fun k O W=>∃ S' H',S'.w=W∧Lo S rec (S.w.heap.size + 2) .ready none O S' H'∧Inv k H')
       (fun k O W=>∃ x S' H',S'.w=W∧Lo S rec (S.w.heap.size + 2) .done (some (codeOf x)) O S' H'∧x ≠ .normal∧Qx x H')
       hSit hlb'
       (fun k O W W' ⟨S',H',hw,hl,hi⟩ h1 h2 h3 h4 h5=>by
         subst hw
         obtain ⟨S'',hw',hl'⟩:=hl.clo hSim h1 h2 h3 h4 h5
         exact ⟨S'',H',hw',hl',hi⟩)
       (fun k O W W' ⟨x,S',H',hw,hl,hi⟩ h1 h2 h3 h4 h5=>by
         subst hw
         obtain ⟨S'',hw',hl'⟩:=hl.clo hSim h1 h2 h3 h4 h5
         exact ⟨x,S'',H',hw',hl',hi⟩)
       ⟨S1,H,by rw [hwit,hw1],hlo,h0⟩
       (fun k O W hJ=>by
         have hW1e:W1.os=S.w.os∧W1.tape=S.w.tape∧W1.output=S.w.output:=by rw [← hW1];exact ⟨rfl,rfl,rfl⟩
         have key:∀ {st:LoopState} {pe:Option Code} {S':MS} {H':Ac},Lo S rec (S.w.heap.size + 2) st pe O S' H'→(∀ b,Sit.im b→¬ O b∧S'.w.heap[b]? = Sit.w.heap[b]?)∧(S'.w.os=Sit.w.os∧S'.w.tape=Sit.w.tape∧S'.w.output=Sit.w.output)∧Sit.w.heap.size ≤ S'.w.heap.size∧∀ b,O b→Sit.w.heap.size ≤ b∧b < S'.w.heap.size:=fun hl=>by
           refine ⟨fun b hb=>?_,by rw [hwit,hW1e.1,hW1e.2.1,hW1e.2.2];exact ⟨hl.evo.os,hl.evo.tape,hl.evo.output⟩,by rw [hwit,hW1s];exact hl.size,fun b hb=>?_⟩
           · rw [himit] at hb
             refine ⟨fun ho=>by have:=(hl.own b ho).2.2.1;have:=hSim b (.inl hb);omega,?_⟩
             rw [hwit,hW1o b (hSim b (.inl hb))]
             exact hl.evo.kept b (.inl hb)
           · obtain ⟨_,_,q3,q4⟩:=hl.own b hb
             rw [hwit,hW1s]
             exact ⟨q3,q4⟩
         rcases hJ with ⟨S',H',hw,hl,_⟩|⟨x,S',H',hw,hl,_,_⟩
         · subst hw;exact key hl
         · subst hw;exact key hl)
       (fun k row O W hrow ⟨S',H',hw,hl,hi⟩=>by
         subst hw
         have hlen:(encI row).size=(rec .ready none).params.size:=by
           rw [hrec]
           have:=hps row (List.mem_of_getElem? hrow)
           simp [this]
         refine ⟨_,_,_,_,run_yield hl.loop hlen,?_⟩
         have hrf:rec .ready none={ state:=.ready,pending:=none,fn,tmps:=a.tmps,params:=pps,assign:=asgc,body:=bodyc,defers:=S.w.heap.size }:=by rw [hrec]
         rw [hrf]
         refine roundIn_of_wpIn (F:=Fence.wide) trivial ?_
         have hF':FRel S' n env a:=hF.mono hl.evo
         have hFr:=z48 (n:=n) (Marks.nil hF'.defers.1) (ps:=pps.toList) (row:=row) (env:=env) (tmps:=a.tmps) (ds':=a.defers) hF' hpn (hfl row (List.mem_of_getElem? hrow))
         have hTa':=(round k row H' hrow hi) (some (S.w.heap.size + 1)) (mm + 1) (.inl hfr1) asgc hx S' _ (by rw [hl.rel.n,hn k H' hi];exact Nat.le_refl _) hl.rel hFr
         have hzip:(pps.zip (encI row)).foldl (fun t (p,v)=>t.setIfInBounds p v) a.tmps=(pps.toList.zip (row.map valOf)).foldl (fun t (p,v)=>t.setIfInBounds p v) a.tmps:=by
           rw [← Array.foldl_toList]
           simp
         rw [hzip]
         refine wpIn_mono hTa' fun e a1 w1 hh=>?_
         obtain ⟨S2,env1,H2,x1,rfl,e2,hS2,hF2,rfl,rfl,hbody⟩:=hh
         have hn':H'.n=H.n:=hn k H' hi
         have hsz2:=hl.size
         obtain ⟨hl2,ho2⟩:=hl.on (by rw [hFn];exact e2) hS2
         obtain ⟨S3,hw3,hl3,ev3,hn3,hb3,hk3,hi3⟩:=hl2.turn hSim .busy none
         have hbr:=run_beginRound (P:=P) hl2.loop (by rw [hrec])
         have hrb:({ rec .ready none with state:=.busy }:Loop)=rec .busy none:=by rw [hrec]
         rw [hrb] at hbr
         refine ⟨_,hbr,?_⟩
         rw [← hw3]
         have hMs:Marks S3 a1.defers:=by
           obtain ⟨q0,Ds,q1,q2,q3⟩:=hF2.defers
           refine ⟨by rw [hb3,hw3,World.putObj_size];exact q0,Ds,q1,q2,fun D hD=>?_⟩
           obtain ⟨r1,r2,r3,r4⟩:=q3 D hD
           refine ⟨by rw [hb3];exact r1,by rw [hk3];exact r2,by rw [hi3];exact r3,?_⟩
           rw [hw3,World.putObj_heap_other,r4]
           intro hDl
           rw [hDl,hl2.loop] at r4
           cases r4
         have hF3:FRel S3 n env1 a1:=⟨hF2.size,hMs,fun i hi=>VRel.moni ev3 _ (hF2.val i hi)⟩
         have hTb:=hbody (some (S.w.heap.size + 1)) (mm + 1) (.inl hfr2) bodyc hy S3 a1 (by rw [← hFn];exact hl3.evo.n) hl3.rel hF3
         refine wpIn_mono hTb fun e a4 w4 hh=>?_
         obtain ⟨S4,env4,H4,x4,rfl,e4,hS4,hF4,rfl,hx4⟩:=hh
         obtain ⟨hl4,ho4⟩:=hl3.on (by rw [hFn];exact e4) hS4
         have hob:∀ b,O b→S4.w.heap[b]? = S'.w.heap[b]? := fun b hb=>by
           have hne:b ≠ S.w.heap.size + 1:=by have:=(hl.own b hb).2.2.1;omega
           rw [ho4 b hb,hw3,World.putObj_heap_other hne,ho2 b hb]
         have hput:∀ (o:Obj) b,O b→(S4.w.putObj (S.w.heap.size + 1) o).heap[b]? = S'.w.heap[b]? := fun o b hb=>by
           have hne:b ≠ S.w.heap.size + 1:=by have:=(hl.own b hb).2.2.1;omega
           rw [World.putObj_heap_other hne,hob b hb]
         have hend:=fun j=>run_endRound (P:=P) j hl4.loop
         have hgrow:∀ o:Obj,S'.w.heap.size ≤ (S4.w.putObj (S.w.heap.size + 1) o).heap.size:=fun o=>by
           have g1:=e2.size
           have g2:=e4.size
           rw [hw3,World.putObj_size] at g2
           rw [World.putObj_size]
           omega
         have hr1:({ rec .busy none with state:=.ready,pending:=none }:Loop)=rec .ready none:=by rw [hrec]
         have hr2:∀ c,({ rec .busy none with state:=.done,pending:=some c }:Loop)=rec .done (some c):=fun c=>by rw [hrec]
         rcases hx4 with ⟨rfl,hinv⟩|⟨hxn,hqx⟩
         · obtain ⟨S5,hw5,hl5,_⟩:=hl4.turn hSim .ready none
           have:=hend none
           simp only [Option.isNone_none,if_true,hr1] at this
           exact ⟨_,_,this,hgrow _,hput _,.inl ⟨rfl,S5,H4,hw5,hl5,hinv⟩⟩
         · obtain ⟨S5,hw5,hl5,_⟩:=hl4.turn hSim .done (some (codeOf x4))
           have:=hend (some (codeOf x4))
           simp only [Option.isNone_some,Bool.false_eq_true,if_false,hr2] at this
           cases x4 with
           | normal=>exact absurd rfl hxn
           | exit id=>exact ⟨_,_,this,hgrow _,hput _,.inr ⟨rfl,.exit id,S5,H4,hw5,hl5,hxn,hqx⟩⟩
           | ret=>exact ⟨_,_,this,hgrow _,hput _,.inr ⟨rfl,.ret,S5,H4,hw5,hl5,hxn,hqx⟩⟩)
     rw [hwit] at hcall
     have hmk:∀ (S':MS) (H':Ac),Evo S S'→SRel S' H'→S'.keep S.w.heap.size∧¬ S'.im S.w.heap.size→S'.w.heap[S.w.heap.size]? = some (.deferred (some []))→FRel S' n env { a with defers:=[mark S.w.heap.size] ++ a.defers }:=fun S' H' ev _ hk hd=>by
       have hF':=hF.mono ev
       refine ⟨hF'.size,?_,hF'.val⟩
       obtain ⟨q0,Ds,q1,q2,q3⟩:=hF'.defers
       obtain ⟨_,Ds',p1,_,p3⟩:=hF.defers
       have hDs:Ds'=Ds:=by
         rw [q1] at p1
         have hinj:∀ {l l':List Nat},l.map mark=l'.map mark→l=l':=by
           intro l
           induction l with
           | nil=>intro l' h;cases l' with
             | nil=>rfl
             | cons=>simp at h
           | cons x l ih=>intro l' h;cases l' with
             | nil=>simp at h
             | cons y l' =>
               simp only [List.map_cons,List.cons.injEq,mark,Deferred.mk.injEq,and_true,Target.collected.injEq] at h
               rw [h.1,ih h.2]
         exact (hinj p1).symm
       subst hDs
       refine ⟨q0,S.w.heap.size :: Ds',by rw [q1];rfl,List.nodup_cons.2 ⟨fun hm=>by have:=hSim _ (.inr (p3 _ hm).2.1);omega,q2⟩,fun D hD=>?_⟩
       rcases List.mem_cons.1 hD with rfl|hD
       · exact ⟨by rw [ev.base];exact hF.defers.1,hk.1,hk.2,hd⟩
       · exact q3 D hD
     refine CallsIn.mono (callsIn_wide.2 (callsIn_wide.1 hcall)) fun e w3 hh=>?_
     obtain ⟨⟨v,rfl⟩,hh⟩:=hh
     rcases hh with ⟨O,S',H',rfl,hl,hinv⟩|⟨k,O,x,S',H',rfl,hl,hxn,hqx⟩
     · obtain ⟨S5,hw5,hl5,_⟩:=hl.turn hSim .exhausted none
       have:=run_endLoop (P:=P) hl.loop (by rw [hrec];intro hh;cases hh)
       have hr1:({ rec .ready none with state:=.exhausted }:Loop)=rec .exhausted none:=by rw [hrec]
       rw [hr1] at this
       have hpn':(rec .ready none).pending=none:=by rw [hrec]
       rw [hpn'] at this
       exact ⟨_,_,this,S5,env,H',.normal,hw5,hl5.evo.down hb,hl5.rel,hmk S5 H' hl5.evo hl5.rel hl5.k1 hl5.defd,rfl,done H' hinv⟩
     · obtain ⟨S5,hw5,hl5,_⟩:=hl.turn hSim .exhausted (some (codeOf x))
       have:=run_endLoop (P:=P) hl.loop (by rw [hrec];intro hh;cases hh)
       have hr1:({ rec .done (some (codeOf x)) with state:=.exhausted }:Loop)=rec .exhausted (some (codeOf x)):=by rw [hrec]
       rw [hr1] at this
       have hpn':(rec .done (some (codeOf x))).pending=some (codeOf x):=by rw [hrec]
       rw [hpn'] at this
       refine ⟨_,_,this,?_⟩
       have hAft:After S n b Q (Ex.up x) { a with defers:=[mark S.w.heap.size] ++ a.defers } (S'.w.putObj (S.w.heap.size + 1) (.loop (rec .exhausted (some (codeOf x))))) :=
         ⟨S5,env,H',x,hw5,hl5.evo.down hb,hl5.rel,hmk S5 H' hl5.evo hl5.rel hl5.k1 hl5.defd,rfl,out x H' hqx⟩
       cases x with
       | normal=>exact absurd rfl hxn
       | exit id=>exact wpIn_exit hAft
       | ret=>exact wpIn_ret hAft
   · cases hc
 case region=>exact absurd hc Ce
 case seq=>split at hc<;>cases hc
 case cond=>split at hc<;>cases hc
 case block=>obtain ⟨_,_,h⟩:=Option.map_eq_some_iff.1 hc;cases h
 case loop=>obtain ⟨_,_,h⟩:=Option.map_eq_some_iff.1 hc;cases h
 case scope d=>exact absurd rfl (hs d)
end
section
variable {P:Program} {n b:Nat} {env:Env} {H:Ac} {Q:Ex→Env→Ac→Prop}
theorem z49 {a:Act}:∀ (ws:List Nat) {S:MS} {l:List Grp},(∀ w ∈ ws,0 < w)→SRel S (hl l)→FRel S n env a→∃ S',S'.w=S.w∧Evo S S'∧SRel S' (hl (l ++ ws.map Hm))∧FRel S' n env a
 | [],S,l,_,hS,hF=>⟨S,rfl,.refl S,by simpa using hS,hF⟩
 | w :: ws,S,l,hw,hS,hF=>by
   have h1:=hS.virt w (hw w (by simp))
   rw [D3] at h1
   obtain ⟨S',e1,e2,e3,e4⟩:=z49 ws (S:=S.virt w) (l:=l ++ [Hm w]) (fun w' h'=>hw w' (by simp [h'])) h1 ⟨hF.size,hF.defers.mono (Evo.virt _),fun j hj=>VRel.mono (Evo.virt _) _ (hF.val j hj)⟩
   exact ⟨S',e1,(Evo.virt _).trans e2,by simpa using e3,e4⟩
theorem zgh {srcs:List Src} {live:List (Nat × AV)} {heap:List Grp} {S:MS} {a:Act} (hh:Head b env H srcs live heap) (hbS:b ≤ S.n) (hS:SRel S H) (hF:FRel S n env a) :
   ∃ S',S'.w=S.w∧BEvo b S S'∧SRel S' (hl heap)∧FRel S' n (Dc live) a:=by
 obtain ⟨hb,hh⟩:=hh
 have hgn:H.groups.length=H.n:=by simp [Ac.groups]
 have hS1:SRel S (hl H.groups):=hS.congr hgn (fun g hg=>by
   show H.groups.getD g default=_
   simp [Ac.groups,List.getD,hg])
 obtain ⟨S2,e1,e2,e3,e4⟩:=z49 (Em H.n srcs).2 (Iv hh.1) hS1 hF
 replace hh:=hh.2
 generalize hl1:H.groups ++ (Em H.n srcs).2.map Hm=l1 at *
 obtain ⟨h1,h2,h3,h4⟩:=hh
 have hb1:b ≤ l1.length:=by rw [← hl1,List.length_append];omega
 have hbS2:b ≤ S2.n:=Nat.le_trans hbS e2.n
 obtain ⟨k1,k2⟩:=O6 (ks:=(Em H.n srcs).1) hb1
 have hev:=It (ks:=(Em H.n srcs).1) e3 hbS2
 have hrel:=(L9 (ks:=(Em H.n srcs).1) 6 e3 hb1 (fun k hk=>Of h1 k hk) (Hb h2)).congr k1 k2
 have hF3:FRel (S2.repack b (hl l1) (Em H.n srcs).1) n (fun i=>rnV b (hl l1) (Em H.n srcs).1 6 (env i)) a:=⟨e4.size,e4.defers.of hev.base hev.size hev.keep hev.fresh (fun b hb=>hev.kept b (.inr hb)),fun j hj=>z73 e3 6 (e4.val j hj)⟩
 exact ⟨S2.repack b (hl l1) (Em H.n srcs).1,e1,(e2.down hbS).trans hev,Iu hrel h4,⟨hF3.size,hF3.defers,O7 hrel hF3 h3⟩⟩
theorem zq5 {c:AC} {Q':Ex→Env→Ac→Prop} (h:T P n b c env H Q') (hq:∀ x env' H',Q' x env' H'→∃ srcs live heap,Head b env' H' srcs live heap∧Q x (Dc live) (hl heap)):T P n b c env H Q :=
 fun rd mm hrd code hc S a hb hS hF=>wpIn_mono (h rd mm hrd code hc S a hb hS hF) fun e a w hh=>by
   obtain ⟨S',env',H',x,e1,e2,e3,e4,e5,e6⟩:=hh
   obtain ⟨srcs,live,heap,k1,k2⟩:=hq _ _ _ e6
   obtain ⟨S2,q1,q2,q3,q4⟩:=zgh k1 e2.n e3 e4
   exact ⟨S2,_,_,x,q1.trans e1,e2.trans q2,q3,q4,e5,k2⟩
theorem zbg {σ:Type} (Fact:Nat→σ→Prop) (live:List (Nat × AV)) (heap:σ→List Grp) (srcs:List Src) (N:Nat) {f:AArg} {ps:List Nat} {asg body:AC} {gf:Nat} {caps:List AV} {rows:List (List AV)} (s0:σ)
   (hit:z47 P gf caps rows) (he:Head b env H srcs live (heap s0)) (hN:∀ s,(heap s).length=N) (hf:f.eval (Dc live)=.fn gf caps) (hpure:Ay caps=true) (hfr1:asg.free=true) (hfr2:body.free=true)
   (hfl:∀ r ∈ rows,∀ x ∈ r,Flat x) (hps:∀ r ∈ rows,r.length=ps.length) (hpn:∀ p ∈ ps,p < n) (h0:Fact 0 s0)
   (round:∀ k row s,rows[k]? = some row→Fact k s→T P n N asg (setL (Dc live) ps row) (hl (heap s)) (fun x env1 H2=>x=.normal∧T P n N body env1 H2 (Ex.then (fun env3 H3=>∃ s',Head N env3 H3 [] [] (heap s')∧Fact (k + 1) s') (fun _ _ _=>False))))
   (done:∀ s,Fact rows.length s→Q .normal (Dc live) (hl (heap s))):T P n b (.rng f ps asg body) env H Q:=by
 refine zao he ?_
 refine T_rng hf hpure hfr1 hfr2 hit hfl hps hpn (fun k H'=>∃ s,H'=hl (heap s)∧Fact k s) (fun _ _=>False) ⟨s0,rfl,h0⟩ (fun k H' hh=>?_) (fun _ _ hh=>hh.elim) (fun k row H1 hrow hh=>?_) (fun H1 hh=>?_) (fun _ _ hh=>hh.elim)
 · obtain ⟨s,rfl,_⟩:=hh
   show (heap s).length=(heap s0).length
   rw [hN,hN]
 · obtain ⟨s,rfl,hs⟩:=hh
   have hn0:(hl (heap s0)).n=N:=hN s0
   rw [hn0]
   refine T.mono (round k row s hrow hs) fun x env1 H2 hh=>⟨hh.1,?_⟩
   refine zq5 hh.2 fun x env3 H3 hq=>?_
   cases x with
   | normal =>
     obtain ⟨s',q1,q2⟩:=hq
     exact ⟨[],[],heap s',q1,.inl ⟨rfl,s',rfl,q2⟩⟩
   | exit id=>exact hq.elim
   | ret=>exact hq.elim
 · obtain ⟨s,rfl,hs⟩:=hh
   exact done s hs
theorem z0n {f:AArg} {ps:List Nat} {asg body:AC} (h:T P n b (.rng f ps asg body) env H Q):@Je ⟨T P n b (.rng f ps asg body) env H Q⟩:=h
end
mutual
def ren (σ:Nat→Nat):AV→AV
 | .any=>.any
 | .bool b=>.bool b
 | .int k n=>.int k n
 | .str s=>.str s
 | .nilS=>.nilS
 | .nul=>.nul
 | .emp=>.emp
 | .lst w xs=>.lst w xs
 | .full w xs=>.full w xs
 | .map g v=>.map (σ g) v
 | .ref g v o n=>.ref (σ g) v o n
 | .cptr x=>.cptr x
 | .ptr g v i o=>.ptr (σ g) v i o
 | .nilP=>.nilP
 | .agg cs=>.agg (renL σ cs)
 | .tup cs=>.tup (renL σ cs)
 | .fn f cs=>.fn f (renL σ cs)
 | .nilF=>.nilF
 | .yld l=>.yld l
def renL (σ:Nat→Nat):List AV→List AV
 | []=>[]
 | x :: xs=>ren σ x :: renL σ xs
end
mutual
def ltV (m:Nat):AV→Prop
 | .map g _|.ref g _ _ _|.ptr g _ _ _=>g < m
 | .agg cs|.tup cs|.fn _ cs=>ltL m cs
 | .any|.bool _|.int ..|.str _|.nilS|.nul|.emp|.lst ..|.full ..|.cptr _|.nilP|.nilF|.yld _=>True
def ltL (m:Nat):List AV→Prop
 | []=>True
 | x :: xs=>ltV m x∧ltL m xs
end
def renG (σ:Nat→Nat) (G:Grp):Grp:=⟨G.w,G.ver,G.exact,renL σ G.xs⟩
mutual
theorem zit {A B:MS} {σ:Nat→Nat} (hw:B.w=A.w) (hi:∀ b,A.im b→B.im b) (hg:∀ g,g < A.n→σ g < B.n∧B.cur (σ g)=A.cur g∧B.place (σ g)=A.place g∧B.cap (σ g)=A.cap g∧B.wid (σ g)=A.wid g):∀ (x:AV) {v:Value},VRel A x v→VRel B (ren σ x) v
 | .any,_,_=>trivial
 | .bool _,_,h=>h
 | .int _ _,_,h=>h
 | .str _,_,h=>h
 | .nilS,_,h=>h
 | .nul,_,h=>h
 | .emp,_,h=>h
 | .nilP,_,h=>h
 | .nilF,_,h=>h
 | .yld _,_,h=>h
 | .lst wd xs,v,h=>by
   obtain ⟨hp,h0,a,cap,vs,hv,hc,hl,hr⟩:=h
   refine ⟨hp,h0,a,cap,vs,hv,hc,Af.of_pure hw hi hp hl,fun hne=>?_⟩
   obtain ⟨b,o,ha,hb,hrow⟩:=hr hne
   exact ⟨b,o,ha,hi b hb,by rw [hw];exact hrow⟩
 | .full wd xs,v,h=>by
   obtain ⟨hp,h0,a,vs,hv,hc,hl,hr⟩:=h
   refine ⟨hp,h0,a,vs,hv,hc,Af.of_pure hw hi hp hl,fun hne=>?_⟩
   obtain ⟨b,o,ha,hb,hrow⟩:=hr hne
   exact ⟨b,o,ha,hi b hb,by rw [hw];exact hrow⟩
 | .cptr x,v,h=>by
   obtain ⟨hp,b,o,u,hv,hb,hx,hl⟩:=h
   exact ⟨hp,b,o,u,hv,hi b hb,VRel.of_pure hw hi hp hx,by rw [hw];exact hl⟩
 | .map g vn,v,h=>by
   obtain ⟨hs,hgn,hc,hv⟩:=h
   obtain ⟨k1,k2,k3,k4,k5⟩:=hg g hgn
   exact ⟨hs,k1,by rw [k2];exact hc,fun h'=>by rw [k3];exact hv (by rw [← k2];exact h')⟩
 | .ref g vn off len,v,h=>by
   obtain ⟨hs,hgn,hc,hv⟩:=h
   obtain ⟨k1,k2,k3,k4,k5⟩:=hg g hgn
   exact ⟨hs,k1,by rw [k2];exact hc,fun h'=>by rw [k3,k4,k5];exact hv (by rw [← k2];exact h')⟩
 | .ptr g vn i o,v,h=>by
   obtain ⟨hs,hgn,hc,hv⟩:=h
   obtain ⟨k1,k2,k3,k4,k5⟩:=hg g hgn
   exact ⟨hs,k1,by rw [k2];exact hc,fun h'=>by rw [k3,k5];exact hv (by rw [← k2];exact h')⟩
 | .agg cs,v,h=>by obtain ⟨vs,hv,h⟩:=h;exact ⟨vs,hv,Mb hw hi hg cs h⟩
 | .tup cs,v,h=>by obtain ⟨vs,hv,h⟩:=h;exact ⟨vs,hv,Mb hw hi hg cs h⟩
 | .fn f cs,v,h=>by obtain ⟨vs,hv,h⟩:=h;exact ⟨vs,hv,Mb hw hi hg cs h⟩
theorem Mb {A B:MS} {σ:Nat→Nat} (hw:B.w=A.w) (hi:∀ b,A.im b→B.im b) (hg:∀ g,g < A.n→σ g < B.n∧B.cur (σ g)=A.cur g∧B.place (σ g)=A.place g∧B.cap (σ g)=A.cap g∧B.wid (σ g)=A.wid g):∀ (xs:List AV) {vs:List Value},Af A xs vs→Af B (renL σ xs) vs
 | [],_,h=>h
 | x :: xs,_,h=>by
   obtain ⟨v,r,hv,h1,h2⟩:=h
   exact ⟨v,r,hv,zit hw hi hg x h1,Mb hw hi hg xs h2⟩
end
mutual
theorem z4a {A B:MS} {σ:Nat→Nat} {m:Nat} (hw:A.w=B.w) (hi:∀ b,B.im b→A.im b) (hg:∀ g,g < m→g < A.n∧B.cur (σ g)=A.cur g∧B.place (σ g)=A.place g∧B.cap (σ g)=A.cap g∧B.wid (σ g)=A.wid g):∀ (x:AV) {v:Value},ltV m x→VRel B (ren σ x) v→VRel A x v
 | .any,_,_,_=>trivial
 | .bool _,_,_,h=>h
 | .int _ _,_,_,h=>h
 | .str _,_,_,h=>h
 | .nilS,_,_,h=>h
 | .nul,_,_,h=>h
 | .emp,_,_,h=>h
 | .nilP,_,_,h=>h
 | .nilF,_,_,h=>h
 | .yld _,_,_,h=>h
 | .lst wd xs,v,_,h=>by
   obtain ⟨hp,h0,a,cap,vs,hv,hc,hl,hr⟩:=h
   refine ⟨hp,h0,a,cap,vs,hv,hc,Af.of_pure hw hi hp hl,fun hne=>?_⟩
   obtain ⟨b,o,ha,hb,hrow⟩:=hr hne
   exact ⟨b,o,ha,hi b hb,by rw [hw];exact hrow⟩
 | .full wd xs,v,_,h=>by
   obtain ⟨hp,h0,a,vs,hv,hc,hl,hr⟩:=h
   refine ⟨hp,h0,a,vs,hv,hc,Af.of_pure hw hi hp hl,fun hne=>?_⟩
   obtain ⟨b,o,ha,hb,hrow⟩:=hr hne
   exact ⟨b,o,ha,hi b hb,by rw [hw];exact hrow⟩
 | .cptr x,v,_,h=>by
   obtain ⟨hp,b,o,u,hv,hb,hx,hl⟩:=h
   exact ⟨hp,b,o,u,hv,hi b hb,VRel.of_pure hw hi hp hx,by rw [hw];exact hl⟩
 | .map g vn,v,hm,h=>by
   obtain ⟨hs,hgn,hc,hv⟩:=h
   obtain ⟨k1,k2,k3,k4,k5⟩:=hg g hm
   exact ⟨hs,k1,by rw [← k2];exact hc,fun h'=>by rw [← k3];exact hv (by rw [k2];exact h')⟩
 | .ref g vn off len,v,hm,h=>by
   obtain ⟨hs,hgn,hc,hv⟩:=h
   obtain ⟨k1,k2,k3,k4,k5⟩:=hg g hm
   exact ⟨hs,k1,by rw [← k2];exact hc,fun h'=>by rw [← k3,← k4,← k5];exact hv (by rw [k2];exact h')⟩
 | .ptr g vn i o,v,hm,h=>by
   obtain ⟨hs,hgn,hc,hv⟩:=h
   obtain ⟨k1,k2,k3,k4,k5⟩:=hg g hm
   exact ⟨hs,k1,by rw [← k2];exact hc,fun h'=>by rw [← k3,← k5];exact hv (by rw [k2];exact h')⟩
 | .agg cs,v,hm,h=>by obtain ⟨vs,hv,h⟩:=h;exact ⟨vs,hv,Fa hw hi hg cs hm h⟩
 | .tup cs,v,hm,h=>by obtain ⟨vs,hv,h⟩:=h;exact ⟨vs,hv,Fa hw hi hg cs hm h⟩
 | .fn f cs,v,hm,h=>by obtain ⟨vs,hv,h⟩:=h;exact ⟨vs,hv,Fa hw hi hg cs hm h⟩
theorem Fa {A B:MS} {σ:Nat→Nat} {m:Nat} (hw:A.w=B.w) (hi:∀ b,B.im b→A.im b) (hg:∀ g,g < m→g < A.n∧B.cur (σ g)=A.cur g∧B.place (σ g)=A.place g∧B.cap (σ g)=A.cap g∧B.wid (σ g)=A.wid g):∀ (xs:List AV) {vs:List Value},ltL m xs→Af B (renL σ xs) vs→Af A xs vs
 | [],_,_,h=>h
 | x :: xs,_,hm,h=>by
   obtain ⟨v,r,hv,h1,h2⟩:=h
   exact ⟨v,r,hv,z4a hw hi hg x hm.1 h1,Fa hw hi hg xs hm.2 h2⟩
end
theorem Ks {σ:Nat→Nat}:∀ xs:List AV,(renL σ xs).length=xs.length
 | []=>rfl
 | x :: xs=>by simp [renL,Ks xs]
def sg (ks:List Nat) (N i:Nat):Nat:=if i < ks.length then ks.getD i 0 else N + (i - ks.length)
def iv (ks:List Nat) (N g:Nat):Nat:=if g < N then ks.idxOf g else ks.length + (g - N)
def setG:List Nat→List Grp→List Grp→List Grp
 | [],r,l=>l ++ r
 | _ :: _,[],l=>l
 | k :: ks,G :: r,l=>setG ks r (l.set k G)
theorem z4b:∀ {ks:List Nat} {r l:List Grp},ks.length ≤ r.length→(setG ks r l).length=l.length + (r.length - ks.length)
 | [],r,l,_=>by simp [setG]
 | k :: ks,[],l,h=>by simp at h
 | k :: ks,G :: r,l,h=>by
   rw [setG,z4b (by simpa using h)]
   simp
theorem Mc:∀ {ks:List Nat} {r l:List Grp} {g:Nat},g < l.length→g ∉ ks→(setG ks r l).getD g default=l.getD g default
 | [],r,l,g,hg,_=>by simp [setG,List.getD,List.getElem?_append_left hg]
 | k :: ks,[],l,g,_,_=>rfl
 | k :: ks,G :: r,l,g,hg,hk=>by
   simp only [List.mem_cons,not_or] at hk
   rw [setG,Mc (by simpa using hg) hk.2]
   simp [List.getD,List.getElem?_set_ne (fun h=>hk.1 h.symm)]
theorem zbh:∀ {ks:List Nat} {r l:List Grp} {i:Nat},ks.Nodup→(∀ k ∈ ks,k < l.length)→i < r.length→(setG ks r l).getD (sg ks l.length i) default=r.getD i default
 | [],r,l,i,_,_,hi=>by
   simp only [setG,sg,List.length_nil,Nat.not_lt_zero,if_false,Nat.sub_zero,List.getD]
   rw [List.getElem?_append_right (by omega),Nat.add_sub_cancel_left]
 | k :: ks,[],l,i,_,_,hi=>by simp at hi
 | k :: ks,G :: r,l,0,hn,hk,_=>by
   rw [List.nodup_cons] at hn
   have h1:k < l.length:=hk k (by simp)
   have e:sg (k :: ks) l.length 0=k:=by simp [sg]
   rw [e,setG,Mc (by simpa using h1) hn.1]
   simp [List.getD,List.getElem?_set_self h1]
 | k :: ks,G :: r,l,i + 1,hn,hk,hi=>by
   rw [List.nodup_cons] at hn
   have e:sg (k :: ks) l.length (i + 1)=sg ks (l.set k G).length i:=by simp [sg]
   rw [e,setG,zbh hn.2 (fun k' h'=>by simpa using hk k' (by simp [h'])) (by simpa using hi)]
   simp
theorem sg_lt {ks:List Nat} {N i n:Nat} (hk:∀ k ∈ ks,k < N) (hi:i < n) (hm:ks.length ≤ n):sg ks N i < N + (n - ks.length):=by
 unfold sg
 split
 · rename_i h
   have:ks.getD i 0 ∈ ks:=by rw [List.getD_eq_getElem?_getD,List.getElem?_eq_getElem h];exact List.getElem_mem h
   have:=hk _ this
   omega
 · omega
theorem zme {ks:List Nat} {N i:Nat} (hn:ks.Nodup) (hk:∀ k ∈ ks,k < N):iv ks N (sg ks N i)=i:=by
 unfold sg
 split
 · rename_i h
   have hmem:ks.getD i 0 ∈ ks:=by rw [List.getD_eq_getElem?_getD,List.getElem?_eq_getElem h];exact List.getElem_mem h
   rw [iv,if_pos (hk _ hmem),List.getD_eq_getElem?_getD,List.getElem?_eq_getElem h]
   exact hn.idxOf_getElem i h
 · rw [iv,if_neg (by omega)];omega
theorem zbi {ks:List Nat} {N g:Nat} (hg:g ∈ ks):∃ i,i < ks.length∧sg ks N i=g:=by
 obtain ⟨i,hi,he⟩:=List.getElem_of_mem hg
 exact ⟨i,hi,by rw [sg,if_pos hi,List.getD_eq_getElem?_getD,List.getElem?_eq_getElem hi];exact he⟩
theorem zgi {ks:List Nat} {N g n:Nat} (hm:ks.length ≤ n) (hg:g < N + (n - ks.length)) (h:¬ (g < N∧g ∉ ks)):∃ i,i < n∧sg ks N i=g:=by
 by_cases hgN:g < N
 · have hmem:g ∈ ks:=by
     by_cases hh:g ∈ ks
     · exact hh
     · exact absurd ⟨hgN,hh⟩ h
   obtain ⟨i,hi,he⟩:=zbi (N:=N) hmem
   exact ⟨i,by omega,he⟩
 · exact ⟨ks.length + (g - N),by omega,by rw [sg,if_neg (by omega)];omega⟩
theorem M1 {σ:Nat→Nat} {l:List Grp} {i:Nat} (h:i < l.length):(l.map (renG σ)).getD i default=renG σ (l.getD i default):=by
 simp [List.getD,List.getElem?_eq_getElem h]
theorem Xt {P:Program} {f:Nat} {xs0 xs:List AV} {l0 l:List Grp} {K0 K:AV→Ac→Prop} (ks:List Nat) (h:Bn P f xs0 (hl l0) K0) (hxs:renL (sg ks l.length) xs0=xs)
   (hl0:l0.map (renG (sg ks l.length))=ks.map (fun k=>l.getD k default)) (hn:ks.Nodup) (hk:∀ k ∈ ks,k < l.length) (hlt:ltL ks.length xs0) (hltG:∀ G ∈ l0,ltL ks.length G.xs)
   (hK:∀ y H',K0 y H'→∃ l',H'=hl l'∧ks.length ≤ l'.length∧K (ren (sg ks l.length) y) (hl (setG ks (l'.map (renG (sg ks l.length))) l))):Bn P f xs (hl l) K:=by
 refine ⟨h.1,fun S cargs hS hx=>?_⟩
 have hm:l0.length=ks.length:=by simpa using congrArg List.length hl0
 have hSn:S.n=l.length:=hS.n
 have hinj:∀ i j,sg ks l.length i=sg ks l.length j→i=j:=fun i j e=>by rw [← zme (i:=i) hn hk,e,zme hn hk]
 have hin:∀ i,i < ks.length→sg ks l.length i < l.length∧sg ks l.length i ∈ ks:=fun i hi=>by
   have e:sg ks l.length i=ks[i]:=by rw [sg,if_pos hi,List.getD_eq_getElem?_getD,List.getElem?_eq_getElem hi];rfl
   rw [e]
   exact ⟨hk _ (List.getElem_mem hi),List.getElem_mem hi⟩
 have hat:∀ i,i < ks.length→l.getD (sg ks l.length i) default=renG (sg ks l.length) (l0.getD i default):=fun i hi=>by
   rw [← M1 (by omega),hl0,sg,if_pos hi]
   simp [List.getD,List.getElem?_eq_getElem hi]
 have hG:∀ i,i < ks.length→GRel S (renG (sg ks l.length) (l0.getD i default)) (sg ks l.length i):=fun i hi=>by
   have:=hS.grp (sg ks l.length i) (hin i hi).1
   rwa [Cn,hat i hi] at this
 obtain ⟨O,hO⟩:∃ O:Nat→Prop,∀ b,O b ↔ ∃ g,g < l.length∧g ∉ ks∧(l.getD g default).has (S.cap g)∧S.place g=b:=⟨_,fun _=>Iff.rfl⟩
 have hOfree:∀ b,O b→¬ (S.im b ∨ S.keep b):=fun b hb=>by
   obtain ⟨g,h1,h2,h3,rfl⟩:=(hO b).1 hb
   exact (hS.grp g h1).has_ni (by rw [Cn];exact h3)
 obtain ⟨S0,hS0d⟩:∃ S0:MS,S0={ S with keep:=fun b=>S.keep b ∨ O b,n:=ks.length,place:=fun i=>S.place (sg ks l.length i),cur:=fun i=>S.cur (sg ks l.length i),cap:=fun i=>S.cap (sg ks l.length i),wid:=fun i=>S.wid (sg ks l.length i) }:=⟨_,rfl⟩
 have hdn:∀ g,g < ks.length→g < S0.n∧S.cur (sg ks l.length g)=S0.cur g∧S.place (sg ks l.length g)=S0.place g∧S.cap (sg ks l.length g)=S0.cap g∧S.wid (sg ks l.length g)=S0.wid g:=fun g hg=>by
   subst hS0d;exact ⟨hg,rfl,rfl,rfl,rfl⟩
 have hw0:S0.w=S.w:=by subst hS0d;rfl
 have hi0:∀ b,S.im b→S0.im b:=fun b hb=>by subst hS0d;exact hb
 have hrel0:SRel S0 (hl l0):=by
   refine ⟨by subst hS0d;exact hm.symm,fun i hi=>?_,fun i j hi hj hne h1 h2=>?_,fun b hb=>?_⟩
   · have hi':i < ks.length:=by rw [← hm];exact hi
     have hg:=hG i hi'
     have hmem:l0.getD i default ∈ l0:=by rw [List.getD_eq_getElem?_getD,List.getElem?_eq_getElem (show i < l0.length from hi)];exact List.getElem_mem _
     have hlg:=hltG _ hmem
     rw [Cn]
     have hnO:(l0.getD i default).has (S.cap (sg ks l.length i))→¬ O (S.place (sg ks l.length i)):=fun hh ho=>by
       obtain ⟨g,a1,a2,a3,a4⟩:=(hO _).1 ho
       exact hS.apart g (sg ks l.length i) a1 (hin i hi').1 (fun e=>a2 (e ▸ (hin i hi').2)) (by rw [Cn];exact a3) (by rw [Cn,hat i hi'];exact hh) a4
     refine ⟨by subst hS0d;exact hg.ver,by subst hS0d;exact hg.wid,fun hw hc=>?_,fun hw=>by have:=hg.len hw;subst hS0d;simpa [renG,Ks] using this,fun hw he=>by have:=hg.full hw he;subst hS0d;simpa [renG,Ks] using this,fun hw he=>?_⟩
     · have hc':0 < S.cap (sg ks l.length i):=by subst hS0d;exact hc
       obtain ⟨⟨cells,T,vs,b1,b2,b3,b4⟩,ni⟩:=hg.live hw hc'
       refine ⟨⟨cells,T,vs,by subst hS0d;exact b1,by subst hS0d;exact b2,Fa hw0 hi0 hdn _ hlg b3,b4⟩,fun hh=>?_⟩
       have hno:=hnO (.inl ⟨hw,hc'⟩)
       subst hS0d
       exact hh.elim (fun hh=>ni (.inl hh)) (fun hh=>hh.elim (fun hh=>ni (.inr hh)) hno)
     · obtain ⟨⟨es,clock,b1,b2⟩,ni⟩:=hg.mlive hw he
       refine ⟨⟨es,clock,by subst hS0d;exact b1,Fa hw0 hi0 hdn _ hlg b2⟩,fun hh=>?_⟩
       have hno:=hnO (.inr ⟨hw,he⟩)
       subst hS0d
       exact hh.elim (fun hh=>ni (.inl hh)) (fun hh=>hh.elim (fun hh=>ni (.inr hh)) hno)
   · have hi':i < ks.length:=by rw [← hm];exact hi
     have hj':j < ks.length:=by rw [← hm];exact hj
     rw [Cn] at h1 h2
     have:=hS.apart (sg ks l.length i) (sg ks l.length j) (hin i hi').1 (hin j hj').1 (fun e=>hne (hinj _ _ e)) (by rw [Cn,hat i hi'];subst hS0d;exact h1) (by rw [Cn,hat j hj'];subst hS0d;exact h2)
     subst hS0d
     exact this
   · subst hS0d
     rcases hb with hb|hb|hb
     · exact hS.im b (.inl hb)
     · exact hS.im b (.inr hb)
     · obtain ⟨g,a1,a2,a3,rfl⟩:=(hO _).1 hb
       exact (hS.grp g a1).has_lt (by rw [Cn];exact a3)
 have hx0:Af S0 xs0 cargs:=Fa hw0 hi0 hdn xs0 hlt (by rw [hxs];exact hx)
 have hsz:S0.w.heap=S.w.heap:=by rw [hw0]
 have hcall:=h.2 S0 cargs hrel0 hx0
 rw [hw0] at hcall
 refine hcall.mono fun e w' hh=>?_
 obtain ⟨v,S1,y,H',he,hw1,ev,hS1,hv,hk0⟩:=hh
 obtain ⟨l',rfl,hml,hK'⟩:=hK y H' hk0
 have hn1:S1.n=l'.length:=hS1.n
 have hnot:∀ i,¬ (sg ks l.length i < l.length∧sg ks l.length i ∉ ks):=fun i hh=>by
   by_cases hi:i < ks.length
   · exact hh.2 (hin i hi).2
   · have:sg ks l.length i=l.length + (i - ks.length):=by rw [sg,if_neg hi]
     omega
 obtain ⟨S',hS'd⟩:∃ S':MS,S'={ w:=S1.w,im:=S1.im,keep:=fun b=>S1.keep b∧¬ O b,n:=l.length + (l'.length - ks.length),place:=fun g=>if g < l.length∧g ∉ ks then S.place g else S1.place (iv ks l.length g),cur:=fun g=>if g < l.length∧g ∉ ks then S.cur g else S1.cur (iv ks l.length g),cap:=fun g=>if g < l.length∧g ∉ ks then S.cap g else S1.cap (iv ks l.length g),wid:=fun g=>if g < l.length∧g ∉ ks then S.wid g else S1.wid (iv ks l.length g),base:=S1.base }:=⟨_,rfl⟩
 have hoth:∀ g,g < l.length→g ∉ ks→S'.place g=S.place g∧S'.cur g=S.cur g∧S'.cap g=S.cap g∧S'.wid g=S.wid g:=fun g h1 h2=>by
   subst hS'd
   exact ⟨if_pos ⟨h1,h2⟩,if_pos ⟨h1,h2⟩,if_pos ⟨h1,h2⟩,if_pos ⟨h1,h2⟩⟩
 have hour:∀ i,S'.place (sg ks l.length i)=S1.place i∧S'.cur (sg ks l.length i)=S1.cur i∧S'.cap (sg ks l.length i)=S1.cap i∧S'.wid (sg ks l.length i)=S1.wid i:=fun i=>by
   subst hS'd
   refine ⟨?_,?_,?_,?_⟩<;>simp only [if_neg (hnot i),zme hn hk]
 have hn':S'.n=l.length + (l'.length - ks.length):=by subst hS'd;rfl
 have hwS':S'.w=S1.w:=by subst hS'd;rfl
 have hup:∀ g,g < S1.n→sg ks l.length g < S'.n∧S'.cur (sg ks l.length g)=S1.cur g∧S'.place (sg ks l.length g)=S1.place g∧S'.cap (sg ks l.length g)=S1.cap g∧S'.wid (sg ks l.length g)=S1.wid g:=fun g hg=>by
   obtain ⟨a1,a2,a3,a4⟩:=hour g
   exact ⟨by rw [hn'];exact sg_lt hk (by omega) hml,a2,a1,a3,a4⟩
 have hiS':∀ b,S1.im b→S'.im b:=fun b hb=>by subst hS'd;exact hb
 have hkS0:∀ b,O b→S0.keep b:=fun b hb=>by subst hS0d;exact .inr hb
 have hn0:S0.n=ks.length:=by subst hS0d;rfl
 have hevo:Evo S S':=by
   refine ⟨?_,?_,?_,?_,?_,fun b hb=>?_,fun b hb=>?_,fun b hb=>?_,fun b hb=>?_,?_,fun g hg=>?_,fun g hg he=>?_⟩
   · have:=ev.base;subst hS'd;subst hS0d;exact this
   · have:=ev.os;rw [hw0] at this;rw [hwS'];exact this
   · have:=ev.tape;rw [hw0] at this;rw [hwS'];exact this
   · have:=ev.output;rw [hw0] at this;rw [hwS'];exact this
   · have:=ev.size;rw [hw0] at this;rw [hwS'];exact this
   · have:=ev.kept b (by subst hS0d;exact hb.imp id .inl);rw [hw0] at this;rw [hwS'];exact this
   · exact hiS' b (ev.im b (hi0 b hb))
   · have h1:=ev.keep b (by subst hS0d;exact .inl hb)
     subst hS'd
     exact ⟨h1,fun ho=>hOfree b ho (.inr hb)⟩
   · have h1:=ev.fresh b (by subst hS'd;exact hb)
     subst hS0d
     exact h1.imp id fun hh h2=>hh (.inl h2)
   · rw [hn',hSn];omega
   · rw [hSn] at hg
     by_cases hmem:g ∈ ks
     · obtain ⟨i,hi,rfl⟩:=zbi (N:=l.length) hmem
       rw [(hour i).2.1]
       have:=ev.cur i (by rw [hn0];exact hi)
       subst hS0d
       exact this
     · rw [(hoth g hg hmem).2.1];exact Nat.le_refl _
   · rw [hSn] at hg
     by_cases hmem:g ∈ ks
     · obtain ⟨i,hi,rfl⟩:=zbi (N:=l.length) hmem
       obtain ⟨a1,a2,a3,a4⟩:=hour i
       rw [a1,a3,a4]
       rw [a2] at he
       have:=ev.same i (by rw [hn0];exact hi) (by subst hS0d;exact he)
       subst hS0d
       exact this
     · obtain ⟨a1,a2,a3,a4⟩:=hoth g hg hmem
       exact ⟨a1,a3,a4⟩
 have hlen:(setG ks (l'.map (renG (sg ks l.length))) l).length=l.length + (l'.length - ks.length):=by rw [z4b (by simpa using hml)];simp
 have hatO:∀ g,g < l.length→g ∉ ks→(setG ks (l'.map (renG (sg ks l.length))) l).getD g default=l.getD g default:=fun g h1 h2=>Mc h1 h2
 have hatI:∀ i,i < l'.length→(setG ks (l'.map (renG (sg ks l.length))) l).getD (sg ks l.length i) default=renG (sg ks l.length) (l'.getD i default):=fun i hi=>by
   rw [zbh hn hk (by simpa using hi),M1 hi]
 have hrel':SRel S' (hl (setG ks (l'.map (renG (sg ks l.length))) l)):=by
   have hcov:∀ g,g < (setG ks (l'.map (renG (sg ks l.length))) l).length→(g < l.length∧g ∉ ks) ∨ ∃ i,i < l'.length∧sg ks l.length i=g:=fun g hg=>by
     by_cases hh:g < l.length∧g ∉ ks
     · exact .inl hh
     · exact .inr (zgi hml (by rw [← hlen];exact hg) hh)
   have hfree1:∀ i,i < l'.length→(l'.getD i default).has (S1.cap i)→¬ S1.keep (S1.place i):=fun i hi hh hkk=>(hS1.grp i hi).has_ni (by rw [Cn];exact hh) (.inr hkk)
   refine ⟨by rw [hn'];exact hlen.symm,fun g hg=>?_,fun g g' hg hg' hne h1 h2=>?_,fun b hb=>?_⟩
   · rcases hcov g hg with ⟨h1,h2⟩|⟨i,hi,rfl⟩
     · have hr:=hS.grp g h1
       obtain ⟨a1,a2,a3,a4⟩:=hoth g h1 h2
       rw [Cn] at hr ⊢
       rw [hatO g h1 h2]
       have hblk:(l.getD g default).has (S.cap g)→S'.w.heap[S.place g]? = S.w.heap[S.place g]? := fun hh=>by
         have:=ev.kept (S.place g) (.inr (hkS0 _ ((hO _).2 ⟨g,h1,h2,hh,rfl⟩)))
         rw [hw0] at this;rw [hwS'];exact this
       have hnik:(l.getD g default).has (S.cap g)→¬ (S'.im (S.place g) ∨ S'.keep (S.place g)):=fun hh hik=>by
         have ho:O (S.place g):=(hO _).2 ⟨g,h1,h2,hh,rfl⟩
         rcases hik with hik|hik
         · rcases ev.fresh (S.place g) (by subst hS'd;exact hik) with h3|h3
           · exact hOfree _ ho (.inl (by subst hS0d;exact h3))
           · exact h3 (hkS0 _ ho)
         · subst hS'd;exact hik.2 ho
       refine ⟨by rw [a2];exact hr.ver,by rw [a4];exact hr.wid,fun hw hc=>?_,fun hw=>by rw [a3];exact hr.len hw,fun hw he=>by rw [a3];exact hr.full hw he,fun hw he=>?_⟩
       · rw [a3] at hc
         obtain ⟨⟨cells,T,vs,b1,b2,b3,b4⟩,ni⟩:=hr.live hw hc
         rw [a1,a3]
         exact ⟨⟨cells,T,vs,by rw [hblk (.inl ⟨hw,hc⟩)];exact b1,b2,b3.mono hevo,b4⟩,hnik (.inl ⟨hw,hc⟩)⟩
       · obtain ⟨⟨es,clock,b1,b2⟩,ni⟩:=hr.mlive hw he
         rw [a1]
         exact ⟨⟨es,clock,by rw [hblk (.inr ⟨hw,he⟩)];exact b1,b2.mono hevo⟩,hnik (.inr ⟨hw,he⟩)⟩
     · have hr:=hS1.grp i hi
       obtain ⟨a1,a2,a3,a4⟩:=hour i
       rw [Cn] at hr ⊢
       rw [hatI i hi]
       have hnik:¬ (S1.im (S1.place i) ∨ S1.keep (S1.place i))→¬ (S'.im (S1.place i) ∨ S'.keep (S1.place i)):=fun hh hik=>by
         subst hS'd
         exact hh (hik.imp id fun h3=>h3.1)
       refine ⟨by rw [a2];exact hr.ver,by rw [a4];exact hr.wid,fun hw hc=>?_,fun hw=>by rw [a3];have:=hr.len hw;simpa [renG,Ks] using this,fun hw he=>by rw [a3];have:=hr.full hw he;simpa [renG,Ks] using this,fun hw he=>?_⟩
       · rw [a3] at hc
         obtain ⟨⟨cells,T,vs,b1,b2,b3,b4⟩,ni⟩:=hr.live hw hc
         rw [a1,a3]
         exact ⟨⟨cells,T,vs,by rw [hwS'];exact b1,b2,Mb hwS' hiS' hup _ b3,b4⟩,hnik ni⟩
       · obtain ⟨⟨es,clock,b1,b2⟩,ni⟩:=hr.mlive hw he
         rw [a1]
         exact ⟨⟨es,clock,by rw [hwS'];exact b1,Mb hwS' hiS' hup _ b2⟩,hnik ni⟩
   · have hmix:∀ g i,g < l.length→g ∉ ks→i < l'.length→(l.getD g default).has (S.cap g)→(l'.getD i default).has (S1.cap i)→S.place g ≠ S1.place i:=fun g i b1 b2 b3 b4 b5 e=>by
       have h3:=ev.keep _ (hkS0 _ ((hO _).2 ⟨g,b1,b2,b4,rfl⟩))
       rw [e] at h3
       exact hfree1 i b3 b5 h3
     rw [Cn] at h1 h2
     rcases hcov g hg with ⟨c1,c2⟩|⟨i,hi,rfl⟩<;>rcases hcov g' hg' with ⟨d1,d2⟩|⟨j,hj,rfl⟩
     · rw [hatO g c1 c2,(hoth g c1 c2).2.2.1] at h1
       rw [hatO g' d1 d2,(hoth g' d1 d2).2.2.1] at h2
       rw [(hoth g c1 c2).1,(hoth g' d1 d2).1]
       exact hS.apart g g' c1 d1 hne (by rw [Cn];exact h1) (by rw [Cn];exact h2)
     · rw [hatO g c1 c2,(hoth g c1 c2).2.2.1] at h1
       rw [hatI j hj,(hour j).2.2.1] at h2
       rw [(hoth g c1 c2).1,(hour j).1]
       exact hmix g j c1 c2 hj h1 h2
     · rw [hatI i hi,(hour i).2.2.1] at h1
       rw [hatO g' d1 d2,(hoth g' d1 d2).2.2.1] at h2
       rw [(hoth g' d1 d2).1,(hour i).1]
       exact fun e=>hmix g' i d1 d2 hi h2 h1 e.symm
     · rw [hatI i hi,(hour i).2.2.1] at h1
       rw [hatI j hj,(hour j).2.2.1] at h2
       rw [(hour i).1,(hour j).1]
       exact hS1.apart i j hi hj (fun e=>hne (by rw [e])) (by rw [Cn];exact h1) (by rw [Cn];exact h2)
   · rw [hwS']
     refine hS1.im b ?_
     subst hS'd
     exact hb.imp id fun h3=>h3.1
 exact ⟨v,S',_,_,he,by rw [hwS'];exact hw1,hevo,hrel',zit hwS' hiS' hup y hv,hK'⟩
mutual
theorem zgj (σ:Nat→Nat):∀ (x:AV),x.pure=true→ren σ x=x
 | .any,_=>rfl
 | .bool _,_=>rfl
 | .int _ _,_=>rfl
 | .str _,_=>rfl
 | .nilS,_=>rfl
 | .nul,_=>rfl
 | .emp,_=>rfl
 | .lst _ _,_=>rfl
 | .full _ _,_=>rfl
 | .cptr _,_=>rfl
 | .nilP,_=>rfl
 | .nilF,_=>rfl
 | .yld _,_=>rfl
 | .map _ _,h=>by cases h
 | .ref _ _ _ _,h=>by cases h
 | .ptr _ _ _ _,h=>by cases h
 | .agg cs,h=>by rw [ren,Hu σ cs h]
 | .tup cs,h=>by rw [ren,Hu σ cs h]
 | .fn f cs,h=>by rw [ren,Hu σ cs h]
theorem Hu (σ:Nat→Nat):∀ (xs:List AV),Ay xs=true→renL σ xs=xs
 | [],_=>rfl
 | x :: xs,h=>by
   simp only [Ay,Bool.and_eq_true] at h
   rw [renL,zgj σ x h.1,Hu σ xs h.2]
end
mutual
theorem Pd (m:Nat):∀ (x:AV),x.pure=true→ltV m x
 | .any,_=>trivial
 | .bool _,_=>trivial
 | .int _ _,_=>trivial
 | .str _,_=>trivial
 | .nilS,_=>trivial
 | .nul,_=>trivial
 | .emp,_=>trivial
 | .lst _ _,_=>trivial
 | .full _ _,_=>trivial
 | .cptr _,_=>trivial
 | .nilP,_=>trivial
 | .nilF,_=>trivial
 | .yld _,_=>trivial
 | .map _ _,h=>by cases h
 | .ref _ _ _ _,h=>by cases h
 | .ptr _ _ _ _,h=>by cases h
 | .agg cs,h=>Ev m cs h
 | .tup cs,h=>Ev m cs h
 | .fn f cs,h=>Ev m cs h
theorem Ev (m:Nat):∀ (xs:List AV),Ay xs=true→ltL m xs
 | [],_=>trivial
 | x :: xs,h=>by
   simp only [Ay,Bool.and_eq_true] at h
   exact ⟨Pd m x h.1,Ev m xs h.2⟩
end
def renM (σ:Nat→Nat) (xs:List AV):List AV:=renL σ xs
def ltM (m:Nat) (xs:List AV):Prop:=ltL m xs
section
variable {ks:List Nat} {N i m g k v o n w f:Nat} {x:AV} {xs cs:List AV} {e:Bool} {G:Grp} {r l:List Grp}
theorem zmf:renL (sg ks N) xs=bif Ay xs then xs else renM (sg ks N) xs:=by
 cases h:Ay xs
 · rfl
 · exact Hu _ xs h
theorem zq6:ltL m xs=ifB (Ay xs) (ltM m xs):=propext ⟨fun h=>.inr h,fun h=>h.elim (Ev m xs) id⟩
theorem zgk:renM (sg ks N) []=[]:=rfl
theorem zbj:renM (sg ks N) (x :: xs)=ren (sg ks N) x :: renM (sg ks N) xs:=rfl
theorem zmg:ltM m []=True:=rfl
theorem zgl:ltM m (x :: xs)=(ltV m x∧ltM m xs):=rfl
theorem zq7:ren (sg ks N) .any=.any:=rfl
theorem zmh {b:Bool}:ren (sg ks N) (.bool b)=.bool b:=rfl
theorem zq8 {q:IntKind} {z:Int}:ren (sg ks N) (.int q z)=.int q z:=rfl
theorem zq9 {s:List UInt8}:ren (sg ks N) (.str s)=.str s:=rfl
theorem zmi:ren (sg ks N) .nilS=.nilS:=rfl
theorem zqa:ren (sg ks N) .nul=.nul:=rfl
theorem zqb:ren (sg ks N) .emp=.emp:=rfl
theorem zmj:ren (sg ks N) .nilP=.nilP:=rfl
theorem zmk:ren (sg ks N) .nilF=.nilF:=rfl
theorem zqc:ren (sg ks N) (.lst w xs)=.lst w xs:=rfl
theorem zml:ren (sg ks N) (.full w xs)=.full w xs:=rfl
theorem zmm:ren (sg ks N) (.cptr x)=.cptr x:=rfl
theorem zqd:ren (sg ks N) (.ref g v o n)=.ref (sg ks N g) v o n:=rfl
theorem zqe:ren (sg ks N) (.ptr g v i o)=.ptr (sg ks N g) v i o:=rfl
theorem zqf:ren (sg ks N) (.map g v)=.map (sg ks N g) v:=rfl
theorem zqg:ren (sg ks N) (.agg cs)=.agg (renL (sg ks N) cs):=rfl
theorem zqh:ren (sg ks N) (.tup cs)=.tup (renL (sg ks N) cs):=rfl
theorem re_fn:ren (sg ks N) (.fn f cs)=.fn f (renL (sg ks N) cs):=rfl
theorem zqi:ltV m .any=True:=rfl
theorem zmn {b:Bool}:ltV m (.bool b)=True:=rfl
theorem zqj {q:IntKind} {z:Int}:ltV m (.int q z)=True:=rfl
theorem zqk {s:List UInt8}:ltV m (.str s)=True:=rfl
theorem zmo:ltV m .nilS=True:=rfl
theorem zql:ltV m .nul=True:=rfl
theorem zqm:ltV m .emp=True:=rfl
theorem zmp:ltV m .nilP=True:=rfl
theorem zmq:ltV m .nilF=True:=rfl
theorem zqn:ltV m (.lst w xs)=True:=rfl
theorem zmr:ltV m (.full w xs)=True:=rfl
theorem zms:ltV m (.cptr x)=True:=rfl
theorem zqo:ltV m (.ref g v o n)=(g < m):=rfl
theorem zqp:ltV m (.ptr g v i o)=(g < m):=rfl
theorem zqq:ltV m (.map g v)=(g < m):=rfl
theorem zqr:ltV m (.agg cs)=ltL m cs:=rfl
theorem zqs:ltV m (.tup cs)=ltL m cs:=rfl
theorem lv_fn:ltV m (.fn f cs)=ltL m cs:=rfl
theorem sg_eq:sg ks N i=if i < ks.length then ks.getD i 0 else N + (i - ks.length):=rfl
theorem reG {σ:Nat→Nat}:renG σ ⟨w,v,e,xs⟩=⟨w,v,e,renL σ xs⟩:=rfl
theorem zqt:setG [] r l=l ++ r:=rfl
theorem zmt:setG (k :: ks) (G :: r) l=setG ks r (l.set k G):=rfl
end
attribute [push_cast] zmf zq6 zgk zbj zmg zgl zq7 zmh zq8 zq9 zmi zqa zqb zmj zmk zqc zml zmm zqd zqe zqf zqg zqh re_fn
attribute [push_cast] zqi zmn zqj zqk zmo zql zqm zmp zmq zqn zmr zms zqo zqp zqq zqr zqs lv_fn sg_eq reG zqt zmt List.set_cons_zero List.set_cons_succ List.getD_cons_zero List.getD_cons_succ
theorem Hv {P:Program} {f:Nat} {xs0 xs:List AV} {l0 l:List Grp} {K0 K:AV→Ac→Prop} (ks:List Nat) (h:Bn P f xs0 (hl l0) K0) (hn:ks.Nodup) (hk:∀ k ∈ ks,k < l.length) (hxs:renL (sg ks l.length) xs0=xs)
   (hl0:l0.map (renG (sg ks l.length))=ks.map (fun k=>l.getD k default)) (hlt:ltL ks.length xs0) (hltG:∀ G ∈ l0,ltL ks.length G.xs)
   (hK:∀ y H',K0 y H'→∃ l',H'=hl l'∧ks.length ≤ l'.length∧@nx (ren (sg ks l.length) y) (hl (setG ks (l'.map (renG (sg ks l.length))) l)) ⟨K⟩):@z0d P f xs (hl l) ⟨K⟩ :=
 Xt ks h hxs hl0 hn hk hlt hltG hK
section
variable {P:Program} {n b:Nat} {env:Env} {H:Ac}
theorem Ss {S:MS} {l2:List Grp} {H1:Ac} {ks:List Nat} {val:Nat→Value} (hS:SRel S (hl l2)) (hF:∀ i,VRel S (rnV b H1 ks 6 (env i)) (val i)):∀ {live:List (Nat × AV)},Mz l2 H1 b ks env live→∀ i,VRel S (Dc live i) (val i)
 | [],_,i=>trivial
 | (t,y) :: r,h,i=>by
   show VRel S (if i=t then y else Dc r i) _
   split
   · rename_i hit
     subst hit
     exact Xo (.inl hS) _ h.1 (hF i)
   · exact Ss hS hF h.2 i
theorem Uz:∀ (ws:List Nat) {S:MS} {l:List Grp} {val:Nat→Value},(∀ w ∈ ws,0 < w)→SRel S (hl l)→(∀ i,VRel S (env i) (val i))→∃ S',S'.w=S.w∧Evo S S'∧SRel S' (hl (l ++ ws.map Hm))∧∀ i,VRel S' (env i) (val i)
 | [],S,l,val,_,hS,hF=>⟨S,rfl,.refl S,by simpa using hS,hF⟩
 | w :: ws,S,l,val,hw,hS,hF=>by
   have h1:=hS.virt w (hw w (by simp))
   rw [D3] at h1
   obtain ⟨S',e1,e2,e3,e4⟩:=Uz ws (S:=S.virt w) (l:=l ++ [Hm w]) (fun w' h'=>hw w' (by simp [h'])) h1 (fun j=>VRel.mono (Evo.virt _) _ (hF j))
   exact ⟨S',e1,(Evo.virt _).trans e2,by simpa using e3,e4⟩
theorem zgm {srcs:List Src} {live:List (Nat × AV)} {heap:List Grp} {S:MS} {val:Nat→Value} (hh:Head b env H srcs live heap) (hbS:b ≤ S.n) (hS:SRel S H) (hF:∀ i,VRel S (env i) (val i)) :
   ∃ S',S'.w=S.w∧BEvo b S S'∧SRel S' (hl heap)∧∀ i,VRel S' (Dc live i) (val i):=by
 obtain ⟨hb,hh⟩:=hh
 have hgn:H.groups.length=H.n:=by simp [Ac.groups]
 have hS1:SRel S (hl H.groups):=hS.congr hgn (fun g hg=>by
   show H.groups.getD g default=_
   simp [Ac.groups,List.getD,hg])
 obtain ⟨S2,e1,e2,e3,e4⟩:=Uz (Em H.n srcs).2 (Iv hh.1) hS1 hF
 replace hh:=hh.2
 generalize hl1:H.groups ++ (Em H.n srcs).2.map Hm=l1 at *
 obtain ⟨h1,h2,h3,h4⟩:=hh
 have hb1:b ≤ l1.length:=by rw [← hl1,List.length_append];omega
 have hbS2:b ≤ S2.n:=Nat.le_trans hbS e2.n
 obtain ⟨k1,k2⟩:=O6 (ks:=(Em H.n srcs).1) hb1
 have hev:=It (ks:=(Em H.n srcs).1) e3 hbS2
 have hrel:=(L9 (ks:=(Em H.n srcs).1) 6 e3 hb1 (fun k hk=>Of h1 k hk) (Hb h2)).congr k1 k2
 exact ⟨S2.repack b (hl l1) (Em H.n srcs).1,e1,(e2.down hbS).trans hev,Iu hrel h4,Ss hrel (fun j=>z73 e3 6 (e4 j)) h3⟩
def Drop (b:Nat) (y:AV) (H:Ac) [K:HK]:Prop:=∃ srcs y' heap,Head b (Dc [(0,y)]) H srcs [(0,y')] heap∧K.f y' (hl heap)
theorem ziu {y:AV} {K:AV→Ac→Prop} (srcs:List Src) (y':AV) (heap:List Grp) (h1:Head b (Dc [(0,y)]) H srcs [(0,y')] heap) (h2:K y' (hl heap)):@Drop b y H ⟨K⟩:=⟨srcs,y',heap,h1,h2⟩
theorem Pe {f:Nat} {xs:List AV} {l:List Grp} {K:AV→Ac→Prop} (h:Bn P f xs (hl l) (fun y H'=>@Drop l.length y H' ⟨K⟩)):Bn P f xs (hl l) K :=
 ⟨h.1,fun S cargs hS hx=>(h.2 S cargs hS hx).mono fun e w' hh=>by
   obtain ⟨v,S1,y,H',he,hw,ev,hS1,hv,srcs,y',heap,h1,h2⟩:=hh
   have hn:S.n=l.length:=hS.n
   obtain ⟨S2,q1,q2,q3,q4⟩:=zgm (S:=S1) (val:=fun i=>if i=0 then v else undef) h1 (by rw [← hn];exact ev.n) hS1 (fun i=>by
     show VRel S1 (if i=0 then y else .any) _
     split
     · exact hv
     · trivial)
   have hb:=(ev.down (b:=l.length) (by omega)).trans q2
   exact ⟨v,S2,y',_,he,q1.trans hw,⟨hb.base,hb.os,hb.tape,hb.output,hb.size,hb.kept,hb.im,hb.keep,hb.fresh,by rw [hn];exact hb.n,fun g hg=>hb.cur g (by omega),fun g hg=>hb.same g (by omega)⟩,q3,q4 0,h2⟩⟩
theorem zgn {f m np b:Nat} {xs:List AV} {l:List Grp} {K:AV→Ac→Prop} {res:List ARes} {B:AC} (hf:As P f xs.length=some ⟨m,np,res,B⟩) (hb:b=l.length) (h:W P m b B (entry xs) (hl l) (Ret P res fun y H'=>@Drop b y H' ⟨K⟩)):Bn P f xs (hl l) K:=by
 subst hb
 exact Pe (z9l hf (W_T h))
end
theorem zgo (env:Env):setL env [] []=env:=rfl
theorem zbk (env:Env) (p:Nat) (ps:List Nat) (x:AV) (r:List AV):setL env (p :: ps) (x :: r)=setL (env.put (some p) x) ps r:=rfl
attribute [push_cast] zgo zbk
section
variable {P:Program} {n b:Nat} {Q:Ex→Env→Ac→Prop}
def Pf (P:Program) (n b:Nat) (c:AC) (Q:Ex→Env→Ac→Prop):Nat→Env→Ac→Prop
 | 0,_,_=>False
 | m + 1,env,H=>T P n b c env H (Ex.then (Pf P n b c Q m) Q)
theorem Xu {c:AC} {d:Code} (hd:C6 P n d=some c) {rd:Option Nat} {mm:Nat} (hrd:c.free=true ∨ rd=none) {S0:MS}:∀ (m:Nat) (env:Env) (H:Ac) (S:MS) (a:Act),BEvo b S0 S→SRel S H→FRel S n env a→Pf P n b c Q m env H →
   Code.roundsIn (fen rd) mm P d (After S0 n b Q) m a S.w
 | 0,_,_,_,_,_,_,_,h=>h.elim
 | m + 1,env,H,S,a,e0,hS,hF,h=>by
   rw [Code.roundsIn]
   refine wpIn_mono (h rd mm hrd d hd S a e0.n hS hF) fun e a' w' hh=>?_
   obtain ⟨S2,env2,H2,z,rfl,e2,hS2,hF2,rfl,hq⟩:=hh
   cases z with
   | normal=>exact Xu hd hrd m env2 H2 S2 a' (e0.trans e2) hS2 hF2 hq
   | exit id=>exact ⟨S2,env2,H2,.exit id,rfl,e0.trans e2,hS2,hF2,rfl,hq⟩
   | ret=>exact ⟨S2,env2,H2,.ret,rfl,e0.trans e2,hS2,hF2,rfl,hq⟩
theorem z4c {c:AC} {env:Env} {H:Ac} (m:Nat) (h:Pf P n b c Q m env H):T P n b (.loop c) env H Q:=T_of fun rd mm hrd code hc hs S a hb hS hF=>by
 cases code<;>simp only [C6,reduceCtorEq,Option.some.injEq] at hc
 case loop d =>
   obtain ⟨x,hx,hh⟩:=Option.map_eq_some_iff.1 hc
   cases hh
   exact wpIn_loop_rounds m (Xu hx hrd m env H S a (.refl hb) hS hF h)
 case region=>exact absurd hc Ce
 case seq=>split at hc<;>cases hc
 case cond=>split at hc<;>cases hc
 case block=>obtain ⟨_,_,h⟩:=Option.map_eq_some_iff.1 hc;cases h
 case rangeFunc=>split at hc<;>cases hc
 case scope d=>exact absurd rfl (hs d)
theorem Ba {c:AC} {env:Env} {H:Ac} (m:Nat) (h:W P n b c env H (Ex.then (Pf P n b c Q m) Q)):@Je ⟨T P n b (.loop c) env H Q⟩:=z4c (m + 1) (W_T h)
theorem Bl {c:AC} {env:Env} {H:Ac} (m:Nat) (srcs:Env→List Src) (live:List (Nat × AV)) (heap:List Grp) (he:Head b env H (srcs env) live heap) (h:W P n b c (Dc live) (hl heap) (Ex.then (Pf P n b c Q m) Q)):@Je ⟨T P n b (.loop c) env H Q⟩:=zao he (z4c (m + 1) (W_T h))
theorem Am {c:AC} {env:Env} {H:Ac} {m:Nat} (h:W P n b c env H (Ex.then (Pf P n b c Q m) Q)):Pf P n b c Q (m + 1) env H:=W_T h
end
theorem U0 {S:MS}:∀ {xs ys:List AV} {vs:List Value},Af S (xs ++ ys) vs→∃ v1 v2,vs=v1 ++ v2∧Af S xs v1
 | [],ys,vs,h=>⟨[],vs,rfl,rfl⟩
 | x :: xs,ys,vs,h=>by
   obtain ⟨v,r,rfl,h1,h2⟩:=h
   obtain ⟨v1,v2,rfl,h3⟩:=U0 (xs:=xs) (ys:=ys) h2
   exact ⟨v :: v1,v2,rfl,v,v1,rfl,h1,h3⟩
theorem z7i {S:MS} {w v:Nat} {ex:Bool} {xs ys:List AV} (hw:0 < w) (hS:SRel S (hl [⟨w,v,ex,xs ++ ys⟩])):SRel S (hl [⟨w,v,false,xs⟩]):=by
 have h0:GRel S ⟨w,v,ex,xs ++ ys⟩ 0:=hS.grp 0 (by show 0 < 1;omega)
 have hg:GRel S ⟨w,v,false,xs⟩ 0:=by
   refine ⟨h0.ver,h0.wid,fun _ hc=>?_,fun _=>?_,fun _ h=>(by cases h),fun h=>?_⟩
   · obtain ⟨⟨cells,TT,vs,a1,a2,a3,a4⟩,a5⟩:=h0.live hw hc
     obtain ⟨v1,v2,rfl,h1⟩:=U0 a3
     refine ⟨⟨cells,TT,v1,a1,a2,h1,fun i u hu=>a4 i u ?_⟩,a5⟩
     obtain ⟨hl1,_⟩:=List.getElem?_eq_some_iff.1 hu
     rw [List.getElem?_append_left hl1];exact hu
   · have:=h0.len hw
     simp only [List.length_append] at this
     show xs.length ≤ _
     omega
   · simp only at h;omega
 refine ⟨hS.n,fun g hg'=>?_,fun g g' a c hne=>?_,hS.im⟩
 · have hz:g < 1:=hg'
   obtain rfl:g=0:=by omega
   exact hg
 · have a':g < 1:=a
   have c':g' < 1:=c
   omega
theorem Xv {P:Program} {f:Nat} {args:List AV} {H:Ac} {w v:Nat} {ex:Bool} {xs:List AV} {y0:AV} (hw:0 < w) (h:Bn P f args H fun y H'=>∃ ys,y=y0∧H'=hl [⟨w,v,ex,xs ++ ys⟩]):Bn P f args H fun y H'=>y=y0∧H'=hl [⟨w,v,false,xs⟩] :=
 ⟨h.1,fun S cargs hS hx=>(h.2 S cargs hS hx).mono fun e w' hh=>by
   obtain ⟨v,S1,y,H',he,hw',ev,hS1,hv,ys,rfl,rfl⟩:=hh
   exact ⟨v,S1,_,_,he,hw',ev,z7i hw hS1,hv,rfl,rfl⟩⟩
theorem zmu {P:Program} {f:Nat} {xs ys:List AV} {l:List Grp} {K:AV→Ac→Prop} (h1:okA 4 ((hl l).only (B3 xs)) xs) (h2:leSL [] (frA 4 ((hl l).only (B3 xs)) xs) ys) (h3:@z0d P f ys (hl (Gk 0 (B3 xs) l)) ⟨K⟩):@z0d P f xs (hl l) ⟨K⟩ :=
 Si 4 (B3 xs) (Pa h1) (Gj (J6 h2) h3)
def Ck (i:Nat) (ks:List Nat):List Grp→List Grp→Prop
 | [],_=>True
 | _ :: _,[]=>False
 | G :: l,G' :: l'=>(i ∈ ks ∨ G=G')∧Ck (i + 1) ks l l'
theorem Ck.of {ks:List Nat}:∀ {i:Nat} {l l':List Grp},Ck i ks l l'→l.length ≤ l'.length∧∀ g,i + g ∉ ks→g < l.length→l'.getD g default=l.getD g default
 | _,[],_,_=>⟨by simp,fun g _ h=>absurd h (by simp)⟩
 | _,_ :: _,[],h=>h.elim
 | i,G :: l,G' :: l',h=>by
   obtain ⟨h1,h2⟩:=Ck.of h.2
   refine ⟨by simpa using h1,fun g hg hl=>?_⟩
   cases g with
   | zero =>
     rcases h.1 with h3|h3
     · exact absurd h3 hg
     · simp [h3]
   | succ g =>
     have:=h2 g (by rwa [show i + 1 + g=i + (g + 1) by omega]) (by simpa using hl)
     simpa using this
def effB (ks:List Nat):AK→List Grp→List Grp→Prop
 | .app ..,l,l'=>Ck 0 ks l l'
 | .mkMap,l,l'=>Ck 0 ks l l'
 | .mapSet,l,l'=>Ck 0 ks l l'
 | _,_,_=>True
theorem zbl {ks:List Nat} {k:AK} {l l':List Grp} (h:effB ks k l l') (h2:k.eff=some 2):l.length ≤ l'.length∧∀ g,g ∉ ks→g < l.length→l'.getD g default=l.getD g default:=by
 have key:Ck 0 ks l l':=by cases k<;>first|exact h|(simp [AK.eff] at h2)
 obtain ⟨a,c⟩:=key.of
 exact ⟨a,fun g hg=>c g (by simpa using hg)⟩
def xk (P:Program) (ks:List Nat):List Bool→List AOp→Env→List Grp→(Env→List Grp→Prop)→Prop
 | _,[],env,l,K=>K env l
 | fl,⟨dst,args,none,k⟩ :: r,env,l,K=>(fl.headD false=true→Bi (· ∉ ks) (args.map (·.eval env)))∧@opG P k l (args.map (·.eval env)) ⟨fun x l'=>effB ks k l l'∧xk P ks fl.tail r (env.put dst x) l' K⟩
 | fl,⟨dst,args,some (d,want),k⟩ :: r,env,l,K=>@Ed (env d) want
     ⟨(fl.headD false=true→Bi (· ∉ ks) (args.map (·.eval (env.put (some d) (.bool want)))))∧@opG P k l (args.map (·.eval (env.put (some d) (.bool want)))) ⟨fun x l'=>effB ks k l l'∧xk P ks fl.tail r ((env.put (some d) (.bool want)).put dst x) l' K⟩⟩
     ⟨xk P ks fl.tail r ((env.put (some d) (.bool (!want))).put dst (.tup [])) l K⟩ ⟨xk P ks fl.tail r (env.put dst (.tup [])) l K⟩
theorem Pg (P:Program) (ks:List Nat):∀ (L:List AOp) (fl:List Bool) (env:Env) (l:List Grp) {K:Env→List Grp→Prop},xk P ks fl L env l K→runX P ks fl L env l K
 | [],_,_,_,_,h=>h
 | ⟨dst,args,none,k⟩ :: r,fl,env,l,K,h=>by
   obtain ⟨h0,h'⟩:=h
   have:=L6 h'
   simp only [runX,Fv,AOp.vals,if_true]
   split at this
   · rename_i he
     rw [if_pos he]
     obtain ⟨x,h1,h2⟩:=this
     exact ⟨h0,x,h1,Pg P ks r _ _ _ h2.2⟩
   · rename_i he
     rw [if_neg he]
     obtain ⟨x,l',b1,b2,b3⟩:=this
     exact ⟨x,l',b1,b2,zbl b3.1,h0,Pg P ks r _ _ _ b3.2⟩
 | ⟨dst,args,some (d,want),k⟩ :: r,fl,env,l,K,h=>by
   have h':Fu (env d) want ((fl.headD false=true→Bi (· ∉ ks) (args.map (·.eval (env.put (some d) (.bool want)))))∧@opG P k l (args.map (·.eval (env.put (some d) (.bool want)))) ⟨fun x l'=>effB ks k l l'∧xk P ks fl.tail r ((env.put (some d) (.bool want)).put dst x) l' K⟩)
     (xk P ks fl.tail r ((env.put (some d) (.bool (!want))).put dst (.tup [])) l K) (xk P ks fl.tail r (env.put dst (.tup [])) l K):=h
   simp only [runX,Fv,AOp.vals,if_true,Bool.false_eq_true,if_false]
   refine J4 (fun h1=>?_) (fun h1=>Pg P ks r _ _ _ h1) (fun h1=>Pg P ks r _ _ _ h1) h'
   obtain ⟨h0,h1⟩:=h1
   have:=L6 h1
   split at this
   · rename_i he
     obtain ⟨x,h1,h2⟩:=this
     rw [if_pos he]
     exact ⟨h0,x,h1,Pg P ks r _ _ _ h2.2⟩
   · rename_i he
     rw [if_neg he]
     obtain ⟨x,l',b1,b2,b3⟩:=this
     exact ⟨x,l',b1,b2,zbl b3.1,h0,Pg P ks r _ _ _ b3.2⟩
section
variable {P:Program} {n b:Nat} {Q:Ex→Env→Ac→Prop} {ks:List Nat} {env:Env} {l:List Grp} {K:Env→List Grp→Prop} {fl:List Bool} {r:List AOp} {dst:Option Nat} {args:List AArg} {k:AK}
theorem Cl {L:List AOp} (ks:List Nat) (h:xk P ks fl L env l fun env' l'=>Q .normal env' (hl l')):@Je ⟨T P n b (.grx fl L) env (hl l) Q⟩:=T_grx ks (Pg P ks L fl env l h)
theorem F4 {x:AV} {w:Bool} {p p2 q s:HP} (h:p.p=p2.p):@Ed x w p q s=@Ed x w p2 q s:=by cases p;cases p2;cases h;rfl
theorem xk1:xk P ks fl [] env l K=K env l:=by cases fl<;>rfl
theorem xk2:xk P ks (false :: fl) (⟨dst,args,none,k⟩ :: r) env l K=@opG P k l (args.map (·.eval env)) ⟨fun x l'=>effB ks k l l'∧xk P ks fl r (env.put dst x) l' K⟩:=propext ⟨fun h=>h.2,fun h=>⟨fun h0=>(by cases h0),h⟩⟩
theorem xk3:xk P ks (true :: fl) (⟨dst,args,none,k⟩ :: r) env l K=(Bi (· ∉ ks) (args.map (·.eval env))∧@opG P k l (args.map (·.eval env)) ⟨fun x l'=>effB ks k l l'∧xk P ks fl r (env.put dst x) l' K⟩):=propext ⟨fun h=>⟨h.1 rfl,h.2⟩,fun h=>⟨fun _=>h.1,h.2⟩⟩
theorem xk4 {d:Nat} {want:Bool}:xk P ks (false :: fl) (⟨dst,args,some (d,want),k⟩ :: r) env l K=@Ed (env d) want
     ⟨@opG P k l (args.map (·.eval (env.put (some d) (.bool want)))) ⟨fun x l'=>effB ks k l l'∧xk P ks fl r ((env.put (some d) (.bool want)).put dst x) l' K⟩⟩
     ⟨xk P ks fl r ((env.put (some d) (.bool (!want))).put dst (.tup [])) l K⟩ ⟨xk P ks fl r (env.put dst (.tup [])) l K⟩:=F4 (propext ⟨fun h=>h.2,fun h=>⟨fun h0=>(by cases h0),h⟩⟩)
theorem xk5 {d:Nat} {want:Bool}:xk P ks (true :: fl) (⟨dst,args,some (d,want),k⟩ :: r) env l K=@Ed (env d) want
     ⟨Bi (· ∉ ks) (args.map (·.eval (env.put (some d) (.bool want))))∧@opG P k l (args.map (·.eval (env.put (some d) (.bool want)))) ⟨fun x l'=>effB ks k l l'∧xk P ks fl r ((env.put (some d) (.bool want)).put dst x) l' K⟩⟩
     ⟨xk P ks fl r ((env.put (some d) (.bool (!want))).put dst (.tup [])) l K⟩ ⟨xk P ks fl r (env.put dst (.tup [])) l K⟩:=F4 (propext ⟨fun h=>⟨h.1 rfl,h.2⟩,fun h=>⟨fun _=>h.1,h.2⟩⟩)
variable {l2:List Grp}
theorem xk6 {w s:Nat} {z:AV}:effB ks (.app w s z) l l2=Ck 0 ks l l2:=rfl
theorem xk7:effB ks .mapSet l l2=Ck 0 ks l l2:=rfl
theorem xk8:effB ks .mkMap l l2=Ck 0 ks l l2:=rfl
theorem zqu  : effB ks (.mv ) l l2=True:=rfl
theorem zbm  : effB ks (.pick ) l l2=True:=rfl
theorem z4d {a0:AV} {a1:Nat}:effB ks (.alloc a0 a1) l l2=True:=rfl
theorem ziv  : effB ks (.box ) l l2=True:=rfl
theorem z4e {a0:List AV} {a1:List (Nat × Nat)} {a2:List Nat}:effB ks (.build a0 a1 a2) l l2=True:=rfl
theorem Xw {a0:Nat} {a1:Nat} {a2:AV} {a3:List Nat}:effB ks (.bslice a0 a1 a2 a3) l l2=True:=rfl
theorem zbn {a0:Bool} {a1:Nat}:effB ks (.load a0 a1) l l2=True:=rfl
theorem z4f {a0:Nat}:effB ks (.store a0) l l2=True:=rfl
theorem Ph  : effB ks (.nilCheck ) l l2=True:=rfl
theorem ziw {a0:BinOp}:effB ks (.bin a0) l l2=True:=rfl
theorem zix {a0:Bool}:effB ks (.eqb a0) l l2=True:=rfl
theorem ziy {a0:Bool} {a1:List Nat}:effB ks (.eqs a0 a1) l l2=True:=rfl
theorem ziz {a0:Bool}:effB ks (.eqn a0) l l2=True:=rfl
theorem zqv {a0:UnOp}:effB ks (.un a0) l l2=True:=rfl
theorem zbo {a0:IntKind}:effB ks (.conv a0) l l2=True:=rfl
theorem z4g  : effB ks (.toStr ) l l2=True:=rfl
theorem z4h {a0:Nat} {a1:Bool} {a2:Bool} {a3:Bool}:effB ks (.slice a0 a1 a2 a3) l l2=True:=rfl
theorem z4i {a0:Bool} {a1:Nat} {a2:Nat}:effB ks (.faddr a0 a1 a2) l l2=True:=rfl
theorem z4j {a0:Bool} {a1:Nat} {a2:Nat}:effB ks (.field a0 a1 a2) l l2=True:=rfl
theorem z4k {a0:Nat}:effB ks (.iaddr a0) l l2=True:=rfl
theorem Xx {a0:Nat} {a1:Nat} {a2:Bool}:effB ks (.iaddrA a0 a1 a2) l l2=True:=rfl
theorem z4l {a0:Nat} {a1:Nat} {a2:Bool}:effB ks (.index a0 a1 a2) l l2=True:=rfl
theorem Pi  : effB ks (.indexStr ) l l2=True:=rfl
theorem Su {a0:Nat}:effB ks (.extract a0) l l2=True:=rfl
theorem zj0 {a0:Bool}:effB ks (.len a0) l l2=True:=rfl
theorem zj1  : effB ks (.max ) l l2=True:=rfl
theorem zj2  : effB ks (.min ) l l2=True:=rfl
theorem Sv {a0:Nat} {a1:Nat} {a2:AV}:effB ks (.mkSlice a0 a1 a2) l l2=True:=rfl
theorem Xy {a0:Nat}:effB ks (.mkFunc a0) l l2=True:=rfl
theorem Xz {a0:AV}:effB ks (.mapGet a0) l l2=True:=rfl
theorem zbp  : effB ks (.call ) l l2=True:=rfl
theorem sb1 {i:Nat}:Ck i ks [] l=True:=rfl
theorem sb2 {i:Nat} {G G2:Grp}:Ck i ks (G :: l) (G2 :: l2)=((i ∈ ks ∨ G=G2)∧Ck (i + 1) ks l l2):=rfl
end
theorem xx:type_of% (And.intro @xk1 <| And.intro @xk2 <| And.intro @xk3 <| And.intro @xk4 <| And.intro @xk5 <| And.intro @xk6 <| And.intro @xk7 <| And.intro @xk8 <| And.intro @zqu <| And.intro @zbm <| And.intro @z4d <| And.intro @ziv <| And.intro @z4e <| And.intro @Xw <| And.intro @zbn <| And.intro @z4f <| And.intro @Ph <| And.intro @ziw <| And.intro @zix <| And.intro @ziy <| And.intro @ziz <| And.intro @zqv <| And.intro @zbo <| And.intro @z4g <| And.intro @z4h <| And.intro @z4i <| And.intro @z4j <| And.intro @z4k <| And.intro @Xx <| And.intro @z4l <| And.intro @Pi <| And.intro @Su <| And.intro @zj0 <| And.intro @zj1 <| And.intro @zj2 <| And.intro @Sv <| And.intro @Xy <| And.intro @Xz <| And.intro @zbp <| And.intro @sb1 <| @sb2):=And.intro @xk1 <| And.intro @xk2 <| And.intro @xk3 <| And.intro @xk4 <| And.intro @xk5 <| And.intro @xk6 <| And.intro @xk7 <| And.intro @xk8 <| And.intro @zqu <| And.intro @zbm <| And.intro @z4d <| And.intro @ziv <| And.intro @z4e <| And.intro @Xw <| And.intro @zbn <| And.intro @z4f <| And.intro @Ph <| And.intro @ziw <| And.intro @zix <| And.intro @ziy <| And.intro @ziz <| And.intro @zqv <| And.intro @zbo <| And.intro @z4g <| And.intro @z4h <| And.intro @z4i <| And.intro @z4j <| And.intro @z4k <| And.intro @Xx <| And.intro @z4l <| And.intro @Pi <| And.intro @Su <| And.intro @zj0 <| And.intro @zj1 <| And.intro @zj2 <| And.intro @Sv <| And.intro @Xy <| And.intro @Xz <| And.intro @zbp <| And.intro @sb1 <| @sb2
theorem zgp {P:Program} {l:List Grp} {xs:List AV} {K:AV→List Grp→Prop}:@opG P .mapSet l xs ⟨K⟩=@opK P .mapSet (hl l) xs ⟨fun x H'=>∀ l',H'=hl l'→K x l'⟩:=(z7f rfl rfl).trans (by simp only [AK.appOk,Uf,true_and])
attribute [push_cast] zgb zgp
def effY (ks:List Nat):AK→List Grp→List Grp→Prop
 | .app ..,l,l'=>Ck 0 ks l l'
 | .mkMap,l,l'=>Ck 0 ks l l'
 | .mapSet,l,l'=>Ck 0 ks l l'
 | .store _,l,l'=>Ck 0 ks l l'∧l'.length=l.length
 | _,_,_=>True
theorem U1 {ks:List Nat} {k:AK} {l l':List Grp} (h:effY ks k l l'):((k.eff=some 1 ∨ k.eff=some 2)→l.length ≤ l'.length∧∀ g,g ∉ ks→g < l.length→l'.getD g default=l.getD g default)∧(k.eff=some 1→l'.length=l.length):=by
 have key:(k.eff=some 1 ∨ k.eff=some 2)→Ck 0 ks l l':=fun h2=>by cases k<;>first|exact h|exact h.1|(simp [AK.eff] at h2)
 refine ⟨fun h2=>?_,fun h2=>by cases k<;>first|exact h.2|(simp [AK.eff] at h2)⟩
 obtain ⟨a,c⟩:=(key h2).of
 exact ⟨a,fun g hg=>c g (by simpa using hg)⟩
def gsOk:List (Option Nat)→List AOp→Bool
 | _,[]=>true
 | gs,o :: r=>(match gs.headD none with|some _=>o.guard.isNone && o.args.isEmpty|none=>!o.k.laid) && gsOk gs.tail r
def xy (P:Program) (ks:List Nat):List (Option Nat)→List Bool→List AOp→Env→List Grp→(Env→List Grp→Prop)→Prop
 | _,_,[],env,l,K=>K env l
 | gs,fl,⟨dst,args,none,k⟩ :: r,env,l,K=>match gs.headD none with
   | some g=>(match k with
     | .alloc z w=>g < l.length∧(hl l).at_ g=⟨w,1,true,[]⟩∧g ∈ ks∧∀ l',(hl l).set g ⟨w,2,true,[z]⟩=hl l'→xy P ks gs.tail fl.tail r (env.put dst (.ptr g 2 0 0)) l' K
     | _=>False)
   | none=>(fl.headD false=true→Bi (· ∉ ks) (args.map (·.eval env)))∧@opG P k l (args.map (·.eval env)) ⟨fun x l'=>effY ks k l l'∧xy P ks gs.tail fl.tail r (env.put dst x) l' K⟩
 | gs,fl,⟨dst,args,some (d,want),k⟩ :: r,env,l,K=>@Ed (env d) want
     ⟨(fl.headD false=true→Bi (· ∉ ks) (args.map (·.eval (env.put (some d) (.bool want)))))∧@opG P k l (args.map (·.eval (env.put (some d) (.bool want)))) ⟨fun x l'=>effY ks k l l'∧xy P ks gs.tail fl.tail r ((env.put (some d) (.bool want)).put dst x) l' K⟩⟩
     ⟨xy P ks gs.tail fl.tail r ((env.put (some d) (.bool (!want))).put dst (.tup [])) l K⟩ ⟨xy P ks gs.tail fl.tail r (env.put dst (.tup [])) l K⟩
theorem M2 (P:Program) (ks:List Nat):∀ (L:List AOp) (gs:List (Option Nat)) (fl:List Bool) (env:Env) (l:List Grp) {K:Env→List Grp→Prop},gsOk gs L=true→xy P ks gs fl L env l K→runY P ks fl L env l K
 | [],_,_,_,_,_,_,h=>by simpa only [xy,runY] using h
 | ⟨dst,args,none,k⟩ :: r,gs,fl,env,l,K,hg,h=>by
   simp only [gsOk,Bool.and_eq_true] at hg
   simp only [xy] at h
   simp only [runY,Fv,AOp.vals,if_true]
   cases hh:gs.headD none with
   | some g =>
     rw [hh] at h hg
     cases k<;>first|exact h.elim|skip
     rename_i z w
     obtain ⟨h1,h2,h3,h4⟩:=h
     have ha:args=[]:=by
       cases args with
       | nil=>rfl
       | cons _ _=>simp at hg
     subst ha
     rw [if_pos (show AK.laid (.alloc z w)=true from rfl)]
     exact ⟨_,_,⟨rfl,z,w,g,rfl,h1,h2,h3,rfl,rfl⟩,M2 P ks r _ _ _ _ hg.2 (h4 _ (F3 _ _ _ h1))⟩
   | none =>
     rw [hh] at h hg
     have hl:k.laid=false:=by simpa using hg.1
     rw [if_neg (by rw [hl];simp)]
     obtain ⟨h0,h'⟩:=h
     have:=L6 h'
     split at this
     · rename_i he
       rw [if_pos he]
       obtain ⟨x,h1,h2⟩:=this
       exact ⟨h0,x,h1,M2 P ks r _ _ _ _ hg.2 h2.2⟩
     · rename_i he
       rw [if_neg he]
       obtain ⟨x,l',b1,b2,b3⟩:=this
       exact ⟨x,l',b1,b2,(U1 b3.1).1,(U1 b3.1).2,h0,M2 P ks r _ _ _ _ hg.2 b3.2⟩
 | ⟨dst,args,some (d,want),k⟩ :: r,gs,fl,env,l,K,hg,h=>by
   simp only [gsOk,Bool.and_eq_true] at hg
   have hl:k.laid=false:=by
     cases hh:gs.headD none with
     | some g=>rw [hh] at hg;simp at hg
     | none=>rw [hh] at hg;simpa using hg.1
   have h':Fu (env d) want ((fl.headD false=true→Bi (· ∉ ks) (args.map (·.eval (env.put (some d) (.bool want)))))∧@opG P k l (args.map (·.eval (env.put (some d) (.bool want)))) ⟨fun x l'=>effY ks k l l'∧xy P ks gs.tail fl.tail r ((env.put (some d) (.bool want)).put dst x) l' K⟩)
     (xy P ks gs.tail fl.tail r ((env.put (some d) (.bool (!want))).put dst (.tup [])) l K) (xy P ks gs.tail fl.tail r (env.put dst (.tup [])) l K):=h
   simp only [runY,Fv,AOp.vals,if_true,Bool.false_eq_true,if_false]
   refine J4 (fun h1=>?_) (fun h1=>M2 P ks r _ _ _ _ hg.2 h1) (fun h1=>M2 P ks r _ _ _ _ hg.2 h1) h'
   rw [if_neg (by rw [hl];simp)]
   obtain ⟨h0,h1⟩:=h1
   have:=L6 h1
   split at this
   · rename_i he
     obtain ⟨x,h1,h2⟩:=this
     rw [if_pos he]
     exact ⟨h0,x,h1,M2 P ks r _ _ _ _ hg.2 h2.2⟩
   · rename_i he
     rw [if_neg he]
     obtain ⟨x,l',b1,b2,b3⟩:=this
     exact ⟨x,l',b1,b2,(U1 b3.1).1,(U1 b3.1).2,h0,M2 P ks r _ _ _ _ hg.2 b3.2⟩
section
variable {P:Program} {n b:Nat} {Q:Ex→Env→Ac→Prop} {ks:List Nat} {gs:List (Option Nat)} {g:Nat} {env:Env} {l:List Grp} {K:Env→List Grp→Prop} {f:Bool} {fl:List Bool} {r:List AOp} {dst:Option Nat} {args:List AArg} {k:AK}
theorem U2 {L:List AOp} (ks:List Nat) (ws:List Nat) (gs:List (Option Nat)) (hw:∀ w ∈ ws,0 < w) (hg:gsOk gs L=true) (h:xy P ks gs fl L env (l ++ ws.map Hm) fun env' l'=>Q .normal env' (hl l')):@Je ⟨T P n b (.gry fl L) env (hl l) Q⟩:=z0h ws hw (zo8 ks (M2 P ks L gs fl env _ hg h))
theorem xy1:xy P ks gs fl [] env l K=K env l:=by simp only [xy]
theorem xy2:xy P ks (none :: gs) (false :: fl) (⟨dst,args,none,k⟩ :: r) env l K=@opG P k l (args.map (·.eval env)) ⟨fun x l'=>effY ks k l l'∧xy P ks gs fl r (env.put dst x) l' K⟩:=by simp only [xy];exact propext ⟨fun h=>h.2,fun h=>⟨fun h0=>(by cases h0),h⟩⟩
theorem xy3:xy P ks (none :: gs) (true :: fl) (⟨dst,args,none,k⟩ :: r) env l K=(Bi (· ∉ ks) (args.map (·.eval env))∧@opG P k l (args.map (·.eval env)) ⟨fun x l'=>effY ks k l l'∧xy P ks gs fl r (env.put dst x) l' K⟩):=by simp only [xy];exact propext ⟨fun h=>⟨h.1 rfl,h.2⟩,fun h=>⟨fun _=>h.1,h.2⟩⟩
theorem xy4 {d:Nat} {want:Bool}:xy P ks (none :: gs) (false :: fl) (⟨dst,args,some (d,want),k⟩ :: r) env l K=@Ed (env d) want
     ⟨@opG P k l (args.map (·.eval (env.put (some d) (.bool want)))) ⟨fun x l'=>effY ks k l l'∧xy P ks gs fl r ((env.put (some d) (.bool want)).put dst x) l' K⟩⟩
     ⟨xy P ks gs fl r ((env.put (some d) (.bool (!want))).put dst (.tup [])) l K⟩ ⟨xy P ks gs fl r (env.put dst (.tup [])) l K⟩:=by simp only [xy];exact F4 (propext ⟨fun h=>h.2,fun h=>⟨fun h0=>(by cases h0),h⟩⟩)
theorem xy5 {d:Nat} {want:Bool}:xy P ks (none :: gs) (true :: fl) (⟨dst,args,some (d,want),k⟩ :: r) env l K=@Ed (env d) want
     ⟨Bi (· ∉ ks) (args.map (·.eval (env.put (some d) (.bool want))))∧@opG P k l (args.map (·.eval (env.put (some d) (.bool want)))) ⟨fun x l'=>effY ks k l l'∧xy P ks gs fl r ((env.put (some d) (.bool want)).put dst x) l' K⟩⟩
     ⟨xy P ks gs fl r ((env.put (some d) (.bool (!want))).put dst (.tup [])) l K⟩ ⟨xy P ks gs fl r (env.put dst (.tup [])) l K⟩:=by simp only [xy];exact F4 (propext ⟨fun h=>⟨h.1 rfl,h.2⟩,fun h=>⟨fun _=>h.1,h.2⟩⟩)
theorem xy6 {z:AV} {w:Nat}:xy P ks (some g :: gs) (f :: fl) (⟨dst,args,none,.alloc z w⟩ :: r) env l K=(g < l.length∧(hl l).at_ g=⟨w,1,true,[]⟩∧g ∈ ks∧∀ l',(hl l).set g ⟨w,2,true,[z]⟩=hl l'→xy P ks gs fl r (env.put dst (.ptr g 2 0 0)) l' K):=by simp only [xy];rfl
theorem xy7:xy P ks [] fl (⟨dst,args,none,k⟩ :: r) env l K=xy P ks [none] fl (⟨dst,args,none,k⟩ :: r) env l K:=by simp only [xy];rfl
theorem xy8 {d:Nat} {want:Bool}:xy P ks [] fl (⟨dst,args,some (d,want),k⟩ :: r) env l K=xy P ks [none] fl (⟨dst,args,some (d,want),k⟩ :: r) env l K:=by simp only [xy];rfl
variable {l2:List Grp}
theorem zj3 {w s:Nat} {z:AV}:effY ks (.app w s z) l l2=Ck 0 ks l l2:=rfl
theorem X0:effY ks .mapSet l l2=Ck 0 ks l l2:=rfl
theorem z4m:effY ks .mkMap l l2=Ck 0 ks l l2:=rfl
theorem z4n {s:Nat}:effY ks (.store s) l l2=(Ck 0 ks l l2∧l2.length=l.length):=rfl
theorem zqw  : effY ks (.mv ) l l2=True:=rfl
theorem zbq  : effY ks (.pick ) l l2=True:=rfl
theorem z4o {a0:AV} {a1:Nat}:effY ks (.alloc a0 a1) l l2=True:=rfl
theorem zj4  : effY ks (.box ) l l2=True:=rfl
theorem z4p {a0:List AV} {a1:List (Nat × Nat)} {a2:List Nat}:effY ks (.build a0 a1 a2) l l2=True:=rfl
theorem X3 {a0:Nat} {a1:Nat} {a2:AV} {a3:List Nat}:effY ks (.bslice a0 a1 a2 a3) l l2=True:=rfl
theorem zbr {a0:Bool} {a1:Nat}:effY ks (.load a0 a1) l l2=True:=rfl
theorem Pj  : effY ks (.nilCheck ) l l2=True:=rfl
theorem zj5 {a0:BinOp}:effY ks (.bin a0) l l2=True:=rfl
theorem zj6 {a0:Bool}:effY ks (.eqb a0) l l2=True:=rfl
theorem zj7 {a0:Bool} {a1:List Nat}:effY ks (.eqs a0 a1) l l2=True:=rfl
theorem zj8 {a0:Bool}:effY ks (.eqn a0) l l2=True:=rfl
theorem zqx {a0:UnOp}:effY ks (.un a0) l l2=True:=rfl
theorem zbs {a0:IntKind}:effY ks (.conv a0) l l2=True:=rfl
theorem z4q  : effY ks (.toStr ) l l2=True:=rfl
theorem z4r {a0:Nat} {a1:Bool} {a2:Bool} {a3:Bool}:effY ks (.slice a0 a1 a2 a3) l l2=True:=rfl
theorem z4s {a0:Bool} {a1:Nat} {a2:Nat}:effY ks (.faddr a0 a1 a2) l l2=True:=rfl
theorem z4t {a0:Bool} {a1:Nat} {a2:Nat}:effY ks (.field a0 a1 a2) l l2=True:=rfl
theorem z4u {a0:Nat}:effY ks (.iaddr a0) l l2=True:=rfl
theorem X4 {a0:Nat} {a1:Nat} {a2:Bool}:effY ks (.iaddrA a0 a1 a2) l l2=True:=rfl
theorem z4v {a0:Nat} {a1:Nat} {a2:Bool}:effY ks (.index a0 a1 a2) l l2=True:=rfl
theorem Pk  : effY ks (.indexStr ) l l2=True:=rfl
theorem Sw {a0:Nat}:effY ks (.extract a0) l l2=True:=rfl
theorem zj9 {a0:Bool}:effY ks (.len a0) l l2=True:=rfl
theorem zja  : effY ks (.max ) l l2=True:=rfl
theorem zjb  : effY ks (.min ) l l2=True:=rfl
theorem Sx {a0:Nat} {a1:Nat} {a2:AV}:effY ks (.mkSlice a0 a1 a2) l l2=True:=rfl
theorem X5 {a0:Nat}:effY ks (.mkFunc a0) l l2=True:=rfl
theorem X6 {a0:AV}:effY ks (.mapGet a0) l l2=True:=rfl
theorem zbt  : effY ks (.call ) l l2=True:=rfl
end
theorem yy:type_of% (And.intro @xy1 <| And.intro @xy2 <| And.intro @xy3 <| And.intro @xy4 <| And.intro @xy5 <| And.intro @xy6 <| And.intro @xy7 <| And.intro @xy8 <| And.intro @zj3 <| And.intro @X0 <| And.intro @z4m <| And.intro @z4n <| And.intro @zqw <| And.intro @zbq <| And.intro @z4o <| And.intro @zj4 <| And.intro @z4p <| And.intro @X3 <| And.intro @zbr <| And.intro @Pj <| And.intro @zj5 <| And.intro @zj6 <| And.intro @zj7 <| And.intro @zj8 <| And.intro @zqx <| And.intro @zbs <| And.intro @z4q <| And.intro @z4r <| And.intro @z4s <| And.intro @z4t <| And.intro @z4u <| And.intro @X4 <| And.intro @z4v <| And.intro @Pk <| And.intro @Sw <| And.intro @zj9 <| And.intro @zja <| And.intro @zjb <| And.intro @Sx <| And.intro @X5 <| And.intro @X6 <| And.intro @zbt <| And.intro @sb1 <| @sb2):=And.intro @xy1 <| And.intro @xy2 <| And.intro @xy3 <| And.intro @xy4 <| And.intro @xy5 <| And.intro @xy6 <| And.intro @xy7 <| And.intro @xy8 <| And.intro @zj3 <| And.intro @X0 <| And.intro @z4m <| And.intro @z4n <| And.intro @zqw <| And.intro @zbq <| And.intro @z4o <| And.intro @zj4 <| And.intro @z4p <| And.intro @X3 <| And.intro @zbr <| And.intro @Pj <| And.intro @zj5 <| And.intro @zj6 <| And.intro @zj7 <| And.intro @zj8 <| And.intro @zqx <| And.intro @zbs <| And.intro @z4q <| And.intro @z4r <| And.intro @z4s <| And.intro @z4t <| And.intro @z4u <| And.intro @X4 <| And.intro @z4v <| And.intro @Pk <| And.intro @Sw <| And.intro @zj9 <| And.intro @zja <| And.intro @zjb <| And.intro @Sx <| And.intro @X5 <| And.intro @X6 <| And.intro @zbt <| And.intro @sb1 <| @sb2
def Ent (n b:Nat) (env:Env) (H:Ac) (env':Env) (H':Ac):Prop:=∀ (S:MS) (val:Nat→Value),b ≤ S.n→SRel S H→(∀ i,i < n→VRel S (env i) (val i)) →
 ∃ S',S'.w=S.w∧BEvo b S S'∧SRel S' H'∧∀ i,i < n→VRel S' (env' i) (val i)
section
variable {P:Program} {n b:Nat} {env env':Env} {H H':Ac} {Q:Ex→Env→Ac→Prop}
theorem Ent.refl:Ent n b env H env H:=fun S val hb hS hv=>⟨S,rfl,.refl hb,hS,hv⟩
theorem Ent.trans {env2:Env} {H2:Ac} (h1:Ent n b env H env' H') (h2:Ent n b env' H' env2 H2):Ent n b env H env2 H2:=fun S val hb hS hv=>by
 obtain ⟨S1,a1,a2,a3,a4⟩:=h1 S val hb hS hv
 obtain ⟨S2,c1,c2,c3,c4⟩:=h2 S1 val a2.n a3 a4
 exact ⟨S2,c1.trans a1,a2.trans c2,c3,c4⟩
theorem zbu {c:AC} (he:Ent n b env H env' H') (h:T P n b c env' H' Q):T P n b c env H Q:=by
 intro rd mm hrd code hc S a hbS hS hF
 obtain ⟨S',hw,hev,hS',hv⟩:=he S (fun i=>a.tmps.getD i undef) hbS hS hF.val
 have:=h rd mm hrd code hc S' a hev.n hS' ⟨hF.size,hF.defers.of hev.base hev.size hev.keep hev.fresh (fun b hb=>hev.kept b (.inr hb)),hv⟩
 rw [hw] at this
 exact wpIn_mono this fun e a w hh=>hh.trans hev
theorem zbv {σ:Type} (Fact:σ→Prop) (μ:σ→Nat) (envs:σ→Env) (heap:σ→Ac) {c:AC} (s0:σ) (h0:Fact s0) (he:Ent n b env H (envs s0) (heap s0))
   (round:∀ s,Fact s→T P n b c (envs s) (heap s) (Ex.then (fun env' H'=>∃ s',Ent n b env' H' (envs s') (heap s')∧Fact s'∧μ s' < μ s) Q)):T P n b (.loop c) env H Q:=by
 refine zin (fun s env H=>Fact s∧Ent n b env H (envs s) (heap s)) μ s0 ⟨h0,he⟩ fun s env H hI=>?_
 refine zbu hI.2 (T.mono (round s hI.1) fun x env' H' hh=>?_)
 cases x with
 | normal=>obtain ⟨s',k1,k2,k3⟩:=hh;exact ⟨s',⟨k2,k1⟩,k3⟩
 | exit id=>exact hh
 | ret=>exact hh
theorem Iw (live:List (Nat × AV)) (h:∀ p ∈ live,env p.1=p.2):Ent n b env H (Dc live) H:=fun S val hb hS hv=>by
 refine ⟨S,rfl,.refl hb,hS,fun i hi=>?_⟩
 have key:∀ (l:List (Nat × AV)),(∀ p ∈ l,env p.1=p.2)→VRel S (Dc l i) (val i):=fun l=>by
   induction l with
   | nil=>exact fun _=>trivial
   | cons p l ih =>
     intro hp
     obtain ⟨t,y⟩:=p
     show VRel S (if i=t then y else Dc l i) _
     split
     · rename_i hit
       subst hit
       have e:env i=y:=hp (i,y) (by simp)
       rw [← e]
       exact hv i hi
     · exact ih fun p hp'=>hp p (by simp [hp'])
 exact key live h
mutual
theorem z4w:∀ x:AV,ren (fun g=>g) x=x
 | .any|.bool _|.int _ _|.str _|.nilS|.nul|.emp|.nilP|.nilF|.yld _|.lst _ _|.full _ _|.cptr _|.map _ _|.ref _ _ _ _|.ptr _ _ _ _=>rfl
 | .agg cs=>by rw [ren,Hw cs]
 | .tup cs=>by rw [ren,Hw cs]
 | .fn f cs=>by rw [ren,Hw cs]
theorem Hw:∀ xs:List AV,renL (fun g=>g) xs=xs
 | []=>rfl
 | x :: xs=>by rw [renL,z4w x,Hw xs]
end
theorem U3 {l gar:List Grp} (hb:b ≤ l.length) (hcl:∀ G ∈ l,ltL l.length G.xs) (hlive:∀ i,i < n→ltV l.length (env i)):Ent n b env (hl (l ++ gar)) env (hl l):=fun S val hbS hS hv=>by
 have hn:S.n=l.length + gar.length:=by rw [← List.length_append];exact hS.n
 have hat:∀ g,g < l.length→(hl (l ++ gar)).at_ g=(hl l).at_ g:=fun g hg=>by
   rw [Cn,Cn];simp [List.getD,List.getElem?_append_left hg]
 let S':MS:={ S with n:=l.length }
 have hdown:∀ (x:AV) {v:Value},ltV l.length x→VRel S x v→VRel S' x v:=fun x v hx h=>by
   rw [← z4w x] at h
   exact z4a (A:=S') (B:=S) (σ:=fun g=>g) (m:=l.length) rfl (fun b hb=>hb) (fun g hg=>⟨hg,rfl,rfl,rfl,rfl⟩) x hx h
 have hdownL:∀ (xs:List AV) {vs:List Value},ltL l.length xs→Af S xs vs→Af S' xs vs:=fun xs vs hx h=>by
   rw [← Hw xs] at h
   exact Fa (A:=S') (B:=S) (σ:=fun g=>g) (m:=l.length) rfl (fun b hb=>hb) (fun g hg=>⟨hg,rfl,rfl,rfl,rfl⟩) xs hx h
 refine ⟨S',rfl,⟨rfl,rfl,rfl,rfl,Nat.le_refl _,fun _ _=>rfl,fun _ h=>h,fun _ h=>h,fun _ h=>.inl h,hb,fun _ _=>Nat.le_refl _,fun _ _ _=>⟨rfl,rfl,rfl⟩⟩,⟨rfl,fun g hg=>?_,fun g g' hg hg' hne hw hw'=>?_,hS.im⟩,fun i hi=>hdown _ (hlive i hi) (hv i hi)⟩
 · have hg':g < l.length:=hg
   have hG:=hS.grp g (by show g < (l ++ gar).length;rw [List.length_append];omega)
   rw [hat g hg'] at hG
   have hm:(hl l).at_ g ∈ l:=by rw [Cn,List.getD_eq_getElem?_getD,List.getElem?_eq_getElem hg'];exact List.getElem_mem _
   have hc:=hcl _ hm
   refine ⟨hG.ver,hG.wid,fun hw hcap=>?_,hG.len,hG.full,fun hw he=>?_⟩
   · obtain ⟨⟨cells,TT,vs,a1,a2,a3,a4⟩,a5⟩:=hG.live hw hcap
     exact ⟨⟨cells,TT,vs,a1,a2,hdownL _ hc a3,a4⟩,a5⟩
   · obtain ⟨⟨es,clock,a1,a2⟩,a5⟩:=hG.mlive hw he
     exact ⟨⟨es,clock,a1,hdownL _ hc a2⟩,a5⟩
 · have hg1:g < l.length:=hg
   have hg2:g' < l.length:=hg'
   rw [← hat g hg1] at hw
   rw [← hat g' hg2] at hw'
   exact hS.apart g g' (by show g < (l ++ gar).length;rw [List.length_append];omega) (by show g' < (l ++ gar).length;rw [List.length_append];omega) hne hw hw'
theorem z4x {l:List Grp} (ws:List Nat) (hw:∀ w ∈ ws,0 < w):Ent n b env (hl l) env (hl (l ++ ws.map Hm)):=fun S val hbS hS hv=>by
 obtain ⟨S',e1,e2,e3,e4⟩:=Uz ws (env:=fun i=>if i < n then env i else .any) (val:=val) hw hS (fun i=>by
   show VRel S (if i < n then env i else .any) _
   split
   · exact hv i (by assumption)
   · trivial)
 refine ⟨S',e1,e2.down hbS,e3,fun i hi=>?_⟩
 have:=e4 i
 simp only [if_pos hi] at this
 exact this
theorem zjc {l l':List Grp} (h:Hs l l l') (hv:∀ i,i < n→leS l (env i) (env' i)):Ent n b env (hl l) env' (hl l'):=fun S val hbS hS hval =>
 ⟨S,rfl,.refl hbS,Iu hS h,fun i hi=>Xo (.inl hS) _ (hv i hi) (hval i hi)⟩
theorem zbw (i d:Nat) (ks:List Nat) (hok:Cr d (H.only ks) (env i)):Ent n b env H (env.put (some i) (frzV d (H.only ks) (env i))) (H.kill ks):=fun S val hbS hS hv=>by
 refine ⟨S.kill H ks,rfl,(Ir ks hS).down hbS,Ut ks hS,fun j hj=>?_⟩
 show VRel _ (if j=i then _ else _) _
 split
 · rename_i hji
   subst hji
   exact Uu ks hS d hok (hv j hj)
 · exact VRel.mono (Ir ks hS) _ (hv j hj)
theorem zmv {c:AC} (he:Ent n b env H env' H') (h:@Je ⟨T P n b c env' H' Q⟩):@Je ⟨T P n b c env H Q⟩:=zbu he h
end
theorem U4 {S:MS} {l:List Grp} {g w v:Nat} {ex:Bool} {xs ys:List AV} (hw:0 < w) (hlt:g < l.length) (hg:l.getD g default=⟨w,v,ex,xs ++ ys⟩) (hS:SRel S (hl l)):SRel S (hl (l.set g ⟨w,v,false,xs⟩)):=by
 have h0:GRel S ⟨w,v,ex,xs ++ ys⟩ g:=by have:=hS.grp g hlt;rwa [Cn,hg] at this
 have hG:GRel S ⟨w,v,false,xs⟩ g:=by
   refine ⟨h0.ver,h0.wid,fun _ hc=>?_,fun _=>?_,fun _ h=>(by cases h),fun h=>?_⟩
   · obtain ⟨⟨cells,TT,vs,a1,a2,a3,a4⟩,a5⟩:=h0.live hw hc
     obtain ⟨v1,v2,rfl,h1⟩:=U0 a3
     refine ⟨⟨cells,TT,v1,a1,a2,h1,fun i u hu=>a4 i u ?_⟩,a5⟩
     obtain ⟨hl1,_⟩:=List.getElem?_eq_some_iff.1 hu
     rw [List.getElem?_append_left hl1];exact hu
   · have:=h0.len hw
     simp only [List.length_append] at this
     show xs.length ≤ _
     omega
   · simp only at h;omega
 have hat:∀ j,(hl (l.set g ⟨w,v,false,xs⟩)).at_ j=if j=g then ⟨w,v,false,xs⟩ else (hl l).at_ j:=fun j=>by
   rw [Cn,Cn]
   by_cases e:j=g
   · subst e;rw [if_pos rfl];exact J1 _ hlt
   · rw [if_neg e];exact E9 _ (Ne.symm e)
 have hn:(hl (l.set g ⟨w,v,false,xs⟩)).n=(hl l).n:=by simp [hl]
 have hhas:∀ j,((hl (l.set g ⟨w,v,false,xs⟩)).at_ j).has (S.cap j)→((hl l).at_ j).has (S.cap j):=fun j h=>by
   rw [hat] at h
   by_cases e:j=g
   · subst e
     rw [if_pos rfl] at h
     rw [Cn,hg]
     rcases h with h|⟨_,h⟩
     · exact .inl h
     · cases h
   · rw [if_neg e] at h;exact h
 refine ⟨hS.n.trans hn.symm,fun j hj=>?_,fun j j' a c hne p q=>hS.apart j j' (by rwa [hn] at a) (by rwa [hn] at c) hne (hhas j p) (hhas j' q),hS.im⟩
 rw [hat]
 by_cases e:j=g
 · subst e;rw [if_pos rfl];exact hG
 · rw [if_neg e];exact hS.grp j (by rwa [hn] at hj)
theorem zbx {n b:Nat} {env:Env} {l:List Grp} {g w v:Nat} {ex:Bool} (xs ys:List AV) (hw:0 < w) (hlt:g < l.length) (hg:l.getD g default=⟨w,v,ex,xs ++ ys⟩):Ent n b env (hl l) env (hl (l.set g ⟨w,v,false,xs⟩)) :=
 fun S val hb hS hv=>⟨S,rfl,.refl hb,U4 hw hlt hg hS,hv⟩
end Go.Proofs.YticodgjinajkpaaGreat.Abs
namespace Go.Proofs.YticodgjinajkpaaGreat
open Abs
structure Span where
 lo:Int
 hi:Int
 deriving DecidableEq,Inhabited
structure Part where
 at_:Int
 drop:Int
 take:Int
 up:Int
 deriving DecidableEq,Inhabited
structure Term where
 base:Int
 drop:Int
 take:Int
 up:Int
 sum:Int
 parts:List Part
 deriving DecidableEq,Inhabited
structure Rule where
 from_:Int
 to_:Int
 guards:List (List Span)
 eat:Int
 out:List Term
 deriving DecidableEq,Inhabited
structure Fc where
 from_:Int
 guards:List (List Span)
 out:List Term
 deriving DecidableEq,Inhabited
structure Desc where
 in_:Int
 out:Int
 states:Int
 start:Int
 rules:List Rule
 finals:List Fc
 deriving DecidableEq,Inhabited
abbrev C2 (l:List Int):AV:=.lst 1 (l.map (AV.int .i64))
abbrev zjd (l:List Int):AV:=.lst 1 (l.map (AV.int .i32))
abbrev Eq (l:List Bool):AV:=.lst 1 (l.map AV.bool)
abbrev Bt (s:Span):AV:=.agg [.int .i64 s.lo,.int .i64 s.hi]
abbrev Ad (l:List Span):AV:=.lst 2 (l.map Bt)
abbrev Ak (l:List (List Span)):AV:=.lst 1 (l.map Ad)
abbrev Ca (p:Part):AV:=.agg [.int .i64 p.at_,.int .i64 p.drop,.int .i64 p.take,.int .i64 p.up]
abbrev Be (l:List Part):AV:=.lst 4 (l.map Ca)
abbrev Bv (t:Term):AV:=.agg [.int .i64 t.base,.int .i64 t.drop,.int .i64 t.take,.int .i64 t.up,.int .i64 t.sum,Be t.parts]
abbrev Cz (l:List Term):AV:=.lst 6 (l.map Bv)
abbrev Md (r:Rule):AV:=.agg [.int .i64 r.from_,.int .i64 r.to_,Ak r.guards,.int .i64 r.eat,Cz r.out]
abbrev Kt (f:Fc):AV:=.agg [.int .i64 f.from_,Ak f.guards,Cz f.out]
abbrev F5 (l:List Rule):AV:=.lst 5 (l.map Md)
abbrev Pm (l:List Fc):AV:=.lst 3 (l.map Kt)
abbrev By (d:Desc):AV:=.agg [.int .i64 d.in_,.int .i64 d.out,.int .i64 d.states,.int .i64 d.start,F5 d.rules,Pm d.finals]
theorem Cf (l:List Span):Ay (l.map Bt)=true:=Dn (fun _=>rfl) l
theorem Fp (l:List Part):Ay (l.map Ca)=true:=Dn (fun _=>rfl) l
theorem Ae (l:List (List Span)):Ay (l.map Ad)=true:=Dn (fun s=>by simp only [Ad,AV.pure,Cf]) l
theorem Bb (l:List Term):Ay (l.map Bv)=true:=Dn (fun s=>by simp [Bv,AV.pure,Ay,Fp]) l
theorem Bj (l:List Rule):Ay (l.map Md)=true:=Dn (fun s=>by simp [Md,AV.pure,Ay,Ae,Bb]) l
theorem Bg (l:List Fc):Ay (l.map Kt)=true:=Dn (fun s=>by simp [Kt,AV.pure,Ay,Ae,Bb]) l
theorem z7j (l:List (List Int)):Ay (l.map zjd)=true:=Dn (fun s=>by simp only [zjd,AV.pure,Cw]) l
attribute [push_cast] Cf Fp Ae Bb Bj Bg z7j
end Go.Proofs.YticodgjinajkpaaGreat
