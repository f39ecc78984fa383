/-
  What each operation asks, as rules of rewriting.
  Groups numbered anew: at a point of the code some groups are kept, under new numbers; all others are read as data from there on.
  Heaps written out as lists of groups; heads of loops: which slots and which groups go on, and as what.
  The walk's rules for heaps that are written out, for heads of loops, and for calls.
  The data of the program, and how values mean it.
  What comes in is data: numbers, Bools, texts, slices and records of them, however deep.
  A whole law: from a contract for all data that may come in to the row that it asks for.
-/
import Derived.Deep.Slices
import Derived.OpenShut
import Derived.Carry
import Derived.WideShapes
import Derived.ProofKit
import Derived.ChangeOld
import Derived.Test.YticodgjinajkpaaDM2
set_option linter.unusedSimpArgs false
set_option linter.unusedVariables false
namespace Go.Proofs.Yticodgjinajkpaa.Abs
def nx (x:AV) (H:z02) [K:HK]:Prop:=K.f x H
theorem y3f (x:AV) (H:z02) (f:AV→z02→Prop):@nx x H ⟨f⟩=f x H:=(rfl)
class HF (α:Type) where
 f:α→Prop
def optN {α:Type} (o:Option α) [F:HF α]:Prop:=optK o F.f
theorem zu7 {α:Type} (x:α) (f:α→Prop):@optN α (some x) ⟨f⟩=f x:=(rfl)
def ifN (c:Bool) [p:HP] [q:HP]:Prop:=match c with
 | false=>p.p
 | true=>q.p
theorem zyw {p q:Prop}:@ifN true ⟨p⟩ ⟨q⟩=q:=(rfl)
theorem zu8 {p q:Prop}:@ifN false ⟨p⟩ ⟨q⟩=p:=(rfl)
def appN (w bytes:Nat) (s:AV) (news:List AV) (H:z02) [K:HK]:Prop:=z8r w bytes s news H K.f
def slcN (w:Nat) (x:AV) (lo hi mx:Option Int) (H:z02) [K:HK]:Prop:=z4y w x lo hi mx H fun y=>K.f y H
def nq (x:AV) [K:HQ]:Prop:=K.f x
theorem y3g (x:AV) (f:AV→Prop):@nq x ⟨f⟩=f x:=(rfl)
section
variable {P:Program} {H:z02} {K:AV→z02→Prop} {k:IntKind} {a b c:Int} {x y z:AV} {xs ys cs:List AV} {w s o i g v off len n:Nat} {p q r:Bool}
theorem K_mv:@opK P .mv H [x] ⟨K⟩=@nx x H ⟨K⟩:=(rfl)
theorem y7o:@opK P .pick H [.bool p,x,y] ⟨K⟩=@nx (bif p then x else y) H ⟨K⟩:=(rfl)
theorem y3h:@opK P (.alloc z w) H [] ⟨K⟩=@nx (.ptr H.n 1 0 0) (H.push ⟨w,1,true,[z]⟩) ⟨K⟩:=(rfl)
theorem K_box:@opK P .box H [x] ⟨K⟩=(z4x x.cells=true∧0 < x.cells.length∧@nx (.ptr H.n 1 0 0) (H.push ⟨x.cells.length,1,true,[x]⟩) ⟨K⟩):=(rfl)
theorem y3i {zs:List AV} {pl:List (Nat × Nat)} {idx:List Nat}:@opK P (.build zs pl idx) H xs ⟨K⟩=@optN _ (zha pl idx xs zs) ⟨fun cs=>@nx (.agg cs) H ⟨K⟩⟩:=(rfl)
theorem zyx {idx:List Nat}:@opK P (.bslice w len z idx) H xs ⟨K⟩=(z5y w len idx xs∧@nx (.ref H.n 1 0 len) (H.push ⟨w,1,true,z3p idx xs (List.replicate len z)⟩) ⟨K⟩):=(rfl)
theorem zyy:@opK P (.load p s) H [.cptr x] ⟨K⟩=(x.isAny=false∧x.cells.length=s∧(p=false→s=1)∧@nx (z1t p 0 s x) H ⟨K⟩):=(rfl)
theorem zyz:@opK P (.load p s) H [.ptr g v i o] ⟨K⟩=((H.at_ g).ver=v∧i < (H.at_ g).xs.length∧((H.at_ g).xs.getD i .any).isAny=false∧((H.at_ g).xs.getD i .any).cells.length=(H.at_ g).w∧0 < s∧o + s ≤ (H.at_ g).w ∧
     (p=false→s=1)∧@nx (z1t p o s ((H.at_ g).xs.getD i .any)) H ⟨K⟩):=(rfl)
theorem y3j:@opK P (.store s) H [.ptr g v i o,x] ⟨K⟩=((H.at_ g).ver=v∧i < (H.at_ g).xs.length∧0 < s∧o + s ≤ (H.at_ g).w∧x.cells.length=s∧z4x x.cells=true ∧
     (s=(H.at_ g).w ∨ ((H.at_ g).xs.getD i .any).isAny=false∧((H.at_ g).xs.getD i .any).cells.length=(H.at_ g).w) ∧
     @nx .any (H.set g ⟨(H.at_ g).w,v,(H.at_ g).exact,(H.at_ g).xs.set i (z8q (H.at_ g).w o s ((H.at_ g).xs.getD i .any) x)⟩) ⟨K⟩):=(rfl)
theorem y7p:@opK P .nilCheck H [.cptr x] ⟨K⟩=@nx (.cptr x) H ⟨K⟩:=(rfl)
theorem y7q:@opK P .nilCheck H [.ptr g v i o] ⟨K⟩=@nx (.ptr g v i o) H ⟨K⟩:=(rfl)
theorem y7r {f:Nat}:@opK P .nilCheck H [.fn f xs] ⟨K⟩=@nx (.fn f xs) H ⟨K⟩:=(rfl)
theorem K_add:@opK P (.bin .add) H [.int k a,.int k b] ⟨K⟩=@nx (.int k (k.wrap (a + b))) H ⟨K⟩:=by simp [opK,z05,binI,nx]
theorem K_sub:@opK P (.bin .sub) H [.int k a,.int k b] ⟨K⟩=@nx (.int k (k.wrap (a - b))) H ⟨K⟩:=by simp [opK,z05,binI,nx]
theorem K_mul:@opK P (.bin .mul) H [.int k a,.int k b] ⟨K⟩=@nx (.int k (k.wrap (a * b))) H ⟨K⟩:=by simp [opK,z05,binI,nx]
theorem K_quo:@opK P (.bin .quo) H [.int k a,.int k b] ⟨K⟩=(b ≠ 0∧@nx (.int k (k.wrap (a.tdiv b))) H ⟨K⟩):=by simp [opK,z05,binI,nx]
theorem K_rem:@opK P (.bin .rem) H [.int k a,.int k b] ⟨K⟩=(b ≠ 0∧@nx (.int k (a.tmod b)) H ⟨K⟩):=by simp [opK,z05,binI,nx]
theorem K_and:@opK P (.bin .and) H [.int k a,.int k b] ⟨K⟩=@nx (.int k (z8c .and k a b)) H ⟨K⟩:=by simp [opK,z05,binI,nx]
theorem K_or:@opK P (.bin .or) H [.int k a,.int k b] ⟨K⟩=@nx (.int k (z8c .or k a b)) H ⟨K⟩:=by simp [opK,z05,binI,nx]
theorem K_xor:@opK P (.bin .xor) H [.int k a,.int k b] ⟨K⟩=@nx (.int k (z8c .xor k a b)) H ⟨K⟩:=by simp [opK,z05,binI,nx]
theorem zz0:@opK P (.bin .andNot) H [.int k a,.int k b] ⟨K⟩=@nx (.int k (z8c .andNot k a b)) H ⟨K⟩:=by simp [opK,z05,binI,nx]
theorem K_shl {k':IntKind}:@opK P (.bin .shl) H [.int k a,.int k' b] ⟨K⟩=(0 ≤ b∧@nx (.int k (k.wrap (a * 2 ^ (Min.min b.toNat k.bits)))) H ⟨K⟩):=(rfl)
theorem K_shr {k':IntKind}:@opK P (.bin .shr) H [.int k a,.int k' b] ⟨K⟩=(0 ≤ b∧@nx (.int k (a.fdiv (2 ^ (Min.min b.toNat k.bits)))) H ⟨K⟩):=(rfl)
theorem K_eql:@opK P (.bin .eql) H [.int k a,.int k b] ⟨K⟩=@nx (.bool (decide (a=b))) H ⟨K⟩:=by simp [opK,z05,binI,nx]
theorem K_neq:@opK P (.bin .neq) H [.int k a,.int k b] ⟨K⟩=@nx (.bool (!decide (a=b))) H ⟨K⟩:=by simp [opK,z05,binI,nx]
theorem K_lss:@opK P (.bin .lss) H [.int k a,.int k b] ⟨K⟩=@nx (.bool (decide (a < b))) H ⟨K⟩:=by simp [opK,z05,binI,nx]
theorem K_leq:@opK P (.bin .leq) H [.int k a,.int k b] ⟨K⟩=@nx (.bool (decide (a ≤ b))) H ⟨K⟩:=by simp [opK,z05,binI,nx]
theorem K_gtr:@opK P (.bin .gtr) H [.int k a,.int k b] ⟨K⟩=@nx (.bool (decide (b < a))) H ⟨K⟩:=by simp [opK,z05,binI,nx]
theorem K_geq:@opK P (.bin .geq) H [.int k a,.int k b] ⟨K⟩=@nx (.bool (decide (b ≤ a))) H ⟨K⟩:=by simp [opK,z05,binI,nx]
theorem y7s {s t:List UInt8}:@opK P (.bin .eql) H [.str s,.str t] ⟨K⟩=@nx (.bool (decide (s=t))) H ⟨K⟩:=(rfl)
theorem y7t {s t:List UInt8}:@opK P (.bin .neq) H [.str s,.str t] ⟨K⟩=@nx (.bool (!decide (s=t))) H ⟨K⟩:=(rfl)
theorem K_eqb:@opK P (.eqb p) H [.bool q,.bool r] ⟨K⟩=@nx (.bool (if p then !(q == r) else q == r)) H ⟨K⟩:=(rfl)
theorem K_eqs {ks:List Nat}:@opK P (.eqs p ks) H [.agg xs,.agg ys] ⟨K⟩=@optN _ (eqL ks xs ys) ⟨fun b=>@nx (.bool (if p then !b else b)) H ⟨K⟩⟩:=(rfl)
theorem zu9:@opK P (.eqn p) H [.nilS,.nilS] ⟨K⟩=@nx (.bool (!p)) H ⟨K⟩:=(rfl)
theorem zua:@opK P (.eqn p) H [.lst w xs,.nilS] ⟨K⟩=(xs ≠ []∧@nx (.bool p) H ⟨K⟩):=(rfl)
theorem zub:@opK P (.eqn p) H [.ref g v off len,.nilS] ⟨K⟩=(0 < len∧@nx (.bool p) H ⟨K⟩):=(rfl)
theorem K_not:@opK P (.un .not) H [.bool p] ⟨K⟩=@nx (.bool (!p)) H ⟨K⟩:=(rfl)
theorem K_neg:@opK P (.un .neg) H [.int k a] ⟨K⟩=@nx (.int k (k.wrap (0 - a))) H ⟨K⟩:=(rfl)
theorem y7u {k':IntKind}:@opK P (.conv k) H [.int k' a] ⟨K⟩=@nx (.int k (k.wrap a)) H ⟨K⟩:=(rfl)
theorem y3k:@opK P .toStr H [x] ⟨K⟩=(z5r H 1 x∧(match x with|.str _=>False|_=>True)∧∃ bs:List UInt8,z5q H x=some (bs.map fun b=>.int .u8 b.toNat)∧@nx (.str bs) H ⟨K⟩):=(rfl)
theorem y3l {lo hi mx:Bool}:@opK P (.slice w lo hi mx) H (x :: xs) ⟨K⟩=@optN _ (optA lo xs) ⟨fun p=>@optN _ (optA hi p.2) ⟨fun q=>@optN _ (optA mx q.2) ⟨fun r=>r.2=[]∧@slcN w x p.1 q.1 r.1 H ⟨K⟩⟩⟩⟩:=(rfl)
theorem zuc:@opK P (.faddr p off s) H [.cptr x] ⟨K⟩=(x.isAny=false∧off + s ≤ x.cells.length∧(p=false→s=1)∧0 < s∧@nx (.cptr (z1t p off s x)) H ⟨K⟩):=(rfl)
theorem zud:@opK P (.faddr p off s) H [.ptr g v i o] ⟨K⟩=((H.at_ g).ver=v∧@nx (.ptr g v i (o + off)) H ⟨K⟩):=(rfl)
theorem y3m:@opK P (.field p off s) H [.agg cs] ⟨K⟩=(off + s ≤ cs.length∧(p=false→s=1)∧@nx (z1t p off s (.agg cs)) H ⟨K⟩):=(rfl)
theorem zue {w':Nat}:@opK P (.iaddr w) H [.lst w' xs,.int k a] ⟨K⟩=(w'=w∧0 ≤ a∧a < xs.length∧@nx (.cptr (xs.getD a.toNat .any)) H ⟨K⟩):=(rfl)
theorem zuf:@opK P (.iaddr w) H [.ref g v off len,.int k a] ⟨K⟩=((H.at_ g).ver=v∧(H.at_ g).w=w∧0 ≤ a∧a < len∧@nx (.ptr g v (off + a.toNat) 0) H ⟨K⟩):=(rfl)
theorem zre:@opK P (.iaddrA n w p) H [.ptr g v i o,.int k a] ⟨K⟩=((H.at_ g).ver=v∧0 ≤ a∧a < n∧@nx (.ptr g v i (o + a.toNat * w)) H ⟨K⟩):=(rfl)
theorem zrf:@opK P (.iaddrA n w p) H [.cptr x,.int k a] ⟨K⟩=(x.isAny=false∧0 ≤ a∧a < n∧n * w ≤ x.cells.length∧(p=false→w=1)∧0 < w∧@nx (.cptr (z1t p (a.toNat * w) w x)) H ⟨K⟩):=(rfl)
theorem y3n:@opK P (.index n w p) H [.agg cs,.int k a] ⟨K⟩=(0 ≤ a∧a < n∧n * w ≤ cs.length∧(p=false→w=1)∧@nx (z1t p (a.toNat * w) w (.agg cs)) H ⟨K⟩):=(rfl)
theorem zrg {s:List UInt8}:@opK P .indexStr H [.str s,.int k a] ⟨K⟩=(0 ≤ a∧a < s.length∧@nx (.int .u8 (s.getD a.toNat 0).toNat) H ⟨K⟩):=(rfl)
theorem zug:@opK P (.extract i) H [.tup xs] ⟨K⟩=(i < xs.length∧@nx (xs.getD i .any) H ⟨K⟩):=(rfl)
theorem zuh:@opK P (.len false) H [.nilS] ⟨K⟩=@nx (.int .i64 0) H ⟨K⟩:=(rfl)
theorem zui:@opK P (.len false) H [.nul] ⟨K⟩=@nx (.int .i64 0) H ⟨K⟩:=(rfl)
theorem zuj:@opK P (.len false) H [.lst w xs] ⟨K⟩=@nx (.int .i64 xs.length) H ⟨K⟩:=(rfl)
theorem zuk:@opK P (.len false) H [.ref g v off len] ⟨K⟩=@nx (.int .i64 len) H ⟨K⟩:=(rfl)
theorem zul {s:List UInt8}:@opK P (.len true) H [.str s] ⟨K⟩=@nx (.int .i64 s.length) H ⟨K⟩:=(rfl)
theorem K_app:@opK P (.app w n z) H [x,y] ⟨K⟩=(z5r H w y∧@optN _ (z5q H y) ⟨fun news=>@appN w n x news H ⟨K⟩⟩):=(rfl)
theorem zz1:@appN w n .nilS xs H ⟨K⟩=(xs.length * n ≤ 140737488355328∧@nx (.ref H.n 1 0 xs.length) (H.push ⟨w,1,xs.isEmpty,xs⟩) ⟨K⟩):=(rfl)
theorem y3o:@appN w n .nul xs H ⟨K⟩=(xs.length * n ≤ 140737488355328∧@nx (.ref H.n 1 0 xs.length) (H.push ⟨w,1,xs.isEmpty,xs⟩) ⟨K⟩):=(rfl)
theorem y3p:@appN w n (.ref g v off len) xs H ⟨K⟩=((H.at_ g).ver=v∧(H.at_ g).w=w∧(len + xs.length) * n ≤ 140737488355328∧off + len ≤ (H.at_ g).xs.length∧@ifN (!(H.at_ g).exact || (H.at_ g).xs.isEmpty)
    ⟨(off + len + xs.length ≤ (H.at_ g).xs.length→@nx (.ref g v off (len + xs.length)) (H.set g ⟨w,v,true,(H.at_ g).xs.take (off + len) ++ xs ++ (H.at_ g).xs.drop (off + len + xs.length)⟩) ⟨K⟩) ∧
      ((H.at_ g).xs.length < off + len + xs.length→@nx (.ref H.n 1 0 (len + xs.length)) (H.push ⟨w,1,false,((H.at_ g).xs.drop off).take len ++ xs⟩) ⟨K⟩)⟩
    ⟨(off=0 ∨ off + len=(H.at_ g).xs.length)∧(off + len=(H.at_ g).xs.length→@nx (.ref g (v + 1) off (len + xs.length)) (H.set g ⟨w,v + 1,(H.at_ g).exact && xs.isEmpty,(H.at_ g).xs ++ xs⟩) ⟨K⟩) ∧
      (off + len < (H.at_ g).xs.length→off + len + xs.length ≤ (H.at_ g).xs.length∧@nx (.ref g v off (len + xs.length)) (H.set g ⟨w,v,(H.at_ g).exact,(H.at_ g).xs.take (off + len) ++ xs ++ (H.at_ g).xs.drop (off + len + xs.length)⟩) ⟨K⟩) ∧
      (off ≠ 0→@nx (.ref g (v + 1) 0 (len + xs.length)) (H.set g ⟨w,v + 1,(H.at_ g).exact && xs.isEmpty,(H.at_ g).xs.drop off ++ xs⟩) ⟨K⟩)⟩):=by
 simp only [appN,z8r,ifN]
 generalize (!(H.at_ g).exact || (H.at_ g).xs.isEmpty)=c
 cases c<;>rfl
theorem y3q {w':Nat} {lo hi:Option Int}:@slcN w (.lst w' xs) lo hi none H ⟨K⟩=(w'=w∧0 ≤ lo.getD 0∧lo.getD 0 ≤ hi.getD xs.length∧hi.getD xs.length ≤ xs.length∧@nx (.lst w' ((xs.take (hi.getD xs.length).toNat).drop (lo.getD 0).toNat)) H ⟨K⟩):=(rfl)
theorem y3r {lo hi:Option Int}:@slcN w .nilS lo hi none H ⟨K⟩=((lo=none ∨ lo=some 0)∧(hi=none ∨ hi=some 0)∧@nx .nilS H ⟨K⟩):=(rfl)
theorem y3s {lo hi:Option Int}:@slcN w (.ref g v off len) lo hi none H ⟨K⟩=((H.at_ g).ver=v∧(H.at_ g).w=w∧0 < w∧0 ≤ lo.getD 0∧lo.getD 0 ≤ hi.getD len∧(hi.getD len ≤ len ∨ (H.at_ g).exact=true∧off + hi.getD len ≤ (H.at_ g).xs.length) ∧
     @nx (.ref g v (off + (lo.getD 0).toNat) ((hi.getD len).toNat - (lo.getD 0).toNat)) H ⟨K⟩):=(rfl)
theorem zz2 {w':Nat} {lo hi:Option Int} {m:Int}:@slcN w (.lst w' xs) lo hi (some m) H ⟨K⟩=(m=0∧hi=some 0∧(lo=none ∨ lo=some 0)∧@nx .nul H ⟨K⟩):=(rfl)
theorem zz3 {lo hi:Option Int} {m:Int}:@slcN w .nilS lo hi (some m) H ⟨K⟩=(m=0∧hi=some 0∧(lo=none ∨ lo=some 0)∧@nx .nilS H ⟨K⟩):=(rfl)
theorem zz4 {lo hi:Option Int} {m:Int}:@slcN w .nul lo hi (some m) H ⟨K⟩=(m=0∧hi=some 0∧(lo=none ∨ lo=some 0)∧@nx .nul H ⟨K⟩):=(rfl)
theorem zz5 {lo hi:Option Int} {m:Int}:@slcN w (.ref g v off len) lo hi (some m) H ⟨K⟩=(m=0∧hi=some 0∧(lo=none ∨ lo=some 0)∧@nx .nul H ⟨K⟩):=(rfl)
theorem K_max:@opK P .max H [.int k a,.int k b] ⟨K⟩=@nx (.int k (Max.max a b)) H ⟨K⟩:=by simp [opK,z05,nx]
theorem K_min:@opK P .min H [.int k a,.int k b] ⟨K⟩=@nx (.int k (Min.min a b)) H ⟨K⟩:=by simp [opK,z05,nx]
theorem zum {k':IntKind}:@opK P (.mkSlice w n z) H [.int k a,.int k' b] ⟨K⟩=(0 ≤ a∧a ≤ b∧b * n ≤ 140737488355328∧@nx (.ref H.n 1 0 a.toNat) (H.push ⟨w,1,true,List.replicate b.toNat z⟩) ⟨K⟩):=(rfl)
theorem zz6 {f:Nat}:@opK P (.mkFunc f) H xs ⟨K⟩=@nx (.fn f xs) H ⟨K⟩:=(rfl)
theorem y3t:@opK P .mkMap H [] ⟨K⟩=@nx (.map H.n 1) (H.push ⟨0,1,true,[]⟩) ⟨K⟩:=(rfl)
theorem zz7:@opK P (.mapGet z) H [.map g v,.int k a] ⟨K⟩=(k=.i64∧(H.at_ g).ver=v∧(H.at_ g).w=0∧(H.at_ g).exact=true∧@optN _ (z1s z a (H.at_ g).xs) ⟨fun y=>@nx y H ⟨K⟩⟩):=(rfl)
theorem zz8:@opK P .mapSet H [.map g v,.int k a,x] ⟨K⟩=(k=.i64∧(H.at_ g).ver=v∧(H.at_ g).w=0∧(H.at_ g).exact=true∧@optN _ (setM a x (H.at_ g).xs) ⟨fun ys=>@nx .any (H.set g ⟨0,v,true,ys⟩) ⟨K⟩⟩):=(rfl)
theorem zrh:@opK P (.len false) H [.full w xs] ⟨K⟩=@nx (.int .i64 xs.length) H ⟨K⟩:=(rfl)
theorem zun {w':Nat}:@opK P (.iaddr w) H [.full w' xs,.int k a] ⟨K⟩=(w'=w∧0 ≤ a∧a < xs.length∧@nx (.cptr (xs.getD a.toNat .any)) H ⟨K⟩):=(rfl)
theorem zri:@opK P (.eqn p) H [.full w xs,.nilS] ⟨K⟩=(xs ≠ []∧@nx (.bool p) H ⟨K⟩):=(rfl)
theorem zz9 {w':Nat} {lo hi:Option Int}:@slcN w (.full w' xs) lo hi none H ⟨K⟩=(w'=w∧0 ≤ lo.getD 0∧lo.getD 0 ≤ hi.getD xs.length∧hi.getD xs.length ≤ xs.length∧@nx (.lst w' ((xs.take (hi.getD xs.length).toNat).drop (lo.getD 0).toNat)) H ⟨K⟩):=(rfl)
theorem zuo {w':Nat} {lo hi:Option Int} {m:Int}:@slcN w (.full w' xs) lo hi (some m) H ⟨K⟩=(m=0∧hi=some 0∧(lo=none ∨ lo=some 0)∧@nx .nul H ⟨K⟩):=(rfl)
theorem zza {w':Nat}:@appN w n (.full w' xs) ys H ⟨K⟩=(w'=w∧0 < ys.length∧(xs.length + ys.length) * n ≤ 140737488355328∧@nx (.ref H.n 1 0 (xs.length + ys.length)) (H.push ⟨w,1,false,xs ++ ys⟩) ⟨K⟩):=(rfl)
theorem zup:z1s z a []=some z:=rfl
theorem zrj:z1s z a (.int .i64 b :: y :: xs)=if b=a then some y else z1s z a xs:=rfl
theorem zzb:setM a x []=some [.int .i64 a,x]:=rfl
theorem zuq:setM a x (.int .i64 b :: y :: xs)=if b=a then some (.int .i64 b :: x :: xs) else (setM a x xs).map fun r'=>.int .i64 b :: y :: r':=rfl
theorem y7v {f:Nat}:@opK P .call H (.fn f cs :: xs) ⟨K⟩=@zjy P f (xs ++ cs) H ⟨K⟩:=(rfl)
end
section
variable {P:Program} {H:z02} {K:AV→Prop} {xs cs:List AV} {z:AV} {w len:Nat}
theorem z2g {k:AK} (h:k.still=true):@opQ P k H xs ⟨K⟩=@opK P k H xs ⟨fun x _=>K x⟩:=by
 cases k<;>first|(exact propext ⟨fun h=>h.2,fun h=>⟨rfl,h⟩⟩)|(simp [AK.still] at h)
theorem Q_mv  : @opQ P .mv H xs ⟨K⟩=@opK P .mv H xs ⟨fun x _=>K x⟩:=z2g rfl
theorem y7w  : @opQ P .pick H xs ⟨K⟩=@opK P .pick H xs ⟨fun x _=>K x⟩:=z2g rfl
theorem y3u {zs:List AV} {pl:List (Nat × Nat)} {idx:List Nat}:@opQ P (.build zs pl idx) H xs ⟨K⟩=@opK P (.build zs pl idx) H xs ⟨fun x _=>K x⟩:=z2g rfl
theorem y7x {a:Bool} {s:Nat}:@opQ P (.load a s) H xs ⟨K⟩=@opK P (.load a s) H xs ⟨fun x _=>K x⟩:=z2g rfl
theorem zrk  : @opQ P .nilCheck H xs ⟨K⟩=@opK P .nilCheck H xs ⟨fun x _=>K x⟩:=z2g rfl
theorem Q_bin {op:BinOp}:@opQ P (.bin op) H xs ⟨K⟩=@opK P (.bin op) H xs ⟨fun x _=>K x⟩:=z2g rfl
theorem Q_eqb {n:Bool}:@opQ P (.eqb n) H xs ⟨K⟩=@opK P (.eqb n) H xs ⟨fun x _=>K x⟩:=z2g rfl
theorem Q_eqs {n:Bool} {ks:List Nat}:@opQ P (.eqs n ks) H xs ⟨K⟩=@opK P (.eqs n ks) H xs ⟨fun x _=>K x⟩:=z2g rfl
theorem Q_eqn {n:Bool}:@opQ P (.eqn n) H xs ⟨K⟩=@opK P (.eqn n) H xs ⟨fun x _=>K x⟩:=z2g rfl
theorem Q_un {op:UnOp}:@opQ P (.un op) H xs ⟨K⟩=@opK P (.un op) H xs ⟨fun x _=>K x⟩:=z2g rfl
theorem y7y {k:IntKind}:@opQ P (.conv k) H xs ⟨K⟩=@opK P (.conv k) H xs ⟨fun x _=>K x⟩:=z2g rfl
theorem y3v {w:Nat} {lo hi mx:Bool}:@opQ P (.slice w lo hi mx) H xs ⟨K⟩=@opK P (.slice w lo hi mx) H xs ⟨fun x _=>K x⟩:=z2g rfl
theorem y3w {a:Bool} {o s:Nat}:@opQ P (.faddr a o s) H xs ⟨K⟩=@opK P (.faddr a o s) H xs ⟨fun x _=>K x⟩:=z2g rfl
theorem y3x {a:Bool} {o s:Nat}:@opQ P (.field a o s) H xs ⟨K⟩=@opK P (.field a o s) H xs ⟨fun x _=>K x⟩:=z2g rfl
theorem y3y {w:Nat}:@opQ P (.iaddr w) H xs ⟨K⟩=@opK P (.iaddr w) H xs ⟨fun x _=>K x⟩:=z2g rfl
theorem zzc {n w:Nat} {a:Bool}:@opQ P (.iaddrA n w a) H xs ⟨K⟩=@opK P (.iaddrA n w a) H xs ⟨fun x _=>K x⟩:=z2g rfl
theorem y3z {n w:Nat} {a:Bool}:@opQ P (.index n w a) H xs ⟨K⟩=@opK P (.index n w a) H xs ⟨fun x _=>K x⟩:=z2g rfl
theorem zrl  : @opQ P .indexStr H xs ⟨K⟩=@opK P .indexStr H xs ⟨fun x _=>K x⟩:=z2g rfl
theorem zur {i:Nat}:@opQ P (.extract i) H xs ⟨K⟩=@opK P (.extract i) H xs ⟨fun x _=>K x⟩:=z2g rfl
theorem Q_len {b:Bool}:@opQ P (.len b) H xs ⟨K⟩=@opK P (.len b) H xs ⟨fun x _=>K x⟩:=z2g rfl
theorem Q_max  : @opQ P .max H xs ⟨K⟩=@opK P .max H xs ⟨fun x _=>K x⟩:=z2g rfl
theorem Q_min  : @opQ P .min H xs ⟨K⟩=@opK P .min H xs ⟨fun x _=>K x⟩:=z2g rfl
theorem zzd:@opQ P (.mapGet z) H xs ⟨K⟩=@opK P (.mapGet z) H xs ⟨fun x _=>K x⟩:=z2g rfl
theorem zze {f:Nat}:@opQ P (.mkFunc f) H xs ⟨K⟩=@opK P (.mkFunc f) H xs ⟨fun x _=>K x⟩:=z2g rfl
theorem y40  : @opQ P .toStr H xs ⟨K⟩=@opK P .toStr H xs ⟨fun x _=>K x⟩:=z2g rfl
theorem y41 {f:Nat}:@opQ P .call H (.fn f cs :: xs) ⟨K⟩=@zu5 P f (xs ++ cs) H ⟨K⟩:=(rfl)
theorem Q_bsl {idx:List Nat}:@opQ P (.bslice w len z idx) H xs ⟨K⟩=(z5y w len idx xs∧0 < w∧z0o (z3p idx xs (List.replicate len z))=true∧@nq (.full w (z3p idx xs (List.replicate len z))) ⟨K⟩):=(rfl)
end
section
variable {H:z02} {G:Grp} {g j:Nat}
end
section
variable {P:Program} {H:z02} {env:Env} {K:List AV→Prop} {l:List ARes} {t s:Nat} {a:Bool}
theorem y42:resK P [] env H K=K []:=(rfl)
theorem zzf:resK P (.slot t :: l) env H K=resK P l env H fun xs=>K (env t :: xs):=(rfl)
theorem zzg:resK P (.cell t a s :: l) env H K=@opK P (.load a s) H [env t] ⟨fun x _=>resK P l env H fun xs=>K (x :: xs)⟩:=(rfl)
end
theorem zjz {p:Prop} [Decidable p] (h:p):true=decide p:=(decide_eq_true h).symm
theorem zk0 {p:Prop} [Decidable p] (h:¬p):false=decide p:=(decide_eq_false h).symm
theorem zaj {p q:Prop} [Decidable p] [Decidable q] (h:p ↔ q):decide p=decide q:=decide_eq_decide.2 h
theorem getD_map {α:Type} [Inhabited α] (f:α→AV) (l:List α) (i:Nat):(l.map f).getD i .any=if i < l.length then f (l.getD i default) else .any:=by
 by_cases h:i < l.length<;>simp [List.getD,h]
def nth {α:Type} [Inhabited α] (l:List α) (i:Nat):α:=l.getD i default
theorem zus {α:Type} [Inhabited α] (f:α→AV) (l:List α) (i:Nat) (h:i < l.length):(l.map f).getD i .any=f (nth l i):=by rw [getD_map,if_pos h];rfl
theorem zzh {α:Type} (f:α→AV) (l:List α) (i:Nat):(l.map f).drop i=(l.drop i).map f:=List.map_drop.symm
theorem zzi {α:Type} (f:α→AV) (l:List α) (i:Nat):(l.map f).take i=(l.take i).map f:=List.map_take.symm
theorem z48 {α:Type} {f:α→AV} (h:∀ x,(f x).pure=true):∀ l:List α,z0o (l.map f)=true
 | []=>rfl
 | x :: l=>by simp [z0o,h x,z48 h l]
theorem z4j (k:IntKind) (l:List Int):z0o (l.map (AV.int k))=true:=z48 (fun _=>rfl) l
theorem zut (k:IntKind) (l:List Int):z0o (l.map fun x=>AV.int k x)=true:=z48 (fun _=>rfl) l
theorem zuu (l:List Bool):z0o (l.map AV.bool)=true:=z48 (fun _=>rfl) l
attribute [push_cast] z34 z35 z36 y3t zz7 zz8 zrh zun zri zz9 zuo zza zup zrj zzb zuq zzd
attribute [push_cast] y3f y3g zu7 zyw zu8 zz1 y3o y3p y3q y3r y3s zz2 zz3 zz4 zz5 K_mv y7o y3h K_box y3i zyx zyy zyz y3j y7p y7q y7r K_add K_sub K_mul K_quo K_rem K_and K_or K_xor zz0 K_shl K_shr K_eql K_neq K_lss K_leq K_gtr K_geq y7s y7t K_eqb K_eqs zu9 zua zub K_not K_neg y7u y3k y3l zuc zud y3m zue zuf zre zrf y3n zrg zug zuh zui zuj zuk zul K_app K_max K_min zum zz6 y7v Q_mv y7w y3u y7x zrk Q_bin Q_eqb Q_eqs Q_eqn Q_un y7y y3v y3w y3x y3y zzc y3z zrl zur Q_len Q_max Q_min zze y40 y41 Q_bsl
attribute [push_cast] z21 z22 z23 z24 z25 z26 z27 zyr
attribute [push_cast] z1t AV.cells AV.isAny z4x AV.one z8q eqL eq1 z5r z5q z5y z3p zha optA List.replicate z0o AV.pure Ret y42 zzf zzg resV zzh zzi z4j zut zuu
def pos:List Nat→Nat→Option Nat
 | [],_=>none
 | k :: ks,g=>if g=k then some 0 else (pos ks g).map (· + 1)
theorem zcf:∀ {ks:List Nat} {g j:Nat},pos ks g=some j→j < ks.length∧ks.getD j 0=g
 | [],g,j,h=>by simp [pos] at h
 | k :: ks,g,j,h=>by
   rw [pos] at h
   split at h
   · rename_i hk;cases h;exact ⟨by simp,by simp [hk]⟩
   · obtain ⟨i,hi,rfl⟩:=Option.map_eq_some_iff.1 h
     obtain ⟨h1,h2⟩:=zcf hi
     exact ⟨by simp;omega,by simpa using h2⟩
theorem zhr:∀ {ks:List Nat} {g:Nat},pos ks g=none→g ∉ ks
 | [],g,_=>by simp
 | k :: ks,g,h=>by
   rw [pos] at h
   split at h
   · cases h
   · rename_i hk
     have:=zhr (Option.map_eq_none_iff.1 h)
     simp [hk,this]
def frzL (w:Nat) (ys:List AV):AV:=bif z0o ys then .lst w ys else .any
def frzP (y:AV):AV:=bif y.pure then .cptr y else .any
def rnV (b:Nat) (H:z02) (ks:List Nat):Nat→AV→AV
 | 0,x=>bif x.pure then x else .any
 | d + 1,.ref g v off len=>if g < b then .ref g v off len else if v=(H.at_ g).ver then
     (match pos ks g with
      | some j=>.ref (b + j) 1 off len
      | none=>if 0 < (H.at_ g).w∧off + len ≤ (H.at_ g).xs.length then frzL (H.at_ g).w ((((H.at_ g).xs.drop off).take len).map (rnV b H ks d)) else .any)
     else .any
 | d + 1,.ptr g v i o=>if g < b then .ptr g v i o else if v=(H.at_ g).ver then
     (match pos ks g with
      | some j=>.ptr (b + j) 1 i o
      | none=>if o=0∧i < (H.at_ g).xs.length∧0 < (H.at_ g).w then frzP (rnV b H ks d ((H.at_ g).xs.getD i .any)) else .any)
     else .any
 | _ + 1,.map g v=>if g < b then .map g v else if v=(H.at_ g).ver then (match pos ks g with|some j=>.map (b + j) 1|none=>.any) else .any
 | d + 1,.agg cs=>.agg (cs.map (rnV b H ks d))
 | d + 1,.tup cs=>.tup (cs.map (rnV b H ks d))
 | d + 1,.fn f cs=>.fn f (cs.map (rnV b H ks d))
 | _ + 1,x=>x
def inv (b:Nat) (ks:List Nat) (j:Nat):Nat:=if j < b then j else ks.getD (j - b) 0
def MS.repack (S:MS) (b:Nat) (H:z02) (ks:List Nat):MS where
 w:=S.w
 im:=fun c=>S.im c ∨ ∃ g,g < H.n∧b ≤ g∧g ∉ ks∧0 < (H.at_ g).w∧0 < S.cap g∧c=S.place g
 keep:=S.keep
 n:=b + ks.length
 place:=fun j=>S.place (inv b ks j)
 cur:=fun j=>if j < b then S.cur j else 1
 cap:=fun j=>S.cap (inv b ks j)
 wid:=fun j=>S.wid (inv b ks j)
 base:=S.base
def z02.repack (H:z02) (b:Nat) (ks:List Nat) (d:Nat):z02:=⟨b + ks.length,fun j=>⟨(H.at_ (inv b ks j)).w,if j < b then (H.at_ j).ver else 1,(H.at_ (inv b ks j)).exact,(H.at_ (inv b ks j)).xs.map (rnV b H ks d)⟩⟩
section
variable {S:MS} {H:z02} {b:Nat} {ks:List Nat}
theorem z4k {j:Nat} (h:j < b):inv b ks j=j:=if_pos h
theorem zmi {j:Nat}:inv b ks (b + j)=ks.getD j 0:=by
 have h1:b + j - b=j:=by omega
 have h2:¬ b + j < b:=by omega
 rw [inv,if_neg h2,h1]
theorem zhs {x:AV} {v:Value} (hx:x.pure=true) (h:VRel S x v):VRel (S.repack b H ks) x v:=VRel.of_pure (S:=S) (S':=S.repack b H ks) rfl (fun _ hb=>.inl hb) hx h
theorem zrm (hS:SRel S H):∀ (d:Nat) {x:AV} {v:Value},VRel S x v→VRel (S.repack b H ks) (rnV b H ks d x) v
 | 0,x,v,h=>by
   rw [rnV]
   cases hp:x.pure
   · trivial
   · exact zhs hp h
 | d + 1,x,v,h=>by
   have keyL:∀ {cs:List AV} {vs:List Value},z04 S cs vs→z04 (S.repack b H ks) (cs.map (rnV b H ks d)) vs:=by
     intro cs
     induction cs with
     | nil=>intro vs hh;exact hh
     | cons c cs ih =>
       intro vs hh
       obtain ⟨u,r,rfl,h1,h2⟩:=hh
       exact ⟨u,r,rfl,zrm hS d h1,ih h2⟩
   cases x with
   | ref g vn off len =>
     obtain ⟨⟨a,c,rfl,ha⟩,hg,hvn,hcur⟩:=h
     have hG:=hS.live_of hg
     rw [rnV]
     split
     · rename_i hgb
       refine ⟨⟨a,c,rfl,ha⟩,by show g < b + _;omega,by show vn ≤ if g < b then _ else _;rw [if_pos hgb];exact hvn,fun he=>?_⟩
       have he':(if g < b then S.cur g else 1)=vn:=he
       rw [if_pos hgb] at he'
       show ∃ a cap',_=Value.slice a len cap'∧((a=some ⟨S.place (inv b ks g),off * S.wid (inv b ks g),none⟩∧cap'=S.cap (inv b ks g) - off∧off + len ≤ S.cap (inv b ks g)) ∨ (len=0∧cap'=0∧S.cap (inv b ks g) ≤ off))
       rw [z4k hgb]
       exact hcur he'
     · split
       · rename_i hver
         have hh:=hcur (by rw [hG.ver,hver])
         split
         · rename_i j hj
           obtain ⟨h1,h2⟩:=zcf hj
           refine ⟨⟨a,c,rfl,ha⟩,by show b + j < b + _;omega,by show 1 ≤ if b + j < b then _ else 1;rw [if_neg (by omega)];exact Nat.le_refl 1,fun _=>?_⟩
           show ∃ a cap',_=Value.slice a len cap'∧((a=some ⟨S.place (inv b ks (b + j)),off * S.wid (inv b ks (b + j)),none⟩∧cap'=S.cap (inv b ks (b + j)) - off∧off + len ≤ S.cap (inv b ks (b + j))) ∨ (len=0∧cap'=0∧S.cap (inv b ks (b + j)) ≤ off))
           rw [zmi,h2]
           exact hh
         · rename_i hb hj
           have hnk:=zhr hj
           split
           · rename_i hw
             obtain ⟨hw,hol⟩:=hw
             unfold frzL
             cases hpu:z0o ((((H.at_ g).xs.drop off).take len).map (rnV b H ks d))
             · trivial
             · obtain ⟨a',cap',hv,hcase⟩:=hh
               obtain ⟨rfl,-,rfl⟩:a=a'∧len=len∧c=cap':=by cases hv;exact ⟨rfl,rfl,rfl⟩
               have hl:((((H.at_ g).xs.drop off).take len).map (rnV b H ks d)).length=len:=by simp;omega
               show VRel _ (.lst _ _) _
               have hnone:a=none→c=0:=fun hn=>by
                 rcases hcase with ⟨rfl,_⟩|⟨_,hh,_⟩
                 · cases hn
                 · exact hh
               by_cases hc0:S.cap g=0
               · have hlen:=hG.len hw
                 have hnil:((H.at_ g).xs.drop off).take len=[]:=List.eq_nil_of_length_eq_zero (by simp;omega)
                 simp only [hnil,List.map_nil] at hl ⊢
                 exact ⟨rfl,hw,a,c,[],by rw [← hl],⟨Nat.zero_le _,hnone⟩,rfl,fun hne=>absurd rfl hne⟩
               obtain ⟨⟨cells,TT,us,hb2,hcs,hus,hfl⟩,_⟩:=hG.live hw (by omega)
               refine ⟨hpu,hw,a,c,_,by rw [hl],⟨?_,hnone⟩,keyL ((hus.drop off).take len),fun hne=>?_⟩
               · rw [hl];rcases hcase with ⟨_,c2,c3⟩|⟨c1,c2,_⟩<;>omega
               · rcases hcase with ⟨rfl,_,_⟩|⟨c1,_,_⟩
                 · refine ⟨_,_,rfl,.inr ⟨g,by rw [← hS.n];exact hg,by omega,hnk,hw,by omega,rfl⟩,fun j u hu=>?_⟩
                   rw [List.getElem?_take] at hu
                   split at hu
                   · rw [List.getElem?_drop] at hu
                     have:=hfl.row hb2 (off + j) u hu
                     rw [Nat.zero_add,Nat.add_mul] at this
                     rw [hG.wid]
                     exact this
                   · cases hu
                 · exact absurd (List.eq_nil_of_length_eq_zero (by rw [hl];exact c1)) hne
           · trivial
       · trivial
   | ptr g vn i o =>
     obtain ⟨⟨a,rfl⟩,hg,hvn,hcur⟩:=h
     have hG:=hS.live_of hg
     rw [rnV]
     split
     · rename_i hgb
       refine ⟨⟨a,rfl⟩,by show g < b + _;omega,by show vn ≤ if g < b then _ else _;rw [if_pos hgb];exact hvn,fun he=>?_⟩
       have he':(if g < b then S.cur g else 1)=vn:=he
       rw [if_pos hgb] at he'
       show _=Value.pointer (some ⟨S.place (inv b ks g),i * S.wid (inv b ks g) + o,none⟩)
       rw [z4k hgb]
       exact hcur he'
     · split
       · rename_i hver
         have hh:=hcur (by rw [hG.ver,hver])
         split
         · rename_i j hj
           obtain ⟨h1,h2⟩:=zcf hj
           refine ⟨⟨a,rfl⟩,by show b + j < b + _;omega,by show 1 ≤ if b + j < b then _ else 1;rw [if_neg (by omega)];exact Nat.le_refl 1,fun _=>?_⟩
           show _=Value.pointer (some ⟨S.place (inv b ks (b + j)),i * S.wid (inv b ks (b + j)) + o,none⟩)
           rw [zmi,h2]
           exact hh
         · rename_i hb hj
           have hnk:=zhr hj
           split
           · rename_i hc
             obtain ⟨rfl,hi,hw⟩:=hc
             unfold frzP
             cases hpu:(rnV b H ks d ((H.at_ g).xs.getD i .any)).pure
             · trivial
             · show VRel _ (.cptr _) _
               obtain ⟨u,hu,hl⟩:=hG.elem hw hi
               have k1:=zrm hS d hu
               refine ⟨hpu,S.place g,i * (H.at_ g).w,u,?_,.inr ⟨g,by rw [← hS.n];exact hg,by omega,hnk,hw,by have:=hG.len hw;omega,rfl⟩,k1,?_⟩
               · rw [hh,hG.wid];rfl
               · rw [hl.1];exact hl
           · trivial
       · trivial
   | agg cs=>obtain ⟨vs,rfl,hr⟩:=h;exact ⟨vs,rfl,keyL hr⟩
   | tup cs=>obtain ⟨vs,rfl,hr⟩:=h;exact ⟨vs,rfl,keyL hr⟩
   | fn f cs=>obtain ⟨vs,rfl,hr⟩:=h;exact ⟨vs,rfl,keyL hr⟩
   | full w xs=>exact zhs h.1 h
   | map g vn =>
     obtain ⟨⟨a,rfl⟩,hg,hvn,hcur⟩:=h
     have hG:=hS.live_of hg
     rw [rnV]
     split
     · rename_i hgb
       refine ⟨⟨a,rfl⟩,by show g < b + _;omega,by show vn ≤ if g < b then _ else _;rw [if_pos hgb];exact hvn,fun he=>?_⟩
       have he':(if g < b then S.cur g else 1)=vn:=he
       rw [if_pos hgb] at he'
       show _=Value.map (some (S.place (inv b ks g)))
       rw [z4k hgb]
       exact hcur he'
     · split
       · rename_i hver
         have hh:=hcur (by rw [hG.ver,hver])
         split
         · rename_i j hj
           obtain ⟨h1,h2⟩:=zcf hj
           refine ⟨⟨a,rfl⟩,by show b + j < b + _;omega,by show 1 ≤ if b + j < b then _ else 1;rw [if_neg (by omega)];exact Nat.le_refl 1,fun _=>?_⟩
           show _=Value.map (some (S.place (inv b ks (b + j))))
           rw [zmi,h2]
           exact hh
         · trivial
       · trivial
   | lst w xs=>exact zhs h.1 h
   | cptr x=>exact zhs h.1 h
   | any=>trivial
   | bool _=>exact h
   | int _ _=>exact h
   | str _=>exact h
   | nilS=>exact h
   | nul=>exact h
   | emp=>exact h
   | nilP=>exact h
   | nilF=>exact h
   | yld l=>exact h
theorem z7x (hS:SRel S H) (hb:b ≤ S.n):BEvo b S (S.repack b H ks) where
 base:=rfl
 os:=rfl
 tape:=rfl
 output:=rfl
 size:=Nat.le_refl _
 kept _ _:=rfl
 im _ h:=.inl h
 keep _ h:=h
 fresh c hc:=by
   rcases hc with hc|⟨g,hg,_,_,hw,hcap,rfl⟩
   · exact .inl hc
   · exact .inr fun hk=>((hS.grp g hg).live hw hcap).2 (.inr hk)
 n:=Nat.le_add_right _ _
 cur g hg:=by show _ ≤ if g < b then S.cur g else 1;rw [if_pos hg];exact Nat.le_refl _
 same g hg _:=by
   show S.place (inv b ks g)=_∧S.cap (inv b ks g)=_∧S.wid (inv b ks g)=_
   rw [z4k hg];exact ⟨rfl,rfl,rfl⟩
theorem zak (d:Nat) (hS:SRel S H) (hb:b ≤ H.n) (hk:∀ k ∈ ks,b ≤ k∧k < H.n) (hn:ks.Nodup):SRel (S.repack b H ks) (H.repack b ks d):=by
 have keyL:∀ {cs:List AV} {vs:List Value},z04 S cs vs→z04 (S.repack b H ks) (cs.map (rnV b H ks d)) vs:=by
   intro cs
   induction cs with
   | nil=>intro vs hh;exact hh
   | cons c cs ih =>
     intro vs hh
     obtain ⟨u,r,rfl,h1,h2⟩:=hh
     exact ⟨u,r,rfl,zrm hS d h1,ih h2⟩
 have hinv:∀ j,j < b + ks.length→inv b ks j < H.n∧(j < b ∨ b ≤ inv b ks j∧inv b ks j ∈ ks):=by
   intro j hj
   by_cases hjb:j < b
   · rw [z4k hjb];exact ⟨by omega,.inl hjb⟩
   · have h1:j - b < ks.length:=by omega
     have:inv b ks j=ks[j - b]:=by simp [inv,hjb,List.getD,List.getElem?_eq_getElem h1]
     rw [this]
     have:=hk _ (List.getElem_mem h1)
     exact ⟨this.2,.inr ⟨this.1,List.getElem_mem h1⟩⟩
 refine ⟨rfl,fun j hj=>?_,fun j j' hj hj' hne hw hw'=>?_,fun c hc=>?_⟩
 · obtain ⟨h1,h2⟩:=hinv j hj
   have hG:=hS.grp _ h1
   have hni:(H.at_ (inv b ks j)).has (S.cap (inv b ks j))→¬ ((S.repack b H ks).im (S.place (inv b ks j)) ∨ (S.repack b H ks).keep (S.place (inv b ks j))):=fun hq=>by
     have a5:=hG.has_ni hq
     rintro ((hi|⟨g,hg,hbg,hnk,hw',hc',he⟩)|hi)
     · exact a5 (.inl hi)
     · have hne:inv b ks j ≠ g:=by
         intro hh
         rcases h2 with h2|h2
         · rw [z4k h2] at hh;omega
         · exact hnk (hh ▸ h2.2)
       exact hS.apart _ g h1 hg hne hq (.inl ⟨hw',hc'⟩) he
     · exact a5 (.inr hi)
   refine ⟨?_,hG.wid,fun hw hc=>?_,fun hw=>?_,fun hw he=>?_,fun hw he=>?_⟩
   · show (if j < b then S.cur j else 1)=if j < b then (H.at_ j).ver else 1
     split
     · rename_i hjb;rw [z4k hjb] at hG;exact hG.ver
     · rfl
   · obtain ⟨⟨cells,TT,us,a1,a2,a3,a4⟩,a5⟩:=hG.live hw hc
     exact ⟨⟨cells,TT,us,a1,a2,keyL a3,a4⟩,hni (.inl ⟨hw,hc⟩)⟩
   · show ((H.at_ (inv b ks j)).xs.map _).length ≤ _;rw [List.length_map];exact hG.len hw
   · show ((H.at_ (inv b ks j)).xs.map _).length=_;rw [List.length_map];exact hG.full hw he
   · obtain ⟨⟨es,clock,a1,a2⟩,a5⟩:=hG.mlive hw he
     exact ⟨⟨es,clock,a1,keyL a2⟩,hni (.inr ⟨hw,he⟩)⟩
 · obtain ⟨h1,h2⟩:=hinv j hj
   obtain ⟨h1',h2'⟩:=hinv j' hj'
   refine hS.apart _ _ h1 h1' ?_ hw hw'
   intro hh
   rcases h2 with h2|⟨h2,h3⟩<;>rcases h2' with h2'|⟨h2',h3'⟩
   · rw [z4k h2,z4k h2'] at hh;exact hne hh
   · rw [z4k h2] at hh;omega
   · rw [z4k h2'] at hh;omega
   · have hjb:¬ j < b:=fun h=>by rw [z4k h] at h2;omega
     have hjb':¬ j' < b:=fun h=>by rw [z4k h] at h2';omega
     have e1:j - b < ks.length:=by have:j < b + ks.length:=hj;omega
     have e2:j' - b < ks.length:=by have:j' < b + ks.length:=hj';omega
     have f1:inv b ks j=ks[j - b]:=by simp [inv,hjb,List.getD,List.getElem?_eq_getElem e1]
     have f2:inv b ks j'=ks[j' - b]:=by simp [inv,hjb',List.getD,List.getElem?_eq_getElem e2]
     rw [f1,f2] at hh
     have:=(List.getElem_inj hn).1 hh
     omega
 · rcases hc with (hc|⟨g,hg,_,_,hw,hcap,rfl⟩)|hc
   · exact hS.im c (.inl hc)
   · exact (hS.grp g hg).lt hw hcap
   · exact hS.im c (.inr hc)
theorem zzj {P:Program} {n:Nat} {c:AC} {env:Env} {Q:Ex→Env→z02→Prop} (ks:List Nat) (d:Nat) (hb:b ≤ H.n) (hk:∀ k ∈ ks,b ≤ k∧k < H.n) (hn:ks.Nodup)
   (h:T P n b c (fun i=>rnV b H ks d (env i)) (H.repack b ks d) Q):T P n b c env H Q:=by
 intro rd mm hrd code hc S a hbS hS hF
 have hev:=z7x (ks:=ks) hS hbS
 refine wpIn_mono (h rd mm hrd code hc (S.repack b H ks) a (Nat.le_add_right _ _) (zak d hS hb hk hn) ⟨hF.size,hF.defers.of hev.base hev.size hev.keep hev.fresh (fun b hb=>hev.kept b (.inr hb)),fun j hj=>zrm hS d (hF.val j hj)⟩) fun e a w hh=>hh.trans (z7x hS hbS)
end
theorem zuv:z02.nil=hl []:=by
 simp [z02.nil,hl]
theorem hl_n (l:List Grp):(hl l).n=l.length:=rfl
theorem SRel.congr {S:MS} {H H':z02} (hn:H'.n=H.n) (h:∀ g,g < H.n→H'.at_ g=H.at_ g) (hS:SRel S H):SRel S H' :=
 ⟨hS.n.trans hn.symm,fun g hg=>by rw [h g (by omega)];exact hS.grp g (by omega),fun g g' hg hg' hne hw hw'=>by
   rw [h g (by omega)] at hw
   rw [h g' (by omega)] at hw'
   exact hS.apart g g' (by omega) (by omega) hne hw hw',hS.im⟩
theorem z0z.congr {P:Program} {f:Nat} {xs:List AV} {H H':z02} {K:AV→z02→Prop} (hn:H'.n=H.n) (h:∀ g,g < H.n→H'.at_ g=H.at_ g) (k:z0z P f xs H' K):z0z P f xs H K :=
 ⟨k.1,fun S cargs hS hx=>k.2 S cargs (hS.congr hn h) hx⟩
def z02.groups (H:z02):List Grp:=(List.range H.n).map H.at_
theorem zk1 (l:List Grp):(hl l).groups=l:=by
 refine List.ext_getElem (by simp [z02.groups,hl]) fun i h1 h2=>?_
 simp [z02.groups,hl,h2]
def z9i:Nat→List Nat→List Grp→List Grp
 | _,_,[]=>[]
 | i,ks,G :: l=>(if i ∈ ks then G.dead else G) :: z9i (i + 1) ks l
theorem zk2:∀ (i:Nat) (ks:List Nat) (l:List Grp),(z9i i ks l).length=l.length
 | _,_,[]=>rfl
 | i,ks,G :: l=>by simp [z9i,zk2 (i + 1) ks l]
theorem zp1:∀ (i:Nat) (ks:List Nat) (l:List Grp) (g:Nat),g < l.length→(z9i i ks l).getD g default=if i + g ∈ ks then (l.getD g default).dead else l.getD g default
 | _,_,[],g,h=>by simp at h
 | i,ks,G :: l,0,h=>by simp [z9i]
 | i,ks,G :: l,g + 1,h=>by
   have:=zp1 (i + 1) ks l g (by simpa using h)
   have e:i + 1 + g=i + (g + 1):=by omega
   rw [e] at this
   simpa [z9i] using this
theorem zfw {P:Program} {f:Nat} {xs:List AV} {l:List Grp} {K:AV→z02→Prop} (d:Nat) (ks:List Nat) (hok:∀ x ∈ xs,z2m d ((hl l).only ks) x) (h:z0z P f (xs.map (frzV d ((hl l).only ks))) (hl (z9i 0 ks l)) K):z0z P f xs (hl l) K:=by
 refine zhq d ks hok (z0z.congr (H':=hl (z9i 0 ks l)) (by simp [hl,z02.kill,zk2]) (fun g hg=>?_) h)
 show (z9i 0 ks l).getD g default=if g ∈ ks then (l.getD g default).dead else l.getD g default
 rw [zp1 0 ks l g hg,Nat.zero_add]
def leH (H:z02) (x y:AV):Prop:=∀ S v,SRel S H→VRel S x v→VRel S y v
section
variable {H:z02}
theorem zuw {l:List Grp} {g v len:Nat} (hv:(l.getD g default).ver=v) (hw:0 < (l.getD g default).w) (hx:(l.getD g default).xs=[]) (he:(l.getD g default).exact=true) (hg:g < l.length) (h0:len=0):leH (hl l) .nilS (.ref g v 0 len):=fun S u hS hu=>by
 subst h0
 have hG:=hS.grp g hg
 rw [z37] at hG
 have hf:=hG.full hw he
 rw [hx] at hf
 have hc:S.cap g=0:=hf.symm
 have hu':u=.slice none 0 0:=hu
 subst hu'
 exact ⟨⟨none,0,rfl,fun _=>rfl⟩,by rw [hS.n];exact hg,by rw [hG.ver,hv];exact Nat.le_refl _,fun _=>⟨none,0,rfl,.inr ⟨rfl,rfl,by rw [hc];exact Nat.le_refl _⟩⟩⟩
end
mutual
def leS (l:List Grp):AV→AV→Prop
 | .int k a,y=>(match y with|.int k' b=>k=k'∧a=b|.any=>True|_=>False)
 | .bool a,y=>(match y with|.bool b=>a=b|.any=>True|_=>False)
 | .nilS,y=>(match y with
   | .nilS|.any=>True
   | .lst w ys=>0 < w∧ys=[]
   | .ref g v off len=>off=0∧len=0∧(l.getD g default).ver=v∧0 < (l.getD g default).w∧(l.getD g default).xs=[]∧(l.getD g default).exact=true∧g < l.length
   | _=>False)
 | .nul,y=>(match y with|.nul|.any=>True|.lst w ys=>0 < w∧ys=[]|_=>False)
 | .emp,y=>(match y with|.emp|.any=>True|.lst w ys=>0 < w∧ys=[]|_=>False)
 | .lst w xs,y=>(match y with|.lst w' ys=>w=w'∧xs=ys|.any=>True|_=>False)
 | .full w xs,y=>(match y with|.full w' ys=>w=w'∧xs=ys|.lst w' ys=>w=w'∧leSL l xs ys∧z0o ys=true|.any=>True|_=>False)
 | .ref g v o n,y=>(match y with|.ref g' v' o' n'=>g=g'∧v=v'∧o=o'∧n=n'|.any=>True|_=>False)
 | .ptr g v o n,y=>(match y with|.ptr g' v' o' n'=>g=g'∧v=v'∧o=o'∧n=n'|.any=>True|_=>False)
 | .agg xs,y=>(match y with|.agg ys=>leSL l xs ys|.any=>True|_=>False)
 | .tup xs,y=>(match y with|.tup ys=>leSL l xs ys|.any=>True|_=>False)
 | x,y=>(match y with|.any=>True|y=>x=y)
def leSL (l:List Grp):List AV→List AV→Prop
 | [],ys=>ys=[]
 | x :: xs,ys=>(match ys with|y :: ys=>leS l x y∧leSL l xs ys|[]=>False)
end
mutual
theorem zk3 {S:MS} {l:List Grp} (hS:SRel S (hl l) ∨ l=[]):∀ (x:AV) {y:AV} {v:Value},leS l x y→VRel S x v→VRel S y v
 | .any,y,v,h,hv=>by cases y<;>simp only [leS,reduceCtorEq] at h;trivial
 | .int k a,y,v,h,hv=>by
   cases y<;>simp only [leS] at h
   · trivial
   · obtain ⟨rfl,rfl⟩:=h;exact hv
 | .bool a,y,v,h,hv=>by
   cases y<;>simp only [leS] at h
   · trivial
   · subst h;exact hv
 | .str s,y,v,h,hv=>by cases y<;>simp only [leS] at h<;>first|trivial|(cases h;done)|(cases h;exact hv)
 | .nilP,y,v,h,hv=>by cases y<;>simp only [leS] at h<;>first|trivial|(cases h;done)|exact hv
 | .nilF,y,v,h,hv=>by cases y<;>simp only [leS] at h<;>first|trivial|(cases h;done)|exact hv
 | .yld l,y,v,h,hv=>by cases y<;>simp only [leS] at h<;>first|trivial|(cases h;done)|(cases h;exact hv)
 | .cptr x,y,v,h,hv=>by cases y<;>simp only [leS] at h<;>first|trivial|(cases h;done)|(cases h;exact hv)
 | .fn f xs,y,v,h,hv=>by cases y<;>simp only [leS] at h<;>first|trivial|(cases h;done)|(cases h;exact hv)
 | .nilS,y,v,h,hv=>by
   cases y<;>simp only [leS] at h
   · trivial
   · exact hv
   · obtain ⟨h1,rfl⟩:=h;exact AV.le_nilS h1 S v hv
   · obtain ⟨rfl,rfl,h1,h2,h3,h4,h5⟩:=h
     rcases hS with hS|rfl
     · exact zuw h1 h2 h3 h4 h5 rfl S v hS hv
     · exact absurd h5 (Nat.not_lt_zero _)
 | .nul,y,v,h,hv=>by
   cases y<;>simp only [leS] at h
   · trivial
   · exact hv
   · obtain ⟨h1,rfl⟩:=h;exact AV.le_nul h1 S v hv
 | .emp,y,v,h,hv=>by
   cases y<;>simp only [leS] at h
   · trivial
   · exact hv
   · obtain ⟨h1,rfl⟩:=h;exact AV.le_emp h1 S v hv
 | .lst w xs,y,v,h,hv=>by
   cases y<;>simp only [leS] at h
   · trivial
   · obtain ⟨rfl,rfl⟩:=h;exact hv
 | .full w xs,y,v,h,hv=>by
   cases y<;>simp only [leS] at h
   · trivial
   · rename_i w' ys
     obtain ⟨rfl,h1,hp⟩:=h
     obtain ⟨_,h0,a,cap,vs,hv,hc,hl,hr⟩:=z98 hv
     have hn:=z04.length hl
     have hm:=z8x hS xs h1 hl
     have hln:ys.length=xs.length:=by rw [← z04.length hm,hn]
     exact ⟨hp,h0,a,cap,vs,by rw [hln];exact hv,by rw [hln];exact hc,hm,fun hne=>hr fun h=>hne (by rw [h] at hln;exact List.length_eq_zero_iff.1 hln)⟩
   · obtain ⟨rfl,rfl⟩:=h;exact hv
 | .map g a,y,v,h,hv=>by cases y<;>simp only [leS] at h<;>first|trivial|(cases h;done)|(cases h;exact hv)
 | .ref g a o n,y,v,h,hv=>by
   cases y<;>simp only [leS] at h
   · trivial
   · obtain ⟨rfl,rfl,rfl,rfl⟩:=h;exact hv
 | .ptr g a o n,y,v,h,hv=>by
   cases y<;>simp only [leS] at h
   · trivial
   · obtain ⟨rfl,rfl,rfl,rfl⟩:=h;exact hv
 | .agg xs,y,v,h,hv=>by
   cases y<;>simp only [leS] at h
   · trivial
   · obtain ⟨vs,rfl,hr⟩:=hv;exact ⟨vs,rfl,z8x hS xs h hr⟩
 | .tup xs,y,v,h,hv=>by
   cases y<;>simp only [leS] at h
   · trivial
   · obtain ⟨vs,rfl,hr⟩:=hv;exact ⟨vs,rfl,z8x hS xs h hr⟩
theorem z8x {S:MS} {l:List Grp} (hS:SRel S (hl l) ∨ l=[]):∀ (xs:List AV) {ys:List AV} {vs:List Value},leSL l xs ys→z04 S xs vs→z04 S ys vs
 | [],ys,vs,h,hv=>by rw [show ys=[] from h];exact hv
 | x :: xs,[],vs,h,hv=>h.elim
 | x :: xs,y :: ys,vs,h,hv=>by
   obtain ⟨v,r,rfl,h1,h2⟩:=hv
   exact ⟨v,r,rfl,zk3 hS x h.1 h1,z8x hS xs h.2 h2⟩
end
theorem zp2 {l:List Grp}:∀ {xs ys:List AV},leSL l xs ys→ys.length=xs.length
 | [],ys,h=>by rw [show ys=[] from h]
 | _ :: _,[],h=>h.elim
 | _ :: _,_ :: _,h=>by simp [zp2 h.2]
mutual
theorem zht (l:List Grp):∀ x:AV,leS l x x
 | .any=>trivial
 | .int _ _=>⟨rfl,rfl⟩
 | .bool _=>rfl
 | .str _=>rfl
 | .nilS=>trivial
 | .nul=>trivial
 | .emp=>trivial
 | .lst _ _=>⟨rfl,rfl⟩
 | .full _ _=>⟨rfl,rfl⟩
 | .map _ _=>rfl
 | .ref ..=>⟨rfl,rfl,rfl,rfl⟩
 | .ptr ..=>⟨rfl,rfl,rfl,rfl⟩
 | .cptr _=>rfl
 | .nilP=>rfl
 | .nilF=>rfl
 | .yld _=>rfl
 | .fn ..=>rfl
 | .agg xs=>z0l l xs
 | .tup xs=>z0l l xs
theorem z0l (l:List Grp):∀ xs:List AV,leSL l xs xs
 | []=>rfl
 | x :: xs=>⟨zht l x,z0l l xs⟩
end
theorem y7z {x y:AV} (h:leS [] x y):AV.le x y:=fun S v hv=>zk3 (.inr rfl) x h hv
theorem z6n {xs ys:List AV} (h:leSL [] xs ys):leL xs ys:=fun S v hv=>z8x (.inr rfl) xs h hv
def zzk (l:List Grp) (G G':Grp):Prop:=G.w=G'.w∧G.ver=G'.ver∧(G'.exact=true→G.exact=true)∧leSL l G.xs G'.xs
def z74 (l0:List Grp):List Grp→List Grp→Prop
 | [],[]=>True
 | G :: l,G' :: l'=>zzk l0 G G'∧z74 l0 l l'
 | _,_=>False
theorem zal {l0:List Grp}:∀ {l l':List Grp},z74 l0 l l'→l'.length=l.length
 | [],[],_=>rfl
 | G :: l,G' :: l',h=>by simp [zal h.2]
 | [],_ :: _,h=>h.elim
 | _ :: _,[],h=>h.elim
theorem zcz {l0:List Grp}:∀ {l l':List Grp},z74 l0 l l'→∀ g,g < l.length→zzk l0 (l.getD g default) (l'.getD g default)
 | [],[],_,g,hg=>by simp at hg
 | G :: l,G' :: l',h,0,_=>h.1
 | G :: l,G' :: l',h,g + 1,hg=>by simpa using zcz h.2 g (by simpa using hg)
 | [],_ :: _,h,_,_=>h.elim
 | _ :: _,[],h,_,_=>h.elim
theorem z7y {S:MS} {l l':List Grp} (hS:SRel S (hl l)) (h:z74 l l l'):SRel S (hl l'):=by
 have hlen:=zal h
 refine ⟨hS.n.trans hlen.symm,fun g hg=>?_,fun g g' hg hg' hne hw hw'=>?_,hS.im⟩
 · have hg':g < l.length:=by rw [← hlen];exact hg
   obtain ⟨h1,h2,h3,h5⟩:=zcz h g hg'
   have h4:(l.getD g default).xs.length=(l'.getD g default).xs.length:=(zp2 h5).symm
   have hG:=hS.grp g hg'
   rw [z37] at hG ⊢
   refine ⟨by rw [← h2];exact hG.ver,by rw [← h1];exact hG.wid,fun hw hc=>?_,fun hw=>by rw [← h4];exact hG.len (by rw [h1];exact hw),fun hw he=>by rw [← h4];exact hG.full (by rw [h1];exact hw) (h3 he),fun hw he=>?_⟩
   rotate_left
   · obtain ⟨⟨es,clock,a1,a2⟩,a5⟩:=hG.mlive (by rw [h1];exact hw) (h3 he)
     exact ⟨⟨es,clock,a1,z8x (.inl hS) _ h5 a2⟩,a5⟩
   obtain ⟨⟨cells,TT,us,a1,a2,a3,a4⟩,a5⟩:=hG.live (by rw [h1];exact hw) hc
   exact ⟨⟨cells,TT,us,a1,by rw [← h1];exact a2,z8x (.inl hS) _ h5 a3,by rw [← h1];exact a4⟩,a5⟩
 · have hg1:g < l.length:=by rw [← hlen];exact hg
   have hg1':g' < l.length:=by rw [← hlen];exact hg'
   have key:∀ g,g < l.length→((hl l').at_ g).has (S.cap g)→((hl l).at_ g).has (S.cap g):=fun g hg hh=>by
     obtain ⟨k1,_,k3,_⟩:=zcz h g hg
     rw [z37] at hh ⊢
     rcases hh with ⟨q1,q2⟩|⟨q1,q2⟩
     · exact .inl ⟨by rw [k1];exact q1,q2⟩
     · exact .inr ⟨by rw [k1];exact q1,k3 q2⟩
   exact hS.apart g g' hg1 hg1' hne (key g hg1 hw) (key g' hg1' hw')
inductive Src where
 | grp (g:Nat)
 | virt (w:Nat)
def z0p (w:Nat):AV→Src
 | .ref g _ _ _=>.grp g
 | .ptr g _ _ _=>.grp g
 | .map g _=>.grp g
 | _=>.virt w
def cellAt (H:z02) (x:AV) (k:Nat):AV:=match x with
 | .ptr g _ i _=>((H.at_ g).xs.getD i .any).cells.getD k .any
 | _=>.any
def z4b:Nat→List Src→List Nat × List Nat
 | _,[]=>([],[])
 | N,.grp g :: r=>(g :: (z4b N r).1,(z4b N r).2)
 | N,.virt w :: r=>(N :: (z4b (N + 1) r).1,w :: (z4b (N + 1) r).2)
def z8g (w:Nat):Grp:=⟨w,1,true,[]⟩
def z3w:List (Nat × AV)→Env
 | [],_=>.any
 | (t,x) :: l,j=>if j=t then x else z3w l j
def zb6 (l2:List Grp) (H1:z02) (b:Nat) (ks:List Nat) (env:Env):List (Nat × AV)→Prop
 | []=>True
 | (t,y) :: r=>leS l2 (rnV b H1 ks 6 (env t)) y∧zb6 l2 H1 b ks env r
def allB (b n:Nat):List Nat→Prop
 | []=>True
 | k :: r=>b ≤ k∧k < n∧allB b n r
def zmj:List Nat→Prop
 | []=>True
 | k :: r=>k ∉ r∧zmj r
def rnG (b:Nat) (H:z02) (ks:List Nat) (v:Nat) (G:Grp):Grp:=⟨G.w,v,G.exact,G.xs.map (rnV b H ks 6)⟩
def z3f (b:Nat) (H:z02) (ks:List Nat):List Grp→List Grp
 | []=>[]
 | G :: l=>rnG b H ks G.ver G :: z3f b H ks l
def z3s (b:Nat) (H:z02) (ks:List Nat) (l:List Grp):List Nat→List Grp
 | []=>[]
 | k :: r=>rnG b H ks 1 (l.getD k default) :: z3s b H ks l r
def y43 (b:Nat) (env:Env) (l1 l2:List Grp) (ks:List Nat) (live:List (Nat × AV)) (heap:List Grp):Prop:=zb6 l2 (hl l1) b ks env live∧z74 l2 l2 heap
def y44 (b:Nat) (env:Env) (l1:List Grp) (ks:List Nat) (live:List (Nat × AV)) (heap:List Grp):Prop :=
 allB b l1.length ks∧zmj ks∧y43 b env l1 (z3f b (hl l1) ks (l1.take b) ++ z3s b (hl l1) ks l1 ks) ks live heap
def zd0:List Nat→Prop
 | []=>True
 | w :: r=>0 < w∧zd0 r
theorem z7z:∀ {ws:List Nat},zd0 ws→∀ w ∈ ws,0 < w
 | [],_,w,hw=>by simp at hw
 | k :: r,h,w,hw=>by
   rcases List.mem_cons.1 hw with rfl|hw
   · exact h.1
   · exact z7z h.2 w hw
def y45 (b:Nat) (env:Env) (l:List Grp) (p:List Nat × List Nat) (live:List (Nat × AV)) (heap:List Grp):Prop:=zd0 p.2∧y44 b env (l ++ p.2.map z8g) p.1 live heap
def Head (b:Nat) (env:Env) (H:z02) (srcs:List Src) (live:List (Nat × AV)) (heap:List Grp):Prop:=b ≤ H.n∧y45 b env H.groups (z4b H.n srcs) live heap
section
variable {P:Program} {n b:Nat} {env:Env} {H:z02} {Q:Ex→Env→z02→Prop}
theorem y46 {l:List Grp} {srcs:List Src} {live:List (Nat × AV)} {heap:List Grp}:Head b env (hl l) srcs live heap=(b ≤ l.length∧y45 b env l (z4b l.length srcs) live heap):=by
 rw [Head,zk1,hl_n]
theorem y47 {c:AC} (w:Nat) (hw0:0 < w) (h:T P n b c env (H.push ⟨w,1,true,[]⟩) Q):T P n b c env H Q:=by
 intro rd mm hrd code hc S a hb hS hF
 exact wpIn_mono (h rd mm hrd code hc (S.virt w) a (Nat.le_succ_of_le hb) (hS.virt w hw0) ⟨hF.size,hF.defers.mono (Evo.virt _),fun j hj=>VRel.mono (Evo.virt _) _ (hF.val j hj)⟩) fun e a w hh=>hh.trans ((Evo.virt _).down hb)
theorem zmk {c:AC}:∀ (ws:List Nat) {l:List Grp},(∀ w ∈ ws,0 < w)→T P n b c env (hl (l ++ ws.map z8g)) Q→T P n b c env (hl l) Q
 | [],l,_,h=>by simpa using h
 | w :: ws,l,hw,h=>y47 w (hw w (by simp)) (by rw [z3r];exact zmk ws (fun w' h'=>hw w' (by simp [h'])) (by simpa [z8g] using h))
theorem zux {c:AC} {H':z02} (hn:H'.n=H.n) (h:∀ g,g < H.n→H'.at_ g=H.at_ g) (k:T P n b c env H' Q):T P n b c env H Q :=
 fun rd mm hrd code hc S a hb hS hF=>k rd mm hrd code hc S a hb (hS.congr hn h) hF
theorem zcg {m:Nat}:∀ {ks:List Nat},allB b m ks→∀ k ∈ ks,b ≤ k∧k < m
 | [],_,k,hk=>by simp at hk
 | k :: r,h,j,hj=>by
   rcases List.mem_cons.1 hj with rfl|hj
   · exact ⟨h.1,h.2.1⟩
   · exact zcg h.2.2 j hj
theorem z6o:∀ {ks:List Nat},zmj ks→ks.Nodup
 | [],_=>List.nodup_nil
 | k :: r,h=>List.nodup_cons.2 ⟨h.1,z6o h.2⟩
theorem zd1 {H:z02} {ks:List Nat}:∀ {l:List Grp},(z3f b H ks l).length=l.length
 | []=>rfl
 | G :: l=>by simp [z3f,zd1]
theorem zfx {H:z02} {ks:List Nat}:∀ {l:List Grp} {g:Nat},g < l.length→(z3f b H ks l).getD g default=rnG b H ks (l.getD g default).ver (l.getD g default)
 | [],g,h=>by simp at h
 | G :: l,0,_=>rfl
 | G :: l,g + 1,h=>by simpa [z3f] using zfx (l:=l) (g:=g) (by simpa using h)
theorem zd2 {H:z02} {ks:List Nat} {l:List Grp}:∀ {r:List Nat},(z3s b H ks l r).length=r.length
 | []=>rfl
 | k :: r=>by simp [z3s,zd2]
theorem zfy {H:z02} {ks:List Nat} {l:List Grp}:∀ {r:List Nat} {j:Nat},j < r.length→(z3s b H ks l r).getD j default=rnG b H ks 1 (l.getD (r.getD j 0) default)
 | [],j,h=>by simp at h
 | k :: r,0,_=>rfl
 | k :: r,j + 1,h=>by simpa [z3s] using zfy (r:=r) (j:=j) (by simpa using h)
theorem zd3 {l1:List Grp} {ks:List Nat} (hb:b ≤ l1.length):((hl (z3f b (hl l1) ks (l1.take b) ++ z3s b (hl l1) ks l1 ks)).n=((hl l1).repack b ks 6).n) ∧
   ∀ g,g < ((hl l1).repack b ks 6).n→(hl (z3f b (hl l1) ks (l1.take b) ++ z3s b (hl l1) ks l1 ks)).at_ g=((hl l1).repack b ks 6).at_ g:=by
 have hO:(z3f b (hl l1) ks (l1.take b)).length=b:=by rw [zd1,List.length_take];omega
 refine ⟨?_,fun g hg=>?_⟩
 · show (z3f b (hl l1) ks (l1.take b) ++ z3s b (hl l1) ks l1 ks).length=b + ks.length
   rw [List.length_append,hO,zd2]
 · have hg':g < b + ks.length:=hg
   rw [z37]
   show _=(⟨_,if g < b then (l1.getD g default).ver else 1,_,_⟩:Grp)
   by_cases hgb:g < b
   · rw [if_pos hgb,z4k hgb]
     have e:(z3f b (hl l1) ks (l1.take b) ++ z3s b (hl l1) ks l1 ks).getD g default=(z3f b (hl l1) ks (l1.take b)).getD g default:=by
       simp [List.getD,List.getElem?_append_left (show g < (z3f b (hl l1) ks (l1.take b)).length by omega)]
     have e2:(l1.take b).getD g default=l1.getD g default:=by
       simp [List.getD,hgb]
     rw [e,zfx (by simp;omega),e2]
     rfl
   · rw [if_neg hgb]
     have e:(z3f b (hl l1) ks (l1.take b) ++ z3s b (hl l1) ks l1 ks).getD g default=(z3s b (hl l1) ks l1 ks).getD (g - b) default:=by
       have:=List.getElem?_append_right (l₁:=z3f b (hl l1) ks (l1.take b)) (l₂:=z3s b (hl l1) ks l1 ks) (i:=g) (by omega)
       rw [hO] at this
       simp [List.getD,this]
     rw [e,zfy (by omega)]
     have e3:inv b ks g=ks.getD (g - b) 0:=by rw [inv,if_neg hgb]
     rw [e3]
     rfl
theorem zd4 {S:MS} {l2:List Grp} {H1:z02} {ks:List Nat} {a:Act} (hS:SRel S (hl l2)) (hF:FRel S n (fun i=>rnV b H1 ks 6 (env i)) a):∀ {live:List (Nat × AV)},zb6 l2 H1 b ks env live→∀ i,i < n→VRel S (z3w live i) (a.tmps.getD i undef)
 | [],_,i,_=>trivial
 | (t,y) :: r,h,i,hi=>by
   show VRel S (if i=t then y else z3w r i) _
   split
   · rename_i hit
     subst hit
     exact zk3 (.inl hS) _ h.1 (hF.val i hi)
   · exact zd4 hS hF h.2 i hi
theorem zuy {c:AC} {srcs:List Src} {live:List (Nat × AV)} {heap:List Grp} (hh:Head b env H srcs live heap) (h:T P n b c (z3w live) (hl heap) Q):T P n b c env H Q:=by
 obtain ⟨hb,hh⟩:=hh
 have hgn:H.groups.length=H.n:=by simp [z02.groups]
 refine zux (H':=hl H.groups) hgn (fun g hg=>?_) ?_
 · show H.groups.getD g default=_
   simp [z02.groups,List.getD,hg]
 refine zmk (z4b H.n srcs).2 (z7z hh.1) ?_
 replace hh:=hh.2
 generalize hl1:H.groups ++ (z4b H.n srcs).2.map z8g=l1
 simp only [hl1] at hh
 obtain ⟨h1,h2,h3,h4⟩:=hh
 have hb1:b ≤ l1.length:=by rw [← hl1,List.length_append];omega
 refine zzj (z4b H.n srcs).1 6 hb1 (fun k hk=>zcg h1 k hk) (z6o h2) ?_
 obtain ⟨e1,e2⟩:=zd3 (ks:=(z4b H.n srcs).1) hb1
 refine zux e1 e2 ?_
 intro rd mm hrd code hc S a hbS hS hF
 have hlen:=zal h4
 exact h rd mm hrd code hc S a hbS (z7y hS h4) ⟨hF.size,hF.defers,zd4 hS hF h3⟩
theorem z0j {σ:Type} (Fact:σ→Prop) (μ:σ→Nat) (live:σ→List (Nat × AV)) (heap:σ→List Grp) (srcs:Env→z02→List Src) {c:AC} (s0:σ) (h0:Fact s0) (he:Head b env H (srcs env H) (live s0) (heap s0))
   (round:∀ s,Fact s→T P n b c (z3w (live s)) (hl (heap s)) (Ex.then (fun env' H'=>∃ s',Head b env' H' (srcs env' H') (live s') (heap s')∧Fact s'∧μ s' < μ s) Q)):T P n b (.loop c) env H Q:=by
 refine y22 (fun s env H=>Fact s∧Head b env H (srcs env H) (live s) (heap s)) μ s0 ⟨h0,he⟩ fun s env H hI=>?_
 refine zuy hI.2 (T.mono (round s hI.1) fun x env' H' hh=>?_)
 cases x with
 | normal=>obtain ⟨s',k1,k2,k3⟩:=hh;exact ⟨s',⟨k2,k1⟩,k3⟩
 | exit id=>exact hh
 | ret=>exact hh
end
def hset (l:List Grp) (g:Nat) (G:Grp):z02:=(hl l).set g G
def setQ:List Grp→Nat→Grp→Option (List Grp)
 | [],_,_=>none
 | _ :: l,0,G=>some (G :: l)
 | K :: l,g + 1,G=>(setQ l g G).map (K :: ·)
theorem zk4:∀ {l:List Grp} {g:Nat} {G:Grp} {l':List Grp},setQ l g G=some l'→g < l.length∧l'=l.set g G
 | [],_,_,_,h=>by cases h
 | _ :: l,0,G,_,h=>by cases h;exact ⟨by simp,rfl⟩
 | K :: l,g + 1,G,l',h=>by
   obtain ⟨r,hr,rfl⟩:=Option.map_eq_some_iff.1 h
   obtain ⟨h1,rfl⟩:=zk4 hr
   exact ⟨by simpa using h1,rfl⟩
theorem y48 (l:List Grp) (g:Nat) (G:Grp):(hl l).set g G=(match setQ l g G with|some l'=>hl l'|none=>hset l g G):=by
 cases h:setQ l g G with
 | none=>rfl
 | some l'=>obtain ⟨h1,rfl⟩:=zk4 h;exact z5m l g G h1
theorem zuz (K:Grp) (l:List Grp) (G:Grp):setQ (K :: l) 0 G=some (G :: l):=rfl
theorem zv0 (K:Grp) (l:List Grp) (g:Nat) (G:Grp):setQ (K :: l) (g + 1) G=(setQ l g G).map (K :: ·):=rfl
theorem y49 (g:Nat):pos [] g=none:=rfl
theorem zzl (k:Nat) (ks:List Nat) (g:Nat):pos (k :: ks) g=if g=k then some 0 else (pos ks g).map (· + 1):=rfl
section
variable {b d:Nat} {H:z02} {ks:List Nat}
def rnL (b:Nat) (H:z02) (ks:List Nat) (d:Nat) (xs:List AV):List AV:=xs.map (rnV b H ks d)
theorem y80 (xs:List AV):xs.map (rnV b H ks (d + 1))=bif z0o xs then xs else rnL b H ks (d + 1) xs:=by
 cases h:z0o xs
 · rfl
 · have key:∀ (d:Nat) {x:AV},x.pure=true→rnV b H ks d x=x:=by
     intro d
     induction d with
     | zero=>intro x hx;simp [rnV,hx]
     | succ d ih =>
       intro x hx
       have kl:∀ cs:List AV,z0o cs=true→cs.map (rnV b H ks d)=cs:=fun cs hc=>by
         have:cs.map (rnV b H ks d)=cs.map id:=List.map_congr_left fun y hy=>ih (z2u.1 hc y hy)
         simpa using this
       cases x with
       | ref=>simp [AV.pure] at hx
       | ptr=>simp [AV.pure] at hx
       | map=>simp [AV.pure] at hx
       | agg cs=>rw [rnV,kl cs (by simpa [AV.pure] using hx)]
       | tup cs=>rw [rnV,kl cs (by simpa [AV.pure] using hx)]
       | fn f cs=>rw [rnV,kl cs (by simpa [AV.pure] using hx)]
       | _=>rfl
   have:xs.map (rnV b H ks (d + 1))=xs.map id:=List.map_congr_left fun y hy=>key _ (z2u.1 h y hy)
   simpa using this
theorem y4a:rnL b H ks d []=[]:=rfl
theorem zzm (x:AV) (xs:List AV):rnL b H ks d (x :: xs)=rnV b H ks d x :: rnL b H ks d xs:=rfl
theorem y81 (g v off len:Nat):rnV b H ks (d + 1) (.ref g v off len)=if g < b then .ref g v off len else if v=(H.at_ g).ver then
     (match pos ks g with
      | some j=>.ref (b + j) 1 off len
      | none=>if 0 < (H.at_ g).w∧off + len ≤ (H.at_ g).xs.length then frzL (H.at_ g).w ((((H.at_ g).xs.drop off).take len).map (rnV b H ks d)) else .any)
     else .any:=rfl
theorem y82 (g v i o:Nat):rnV b H ks (d + 1) (.ptr g v i o)=if g < b then .ptr g v i o else if v=(H.at_ g).ver then
     (match pos ks g with
      | some j=>.ptr (b + j) 1 i o
      | none=>if o=0∧i < (H.at_ g).xs.length∧0 < (H.at_ g).w then frzP (rnV b H ks d ((H.at_ g).xs.getD i .any)) else .any)
     else .any:=rfl
theorem y83 (cs:List AV):rnV b H ks (d + 1) (.agg cs)=.agg (cs.map (rnV b H ks d)):=rfl
theorem y84 (cs:List AV):rnV b H ks (d + 1) (.tup cs)=.tup (cs.map (rnV b H ks d)):=rfl
theorem rn_fn (f:Nat) (cs:List AV):rnV b H ks (d + 1) (.fn f cs)=.fn f (cs.map (rnV b H ks d)):=rfl
theorem y85:rnV b H ks (d + 1) .any=.any:=rfl
theorem y4b (w:Nat) (xs:List AV):rnV b H ks (d + 1) (.full w xs)=.full w xs:=rfl
theorem rn_mp (g v:Nat):rnV b H ks (d + 1) (.map g v)=if g < b then .map g v else if v=(H.at_ g).ver then (match pos ks g with|some j=>.map (b + j) 1|none=>.any) else .any:=rfl
theorem y4c (q:Bool):rnV b H ks (d + 1) (.bool q)=.bool q:=rfl
theorem y86 (k:IntKind) (n:Int):rnV b H ks (d + 1) (.int k n)=.int k n:=rfl
theorem y87 (s:List UInt8):rnV b H ks (d + 1) (.str s)=.str s:=rfl
theorem y4d:rnV b H ks (d + 1) .nilS=.nilS:=rfl
theorem y88:rnV b H ks (d + 1) .nul=.nul:=rfl
theorem y4e:rnV b H ks (d + 1) .nilP=.nilP:=rfl
theorem y4f:rnV b H ks (d + 1) .nilF=.nilF:=rfl
theorem y89 (l:Nat):rnV b H ks (d + 1) (.yld l)=.yld l:=rfl
theorem y8a (w:Nat) (xs:List AV):rnV b H ks (d + 1) (.lst w xs)=.lst w xs:=rfl
theorem y4g (x:AV):rnV b H ks (d + 1) (.cptr x)=.cptr x:=rfl
end
section
variable {l l0 l':List Grp} {G G':Grp}
theorem y8b:z74 l0 [] []=True:=rfl
theorem y4h:z74 l0 (G :: l) (G' :: l')=(zzk l0 G G'∧z74 l0 l l'):=rfl
theorem g_le:zzk l0 G G'=(G.w=G'.w∧G.ver=G'.ver∧(G'.exact=true→G.exact=true)∧leSL l0 G.xs G'.xs):=rfl
theorem zv1 {x:AV}:leS l x x=True:=eq_true (zht l x)
theorem zzn {xs:List AV}:leSL l xs xs=True:=eq_true (z0l l xs)
theorem y4i {ys:List AV}:leSL l [] ys=(ys=[]):=by simp only [leSL]
theorem zzo {x y:AV} {xs ys:List AV}:leSL l (x :: xs) (y :: ys)=(leS l x y∧leSL l xs ys):=by simp only [leSL]
theorem zfz {k:IntKind} {a:Int} {k':IntKind} {b:Int}:leS l (.int k a) (.int k' b)=(k=k'∧a=b):=by simp only [leS]
theorem zb7 {a:Bool} {b:Bool}:leS l (.bool a) (.bool b)=(a=b):=by simp only [leS]
theorem zd5  {w:Nat} {ys:List AV}:leS l .nilS (.lst w ys)=(0 < w∧ys=[]):=by simp only [leS]
theorem zml  {g v o n:Nat}:leS l .nilS (.ref g v o n)=(o=0∧n=0∧(l.getD g default).ver=v∧0 < (l.getD g default).w∧(l.getD g default).xs=[]∧(l.getD g default).exact=true∧g < l.length):=by simp only [leS]
theorem zg0  {w:Nat} {ys:List AV}:leS l .nul (.lst w ys)=(0 < w∧ys=[]):=by simp only [leS]
theorem zg1  {w:Nat} {ys:List AV}:leS l .emp (.lst w ys)=(0 < w∧ys=[]):=by simp only [leS]
theorem zk5 {w:Nat} {xs:List AV} {w':Nat} {ys:List AV}:leS l (.full w xs) (.full w' ys)=(w=w'∧xs=ys):=by simp only [leS]
theorem zd6 {w:Nat} {xs:List AV} {w':Nat} {ys:List AV}:leS l (.full w xs) (.lst w' ys)=(w=w'∧leSL l xs ys∧z0o ys=true):=by simp only [leS]
theorem zrn {g v g' v':Nat}:leS l (.map g v) (.map g' v')=(g=g'∧v=v'):=by simp only [leS,AV.map.injEq]
theorem zg2 {w:Nat} {xs:List AV} {w':Nat} {ys:List AV}:leS l (.lst w xs) (.lst w' ys)=(w=w'∧xs=ys):=by simp only [leS]
theorem zro {g v o n:Nat} {g' v' o' n':Nat}:leS l (.ref g v o n) (.ref g' v' o' n')=(g=g'∧v=v'∧o=o'∧n=n'):=by simp only [leS]
theorem zrp {g v o n:Nat} {g' v' o' n':Nat}:leS l (.ptr g v o n) (.ptr g' v' o' n')=(g=g'∧v=v'∧o=o'∧n=n'):=by simp only [leS]
theorem zg3 {xs:List AV} {ys:List AV}:leS l (.agg xs) (.agg ys)=leSL l xs ys:=by simp only [leS]
theorem zg4 {xs:List AV} {ys:List AV}:leS l (.tup xs) (.tup ys)=leSL l xs ys:=by simp only [leS]
theorem y8c {x:AV}:leS l x .any=True:=eq_true (by cases x<;>simp only [leS])
def ansW (x y:AV):Prop:=leS [] x y
theorem y4j {x:AV}:ansW x x=True:=zv1
theorem y8d {k k':IntKind} {a b:Int}:ansW (.int k a) (.int k' b)=(k=k'∧a=b):=zfz
theorem y4k {a b:Bool}:ansW (.bool a) (.bool b)=(a=b):=zb7
theorem y4l {w w':Nat} {xs ys:List AV}:ansW (.full w xs) (.lst w' ys)=(w=w'∧leSL [] xs ys∧z0o ys=true):=zd6
theorem y8e {w w':Nat} {xs ys:List AV}:ansW (.lst w xs) (.lst w' ys)=(w=w'∧xs=ys):=zg2
theorem y4m {w:Nat} {ys:List AV}:ansW .nilS (.lst w ys)=(0 < w∧ys=[]):=zd5
theorem y8f {w:Nat} {ys:List AV}:ansW .nul (.lst w ys)=(0 < w∧ys=[]):=zg0
theorem y8g {w:Nat} {ys:List AV}:ansW .emp (.lst w ys)=(0 < w∧ys=[]):=zg1
theorem y8h {xs ys:List AV}:ansW (.agg xs) (.agg ys)=leSL [] xs ys:=zg3
theorem z1e {xs ys:List AV}:ansW (.tup xs) (.tup ys)=leSL [] xs ys:=zg4
end
attribute [push_cast] zk5 zd6 zrn y4l y4b rn_mp
attribute [push_cast] zv1 zzn y4i zzo zfz zb7 zd5 zml zg0 zg1 zg2 zro zrp zg3 zg4 y8c y4j y8d y4k y8e y4m y8f y8g y8h
section
variable {H H1:z02} {l0:List Grp} {b t:Nat} {ks:List Nat} {env:Env} {y:AV} {r:List (Nat × AV)}
theorem zzp:zb6 l0 H1 b ks env []=True:=rfl
theorem zv2:zb6 l0 H1 b ks env ((t,y) :: r)=(leS l0 (rnV b H1 ks 6 (env t)) y∧zb6 l0 H1 b ks env r):=rfl
theorem zzq {n:Nat}:allB b n []=True:=rfl
theorem zv3 {n k:Nat}:allB b n (k :: ks)=(b ≤ k∧k < n∧allB b n ks):=rfl
theorem zv4:zmj []=True:=rfl
theorem zrq {k:Nat}:zmj (k :: ks)=(k ∉ ks∧zmj ks):=rfl
theorem zv5 {w g v o n:Nat}:z0p w (.ref g v o n)=.grp g:=rfl
theorem zv6 {w g v i o:Nat}:z0p w (.ptr g v i o)=.grp g:=rfl
theorem zv7 {w g v:Nat}:z0p w (.map g v)=.grp g:=rfl
theorem zrr:zd0 []=True:=rfl
theorem zmm {w:Nat} {r:List Nat}:zd0 (w :: r)=(0 < w∧zd0 r):=rfl
theorem zrs {w:Nat}:z0p w .nilS=.virt w:=rfl
theorem zrt {g v i o k:Nat}:cellAt H (.ptr g v i o) k=((H.at_ g).xs.getD i .any).cells.getD k .any:=rfl
theorem y8i {N:Nat}:z4b N []=([],[]):=rfl
theorem y8j {N g:Nat} {l:List Src}:z4b N (.grp g :: l)=(g :: (z4b N l).1,(z4b N l).2):=rfl
theorem y4n {N w:Nat} {l:List Src}:z4b N (.virt w :: l)=(N :: (z4b (N + 1) l).1,w :: (z4b (N + 1) l).2):=rfl
theorem y8k {j:Nat}:z3w [] j=.any:=rfl
theorem y4o {j:Nat}:z3w ((t,y) :: r) j=if j=t then y else z3w r j:=rfl
variable {l l1 l2:List Grp} {G:Grp} {live:List (Nat × AV)} {heap:List Grp}
theorem head1 {p q:List Nat}:y45 b env l (p,q) live heap=(zd0 q∧y44 b env (l ++ q.map z8g) p live heap):=rfl
theorem head2:y44 b env l1 ks live heap=(allB b l1.length ks∧zmj ks∧y43 b env l1 (z3f b (hl l1) ks (l1.take b) ++ z3s b (hl l1) ks l1 ks) ks live heap):=rfl
theorem head3:y43 b env l1 l2 ks live heap=(zb6 l2 (hl l1) b ks env live∧z74 l2 l2 heap):=rfl
theorem y8l:z3f b H ks []=[]:=rfl
theorem y4p:z3f b H ks (G :: l)=rnG b H ks G.ver G :: z3f b H ks l:=rfl
theorem y8m:z3s b H ks l []=[]:=rfl
theorem y4q {k:Nat} {r:List Nat}:z3s b H ks l (k :: r)=rnG b H ks 1 (l.getD k default) :: z3s b H ks l r:=rfl
theorem y8n {v:Nat}:rnG b H ks v G=⟨G.w,v,G.exact,G.xs.map (rnV b H ks 6)⟩:=rfl
end
theorem zzr (i:Nat) (ks:List Nat):z9i i ks []=[]:=rfl
theorem zv8 (i:Nat) (ks:List Nat) (G:Grp) (l:List Grp):z9i i ks (G :: l)=(if i ∈ ks then G.dead else G) :: z9i (i + 1) ks l:=rfl
theorem y4r (w:Nat):z8g w=⟨w,1,true,[]⟩:=rfl
theorem y4s (w:Nat) (xs:List AV):frzL w xs=bif z0o xs then .lst w xs else .any:=rfl
theorem y4t (x:AV):frzP x=bif x.pure then .cptr x else .any:=rfl
theorem zv9 (xs ys:List AV):z0o (xs ++ ys)=(z0o xs && z0o ys):=by
 induction xs with
 | nil=>rfl
 | cons x xs ih=>simp [z0o,ih,Bool.and_assoc]
theorem zru (i:Nat):((i:Int) - 1).toNat=i - 1:=by omega
theorem zrv (i:Nat):((i:Int) + 1).toNat=i + 1:=by omega
theorem zva (i k:Nat):((i:Int) + (k:Int)).toNat=i + k:=by omega
theorem drop_at {α:Type} [Inhabited α] {l:List α} {i:Nat} (h:i < l.length):l.drop i=nth l i :: l.drop (i + 1):=by
 rw [List.drop_eq_getElem_cons h];simp [nth,List.getD,h]
theorem take_at {α:Type} [Inhabited α] {l:List α} {i:Nat} (h:i < l.length):l.take (i + 1)=l.take i ++ [nth l i]:=by
 rw [List.take_succ_eq_append_getElem h];simp [nth,List.getD,h]
theorem z0h {α:Type} [Inhabited α] {l:List α} {i:Nat} (h:i < l.length):nth l i ∈ l:=by
 have:nth l i=l[i]:=by simp [nth,List.getD,h]
 rw [this];exact List.getElem_mem h
theorem y4u (g k:Nat) (ks:List Nat):(g ∈ k :: ks)=(g=k ∨ g ∈ ks):=by simp
theorem zmn (g:Nat):(g ∈ ([]:List Nat))=False:=by simp
theorem y4v (H:z02) (ks:List Nat) (g:Nat):(H.only ks).at_ g=if g ∈ ks then H.at_ g else (H.at_ g).dead:=rfl
def z1l:List AV→List Nat
 | []=>[]
 | .ref g _ _ _ :: l=>g :: z1l l
 | .ptr g _ _ _ :: l=>g :: z1l l
 | .agg cs :: l=>z1l cs ++ z1l l
 | .fn _ cs :: l=>z1l cs ++ z1l l
 | _ :: l=>z1l l
theorem z2k {w:Nat} {xs l:List AV}:z1l (.lst w xs :: l)=z1l l:=by rw [z1l]<;>(intros;simp_all)
theorem zvb {x:AV} {l:List AV}:z1l (.cptr x :: l)=z1l l:=by rw [z1l]<;>(intros;simp_all)
theorem zzs {k:IntKind} {n:Int} {l:List AV}:z1l (.int k n :: l)=z1l l:=by rw [z1l]<;>(intros;simp_all)
theorem zvc {b:Bool} {l:List AV}:z1l (.bool b :: l)=z1l l:=by rw [z1l]<;>(intros;simp_all)
theorem zvd {l:List AV}:z1l (.nilS :: l)=z1l l:=by rw [z1l]<;>(intros;simp_all)
theorem zzt {g v o n:Nat} {l:List AV}:z1l (.ref g v o n :: l)=g :: z1l l:=by rw [z1l]
theorem zzu {g v o n:Nat} {l:List AV}:z1l (.ptr g v o n :: l)=g :: z1l l:=by rw [z1l]
theorem zzv {cs l:List AV}:z1l (.agg cs :: l)=z1l cs ++ z1l l:=by rw [z1l]
theorem y4w {f:Nat} {cs l:List AV}:z1l (.fn f cs :: l)=z1l cs ++ z1l l:=by rw [z1l]
theorem zzw:z1l []=[]:=by rw [z1l]
attribute [push_cast] z2k zvb zzs zvc zvd zzt zzu zzv y4w zzw
def okA (d:Nat) (H:z02):List AV→Prop
 | []=>True
 | x :: l=>z2m d H x∧okA d H l
section
variable {P:Program} {f:Nat} {xs ys:List AV} {y:AV} {l:List Grp} {H:z02}
theorem z8y {d:Nat}:∀ {xs:List AV},okA d H xs→∀ x ∈ xs,z2m d H x
 | [],_,x,hx=>by simp at hx
 | z :: r,h,x,hx=>by
   rcases List.mem_cons.1 hx with rfl|hx
   · exact h.1
   · exact z8y h.2 x hx
theorem y4x {d:Nat}:okA d H []=True:=rfl
theorem zzx {d:Nat} {x:AV}:okA d H (x :: xs)=(z2m d H x∧okA d H xs):=rfl
theorem z75 (h:PC P f ys y) (hl:leL xs ys):PC P f xs y:=z5z hl h
def chB (c:Bool) (p q:Prop):Prop:=match c with
 | true=>p
 | false=>q
theorem zzy {p q:Prop}:chB true p q=p:=rfl
theorem zve {p q:Prop}:chB false p q=q:=rfl
def frA (d:Nat) (H:z02) (xs:List AV):List AV:=xs.map (frzV d H)
theorem y4y {d:Nat}:frA d H []=[]:=rfl
theorem zzz {d:Nat} {x:AV}:frA d H (x :: xs)=frzV d H x :: frA d H xs:=rfl
theorem cK {K:AV→z02→Prop} (h:PC P f ys y) (hh:chB (z0o xs) (leSL [] xs ys∧z0o ys=true∧@nx y (hl l) ⟨K⟩)
   (chB y.flat (okA 4 (hl l) xs∧leSL [] (frA 4 (hl l) xs) ys∧@nx y (hl l) ⟨K⟩)
     (okA 4 ((hl l).only (z1l xs)) xs∧leSL [] (frA 4 ((hl l).only (z1l xs)) xs) ys∧z0o ys=true∧@nx y (hl (z9i 0 (z1l xs) l)) ⟨K⟩))):@zjy P f xs (hl l) ⟨K⟩:=by
 cases hp:z0o xs<;>rw [hp] at hh
 · cases hy:y.flat<;>rw [hy] at hh
   · obtain ⟨h1,h2,h3,h4⟩:=hh
     exact zfw 4 (z1l xs) (z8y h1) (z5z (z6n h2) (z6m h h3 h4))
   · obtain ⟨h1,h2,h3⟩:=hh
     exact zho (z75 h (z6n h2)) 4 (z8y h1) rfl hy h3
 · obtain ⟨h1,h2,h3⟩:=hh
   exact z5z (z6n h1) (z6m h h2 h3)
theorem eK {K:AV→z02→Prop} (h:PC P f xs y) (hh:z0o xs=true∧@nx y H ⟨K⟩):@zjy P f xs H ⟨K⟩:=z6m h hh.1 hh.2
theorem eQ {K:AV→Prop} (h:PC P f xs y) (hh:z0o xs=true∧@nq y ⟨K⟩):@zu5 P f xs H ⟨K⟩:=⟨y,z6m h hh.1 ⟨rfl,rfl⟩,hh.2⟩
theorem cQ {K:AV→Prop} (h:PC P f ys y) (hh:chB (z0o xs) (leSL [] xs ys∧z0o ys=true∧@nq y ⟨K⟩)
   (y.flat=true∧okA 4 (hl l) xs∧leSL [] (frA 4 (hl l) xs) ys∧@nq y ⟨K⟩)):@zu5 P f xs (hl l) ⟨K⟩:=by
 cases hp:z0o xs<;>rw [hp] at hh
 · obtain ⟨hy,h1,h2,h3⟩:=hh
   exact ⟨y,zho (z75 h (z6n h2)) 4 (z8y h1) rfl hy ⟨rfl,rfl⟩,h3⟩
 · obtain ⟨h1,h2,h3⟩:=hh
   exact ⟨y,z5z (z6n h1) (z6m h h2 ⟨rfl,rfl⟩),h3⟩
end
attribute [push_cast] y4x zzx y4y zzz zzy zve AV.flat ztv
section
variable {d:Nat} {H:z02}
def okL (d:Nat) (H:z02) (xs:List AV):Prop:=∀ y ∈ xs,z2m d H y
def frL (d:Nat) (H:z02) (xs:List AV):List AV:=xs.map (frzV d H)
def okM (d:Nat) (H:z02) (xs:List AV):Prop:=okL d H xs
def frM (d:Nat) (H:z02) (xs:List AV):List AV:=frL d H xs
def ifB (b:Bool) (p:Prop):Prop:=b=true ∨ p
theorem y00 (p:Prop):ifB true p=True:=by simp [ifB]
theorem zvf (p:Prop):ifB false p=p:=by simp [ifB]
theorem y8o (xs:List AV):okL d H xs=ifB (z0o xs) (okM d H xs):=propext ⟨fun h=>.inr h,fun h=>h.elim (fun h=>(z73 H d h).1) id⟩
theorem y8p (xs:List AV):frL d H xs=bif z0o xs then xs else frM d H xs:=by
 cases h:z0o xs
 · rfl
 · exact (z73 H d h).2
theorem y4z:okM d H []=True:=by simp [okM,okL]
theorem y01 (x:AV) (xs:List AV):okM d H (x :: xs)=(z2m d H x∧okM d H xs):=by simp [okM,okL]
theorem y50:frM d H []=[]:=rfl
theorem y02 (x:AV) (xs:List AV):frM d H (x :: xs)=frzV d H x :: frM d H xs:=rfl
theorem y8q (g v off len:Nat):z2m (d + 1) H (.ref g v off len)=((H.at_ g).ver=v∧0 < (H.at_ g).w∧off + len ≤ (H.at_ g).xs.length∧okL d H (((H.at_ g).xs.drop off).take len)):=rfl
theorem y8r (g v i o:Nat):z2m (d + 1) H (.ptr g v i o)=((H.at_ g).ver=v∧i < (H.at_ g).xs.length∧0 < (H.at_ g).w∧o=0∧z2m d H ((H.at_ g).xs.getD i .any)):=rfl
theorem y8s (cs:List AV):z2m (d + 1) H (.agg cs)=okL d H cs:=rfl
theorem y8t (cs:List AV):z2m (d + 1) H (.tup cs)=okL d H cs:=rfl
theorem ok_fn (f:Nat) (cs:List AV):z2m (d + 1) H (.fn f cs)=okL d H cs:=rfl
theorem y8u:z2m (d + 1) H .any=True:=eq_true rfl
theorem y51 (b:Bool):z2m (d + 1) H (.bool b)=True:=eq_true rfl
theorem ok_int (k:IntKind) (n:Int):z2m (d + 1) H (.int k n)=True:=eq_true rfl
theorem y8v (s:List UInt8):z2m (d + 1) H (.str s)=True:=eq_true rfl
theorem y52:z2m (d + 1) H .nilS=True:=eq_true rfl
theorem y8w:z2m (d + 1) H .nul=True:=eq_true rfl
theorem y8x:z2m (d + 1) H .emp=True:=eq_true rfl
theorem y53:z2m (d + 1) H .nilP=True:=eq_true rfl
theorem y54:z2m (d + 1) H .nilF=True:=eq_true rfl
theorem y8y (l:Nat):z2m (d + 1) H (.yld l)=True:=eq_true rfl
theorem y55 (w:Nat) (xs:List AV):z2m (d + 1) H (.full w xs)=(z0o xs=true):=rfl
theorem y56 (w:Nat) (xs:List AV):frzV (d + 1) H (.full w xs)=.full w xs:=rfl
theorem y8z (w:Nat) (xs:List AV):z2m (d + 1) H (.lst w xs)=(z0o xs=true):=rfl
theorem y57 (x:AV):z2m (d + 1) H (.cptr x)=(x.pure=true):=rfl
theorem y90 (g v off len:Nat):frzV (d + 1) H (.ref g v off len)=.lst (H.at_ g).w (frL d H (((H.at_ g).xs.drop off).take len)):=rfl
theorem y91 (g v i o:Nat):frzV (d + 1) H (.ptr g v i o)=if o=0 then .cptr (frzV d H ((H.at_ g).xs.getD i .any)) else .any:=rfl
theorem y92 (cs:List AV):frzV (d + 1) H (.agg cs)=.agg (frL d H cs):=rfl
theorem y93 (cs:List AV):frzV (d + 1) H (.tup cs)=.tup (frL d H cs):=rfl
theorem fr_fn (f:Nat) (cs:List AV):frzV (d + 1) H (.fn f cs)=.fn f (frL d H cs):=rfl
theorem y94:frzV (d + 1) H .any=.any:=rfl
theorem y58 (b:Bool):frzV (d + 1) H (.bool b)=.bool b:=rfl
theorem y95 (k:IntKind) (n:Int):frzV (d + 1) H (.int k n)=.int k n:=rfl
theorem y96 (s:List UInt8):frzV (d + 1) H (.str s)=.str s:=rfl
theorem y59:frzV (d + 1) H .nilS=.nilS:=rfl
theorem y97:frzV (d + 1) H .nul=.nul:=rfl
theorem y98:frzV (d + 1) H .emp=.emp:=rfl
theorem y5a:frzV (d + 1) H .nilP=.nilP:=rfl
theorem y5b:frzV (d + 1) H .nilF=.nilF:=rfl
theorem y99 (l:Nat):frzV (d + 1) H (.yld l)=.yld l:=rfl
theorem y9a (w:Nat) (xs:List AV):frzV (d + 1) H (.lst w xs)=.lst w xs:=rfl
theorem y5c (x:AV):frzV (d + 1) H (.cptr x)=.cptr x:=rfl
end
attribute [push_cast] y00 zvf y8o y8p y4z y01 y50 y02 y8q y8r y8s y8t ok_fn y8u y51 ok_int y8v y52 y8w y8x y53 y54 y8y y99 y8z y55 y56 y57 y90 y91 y92 y93 fr_fn y94 y58 y95 y96 y59 y97 y98 y5a y5b y9a y5c List.take_length
section
variable {P:Program} {l:List Grp} {xs cs:List AV} {K:AV→List Grp→Prop} {z:AV} {w len n:Nat}
theorem z2h {k:AK} (h:k.still=true):@opG P k l xs ⟨K⟩=(z0w (· < l.length) xs∧@opK P k (hl l) xs ⟨fun x _=>K x l⟩):=by
 rw [zp0]
 have hn:¬ k.still=false:=by rw [h];simp
 cases k<;>first|(exact propext ⟨fun hh=>hh.elim (fun hh=>⟨hh.2.1,hh.2.2⟩) (fun hh=>absurd hh.1 hn),fun hh=>.inl ⟨h,hh.1,hh.2⟩⟩)|(simp [AK.still] at h)
theorem zrw {k:AK} (h:k.still=false) (he:k.eff.isSome=true):@opG P k l xs ⟨K⟩=(k.appOk=true∧zhb k xs∧@opK P k (hl l) xs ⟨fun x H'=>∀ l',H'=hl l'→K x l'⟩):=by
 rw [zp0]
 have hn:¬ k.still=true:=by rw [h];simp
 cases k<;>first|(exact propext ⟨fun hh=>hh.elim (fun hh=>absurd hh.1 hn) (fun hh=>⟨hh.2.2.1,hh.2.2.2⟩),fun hh=>.inr ⟨h,he,hh.1,hh.2⟩⟩)|(simp [AK.eff] at he)
theorem G_mv  : @opG P .mv l xs ⟨K⟩=(z0w (· < l.length) xs∧@opK P .mv (hl l) xs ⟨fun x _=>K x l⟩):=z2h rfl
theorem y9b  : @opG P .pick l xs ⟨K⟩=(z0w (· < l.length) xs∧@opK P .pick (hl l) xs ⟨fun x _=>K x l⟩):=z2h rfl
theorem y5d {zs:List AV} {pl:List (Nat × Nat)} {idx:List Nat}:@opG P (.build zs pl idx) l xs ⟨K⟩=(z0w (· < l.length) xs∧@opK P (.build zs pl idx) (hl l) xs ⟨fun x _=>K x l⟩):=z2h rfl
theorem y9c {a:Bool} {s:Nat}:@opG P (.load a s) l xs ⟨K⟩=(z0w (· < l.length) xs∧@opK P (.load a s) (hl l) xs ⟨fun x _=>K x l⟩):=z2h rfl
theorem zrx  : @opG P .nilCheck l xs ⟨K⟩=(z0w (· < l.length) xs∧@opK P .nilCheck (hl l) xs ⟨fun x _=>K x l⟩):=z2h rfl
theorem G_bin {op:BinOp}:@opG P (.bin op) l xs ⟨K⟩=(z0w (· < l.length) xs∧@opK P (.bin op) (hl l) xs ⟨fun x _=>K x l⟩):=z2h rfl
theorem G_eqb {n:Bool}:@opG P (.eqb n) l xs ⟨K⟩=(z0w (· < l.length) xs∧@opK P (.eqb n) (hl l) xs ⟨fun x _=>K x l⟩):=z2h rfl
theorem G_eqs {n:Bool} {ks:List Nat}:@opG P (.eqs n ks) l xs ⟨K⟩=(z0w (· < l.length) xs∧@opK P (.eqs n ks) (hl l) xs ⟨fun x _=>K x l⟩):=z2h rfl
theorem G_eqn {n:Bool}:@opG P (.eqn n) l xs ⟨K⟩=(z0w (· < l.length) xs∧@opK P (.eqn n) (hl l) xs ⟨fun x _=>K x l⟩):=z2h rfl
theorem G_un {op:UnOp}:@opG P (.un op) l xs ⟨K⟩=(z0w (· < l.length) xs∧@opK P (.un op) (hl l) xs ⟨fun x _=>K x l⟩):=z2h rfl
theorem y9d {k:IntKind}:@opG P (.conv k) l xs ⟨K⟩=(z0w (· < l.length) xs∧@opK P (.conv k) (hl l) xs ⟨fun x _=>K x l⟩):=z2h rfl
theorem y5e {w:Nat} {lo hi mx:Bool}:@opG P (.slice w lo hi mx) l xs ⟨K⟩=(z0w (· < l.length) xs∧@opK P (.slice w lo hi mx) (hl l) xs ⟨fun x _=>K x l⟩):=z2h rfl
theorem y5f {a:Bool} {o s:Nat}:@opG P (.faddr a o s) l xs ⟨K⟩=(z0w (· < l.length) xs∧@opK P (.faddr a o s) (hl l) xs ⟨fun x _=>K x l⟩):=z2h rfl
theorem y5g {a:Bool} {o s:Nat}:@opG P (.field a o s) l xs ⟨K⟩=(z0w (· < l.length) xs∧@opK P (.field a o s) (hl l) xs ⟨fun x _=>K x l⟩):=z2h rfl
theorem y5h {w:Nat}:@opG P (.iaddr w) l xs ⟨K⟩=(z0w (· < l.length) xs∧@opK P (.iaddr w) (hl l) xs ⟨fun x _=>K x l⟩):=z2h rfl
theorem y03 {n w:Nat} {a:Bool}:@opG P (.iaddrA n w a) l xs ⟨K⟩=(z0w (· < l.length) xs∧@opK P (.iaddrA n w a) (hl l) xs ⟨fun x _=>K x l⟩):=z2h rfl
theorem y5i {n w:Nat} {a:Bool}:@opG P (.index n w a) l xs ⟨K⟩=(z0w (· < l.length) xs∧@opK P (.index n w a) (hl l) xs ⟨fun x _=>K x l⟩):=z2h rfl
theorem zry  : @opG P .indexStr l xs ⟨K⟩=(z0w (· < l.length) xs∧@opK P .indexStr (hl l) xs ⟨fun x _=>K x l⟩):=z2h rfl
theorem zvg {i:Nat}:@opG P (.extract i) l xs ⟨K⟩=(z0w (· < l.length) xs∧@opK P (.extract i) (hl l) xs ⟨fun x _=>K x l⟩):=z2h rfl
theorem G_len {b:Bool}:@opG P (.len b) l xs ⟨K⟩=(z0w (· < l.length) xs∧@opK P (.len b) (hl l) xs ⟨fun x _=>K x l⟩):=z2h rfl
theorem G_max  : @opG P .max l xs ⟨K⟩=(z0w (· < l.length) xs∧@opK P .max (hl l) xs ⟨fun x _=>K x l⟩):=z2h rfl
theorem G_min  : @opG P .min l xs ⟨K⟩=(z0w (· < l.length) xs∧@opK P .min (hl l) xs ⟨fun x _=>K x l⟩):=z2h rfl
theorem y04:@opG P (.mapGet z) l xs ⟨K⟩=(z0w (· < l.length) xs∧@opK P (.mapGet z) (hl l) xs ⟨fun x _=>K x l⟩):=z2h rfl
theorem y05 {f:Nat}:@opG P (.mkFunc f) l xs ⟨K⟩=(z0w (· < l.length) xs∧@opK P (.mkFunc f) (hl l) xs ⟨fun x _=>K x l⟩):=z2h rfl
theorem y5j  : @opG P .toStr l xs ⟨K⟩=(z0w (· < l.length) xs∧@opK P .toStr (hl l) xs ⟨fun x _=>K x l⟩):=z2h rfl
theorem y5k  : @opG P (.alloc z w) l xs ⟨K⟩=@opK P (.alloc z w) (hl l) xs ⟨fun x H'=>∀ l',H'=hl l'→K x l'⟩:=(zrw rfl rfl).trans (by simp only [AK.appOk,zhb,true_and])
theorem G_box  : @opG P .box l xs ⟨K⟩=@opK P .box (hl l) xs ⟨fun x H'=>∀ l',H'=hl l'→K x l'⟩:=(zrw rfl rfl).trans (by simp only [AK.appOk,zhb,true_and])
theorem y5l  : @opG P (.store w) l xs ⟨K⟩=@opK P (.store w) (hl l) xs ⟨fun x H'=>∀ l',H'=hl l'→K x l'⟩:=(zrw rfl rfl).trans (by simp only [AK.appOk,zhb,true_and])
theorem zvh  : @opG P (.mkSlice w n z) l xs ⟨K⟩=@opK P (.mkSlice w n z) (hl l) xs ⟨fun x H'=>∀ l',H'=hl l'→K x l'⟩:=(zrw rfl rfl).trans (by simp only [AK.appOk,zhb,true_and])
theorem G_app:@opG P (.app w n z) l xs ⟨K⟩=(0 < w∧offA xs∧@opK P (.app w n z) (hl l) xs ⟨fun x H'=>∀ l',H'=hl l'→K x l'⟩):=(zrw rfl rfl).trans (by simp only [AK.appOk,zhb,decide_eq_true_eq])
theorem y06 {g v o n:Nat}:offA (.ref g v o n :: xs)=(o=0):=rfl
theorem zvi:offA (.nilS :: xs)=True:=rfl
theorem y07:offA (.nul :: xs)=True:=rfl
theorem y08:offA (.emp :: xs)=True:=rfl
theorem zvj {w:Nat} {ys:List AV}:offA (.full w ys :: xs)=True:=rfl
theorem y09 {w:Nat} {ys:List AV}:offA (.lst w ys :: xs)=True:=rfl
theorem y9e {f:Nat}:@opG P .call l (.fn f cs :: xs) ⟨K⟩=@zyu P f (xs ++ cs) l ⟨K⟩:=(rfl)
theorem G_bsl {idx:List Nat}:@opG P (.bslice w len z idx) l xs ⟨K⟩=(z5y w len idx xs∧0 < w∧z0o (z3p idx xs (List.replicate len z))=true∧@nx (.full w (z3p idx xs (List.replicate len z))) (hl l) ⟨fun x _=>K x l⟩):=(rfl)
theorem hl_eq {l l':List Grp}:(hl l=hl l')=(l=l'):=propext ⟨y24,fun h=>h ▸ rfl⟩
theorem eG {f:Nat} {y:AV} (h:PC P f xs y) (hh:z0o xs=true∧@nx y (hl l) ⟨fun y _=>K y l⟩):@zyu P f xs l ⟨K⟩:=⟨y,fun H=>z6m h hh.1 ⟨rfl,rfl⟩,hh.2⟩
theorem cG {f:Nat} {ys:List AV} {y:AV} (h:PC P f ys y) (hh:leSL [] xs ys∧z0o ys=true∧@nx y (hl l) ⟨fun y _=>K y l⟩):@zyu P f xs l ⟨K⟩:=⟨y,fun H=>z5z (z6n hh.1) (z6m h hh.2.1 ⟨rfl,rfl⟩),hh.2.2⟩
end
theorem z0s {P:Program} {f m np:Nat} {xs:List AV} {y:AV} {res:List ARes} {B:AC} (hf:z0g P f xs.length=some ⟨m,np,res,B⟩) (h:W P m 0 B (entry xs) (hl []) (Ret P res fun z H=>z2m 4 H z∧ansW (frzV 4 H z) y)):PC P f xs y:=by
 refine pc_at hf 4 ?_
 rw [zuv]
 exact T.mono (W_T h) fun x env H hh=>zyv (fun z H hh=>⟨hh.1,y7z hh.2⟩) hh
theorem y25 {P:Program} {f w:Nat} {y:AV} (h1:PC P f [.nilS] y) (h2:PC P f [.emp] y):PC P f [.lst w []] y:=by
 refine ⟨h1.1,fun S cargs hS hx=>?_⟩
 obtain ⟨v,r,rfl,⟨_,_,a,cap,vs,rfl,⟨_,hn⟩,_,_⟩,hr⟩:=hx
 cases a with
 | none=>exact h1.2 S _ hS ⟨_,r,rfl,by rw [hn rfl];rfl,hr⟩
 | some a=>exact h2.2 S _ hS ⟨_,r,rfl,⟨a,cap,rfl⟩,hr⟩
section
variable {P:Program} {H:z02} {K:AV→z02→Prop} {n:Bool} {b d:Nat} {ks:List Nat}
theorem zvk:@opK P (.eqn n) H [.emp,.nilS] ⟨K⟩=@nx (.bool n) H ⟨K⟩:=(rfl)
theorem zvl:@opK P (.len false) H [.emp] ⟨K⟩=@nx (.int .i64 0) H ⟨K⟩:=(rfl)
theorem y9f:rnV b H ks (d + 1) .emp=.emp:=rfl
end
theorem z0i {P:Program} {n b:Nat} {c:AC} {env:Env} {H:z02} {Q:Ex→Env→z02→Prop} (h:T P n b (.loop c) env H Q):@z8f ⟨T P n b (.loop c) env H Q⟩:=h
attribute [push_cast] zvk zvl y9f zuv hl_n z37 z3r y48 zuz zv0 zk1 y49 zzl y80 y4a zzm y81 y82 y83 y84 rn_fn y85 y4c y86 y87 y4d y88 y4e y4f y89 y8a y4g
attribute [push_cast] y8b y4h g_le zzp zv2 zzq zv3 zv4 zrq zv5 zv6 zrs zv7 zrr zmm zrt y8i y8j y4n y8k y4o y46 head1 head2 head3 y8l y4p y8m y4q y8n zzr zv8 y4r y4s y4t zv9 y4v z1l List.cons_append List.nil_append
attribute [push_cast] y06 zvi y07 y08 zvj y09 G_mv y9b y5d y9c zrx G_bin G_eqb G_eqs G_eqn G_un y9d y5e y5f y5g y5h y03 y5i zry zvg G_len G_max G_min y05 y5j y5k G_box y5l zvh G_app y9e G_bsl hl_eq z0w forall_eq' forall_eq
attribute [push_cast] List.isEmpty_nil List.isEmpty_cons List.map_eq_nil_iff Option.isSome_some Option.isSome_none
attribute [push_cast] List.map_append List.length_append Option.map_some Option.map_none y4u zmn Int.add_sub_cancel Int.sub_add_cancel zru zrv zva Nat.not_lt_zero Nat.zero_le
open IntWalk in
attribute [push_cast] i64_in i32_in u8_in u32_in u64_in zus
theorem zz:type_of% (And.intro @z1 <| And.intro @z2 <| And.intro @z3 <| And.intro @z4 <| And.intro @z5 <| And.intro @z6 <| And.intro @z7 <| And.intro @z8 <| And.intro @z9 <| And.intro @z10 <| And.intro @z11 <| And.intro @z12 <| And.intro @z13 <| And.intro @z14 <| And.intro @z15 <| And.intro @z16 <| And.intro @z17 <| And.intro @z18 <| And.intro @z19 <| And.intro @z20 <| And.intro @z21 <| And.intro @z22 <| And.intro @z23 <| And.intro @z24 <| And.intro @z25 <| And.intro @z26 <| And.intro @z27 <| And.intro @z28 <| And.intro @z29 <| And.intro @z30 <| And.intro @z31 <| And.intro @z32 <| @z33):=And.intro @z1 <| And.intro @z2 <| And.intro @z3 <| And.intro @z4 <| And.intro @z5 <| And.intro @z6 <| And.intro @z7 <| And.intro @z8 <| And.intro @z9 <| And.intro @z10 <| And.intro @z11 <| And.intro @z12 <| And.intro @z13 <| And.intro @z14 <| And.intro @z15 <| And.intro @z16 <| And.intro @z17 <| And.intro @z18 <| And.intro @z19 <| And.intro @z20 <| And.intro @z21 <| And.intro @z22 <| And.intro @z23 <| And.intro @z24 <| And.intro @z25 <| And.intro @z26 <| And.intro @z27 <| And.intro @z28 <| And.intro @z29 <| And.intro @z30 <| And.intro @z31 <| And.intro @z32 <| @z33
end Go.Proofs.Yticodgjinajkpaa.Abs
namespace Go.Proofs.Yticodgjinajkpaa
open Abs
structure Span where
 lo:Int
 hi:Int
 deriving DecidableEq,Inhabited
structure Part where
 at_:Int
 drop:Int
 take:Int
 up:Int
 deriving DecidableEq,Inhabited
structure Term where
 base:Int
 drop:Int
 take:Int
 up:Int
 sum:Int
 parts:List Part
 deriving DecidableEq,Inhabited
structure Rule where
 from_:Int
 to_:Int
 guards:List (List Span)
 eat:Int
 out:List Term
 deriving DecidableEq,Inhabited
structure z8z where
 from_:Int
 guards:List (List Span)
 out:List Term
 deriving DecidableEq,Inhabited
structure Desc where
 in_:Int
 out:Int
 states:Int
 start:Int
 rules:List Rule
 finals:List z8z
 deriving DecidableEq,Inhabited
abbrev z4p (l:List Int):AV:=.lst 1 (l.map (AV.int .i64))
abbrev y26 (l:List Int):AV:=.lst 1 (l.map (AV.int .i32))
abbrev z1f (s:Span):AV:=.agg [.int .i64 s.lo,.int .i64 s.hi]
abbrev z03 (l:List Span):AV:=.lst 2 (l.map z1f)
abbrev z0b (l:List (List Span)):AV:=.lst 1 (l.map z03)
abbrev z1t (p:Part):AV:=.agg [.int .i64 p.at_,.int .i64 p.drop,.int .i64 p.take,.int .i64 p.up]
abbrev z0t (l:List Part):AV:=.lst 4 (l.map z1t)
abbrev z1n (t:Term):AV:=.agg [.int .i64 t.base,.int .i64 t.drop,.int .i64 t.take,.int .i64 t.up,.int .i64 t.sum,z0t t.parts]
abbrev z4f (l:List Term):AV:=.lst 6 (l.map z1n)
abbrev zf6 (r:Rule):AV:=.agg [.int .i64 r.from_,.int .i64 r.to_,z0b r.guards,.int .i64 r.eat,z4f r.out]
abbrev zd7 (f:z8z):AV:=.agg [.int .i64 f.from_,z0b f.guards,z4f f.out]
abbrev z3m (l:List Rule):AV:=.lst 5 (l.map zf6)
abbrev z4l (l:List z8z):AV:=.lst 3 (l.map zd7)
abbrev z1x (d:Desc):AV:=.agg [.int .i64 d.in_,.int .i64 d.out,.int .i64 d.states,.int .i64 d.start,z3m d.rules,z4l d.finals]
theorem z2d (l:List Span):z0o (l.map z1f)=true:=z48 (fun _=>rfl) l
theorem z80 (l:List Part):z0o (l.map z1t)=true:=z48 (fun _=>rfl) l
theorem z07 (l:List (List Span)):z0o (l.map z03)=true:=z48 (fun s=>by simp only [z03,AV.pure,z2d]) l
theorem z1g (l:List Term):z0o (l.map z1n)=true:=z48 (fun s=>by simp [z1n,AV.pure,z0o,z80]) l
theorem z1w (l:List Rule):z0o (l.map zf6)=true:=z48 (fun s=>by simp [zf6,AV.pure,z0o,z07,z1g]) l
theorem z2a (l:List z8z):z0o (l.map zd7)=true:=z48 (fun s=>by simp [zd7,AV.pure,z0o,z07,z1g]) l
theorem zrz (l:List (List Int)):z0o (l.map y26)=true:=z48 (fun s=>by simp only [y26,AV.pure,z4j]) l
attribute [push_cast] z2d z80 z07 z1g z1w z2a zrz
end Go.Proofs.Yticodgjinajkpaa
namespace Go.Proofs.Yticodgjinajkpaa.Abs
open Go.RowKit
inductive Sh where
 | bool
 | int (k:IntKind)
 | str
 | sl (agg:Bool) (fs:List Sh)
mutual
def Is:Sh→AV→Prop
 | .bool,x=>∃ b,x=.bool b
 | .int k,x=>∃ n,x=.int k n∧(Lit.int k n).wf=true
 | .str,x=>∃ s:List UInt8,x=.str s∧s.length ≤ maxLen
 | .sl agg fs,x=>x=.nilS ∨ ∃ xs,x=.lst fs.length xs∧xs.length ≤ maxLen∧∀ y ∈ xs,∃ cs,y=(if agg then .agg cs else cs.headD .any)∧IsL fs cs
def IsL:List Sh→List AV→Prop
 | [],cs=>cs=[]
 | s :: fs,cs=>∃ c r,cs=c :: r∧Is s c∧IsL fs r
end
theorem zvm:∀ {fs:List Sh} {cs:List AV},IsL fs cs→cs.length=fs.length
 | [],_,h=>by rw [show _=[] from h];rfl
 | _ :: _,_,⟨_,_,h,_,k⟩=>by rw [h];simp [zvm k]
mutual
def zf7 (P:Program):Sh→TypeId→Bool
 | .bool,t=>match P.underlying t with|some .bool=>true|_=>false
 | .int k,t=>match P.underlying t with|some (.int k')=>k' == k|_=>false
 | .str,t=>match P.underlying t with|some .string=>true|_=>false
 | .sl agg fs,t=>match P.underlying t with
   | some (.slice e)=>P.cellsOf e == fs.length && !fs.isEmpty && (match agg,P.underlying e with
     | true,some (.struct fl)=>zf8 P fs 0 fl.toList
     | true,some (.array n u)=>fs.length == n && P.cellsOf u == 1 && zvn P fs u
     | false,_=>fs.length == 1 && zvn P fs e
     | _,_=>false)
   | _=>false
def zf8 (P:Program):List Sh→Nat→List Field→Bool
 | [],_,[]=>true
 | s :: ss,i,f :: fl=>f.offset == i && P.cellsOf f.type == 1 && zf7 P s f.type && zf8 P ss (i + 1) fl
 | _,_,_=>false
def zvn (P:Program):List Sh→TypeId→Bool
 | [],_=>true
 | s :: ss,u=>zf7 P s u && zvn P ss u
end
section
variable {H:Type} {enc:TypeId × Value→H} {P:Program} {w:World} {base:Nat} {spare:Nat→Bool} {held:Bool}
def Got (w:World) (s:Sh) (v:Value):Prop:=∃ x,Is s x∧VRel (MS.start w) x v∧x.pure=true∧x.one=true
def GotL (w:World) (fs:List Sh) (vs:List Value):Prop:=∃ xs,IsL fs xs∧z04 (MS.start w) xs vs∧z0o xs=true∧z4x xs=true
theorem zp3:GotL w [] []:=⟨[],rfl,rfl,rfl,rfl⟩
theorem zk6 {s:Sh} {fs:List Sh} {v:Value} {vs:List Value} (h:Got w s v) (k:GotL w fs vs):GotL w (s :: fs) (v :: vs):=by
 obtain ⟨x,h1,h2,h3,h4⟩:=h
 obtain ⟨xs,k1,k2,k3,k4⟩:=k
 exact ⟨x :: xs,⟨x,xs,rfl,h1,k1⟩,⟨v,vs,rfl,h2,k2⟩,by simp [z0o,h3,k3],by simp [z4x,h4,k4]⟩
theorem zmo {a:Addr} {v:Value} (h:w.cell? a=some v):(MS.start w).im a.block:=zrc h
theorem y5m {agg:Bool} {fs:List Sh} {a:Addr} {len cap sz:Nat} (hsz:sz=fs.length) (hpos:0 < fs.length) (hagg:agg=false→fs.length=1) (hlc:len ≤ cap) (hcap:cap ≤ maxLen)
   (h:∀ i,i < len→∃ cs',w.cells? base (a.add (i * sz)) sz=some cs'∧GotL w fs cs'):Got w (.sl agg fs) (.slice (some a) len cap):=by
 subst hsz
 have h':∀ i:Nat,∃ p:List AV × List Value,i < len→(w.cells? base (a.add (i * fs.length)) fs.length=some p.2∧IsL fs p.1∧z04 (MS.start w) p.1 p.2∧z0o p.1=true∧z4x p.1=true):=by
   intro i
   by_cases hi:i < len
   · obtain ⟨cs',h1,xs,h2,h3,h4,h5⟩:=h i hi
     exact ⟨(xs,cs'),fun _=>⟨h1,h2,h3,h4,h5⟩⟩
   · exact ⟨([],[]),fun h=>absurd h hi⟩
 obtain ⟨p,hp⟩:=Classical.axiomOfChoice h'
 let E:List AV→AV:=fun cs=>if agg then .agg cs else cs.headD .any
 let V:List Value→Value:=fun cs=>if agg then .agg cs.toArray else cs.headD undef
 let xs:List AV:=(List.range len).map fun i=>E (p i).1
 let vs:List Value:=(List.range len).map fun i=>V (p i).2
 have hone:∀ i,i < len→(V (p i).2).cells.toList=(p i).2∧VRel (MS.start w) (E (p i).1) (V (p i).2)∧(E (p i).1).pure=true:=by
   intro i hi
   obtain ⟨q1,q2,q3,q4,q5⟩:=hp i hi
   have hl1:(p i).1.length=fs.length:=zvm q2
   cases agg with
   | true=>exact ⟨by simp [V,Value.cells],⟨_,rfl,q3⟩,by simp [E,AV.pure,q4]⟩
   | false =>
     have h1:=hagg rfl
     rw [h1] at hl1
     match hc:(p i).1,(p i).2,q3,q4,q5,hl1 with
     | [c],[v],⟨v',r,hv,hr,hr2⟩,q4,q5,_ =>
       cases hv
       have hno:c.one=true:=by simpa [z4x] using q5
       have hcc:c.cells=[c]:=by cases c<;>first|rfl|(simp [AV.one] at hno)
       have hca:c.isAny=false:=by cases c<;>first|rfl|(simp [AV.one] at hno)
       have hcl:=VRel.cells hca hr
       rw [hcc] at hcl
       obtain ⟨u,r2,hu,hu2,hu3⟩:=hcl
       rw [show r2=[] from hu3] at hu
       have hv1:v.cells.toList=[v]:=by
         have:=one_cell hr hno
         cases v<;>first|rfl|(simp [Value.oneCell'] at this)
       exact ⟨by simpa [V] using hv1,by simpa [E,V] using hr,by simpa [E,z0o] using q4⟩
 have hxl:xs.length=len:=by simp [xs]
 have hvl:vs.length=len:=by simp [vs]
 have hxi:∀ i,i < len→xs[i]? = some (E (p i).1):=fun i hi=>by simp [xs,hi]
 have hvi:∀ i,i < len→vs[i]? = some (V (p i).2):=fun i hi=>by simp [vs,hi]
 have hvs:z04 (MS.start w) xs vs:=z04.of_get (by rw [hxl,hvl]) fun i x v hx hv=>by
   have hi:i < len:=by rw [← hxl];exact (List.getElem?_eq_some_iff.1 hx).1
   rw [hxi i hi] at hx
   rw [hvi i hi] at hv
   cases hx;cases hv
   exact (hone i hi).2.1
 have hpu:z0o xs=true:=z2u.2 fun x hx=>by
   obtain ⟨i,hi,rfl⟩:=List.mem_map.1 hx
   exact (hone i (List.mem_range.1 hi)).2.2
 refine ⟨.lst fs.length xs,.inr ⟨xs,rfl,by rw [hxl];omega,fun y hy=>?_⟩,⟨hpu,hpos,some a,cap,vs,by rw [hxl],⟨by rw [hxl];exact hlc,fun hn=>by cases hn⟩,hvs,fun hne=>?_⟩,by simpa [AV.pure] using hpu,rfl⟩
 · obtain ⟨i,hi,rfl⟩:=List.mem_map.1 hy
   exact ⟨_,rfl,(hp i (List.mem_range.1 hi)).2.1⟩
 · have h0:0 < len:=by rw [← hxl];exact List.length_pos_iff.2 hne
   obtain ⟨b,o,spot⟩:=a
   have hcell:∀ i,i < len→∀ j,j < fs.length→w.cell? ((⟨b,o,spot⟩:Addr).add (i * fs.length + j))=(p i).2[j]? := fun i hi j hj=>by
     obtain ⟨_,_,hat⟩:=World.cells?_some (hp i hi).1
     rw [← hat j hj,← Go.Deep.add_add]
   have hlen2:∀ i,i < len→(p i).2.length=fs.length:=fun i hi=>(World.cells?_some (hp i hi).1).2.1
   have hc0:=hcell 0 h0 0 hpos
   rw [List.getElem?_eq_getElem (by rw [hlen2 0 h0];exact hpos)] at hc0
   have hspot:spot=none:=by simpa [Addr.add] using World.cell?_spot hc0
   subst hspot
   have hbk:∀ k:Nat,((⟨b,o,none⟩:Addr).add k).block=b:=fun k=>by unfold Addr.add;split<;>rfl
   refine ⟨b,o,rfl,by have:=zmo hc0;rwa [hbk] at this,fun i v hv=>?_⟩
   have hi:i < len:=by rw [← hvl];exact (List.getElem?_eq_some_iff.1 hv).1
   rw [hvi i hi] at hv
   cases hv
   obtain ⟨e1,_,_⟩:=hone i hi
   have e1':(V (p i).2).cells=(p i).2.toArray:=by simpa using congrArg List.toArray e1
   obtain ⟨_,q2,q3,_,q5⟩:=hp i hi
   refine ⟨by rw [e1'];simp [hlen2 i hi],fun c hc=>?_,fun j hj=>?_⟩
   · rw [e1'] at hc
     exact zco q3 q5 c (by simpa using hc)
   · rw [e1']
     have:=hcell i hi j hj
     have ea:(⟨b,o,none⟩:Addr).add (i * fs.length + j)=⟨b,o + i * fs.length + j,none⟩:=by
       unfold Addr.add
       split
       · rename_i hz
         have:i * fs.length=0∧j=0:=by simpa using hz
         rw [this.1,this.2]
         rfl
       · simp [Nat.add_assoc]
     rw [ea] at this
     refine this.trans ?_
     simp
theorem zd8:∀ {fs:List Sh} {i:Nat} {fl:List Field},zf8 P fs i fl=true→fl.length=fs.length
 | [],_,[],_=>rfl
 | [],_,_ :: _,h=>by simp [zf8] at h
 | _ :: _,_,[],h=>by simp [zf8] at h
 | s :: fs,i,f :: fl,h=>by
   simp only [zf8,Bool.and_eq_true] at h
   simp [zd8 h.2]
mutual
theorem y5n:∀ (s:Sh) {t:TypeId} {fuel:Nat} {v:Value} {d:DataW H × List MemPlace},zf7 P s t=true→DataW.trod enc P w base spare held fuel t [v]=some d→Got w s v
 | .bool,t,fuel,v,d,hf,h=>by
   cases fuel with
   | zero=>simp [DataW.trod] at h
   | succ n =>
     simp only [zf7] at hf
     split at hf
     · rename_i ht
       unfold DataW.trod at h
       rw [ht] at h
       cases v<;>simp at h
       rename_i b
       exact ⟨.bool b,⟨b,rfl⟩,rfl,rfl,rfl⟩
     · cases hf
 | .int k,t,fuel,v,d,hf,h=>by
   cases fuel with
   | zero=>simp [DataW.trod] at h
   | succ n =>
     simp only [zf7] at hf
     split at hf
     · rename_i k' ht
       obtain rfl:k'=k:=by simpa using hf
       unfold DataW.trod at h
       rw [ht] at h
       cases v<;>simp at h
       rename_i k2 m
       obtain ⟨⟨rfl,hw⟩,_⟩:=h
       exact ⟨.int k2 m,⟨m,rfl,hw⟩,rfl,rfl,rfl⟩
     · cases hf
 | .str,t,fuel,v,d,hf,h=>by
   cases fuel with
   | zero=>simp [DataW.trod] at h
   | succ n =>
     simp only [zf7] at hf
     split at hf
     · rename_i ht
       unfold DataW.trod at h
       rw [ht] at h
       cases v<;>simp at h
       rename_i s
       exact ⟨.str s.data.toList,⟨_,rfl,by simpa using h.1⟩,rfl,rfl,rfl⟩
     · cases hf
 | .sl agg fs,t,fuel,v,d,hf,h=>by
   simp only [zf7] at hf
   split at hf
   · rename_i e ht
     simp only [Bool.and_eq_true,beq_iff_eq,Bool.not_eq_true',List.isEmpty_eq_false_iff] at hf
     obtain ⟨⟨hsz,hne⟩,hfe⟩:=hf
     have hpos:0 < fs.length:=List.length_pos_iff.2 hne
     rcases Go.Deep.open_slice ht h with ⟨hv,_⟩|⟨a,len,cap,m,n,D,Pl,hv,hb,hl,hm,hmm,hx,hi⟩
     · cases hv
       exact ⟨.nilS,.inl rfl,rfl,rfl,rfl⟩
     · cases hv
       have hlm:len ≤ m:=by rw [hmm];split<;>omega
       have hag:agg=false→fs.length=1:=fun ha=>by
         subst ha
         simp only [Bool.and_eq_true,beq_iff_eq] at hfe
         exact hfe.1
       refine y5m (base:=base) hsz hpos hag hl hm fun i hil=>?_
       obtain ⟨cs',hc,ht'⟩:=hi i (by omega)
       refine ⟨cs',hc,?_⟩
       have hcl:=(World.cells?_some hc).2.1
       cases agg with
       | true =>
         split at hfe
         · rename_i fl _ he
           obtain ⟨ys,n',_,_,_,hlen,hg⟩:=DataW.trod_struct he ht'
           have hfl:=zd8 hfe
           exact y5o fs (fl:=fl.toList) (i:=0) (cs:=cs') hfe (by rw [hcl,hsz];omega) fun j f hj=>by
             have:=hg j f (by simpa using hj)
             have hj2:j < ys.length:=by rw [hlen];have:=(List.getElem?_eq_some_iff.1 hj).1;simpa using this
             rw [List.getElem?_eq_getElem hj2] at this
             exact ⟨n',_,this,rfl⟩
         · rename_i n2 u _ he
           simp only [Bool.and_eq_true,beq_iff_eq] at hfe
           obtain ⟨⟨hn,hu⟩,hfa⟩:=hfe
           obtain ⟨ys,n',_,_,hlen,hyl,hg⟩:=DataW.trod_array he ht'
           refine y5p fs (u:=u) (cs:=cs') (i:=0) hfa (by omega) fun j hj=>?_
           have h1:=hg j (by omega)
           rw [hu,Nat.mul_one] at h1
           have h2:ys[j]? = some (ys[j]'(by omega)):=List.getElem?_eq_getElem (by omega)
           rw [h2] at h1
           exact ⟨n',_,by rw [Nat.zero_add];exact h1⟩
         · rename_i hh;cases hh
         · cases hfe
       | false =>
         simp only [Bool.and_eq_true,beq_iff_eq] at hfe
         refine y5p fs (u:=e) (cs:=cs') (i:=0) hfe.2 (by omega) fun j hj=>?_
         obtain rfl:j=0:=by omega
         exact ⟨n,_,by rw [List.drop_zero,List.take_of_length_le (by omega)];exact ht'⟩
   · cases hf
theorem y5o:∀ (fs:List Sh) {fl:List Field} {i:Nat} {cs:List Value},zf8 P fs i fl=true→cs.length=i + fs.length →
   (∀ (j:Nat) (f:Field),fl[j]? = some f→∃ n y,DataW.trod enc P w base spare held n f.type ((cs.drop f.offset).take (P.cellsOf f.type))=y∧y.isSome=true)→GotL w fs (cs.drop i)
 | [],fl,i,cs,hf,hl,h=>by
   rw [List.drop_of_length_le (by rw [hl];simp)]
   exact zp3
 | s :: fs,fl,i,cs,hf,hl,h=>by
   cases fl with
   | nil=>simp [zf8] at hf
   | cons f fl =>
     simp only [zf8,Bool.and_eq_true,beq_iff_eq] at hf
     obtain ⟨⟨⟨ho,hc⟩,hs⟩,hr⟩:=hf
     have hi:i < cs.length:=by rw [hl];simp
     rw [List.drop_eq_getElem_cons hi]
     obtain ⟨n,y,h1,h2⟩:=h 0 f rfl
     obtain ⟨d,rfl⟩:=Option.isSome_iff_exists.1 h2
     rw [ho,hc,List.drop_eq_getElem_cons hi,List.take_succ_cons,List.take_zero] at h1
     refine zk6 (y5n s hs h1) (y5o fs hr (by rw [hl];simp;omega) fun j g hj=>h (j + 1) g (by simpa using hj))
theorem y5p:∀ (fs:List Sh) {u:TypeId} {i:Nat} {cs:List Value},zvn P fs u=true→cs.length=i + fs.length →
   (∀ j,j < fs.length→∃ n d,DataW.trod enc P w base spare held n u ((cs.drop (i + j)).take 1)=some d)→GotL w fs (cs.drop i)
 | [],u,i,cs,hf,hl,h=>by
   rw [List.drop_of_length_le (by rw [hl];simp)]
   exact zp3
 | s :: fs,u,i,cs,hf,hl,h=>by
   simp only [zvn,Bool.and_eq_true] at hf
   have hi:i < cs.length:=by rw [hl];simp
   rw [List.drop_eq_getElem_cons hi]
   obtain ⟨n,d,h1⟩:=h 0 (by simp)
   rw [Nat.add_zero,List.drop_eq_getElem_cons hi,List.take_succ_cons,List.take_zero] at h1
   refine zk6 (y5n s hf.1 h1) (y5p fs hf.2 (by rw [hl];simp;omega) fun j hj=>?_)
   have:=h (j + 1) (by simp;omega)
   rwa [show i + (j + 1)=i + 1 + j by omega] at this
end
end
open Go.RowKit Go.ChangeShapes Go.WideShapes
inductive PSh where
 | cell (s:Sh)
 | rcd (fs:List Sh)
def IsP:PSh→AV→Prop
 | .cell s,x=>Is s x
 | .rcd fs,x=>∃ cs,x=.agg cs∧IsL fs cs
def IsPs:List PSh→List AV→Prop
 | [],xs=>xs=[]
 | p :: ps,xs=>∃ x r,xs=x :: r∧IsP p x∧IsPs ps r
def y5q (P:Program):PSh→TypeId→Bool
 | .cell s,t=>zf7 P s t
 | .rcd fs,t=>match P.underlying t with
   | some (.struct fl)=>P.cellsOf t == fs.length && zf8 P fs 0 fl.toList
   | _=>false
def zg5 (P:Program):List PSh→List TypeId→Bool
 | [],[]=>true
 | p :: ps,t :: ts=>y5q P p t && zg5 P ps ts
 | _,_=>false
section
variable {H:Type} {enc:TypeId × Value→H} {P:Program} {w:World} {spare:Nat→Bool} {held:Bool}
theorem zmp {s:Sh} {t:TypeId} {r:Reach} {b0:Nat} {v:Value} (hf:zf7 P s t=true) (h:Value.okWide P w r b0 t v):v.cells.toList=[v]:=by
 cases s<;>simp only [zf7] at hf<;>split at hf<;>first|(cases hf;done)|skip
 · obtain ⟨b,rfl⟩:=okWide_bool ‹_› h;rfl
 · obtain ⟨b,rfl⟩:=okWide_int ‹_› h;rfl
 · obtain ⟨b,rfl⟩:=okWide_string ‹_› h;rfl
 · obtain ⟨a,l,c,rfl⟩:=okWide_slice ‹_› h;rfl
theorem y5r {p:PSh} {t:TypeId} {r:Reach} {b0:Nat} {v:Value} {d:DataW H} {ps:List MemPlace} (hf:y5q P p t=true) (hw:Value.okWide P w r b0 t v) (h:DataW.Trod enc P w 0 spare held t v d ps):∃ x,IsP p x∧VRel (MS.start w) x v:=by
 obtain ⟨fuel,h⟩:=h
 cases p with
 | cell s =>
   rw [zmp hf hw] at h
   obtain ⟨x,h1,h2,_⟩:=y5n s hf h
   exact ⟨x,h1,h2⟩
 | rcd fs =>
   simp only [y5q] at hf
   split at hf
   · rename_i fl ht
     simp only [Bool.and_eq_true,beq_iff_eq] at hf
     obtain ⟨cs,rfl,hc⟩:=okWide_struct ht hw
     obtain ⟨ys,n',_,_,_,hlen,hg⟩:=DataW.trod_struct ht h
     have hfl:=zd8 hf.2
     obtain ⟨xs,h1,h2,_⟩:=y5o fs (fl:=fl.toList) (i:=0) (cs:=cs.toList) hf.2 (by simp;omega) fun j f hj=>by
       have:=hg j f (by simpa using hj)
       have hj2:j < ys.length:=by rw [hlen];have:=(List.getElem?_eq_some_iff.1 hj).1;simpa using this
       rw [List.getElem?_eq_getElem hj2] at this
       exact ⟨n',_,this,rfl⟩
     exact ⟨.agg xs,⟨xs,rfl,h1⟩,cs.toList,by simp,by simpa using h2⟩
   · cases hf
theorem zp4:∀ {ps:List PSh} {ts:List TypeId} {vs:List Value} {ds:List (DataW H)} {q:List MemPlace} {r:Reach} {b0:Nat},zg5 P ps ts=true→(∀ (j:Nat) t v,ts[j]? = some t→vs[j]? = some v→Value.okWide P w r b0 t v) →
   DataW.TrodAll enc P w 0 spare held ts vs ds q→∃ xs,IsPs ps xs∧z04 (MS.start w) xs vs
 | [],[],[],[],_,_,_,_,_,_=>⟨[],rfl,rfl⟩
 | p :: ps,t :: ts,v :: vs,d :: ds,_,_,_,hf,hw,⟨a,b,h1,h2,_⟩=>by
   simp only [zg5,Bool.and_eq_true] at hf
   obtain ⟨x,k1,k2⟩:=y5r hf.1 (hw 0 t v rfl rfl) h1
   obtain ⟨xs,k3,k4⟩:=zp4 hf.2 (fun j t v ht hv=>hw (j + 1) t v (by simpa using ht) (by simpa using hv)) h2
   exact ⟨x :: xs,⟨x,xs,rfl,k1,k3⟩,v,vs,rfl,k2,k4⟩
 | [],_ :: _,_,_,_,_,_,hf,_,_=>by simp [zg5] at hf
 | _ :: _,[],_,_,_,_,_,hf,_,_=>by simp [zg5] at hf
 | [],[],_ :: _,_,_,_,_,_,_,h=>h.elim
 | [],[],[],_ :: _,_,_,_,_,_,h=>h.elim
 | _ :: _,_ :: _,[],_,_,_,_,_,_,h=>by cases ‹List (DataW H)›<;>exact h.elim
 | _ :: _,_ :: _,_ :: _,[],_,_,_,_,_,h=>h.elim
def zvo (P:Program) (ts:List TypeId):Bool:=ts.all fun t=>P.readableRec t && decide (t < P.types.size)
theorem zk7 {W W':World} (hl:laidOutB P=true) (hb:Below W.heap.size W W'):∀ {ts:List TypeId} {vs:List Value} {ds:List (DataW H)} {ps:List MemPlace},zvo P ts=true→(∀ x ∈ ps,x.block < W.heap.size) →
   DataW.TrodAll enc P W 0 (fun _=>true) true ts vs ds ps→DataW.TrodAll enc P W' 0 (fun b=>decide (b < W.heap.size)) true ts vs ds ps
 | [],[],[],_,_,_,h=>h
 | t :: ts,v :: vs,d :: ds,_,hr,hlt,⟨a,b,h1,h2,e⟩=>by
   subst e
   simp only [zvo,List.all_cons,Bool.and_eq_true,decide_eq_true_eq] at hr
   exact ⟨a,b,Below.trod hl hr.1.1 hr.1.2 h1 hb (fun x hx=>hlt x (List.mem_append_left _ hx)),zk7 hl hb (by simpa [zvo] using hr.2) (fun x hx=>hlt x (List.mem_append_right _ hx)) h2,rfl⟩
 | [],[],_ :: _,_,_,_,h=>h.elim
 | [],_ :: _,_,_,_,_,h=>by cases ‹List (DataW H)›<;>exact h.elim
 | _ :: _,[],_,_,_,_,h=>by cases ‹List (DataW H)›<;>exact h.elim
 | _ :: _,_ :: _,[],_,_,_,h=>h.elim
theorem zvp {f:Nat} {ps:List PSh} {ts:List TypeId} (hf:zg5 P ps ts=true) (h:∀ xs,IsPs ps xs→PC P f xs (.bool true)) {args:Array Value} {ds:List (DataW H)} {q:List MemPlace} {r:Reach} {b0:Nat}
   (hw:∀ (j:Nat) t v,ts[j]? = some t→args.toList[j]? = some v→Value.okWide P w r b0 t v) (hA:DataW.TrodAll enc P w 0 spare held ts args.toList ds q) :
   Calls P f args w fun e w'=>e=.returned (.bool true)∧Below w.heap.size w w':=by
 obtain ⟨xs,h1,h2⟩:=zp4 hf hw hA
 have:=(h xs h1).below h2
 simpa using this
end
end Go.Proofs.Yticodgjinajkpaa.Abs
