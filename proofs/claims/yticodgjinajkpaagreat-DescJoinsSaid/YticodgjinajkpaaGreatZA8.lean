/-
  trim: which states come, which go on.
  The document's example of layer 6; descriptions that write what they read are well formed.
  The law DescSizes.
  The document's answer for epsilon rules that lead back.
  The law DescCycles.
  The document's numbers in order, their sums, and their spans.
  All sums of two lists of numbers.
  The document's inner values: sets moved, places together.
  The document's inner values of a term: the walk.
  The plain law of the document's inner values: the sums of all windows.
  The document's Fits, guards and terms.
  The document's Fits and guards are the program's.
  The document's guards and terms, how great a description is: the walk.
  What is wrong first with a description, as the document says it; the law DescWheres.
  The document's sameness of descriptions.
  The document's Join.
  The law DescWheres.
-/
import Derived.Test.YticodgjinajkpaaGreatZA7
import Derived.Test.YticodgjinajkpaaGreatZA5
set_option linter.unusedSimpArgs false
set_option linter.unusedVariables false
namespace Go.Proofs.YticodgjinajkpaaGreat
open Abs
structure Wf (d:Desc):Prop where
 n:∃ n:Nat,d.states=n∧1 ≤ n∧n ≤ 1024
 start:0 ≤ d.start∧d.start < d.states
 rl:d.rules.length ≤ 4096
 fl:d.finals.length ≤ 4096
 r:∀ r ∈ d.rules,(0 ≤ r.from_∧r.from_ < d.states)∧0 ≤ r.to_∧r.to_ < d.states
 f:∀ f ∈ d.finals,0 ≤ f.from_∧f.from_ < d.states
theorem zoy {d:Desc} (h:z2r d=0):Wf d:=by
 obtain ⟨h1,h2,h3⟩:=z8f h
 have h4:=zjn h1
 refine ⟨⟨d.states.toNat,by omega,by omega,by omega⟩,h4.2.2.2,h4.2.1,h4.2.2.1,fun r hr=>zf2 (h2 r hr),fun f hf=>?_⟩
 have:=h3 f hf
 simp only [z2q,z5o,Bool.and_eq_true,decide_eq_true_eq] at this
 exact this.1
theorem zjp {α:Type} {p:α→Bool}:∀ {l:List α} {i:Nat},(∀ x ∈ l,p x=true)→z4r p l i=none
 | [],_,_=>rfl
 | x :: l,i,h=>by rw [z4r,if_pos (h x (by simp)),zjp fun y hy=>h y (by simp [hy])]
theorem z9f {d:Desc} (h1:zex d=true) (h2:∀ r ∈ d.rules,z4f d r=true) (h3:∀ f ∈ d.finals,z2q d f=true) (h4:¬ cycP d.rules d.states.toNat):z3v d=(0,0)∧z2r d=0:=by
 have e:z3v d=(0,0):=by
   rw [z3v,if_neg (by simp [h1]),zjp h2]
   simp only
   rw [zjp h3]
   simp only
   rw [if_neg h4]
 exact ⟨e,by rw [z2r,e];rfl⟩
theorem zrn (s:Int):Full (domL s)∧∀ v,memL (domL s) v→0 ≤ v∧v ≤ 1114111:=by
 refine ⟨fun t ht=>?_,fun v hv=>zcx (z9d.1 hv)⟩
 unfold domL at ht
 split at ht
 · simp at ht;subst ht;simp
 · split at ht
   · simp at ht;rcases ht with rfl|rfl<;>simp
   · cases ht
theorem zhf {s:Int} (hs:s=1 ∨ s=2):z2k s [domL s]=true:=by
 have hm:z48 (domL s) (domL s)=[]:=(z6k (fun v hv=>by have:=(zrn s).2 v hv;omega) (zrn s).1).2 fun v hv=>hv
 have hc:zev (domL s)=true:=by rcases hs with rfl|rfl<;>decide
 simp only [z2k,z7q,List.all_cons,List.all_nil,hm,hc]
 rcases hs with rfl|rfl<;>rfl
theorem zua {x:Int} (hx:0 ≤ x∧x ≤ 1114111):z73 zf3 [x]=some x:=by
 have hr:z2y ⟨0,0,21,0⟩ 1=true:=by decide
 have hv:valP ⟨0,0,21,0⟩ x=x:=(zxh (p:=⟨0,0,21,0⟩) (by decide) (by omega)).2.2
 have:=zy6 (t:=zf3) (p:=⟨0,0,21,0⟩) (x:=x) rfl hr (by decide) (by decide) (by decide) hx
 have ho:zf3.outer=⟨0,0,21,0⟩:=rfl
 have hs:zf3.sum=0:=rfl
 have hb:zf3.base=0:=rfl
 rw [this,ho,hs,hb,hv,Int.zero_add,hv,if_pos hx,Int.zero_add]
theorem zys {s:Int} (hs:s=1 ∨ s=2):zcn zf3 s s [domL s]=true:=by
 refine (zmo (by simp)).2 ⟨by rcases hs with rfl|rfl<;>decide,fun w hw=>?_⟩
 obtain ⟨x,r,rfl,h1,h2⟩:=win_cons.1 hw
 obtain rfl:=y8d.1 h2
 have hm:=((z7o (domL s)).2 x).1 h1
 rw [fitW,zua hm.1]
 simp only [Bool.and_eq_true,decide_eq_true_eq]
 exact ⟨hm.1,z9d.1 hm.2⟩
theorem zf9 {d:Desc} {s:Int} (hs:s=1 ∨ s=2) (h1:d.in_=s) (h2:d.out=s):z2p d [zf3] [domL s]=true:=by
 simp [z2p,h1,h2,zys hs]
def zao (a b:Int):Desc:=⟨a,b,1,0,[],[]⟩
theorem zub {s:Int} (hs:s=1 ∨ s=2):z3v (z9b s)=(0,0)∧z2r (z9b s)=0:=by
 refine z9f (by rcases hs with rfl|rfl<;>decide) (fun r hr=>?_) (fun f hf=>?_) ?_
 · simp only [z9b,List.mem_singleton] at hr
   subst hr
   simp only [z4f,Bool.and_eq_true]
   exact ⟨rfl,rfl,zhf hs,rfl,zf9 hs rfl rfl⟩
 · simp only [z9b,List.mem_singleton] at hf
   subst hf
   simp [z2q,z5o,z2k,z2p,z9b]
 · rintro ⟨C,hC,j,hj⟩
   obtain ⟨_,r,hr,he,_⟩:=hC j hj
   simp only [z9b,List.mem_singleton] at hr
   subst hr
   simp [z3z] at he
theorem zoz {a b:Int} (ha:a=1 ∨ a=2) (hb:b=1 ∨ b=2):z3v (zao a b)=(0,0)∧z2r (zao a b)=0:=by
 refine z9f (by rcases ha with rfl|rfl<;>rcases hb with rfl|rfl<;>decide) (fun r hr=>by cases hr) (fun f hf=>by cases hf) ?_
 rintro ⟨C,hC,j,hj⟩
 obtain ⟨_,r,hr,_⟩:=hC j hj
 cases hr
abbrev exJ:Desc:=z9e (z9b 1) (zao 1 1)
theorem zap:exJ.rules=[⟨0,1,[],0,[]⟩,⟨0,2,[],0,[]⟩,⟨1,1,[domL 1],1,[zf3]⟩]:=by rfl
theorem zhg:exJ.finals=[⟨1,[],[]⟩]:=rfl
theorem zyt:z2r exJ=0:=by
 refine (z9f (by decide) (fun r hr=>?_) (fun f hf=>?_) ?_).2
 · rw [zap] at hr
   simp only [List.mem_cons,List.not_mem_nil,or_false] at hr
   rcases hr with rfl|rfl|rfl
   · rfl
   · rfl
   · simp only [z4f,Bool.and_eq_true]
     exact ⟨rfl,rfl,zhf (.inl rfl),rfl,zf9 (.inl rfl) rfl rfl⟩
 · rw [zhg] at hf
   simp only [List.mem_singleton] at hf
   subst hf
   have hst:exJ.states=3:=rfl
   simp [z2q,z5o,z2k,z2p,hst]
 · rintro ⟨C,hC,j,hj⟩
   have h0:¬ C 0:=fun h=>by
     obtain ⟨_,r,hr,he,ht,_⟩:=hC 0 h
     rw [zap] at hr
     simp only [List.mem_cons,List.not_mem_nil,or_false] at hr
     rcases hr with rfl|rfl|rfl<;>simp at ht
   obtain ⟨_,r,hr,he,_,hf⟩:=hC j hj
   rw [zap] at hr
   simp only [List.mem_cons,List.not_mem_nil,or_false] at hr
   rcases hr with rfl|rfl|rfl
   · exact h0 hf
   · exact h0 hf
   · simp [z3z] at he
theorem y38 (s:Int):z4x (z9b s):=⟨fun r hr t ht=>by
 simp only [z9b,List.mem_singleton] at hr
 subst hr
 simp only [List.mem_singleton] at ht
 subst ht
 decide,fun f hf t ht=>by
 simp only [z9b,List.mem_singleton] at hf
 subst hf
 cases ht⟩
theorem zyu (a b:Int):z4x (zao a b):=⟨fun r hr=>(by cases hr),fun f hf=>(by cases hf)⟩
theorem y8e:z4x exJ:=⟨fun r hr t ht=>by
 rw [zap] at hr
 simp only [List.mem_cons,List.not_mem_nil,or_false] at hr
 rcases hr with rfl|rfl|rfl
 · cases ht
 · cases ht
 · simp only [List.mem_singleton] at ht
   subst ht
   decide,fun f hf t ht=>by
 rw [zhg] at hf
 simp only [List.mem_singleton] at hf
 subst hf
 cases ht⟩
set_option maxRecDepth 100000 in
theorem zp0:PC Tryz.prog 8 [] (.bool true):=by
 have h1:=zyk 1
 have h2:PC Tryz.prog 26 [.int .i64 1,.int .i64 1] (z1j (zao 1 1)):=zha 1 1
 have h3:=zmq (z9b 1) (zao 1 1) (y38 1) (zyu 1 1) (zub (.inl rfl)).2 (zoz (.inl rfl) (.inl rfl)).2 rfl rfl (by decide) (by decide) (by decide)
 have h4:PC Tryz.prog 23 [z1j (z9e (z9b 1) (zao 1 1))] (.int .i64 0):=by
   have:=z4y exJ y8e
   rwa [zyt] at this
 have eD:z9e (z9b 1) (zao 1 1)=⟨1,1,3,0,[⟨0,1,[],0,[]⟩,⟨0,2,[],0,[]⟩,⟨1,1,[[⟨0,255⟩]],1,[zf3]⟩],[⟨1,[],[]⟩]⟩:=rfl
 rw [eD] at h3 h4
 clear eD
 generalize z9b 1=sv at *
 generalize zao 1 1=ev at *
 refine z0s zig ?_
 unfold z9t
 (repeat' (first|(simp (disch:=omega) only [push_cast,↓zz,seval])|(with_reducible first|refine And.intro ?_ ?_|(first|refine z01 ?_ ?_|refine z00 ?_ ?_)<;>intro hc<;>(try simp only [push_cast] at hc))|((with_reducible first|refine eK h1 ?_|refine eQ h1 ?_|refine eG h1 ?_))|((with_reducible first|refine eK h2 ?_|refine eQ h2 ?_|refine eG h2 ?_))|((with_reducible first|refine eK h3 ?_|refine eQ h3 ?_|refine eG h3 ?_))|((with_reducible first|refine eK h4 ?_|refine eQ h4 ?_|refine eG h4 ?_))|((with_reducible first|refine cK h1 ?_|refine cQ h1 ?_|refine cG h1 ?_);(simp (disch:=omega) only [push_cast,↓zz,seval]);(fail_if_success (with_reducible change False)))|((with_reducible first|refine cK h2 ?_|refine cQ h2 ?_|refine cG h2 ?_);(simp (disch:=omega) only [push_cast,↓zz,seval]);(fail_if_success (with_reducible change False)))|((with_reducible first|refine cK h3 ?_|refine cQ h3 ?_|refine cG h3 ?_);(simp (disch:=omega) only [push_cast,↓zz,seval]);(fail_if_success (with_reducible change False)))|((with_reducible first|refine cK h4 ?_|refine cQ h4 ?_|refine cG h4 ?_);(simp (disch:=omega) only [push_cast,↓zz,seval]);(fail_if_success (with_reducible change False)))|omega|with_reducible intro _))
 all_goals trace_state
structure y8f (d:Desc) (k:Nat) (f:Bool) (w a l:Int):Prop where
 le:k ≤ d.rules.length
 fr:freeB d=(f && (d.rules.drop k).all fun r=>!z3z r)
 wi:yc2 d=(d.rules.drop k).foldl widF w
 ah:yc3 d=(d.rules.drop k).foldl aheF a
 lo:longV d=d.finals.foldl lonG ((d.rules.drop k).foldl lonF l)
 nn:0 ≤ a
theorem y8f.step {d:Desc} {k:Nat} {f:Bool} {w a l:Int} (h:y8f d k f w a l) (hk:k < d.rules.length) {f2:Bool} {w2 a2 l2:Int} (e1:f2=(f && !z3z (nth d.rules k))) (e2:w2=widF w (nth d.rules k)) (e3:a2=aheF a (nth d.rules k)) (e4:l2=lonF l (nth d.rules k)):y8f d (k + 1) f2 w2 a2 l2 where
 le:=by omega
 fr:=by rw [h.fr,drop_at hk,List.all_cons,e1,Bool.and_assoc]
 wi:=by rw [h.wi,fold_at hk,e2]
 ah:=by rw [h.ah,fold_at hk,e3]
 lo:=by rw [h.lo,fold_at hk,e4]
 nn:=by have:=h.nn;rw [e3,aheF];omega
def famB (n:Nat) (f:Nat→Bool):List AV:=(List.range n).map fun i=>AV.bool (f i)
theorem zjq {n i:Nat} {f:Nat→Bool} {x:Bool} (h:i < n):(famB n f).set i (.bool x)=famB n fun j=>if j=i then x else f j:=by
 rw [famB,z5d h,famB]
 refine List.map_congr_left fun p _=>?_
 by_cases e:p=i
 · subst e;simp
 · simp [e]
theorem z5e {n:Nat} {f g:Nat→Bool} (h:∀ i,i < n→f i=g i):famB n f=famB n g:=List.map_congr_left fun i hi=>by rw [h i (by simpa using hi)]
theorem zro (n:Nat):List.replicate n (AV.bool false)=famB n fun _=>false:=by
 refine List.ext_getElem (by simp [famB]) fun i h1 h2=>?_
 simp [famB]
theorem y39 {l:List Rule} {on:Nat→Bool} {m:Nat} (hm:m < l.length):onF (l.take (m + 1)) on=fun j=>onF (l.take m) on j || (z3z (nth l m) && (on (nth l m).from_.toNat && decide ((nth l m).to_=j))):=by
 funext j
 rw [onF,take_at hm,List.any_append]
 simp [onF]
theorem zuc {l:List Rule} {on:Nat→Bool} {m:Nat} (hm:m < l.length):zb6 (l.take (m + 1)) on=(zb6 (l.take m) on || (z3z (nth l m) && on (nth l m).from_.toNat)):=by
 rw [zb6,take_at hm,List.any_append]
 simp [zb6]
theorem zp1 (d:Desc) (hd:yc1 d):PC Tryz.prog 55 [z1j d] (.bool (cycR d.rules d.states.toNat)):=by
 obtain ⟨⟨hn1,hn2⟩,hlen,hrul⟩:=hd
 have hPr:=z0v d.rules
 have hPf:=z0t d.finals
 obtain ⟨n,hn⟩:∃ n:Nat,d.states=n:=⟨d.states.toNat,by omega⟩
 have pB:∀ f,z0p (famB n f)=true:=fun f=>z2w.2 fun x hx=>by
   obtain ⟨i,_,rfl⟩:=List.mem_map.1 hx
   rfl
 have lB:∀ f,(famB n f).length=n:=fun f=>by simp [famB]
 have aB:∀ f i,i < n→(famB n f).getD i .any=.bool (f i):=fun f i hi=>z37 hi
 have rB:=zro n
 have hpd:z0p [z1j d]=true:=by simp [z0p,zbe]
 refine z0s zil ?_
 unfold z9y
 rw [hn,Int.toNat_natCast]
 (repeat' (first|(simp (disch:=omega) only [push_cast,↓zz,seval,hn])|(with_reducible first|refine And.intro ?_ ?_|(first|refine z01 ?_ ?_|refine z00 ?_ ?_)<;>intro hc<;>(try simp only [push_cast] at hc))|omega|with_reducible intro _))
 refine z0f (z0g (fun (k:Nat)=>k ≤ n) (fun k=>n - k)
   (fun k=>[(1,.ptr 0 1 0 0),(3,.ref 1 1 0 n),(13,.int .i64 n),(14,.int .i64 k)]) (fun k=>[⟨6,1,true,[z1j d]⟩,⟨1,1,true,famB n fun i=>decide (i < k)⟩]) (fun env _=>[z0k 6 (env 1),z0k 1 (env 3)]) 0 (by simp) ?_ ?_)
 · have e0:(famB n fun i=>decide (i < 0))=famB n fun _=>false:=z5e fun i _=>by simp
   (repeat' (first|(simp (disch:=omega) only [push_cast,↓zz,seval,hPr,hPf,hn,rB,e0,pB,lB,Int.toNat_natCast])|(with_reducible first|refine And.intro ?_ ?_|(first|refine z01 ?_ ?_|refine z00 ?_ ?_)<;>intro hc<;>(try simp only [push_cast] at hc))|omega|with_reducible intro _))
 intro k hk
 rcases Nat.lt_or_ge k n with hkn|hkn
 · have hs:=zjq (f:=fun i=>decide (i < k)) (x:=true) hkn
   have he:(famB n fun j=>if j=k then true else decide (j < k))=famB n fun i=>decide (i < k + 1):=z5e fun i _=>by
     by_cases h:i=k
     · subst h;simp
     · rw [if_neg h,decide_eq_decide];omega
   rw [he] at hs
   refine W_T ?_
   (repeat' (first|(simp (disch:=omega) only [push_cast,↓zz,seval,hPr,hPf,hn,pB,lB,hs])|(with_reducible first|refine And.intro ?_ ?_|(first|refine z01 ?_ ?_|refine z00 ?_ ?_)<;>intro hc<;>(try simp only [push_cast] at hc))|omega|with_reducible intro _))
   all_goals
     refine ⟨k + 1,?_⟩
     (repeat' (first|(simp (disch:=omega) only [push_cast,↓zz,seval])|(with_reducible first|refine And.intro ?_ ?_|(first|refine z01 ?_ ?_|refine z00 ?_ ?_)<;>intro hc<;>(try simp only [push_cast] at hc))|omega|with_reducible intro _))
 · have hkk:n=k:=by omega
   subst hkk
   have he:(famB n fun i=>decide (i < n))=famB n (onK d.rules 0):=z5e fun i hi=>by simp [onK,hi]
   rw [he]
   refine W_T ?_
   (repeat' (first|(simp (disch:=omega) only [push_cast,↓zz,seval,hPr,hPf,hn,pB,lB])|(with_reducible first|refine And.intro ?_ ?_|(first|refine z01 ?_ ?_|refine z00 ?_ ?_)<;>intro hc<;>(try simp only [push_cast] at hc))|omega|with_reducible intro _))
   refine z0f (z0g (fun (k:Nat)=>k ≤ n + 1∧∀ i,i < k→zb6 d.rules (onK d.rules i)=true) (fun k=>n + 1 - k)
     (fun k=>[(1,.ptr 0 1 0 0),(3,.ref 1 1 0 n),(5,.int .i64 k)]) (fun k=>[⟨6,1,true,[z1j d]⟩,⟨1,1,true,famB n (onK d.rules k)⟩]) (fun env _=>[z0k 6 (env 1),z0k 1 (env 3)]) 0 ⟨by simp,fun i hi=>by omega⟩ ?_ ?_)
   · (repeat' (first|(simp (disch:=omega) only [push_cast,↓zz,seval,hPr,hPf,hn,pB,lB])|(with_reducible first|refine And.intro ?_ ?_|(first|refine z01 ?_ ?_|refine z00 ?_ ?_)<;>intro hc<;>(try simp only [push_cast] at hc))|omega|with_reducible intro _))
   rintro k ⟨k1,k2⟩
   rcases Nat.lt_or_ge k (n + 1) with hk1|hk1
   · generalize hon:onK d.rules k=on at *
     refine W_T ?_
     (repeat' (first|(simp (disch:=omega) only [push_cast,↓zz,seval,hPr,hPf,hn,pB,lB,rB,Int.toNat_natCast])|(with_reducible first|refine And.intro ?_ ?_|(first|refine z01 ?_ ?_|refine z00 ?_ ?_)<;>intro hc<;>(try simp only [push_cast] at hc))|omega|with_reducible intro _))
     refine z0f (z0g (fun (m:Nat)=>m ≤ d.rules.length) (fun m=>d.rules.length - m)
       (fun m=>[(1,.ptr 0 1 0 0),(3,.ref 1 1 0 n),(5,.int .i64 k),(6,.ref 2 1 0 n),(7,.bool (zb6 (d.rules.take m) on)),(8,.int .i64 m)]) (fun m=>[⟨6,1,true,[z1j d]⟩,⟨1,1,true,famB n on⟩,⟨1,1,true,famB n (onF (d.rules.take m) on)⟩]) (fun env _=>[z0k 6 (env 1),z0k 1 (env 3),z0k 1 (env 6)]) 0 (by simp) ?_ ?_)
     · have e1:famB n (onF [] on)=famB n fun _=>false:=z5e fun i _=>by simp [onF]
       have e2:zb6 [] on=false:=by simp [zb6]
       (repeat' (first|(simp (disch:=omega) only [push_cast,↓zz,seval,hPr,hPf,hn,pB,lB,e1,e2])|(with_reducible first|refine And.intro ?_ ?_|(first|refine z01 ?_ ?_|refine z00 ?_ ?_)<;>intro hc<;>(try simp only [push_cast] at hc))|omega|with_reducible intro _))
     intro m hm
     rcases Nat.lt_or_ge m d.rules.length with hml|hml
     · have hr:=hrul _ (z0i hml)
       have e1:=y39 (on:=on) hml
       have e2:=zuc (on:=on) hml
       generalize hre:nth d.rules m=r at *
       have hP:=z05 r.guards
       have hT:=z0w r.out
       obtain ⟨i,hi⟩:∃ i:Nat,r.from_=i:=⟨r.from_.toNat,by omega⟩
       obtain ⟨j,hj⟩:∃ j:Nat,r.to_=j:=⟨r.to_.toNat,by omega⟩
       have hin:i < n:=by omega
       have hjn:j < n:=by omega
       have aI:=aB on i hin
       have hset:=zjq (f:=onF (d.rules.take m) on) (x:=true) hjn
       rw [hi,hj,Int.toNat_natCast] at e1
       rw [hi,Int.toNat_natCast] at e2
       by_cases he:(r.guards.length:Int)=0
       · have hie:z3z r=true:=by simp [z3z,he]
         rw [hie] at e1 e2
         cases hoi:on i with
         | true =>
           rw [hoi] at aI e1 e2
           have e3:(famB n fun p=>if p=j then true else onF (d.rules.take m) on p)=famB n (onF (d.rules.take (m + 1)) on):=z5e fun p _=>by
             rw [e1]
             by_cases h:p=j
             · subst h;simp
             · have:¬ (j:Int)=p:=by omega
               simp [h,this]
           rw [e3] at hset
           simp only [Bool.and_self,Bool.or_true] at e2
           refine W_T ?_
           (repeat' (first|(simp (disch:=omega) only [push_cast,↓zz,seval,hPr,hPf,hn,pB,lB,hre,hP,hT,hi,hj,he,aI,hset])|(with_reducible first|refine And.intro ?_ ?_|(first|refine z01 ?_ ?_|refine z00 ?_ ?_)<;>intro hc<;>(try simp only [push_cast] at hc))|omega|with_reducible intro _))
           all_goals
             refine ⟨m + 1,?_⟩
             (repeat' (first|(simp (disch:=omega) only [push_cast,↓zz,seval,e2])|(with_reducible first|refine And.intro ?_ ?_|(first|refine z01 ?_ ?_|refine z00 ?_ ?_)<;>intro hc<;>(try simp only [push_cast] at hc))|omega|with_reducible intro _))
         | false =>
           rw [hoi] at aI e1 e2
           have e3:famB n (onF (d.rules.take (m + 1)) on)=famB n (onF (d.rules.take m) on):=z5e fun p _=>by rw [e1];simp
           simp only [Bool.and_false,Bool.or_false] at e2
           refine W_T ?_
           (repeat' (first|(simp (disch:=omega) only [push_cast,↓zz,seval,hPr,hPf,hn,pB,lB,hre,hP,hT,hi,hj,he,aI])|(with_reducible first|refine And.intro ?_ ?_|(first|refine z01 ?_ ?_|refine z00 ?_ ?_)<;>intro hc<;>(try simp only [push_cast] at hc))|omega|with_reducible intro _))
           all_goals
             refine ⟨m + 1,?_⟩
             (repeat' (first|(simp (disch:=omega) only [push_cast,↓zz,seval,e2,e3])|(with_reducible first|refine And.intro ?_ ?_|(first|refine z01 ?_ ?_|refine z00 ?_ ?_)<;>intro hc<;>(try simp only [push_cast] at hc))|omega|with_reducible intro _))
       · have hie:z3z r=false:=decide_eq_false he
         rw [hie] at e1 e2
         have e3:famB n (onF (d.rules.take (m + 1)) on)=famB n (onF (d.rules.take m) on):=z5e fun p _=>by rw [e1];simp
         simp only [Bool.false_and,Bool.or_false] at e2
         refine W_T ?_
         (repeat' (first|(simp (disch:=omega) only [push_cast,↓zz,seval,hPr,hPf,hn,pB,lB,hre,hP,hT,hi,hj,he])|(with_reducible first|refine And.intro ?_ ?_|(first|refine z01 ?_ ?_|refine z00 ?_ ?_)<;>intro hc<;>(try simp only [push_cast] at hc))|omega|with_reducible intro _))
         all_goals
           refine ⟨m + 1,?_⟩
           (repeat' (first|(simp (disch:=omega) only [push_cast,↓zz,seval,e2,e3])|(with_reducible first|refine And.intro ?_ ?_|(first|refine z01 ?_ ?_|refine z00 ?_ ?_)<;>intro hc<;>(try simp only [push_cast] at hc))|omega|with_reducible intro _))
     · have hme:m=d.rules.length:=by omega
       subst hme
       rw [List.take_length]
       have hnx:onF d.rules on=onK d.rules (k + 1):=by rw [← hon];rfl
       rw [hnx]
       cases hsm:zb6 d.rules on with
       | false =>
         have hres:cycR d.rules n=false:=by
           rw [cycR,List.all_eq_false]
           exact ⟨k,by simp;omega,by rw [hon,hsm];simp⟩
         rw [hres]
         refine W_T ?_
         (repeat' (first|(simp (disch:=omega) only [push_cast,↓zz,seval,hPr,hPf,hn,pB,lB])|(with_reducible first|refine And.intro ?_ ?_|(first|refine z01 ?_ ?_|refine z00 ?_ ?_)<;>intro hc<;>(try simp only [push_cast] at hc))|omega|with_reducible intro _))
       | true =>
         have hall:∀ i,i < k + 1→zb6 d.rules (onK d.rules i)=true:=fun i hi=>by
           rcases Nat.lt_or_ge i k with h|h
           · exact k2 i h
           · obtain rfl:i=k:=by omega
             rw [hon];exact hsm
         refine W_T ?_
         (repeat' (first|(simp (disch:=omega) only [push_cast,↓zz,seval,hPr,hPf,hn,pB,lB])|(with_reducible first|refine And.intro ?_ ?_|(first|refine z01 ?_ ?_|refine z00 ?_ ?_)<;>intro hc<;>(try simp only [push_cast] at hc))|omega|with_reducible intro _))
         all_goals
           refine ⟨k + 1,?_⟩
           (repeat' (first|(simp (disch:=omega) only [push_cast,↓zz,seval])|(with_reducible first|refine And.intro ?_ ?_|(first|refine z01 ?_ ?_|refine z00 ?_ ?_)<;>intro hc<;>(try simp only [push_cast] at hc))|omega|with_reducible intro _))
         all_goals first|exact hall _ (by omega)|exact hall
   · have hke:k=n + 1:=by omega
     have hres:cycR d.rules n=true:=by
       rw [cycR,List.all_eq_true]
       intro i hi
       exact k2 i (by simp at hi;omega)
     rw [hres]
     refine W_T ?_
     (repeat' (first|(simp (disch:=omega) only [push_cast,↓zz,seval,hPr,hPf,hn,pB,lB])|(with_reducible first|refine And.intro ?_ ?_|(first|refine z01 ?_ ?_|refine z00 ?_ ?_)<;>intro hc<;>(try simp only [push_cast] at hc))|omega|with_reducible intro _))
     all_goals trace_state
open Classical in
theorem zyv (v:Nat) (l:List Int) (x:Int) (hr:z1f l) (hl:l.length ≤ 1000000000000) {K:AV→z02→Prop} (p:Nat) (hp:Place l x p p)
   (hyes:p < l.length→nth l p=x→K (.ref 0 v 0 l.length) (Abs.hl [⟨1,v,false,l.map intV⟩]))
   (hno:(p < l.length→nth l p ≠ x)→K (.ref 0 (v + 1) 0 (l.length + 1)) (Abs.hl [⟨1,v + 1,false,(l.take p ++ x :: l.drop p).map intV⟩])) :
   z1d Tryz.prog 123 [.ref 0 v 0 l.length,.int .i64 x] (Abs.hl [⟨1,v,false,l.map intV⟩]) K:=by
 refine zab (b:=1) zny rfl ?_
 unfold ze6
 (repeat' (first|(simp (disch:=omega) only [push_cast,↓zz,seval])|(with_reducible first|refine And.intro ?_ ?_|(first|refine z01 ?_ ?_|refine z00 ?_ ?_)<;>intro hc<;>(try simp only [push_cast] at hc))|omega|with_reducible intro _))
 refine z0f (z0g (fun (s:Nat × Nat)=>Place l x s.1 s.2) (fun s=>s.2 - s.1) (fun s=>[(0,.ref 0 v 0 l.length),(1,.int .i64 x),(5,.int .i64 s.1),(6,.int .i64 s.2)])
   (fun _=>[⟨1,v,false,l.map intV⟩]) (fun _ _=>[]) (0,l.length) ⟨by simp,by simp,by simp,by intro j h1 h2;simp at h1;omega⟩ ?_ ?_)
 · (repeat' (first|(simp (disch:=omega) only [push_cast,↓zz,seval])|(with_reducible first|refine And.intro ?_ ?_|(first|refine z01 ?_ ?_|refine z00 ?_ ?_)<;>intro hc<;>(try simp only [push_cast] at hc))|omega|with_reducible intro _))
 rintro ⟨lo,hi⟩ hpl
 have hle:=hpl.le
 have htop:=hpl.top
 simp only at hle htop
 rcases Nat.lt_or_ge lo hi with hlh|hlh
 · obtain ⟨s1,s2⟩:=zh1 hr hpl hlh
   have hm:(lo + hi) / 2 < l.length:=by omega
   have hw:IntKind.i64.wrap (((lo:Int) + (hi:Int)).tdiv 2)=(((lo + hi) / 2:Nat):Int):=by
     rw [Int.tdiv_eq_ediv_of_nonneg (by omega),show ((lo:Int) + hi) / 2=(((lo + hi) / 2:Nat):Int) by omega]
     exact IntWalk.i64_in _ (by omega)
   refine W_T ?_
   (repeat' (first|(simp (disch:=omega) only [push_cast,↓zz,seval,hw])|(with_reducible first|refine And.intro ?_ ?_|(first|refine z01 ?_ ?_|refine z00 ?_ ?_)<;>intro hc<;>(try simp only [push_cast] at hc))|omega|with_reducible intro _))
   all_goals rw [show (((lo:Int) + hi) / 2).toNat=(lo + hi) / 2 by omega] at hc
   · exact ⟨((lo + hi) / 2 + 1,hi),⟨by simp only;omega,rfl⟩,s1 hc,by simp only;omega⟩
   · exact ⟨(lo,(lo + hi) / 2),⟨rfl,by simp only;omega⟩,s2 hc,by simp only;omega⟩
 · have hlp:lo=p∧hi=p:=by
     have e:lo=hi:=by omega
     subst e
     rcases Nat.lt_trichotomy lo p with h|h|h
     · have:=hp.lt lo h;have:=hpl.ge lo (Nat.le_refl _) (by have:=hp.top;omega);omega
     · exact ⟨h,h⟩
     · have:=hpl.lt p h;have:=hp.ge p (Nat.le_refl _) (by omega);omega
   obtain ⟨rfl,rfl⟩:=hlp
   refine W_T ?_
   (repeat' (first|(simp (disch:=omega) only [push_cast,↓zz,seval])|(with_reducible first|refine And.intro ?_ ?_|(first|refine z01 ?_ ?_|refine z00 ?_ ?_)<;>intro hc<;>(try simp only [push_cast] at hc))|omega|with_reducible intro _))
   · exact hyes (by omega) hc
   all_goals
     have hn:=hno (by first|exact fun _=>hc|exact fun h=>absurd h (by omega))
     refine z0f (z0g (fun (s:Nat × Int)=>hi ≤ s.1∧s.1 ≤ l.length) (fun s=>s.1) (fun s=>[(0,.ref 0 (v + 1) 0 (l.length + 1)),(1,.int .i64 x),(5,.int .i64 hi),(8,.int .i64 s.1)])
       (fun s=>[⟨1,v + 1,false,(gapL l s.1 s.2).map intV⟩]) (fun _ _=>[]) (l.length,0) ⟨by simp only;omega,by simp⟩ ?_ ?_)
     · (repeat' (first|(simp (disch:=omega) only [push_cast,↓zz,seval,zr6])|(with_reducible first|refine And.intro ?_ ?_|(first|refine z01 ?_ ?_|refine z00 ?_ ?_)<;>intro hc<;>(try simp only [push_cast] at hc))|omega|with_reducible intro _))
     rintro ⟨i,y⟩ ⟨h1,h2⟩
     simp only at h1 h2
     have hgl:=zr5 (y:=y) h2
     refine W_T ?_
     rcases Nat.lt_or_ge hi i with hlt|hge
     · obtain ⟨i,rfl⟩:∃ k,i=k + 1:=⟨i - 1,by omega⟩
       have hs:=zct (y:=y) (z:=nth l i) h2
       have ha:=zxy (y:=y) (show i < l.length by omega)
       rw [zma (by omega)] at hs
       (repeat' (first|(simp (disch:=omega) only [push_cast,↓zz,seval,hgl,hs,ha,z4w])|(with_reducible first|refine And.intro ?_ ?_|(first|refine z01 ?_ ?_|refine z00 ?_ ?_)<;>intro hc<;>(try simp only [push_cast] at hc))|omega|with_reducible intro _))
       all_goals exact ⟨(i,nth l i),⟨rfl,z0m _ _⟩,⟨by simp only;omega,by simp only;omega⟩,by simp only;omega⟩
     · obtain rfl:i=hi:=by omega
       have hs:=zct (y:=y) (z:=x) h2
       (repeat' (first|(simp (disch:=omega) only [push_cast,↓zz,seval,hgl,hs])|(with_reducible first|refine And.intro ?_ ?_|(first|refine z01 ?_ ?_|refine z00 ?_ ?_)<;>intro hc<;>(try simp only [push_cast] at hc))|omega|with_reducible intro _))
       exact hn
theorem zmr (v:Nat) (l:List Int) (x:Int) (hr:z1f l) (hl:l.length ≤ 1000000000000) :
   z1d Tryz.prog 123 [.ref 0 v 0 l.length,.int .i64 x] (Abs.hl [⟨1,v,false,l.map intV⟩]) fun y H'=>∃ v',y=.ref 0 v' 0 (putI l x).length∧H'=Abs.hl [⟨1,v',false,(putI l x).map intV⟩]:=by
 obtain ⟨e1,e2⟩:=zjb l x
 refine zyv v l x hr hl (lowI l x) (z6g hr x) (fun h1 h2=>?_) (fun h=>?_)
 · rw [putI,if_pos ((zjc hr x).2 ⟨h1,h2⟩)]
   exact ⟨v,rfl,rfl⟩
 · rw [putI,if_neg (fun hx=>by obtain ⟨h1,h2⟩:=(zjc hr x).1 hx;exact h h1 h2),← e1,← e2]
   refine ⟨v + 1,?_,rfl⟩
   congr 1
   have:=(z6g hr x).top
   simp;omega
theorem zhh:∀ {a b:List Int},z1f a→z1f b→(∀ x,x ∈ a ↔ x ∈ b)→a=b
 | [],[],_,_,_=>rfl
 | [],y :: b,_,_,h=>absurd ((h y).2 (by simp)) (by simp)
 | x :: a,[],_,_,h=>absurd ((h x).1 (by simp)) (by simp)
 | x :: a,y :: b,ha,hb,h=>by
   obtain ⟨a1,a2⟩:=List.pairwise_cons.1 ha
   obtain ⟨b1,b2⟩:=List.pairwise_cons.1 hb
   have hx:=(h x).1 (by simp)
   have hy:=(h y).2 (by simp)
   have e:x=y:=by
     rcases List.mem_cons.1 hx with e|hx
     · exact e
     · rcases List.mem_cons.1 hy with e|hy
       · exact e.symm
       · have:=b1 x hx;have:=a1 y hy;omega
   subst e
   rw [zhh a2 b2 fun z=>?_]
   have hz:=h z
   simp only [List.mem_cons] at hz
   constructor
   · intro hm
     rcases hz.1 (.inr hm) with e|hm'
     · have:=a1 z hm;omega
     · exact hm'
   · intro hm
     rcases hz.2 (.inr hm) with e|hm'
     · have:=b1 z hm;omega
     · exact hm'
theorem z8g:∀ (m l:List Int),z1f l→z1f (m.foldl putI l)∧(m.foldl putI l).length ≤ l.length + m.length∧∀ v,v ∈ m.foldl putI l ↔ v ∈ l ∨ v ∈ m
 | [],l,h=>⟨h,by simp,fun v=>by simp⟩
 | x :: m,l,h=>by
   obtain ⟨i1,i2,i3⟩:=z8g m (putI l x) (z5n h x)
   have hl:(putI l x).length ≤ l.length + 1:=by
     unfold putI
     split
     · omega
     · have:=congrArg List.length (List.takeWhile_append_dropWhile (p:=fun y=>decide (y < x)) (l:=l))
       simp only [List.length_append,List.length_cons] at this ⊢
       omega
   refine ⟨i1,by simp only [List.foldl_cons,List.length_cons];omega,fun v=>?_⟩
   rw [List.foldl_cons,i3,zja,List.mem_cons]
   constructor
   · rintro ((h|h)|h)
     · exact .inr (.inl h)
     · exact .inl h
     · exact .inr (.inr h)
   · rintro (h|h|h)
     · exact .inl (.inr h)
     · exact .inl (.inl h)
     · exact .inr h
def z5u (out:List Span) (x:Int):List Span:=addS out ⟨x,x⟩
def z8v (l:List Int):List Span:=l.foldl z5u []
theorem zhi (l:List Int):∀ out:List Span,(l.foldl z5u out).length ≤ out.length + l.length:=by
 induction l with
 | nil=>intro out;simp
 | cons x l ih =>
   intro out
   have:=ih (z5u out x)
   have h2:=y2f out ⟨x,x⟩
   simp only [List.foldl_cons,List.length_cons,z5u] at *
   omega
theorem zp2 (l:List Int) (hl:l.length ≤ 1000000000) (hb:∀ x ∈ l,-1099511627776 ≤ x∧x ≤ 1099511627776):PC Tryz.prog 125 [z4p l] (z03 (z8v l)):=by
 have hP:z0p (l.map (AV.int .i64))=true:=z4k .i64 l
 refine z0s ziv ?_
 unfold za7
 (repeat' (first|(simp (disch:=omega) only [push_cast,↓zz,seval])|(with_reducible first|refine And.intro ?_ ?_|(first|refine z01 ?_ ?_|refine z00 ?_ ?_)<;>intro hc<;>(try simp only [push_cast] at hc))|omega|with_reducible intro _))
 refine z0f (z0g (fun (k:Nat)=>k ≤ l.length) (fun k=>l.length - k)
   (fun k=>[(0,z4p l),(3,.ref 0 1 0 ((l.take k).foldl z5u []).length),(4,.int .i64 k)]) (fun k=>[⟨2,1,false,((l.take k).foldl z5u []).map z1g⟩]) (fun env _=>[z0k 2 (env 3)]) 0 (by simp) ?_ ?_)
 · (repeat' (first|(simp (disch:=omega) only [push_cast,↓zz,seval,hP,List.foldl_nil,List.length_nil])|(with_reducible first|refine And.intro ?_ ?_|(first|refine z01 ?_ ?_|refine z00 ?_ ?_)<;>intro hc<;>(try simp only [push_cast] at hc))|omega|with_reducible intro _))
 intro k hk
 have hlen:=zhi (l.take k) []
 simp only [List.length_nil,List.length_take] at hlen
 rcases Nat.lt_or_ge k l.length with hkl|hkl
 · have hxb:=hb _ (z0i hkl)
   have hst:(l.take (k + 1)).foldl z5u []=addS ((l.take k).foldl z5u []) ⟨nth l k,nth l k⟩:=by rw [take_at hkl,List.foldl_append];rfl
   generalize hxe:nth l k=x at *
   generalize hoe:(l.take k).foldl z5u []=out at *
   have hwn:IntKind.i64.wrap (x - 1)=x - 1:=IntWalk.i64_in _ (by omega)
   rcases z3k out with rfl|⟨mm,z,hout⟩
   · rw [z5c] at hst
     refine W_T ?_
     (repeat' (first|(simp (disch:=omega) only [push_cast,↓zz,seval,hP,hxe,hwn])|(with_reducible first|refine And.intro ?_ ?_|(first|refine z01 ?_ ?_|refine z00 ?_ ?_)<;>intro hc<;>(try simp only [push_cast] at hc))|omega|with_reducible intro _))
     all_goals
       refine ⟨k + 1,?_⟩
       (repeat' (first|(simp (disch:=omega) only [push_cast,↓zz,seval,hst])|(with_reducible first|refine And.intro ?_ ?_|(first|refine z01 ?_ ?_|refine z00 ?_ ?_)<;>intro hc<;>(try simp only [push_cast] at hc))|omega|with_reducible intro _))
   · have l1:out.length=mm.length + 1:=by rw [hout];simp
     have l2:nth out mm.length=z:=by rw [hout];exact zje
     have l3:IntKind.i64.wrap (mm.length:Int)=mm.length:=IntWalk.i64_in _ (by omega)
     have l4:(out.map z1g).set mm.length (.agg [.int .i64 z.lo,.int .i64 x])=(mm ++ [(⟨z.lo,x⟩:Span)]).map z1g:=by rw [hout];exact z7n (f:=z1g) (z:=⟨z.lo,x⟩)
     have hadd:addS out ⟨x,x⟩=if z.hi=x - 1 then mm ++ [⟨z.lo,x⟩] else out ++ [⟨x,x⟩]:=by rw [hout,z6h]
     rw [hadd] at hst
     clear hadd hout
     refine W_T ?_
     (repeat' (first|(simp (disch:=omega) only [push_cast,↓zz,seval,hP,hxe,hwn,l1,l2,l3,l4])|(with_reducible first|refine And.intro ?_ ?_|(first|refine z01 ?_ ?_|refine z00 ?_ ?_)<;>intro hc<;>(try simp only [push_cast] at hc))|omega|with_reducible intro _))
     · rw [if_pos (by assumption)] at hst
       refine ⟨k + 1,?_⟩
       (repeat' (first|(simp (disch:=omega) only [push_cast,↓zz,seval,hst])|(with_reducible first|refine And.intro ?_ ?_|(first|refine z01 ?_ ?_|refine z00 ?_ ?_)<;>intro hc<;>(try simp only [push_cast] at hc))|omega|with_reducible intro _))
     · rw [if_neg (by assumption)] at hst
       refine ⟨k + 1,?_⟩
       (repeat' (first|(simp (disch:=omega) only [push_cast,↓zz,seval,hst,l1])|(with_reducible first|refine And.intro ?_ ?_|(first|refine z01 ?_ ?_|refine z00 ?_ ?_)<;>intro hc<;>(try simp only [push_cast] at hc))|omega|with_reducible intro _))
 · have et:l.take k=l:=List.take_of_length_le hkl
   have hke:k=l.length:=by omega
   rw [et] at hlen ⊢
   have hsl:l.foldl z5u []=z8v l:=rfl
   rw [hsl] at hlen ⊢
   have hpp:=z2b (z8v l)
   refine W_T ?_
   (repeat' (first|(simp (disch:=omega) only [push_cast,↓zz,seval,hP,hke,hpp])|(with_reducible first|refine And.intro ?_ ?_|(first|refine z01 ?_ ?_|refine z00 ?_ ?_)<;>intro hc<;>(try simp only [push_cast] at hc))|omega|with_reducible intro _))
   all_goals trace_state
def prs (a b:List Int):List Int:=a.flatMap fun x=>b.map (x + ·)
def bigB (v:Int):Bool:=decide (1114111 < v)
def zfa (a b:List Int):Option (List Int):=if (prs a b).any bigB then none else some ((prs a b).foldl putI [])
abbrev optL (o:Option (List Int)):AV:=.tup [z4p (o.getD []),.bool o.isSome]
theorem zfb {a b:List Int} {v:Int}:v ∈ prs a b ↔ ∃ x ∈ a,∃ y ∈ b,x + y=v:=by simp [prs]
theorem zrp {a b:List Int} {k:Nat} (h:k < a.length):prs (a.take (k + 1)) b=prs (a.take k) b ++ b.map (nth a k + ·):=by rw [prs,take_at h];simp [prs]
theorem y8g (a b:List Int):(prs a b).length=a.length * b.length:=by
 induction a with
 | nil=>simp [prs]
 | cons x a ih =>
   have:prs (x :: a) b=b.map (x + ·) ++ prs a b:=rfl
   rw [this,List.length_append,List.length_map,ih,List.length_cons,Nat.add_mul]
   omega
theorem zrq {a b:List Int} {i k:Nat} (hi:i < a.length) (hk:k < b.length) (h:1114111 < nth a i + nth b k):zfa a b=none:=by
 rw [zfa,if_pos]
 rw [List.any_eq_true]
 exact ⟨_,zfb.2 ⟨_,z0i hi,_,z0i hk,rfl⟩,by simpa [bigB] using h⟩
theorem zrr {a b:List Int} (h:∀ v ∈ prs a b,v ≤ 1114111):zfa a b=some ((prs a b).foldl putI []):=by
 rw [zfa,if_neg]
 simp only [List.any_eq_true,not_exists,not_and,bigB,decide_eq_true_eq]
 intro v hv
 have:=h v hv
 omega
def z4s (m:List Int) (k:Nat):List Int:=((List.range k).filter fun (t:Nat)=>decide ((t:Int) - 1114111 ∈ m)).map fun (t:Nat)=>(t:Int) - 1114111
theorem zp3 (m:List Int) (k:Nat):z4s m (k + 1)=if (k:Int) - 1114111 ∈ m then z4s m k ++ [(k:Int) - 1114111] else z4s m k:=by
 rw [z4s,List.range_succ,List.filter_append,List.map_append]
 split
 · rename_i h;simp [z4s,h]
 · rename_i h;simp [z4s,h]
theorem zud (m:List Int) (k:Nat):(z4s m k).length ≤ k:=by
 have:=List.length_filter_le (fun t:Nat=>decide ((t:Int) - 1114111 ∈ m)) (List.range k)
 simpa [z4s] using this
theorem zue {m:List Int} {k:Nat} {v:Int}:v ∈ z4s m k ↔ (-1114111 ≤ v∧v < (k:Int) - 1114111)∧v ∈ m:=by
 simp only [z4s,List.mem_map,List.mem_filter,List.mem_range,decide_eq_true_eq]
 constructor
 · rintro ⟨t,⟨h1,h2⟩,rfl⟩
   exact ⟨by omega,h2⟩
 · rintro ⟨h1,h2⟩
   exact ⟨(v + 1114111).toNat,⟨by omega,by rw [show (((v + 1114111).toNat:Nat):Int) - 1114111=v by omega];exact h2⟩,by omega⟩
theorem zjr (m:List Int) (k:Nat):z1f (z4s m k):=by
 rw [z1f,z4s,List.pairwise_map]
 exact ((List.pairwise_lt_range).filter _).imp fun h=>by omega
theorem zuf (a b:List Int) (hla:a.length ≤ 3000000) (hlb:b.length ≤ 3000000) (ha:∀ x ∈ a,-1114111 ≤ x∧x ≤ 1099511627776) (hb:∀ x ∈ b,0 ≤ x∧x ≤ 1099511627776) :
   PC Tryz.prog 124 [z4p a,z4p b] (optL (zfa a b)):=by
 have pa:z0p (a.map (AV.int .i64))=true:=z4k .i64 a
 have pb:z0p (b.map (AV.int .i64))=true:=z4k .i64 b
 have hmul:((a.length * b.length:Nat):Int)=(a.length:Int) * b.length:=by push_cast
 have hml:a.length * b.length ≤ 3000000 * 3000000:=Nat.mul_le_mul hla hlb
 have hw:IntKind.i64.wrap ((a.length:Int) * b.length)=(a.length:Int) * b.length:=IntWalk.i64_in _ (by omega)
 refine z0s zlv ?_
 unfold zc9
 generalize hN:(2228223:Int)=N
 (repeat' (first|(simp (disch:=omega) only [push_cast,↓zz,seval,hw])|(with_reducible first|refine And.intro ?_ ?_|(first|refine z01 ?_ ?_|refine z00 ?_ ?_)<;>intro hc<;>(try simp only [push_cast] at hc))|omega|with_reducible intro _))
 · have h4:a.length * b.length ≤ 4000:=by
     rw [← hmul] at hc
     omega
   refine z0f (z0g (fun (s:Nat × List Int)=>s.1 ≤ a.length∧s.2=(prs (a.take s.1) b).foldl putI []∧∀ v ∈ prs (a.take s.1) b,v ≤ 1114111) (fun s=>a.length - s.1)
     (fun s=>[(0,z4p a),(1,z4p b),(6,.ref 0 1 0 s.2.length),(7,.int .i64 s.1)]) (fun s=>[⟨1,1,false,s.2.map (AV.int .i64)⟩]) (fun env _=>[z0k 1 (env 6)]) (0,[]) ⟨by simp,rfl,by simp [prs]⟩ ?_ ?_)
   · (repeat' (first|(simp (disch:=omega) only [push_cast,↓zz,seval,pa,pb])|(with_reducible first|refine And.intro ?_ ?_|(first|refine z01 ?_ ?_|refine z00 ?_ ?_)<;>intro hc<;>(try simp only [push_cast] at hc))|omega|with_reducible intro _))
   rintro ⟨i,out⟩ ⟨i1,i2,i3⟩
   simp only at i1 i2 i3
   rcases Nat.lt_or_ge i a.length with hi|hi
   · have hx:=ha _ (z0i hi)
     have hsn:=zrp (b:=b) hi
     refine W_T ?_
     (repeat' (first|(simp (disch:=omega) only [push_cast,↓zz,seval,pa,pb])|(with_reducible first|refine And.intro ?_ ?_|(first|refine z01 ?_ ?_|refine z00 ?_ ?_)<;>intro hc<;>(try simp only [push_cast] at hc))|omega|with_reducible intro _))
     refine z0f (z0g (fun (s:Nat × List Int)=>s.1 ≤ b.length∧s.2=(prs (a.take i) b ++ (b.take s.1).map (nth a i + ·)).foldl putI []∧∀ v ∈ prs (a.take i) b ++ (b.take s.1).map (nth a i + ·),v ≤ 1114111) (fun s=>b.length - s.1)
       (fun s=>[(0,z4p a),(1,z4p b),(6,.ref 0 1 0 s.2.length),(7,.int .i64 i),(8,.int .i64 s.1)]) (fun s=>[⟨1,1,false,s.2.map (AV.int .i64)⟩]) (fun env _=>[z0k 1 (env 6)]) (0,out) ⟨by simp,by simpa using i2,by simpa using i3⟩ ?_ ?_)
     · (repeat' (first|(simp (disch:=omega) only [push_cast,↓zz,seval,pa,pb])|(with_reducible first|refine And.intro ?_ ?_|(first|refine z01 ?_ ?_|refine z00 ?_ ?_)<;>intro hc<;>(try simp only [push_cast] at hc))|omega|with_reducible intro _))
     rintro ⟨k,o⟩ ⟨k1,k2,k3⟩
     simp only at k1 k2 k3
     rcases Nat.lt_or_ge k b.length with hk|hk
     · have hy:=hb _ (z0i hk)
       have hno:=fun h=>zrq hi hk h
       have hst:(b.take (k + 1)).map (nth a i + ·)=(b.take k).map (nth a i + ·) ++ [nth a i + nth b k]:=by rw [take_at hk];simp
       obtain ⟨f1,f2,_⟩:=z8g (prs (a.take i) b ++ (b.take k).map (nth a i + ·)) [] (by simp [z1f])
       rw [← k2] at f1 f2
       have hol:o.length ≤ 10000000000:=by
         have h1:=y8g (a.take i) b
         have h2:(a.take i).length * b.length ≤ a.length * b.length:=Nat.mul_le_mul_right _ (by simp;omega)
         simp only [List.length_append,List.length_map,List.length_nil,List.length_take] at f2 h1 h2
         omega
       generalize hxe:nth a i=x at *
       generalize hye:nth b k=y at *
       have hws:IntKind.i64.wrap (x + y)=x + y:=IntWalk.i64_in _ (by omega)
       refine W_T ?_
       (repeat' (first|(simp (disch:=omega) only [push_cast,↓zz,seval,pa,pb,hxe,hye,hws])|(with_reducible first|refine And.intro ?_ ?_|(first|refine z01 ?_ ?_|refine z00 ?_ ?_)<;>intro hc<;>(try simp only [push_cast] at hc))|omega|with_reducible intro _))
       · rw [hno (by assumption)]
         (repeat' (first|(simp (disch:=omega) only [push_cast,↓zz,seval,z1i])|omega|(with_reducible refine And.intro ?_ ?_)))
       · (refine znn [0] (zmr 1 o (x + y) f1 (by omega)) (by decide) (by simp) (by (simp (disch:=omega) only [push_cast,↓zz,seval])) (by (simp (disch:=omega) only [push_cast,↓zz,seval])) (by (simp (disch:=omega) only [push_cast,↓zz,seval])) (by (simp (disch:=omega) only [push_cast,↓zz,seval,List.mem_cons,List.not_mem_nil,or_false,forall_eq_or_imp,forall_eq,List.forall_mem_nil])) ?_)
         rintro y' H' ⟨v',rfl,rfl⟩
         refine ⟨_,rfl,by simp,?_⟩
         (repeat' (first|(simp (disch:=omega) only [push_cast,↓zz,seval])|(with_reducible first|refine And.intro ?_ ?_|(first|refine z01 ?_ ?_|refine z00 ?_ ?_)<;>intro hc<;>(try simp only [push_cast] at hc))|omega|with_reducible intro _))
         have hm:prs (a.take i) b ++ ((b.take k).map (x + ·) ++ [x + y])=(prs (a.take i) b ++ (b.take k).map (x + ·)) ++ [x + y]:=by rw [List.append_assoc]
         refine ⟨(k + 1,putI o (x + y)),⟨⟨rfl,by push_cast⟩,z0m _ _⟩,⟨by simp only;omega,?_,?_⟩,by simp only;omega⟩
         · rw [hst,hm,List.foldl_append,← k2];rfl
         · rw [hst,hm]
           intro v hv
           rcases List.mem_append.1 hv with hv|hv
           · exact k3 v hv
           · simp only [List.mem_singleton] at hv;omega
     · have hkb:b.take k=b:=List.take_of_length_le hk
       rw [hkb,← hsn] at k2 k3
       refine W_T ?_
       (repeat' (first|(simp (disch:=omega) only [push_cast,↓zz,seval,pa,pb])|(with_reducible first|refine And.intro ?_ ?_|(first|refine z01 ?_ ?_|refine z00 ?_ ?_)<;>intro hc<;>(try simp only [push_cast] at hc))|omega|with_reducible intro _))
       all_goals exact ⟨(i + 1,o),⟨⟨rfl,by push_cast⟩,z0m _ _⟩,⟨by simp only;omega,k2,k3⟩,by simp only;omega⟩
   · have hia:a.take i=a:=List.take_of_length_le hi
     rw [hia] at i2 i3
     have hres:=zrr i3
     rw [← i2] at hres
     rw [hres]
     refine W_T ?_
     (repeat' (first|(simp (disch:=omega) only [push_cast,↓zz,seval,pa,pb])|(with_reducible first|refine And.intro ?_ ?_|(first|refine z01 ?_ ?_|refine z00 ?_ ?_)<;>intro hc<;>(try simp only [push_cast] at hc))|omega|with_reducible intro _))
     all_goals (simp only [optL,Option.getD_some,Option.isSome_some];(repeat' (first|(simp (disch:=omega) only [push_cast,↓zz,seval,z1i])|omega|(with_reducible refine And.intro ?_ ?_))))
 · obtain ⟨n,hn⟩:∃ n:Nat,N=n:=⟨N.toNat,by omega⟩
   subst hn
   have pB:∀ f,z0p (famB n f)=true:=fun f=>z2w.2 fun x hx=>by
     obtain ⟨i,_,rfl⟩:=List.mem_map.1 hx
     rfl
   have lB:∀ f,(famB n f).length=n:=fun f=>by simp [famB]
   have aB:∀ f i,i < n→(famB n f).getD i .any=.bool (f i):=fun f i hi=>z37 hi
   have rB:=zro n
   refine z0f (z0g (fun (i:Nat)=>i ≤ a.length∧∀ v ∈ prs (a.take i) b,v ≤ 1114111) (fun i=>a.length - i)
     (fun i=>[(0,z4p a),(1,z4p b),(9,.ref 0 1 0 n),(10,.int .i64 i)]) (fun i=>[⟨1,1,true,famB n fun t=>decide ((t:Int) - 1114111 ∈ prs (a.take i) b)⟩]) (fun env _=>[z0k 1 (env 9)]) 0 ⟨by simp,by simp [prs]⟩ ?_ ?_)
   · have e0:(famB n fun t=>decide ((t:Int) - 1114111 ∈ prs [] b))=famB n fun _=>false:=z5e fun t _=>by simp [prs]
     (repeat' (first|(simp (disch:=omega) only [push_cast,↓zz,seval,pa,pb,rB,pB,lB,e0,Int.toNat_natCast])|(with_reducible first|refine And.intro ?_ ?_|(first|refine z01 ?_ ?_|refine z00 ?_ ?_)<;>intro hc<;>(try simp only [push_cast] at hc))|omega|with_reducible intro _))
     all_goals
       show leSL _ (famB n fun _=>false) (famB n fun t=>decide ((t:Int) - 1114111 ∈ prs [] b))
       rw [e0]
       exact z0m _ _
   rintro i ⟨i1,i3⟩
   rcases Nat.lt_or_ge i a.length with hi|hi
   · have hx:=ha _ (z0i hi)
     have hsn:=zrp (b:=b) hi
     refine W_T ?_
     (repeat' (first|(simp (disch:=omega) only [push_cast,↓zz,seval,pa,pb,pB,lB])|(with_reducible first|refine And.intro ?_ ?_|(first|refine z01 ?_ ?_|refine z00 ?_ ?_)<;>intro hc<;>(try simp only [push_cast] at hc))|omega|with_reducible intro _))
     refine z0f (z0g (fun (k:Nat)=>k ≤ b.length∧∀ v ∈ prs (a.take i) b ++ (b.take k).map (nth a i + ·),v ≤ 1114111) (fun k=>b.length - k)
       (fun k=>[(0,z4p a),(1,z4p b),(9,.ref 0 1 0 n),(10,.int .i64 i),(11,.int .i64 k)]) (fun k=>[⟨1,1,true,famB n fun t=>decide ((t:Int) - 1114111 ∈ prs (a.take i) b ++ (b.take k).map (nth a i + ·))⟩]) (fun env _=>[z0k 1 (env 9)]) 0 ⟨by simp,by simpa using i3⟩ ?_ ?_)
     · have e0:(famB n fun t=>decide ((t:Int) - 1114111 ∈ prs (a.take i) b ++ []))=famB n fun t=>decide ((t:Int) - 1114111 ∈ prs (a.take i) b):=by rw [List.append_nil]
       (repeat' (first|(simp (disch:=omega) only [push_cast,↓zz,seval,pa,pb,pB,lB,e0,List.take_zero,List.map_nil])|(with_reducible first|refine And.intro ?_ ?_|(first|refine z01 ?_ ?_|refine z00 ?_ ?_)<;>intro hc<;>(try simp only [push_cast] at hc))|omega|with_reducible intro _))
     rintro k ⟨k1,k3⟩
     rcases Nat.lt_or_ge k b.length with hk|hk
     · have hy:=hb _ (z0i hk)
       have hno:=fun h=>zrq hi hk h
       have hst:(b.take (k + 1)).map (nth a i + ·)=(b.take k).map (nth a i + ·) ++ [nth a i + nth b k]:=by rw [take_at hk];simp
       generalize hxe:nth a i=x at *
       generalize hye:nth b k=y at *
       have hws:IntKind.i64.wrap (x + y)=x + y:=IntWalk.i64_in _ (by omega)
       have hws2:IntKind.i64.wrap (x + y + 1114111)=x + y + 1114111:=IntWalk.i64_in _ (by omega)
       by_cases hbg:1114111 < x + y
       · rw [hno hbg]
         refine W_T ?_
         (repeat' (first|(simp (disch:=omega) only [push_cast,↓zz,seval,pa,pb,pB,lB,hxe,hye,hws])|(with_reducible first|refine And.intro ?_ ?_|(first|refine z01 ?_ ?_|refine z00 ?_ ?_)<;>intro hc<;>(try simp only [push_cast] at hc))|omega|with_reducible intro _))
         all_goals (repeat' (first|(simp (disch:=omega) only [push_cast,↓zz,seval,z1i])|omega|(with_reducible refine And.intro ?_ ?_)))
       · obtain ⟨t,ht⟩:∃ t:Nat,x + y + 1114111=t:=⟨(x + y + 1114111).toNat,by omega⟩
         have htn:t < n:=by omega
         have hset:=zjq (f:=fun t=>decide ((t:Int) - 1114111 ∈ prs (a.take i) b ++ (b.take k).map (x + ·))) (x:=true) htn
         have he:(famB n fun j=>if j=t then true else decide ((j:Int) - 1114111 ∈ prs (a.take i) b ++ (b.take k).map (x + ·)))=famB n fun j=>decide ((j:Int) - 1114111 ∈ prs (a.take i) b ++ (b.take (k + 1)).map (x + ·)):=z5e fun j _=>by
           rw [hst,← List.append_assoc]
           by_cases h:j=t
           · subst h
             rw [if_pos rfl,eq_comm,decide_eq_true_eq,List.mem_append]
             exact .inr (by simp;omega)
           · rw [if_neg h,decide_eq_decide,List.mem_append (s:=prs (a.take i) b ++ (b.take k).map (x + ·))]
             simp only [List.mem_singleton]
             exact ⟨.inl,fun hh=>hh.elim id fun hh=>absurd hh (by omega)⟩
         rw [he] at hset
         refine W_T ?_
         (repeat' (first|(simp (disch:=omega) only [push_cast,↓zz,seval,pa,pb,pB,lB,hxe,hye,hws,hws2,ht,hset])|(with_reducible first|refine And.intro ?_ ?_|(first|refine z01 ?_ ?_|refine z00 ?_ ?_)<;>intro hc<;>(try simp only [push_cast] at hc))|omega|with_reducible intro _))
         all_goals
           refine ⟨k + 1,?_⟩
           (repeat' (first|(simp (disch:=omega) only [push_cast,↓zz,seval])|(with_reducible first|refine And.intro ?_ ?_|(first|refine z01 ?_ ?_|refine z00 ?_ ?_)<;>intro hc<;>(try simp only [push_cast] at hc))|omega|with_reducible intro _))
         all_goals
           rename_i v hv
           rw [hst,← List.append_assoc] at hv
           rcases List.mem_append.1 hv with hv|hv
           · exact k3 v hv
           · simp only [List.mem_singleton] at hv;omega
     · have hkb:b.take k=b:=List.take_of_length_le hk
       rw [hkb,← hsn] at k3
       rw [hkb,← hsn]
       refine W_T ?_
       (repeat' (first|(simp (disch:=omega) only [push_cast,↓zz,seval,pa,pb,pB,lB])|(with_reducible first|refine And.intro ?_ ?_|(first|refine z01 ?_ ?_|refine z00 ?_ ?_)<;>intro hc<;>(try simp only [push_cast] at hc))|omega|with_reducible intro _))
       all_goals
         refine ⟨i + 1,?_⟩
         (repeat' (first|(simp (disch:=omega) only [push_cast,↓zz,seval])|(with_reducible first|refine And.intro ?_ ?_|(first|refine z01 ?_ ?_|refine z00 ?_ ?_)<;>intro hc<;>(try simp only [push_cast] at hc))|omega|with_reducible intro _))
       all_goals exact k3
   · have hia:a.take i=a:=List.take_of_length_le hi
     rw [hia] at i3
     have hres:=zrr i3
     have hmem:∀ v,v ∈ prs a b→-1114111 ≤ v∧v ≤ 1114111:=fun v hv=>by
       obtain ⟨x,hx,y,hy,rfl⟩:=zfb.1 hv
       have h1:=ha x hx
       have h2:=hb y hy
       have h3:=i3 _ hv
       omega
     rw [hia]
     refine W_T ?_
     (repeat' (first|(simp (disch:=omega) only [push_cast,↓zz,seval,pa,pb,pB,lB])|(with_reducible first|refine And.intro ?_ ?_|(first|refine z01 ?_ ?_|refine z00 ?_ ?_)<;>intro hc<;>(try simp only [push_cast] at hc))|omega|with_reducible intro _))
     have lG:∀ k,k ≤ n→(z4s (prs a b) k).length ≤ k:=fun k _=>zud _ k
     refine z0f (z0g (fun (k:Nat)=>k ≤ n) (fun k=>n - k)
       (fun k=>[(9,.ref 0 1 0 n),(12,.ref 1 1 0 (z4s (prs a b) k).length),(13,.int .i64 k)]) (fun k=>[⟨1,1,true,famB n fun t=>decide ((t:Int) - 1114111 ∈ prs a b)⟩,⟨1,1,false,(z4s (prs a b) k).map (AV.int .i64)⟩]) (fun env _=>[z0k 1 (env 9),z0k 1 (env 12)]) 0 (by simp) ?_ ?_)
     · have e0:z4s (prs a b) 0=[]:=rfl
       (repeat' (first|(simp (disch:=omega) only [push_cast,↓zz,seval,pB,lB,e0])|(with_reducible first|refine And.intro ?_ ?_|(first|refine z01 ?_ ?_|refine z00 ?_ ?_)<;>intro hc<;>(try simp only [push_cast] at hc))|omega|with_reducible intro _))
     intro k hk
     have hlk:=lG k hk
     rcases Nat.lt_or_ge k n with hkn|hkn
     · have aK:=aB (fun t=>decide ((t:Int) - 1114111 ∈ prs a b)) k hkn
       have hst:=zp3 (prs a b) k
       have hwk:IntKind.i64.wrap ((k:Int) - 1114111)=(k:Int) - 1114111:=IntWalk.i64_in _ (by omega)
       by_cases hm:(k:Int) - 1114111 ∈ prs a b
       · rw [if_pos hm] at hst
         rw [decide_eq_true hm] at aK
         refine W_T ?_
         (repeat' (first|(simp (disch:=omega) only [push_cast,↓zz,seval,pB,lB,aK,hwk])|(with_reducible first|refine And.intro ?_ ?_|(first|refine z01 ?_ ?_|refine z00 ?_ ?_)<;>intro hc<;>(try simp only [push_cast] at hc))|omega|with_reducible intro _))
         all_goals
           refine ⟨k + 1,?_⟩
           (repeat' (first|(simp (disch:=omega) only [push_cast,↓zz,seval,hst])|(with_reducible first|refine And.intro ?_ ?_|(first|refine z01 ?_ ?_|refine z00 ?_ ?_)<;>intro hc<;>(try simp only [push_cast] at hc))|omega|with_reducible intro _))
       · rw [if_neg hm] at hst
         rw [decide_eq_false hm] at aK
         refine W_T ?_
         (repeat' (first|(simp (disch:=omega) only [push_cast,↓zz,seval,pB,lB,aK,hwk])|(with_reducible first|refine And.intro ?_ ?_|(first|refine z01 ?_ ?_|refine z00 ?_ ?_)<;>intro hc<;>(try simp only [push_cast] at hc))|omega|with_reducible intro _))
         all_goals
           refine ⟨k + 1,?_⟩
           (repeat' (first|(simp (disch:=omega) only [push_cast,↓zz,seval,hst])|(with_reducible first|refine And.intro ?_ ?_|(first|refine z01 ?_ ?_|refine z00 ?_ ?_)<;>intro hc<;>(try simp only [push_cast] at hc))|omega|with_reducible intro _))
     · have hke:k=n:=by omega
       subst hke
       have heq:z4s (prs a b) k=(prs a b).foldl putI []:=by
         obtain ⟨f1,_,f3⟩:=z8g (prs a b) [] (by simp [z1f])
         refine zhh (zjr _ _) f1 fun v=>?_
         rw [zue,f3]
         simp only [List.not_mem_nil,false_or]
         constructor
         · exact fun h=>h.2
         · intro h
           have:=hmem v h
           exact ⟨by omega,h⟩
       have hpo:z0p ((z4s (prs a b) k).map (AV.int .i64))=true:=z4k .i64 _
       rw [heq] at hpo hlk ⊢
       rw [hres]
       refine W_T ?_
       (repeat' (first|(simp (disch:=omega) only [push_cast,↓zz,seval,pB,lB,hpo])|(with_reducible first|refine And.intro ?_ ?_|(first|refine z01 ?_ ?_|refine z00 ?_ ?_)<;>intro hc<;>(try simp only [push_cast] at hc))|omega|with_reducible intro _))
       all_goals (simp only [optL,Option.getD_some,Option.isSome_some];(repeat' (first|(simp (disch:=omega) only [push_cast,↓zz,seval,z1i])|omega|(with_reducible refine And.intro ?_ ?_))))
theorem zci (s:Int):PC Tryz.prog 81 [.int .i64 s] (z03 (domL s)):=by
 refine z0s zfs ?_
 unfold z8r
 (repeat' (first|(simp (disch:=omega) only [push_cast,↓zz,seval])|(with_reducible first|refine And.intro ?_ ?_|(first|refine z01 ?_ ?_|refine z00 ?_ ?_)<;>intro hc<;>(try simp only [push_cast] at hc))|omega|with_reducible intro _))
 all_goals (simp only [domL, *];rfl)
theorem zug (l:List Span) (d:Int) (hl:l.length ≤ 10000000000):PC Tryz.prog 121 [z03 l,.int .i64 d] (z03 (z3m l d)):=by
 have hN:=z8a l hl
 have hz:(d < -2147483648 ∨ 2147483648 < d)→z3m l d=[]:=fun h=>by rw [z3m,if_pos h]
 refine z0s zlu ?_
 unfold zc8
 by_cases hb:d < -2147483648 ∨ 2147483648 < d
 · rw [hz hb]
   (repeat' (first|(simp (disch:=omega) only [push_cast,↓zz,seval])|(with_reducible first|refine And.intro ?_ ?_|(first|refine z01 ?_ ?_|refine z00 ?_ ?_)<;>intro hc<;>(try simp only [push_cast] at hc))|omega|with_reducible intro _))
   all_goals first
     | (exfalso;omega)
     | ((repeat' (first|(simp (disch:=omega) only [push_cast,↓zz,seval,z1i])|omega|(with_reducible refine And.intro ?_ ?_)));done)
 have hbd:=z2z l
 have hmv:z3m l d=z0d ((z0d l).map (z3p d)):=by rw [z3m,if_neg hb]
 have hnl:(z0d l).length ≤ 10000000000:=Nat.le_trans (z3b l) hl
 have hM:=z8a ((z0d l).map (z3p d)) (by simpa using hnl)
 rw [hmv]
 generalize z0d l=m at *
 obtain ⟨g,g0,gs,ge,gl⟩:=z4n ([]:List Span) m (z3p d)
 (repeat' (first|(simp (disch:=omega) only [push_cast,↓zz,seval])|(with_reducible first|refine And.intro ?_ ?_|(first|refine z01 ?_ ?_|refine z00 ?_ ?_)<;>intro hc<;>(try simp only [push_cast] at hc))|((with_reducible first|refine eK hN ?_|refine eQ hN ?_|refine eG hN ?_))|((with_reducible first|refine cK hN ?_|refine cQ hN ?_|refine cG hN ?_);(simp (disch:=omega) only [push_cast,↓zz,seval]);(fail_if_success (with_reducible change False)))|omega|with_reducible intro _))
 refine z0f (z0g (fun (k:Nat)=>k ≤ m.length) (fun k=>m.length - k) (fun k=>[(1,.int .i64 d),(5,z03 m),(6,.ref 0 1 0 (g k).length),(7,.int .i64 k)]) (fun k=>[⟨2,1,false,(g k).map z1g⟩]) (fun env _=>[z0k 2 (env 6)]) 0 (by simp) ?_ ?_)
 · (repeat' (first|(simp (disch:=omega) only [push_cast,↓zz,seval,g0])|(with_reducible first|refine And.intro ?_ ?_|(first|refine z01 ?_ ?_|refine z00 ?_ ?_)<;>intro hc<;>(try simp only [push_cast] at hc))|omega|with_reducible intro _))
 intro k hk
 have gk:=gl k
 simp only [List.length_nil] at gk
 have hgp:=z2b (g k)
 have hpm:=z2b m
 rcases Nat.lt_or_ge k m.length with hkm|hkm
 · have hx:=hbd _ (z0i hkm)
   have e1:=gs k hkm
   generalize hxe:nth m k=x at *
   have w1:IntKind.i64.wrap (x.lo + d)=x.lo + d:=IntWalk.i64_in _ (by omega)
   have w2:IntKind.i64.wrap (x.hi + d)=x.hi + d:=IntWalk.i64_in _ (by omega)
   refine W_T ?_
   (repeat' (first|(simp (disch:=omega) only [push_cast,↓zz,seval,hpm,hxe,w1,w2])|(with_reducible first|refine And.intro ?_ ?_|(first|refine z01 ?_ ?_|refine z00 ?_ ?_)<;>intro hc<;>(try simp only [push_cast] at hc))|omega|with_reducible intro _))
   all_goals
     refine ⟨k + 1,?_⟩
     (repeat' (first|(simp (disch:=omega) only [push_cast,↓zz,seval,e1,z3p])|(with_reducible first|refine And.intro ?_ ?_|(first|refine z01 ?_ ?_|refine z00 ?_ ?_)<;>intro hc<;>(try simp only [push_cast] at hc))|omega|with_reducible intro _))
 · obtain rfl:k=m.length:=by omega
   have hge:g m.length=m.map (z3p d):=by rw [ge];simp
   rw [hge] at *
   have et:List.take m.length (m.map (z3p d))=m.map (z3p d):=List.take_of_length_le (by simp)
   refine W_T ?_
   (repeat' (first|(simp (disch:=omega) only [push_cast,↓zz,seval,hpm,hgp,et])|(with_reducible first|refine And.intro ?_ ?_|(first|refine z01 ?_ ?_|refine z00 ?_ ?_)<;>intro hc<;>(try simp only [push_cast] at hc))|((with_reducible first|refine eK hM ?_|refine eQ hM ?_|refine eG hM ?_))|((with_reducible first|refine cK hM ?_|refine cQ hM ?_|refine cG hM ?_);(simp (disch:=omega) only [push_cast,↓zz,seval,hpm,hgp,et]);(fail_if_success (with_reducible change False)))|omega|with_reducible intro _))
def inG (g:List Span) (k:Nat):List Int:=((List.range k).filter fun (x:Nat)=>hasI g (x:Int)).map fun (x:Nat)=>(x:Int)
theorem zrs (g:List Span) (k:Nat):inG g (k + 1)=if hasI g (k:Int) then inG g k ++ [(k:Int)] else inG g k:=by
 rw [inG,List.range_succ,List.filter_append,List.map_append]
 split
 · rename_i h;simp [inG,h]
 · rename_i h;simp [inG,h]
theorem y8h (g:List Span) (k:Nat):(inG g k).length ≤ k:=by
 have:=List.length_filter_le (fun (x:Nat)=>hasI g (x:Int)) (List.range k)
 simpa [inG] using this
theorem zyw {g:List Span} {k:Nat} {v:Int}:v ∈ inG g k ↔ (0 ≤ v∧v < k)∧hasI g v=true:=by
 simp only [inG,List.mem_map,List.mem_filter,List.mem_range]
 constructor
 · rintro ⟨t,⟨h1,h2⟩,rfl⟩
   exact ⟨by omega,h2⟩
 · rintro ⟨h1,h2⟩
   exact ⟨v.toNat,⟨by omega,by rw [show ((v.toNat:Nat):Int)=v by omega];exact h2⟩,by omega⟩
def ownL (ps:List Part) (a:Int) (g:List Span) (k:Nat):List Int:=((inG g k).map (totV (atL ps a))).foldl putI []
def z8o (ps:List Part) (a:Int) (g:List Span) (k:Nat):Bool:=decide (inG g k ≠ []) && decide (atL ps a ≠ [])
def topI (i:Int):Nat:=if i=1 then 256 else 0
def nowR (t:Term) (i:Int):List (List Span)→Nat→List Int→Option (List Int)
 | [],_,now=>some now
 | g :: gs,k,now=>if z8o t.parts k g (topI i) then (zfa now (ownL t.parts k g (topI i))).bind (nowR t i gs (k + 1)) else nowR t i gs (k + 1) now
def z44 (t:Term) (i:Int) (gs:List (List Span)):List Span × Bool :=
 if i=2∧t.parts.length=1 then
   (z3m (z0d (nth gs (nth t.parts 0).at_.toNat)) t.sum,decide (0 ≤ (nth (z3m (z0d (nth gs (nth t.parts 0).at_.toNat)) t.sum) 0).lo) && decide ((nth (z3m (z0d (nth gs (nth t.parts 0).at_.toNat)) t.sum) ((z3m (z0d (nth gs (nth t.parts 0).at_.toNat)) t.sum).length - 1)).hi ≤ 1114111))
 else match nowR t i gs 0 [t.sum] with
   | none=>([],false)
   | some now=>(z8v now,decide (0 ≤ nth now 0) && decide (nth now (now.length - 1) ≤ 1114111))
structure GOk (i:Int) (gs:List (List Span)):Prop where
 len:gs.length ≤ 4
 short:∀ g ∈ gs,g.length ≤ 64
 some:∀ g ∈ gs,∃ v,memL g v
 dom:∀ g ∈ gs,∀ v,memL g v→zf8 i v=true
theorem y3a {ps:List Part} {a:Int} {k:Nat} (h:k < ps.length):atL (ps.take (k + 1)) a=if (nth ps k).at_=a then atL (ps.take k) a ++ [nth ps k] else atL (ps.take k) a:=by
 rw [take_at h,atL,atL,List.filter_append]
 split
 · rename_i h;simp [h]
 · rename_i h;simp [h]
theorem zhj:∀ {l:List Int} {a b:Int},z1f l→(∀ x ∈ l,a ≤ x∧x ≤ b)→a ≤ b + 1→(l.length:Int) ≤ b - a + 1
 | [],a,b,_,_,h=>by simp;omega
 | x :: l,a,b,hr,hm,h=>by
   obtain ⟨r1,r2⟩:=List.pairwise_cons.1 hr
   have hx:=hm x (by simp)
   have:=zhj (a:=x + 1) (b:=b) r2 (fun y hy=>by have:=r1 y hy;have:=hm y (by simp [hy]);omega) (by omega)
   push_cast [List.length_cons]
   omega
structure zp4 (now:List Int):Prop where
 ris:z1f now
 bd:∀ x ∈ now,-1114111 ≤ x∧x ≤ 1114111
 pos:0 < now.length
theorem zp4.len {now:List Int} (h:zp4 now):now.length ≤ 2228223:=by
 have:=zhj h.ris h.bd (by omega)
 omega
theorem zyx {a b m:List Int} (ha:zp4 a) (hb:∀ x ∈ b,0 ≤ x) (hp:0 < b.length) (h:zfa a b=some m):zp4 m∧∀ v,v ∈ m ↔ ∃ x ∈ a,∃ y ∈ b,x + y=v:=by
 rw [zfa] at h
 split at h
 · cases h
 · rename_i hn
   injection h with h
   subst h
   obtain ⟨f1,f2,f3⟩:=z8g (prs a b) [] (by simp [z1f])
   have hmem:∀ v,v ∈ (prs a b).foldl putI [] ↔ ∃ x ∈ a,∃ y ∈ b,x + y=v:=fun v=>by rw [f3,← zfb];simp
   refine ⟨⟨f1,fun v hv=>?_,?_⟩,hmem⟩
   · obtain ⟨x,hx,y,hy,rfl⟩:=(hmem v).1 hv
     have h1:=ha.bd x hx
     have h2:=hb y hy
     have h3:¬ 1114111 < x + y:=fun h=>hn (List.any_eq_true.2 ⟨x + y,zfb.2 ⟨x,hx,y,hy,rfl⟩,by simpa [bigB] using h⟩)
     omega
   · refine List.length_pos_iff.2 fun h0=>?_
     have h1:=(hmem (nth a 0 + nth b 0)).2 ⟨_,z0i ha.pos,_,z0i hp,rfl⟩
     rw [h0] at h1
     cases h1
theorem zyy {ps:List Part} {a:Int} {g:List Span} {k:Nat} (hk:k ≤ 256) (hl:ps.length ≤ 4) (hb:∀ p ∈ ps,z2s p=true) :
   z1f (ownL ps a g k)∧(ownL ps a g k).length ≤ 256∧(∀ v,v ∈ ownL ps a g k ↔ ∃ x ∈ inG g k,totV (atL ps a) x=v)∧∀ v ∈ ownL ps a g k,0 ≤ v∧v ≤ 264241152:=by
 obtain ⟨f1,f2,f3⟩:=z8g ((inG g k).map (totV (atL ps a))) [] (by simp [z1f])
 have hlen:=y8h g k
 simp only [List.length_nil,List.length_map] at f2
 have hmem:∀ v,v ∈ ownL ps a g k ↔ ∃ x ∈ inG g k,totV (atL ps a) x=v:=fun v=>by rw [ownL,f3];simp
 refine ⟨f1,by rw [ownL];omega,hmem,fun v hv=>?_⟩
 obtain ⟨x,hx,rfl⟩:=(hmem v).1 hv
 have hx2:=(zyw.1 hx).1
 have hal:(atL ps a).length ≤ 4:=Nat.le_trans (List.length_filter_le _ _) hl
 have:=z7p (x:=x) (by omega) (l:=atL ps a) (fun p hp=>hb p (List.mem_filter.1 hp).1)
 have h2:((atL ps a).length:Int) * 66060288 ≤ 4 * 66060288:=Int.mul_le_mul_of_nonneg_right (by omega) (by omega)
 omega
theorem zyz {ps:List Part} {a:Int} {g:List Span} {k:Nat} (hs:z8o ps a g k=true):0 < (ownL ps a g k).length:=by
 simp only [z8o,Bool.and_eq_true,decide_eq_true_eq] at hs
 obtain ⟨f1,f2,f3⟩:=z8g ((inG g k).map (totV (atL ps a))) [] (by simp [z1f])
 obtain ⟨x,hx⟩:=List.exists_mem_of_ne_nil _ hs.1
 exact List.length_pos_of_mem ((f3 _).2 (.inr (List.mem_map_of_mem hx)))
theorem y3b {ps:List Part} {a:Int} {g:List Span} {k:Nat}:ownL ps a g (k + 1)=if hasI g (k:Int) then putI (ownL ps a g k) (totV (atL ps a) k) else ownL ps a g k:=by
 rw [ownL,zrs]
 split
 · rw [List.map_append,List.foldl_append];rfl
 · rfl
theorem zz0 {ps:List Part} {a:Int} {g:List Span} {k:Nat}:z8o ps a g (k + 1)=if hasI g (k:Int) then decide (atL ps a ≠ []) else z8o ps a g k:=by
 rw [z8o,zrs]
 split
 · simp
 · rfl
theorem zp5 (t:Term) (i o:Int) (gs:List (List Span)) (hr:z4h t i o gs.length=true) (hG:GOk i gs) :
   PC Tryz.prog 99 [z1q t,.int .i64 i,z0b gs] (.tup [z03 (z44 t i gs).1,.bool (z44 t i gs).2]):=by
 have hP:=z05 gs
 obtain ⟨hn,hp⟩:=z4g hr
 have hnum:=hn
 simp only [z1s,Bool.and_eq_true,decide_eq_true_eq] at hnum
 have hl4:=hnum.2.2
 have hsm:=z4a hnum.1.1.2
 have hrp:∀ p ∈ t.parts,z2y p gs.length=true:=fun p h=>List.all_eq_true.1 hp p h
 have hbp:∀ p ∈ t.parts,z2s p=true:=fun p h=>by have:=hrp p h;simp only [z2y,Bool.and_eq_true] at this;exact this.2
 have hgl:=hG.len
 refine z0s zir ?_
 unfold za3
 by_cases hone:i=2∧t.parts.length=1
 · have hpp:=hrp _ (z0i (l:=t.parts) (i:=0) (by omega))
   have hpa:=z08 hpp
   have hI:z44 t i gs=_:=if_pos hone
   generalize hpe:nth t.parts 0=p at *
   obtain ⟨a,ha⟩:∃ a:Nat,p.at_=a:=⟨p.at_.toNat,by omega⟩
   have hag:a < gs.length:=by omega
   rw [ha,Int.toNat_natCast] at hI
   have hgm:=z0i hag
   have hN:=z8a (nth gs a) (by have:=hG.short _ hgm;omega)
   have hM:=zug (z0d (nth gs a)) t.sum (by have:=hG.short _ hgm;have:=z3b (nth gs a);omega)
   have hpos:0 < (z3m (z0d (nth gs a)) t.sum).length:=by
     obtain ⟨v,hv⟩:=hG.some _ hgm
     have hv2:=zcx (hG.dom _ hgm v hv)
     have h1:memL (z0d (nth gs a)) v:=((z0c (nth gs a)).2 v).2 ⟨hv,by omega⟩
     have h2:memL (z3m (z0d (nth gs a)) t.sum) (v + t.sum):=(zjh (by omega)).2 ⟨⟨by rw [show v + t.sum - t.sum=v by omega];exact h1,by omega⟩,by omega⟩
     exact List.length_pos_iff.2 (z9c h2)
   have hle:(z3m (z0d (nth gs a)) t.sum).length ≤ 2147483649:=by
     rw [z3m,if_neg (by omega)];exact z6y _
   rw [hI]
   generalize z3m (z0d (nth gs a)) t.sum=l at *
   obtain ⟨m,hm⟩:∃ m,l.length=m + 1:=⟨l.length - 1,by omega⟩
   have hw:IntKind.i64.wrap (m:Int)=m:=IntWalk.i64_in _ (by omega)
   obtain ⟨h2,h1⟩:=hone
   subst h2
   clear hI
   rw [hm,Nat.add_sub_cancel]
   (repeat' (first|(simp (disch:=omega) only [push_cast,↓zz,seval,hP,hpe,ha,h1,hm,hw])|(with_reducible first|refine And.intro ?_ ?_|(first|refine z01 ?_ ?_|refine z00 ?_ ?_)<;>intro hc<;>(try simp only [push_cast] at hc))|((with_reducible first|refine eK hN ?_|refine eQ hN ?_|refine eG hN ?_))|((with_reducible first|refine eK hM ?_|refine eQ hM ?_|refine eG hM ?_))|((with_reducible first|refine cK hN ?_|refine cQ hN ?_|refine cG hN ?_);(simp (disch:=omega) only [push_cast,↓zz,seval,hP,hpe,ha,h1,hm,hw]);(fail_if_success (with_reducible change False)))|((with_reducible first|refine cK hM ?_|refine cQ hM ?_|refine cG hM ?_);(simp (disch:=omega) only [push_cast,↓zz,seval,hP,hpe,ha,h1,hm,hw]);(fail_if_success (with_reducible change False)))|omega|with_reducible intro _))
   all_goals first
     | (rw [decide_eq_true (p:=0 ≤ (nth l 0).lo) (by assumption),Bool.true_and];(repeat' (first|(simp (disch:=omega) only [push_cast,↓zz,seval,z1i])|omega|(with_reducible refine And.intro ?_ ?_)));done)
     | (rw [decide_eq_false (p:=0 ≤ (nth l 0).lo) (by assumption),Bool.false_and];(repeat' (first|(simp (disch:=omega) only [push_cast,↓zz,seval,z1i])|omega|(with_reducible refine And.intro ?_ ?_)));done)
     | trace_state
 have hI:z44 t i gs=match nowR t i gs 0 [t.sum] with
   | none=>([],false)
   | some now=>(z8v now,decide (0 ≤ nth now 0) && decide (nth now (now.length - 1) ≤ 1114111)):=if_neg hone
 have hst:zp4 [t.sum]:=⟨by simp [z1f],by simp;omega,by simp⟩
 (repeat' (first|(simp (disch:=omega) only [push_cast,↓zz,seval,hP])|(with_reducible first|refine And.intro ?_ ?_|(first|refine z01 ?_ ?_|refine z00 ?_ ?_)<;>intro hc<;>(try simp only [push_cast] at hc))|omega|with_reducible intro _))
 all_goals first
   | (exfalso;omega)
   | skip
 all_goals
   refine z0f (z0g (fun (s:Nat × List Int)=>s.1 ≤ gs.length∧zp4 s.2∧nowR t i gs 0 [t.sum]=nowR t i (gs.drop s.1) s.1 s.2) (fun s=>gs.length - s.1)
     (fun s=>[(1,.int .i64 i),(2,z0b gs),(3,.ptr 0 1 0 0),(9,z4p s.2),(10,.int .i64 s.1)]) (fun s=>[⟨6,1,true,[z1q t]⟩]) (fun env _=>[z0k 1 (env 3)]) (0,[t.sum]) ⟨by simp,hst,rfl⟩ ?_ ?_)
   · (repeat' (first|(simp (disch:=omega) only [push_cast,↓zz,seval,hP])|(with_reducible first|refine And.intro ?_ ?_|(first|refine z01 ?_ ?_|refine z00 ?_ ?_)<;>intro hc<;>(try simp only [push_cast] at hc))|omega|with_reducible intro _))
   rintro ⟨k,now⟩ ⟨k1,kn,k2⟩
   simp only at k1 kn k2
   have hnl:=kn.len
   have pN:z0p (now.map (AV.int .i64))=true:=z4k .i64 now
   rcases Nat.lt_or_ge k gs.length with hk|hk
   · rw [drop_at hk,nowR] at k2
     have hgs:=hG.short _ (z0i hk)
     generalize hge:nth gs k=g at *
     refine W_T ?_
     (repeat' (first|(simp (disch:=omega) only [push_cast,↓zz,seval,hP,hge])|(with_reducible first|refine And.intro ?_ ?_|(first|refine z01 ?_ ?_|refine z00 ?_ ?_)<;>intro hc<;>(try simp only [push_cast] at hc))|omega|with_reducible intro _))
     refine z0f (z0g (fun (x:Nat)=>x ≤ topI i) (fun x=>topI i - x)
       (fun x=>[(1,.int .i64 i),(2,z0b gs),(3,.ptr 0 1 0 0),(9,z4p now),(10,.int .i64 k),(11,.ref 1 1 0 (ownL t.parts k g x).length),(12,.bool (z8o t.parts k g x)),(13,.int .i64 x)])
       (fun x=>[⟨6,1,true,[z1q t]⟩,⟨1,1,false,(ownL t.parts k g x).map (AV.int .i64)⟩]) (fun env _=>[z0k 1 (env 3),z0k 1 (env 11)]) 0 (by simp) ?_ ?_)
     · have e0:ownL t.parts k g 0=[]:=rfl
       have s0:z8o t.parts k g 0=false:=rfl
       (repeat' (first|(simp (disch:=omega) only [push_cast,↓zz,seval,hP,pN,e0,s0])|(with_reducible first|refine And.intro ?_ ?_|(first|refine z01 ?_ ?_|refine z00 ?_ ?_)<;>intro hc<;>(try simp only [push_cast] at hc))|omega|with_reducible intro _))
     intro x hx
     rcases Nat.lt_or_ge x (topI i) with hxt|hxt
     · have hi:i=1∧x < 256:=by
         unfold topI at hxt
         split at hxt
         · exact ⟨by assumption,hxt⟩
         · omega
       have hie:(i=1)=True:=eq_true hi.1
       have hH:=zep g x (by omega)
       have hos:=y3b (ps:=t.parts) (a:=k) (g:=g) (k:=x)
       have hss:=zz0 (ps:=t.parts) (a:=k) (g:=g) (k:=x)
       obtain ⟨o1,o2,_,o4⟩:=zyy (a:=(k:Int)) (g:=g) (k:=x) (by omega) hl4 hbp
       have hsa:z8o t.parts k g x=true→decide (atL t.parts k ≠ [])=true:=fun h=>by rw [z8o,Bool.and_eq_true] at h;exact h.2
       generalize ownL t.parts k g x=own at *
       generalize z8o t.parts k g x=sm at *
       cases hh:hasI g (x:Int) with
       | false =>
         rw [hh] at hH
         rw [hh,if_neg (by simp)] at hos hss
         refine W_T ?_
         (repeat' (first|(simp (disch:=omega) only [push_cast,↓zz,seval,hP,hge,hie])|(with_reducible first|refine And.intro ?_ ?_|(first|refine z01 ?_ ?_|refine z00 ?_ ?_)<;>intro hc<;>(try simp only [push_cast] at hc))|((with_reducible first|refine eK hH ?_|refine eQ hH ?_|refine eG hH ?_))|((with_reducible first|refine cK hH ?_|refine cQ hH ?_|refine cG hH ?_);(simp (disch:=omega) only [push_cast,↓zz,seval,hP,hge,hie]);(fail_if_success (with_reducible change False)))|omega|with_reducible intro _))
         all_goals
           refine ⟨x + 1,?_⟩
           (repeat' (first|(simp (disch:=omega) only [push_cast,↓zz,seval,hos,hss])|(with_reducible first|refine And.intro ?_ ?_|(first|refine z01 ?_ ?_|refine z00 ?_ ?_)<;>intro hc<;>(try simp only [push_cast] at hc))|omega|with_reducible intro _))
       | true =>
         rw [hh] at hH
         rw [hh,if_pos rfl] at hos hss
         refine W_T ?_
         (repeat' (first|(simp (disch:=omega) only [push_cast,↓zz,seval,hP,hge,hie])|(with_reducible first|refine And.intro ?_ ?_|(first|refine z01 ?_ ?_|refine z00 ?_ ?_)<;>intro hc<;>(try simp only [push_cast] at hc))|((with_reducible first|refine eK hH ?_|refine eQ hH ?_|refine eG hH ?_))|((with_reducible first|refine cK hH ?_|refine cQ hH ?_|refine cG hH ?_);(simp (disch:=omega) only [push_cast,↓zz,seval,hP,hge,hie]);(fail_if_success (with_reducible change False)))|omega|with_reducible intro _))
         all_goals
           refine z0f (z0g (fun (j:Nat)=>j ≤ t.parts.length) (fun j=>t.parts.length - j)
             (fun j=>[(1,.int .i64 i),(2,z0b gs),(3,.ptr 0 1 0 0),(9,z4p now),(10,.int .i64 k),(11,.ref 1 1 0 own.length),(12,.bool (sm || decide (atL (t.parts.take j) k ≠ []))),(13,.int .i64 x),(14,.int .i64 (totV (atL (t.parts.take j) k) x)),(15,.int .i64 j)])
             (fun j=>[⟨6,1,true,[z1q t]⟩,⟨1,1,false,own.map (AV.int .i64)⟩]) (fun env _=>[z0k 1 (env 3),z0k 1 (env 11)]) 0 (by simp) ?_ ?_)
           · have e0:atL [] (k:Int)=[]:=rfl
             (repeat' (first|(simp (disch:=omega) only [push_cast,↓zz,seval,hP,pN,e0,zji,ne_eq,not_true_eq_false,decide_false,Bool.or_false])|(with_reducible first|refine And.intro ?_ ?_|(first|refine z01 ?_ ?_|refine z00 ?_ ?_)<;>intro hc<;>(try simp only [push_cast] at hc))|omega|with_reducible intro _))
           intro j hj
           have hbj:=z7p (x:=(x:Int)) (by omega) (l:=atL (t.parts.take j) k) (fun p hp=>hbp p (List.mem_of_mem_take (List.mem_filter.1 hp).1))
           have hlj:(atL (t.parts.take j) k).length ≤ 4:=Nat.le_trans (List.length_filter_le _ _) (by simp;omega)
           have hmj:((atL (t.parts.take j) k).length:Int) * 66060288 ≤ 4 * 66060288:=Int.mul_le_mul_of_nonneg_right (by omega) (by omega)
           rcases Nat.lt_or_ge j t.parts.length with hjp|hjp
           · have hat:=y3a (a:=(k:Int)) hjp
             have hpb:=hbp _ (z0i hjp)
             have hV:=zo8 (nth t.parts j) x
             have hvs:=z3l hpb (x:=(x:Int)) (by omega)
             rw [zo7 hpb (by omega)] at hV
             have hpp:=z67 t.parts
             generalize hpe:nth t.parts j=p at *
             generalize atL (t.parts.take j) k=A at *
             have hT:=zmk A p x
             have hw:IntKind.i64.wrap (totV A x + valP p x)=totV A x + valP p x:=IntWalk.i64_in _ (by omega)
             by_cases ha:p.at_=k
             · rw [if_pos ha] at hat
               have hne:decide (¬ (A ++ [p]=[]))=true:=by simp
               refine W_T ?_
               (repeat' (first|(simp (disch:=omega) only [push_cast,↓zz,seval,hP,hpp,hpe,ha,hw])|(with_reducible first|refine And.intro ?_ ?_|(first|refine z01 ?_ ?_|refine z00 ?_ ?_)<;>intro hc<;>(try simp only [push_cast] at hc))|((with_reducible first|refine eK hV ?_|refine eQ hV ?_|refine eG hV ?_))|((with_reducible first|refine cK hV ?_|refine cQ hV ?_|refine cG hV ?_);(simp (disch:=omega) only [push_cast,↓zz,seval,hP,hpp,hpe,ha,hw]);(fail_if_success (with_reducible change False)))|omega|with_reducible intro _))
               all_goals
                 refine ⟨j + 1,?_⟩
                 (repeat' (first|(simp (disch:=omega) only [push_cast,↓zz,seval,hat,hT,hne,Bool.or_true])|(with_reducible first|refine And.intro ?_ ?_|(first|refine z01 ?_ ?_|refine z00 ?_ ?_)<;>intro hc<;>(try simp only [push_cast] at hc))|omega|with_reducible intro _))
             · rw [if_neg ha] at hat
               refine W_T ?_
               (repeat' (first|(simp (disch:=omega) only [push_cast,↓zz,seval,hP,hpp,hpe])|(with_reducible first|refine And.intro ?_ ?_|(first|refine z01 ?_ ?_|refine z00 ?_ ?_)<;>intro hc<;>(try simp only [push_cast] at hc))|omega|with_reducible intro _))
               all_goals
                 refine ⟨j + 1,?_⟩
                 (repeat' (first|(simp (disch:=omega) only [push_cast,↓zz,seval,hat])|(with_reducible first|refine And.intro ?_ ?_|(first|refine z01 ?_ ?_|refine z00 ?_ ?_)<;>intro hc<;>(try simp only [push_cast] at hc))|omega|with_reducible intro _))
           · have hjt:t.parts.take j=t.parts:=List.take_of_length_le hjp
             rw [hjt] at *
             have hsm2:(sm || decide (atL t.parts k ≠ []))=z8o t.parts k g (x + 1):=by
               rw [hss]
               cases sm with
               | false=>rfl
               | true=>rw [hsa rfl];rfl
             refine W_T ?_
             (repeat' (first|(simp (disch:=omega) only [push_cast,↓zz,seval,hP])|(with_reducible first|refine And.intro ?_ ?_|(first|refine z01 ?_ ?_|refine z00 ?_ ?_)<;>intro hc<;>(try simp only [push_cast] at hc))|omega|with_reducible intro _))
             (refine znn [1] (zmr 1 own (totV (atL t.parts k) x) o1 (by omega)) (by decide) (by simp) (by (simp (disch:=omega) only [push_cast,↓zz,seval])) (by (simp (disch:=omega) only [push_cast,↓zz,seval])) (by (simp (disch:=omega) only [push_cast,↓zz,seval])) (by (simp (disch:=omega) only [push_cast,↓zz,seval,List.mem_cons,List.not_mem_nil,or_false,forall_eq_or_imp,forall_eq,List.forall_mem_nil])) ?_)
             rintro y' H' ⟨v',rfl,rfl⟩
             refine ⟨_,rfl,by simp,?_⟩
             (repeat' (first|(simp (disch:=omega) only [push_cast,↓zz,seval])|(with_reducible first|refine And.intro ?_ ?_|(first|refine z01 ?_ ?_|refine z00 ?_ ?_)<;>intro hc<;>(try simp only [push_cast] at hc))|omega|with_reducible intro _))
             refine ⟨x + 1,?_⟩
             (repeat' (first|(simp (disch:=omega) only [push_cast,↓zz,seval,hos,hss,hsm2])|(with_reducible first|refine And.intro ?_ ?_|(first|refine z01 ?_ ?_|refine z00 ?_ ?_)<;>intro hc<;>(try simp only [push_cast] at hc))|omega|with_reducible intro _))
     · have hxe:x=topI i:=by omega
       subst hxe
       have ht:((i=1)=True∧((topI i:Int) < 256)=False) ∨ ((i=1)=False∧((topI i:Int) < 256)=True):=by
         unfold topI
         split
         · exact .inl ⟨eq_true (by assumption),by simp⟩
         · exact .inr ⟨eq_false (by assumption),by simp⟩
       obtain ⟨o1,o2,_,o4⟩:=zyy (a:=(k:Int)) (g:=g) (k:=topI i) (by unfold topI;split<;>omega) hl4 hbp
       have op:=zyz (ps:=t.parts) (a:=k) (g:=g) (k:=topI i)
       generalize ownL t.parts k g (topI i)=own at *
       generalize z8o t.parts k g (topI i)=sm at *
       generalize topI i=n at *
       have hS:=zuf now own (by omega) (by omega) (fun x hx=>by have:=kn.bd x hx;omega) (fun x hx=>by have:=o4 x hx;omega)
       have pO:z0p (own.map (AV.int .i64))=true:=z4k .i64 own
       have eO:List.take own.length (own.map (AV.int .i64))=own.map (AV.int .i64):=List.take_of_length_le (by simp)
       refine W_T ?_
       cases sm with
       | false =>
         rw [if_neg (by simp)] at k2
         rcases ht with ⟨hi,hn2⟩|⟨hi,hn2⟩
         all_goals
           (repeat' (first|(simp (disch:=omega) only [push_cast,↓zz,seval,hP,hge,hi,hn2])|(with_reducible first|refine And.intro ?_ ?_|(first|refine z01 ?_ ?_|refine z00 ?_ ?_)<;>intro hc<;>(try simp only [push_cast] at hc))|omega|with_reducible intro _))
         all_goals
           refine ⟨(k + 1,now),⟨rfl,by push_cast⟩,⟨by simp only;omega,kn,k2⟩,by simp only;omega⟩
       | true =>
         rw [if_pos rfl] at k2
         have hop:=op rfl
         cases hv:zfa now own with
         | none =>
           rw [hv] at hS k2
           rw [hI,k2]
           rcases ht with ⟨hi,hn2⟩|⟨hi,hn2⟩
           all_goals
             (repeat' (first|(simp (disch:=omega) only [push_cast,↓zz,seval,hP,hge,hi,hn2,pN,pO,eO,Option.bind_none])|(with_reducible first|refine And.intro ?_ ?_|(first|refine z01 ?_ ?_|refine z00 ?_ ?_)<;>intro hc<;>(try simp only [push_cast] at hc))|((with_reducible first|refine eK hS ?_|refine eQ hS ?_|refine eG hS ?_))|((with_reducible first|refine cK hS ?_|refine cQ hS ?_|refine cG hS ?_);(simp (disch:=omega) only [push_cast,↓zz,seval,hP,hge,hi,hn2,pN,pO,eO,Option.bind_none]);(fail_if_success (with_reducible change False)))|omega|with_reducible intro _))
           all_goals (repeat' (first|(simp (disch:=omega) only [push_cast,↓zz,seval,z1i])|omega|(with_reducible refine And.intro ?_ ?_)))
         | some m =>
           rw [hv,Option.bind_some] at k2
           rw [hv] at hS
           obtain ⟨m1,_⟩:=zyx kn (fun y hy=>(o4 y hy).1) hop hv
           have pM:z0p (m.map (AV.int .i64))=true:=z4k .i64 m
           simp only [optL,Option.getD_some,Option.isSome_some] at hS
           rcases ht with ⟨hi,hn2⟩|⟨hi,hn2⟩
           all_goals
             (repeat' (first|(simp (disch:=omega) only [push_cast,↓zz,seval,hP,hge,hi,hn2,pN,pO,eO,pM])|(with_reducible first|refine And.intro ?_ ?_|(first|refine z01 ?_ ?_|refine z00 ?_ ?_)<;>intro hc<;>(try simp only [push_cast] at hc))|((with_reducible first|refine eK hS ?_|refine eQ hS ?_|refine eG hS ?_))|((with_reducible first|refine cK hS ?_|refine cQ hS ?_|refine cG hS ?_);(simp (disch:=omega) only [push_cast,↓zz,seval,hP,hge,hi,hn2,pN,pO,eO,pM]);(fail_if_success (with_reducible change False)))|omega|with_reducible intro _))
           all_goals
             refine ⟨(k + 1,m),⟨rfl,by push_cast⟩,⟨by simp only;omega,m1,k2⟩,by simp only;omega⟩
   · rw [List.drop_of_length_le hk,nowR] at k2
     rw [hI,k2]
     have hS:=zp2 now (by omega) (fun x hx=>by have:=kn.bd x hx;omega)
     obtain ⟨m,hm⟩:∃ m,now.length=m + 1:=⟨now.length - 1,by have:=kn.pos;omega⟩
     have hw:IntKind.i64.wrap (m:Int)=m:=IntWalk.i64_in _ (by omega)
     simp only
     rw [hm,Nat.add_sub_cancel]
     refine W_T ?_
     (repeat' (first|(simp (disch:=omega) only [push_cast,↓zz,seval,hP,pN,hm,hw])|(with_reducible first|refine And.intro ?_ ?_|(first|refine z01 ?_ ?_|refine z00 ?_ ?_)<;>intro hc<;>(try simp only [push_cast] at hc))|((with_reducible first|refine eK hS ?_|refine eQ hS ?_|refine eG hS ?_))|((with_reducible first|refine cK hS ?_|refine cQ hS ?_|refine cG hS ?_);(simp (disch:=omega) only [push_cast,↓zz,seval,hP,pN,hm,hw]);(fail_if_success (with_reducible change False)))|omega|with_reducible intro _))
     all_goals first
       | (rw [decide_eq_true (p:=0 ≤ nth now 0) (by assumption),Bool.true_and];(repeat' (first|(simp (disch:=omega) only [push_cast,↓zz,seval,z1i])|omega|(with_reducible refine And.intro ?_ ?_)));done)
       | (rw [decide_eq_false (p:=0 ≤ nth now 0) (by assumption),Bool.false_and];(repeat' (first|(simp (disch:=omega) only [push_cast,↓zz,seval,z1i])|omega|(with_reducible refine And.intro ?_ ?_)));done)
       | trace_state
theorem zms {l:List Int} (h:z1f l) {i j:Nat} (hij:i ≤ j) (hj:j < l.length):nth l i ≤ nth l j:=by
 rcases Nat.lt_or_ge i j with hlt|hge
 · have:=List.pairwise_iff_getElem.1 h i j (by omega) hj hlt
   simp only [nth,List.getD_eq_getElem?_getD,List.getElem?_eq_getElem hj,List.getElem?_eq_getElem (show i < l.length by omega),Option.getD_some]
   omega
 · rw [show i=j by omega];exact Int.le_refl _
theorem y4a {α:Type} [Inhabited α] {l:List α} {x:α} (h:x ∈ l):∃ i,i < l.length∧nth l i=x:=by
 obtain ⟨i,hi,rfl⟩:=List.getElem_of_mem h
 exact ⟨i,hi,by simp [nth,hi]⟩
theorem zuh {l:List Int} (h:z1f l) (hp:0 < l.length) {m M:Int}:(m ≤ nth l 0∧nth l (l.length - 1) ≤ M) ↔ ∀ v ∈ l,m ≤ v∧v ≤ M:=by
 constructor
 · rintro ⟨h1,h2⟩ v hv
   obtain ⟨i,hi,rfl⟩:=y4a hv
   have a1:=zms h (Nat.zero_le i) hi
   have a2:=zms h (show i ≤ l.length - 1 by omega) (by omega)
   omega
 · intro ha
   have a1:=ha _ (z0i hp)
   have a2:=ha _ (z0i (show l.length - 1 < l.length by omega))
   exact ⟨a1.1,a2.2⟩
theorem zrt {l:List Span} (h:Plain l) {i j:Nat} (hij:i ≤ j) (hj:j < l.length):(nth l i).lo ≤ (nth l j).lo∧(nth l i).hi ≤ (nth l j).hi:=by
 rcases Nat.lt_or_ge i j with hlt|hge
 · have h1:=List.pairwise_iff_getElem.1 h.2 i j (by omega) hj hlt
   have h2:=h.1 _ (z0i hj)
   have h3:=h.1 _ (z0i (show i < l.length by omega))
   simp only [nth,List.getD_eq_getElem?_getD,List.getElem?_eq_getElem hj,List.getElem?_eq_getElem (show i < l.length by omega),Option.getD_some] at h2 h3 ⊢
   omega
 · rw [show i=j by omega];exact ⟨Int.le_refl _,Int.le_refl _⟩
theorem zz1 {l:List Span} (h:Plain l) (hp:0 < l.length) {m M:Int}:(m ≤ (nth l 0).lo∧(nth l (l.length - 1)).hi ≤ M) ↔ ∀ v,memL l v→m ≤ v∧v ≤ M:=by
 constructor
 · rintro ⟨h1,h2⟩ v ⟨s,hs,hv⟩
   obtain ⟨i,hi,rfl⟩:=y4a hs
   have a1:=zrt h (Nat.zero_le i) hi
   have a2:=zrt h (show i ≤ l.length - 1 by omega) (by omega)
   omega
 · intro ha
   have l1:=h.1 _ (z0i hp)
   have l2:=h.1 _ (z0i (show l.length - 1 < l.length by omega))
   have a1:=ha (nth l 0).lo ⟨_,z0i hp,Int.le_refl _,l1⟩
   have a2:=ha (nth l (l.length - 1)).hi ⟨_,z0i (by omega),l2,Int.le_refl _⟩
   exact ⟨a1.1,a2.2⟩
theorem zhk:∀ (l:List Int) (out:List Span),z1f l→Plain out→(∀ x ∈ l,zoh out x)→Plain (l.foldl z5u out)∧∀ v,memL (l.foldl z5u out) v ↔ memL out v ∨ v ∈ l
 | [],out,_,h,_=>⟨h,fun v=>by simp⟩
 | x :: l,out,hr,h,ha=>by
   obtain ⟨r1,r2⟩:=List.pairwise_cons.1 hr
   obtain ⟨p1,p2,p3⟩:=zh4 h (x:=⟨x,x⟩) (Int.le_refl _) (ha x (by simp))
   obtain ⟨i1,i2⟩:=zhk l (z5u out x) r2 p1 fun y hy=>zh5 p2 (by have:=r1 y hy;simp only;omega)
   refine ⟨i1,fun v=>?_⟩
   rw [List.foldl_cons,i2,List.mem_cons]
   have:=p3 v
   simp only at this
   rw [z5u,this]
   constructor
   · rintro ((h|h)|h)
     · exact .inl h
     · exact .inr (.inl (by omega))
     · exact .inr (.inr h)
   · rintro (h|rfl|h)
     · exact .inl (.inl h)
     · exact .inl (.inr ⟨Int.le_refl _,Int.le_refl _⟩)
     · exact .inr h
theorem zp6 {l:List Int} (h:z1f l):Plain (z8v l)∧∀ v,memL (z8v l) v ↔ v ∈ l:=by
 obtain ⟨h1,h2⟩:=zhk l [] h ⟨by simp,by simp⟩ (fun x _ s hs=>by cases hs)
 exact ⟨h1,fun v=>by rw [z8v,h2];simp [memL]⟩
def begW (l:List Part) (k:Nat) (w:List Int):Int:=zbf l ((List.range k).map fun (a:Nat)=>(a:Int)) w
theorem z6l (l:List Part) (k:Nat) (w:List Int):begW l (k + 1) w=begW l k w + totV (atL l k) (nth w k):=by
 simp [begW,zbf,List.range_succ,List.map_append,List.sum_append]
theorem zz2 (l:List Part) (w:List Int):begW l 0 w=0:=rfl
theorem zru {l:List Part} {n:Nat} {w:List Int} (h:∀ p ∈ l,0 ≤ p.at_∧p.at_ < n):begW l n w=totW w l:=by
 refine z8e w l _ ?_ fun p hp=>?_
 · exact List.pairwise_map.2 (List.nodup_range.imp fun h e=>h (by omega))
 · have:=h p hp
   exact List.mem_map.2 ⟨p.at_.toNat,by simp;omega,by omega⟩
theorem zrv {l:List Part} {w:List Int} {k:Nat} {x:Int} (hk:k < w.length):∀ {j:Nat},j ≤ k→begW l j (w.set k x)=begW l j w
 | 0,_=>rfl
 | j + 1,h=>by
   rw [z6l,z6l,zrv hk (j:=j) (by omega),zbg hk,if_neg (by omega)]
theorem y8i {l:List Part} {x:Int} (hx:0 ≤ x∧x ≤ 2097151) (hb:∀ p ∈ l,z2s p=true) (a:Int):0 ≤ totV (atL l a) x:=(z7p hx (l:=atL l a) fun p hp=>hb p (List.mem_filter.1 hp).1).1
theorem zmt {l:List Part} {w:List Int} {k n:Nat} (hb:∀ p ∈ l,z2s p=true) (hw:∀ a,a < n→0 ≤ nth w a∧nth w a ≤ 1114111):∀ d,k + d ≤ n→begW l k w ≤ begW l (k + d) w
 | 0,_=>Int.le_refl _
 | d + 1,h=>by
   have h1:=zmt hb hw d (k:=k) (by omega)
   have h2:=hw (k + d) (by omega)
   have h3:=y8i (x:=nth w (k + d)) (by omega) hb ((k + d:Nat):Int)
   have h4:begW l (k + (d + 1)) w=begW l (k + d) w + totV (atL l ((k + d:Nat):Int)) (nth w (k + d)):=z6l l (k + d) w
   omega
theorem zaq {g:List Span} {v:Int} {i:Int} (hd:∀ v,memL g v→zf8 i v=true):memL (symI g) v ↔ memL g v:=by
 rw [(z7o g).2 v]
 constructor
 · exact fun h=>h.2
 · exact fun h=>⟨zcx (hd v h),h⟩
structure TOk (t:Term) (i:Int) (gs:List (List Span)):Prop where
 parts:∀ p ∈ t.parts,z2y p gs.length=true
 four:t.parts.length ≤ 4
 sm:-1114111 ≤ t.sum∧t.sum ≤ 1114111
 sort:i=1 ∨ (i=2∧t.parts.length ≤ 1∧∀ p ∈ t.parts,z58 p=true)
theorem TOk.bits {t:Term} {i:Int} {gs:List (List Span)} (h:TOk t i gs):∀ p ∈ t.parts,z2s p=true:=fun p hp=>by
 have:=h.parts p hp
 simp only [z2y,Bool.and_eq_true] at this
 exact this.2
theorem TOk.at {t:Term} {i:Int} {gs:List (List Span)} (h:TOk t i gs):∀ p ∈ t.parts,0 ≤ p.at_∧p.at_ < gs.length:=fun p hp=>z08 (h.parts p hp)
theorem y4b {t:Term} {i o:Int} {gs:List (List Span)} (hr:z4h t i o gs.length=true):TOk t i gs:=by
 obtain ⟨hn,hp⟩:=z4g hr
 simp only [z1s,Bool.and_eq_true,decide_eq_true_eq] at hn
 refine ⟨fun p h=>List.all_eq_true.1 hp p h,hn.2.2,z4a hn.1.1.2,?_⟩
 simp only [z4h,z2t,zm3,Bool.and_eq_true,Bool.or_eq_true,decide_eq_true_eq,List.all_eq_true] at hr
 obtain ⟨⟨⟨⟨⟨h1,_⟩,_⟩,h2⟩,h3⟩,_⟩:=hr
 rcases h1 with h1|h1
 · exact .inl h1
 · refine .inr ⟨h1,?_,fun p hp=>?_⟩
   · rcases h3 with h3|h3
     · exact absurd h1 h3
     · exact h3
   · rcases (h2 p hp).2 with h|h
     · exact absurd h1 h
     · exact h
def PS (t:Term) (gs:List (List Span)) (k:Nat) (now:List Int):Prop:=zp4 now∧∀ v,v ∈ now ↔ ∃ w,Win (gs.map symI) w∧t.sum + begW t.parts k w=v
theorem zz3 {gs:List (List Span)} {w:List Int} (h:Win (gs.map symI) w):w.length=gs.length:=by have:=h.1;simpa using this
theorem zz4 {gs:List (List Span)} {w:List Int} {k:Nat} (h:Win (gs.map symI) w) (hk:k < gs.length):memL (symI (nth gs k)) (nth w k):=by
 have:=h.2 k (by simpa using hk)
 have e:nth (gs.map symI) k=symI (nth gs k):=by simp [nth,hk]
 rwa [e] at this
theorem zz5 {gs:List (List Span)} {w:List Int} (h:Win (gs.map symI) w) {k:Nat} (hk:k < gs.length):0 ≤ nth w k∧nth w k ≤ 1114111:=(((z7o _).2 _).1 (zz4 h hk)).1
theorem zz6 {gs:List (List Span)} {w:List Int} {k:Nat} {x:Int} (h:Win (gs.map symI) w) (hk:k < gs.length) (hx:memL (symI (nth gs k)) x):Win (gs.map symI) (w.set k x) :=
 zyp h (by simpa using hk) (by have e:nth (gs.map symI) k=symI (nth gs k):=(by simp [nth,hk]);rwa [e])
theorem yc5 {i:Int} {gs:List (List Span)} (hG:GOk i gs):∃ w,Win (gs.map symI) w:=by
 refine zrl.1 (List.all_eq_true.2 fun g hg=>?_)
 rw [List.take_length] at hg
 obtain ⟨v,hv⟩:=hG.some g hg
 have h1:=(zaq (hG.dom g hg)).2 hv
 have:=List.length_pos_iff.2 (z9c h1)
 rw [decide_eq_true_eq]
 omega
theorem zfc {t:Term} {i:Int} {gs:List (List Span)} (hT:TOk t i gs) (hG:GOk i gs) (h1:¬ (i=2∧t.parts.length=1)):∀ (rest:List (List Span)) (k:Nat) (now:List Int),gs.drop k=rest→k ≤ gs.length→PS t gs k now →
   match nowR t i rest k now with
   | none=>∃ w,Win (gs.map symI) w∧1114111 < t.sum + totW w t.parts
   | some m=>PS t gs gs.length m
 | [],k,now,hd,hk,hp=>by
   have:k=gs.length:=by
     have:=congrArg List.length hd
     simp at this;omega
   subst this
   exact hp
 | g :: rest,k,now,hd,hk,hp=>by
   have hkl:k < gs.length:=by
     rcases Nat.lt_or_ge k gs.length with h|h
     · exact h
     · rw [List.drop_of_length_le h] at hd;cases hd
   rw [drop_at hkl] at hd
   injection hd with hg hd
   subst hg
   have hgm:=z0i hkl
   have hin:i=1→∀ x,x ∈ inG (nth gs k) 256 ↔ memL (symI (nth gs k)) x:=fun hi x=>by
     rw [zyw,zaq (hG.dom _ hgm)]
     constructor
     · rintro ⟨hx,hh⟩
       exact (zyr (by omega)).1 hh
     · intro hm
       have hb:=hG.dom _ hgm x hm
       rw [hi] at hb
       simp only [zf8,decide_eq_true_eq] at hb
       exact ⟨by omega,(zyr (by omega)).2 hm⟩
   rw [nowR]
   cases hs:z8o t.parts k (nth gs k) (topI i) with
   | false =>
     rw [if_neg (by simp)]
     have hnil:atL t.parts k=[]:=by
       rcases hT.sort with hi|⟨hi,hl,_⟩
       · rw [hi] at hs
         simp only [z8o,Bool.and_eq_false_iff,decide_eq_false_iff_not,Decidable.not_not] at hs
         rcases hs with hs|hs
         · exfalso
           obtain ⟨v,hv⟩:=hG.some _ hgm
           have:=(hin hi v).2 ((zaq (hG.dom _ hgm)).2 hv)
           rw [show topI 1=256 from rfl] at hs
           rw [hs] at this
           cases this
         · exact hs
       · have:t.parts=[]:=List.eq_nil_of_length_eq_zero (by omega)
         rw [this];rfl
     refine zfc hT hG h1 rest (k + 1) now hd (by omega) ⟨hp.1,fun v=>?_⟩
     rw [hp.2]
     have e:∀ w,begW t.parts (k + 1) w=begW t.parts k w:=fun w=>by rw [z6l,hnil,zji,Int.add_zero]
     simp only [e]
   | true =>
     rw [if_pos rfl]
     have hi:i=1:=by
       rcases hT.sort with hi|⟨hi,_,_⟩
       · exact hi
       · exfalso
         subst hi
         simp [z8o,topI,inG] at hs
     have e256:topI i=256:=by rw [hi];rfl
     rw [e256] at hs ⊢
     have hop:=zyz hs
     obtain ⟨o1,o2,o3,o4⟩:=zyy (a:=(k:Int)) (g:=nth gs k) (k:=256) (Nat.le_refl _) hT.four hT.bits
     have hstep:∀ w,Win (gs.map symI) w→∀ y,y ∈ ownL t.parts k (nth gs k) 256→∃ w',Win (gs.map symI) w'∧begW t.parts (k + 1) w'=begW t.parts k w + y:=fun w hw y hy=>by
       obtain ⟨x,hx,rfl⟩:=(o3 y).1 hy
       refine ⟨w.set k x,zz6 hw hkl ((hin hi x).1 hx),?_⟩
       have hlw:=zz3 hw
       rw [z6l,zrv (by omega) (Nat.le_refl k),zbg (by omega),if_pos rfl]
     cases hv:zfa now (ownL t.parts k (nth gs k) 256) with
     | none =>
       simp only [Option.bind_none]
       rw [zfa] at hv
       split at hv
       · rename_i hb
         obtain ⟨v,hv1,hv2⟩:=List.any_eq_true.1 hb
         obtain ⟨x,hx,y,hy,rfl⟩:=zfb.1 hv1
         obtain ⟨w,hw,rfl⟩:=(hp.2 x).1 hx
         obtain ⟨w',hw',e'⟩:=hstep w hw y hy
         refine ⟨w',hw',?_⟩
         have hm:=zmt (k:=k + 1) hT.bits (fun a ha=>zz5 hw' ha) (gs.length - (k + 1)) (by omega)
         rw [show k + 1 + (gs.length - (k + 1))=gs.length by omega,zru hT.at] at hm
         simp only [bigB,decide_eq_true_eq] at hv2
         omega
       · cases hv
     | some m =>
       simp only [Option.bind_some]
       obtain ⟨m1,m2⟩:=zyx hp.1 (fun y hy=>(o4 y hy).1) hop hv
       refine zfc hT hG h1 rest (k + 1) m hd (by omega) ⟨m1,fun v=>?_⟩
       rw [m2]
       constructor
       · rintro ⟨x,hx,y,hy,rfl⟩
         obtain ⟨w,hw,rfl⟩:=(hp.2 x).1 hx
         obtain ⟨w',hw',e'⟩:=hstep w hw y hy
         exact ⟨w',hw',by omega⟩
       · rintro ⟨w,hw,rfl⟩
         exact ⟨_,(hp.2 _).2 ⟨w,hw,rfl⟩,_,(o3 _).2 ⟨nth w k,(hin hi _).2 (zz4 hw hkl),rfl⟩,by rw [z6l];omega⟩
theorem zhl {t:Term} {i:Int} {gs:List (List Span)} (hT:TOk t i gs) (hG:GOk i gs) :
   ((z44 t i gs).2=true ↔ ∀ w,Win (gs.map symI) w→0 ≤ t.sum + totW w t.parts∧t.sum + totW w t.parts ≤ 1114111) ∧
   ((z44 t i gs).2=true→Plain (z44 t i gs).1∧(z44 t i gs).1.length ≤ 2147483649∧∀ v,memL (z44 t i gs).1 v ↔ ∃ w,Win (gs.map symI) w∧t.sum + totW w t.parts=v):=by
 have hall:∀ w,begW t.parts gs.length w=totW w t.parts:=fun w=>zru hT.at
 obtain ⟨w0,hw0⟩:=yc5 hG
 have hsm:=hT.sm
 by_cases h1:i=2∧t.parts.length=1
 · obtain ⟨p,hp⟩:∃ p,t.parts=[p]:=List.length_eq_one_iff.1 h1.2
   have hpm:p ∈ t.parts:=by rw [hp];simp
   have hpa:=hT.at p hpm
   have hpw:z58 p=true:=by
     rcases hT.sort with h|h
     · omega
     · exact h.2.2 p hpm
   obtain ⟨a,ha⟩:∃ a:Nat,p.at_=a:=⟨p.at_.toNat,by omega⟩
   have hag:a < gs.length:=by omega
   have hgm:=z0i hag
   have hI:z44 t i gs=(z3m (z0d (nth gs a)) t.sum,decide (0 ≤ (nth (z3m (z0d (nth gs a)) t.sum) 0).lo) && decide ((nth (z3m (z0d (nth gs a)) t.sum) ((z3m (z0d (nth gs a)) t.sum).length - 1)).hi ≤ 1114111)):=by
     rw [z44,if_pos h1,show (nth t.parts 0)=p by rw [hp];rfl,ha,Int.toNat_natCast]
   have htot:∀ w,Win (gs.map symI) w→totW w t.parts=nth w a:=fun w hw=>by
     have hx:=zz5 hw hag
     rw [hp]
     simp only [totW,List.map_cons,List.map_nil,List.sum_cons,List.sum_nil,Int.add_zero,ha,Int.toNat_natCast]
     simp only [z58,decide_eq_true_eq] at hpw
     rw [valP,hpw.1,hpw.2.1,hpw.2.2]
     simp
     omega
   have hmem:∀ v,memL (z3m (z0d (nth gs a)) t.sum) v ↔ ∃ w,Win (gs.map symI) w∧t.sum + totW w t.parts=v:=fun v=>by
     rw [zjh (by omega),(z0c (nth gs a)).2]
     constructor
     · rintro ⟨⟨⟨h,_⟩,_⟩,_⟩
       have hs:=(zaq (hG.dom _ hgm)).2 h
       have hw:=zz6 hw0 hag hs
       refine ⟨_,hw,?_⟩
       rw [htot _ hw,zbg (by rw [zz3 hw0];exact hag),if_pos rfl]
       omega
     · rintro ⟨w,hw,rfl⟩
       rw [htot w hw]
       have hx:=zz5 hw hag
       have hs:=(zaq (hG.dom _ hgm)).1 (zz4 hw hag)
       exact ⟨⟨⟨by rw [show t.sum + nth w a - t.sum=nth w a by omega];exact hs,by omega⟩,by omega⟩,by omega⟩
   have hpl:Plain (z3m (z0d (nth gs a)) t.sum):=by
     rw [z3m,if_neg (by omega)];exact (z0c _).1
   have hle:(z3m (z0d (nth gs a)) t.sum).length ≤ 2147483649:=by
     rw [z3m,if_neg (by omega)];exact z6y _
   have hpos:0 < (z3m (z0d (nth gs a)) t.sum).length:=List.length_pos_iff.2 (z9c ((hmem _).2 ⟨w0,hw0,rfl⟩))
   rw [hI]
   generalize z3m (z0d (nth gs a)) t.sum=l at *
   refine ⟨?_,fun _=>⟨hpl,hle,hmem⟩⟩
   simp only
   rw [Bool.and_eq_true,decide_eq_true_eq,decide_eq_true_eq,zz1 hpl hpos]
   constructor
   · exact fun h w hw=>h _ ((hmem _).2 ⟨w,hw,rfl⟩)
   · intro h v hv
     obtain ⟨w,hw,rfl⟩:=(hmem v).1 hv
     exact h w hw
 · have hst:PS t gs 0 [t.sum]:=⟨⟨by simp [z1f],by simp;omega,by simp⟩,fun v=>by
     simp only [zz2,Int.add_zero,List.mem_singleton]
     exact ⟨fun h=>⟨w0,hw0,h.symm⟩,fun ⟨_,_,h⟩=>h.symm⟩⟩
   have hN:=zfc hT hG h1 gs 0 [t.sum] rfl (by omega) hst
   have hI:z44 t i gs=match nowR t i gs 0 [t.sum] with
     | none=>([],false)
     | some now=>(z8v now,decide (0 ≤ nth now 0) && decide (nth now (now.length - 1) ≤ 1114111)):=if_neg h1
   cases hv:nowR t i gs 0 [t.sum] with
   | none =>
     rw [hv] at hN hI
     simp only at hN hI
     rw [hI]
     obtain ⟨w,hw,hb⟩:=hN
     refine ⟨⟨fun h=>(by cases h),fun h=>?_⟩,fun h=>(by cases h)⟩
     have:=h w hw
     omega
   | some now =>
     rw [hv] at hN hI
     simp only at hN hI
     rw [hI]
     obtain ⟨n1,n2⟩:=hN
     obtain ⟨s1,s2⟩:=zp6 n1.ris
     have hsl:=zhi now []
     have hnl:=n1.len
     simp only [List.length_nil] at hsl
     refine ⟨?_,fun _=>⟨s1,by simp only [z8v];omega,fun v=>?_⟩⟩
     · simp only
       rw [Bool.and_eq_true,decide_eq_true_eq,decide_eq_true_eq,zuh n1.ris n1.pos]
       constructor
       · intro h w hw
         have:=h _ ((n2 _).2 ⟨w,hw,rfl⟩)
         rw [hall] at this
         exact this
       · intro h v hv
         obtain ⟨w,hw,rfl⟩:=(n2 v).1 hv
         rw [hall]
         exact h w hw
     · rw [s2,n2]
       simp only [hall]
def okQ (t:Term) (q:Int):Bool:=decide (0 ≤ t.base + q % 2 ^ t.take.toNat * 2 ^ t.up.toNat∧t.base + q % 2 ^ t.take.toNat * 2 ^ t.up.toNat ≤ 255)
def rowQ (t:Term) (a:Int) (n:Nat):Bool:=(List.range n).all fun k=>okQ t (a + (k:Nat))
def zjs (t:Term) (s:Span):Bool:=rowQ t (s.lo / 2 ^ t.drop.toNat) (s.hi / 2 ^ t.drop.toNat - s.lo / 2 ^ t.drop.toNat + 1).toNat
def zz7 (t:Term) (i o:Int) (gs:List (List Span)):Bool :=
 z4h t i o gs.length && ((z44 t i gs).2 && (if o=2 then decide (z48 (z44 t i gs).1 (domL o)=[]) else (z44 t i gs).1.all (zjs t)))
theorem zfd {t:Term} {a:Int} {n:Nat}:rowQ t a n=true ↔ ∀ k:Nat,k < n→okQ t (a + k)=true:=by
 simp [rowQ,List.all_eq_true]
theorem zui {t:Term} {a:Int} {n k:Nat} (h:k < n) (hb:okQ t (a + k)=false):rowQ t a n=false:=by
 rw [rowQ,List.all_eq_false]
 exact ⟨k,by simpa using h,by simp [hb]⟩
theorem zz8 {t:Term} {a:Int} {n m:Nat} (hm:(m:Int)=2 ^ t.take.toNat) (h:∀ k:Nat,k < m→okQ t (a + k)=true):rowQ t a n=true:=by
 refine zfd.2 fun k _=>?_
 have hp:0 < m:=by
   have:(0:Int) < 2 ^ t.take.toNat:=Int.pow_pos (by decide)
   omega
 have h1:=h (k % m) (Nat.mod_lt _ hp)
 have e:(a + (k:Nat)) % 2 ^ t.take.toNat=(a + ((k % m:Nat):Nat)) % 2 ^ t.take.toNat:=by
   rw [← hm]
   have:=Nat.div_add_mod k m
   rw [show (a + (k:Int))=a + ((k % m:Nat):Int) + (m:Int) * ((k / m:Nat):Int) by rw [← Int.natCast_mul];omega,Int.add_mul_emod_self_left]
 rw [okQ,e]
 rwa [okQ] at h1
theorem y8j {t:Term} {a:Int} {m:Nat} (hm:(m:Int)=2 ^ t.take.toNat) (hb:300 < m) (hup:t.up=0 ∨ t.take ≤ 6) (ht:1 ≤ t.take∧t.take ≤ 21) (h1:okQ t a=true) (h2:okQ t (a + 256)=true):False:=by
 have hu:t.up=0:=by
   rcases hup with h|h
   · exact h
   · exfalso
     have:(2:Nat) ^ t.take.toNat ≤ 2 ^ 6:=Nat.pow_le_pow_right (by decide) (by omega)
     have e:((2 ^ t.take.toNat:Nat):Int)=2 ^ t.take.toNat:=by simp
     omega
 have h9:512 ≤ m:=by
   rcases Nat.lt_or_ge t.take.toNat 9 with h|h
   · have:(2:Nat) ^ t.take.toNat ≤ 2 ^ 8:=Nat.pow_le_pow_right (by decide) (by omega)
     have e:((2 ^ t.take.toNat:Nat):Int)=2 ^ t.take.toNat:=by simp
     omega
   · have:(2:Nat) ^ 9 ≤ 2 ^ t.take.toNat:=Nat.pow_le_pow_right (by decide) h
     have e:((2 ^ t.take.toNat:Nat):Int)=2 ^ t.take.toNat:=by simp
     omega
 simp only [okQ,decide_eq_true_eq,hu,← hm] at h1 h2
 simp only [show (0:Int).toNat=0 from rfl,Int.pow_zero,Int.mul_one] at h1 h2
 have b1:=Int.emod_nonneg a (show (m:Int) ≠ 0 by omega)
 have b2:=Int.emod_lt_of_pos a (show (0:Int) < m by omega)
 have b3:=Int.emod_nonneg (a + 256) (show (m:Int) ≠ 0 by omega)
 have e1:=Int.emod_add_mul_ediv a m
 have e2:=Int.emod_add_mul_ediv (a + 256) m
 generalize a % (m:Int)=r1 at *
 generalize (a + 256) % (m:Int)=r2 at *
 generalize a / (m:Int)=q1 at *
 generalize (a + 256) / (m:Int)=q2 at *
 have e3:r2 - r1 - 256=(m:Int) * (q1 - q2):=by rw [Int.mul_sub];omega
 rcases Int.lt_trichotomy (q1 - q2) 0 with h|h|h
 · have:=Int.mul_le_mul_of_nonneg_left (show q1 - q2 ≤ -1 by omega) (show (0:Int) ≤ m by omega)
   omega
 · rw [h] at e3;omega
 · have:=Int.mul_le_mul_of_nonneg_left (show 1 ≤ q1 - q2 by omega) (show (0:Int) ≤ m by omega)
   omega
theorem y3c {t:Term} {l:List Span} {k:Nat} (h:k < l.length):(l.drop k).all (zjs t)=(zjs t (nth l k) && (l.drop (k + 1)).all (zjs t)):=by rw [drop_at h,List.all_cons]
set_option maxHeartbeats 4000000 in
theorem zuj (t:Term) (i o:Int) (gs:List (List Span)) (ht:t.parts.length < 1000000000000) (hG:GOk i gs) :
   PC Tryz.prog 82 [z1q t,.int .i64 i,.int .i64 o,z0b gs] (.bool (zz7 t i o gs)):=by
 have hP:=z05 gs
 have hR:=zxc t i o gs.length ht
 refine z0s zlm ?_
 unfold zc0
 cases hr:z4h t i o gs.length with
 | false =>
   rw [hr] at hR
   rw [zz7,hr,Bool.false_and]
   (repeat' (first|(simp (disch:=omega) only [push_cast,↓zz,seval,hP])|(with_reducible first|refine And.intro ?_ ?_|(first|refine z01 ?_ ?_|refine z00 ?_ ?_)<;>intro hc<;>(try simp only [push_cast] at hc))|((with_reducible first|refine eK hR ?_|refine eQ hR ?_|refine eG hR ?_))|((with_reducible first|refine cK hR ?_|refine cQ hR ?_|refine cG hR ?_);(simp (disch:=omega) only [push_cast,↓zz,seval,hP]);(fail_if_success (with_reducible change False)))|omega|with_reducible intro _))
 | true =>
 rw [hr] at hR
 have hI:=zp5 t i o gs hr hG
 obtain ⟨s1,s2⟩:=zhl (y4b hr) hG
 have hout:z2s t.outer=true:=by
   have hn:=(z4g hr).1
   simp only [z1s,Bool.and_eq_true] at hn
   exact hn.1.2
 have hbase:z1p t.base=true:=by
   have hn:=(z4g hr).1
   simp only [z1s,Bool.and_eq_true] at hn
   exact hn.1.1.1
 have hbm:=z4a hbase
 rw [z3h] at hout
 simp only at hout
 rw [zz7,hr,Bool.true_and]
 cases hok:(z44 t i gs).2 with
 | false =>
   rw [hok] at hI
   rw [Bool.false_and]
   (repeat' (first|(simp (disch:=omega) only [push_cast,↓zz,seval,hP])|(with_reducible first|refine And.intro ?_ ?_|(first|refine z01 ?_ ?_|refine z00 ?_ ?_)<;>intro hc<;>(try simp only [push_cast] at hc))|((with_reducible first|refine eK hR ?_|refine eQ hR ?_|refine eG hR ?_))|((with_reducible first|refine eK hI ?_|refine eQ hI ?_|refine eG hI ?_))|((with_reducible first|refine cK hR ?_|refine cQ hR ?_|refine cG hR ?_);(simp (disch:=omega) only [push_cast,↓zz,seval,hP]);(fail_if_success (with_reducible change False)))|((with_reducible first|refine cK hI ?_|refine cQ hI ?_|refine cG hI ?_);(simp (disch:=omega) only [push_cast,↓zz,seval,hP]);(fail_if_success (with_reducible change False)))|omega|with_reducible intro _))
 | true =>
 obtain ⟨p1,p2,p3⟩:=s2 hok
 have hrng:∀ v,memL (z44 t i gs).1 v→0 ≤ v∧v ≤ 1114111:=fun v hv=>by
   obtain ⟨w,hw,rfl⟩:=(p3 v).1 hv
   exact s1.1 hok w hw
 rw [hok] at hI
 rw [Bool.true_and]
 clear s1 s2 p3
 generalize (z44 t i gs).1=l at *
 have hpl:=z2b l
 by_cases ho:o=2
 · subst ho
   have hD:=zci 2
   have hM:=zbb l (domL 2) 2 (by omega) (by have:=zjl 2;omega)
   rw [zh6] at hM
   rw [if_pos rfl]
   have hlen:decide (((z48 l (domL 2)).length:Int)=0)=decide (z48 l (domL 2)=[]):=by
     rw [decide_eq_decide]
     constructor
     · exact fun h=>List.eq_nil_of_length_eq_zero (by omega)
     · intro h;rw [h];rfl
   (repeat' (first|(simp (disch:=omega) only [push_cast,↓zz,seval,hP,hpl])|(with_reducible first|refine And.intro ?_ ?_|(first|refine z01 ?_ ?_|refine z00 ?_ ?_)<;>intro hc<;>(try simp only [push_cast] at hc))|((with_reducible first|refine eK hR ?_|refine eQ hR ?_|refine eG hR ?_))|((with_reducible first|refine eK hI ?_|refine eQ hI ?_|refine eG hI ?_))|((with_reducible first|refine eK hD ?_|refine eQ hD ?_|refine eG hD ?_))|((with_reducible first|refine eK hM ?_|refine eQ hM ?_|refine eG hM ?_))|((with_reducible first|refine cK hR ?_|refine cQ hR ?_|refine cG hR ?_);(simp (disch:=omega) only [push_cast,↓zz,seval,hP,hpl]);(fail_if_success (with_reducible change False)))|((with_reducible first|refine cK hI ?_|refine cQ hI ?_|refine cG hI ?_);(simp (disch:=omega) only [push_cast,↓zz,seval,hP,hpl]);(fail_if_success (with_reducible change False)))|((with_reducible first|refine cK hD ?_|refine cQ hD ?_|refine cG hD ?_);(simp (disch:=omega) only [push_cast,↓zz,seval,hP,hpl]);(fail_if_success (with_reducible change False)))|((with_reducible first|refine cK hM ?_|refine cQ hM ?_|refine cG hM ?_);(simp (disch:=omega) only [push_cast,↓zz,seval,hP,hpl]);(fail_if_success (with_reducible change False)))|omega|with_reducible intro _))
 · rw [if_neg ho]
   have hT1:=z6v t.drop (by omega)
   have hT2:=z6v t.take (by omega)
   have hT3:=z6v t.up (by omega)
   have pd:=z6e t.drop.toNat (by omega)
   have pt:=z6e t.take.toNat (by omega)
   have pu:=z6e t.up.toNat (by omega)
   have hoq:∀ q,okQ t q=decide (0 ≤ t.base + q % 2 ^ t.take.toNat * 2 ^ t.up.toNat∧t.base + q % 2 ^ t.take.toNat * 2 ^ t.up.toNat ≤ 255):=fun _=>rfl
   have hsq:∀ s,zjs t s=rowQ t (s.lo / 2 ^ t.drop.toNat) (s.hi / 2 ^ t.drop.toNat - s.lo / 2 ^ t.drop.toNat + 1).toNat:=fun _=>rfl
   obtain ⟨m,hm⟩:∃ m:Nat,(m:Int)=2 ^ t.take.toNat:=⟨2 ^ t.take.toNat,by simp⟩
   have hround:=fun a n=>zz8 (t:=t) (a:=a) (n:=n) hm
   have hfar:=fun a hb=>y8j (t:=t) (a:=a) hm hb (by omega) (by omega)
   generalize (2:Int) ^ t.take.toNat=P at *
   subst hm
   generalize (2:Int) ^ t.drop.toNat=D at *
   generalize (2:Int) ^ t.up.toNat=U at *
   (repeat' (first|(simp (disch:=omega) only [push_cast,↓zz,seval,hP,hpl])|(with_reducible first|refine And.intro ?_ ?_|(first|refine z01 ?_ ?_|refine z00 ?_ ?_)<;>intro hc<;>(try simp only [push_cast] at hc))|((with_reducible first|refine eK hR ?_|refine eQ hR ?_|refine eG hR ?_))|((with_reducible first|refine eK hI ?_|refine eQ hI ?_|refine eG hI ?_))|((with_reducible first|refine eK hT1 ?_|refine eQ hT1 ?_|refine eG hT1 ?_))|((with_reducible first|refine eK hT2 ?_|refine eQ hT2 ?_|refine eG hT2 ?_))|((with_reducible first|refine eK hT3 ?_|refine eQ hT3 ?_|refine eG hT3 ?_))|((with_reducible first|refine cK hR ?_|refine cQ hR ?_|refine cG hR ?_);(simp (disch:=omega) only [push_cast,↓zz,seval,hP,hpl]);(fail_if_success (with_reducible change False)))|((with_reducible first|refine cK hI ?_|refine cQ hI ?_|refine cG hI ?_);(simp (disch:=omega) only [push_cast,↓zz,seval,hP,hpl]);(fail_if_success (with_reducible change False)))|((with_reducible first|refine cK hT1 ?_|refine cQ hT1 ?_|refine cG hT1 ?_);(simp (disch:=omega) only [push_cast,↓zz,seval,hP,hpl]);(fail_if_success (with_reducible change False)))|((with_reducible first|refine cK hT2 ?_|refine cQ hT2 ?_|refine cG hT2 ?_);(simp (disch:=omega) only [push_cast,↓zz,seval,hP,hpl]);(fail_if_success (with_reducible change False)))|((with_reducible first|refine cK hT3 ?_|refine cQ hT3 ?_|refine cG hT3 ?_);(simp (disch:=omega) only [push_cast,↓zz,seval,hP,hpl]);(fail_if_success (with_reducible change False)))|omega|with_reducible intro _))
   refine z0f (z0g (fun (k:Nat)=>k ≤ l.length∧l.all (zjs t)=(l.drop k).all (zjs t)) (fun k=>l.length - k)
     (fun k=>[(4,.ptr 0 1 0 0),(9,z03 l),(11,.int .i64 D),(12,.int .i64 m),(13,.int .i64 U),(14,.int .i64 k)]) (fun k=>[⟨6,1,true,[z1q t]⟩]) (fun env _=>[z0k 1 (env 4)]) 0 ⟨by simp,rfl⟩ ?_ ?_)
   · (repeat' (first|(simp (disch:=omega) only [push_cast,↓zz,seval,hP,hpl])|(with_reducible first|refine And.intro ?_ ?_|(first|refine z01 ?_ ?_|refine z00 ?_ ?_)<;>intro hc<;>(try simp only [push_cast] at hc))|omega|with_reducible intro _))
   rintro k ⟨k1,k2⟩
   rcases Nat.lt_or_ge k l.length with hk|hk
   · rw [y3c hk] at k2
     have hs1:=p1.1 _ (z0i hk)
     have hs2:=hrng (nth l k).lo ⟨_,z0i hk,Int.le_refl _,hs1⟩
     have hs3:=hrng (nth l k).hi ⟨_,z0i hk,hs1,Int.le_refl _⟩
     generalize hse:nth l k=s at *
     rw [hsq] at k2
     have q1:s.lo.tdiv D=s.lo / D:=Int.tdiv_eq_ediv_of_nonneg hs2.1
     have q2:s.hi.tdiv D=s.hi / D:=Int.tdiv_eq_ediv_of_nonneg hs3.1
     have b1:0 ≤ s.lo / D:=Int.ediv_nonneg hs2.1 (by omega)
     have b2:s.hi / D ≤ s.hi:=Int.ediv_le_self _ hs3.1
     have b3:s.lo / D ≤ s.hi / D:=Int.ediv_le_ediv (by omega) hs1
     have w1:IntKind.i64.wrap (s.lo / D)=s.lo / D:=IntWalk.i64_in _ (by omega)
     have w2:IntKind.i64.wrap (s.hi / D)=s.hi / D:=IntWalk.i64_in _ (by omega)
     generalize s.lo / D=a at *
     generalize s.hi / D=b at *
     refine W_T ?_
     (repeat' (first|(simp (disch:=omega) only [push_cast,↓zz,seval,hP,hpl,hse,q1,q2,w1,w2])|(with_reducible first|refine And.intro ?_ ?_|(first|refine z01 ?_ ?_|refine z00 ?_ ?_)<;>intro hc<;>(try simp only [push_cast] at hc))|omega|with_reducible intro _))
     refine z0f (z0g (fun (n:Nat)=>n ≤ (b - a + 1).toNat∧∀ j:Nat,j < n→okQ t (a + j)=true) (fun n=>(b - a + 1).toNat - n)
       (fun n=>[(4,.ptr 0 1 0 0),(9,z03 l),(11,.int .i64 D),(12,.int .i64 m),(13,.int .i64 U),(14,.int .i64 k),(15,.int .i64 a),(16,.int .i64 b),(17,.int .i64 (a + n))]) (fun n=>[⟨6,1,true,[z1q t]⟩]) (fun env _=>[z0k 1 (env 4)]) 0 ⟨by simp,fun j hj=>by omega⟩ ?_ ?_)
     · (repeat' (first|(simp (disch:=omega) only [push_cast,↓zz,seval,hP,hpl])|(with_reducible first|refine And.intro ?_ ?_|(first|refine z01 ?_ ?_|refine z00 ?_ ?_)<;>intro hc<;>(try simp only [push_cast] at hc))|omega|with_reducible intro _))
     rintro n ⟨n1,n2⟩
     rcases Nat.lt_or_ge n (b - a + 1).toNat with hn|hn
     · have r0:0 ≤ (a + n) % (m:Int):=Int.emod_nonneg _ (by omega)
       have r1:(a + n) % (m:Int) < m:=Int.emod_lt_of_pos _ (by omega)
       have hrm:(a + n).tmod m=(a + n) % (m:Int):=Int.tmod_eq_emod_of_nonneg (by omega)
       have hoqn:=hoq (a + n)
       generalize (a + (n:Int)) % (m:Int)=r at *
       have v0:0 ≤ r * U:=Int.mul_nonneg r0 (by omega)
       have v1:r * U ≤ 2097152 * 2097152:=Int.mul_le_mul (by omega) (by omega) (by omega) (by omega)
       have w3:IntKind.i64.wrap r=r:=IntWalk.i64_in _ (by omega)
       have w4:IntKind.i64.wrap (r * U)=r * U:=IntWalk.i64_in _ (by omega)
       obtain ⟨v,hv⟩:∃ v,r * U=v:=⟨_,rfl⟩
       rw [hv] at v0 v1 w4 hoqn
       have w5:IntKind.i64.wrap (t.base + v)=t.base + v:=IntWalk.i64_in _ (by omega)
       by_cases hf:300 < n∧300 < m
       · have f1:=n2 0 (by omega)
         have f2:=n2 256 (by omega)
         exact absurd (hfar a hf.2 (by simpa using f1) (by simpa using f2)) (by simp)
       refine W_T ?_
       by_cases hbr:m < n
       · have hrow:=hround a (b - a + 1).toNat fun j hj=>n2 j (by omega)
         rw [hrow,Bool.true_and] at k2
         (repeat' (first|(simp (disch:=omega) only [push_cast,↓zz,seval,hP,hpl])|(with_reducible first|refine And.intro ?_ ?_|(first|refine z01 ?_ ?_|refine z00 ?_ ?_)<;>intro hc<;>(try simp only [push_cast] at hc))|omega|with_reducible intro _))
         all_goals first
           | exact ⟨k + 1,by push_cast,⟨by omega,k2⟩,by omega⟩
           | trace_state
       · cases hb:okQ t (a + n) with
         | false =>
           rw [hb] at hoqn
           have hno:=of_decide_eq_false hoqn.symm
           rw [zui hn hb,Bool.false_and] at k2
           (repeat' (first|(simp (disch:=omega) only [push_cast,↓zz,seval,hP,hpl,hrm,hv,w3,w4,w5,k2])|(with_reducible first|refine And.intro ?_ ?_|(first|refine z01 ?_ ?_|refine z00 ?_ ?_)<;>intro hc<;>(try simp only [push_cast] at hc))|omega|with_reducible intro _))
         | true =>
           rw [hb] at hoqn
           have hyes:=of_decide_eq_true hoqn.symm
           have nx:∀ j:Nat,j < n + 1→okQ t (a + j)=true:=fun j hj=>by
             rcases Nat.lt_or_ge j n with h|h
             · exact n2 j h
             · rw [show j=n by omega];exact hb
           (repeat' (first|(simp (disch:=omega) only [push_cast,↓zz,seval,hP,hpl,hrm,hv,w3,w4,w5])|(with_reducible first|refine And.intro ?_ ?_|(first|refine z01 ?_ ?_|refine z00 ?_ ?_)<;>intro hc<;>(try simp only [push_cast] at hc))|omega|with_reducible intro _))
           all_goals first
             | exact ⟨n + 1,by push_cast;omega,⟨by omega,nx⟩,by omega⟩
             | trace_state
     · have hrow:rowQ t a (b - a + 1).toNat=true:=zfd.2 fun j hj=>n2 j (by omega)
       rw [hrow,Bool.true_and] at k2
       refine W_T ?_
       (repeat' (first|(simp (disch:=omega) only [push_cast,↓zz,seval,hP,hpl])|(with_reducible first|refine And.intro ?_ ?_|(first|refine z01 ?_ ?_|refine z00 ?_ ?_)<;>intro hc<;>(try simp only [push_cast] at hc))|omega|with_reducible intro _))
       all_goals first
         | exact ⟨k + 1,by push_cast,⟨by omega,k2⟩,by omega⟩
         | trace_state
   · rw [List.drop_of_length_le hk,List.all_nil] at k2
     refine W_T ?_
     (repeat' (first|(simp (disch:=omega) only [push_cast,↓zz,seval,hP,hpl,k2])|(with_reducible first|refine And.intro ?_ ?_|(first|refine z01 ?_ ?_|refine z00 ?_ ?_)<;>intro hc<;>(try simp only [push_cast] at hc))|omega|with_reducible intro _))
     all_goals trace_state
theorem zhm {t:Term} {s:Span} (hs:s.lo ≤ s.hi):zjs t s=true ↔ ∀ v,s.lo ≤ v→v ≤ s.hi→okQ t (v / 2 ^ t.drop.toNat)=true:=by
 have hD:(0:Int) < 2 ^ t.drop.toNat:=Int.pow_pos (by decide)
 rw [zjs,zfd]
 generalize (2:Int) ^ t.drop.toNat=D at *
 have hq:=fun q=>zyl (lo:=s.lo) (hi:=s.hi) (q:=q) hD hs
 have hle:s.lo / D ≤ s.hi / D:=Int.ediv_le_ediv hD hs
 constructor
 · intro h v h1 h2
   have b1:s.lo / D ≤ v / D:=Int.ediv_le_ediv hD h1
   have b2:v / D ≤ s.hi / D:=Int.ediv_le_ediv hD h2
   have:=h (v / D - s.lo / D).toNat (by omega)
   rwa [show s.lo / D + (((v / D - s.lo / D).toNat:Nat):Int)=v / D by omega] at this
 · intro h k hk
   obtain ⟨x,x1,x2,x3⟩:=(hq (s.lo / D + k)).2 ⟨by omega,by omega⟩
   rw [← x3]
   exact h x x1 x2
theorem zrw {t:Term} {i o:Int} {n:Int} {w:List Int} {x:Int} (hr:z4h t i o n=true) (hx:0 ≤ x∧x ≤ 1114111) (hv:z73 t w=some (t.base + valP t.outer x)) :
   fitW t o w=true ↔ (if o=2 then zf8 o x else okQ t (x / 2 ^ t.drop.toNat))=true:=by
 rw [fitW,hv]
 simp only
 simp only [z4h,zm3,zcg,Bool.and_eq_true,Bool.or_eq_true,decide_eq_true_eq] at hr
 obtain ⟨⟨⟨⟨⟨_,h1⟩,_⟩,_⟩,_⟩,h2⟩:=hr
 by_cases ho:o=2
 · rw [if_pos ho]
   obtain ⟨b1,b2,b3,b4⟩:t.base=0∧t.drop=0∧t.take=21∧t.up=0:=by
     rcases h2 with h2|h2
     · exact absurd ho h2
     · exact h2
   have e:t.base + valP t.outer x=x:=by
     simp only [valP,Term.outer,b1,b2,b3,b4]
     simp
     omega
   rw [e,Bool.and_eq_true,decide_eq_true_eq]
   exact ⟨fun h=>h.2,fun h=>⟨hx,h⟩⟩
 · rw [if_neg ho]
   have ho1:o=1:=by omega
   have e:okQ t (x / 2 ^ t.drop.toNat)=decide (0 ≤ t.base + valP t.outer x∧t.base + valP t.outer x ≤ 255):=rfl
   rw [e,ho1,Bool.and_eq_true,decide_eq_true_eq,decide_eq_true_eq,zf8,decide_eq_true_eq]
   omega
theorem zz9 {t:Term} {i o:Int} {gs:List (List Span)} (hG:GOk i gs):zz7 t i o gs=zcn t i o gs:=by
 rw [Bool.eq_iff_iff,zmo hG.len,zz7,Bool.and_eq_true,Bool.and_eq_true]
 refine and_congr_right fun hr=>?_
 obtain ⟨hn,hp⟩:=z4g hr
 have hS:=z8b hp hG.len
 have hT:=y4b hr
 obtain ⟨s1,s2⟩:=zhl hT hG
 have hval:=fun w hw=>z6j (w:=w) hS hn hw
 constructor
 · rintro ⟨hok,hres⟩ w hw
   have hrng:=s1.1 hok w hw
   obtain ⟨p1,p2,p3⟩:=s2 hok
   have hm:=(p3 _).2 ⟨w,hw,rfl⟩
   rw [zrw hr hrng (by rw [hval w hw,if_pos hrng])]
   generalize (z44 t i gs).1=l at *
   have hbl:∀ v,memL l v→-1073741824 ≤ v∧v ≤ 1073741824:=fun v hv=>by
     obtain ⟨w,hw,rfl⟩:=(p3 v).1 hv
     have:=s1.1 hok w hw
     omega
   by_cases ho:o=2
   · rw [if_pos ho] at hres ⊢
     rw [decide_eq_true_eq] at hres
     exact z9d.1 ((z6k hbl p1.1).1 hres _ hm)
   · rw [if_neg ho] at hres ⊢
     obtain ⟨s,hs,hs2⟩:=hm
     exact (zhm (p1.1 s hs)).1 (List.all_eq_true.1 hres s hs) _ hs2.1 hs2.2
 · intro h
   have hok:(z44 t i gs).2=true:=s1.2 fun w hw=>by
     have:=h w hw
     rw [fitW,hval w hw] at this
     split at this
     · rename_i v hv
       split at hv
       · assumption
       · cases hv
     · cases this
   refine ⟨hok,?_⟩
   obtain ⟨p1,p2,p3⟩:=s2 hok
   have hfw:∀ v,memL (z44 t i gs).1 v→(if o=2 then zf8 o v else okQ t (v / 2 ^ t.drop.toNat))=true:=fun v hv=>by
     obtain ⟨w,hw,rfl⟩:=(p3 v).1 hv
     have hrng:=s1.1 hok w hw
     exact (zrw hr hrng (by rw [hval w hw,if_pos hrng])).1 (h w hw)
   have hbl:∀ v,memL (z44 t i gs).1 v→-1073741824 ≤ v∧v ≤ 1073741824:=fun v hv=>by
     obtain ⟨w,hw,rfl⟩:=(p3 v).1 hv
     have:=s1.1 hok w hw
     omega
   by_cases ho:o=2
   · rw [if_pos ho,decide_eq_true_eq,z6k hbl p1.1]
     intro v hv
     have:=hfw v hv
     rw [if_pos ho] at this
     exact z9d.2 this
   · rw [if_neg ho,List.all_eq_true]
     intro s hs
     rw [zhm (p1.1 s hs)]
     intro v h1 h2
     have:=hfw v ⟨s,hs,h1,h2⟩
     rwa [if_neg ho] at this
theorem zhn:∀ {l:List Span} {last:Int},zch last l=true ↔ (∀ s ∈ l,s.lo ≤ s.hi∧-1073741824 ≤ s.lo∧s.hi ≤ 1073741824∧last + 1 < s.lo)∧l.Pairwise fun s t=>s.hi + 1 < t.lo
 | [],last=>by simp [zch]
 | s :: l,last=>by
   rw [zch,Bool.and_eq_true,decide_eq_true_eq,zhn (l:=l),List.pairwise_cons]
   constructor
   · rintro ⟨h1,h2,h3⟩
     refine ⟨fun t ht=>?_,fun t ht=>(h2 t ht).2.2.2,h3⟩
     rcases List.mem_cons.1 ht with rfl|ht
     · exact h1
     · have:=h2 t ht
       omega
   · rintro ⟨h1,h2,h3⟩
     exact ⟨h1 s (by simp),fun t ht=>⟨(h1 t (by simp [ht])).1,(h1 t (by simp [ht])).2.1,(h1 t (by simp [ht])).2.2.1,h2 t ht⟩,h3⟩
theorem zuk {g:List Span}:zev g=true ↔ g=z0d g:=by
 rw [zev,zhn]
 constructor
 · rintro ⟨h1,h2⟩
   exact (zam ⟨fun s hs=>(h1 s hs).1,h2⟩ fun s hs=>⟨(h1 s hs).2.1,(h1 s hs).2.2.1⟩).symm
 · intro h
   have hp:=(z0c g).1
   have hb:=z2z g
   rw [← h] at hp hb
   exact ⟨fun s hs=>by have:=hb s hs;omega,hp.2⟩
def zrx (i:Int) (g:List Span):Bool:=decide (g.length ≠ 0) && (decide (g.length ≤ 64) && (decide (g=z0d g) && decide (z48 g (domL i)=[])))
theorem zho (i:Int) (g:List Span):zrx i g=z7q i g:=by
 have hc:decide (g=z0d g)=zev g:=by rw [Bool.eq_iff_iff,decide_eq_true_eq,zuk]
 have h1:decide (g.length ≠ 0)=!decide ((g.length:Int)=0):=by
   rw [Bool.eq_iff_iff,Bool.not_eq_true',decide_eq_true_eq,decide_eq_false_iff_not];omega
 have h2:decide (g.length ≤ 64)=decide ((g.length:Int) ≤ 64):=by rw [decide_eq_decide];omega
 rw [zrx,z7q,hc,h1,h2]
theorem zfe {i:Int} {gs:List (List Span)} (h:z2k i gs=true):GOk i gs:=by
 obtain ⟨h1,h2⟩:=z4i h
 simp only [z2k,Bool.and_eq_true,List.all_eq_true] at h
 have hg:∀ g ∈ gs,g.length ≠ 0∧g=z0d g∧z48 g (domL i)=[]:=fun g hm=>by
   have:=h.2 g hm
   rw [← zho] at this
   simp only [zrx,Bool.and_eq_true,decide_eq_true_eq] at this
   exact ⟨this.1,this.2.2.1,this.2.2.2⟩
 refine ⟨h1,h2,fun g hm=>?_,fun g hm v hv=>?_⟩
 · obtain ⟨g1,g2,g3⟩:=hg g hm
   obtain ⟨s,hs⟩:=List.exists_mem_of_length_pos (show 0 < g.length by omega)
   have hf:=(z0c g).1.1
   rw [← g2] at hf
   exact ⟨s.lo,s,hs,Int.le_refl _,hf s hs⟩
 · obtain ⟨g1,g2,g3⟩:=hg g hm
   have hb:=z2z g
   have hf:=(z0c g).1.1
   rw [← g2] at hb hf
   have hbl:∀ v,memL g v→-1073741824 ≤ v∧v ≤ 1073741824:=fun v ⟨s,hs,hv⟩=>by have:=hb s hs;omega
   exact z9d.1 ((z6k hbl hf).1 g3 v hv)
theorem y8k {α:Type} [Inhabited α] {p:α→Bool} {l:List α} {k:Nat} (h:k < l.length):(l.drop k).all p=(p (nth l k) && (l.drop (k + 1)).all p):=by rw [drop_at h,List.all_cons]
theorem zcj (i:Int) (gs:List (List Span)) (hl:gs.length ≤ 9223372036854775807):PC Tryz.prog 53 [.int .i64 i,z0b gs] (.bool (z2k i gs)):=by
 have hP:=z05 gs
 have hD:=zci i
 refine z0s zfq ?_
 unfold z8p
 (repeat' (first|(simp (disch:=omega) only [push_cast,↓zz,seval])|(with_reducible first|refine And.intro ?_ ?_|(first|refine z01 ?_ ?_|refine z00 ?_ ?_)<;>intro hc<;>(try simp only [push_cast] at hc))|omega|with_reducible intro _))
 refine z0f (z0g (fun (k:Nat)=>k ≤ gs.length∧gs.all (z7q i)=(gs.drop k).all (z7q i)) (fun k=>gs.length - k)
   (fun k=>[(0,.int .i64 i),(1,z0b gs),(5,.int .i64 k)]) (fun k=>[]) (fun _ _=>[]) 0 ⟨by simp,rfl⟩ ?_ ?_)
 · (repeat' (first|(simp (disch:=omega) only [push_cast,↓zz,seval,hP])|(with_reducible first|refine And.intro ?_ ?_|(first|refine z01 ?_ ?_|refine z00 ?_ ?_)<;>intro hc<;>(try simp only [push_cast] at hc))|omega|with_reducible intro _))
 rintro k ⟨k1,k2⟩
 rcases Nat.lt_or_ge k gs.length with hk|hk
 · rw [y8k hk,← zho,zrx] at k2
   generalize hge:nth gs k=g at *
   have hpg:=z2b g
   have hno:z2k i gs=(decide ((gs.length:Int) ≤ 4) && gs.all (z7q i)):=rfl
   rw [hno]
   refine W_T ?_
   by_cases g1:g.length ≠ 0∧g.length ≤ 64
   · rw [decide_eq_true g1.1,decide_eq_true g1.2,Bool.true_and,Bool.true_and] at k2
     have hN:=z8a g (by omega)
     have hS:=zbc g (z0d g) (by omega)
     have hM:=zbb g (domL i) 2 (by omega) (by have:=zjl i;omega)
     rw [zh6] at hM
     have hlen:(z48 g (domL i)).length ≤ 9223372036854775807 ∨ True:=.inr trivial
     by_cases h2:g=z0d g
     · rw [decide_eq_true h2] at hS
       rw [decide_eq_true h2,Bool.true_and] at k2
       by_cases h3:z48 g (domL i)=[]
       · rw [h3] at hM
         rw [decide_eq_true h3,Bool.true_and] at k2
         (repeat' (first|(simp (disch:=omega) only [push_cast,↓zz,seval,hP,hge,hpg])|(with_reducible first|refine And.intro ?_ ?_|(first|refine z01 ?_ ?_|refine z00 ?_ ?_)<;>intro hc<;>(try simp only [push_cast] at hc))|((with_reducible first|refine eK hN ?_|refine eQ hN ?_|refine eG hN ?_))|((with_reducible first|refine eK hS ?_|refine eQ hS ?_|refine eG hS ?_))|((with_reducible first|refine eK hD ?_|refine eQ hD ?_|refine eG hD ?_))|((with_reducible first|refine eK hM ?_|refine eQ hM ?_|refine eG hM ?_))|((with_reducible first|refine cK hN ?_|refine cQ hN ?_|refine cG hN ?_);(simp (disch:=omega) only [push_cast,↓zz,seval,hP,hge,hpg]);(fail_if_success (with_reducible change False)))|((with_reducible first|refine cK hS ?_|refine cQ hS ?_|refine cG hS ?_);(simp (disch:=omega) only [push_cast,↓zz,seval,hP,hge,hpg]);(fail_if_success (with_reducible change False)))|((with_reducible first|refine cK hD ?_|refine cQ hD ?_|refine cG hD ?_);(simp (disch:=omega) only [push_cast,↓zz,seval,hP,hge,hpg]);(fail_if_success (with_reducible change False)))|((with_reducible first|refine cK hM ?_|refine cQ hM ?_|refine cG hM ?_);(simp (disch:=omega) only [push_cast,↓zz,seval,hP,hge,hpg]);(fail_if_success (with_reducible change False)))|omega|with_reducible intro _))
         all_goals first
           | exact ⟨k + 1,by push_cast,⟨by omega,k2⟩,by omega⟩
           | trace_state
       · have hpos:=List.length_pos_iff.2 h3
         rw [decide_eq_false h3,Bool.false_and] at k2
         rw [k2,Bool.and_false]
         generalize z48 g (domL i)=m at *
         (repeat' (first|(simp (disch:=omega) only [push_cast,↓zz,seval,hP,hge,hpg])|(with_reducible first|refine And.intro ?_ ?_|(first|refine z01 ?_ ?_|refine z00 ?_ ?_)<;>intro hc<;>(try simp only [push_cast] at hc))|((with_reducible first|refine eK hN ?_|refine eQ hN ?_|refine eG hN ?_))|((with_reducible first|refine eK hS ?_|refine eQ hS ?_|refine eG hS ?_))|((with_reducible first|refine eK hD ?_|refine eQ hD ?_|refine eG hD ?_))|((with_reducible first|refine eK hM ?_|refine eQ hM ?_|refine eG hM ?_))|((with_reducible first|refine cK hN ?_|refine cQ hN ?_|refine cG hN ?_);(simp (disch:=omega) only [push_cast,↓zz,seval,hP,hge,hpg]);(fail_if_success (with_reducible change False)))|((with_reducible first|refine cK hS ?_|refine cQ hS ?_|refine cG hS ?_);(simp (disch:=omega) only [push_cast,↓zz,seval,hP,hge,hpg]);(fail_if_success (with_reducible change False)))|((with_reducible first|refine cK hD ?_|refine cQ hD ?_|refine cG hD ?_);(simp (disch:=omega) only [push_cast,↓zz,seval,hP,hge,hpg]);(fail_if_success (with_reducible change False)))|((with_reducible first|refine cK hM ?_|refine cQ hM ?_|refine cG hM ?_);(simp (disch:=omega) only [push_cast,↓zz,seval,hP,hge,hpg]);(fail_if_success (with_reducible change False)))|omega|with_reducible intro _))
     · rw [decide_eq_false h2] at hS
       rw [decide_eq_false h2,Bool.false_and,Bool.false_and] at k2
       rw [k2,Bool.and_false]
       (repeat' (first|(simp (disch:=omega) only [push_cast,↓zz,seval,hP,hge,hpg])|(with_reducible first|refine And.intro ?_ ?_|(first|refine z01 ?_ ?_|refine z00 ?_ ?_)<;>intro hc<;>(try simp only [push_cast] at hc))|((with_reducible first|refine eK hN ?_|refine eQ hN ?_|refine eG hN ?_))|((with_reducible first|refine eK hS ?_|refine eQ hS ?_|refine eG hS ?_))|((with_reducible first|refine cK hN ?_|refine cQ hN ?_|refine cG hN ?_);(simp (disch:=omega) only [push_cast,↓zz,seval,hP,hge,hpg]);(fail_if_success (with_reducible change False)))|((with_reducible first|refine cK hS ?_|refine cQ hS ?_|refine cG hS ?_);(simp (disch:=omega) only [push_cast,↓zz,seval,hP,hge,hpg]);(fail_if_success (with_reducible change False)))|omega|with_reducible intro _))
   · have:(decide (g.length ≠ 0) && (decide (g.length ≤ 64) && (decide (g=z0d g) && decide (z48 g (domL i)=[]))))=false:=by
       by_cases h:g.length ≠ 0
       · rw [decide_eq_false (p:=g.length ≤ 64) (by omega),Bool.false_and,Bool.and_false]
       · rw [decide_eq_false h,Bool.false_and]
     rw [this,Bool.false_and] at k2
     rw [k2,Bool.and_false]
     (repeat' (first|(simp (disch:=omega) only [push_cast,↓zz,seval,hP,hge,hpg])|(with_reducible first|refine And.intro ?_ ?_|(first|refine z01 ?_ ?_|refine z00 ?_ ?_)<;>intro hc<;>(try simp only [push_cast] at hc))|omega|with_reducible intro _))
 · rw [List.drop_of_length_le hk,List.all_nil] at k2
   have hno:z2k i gs=decide ((gs.length:Int) ≤ 4):=by rw [z2k,k2,Bool.and_true]
   rw [hno]
   refine W_T ?_
   (repeat' (first|(simp (disch:=omega) only [push_cast,↓zz,seval,hP])|(with_reducible first|refine And.intro ?_ ?_|(first|refine z01 ?_ ?_|refine z00 ?_ ?_)<;>intro hc<;>(try simp only [push_cast] at hc))|omega|with_reducible intro _))
   all_goals trace_state
theorem z7t (d:Desc) (out:List Term) (gs:List (List Span)) (ho:∀ t ∈ out,t.parts.length < 1000000000000) (hG:GOk d.in_ gs) :
   PC Tryz.prog 54 [z1j d,z3n out,z0b gs] (.bool (z2p d out gs)):=by
 have hP:=z05 gs
 have hT:=z0w out
 refine z0s zfr ?_
 unfold z8q
 by_cases h4:64 < out.length
 · rw [z2p,decide_eq_false (by omega),Bool.false_and]
   (repeat' (first|(simp (disch:=omega) only [push_cast,↓zz,seval])|(with_reducible first|refine And.intro ?_ ?_|(first|refine z01 ?_ ?_|refine z00 ?_ ?_)<;>intro hc<;>(try simp only [push_cast] at hc))|omega|with_reducible intro _))
   refine z0f (z0g (fun (k:Nat)=>k=0) (fun k=>0)
     (fun k=>[(1,z3n out),(2,z0b gs),(3,.ptr 0 1 0 0),(7,.int .i64 k)]) (fun s=>[⟨6,1,true,[z1j d]⟩]) (fun env _=>[z0k 1 (env 3)]) 0 rfl ?_ ?_)
   · (repeat' (first|(simp (disch:=omega) only [push_cast,↓zz,seval,hP,hT])|(with_reducible first|refine And.intro ?_ ?_|(first|refine z01 ?_ ?_|refine z00 ?_ ?_)<;>intro hc<;>(try simp only [push_cast] at hc))|omega|with_reducible intro _))
   rintro k rfl
   refine W_T ?_
   (repeat' (first|(simp (disch:=omega) only [push_cast,↓zz,seval,hP,hT])|(with_reducible first|refine And.intro ?_ ?_|(first|refine z01 ?_ ?_|refine z00 ?_ ?_)<;>intro hc<;>(try simp only [push_cast] at hc))|omega|with_reducible intro _))
 rw [z2p,decide_eq_true (by omega),Bool.true_and]
 (repeat' (first|(simp (disch:=omega) only [push_cast,↓zz,seval])|(with_reducible first|refine And.intro ?_ ?_|(first|refine z01 ?_ ?_|refine z00 ?_ ?_)<;>intro hc<;>(try simp only [push_cast] at hc))|omega|with_reducible intro _))
 refine z0f (z0g (fun (k:Nat)=>k ≤ out.length∧(out.all fun t=>zcn t d.in_ d.out gs)=(out.drop k).all fun t=>zcn t d.in_ d.out gs) (fun k=>out.length - k)
   (fun k=>[(1,z3n out),(2,z0b gs),(3,.ptr 0 1 0 0),(7,.int .i64 k)]) (fun s=>[⟨6,1,true,[z1j d]⟩]) (fun env _=>[z0k 1 (env 3)]) 0 ⟨by simp,rfl⟩ ?_ ?_)
 · (repeat' (first|(simp (disch:=omega) only [push_cast,↓zz,seval,hP,hT])|(with_reducible first|refine And.intro ?_ ?_|(first|refine z01 ?_ ?_|refine z00 ?_ ?_)<;>intro hc<;>(try simp only [push_cast] at hc))|omega|with_reducible intro _))
 rintro k ⟨h1,h2⟩
 rcases Nat.lt_or_ge k out.length with hk|hk
 · rw [drop_at hk,List.all_cons] at h2
   have hF:=zuj (nth out k) d.in_ d.out gs (ho _ (z0i hk)) hG
   rw [zz9 hG] at hF
   refine W_T ?_
   (repeat' (first|(simp (disch:=omega) only [push_cast,↓zz,seval,hP,hT])|(with_reducible first|refine And.intro ?_ ?_|(first|refine z01 ?_ ?_|refine z00 ?_ ?_)<;>intro hc<;>(try simp only [push_cast] at hc))|((with_reducible first|refine eK hF ?_|refine eQ hF ?_|refine eG hF ?_))|((with_reducible first|refine cK hF ?_|refine cQ hF ?_|refine cG hF ?_);(simp (disch:=omega) only [push_cast,↓zz,seval,hP,hT]);(fail_if_success (with_reducible change False)))|omega|with_reducible intro _))
   all_goals first
     | (rw [h2];simp [*];done)
     | exact ⟨k + 1,by push_cast,⟨by omega,by rw [h2];simp [*]⟩,by omega⟩
 · rw [List.drop_of_length_le hk,List.all_nil] at h2
   refine W_T ?_
   (repeat' (first|(simp (disch:=omega) only [push_cast,↓zz,seval,hP,hT,h2])|(with_reducible first|refine And.intro ?_ ?_|(first|refine z01 ?_ ?_|refine z00 ?_ ?_)<;>intro hc<;>(try simp only [push_cast] at hc))|omega|with_reducible intro _))
   all_goals trace_state
def sumT {α:Type} (f:α→Int) (l:List α):Int:=(l.map f).sum
theorem zjt {α:Type} [Inhabited α] {f:α→Int} {l:List α} {k:Nat} (h:k < l.length):sumT f (l.take (k + 1))=sumT f (l.take k) + f (nth l k):=by rw [take_at h];simp [sumT]
theorem z57 {α:Type} {f:α→Int} {B:Int} (hf:∀ x,0 ≤ f x∧f x ≤ B):∀ l:List α,0 ≤ sumT f l∧sumT f l ≤ l.length * B
 | []=>by simp [sumT]
 | x :: l=>by
   have h1:=z57 hf l
   have h2:=hf x
   have e:sumT f (x :: l)=f x + sumT f l:=by simp [sumT]
   have e2:((x :: l).length:Int) * B=l.length * B + B:=by push_cast [List.length_cons];rw [Int.add_mul,Int.one_mul]
   omega
theorem z8h {α:Type} {f:α→Int} (hf:∀ x,0 ≤ f x):∀ {l:List α} {x:α},x ∈ l→f x ≤ sumT f l
 | y :: l,x,h=>by
   have e:sumT f (y :: l)=f y + sumT f l:=by simp [sumT]
   have hn:∀ m:List α,0 ≤ sumT f m:=fun m=>by
     induction m with
     | nil=>simp [sumT]
     | cons z m ih =>
       have e:sumT f (z :: m)=f z + sumT f m:=by simp [sumT]
       have:=hf z
       omega
   have h1:=hf y
   have h2:=hn l
   rcases List.mem_cons.1 h with rfl|h
   · omega
   · have:=z8h hf h
     omega
def szG (g:List Span):Int:=min (g.length:Int) 4000
def szT (t:Term):Int:=1 + min (t.parts.length:Int) 4000
theorem zry (g:List Span):0 ≤ szG g∧szG g ≤ 4000:=by unfold szG;omega
theorem zrz (t:Term):0 ≤ szT t∧szT t ≤ 4001:=by unfold szT;omega
def z74 (gs:List (List Span)) (out:List Term):Int:=if 100 < gs.length ∨ 200 < out.length then 4000 else 1 + sumT szG gs + sumT szT out
theorem zhp (gs:List (List Span)) (out:List Term):PC Tryz.prog 24 [z0b gs,z3n out] (.int .i64 (z74 gs out)):=by
 have hP:=z05 gs
 have hT:=z0w out
 refine z0s zlb ?_
 unfold zbp
 by_cases hb:100 < gs.length ∨ 200 < out.length
 · rw [z74,if_pos hb]
   (repeat' (first|(simp (disch:=omega) only [push_cast,↓zz,seval,hP,hT])|(with_reducible first|refine And.intro ?_ ?_|(first|refine z01 ?_ ?_|refine z00 ?_ ?_)<;>intro hc<;>(try simp only [push_cast] at hc))|omega|with_reducible intro _))
 rw [z74,if_neg hb]
 (repeat' (first|(simp (disch:=omega) only [push_cast,↓zz,seval,hP,hT])|(with_reducible first|refine And.intro ?_ ?_|(first|refine z01 ?_ ?_|refine z00 ?_ ?_)<;>intro hc<;>(try simp only [push_cast] at hc))|omega|with_reducible intro _))
 refine z0f (z0g (fun (k:Nat)=>k ≤ gs.length) (fun k=>gs.length - k)
   (fun k=>[(0,z0b gs),(1,z3n out),(5,.int .i64 (1 + sumT szG (gs.take k))),(6,.int .i64 k)]) (fun k=>[]) (fun _ _=>[]) 0 (by simp) ?_ ?_)
 · have e0:sumT szG ([]:List (List Span))=0:=rfl
   (repeat' (first|(simp (disch:=omega) only [push_cast,↓zz,seval,hP,hT,e0])|(with_reducible first|refine And.intro ?_ ?_|(first|refine z01 ?_ ?_|refine z00 ?_ ?_)<;>intro hc<;>(try simp only [push_cast] at hc))|omega|with_reducible intro _))
 intro k hk
 have hb1:=z57 zry (gs.take k)
 have hb2:((gs.take k).length:Int) * 4000 ≤ 100 * 4000:=Int.mul_le_mul_of_nonneg_right (by simp;omega) (by omega)
 rcases Nat.lt_or_ge k gs.length with hkl|hkl
 · have hst:=zjt (f:=szG) hkl
   have hx:=zry (nth gs k)
   have hsz:min ((nth gs k).length:Int) 4000=szG (nth gs k):=rfl
   generalize hge:nth gs k=g at *
   generalize sumT szG (gs.take k)=n at *
   have hw:IntKind.i64.wrap (1 + n + szG g)=1 + n + szG g:=IntWalk.i64_in _ (by omega)
   refine W_T ?_
   (repeat' (first|(simp (disch:=omega) only [push_cast,↓zz,seval,hP,hT,hge,hsz,hw])|(with_reducible first|refine And.intro ?_ ?_|(first|refine z01 ?_ ?_|refine z00 ?_ ?_)<;>intro hc<;>(try simp only [push_cast] at hc))|omega|with_reducible intro _))
   all_goals
     refine ⟨k + 1,?_⟩
     (repeat' (first|(simp (disch:=omega) only [push_cast,↓zz,seval,hst])|(with_reducible first|refine And.intro ?_ ?_|(first|refine z01 ?_ ?_|refine z00 ?_ ?_)<;>intro hc<;>(try simp only [push_cast] at hc))|omega|with_reducible intro _))
   all_goals first
     | omega
     | trace_state
 · have hkt:gs.take k=gs:=List.take_of_length_le hkl
   rw [hkt] at hb1 hb2 ⊢
   generalize sumT szG gs=n at *
   refine W_T ?_
   (repeat' (first|(simp (disch:=omega) only [push_cast,↓zz,seval,hP,hT])|(with_reducible first|refine And.intro ?_ ?_|(first|refine z01 ?_ ?_|refine z00 ?_ ?_)<;>intro hc<;>(try simp only [push_cast] at hc))|omega|with_reducible intro _))
   refine z0f (z0g (fun (k:Nat)=>k ≤ out.length) (fun k=>out.length - k)
     (fun k=>[(1,z3n out),(5,.int .i64 (1 + n + sumT szT (out.take k))),(7,.int .i64 k)]) (fun k=>[]) (fun _ _=>[]) 0 (by simp) ?_ ?_)
   · have e0:sumT szT ([]:List Term)=0:=rfl
     (repeat' (first|(simp (disch:=omega) only [push_cast,↓zz,seval,hP,hT,e0,Int.add_zero])|(with_reducible first|refine And.intro ?_ ?_|(first|refine z01 ?_ ?_|refine z00 ?_ ?_)<;>intro hc<;>(try simp only [push_cast] at hc))|omega|with_reducible intro _))
   intro j hj
   have hb3:=z57 zrz (out.take j)
   have hb4:((out.take j).length:Int) * 4001 ≤ 200 * 4001:=Int.mul_le_mul_of_nonneg_right (by simp;omega) (by omega)
   rcases Nat.lt_or_ge j out.length with hjl|hjl
   · have hst:=zjt (f:=szT) hjl
     have hx:=zrz (nth out j)
     have hsz:szT (nth out j)=1 + min ((nth out j).parts.length:Int) 4000:=rfl
     generalize hge:nth out j=t at *
     generalize sumT szT (out.take j)=m at *
     generalize hze:min (t.parts.length:Int) 4000=z at *
     have hw:IntKind.i64.wrap (1 + n + m + 1)=1 + n + m + 1:=IntWalk.i64_in _ (by omega)
     have hw2:IntKind.i64.wrap (1 + n + m + 1 + z)=1 + n + m + 1 + z:=IntWalk.i64_in _ (by omega)
     refine W_T ?_
     (repeat' (first|(simp (disch:=omega) only [push_cast,↓zz,seval,hP,hT,hge,hze,hw,hw2])|(with_reducible first|refine And.intro ?_ ?_|(first|refine z01 ?_ ?_|refine z00 ?_ ?_)<;>intro hc<;>(try simp only [push_cast] at hc))|omega|with_reducible intro _))
     all_goals
       refine ⟨j + 1,?_⟩
       (repeat' (first|(simp (disch:=omega) only [push_cast,↓zz,seval,hst])|(with_reducible first|refine And.intro ?_ ?_|(first|refine z01 ?_ ?_|refine z00 ?_ ?_)<;>intro hc<;>(try simp only [push_cast] at hc))|omega|with_reducible intro _))
     all_goals first
       | omega
       | trace_state
   · have hjt:out.take j=out:=List.take_of_length_le hjl
     rw [hjt]
     refine W_T ?_
     (repeat' (first|(simp (disch:=omega) only [push_cast,↓zz,seval,hP,hT])|(with_reducible first|refine And.intro ?_ ?_|(first|refine z01 ?_ ?_|refine z00 ?_ ?_)<;>intro hc<;>(try simp only [push_cast] at hc))|omega|with_reducible intro _))
     all_goals trace_state
theorem zbh (gs:List (List Span)) (out:List Term):0 ≤ z74 gs out∧z74 gs out ≤ 2000000:=by
 unfold z74
 have h1:=z57 zry gs
 have h2:=z57 zrz out
 split
 · omega
 · omega
def szR (r:Rule):Int:=z74 r.guards r.out
def szF (f:z4u):Int:=z74 f.guards f.out
def z7u (d:Desc):Bool:=decide (d.rules.length ≤ 80∧d.finals.length ≤ 80) && decide (sumT szR d.rules + sumT szF d.finals ≤ 1500)
theorem zff (d:Desc):PC Tryz.prog 7 [z1j d] (.bool (z7u d)):=by
 have hPr:=z0v d.rules
 have hPf:=z0t d.finals
 have sR:∀ r,0 ≤ szR r∧szR r ≤ 2000000:=fun r=>zbh _ _
 have sF:∀ f,0 ≤ szF f∧szF f ≤ 2000000:=fun r=>zbh _ _
 refine z0s zif ?_
 unfold z9s
 by_cases hb:d.rules.length ≤ 80∧d.finals.length ≤ 80
 · rw [z7u,decide_eq_true hb,Bool.true_and]
   (repeat' (first|(simp (disch:=omega) only [push_cast,↓zz,seval])|(with_reducible first|refine And.intro ?_ ?_|(first|refine z01 ?_ ?_|refine z00 ?_ ?_)<;>intro hc<;>(try simp only [push_cast] at hc))|omega|with_reducible intro _))
   refine z0f (z0g (fun (k:Nat)=>k ≤ d.rules.length) (fun k=>d.rules.length - k)
     (fun k=>[(1,.ptr 0 1 0 0),(3,.int .i64 (sumT szR (d.rules.take k))),(4,.int .i64 k)]) (fun k=>[⟨6,1,true,[z1j d]⟩]) (fun env _=>[z0k 1 (env 1)]) 0 (by simp) ?_ ?_)
   · have e0:sumT szR ([]:List Rule)=0:=rfl
     (repeat' (first|(simp (disch:=omega) only [push_cast,↓zz,seval,hPr,hPf,e0])|(with_reducible first|refine And.intro ?_ ?_|(first|refine z01 ?_ ?_|refine z00 ?_ ?_)<;>intro hc<;>(try simp only [push_cast] at hc))|omega|with_reducible intro _))
   intro k hk
   have hb1:=z57 sR (d.rules.take k)
   have hb2:((d.rules.take k).length:Int) * 2000000 ≤ 80 * 2000000:=Int.mul_le_mul_of_nonneg_right (by simp;omega) (by omega)
   rcases Nat.lt_or_ge k d.rules.length with hkl|hkl
   · have hst:=zjt (f:=szR) hkl
     have hx:=sR (nth d.rules k)
     have hS:=zhp (nth d.rules k).guards (nth d.rules k).out
     have hsz:z74 (nth d.rules k).guards (nth d.rules k).out=szR (nth d.rules k):=rfl
     rw [hsz] at hS
     generalize hge:nth d.rules k=r at *
     generalize sumT szR (d.rules.take k)=n at *
     have hw:IntKind.i64.wrap (n + szR r)=n + szR r:=IntWalk.i64_in _ (by omega)
     have hpg:=z05 r.guards
     have hpt:=z0w r.out
     refine W_T ?_
     (repeat' (first|(simp (disch:=omega) only [push_cast,↓zz,seval,hPr,hPf,hge,hw,hpg,hpt])|(with_reducible first|refine And.intro ?_ ?_|(first|refine z01 ?_ ?_|refine z00 ?_ ?_)<;>intro hc<;>(try simp only [push_cast] at hc))|((with_reducible first|refine eK hS ?_|refine eQ hS ?_|refine eG hS ?_))|((with_reducible first|refine cK hS ?_|refine cQ hS ?_|refine cG hS ?_);(simp (disch:=omega) only [push_cast,↓zz,seval,hPr,hPf,hge,hw,hpg,hpt]);(fail_if_success (with_reducible change False)))|omega|with_reducible intro _))
     all_goals
       refine ⟨k + 1,?_⟩
       (repeat' (first|(simp (disch:=omega) only [push_cast,↓zz,seval,hst])|(with_reducible first|refine And.intro ?_ ?_|(first|refine z01 ?_ ?_|refine z00 ?_ ?_)<;>intro hc<;>(try simp only [push_cast] at hc))|omega|with_reducible intro _))
   · have hkt:d.rules.take k=d.rules:=List.take_of_length_le hkl
     rw [hkt] at hb1 hb2 ⊢
     generalize sumT szR d.rules=n at *
     refine W_T ?_
     (repeat' (first|(simp (disch:=omega) only [push_cast,↓zz,seval,hPr,hPf])|(with_reducible first|refine And.intro ?_ ?_|(first|refine z01 ?_ ?_|refine z00 ?_ ?_)<;>intro hc<;>(try simp only [push_cast] at hc))|omega|with_reducible intro _))
     refine z0f (z0g (fun (k:Nat)=>k ≤ d.finals.length) (fun k=>d.finals.length - k)
       (fun k=>[(1,.ptr 0 1 0 0),(3,.int .i64 (n + sumT szF (d.finals.take k))),(5,.int .i64 k)]) (fun k=>[⟨6,1,true,[z1j d]⟩]) (fun env _=>[z0k 1 (env 1)]) 0 (by simp) ?_ ?_)
     · have e0:sumT szF ([]:List z4u)=0:=rfl
       (repeat' (first|(simp (disch:=omega) only [push_cast,↓zz,seval,hPr,hPf,e0,Int.add_zero])|(with_reducible first|refine And.intro ?_ ?_|(first|refine z01 ?_ ?_|refine z00 ?_ ?_)<;>intro hc<;>(try simp only [push_cast] at hc))|omega|with_reducible intro _))
     intro j hj
     have hb3:=z57 sF (d.finals.take j)
     have hb4:((d.finals.take j).length:Int) * 2000000 ≤ 80 * 2000000:=Int.mul_le_mul_of_nonneg_right (by simp;omega) (by omega)
     rcases Nat.lt_or_ge j d.finals.length with hjl|hjl
     · have hst:=zjt (f:=szF) hjl
       have hx:=sF (nth d.finals j)
       have hS:=zhp (nth d.finals j).guards (nth d.finals j).out
       have hsz:z74 (nth d.finals j).guards (nth d.finals j).out=szF (nth d.finals j):=rfl
       rw [hsz] at hS
       generalize hge:nth d.finals j=f at *
       generalize sumT szF (d.finals.take j)=m at *
       have hw:IntKind.i64.wrap (n + m + szF f)=n + m + szF f:=IntWalk.i64_in _ (by omega)
       have hpg:=z05 f.guards
       have hpt:=z0w f.out
       refine W_T ?_
       (repeat' (first|(simp (disch:=omega) only [push_cast,↓zz,seval,hPr,hPf,hge,hw,hpg,hpt])|(with_reducible first|refine And.intro ?_ ?_|(first|refine z01 ?_ ?_|refine z00 ?_ ?_)<;>intro hc<;>(try simp only [push_cast] at hc))|((with_reducible first|refine eK hS ?_|refine eQ hS ?_|refine eG hS ?_))|((with_reducible first|refine cK hS ?_|refine cQ hS ?_|refine cG hS ?_);(simp (disch:=omega) only [push_cast,↓zz,seval,hPr,hPf,hge,hw,hpg,hpt]);(fail_if_success (with_reducible change False)))|omega|with_reducible intro _))
       all_goals
         refine ⟨j + 1,?_⟩
         (repeat' (first|(simp (disch:=omega) only [push_cast,↓zz,seval,hst])|(with_reducible first|refine And.intro ?_ ?_|(first|refine z01 ?_ ?_|refine z00 ?_ ?_)<;>intro hc<;>(try simp only [push_cast] at hc))|omega|with_reducible intro _))
       all_goals first
         | omega
         | trace_state
     · have hjt:d.finals.take j=d.finals:=List.take_of_length_le hjl
       rw [hjt]
       refine W_T ?_
       (repeat' (first|(simp (disch:=omega) only [push_cast,↓zz,seval,hPr,hPf])|(with_reducible first|refine And.intro ?_ ?_|(first|refine z01 ?_ ?_|refine z00 ?_ ?_)<;>intro hc<;>(try simp only [push_cast] at hc))|omega|with_reducible intro _))
 · rw [z7u,decide_eq_false hb,Bool.false_and]
   (repeat' (first|(simp (disch:=omega) only [push_cast,↓zz,seval])|(with_reducible first|refine And.intro ?_ ?_|(first|refine z01 ?_ ?_|refine z00 ?_ ?_)<;>intro hc<;>(try simp only [push_cast] at hc))|omega|with_reducible intro _))
   all_goals trace_state
theorem zhq {gs:List (List Span)} {out:List Term} (h:z74 gs out ≤ 1500):∀ t ∈ out,t.parts.length < 4000:=by
 unfold z74 at h
 split at h
 · omega
 · intro t ht
   have h1:=z8h (fun t=>(zrz t).1) ht
   have h2:=(z57 zry gs).1
   have h3:szT t=1 + min (t.parts.length:Int) 4000:=rfl
   omega
theorem zza {d:Desc} (h:z7u d=true):z4x d:=by
 simp only [z7u,Bool.and_eq_true,decide_eq_true_eq] at h
 have sR:∀ r,0 ≤ szR r∧szR r ≤ 2000000:=fun r=>zbh _ _
 have sF:∀ f,0 ≤ szF f∧szF f ≤ 2000000:=fun r=>zbh _ _
 have a1:=(z57 sR d.rules).1
 have a2:=(z57 sF d.finals).1
 refine ⟨fun r hr t ht=>?_,fun f hf t ht=>?_⟩
 · have h1:=z8h (fun r=>(sR r).1) hr
   have h2:szR r=z74 r.guards r.out:=rfl
   have:=zhq (gs:=r.guards) (out:=r.out) (by omega) t ht
   omega
 · have h1:=z8h (fun r=>(sF r).1) hf
   have h2:szF f=z74 f.guards f.out:=rfl
   have:=zhq (gs:=f.guards) (out:=f.out) (by omega) t ht
   omega
theorem y8l {s:Int}:0 < ((domL s).length:Int) ↔ (s=1 ∨ s=2):=by
 unfold domL
 split
 · simp [*]
 · split
   · simp [*]
   · simp [*]
theorem y3d {d:Desc}:zex d=true ↔ (d.in_=1 ∨ d.in_=2)∧(d.out=1 ∨ d.out=2)∧(1 ≤ d.states∧d.states ≤ 1024)∧(0 ≤ d.start∧d.start < d.states)∧d.rules.length ≤ 4096∧d.finals.length ≤ 4096:=by
 simp only [zex,z5o,Bool.and_eq_true,decide_eq_true_eq,y8l]
 omega
def zfg (d:Desc) (r:Rule):Prop:=(0 ≤ r.from_∧r.from_ < d.states)∧(0 ≤ r.to_∧r.to_ < d.states)∧((r.guards.length:Int)=0∧r.eat=0 ∨ 1 ≤ r.eat∧r.eat ≤ r.guards.length)
theorem y3e {d:Desc} {r:Rule}:z4f d r=true ↔ zfg d r∧z2k d.in_ r.guards=true∧z2p d r.out r.guards=true:=by
 simp only [z4f,z5o,eatB,zfg,Bool.and_eq_true,Bool.not_eq_true',decide_eq_true_eq,decide_eq_false_iff_not]
 constructor
 · rintro ⟨h1,h2,h3,h4,h5⟩
   exact ⟨⟨h1,h2,by omega⟩,h3,h5⟩
 · rintro ⟨⟨h1,h2,h4⟩,h3,h5⟩
   exact ⟨h1,h2,h3,by omega,h5⟩
theorem zzb {d:Desc} {f:z4u}:z2q d f=true ↔ (0 ≤ f.from_∧f.from_ < d.states)∧z2k d.in_ f.guards=true∧z2p d f.out f.guards=true:=by
 simp only [z2q,z5o,Bool.and_eq_true,decide_eq_true_eq]
structure zfh (d:Desc):Prop where
 fin:z4x d
 rg:∀ r ∈ d.rules,r.guards.length ≤ 9223372036854775807
 fg:∀ f ∈ d.finals,f.guards.length ≤ 9223372036854775807
structure Hold (p:Prop):Prop where
 get:p
theorem share {P Q:Prop} (main:Hold P→Q) (k:Hold P):Q:=main k
set_option maxHeartbeats 4000000 in
set_option maxRecDepth 8000 in
theorem zp7 (d:Desc) (hs:zfh d):PC Tryz.prog 29 [z1j d] (.tup [.int .i64 (z3v d).1,.int .i64 (z3v d).2]):=by
 have hPr:=z0v d.rules
 have hPf:=z0t d.finals
 have hhi:=@y3d d
 refine z0s zij ?_
 unfold z9w
 cases hh:zex d with
 | false =>
   rw [z3v,if_pos hh]
   have hno:¬ ((d.in_=1 ∨ d.in_=2)∧(d.out=1 ∨ d.out=2)∧(1 ≤ d.states∧d.states ≤ 1024)∧(0 ≤ d.start∧d.start < d.states)∧d.rules.length ≤ 4096∧d.finals.length ≤ 4096):=fun h=>by rw [hhi.2 h] at hh;cases hh
   clear hhi
   (repeat' (first|(simp (disch:=omega) only [push_cast,↓zz,seval])|(with_reducible first|refine And.intro ?_ ?_|(first|refine z01 ?_ ?_|refine z00 ?_ ?_)<;>intro hc<;>(try simp only [push_cast] at hc))|omega|with_reducible intro _))
   all_goals first
     | (exfalso;omega)
     | ((repeat' (first|(simp (disch:=omega) only [push_cast,↓zz,seval,z1i])|omega|(with_reducible refine And.intro ?_ ?_)));done)
     | trace_state
 | true =>
 obtain ⟨i1,i2,i3,i4,i5,i6⟩:=hhi.1 hh
 clear hhi
 have hW:z3v d=match z4r (z4f d) d.rules 0 with
   | some i=>(2,(i:Int))
   | none=>match z4r (z2q d) d.finals 0 with
     | some i=>(3,(i:Int))
     | none=>if (@decide (cycP d.rules d.states.toNat) (Classical.propDecidable _))=true then (4,0) else (0,0):=by
   rw [z3v,if_neg (by simp [hh])]
   cases z4r (z4f d) d.rules 0 with
   | some i=>rfl
   | none =>
     cases z4r (z2q d) d.finals 0 with
     | some i=>rfl
     | none =>
       by_cases hc:cycP d.rules d.states.toNat
       · simp only [if_pos hc,@decide_eq_true _ (Classical.propDecidable _) hc,if_true]
       · simp only [if_neg hc,@decide_eq_false _ (Classical.propDecidable _) hc,Bool.false_eq_true,if_false]
 apply share
 · intro key
   (repeat' (first|(simp (disch:=omega) only [push_cast,↓zz,seval])|(with_reducible first|refine And.intro ?_ ?_|(first|refine z01 ?_ ?_|refine z00 ?_ ?_)<;>intro hc<;>(try simp only [push_cast] at hc))|omega|with_reducible intro _))
   all_goals first
     | (exfalso;omega)
     | skip
   all_goals
     refine z0f (z0g (fun (k:Nat)=>k ≤ d.rules.length∧z4r (z4f d) d.rules 0=z4r (z4f d) (d.rules.drop k) k) (fun k=>d.rules.length - k)
       (fun k=>[(1,.ptr 0 1 0 0),(4,.int .i64 k)]) (fun k=>[⟨6,1,true,[z1j d]⟩]) (fun env _=>[z0k 1 (env 1)]) 0 ⟨by simp,rfl⟩ ?_ ?_)
     · (repeat' (first|(simp (disch:=omega) only [push_cast,↓zz,seval,hPr,hPf])|(with_reducible first|refine And.intro ?_ ?_|(first|refine z01 ?_ ?_|refine z00 ?_ ?_)<;>intro hc<;>(try simp only [push_cast] at hc))|omega|with_reducible intro _))
     exact key.get
 refine ⟨?_⟩
 rintro k ⟨k1,k2⟩
 rcases Nat.lt_or_ge k d.rules.length with hk|hk
 · have hrm:=z0i hk
   have hrf:=hs.fin.1 _ hrm
   have hrg:=hs.rg _ hrm
   rw [zcv hk] at k2
   have hiff:=@y3e d (nth d.rules k)
   have hG:=zcj d.in_ (nth d.rules k).guards hrg
   generalize hre:nth d.rules k=r at *
   have hpg:=z05 r.guards
   have hpt:=z0w r.out
   have hbad:¬ zfg d r→z3v d=(2,(k:Int)):=fun hA=>by
     have hb:z4f d r=false:=by
       cases h:z4f d r with
       | false=>rfl
       | true=>exact absurd (hiff.1 h).1 hA
     rw [hb] at k2
     simp only [Bool.false_eq_true,if_false] at k2
     rw [hW,k2]
   refine W_T ?_
   by_cases f1:r.from_ < 0
   · rw [hbad fun hA=>by unfold zfg at hA;omega]
     have g1:=eq_true f1
     clear hiff hbad hW
     (repeat' (first|(simp (disch:=omega) only [push_cast,↓zz,seval,hPr,hPf,hre,hpg,hpt,g1])|(with_reducible first|refine And.intro ?_ ?_|(first|refine z01 ?_ ?_|refine z00 ?_ ?_)<;>intro hc<;>(try simp only [push_cast] at hc))|omega|with_reducible intro _))
   by_cases f2:d.states ≤ r.from_
   · rw [hbad fun hA=>by unfold zfg at hA;omega]
     have g1:=eq_false f1
     have g2:=eq_true f2
     clear hiff hbad hW
     (repeat' (first|(simp (disch:=omega) only [push_cast,↓zz,seval,hPr,hPf,hre,hpg,hpt,g1,g2])|(with_reducible first|refine And.intro ?_ ?_|(first|refine z01 ?_ ?_|refine z00 ?_ ?_)<;>intro hc<;>(try simp only [push_cast] at hc))|omega|with_reducible intro _))
   by_cases f3:r.to_ < 0
   · rw [hbad fun hA=>by unfold zfg at hA;omega]
     have g1:=eq_false f1
     have g2:=eq_false f2
     have g3:=eq_true f3
     clear hiff hbad hW
     (repeat' (first|(simp (disch:=omega) only [push_cast,↓zz,seval,hPr,hPf,hre,hpg,hpt,g1,g2,g3])|(with_reducible first|refine And.intro ?_ ?_|(first|refine z01 ?_ ?_|refine z00 ?_ ?_)<;>intro hc<;>(try simp only [push_cast] at hc))|omega|with_reducible intro _))
   by_cases f4:d.states ≤ r.to_
   · rw [hbad fun hA=>by unfold zfg at hA;omega]
     have g1:=eq_false f1
     have g2:=eq_false f2
     have g3:=eq_false f3
     have g4:=eq_true f4
     clear hiff hbad hW
     (repeat' (first|(simp (disch:=omega) only [push_cast,↓zz,seval,hPr,hPf,hre,hpg,hpt,g1,g2,g3,g4])|(with_reducible first|refine And.intro ?_ ?_|(first|refine z01 ?_ ?_|refine z00 ?_ ?_)<;>intro hc<;>(try simp only [push_cast] at hc))|omega|with_reducible intro _))
   have g1:=eq_false f1
   have g2:=eq_false f2
   have g3:=eq_false f3
   have g4:=eq_false f4
   have hE:(((r.guards.length:Int)=0)=True∧(r.eat=0)=True∧(1 ≤ r.eat)=False) ∨ (((r.guards.length:Int)=0)=False∧(1 ≤ r.eat)=True∧(r.eat ≤ (r.guards.length:Int))=True) ∨
       ¬ zfg d r∧(((r.guards.length:Int)=0)=True∧(r.eat=0)=False∧(1 ≤ r.eat)=False ∨ ((r.guards.length:Int)=0)=True∧(r.eat=0)=False∧(1 ≤ r.eat)=True∧(r.eat ≤ (r.guards.length:Int))=False ∨
         ((r.guards.length:Int)=0)=False∧(1 ≤ r.eat)=False ∨ ((r.guards.length:Int)=0)=False∧(1 ≤ r.eat)=True∧(r.eat ≤ (r.guards.length:Int))=False):=by
     simp only [eq_iff_iff,iff_true,iff_false,zfg]
     omega
   have hgood:((((r.guards.length:Int)=0)=True∧(r.eat=0)=True∧(1 ≤ r.eat)=False) ∨ (((r.guards.length:Int)=0)=False∧(1 ≤ r.eat)=True∧(r.eat ≤ (r.guards.length:Int))=True))→zfg d r:=by
     simp only [eq_iff_iff,iff_true,iff_false,zfg]
     omega
   rcases hE with hE|hE|⟨hA,hE⟩
   · have hA:=hgood (.inl hE)
     obtain ⟨e1,e2,e3⟩:=hE
     clear hbad hgood
     cases hg:z2k d.in_ r.guards with
     | false =>
       rw [hg] at hG
       have hb:z4f d r=false:=by
         cases h:z4f d r with
         | false=>rfl
         | true=>have:=(hiff.1 h).2.1;rw [hg] at this;cases this
       rw [hb] at k2
       simp only [Bool.false_eq_true,if_false] at k2
       rw [hW,k2]
       clear hiff hW hA
       (repeat' (first|(simp (disch:=omega) only [push_cast,↓zz,seval,hPr,hPf,hre,hpg,hpt,g1,g2,g3,g4,e1,e2,e3])|(with_reducible first|refine And.intro ?_ ?_|(first|refine z01 ?_ ?_|refine z00 ?_ ?_)<;>intro hc<;>(try simp only [push_cast] at hc))|((with_reducible first|refine eK hG ?_|refine eQ hG ?_|refine eG hG ?_))|((with_reducible first|refine cK hG ?_|refine cQ hG ?_|refine cG hG ?_);(simp (disch:=omega) only [push_cast,↓zz,seval,hPr,hPf,hre,hpg,hpt,g1,g2,g3,g4,e1,e2,e3]);(fail_if_success (with_reducible change False)))|omega|with_reducible intro _))
     | true =>
       rw [hg] at hG
       have hWr:=z7t d r.out r.guards hrf (zfe hg)
       have hb:z4f d r=z2p d r.out r.guards:=by
         rw [Bool.eq_iff_iff,hiff]
         exact ⟨fun h=>h.2.2,fun h=>⟨hA,hg,h⟩⟩
       rw [hb] at k2
       cases hw:z2p d r.out r.guards with
       | false =>
         rw [hw] at hWr k2
         simp only [Bool.false_eq_true,if_false] at k2
         rw [hW,k2]
         clear hiff hW hA
         (repeat' (first|(simp (disch:=omega) only [push_cast,↓zz,seval,hPr,hPf,hre,hpg,hpt,g1,g2,g3,g4,e1,e2,e3])|(with_reducible first|refine And.intro ?_ ?_|(first|refine z01 ?_ ?_|refine z00 ?_ ?_)<;>intro hc<;>(try simp only [push_cast] at hc))|((with_reducible first|refine eK hG ?_|refine eQ hG ?_|refine eG hG ?_))|((with_reducible first|refine eK hWr ?_|refine eQ hWr ?_|refine eG hWr ?_))|((with_reducible first|refine cK hG ?_|refine cQ hG ?_|refine cG hG ?_);(simp (disch:=omega) only [push_cast,↓zz,seval,hPr,hPf,hre,hpg,hpt,g1,g2,g3,g4,e1,e2,e3]);(fail_if_success (with_reducible change False)))|((with_reducible first|refine cK hWr ?_|refine cQ hWr ?_|refine cG hWr ?_);(simp (disch:=omega) only [push_cast,↓zz,seval,hPr,hPf,hre,hpg,hpt,g1,g2,g3,g4,e1,e2,e3]);(fail_if_success (with_reducible change False)))|omega|with_reducible intro _))
       | true =>
         rw [hw] at hWr k2
         simp only [if_true] at k2
         clear hiff hA
         (repeat' (first|(simp (disch:=omega) only [push_cast,↓zz,seval,hPr,hPf,hre,hpg,hpt,g1,g2,g3,g4,e1,e2,e3])|(with_reducible first|refine And.intro ?_ ?_|(first|refine z01 ?_ ?_|refine z00 ?_ ?_)<;>intro hc<;>(try simp only [push_cast] at hc))|((with_reducible first|refine eK hG ?_|refine eQ hG ?_|refine eG hG ?_))|((with_reducible first|refine eK hWr ?_|refine eQ hWr ?_|refine eG hWr ?_))|((with_reducible first|refine cK hG ?_|refine cQ hG ?_|refine cG hG ?_);(simp (disch:=omega) only [push_cast,↓zz,seval,hPr,hPf,hre,hpg,hpt,g1,g2,g3,g4,e1,e2,e3]);(fail_if_success (with_reducible change False)))|((with_reducible first|refine cK hWr ?_|refine cQ hWr ?_|refine cG hWr ?_);(simp (disch:=omega) only [push_cast,↓zz,seval,hPr,hPf,hre,hpg,hpt,g1,g2,g3,g4,e1,e2,e3]);(fail_if_success (with_reducible change False)))|omega|with_reducible intro _))
         all_goals first
           | exact ⟨k + 1,by push_cast,⟨by omega,k2⟩,by omega⟩
           | trace_state
   · have hA:=hgood (.inr hE)
     obtain ⟨e1,e2,e3⟩:=hE
     clear hbad hgood
     cases hg:z2k d.in_ r.guards with
     | false =>
       rw [hg] at hG
       have hb:z4f d r=false:=by
         cases h:z4f d r with
         | false=>rfl
         | true=>have:=(hiff.1 h).2.1;rw [hg] at this;cases this
       rw [hb] at k2
       simp only [Bool.false_eq_true,if_false] at k2
       rw [hW,k2]
       clear hiff hW hA
       (repeat' (first|(simp (disch:=omega) only [push_cast,↓zz,seval,hPr,hPf,hre,hpg,hpt,g1,g2,g3,g4,e1,e2,e3])|(with_reducible first|refine And.intro ?_ ?_|(first|refine z01 ?_ ?_|refine z00 ?_ ?_)<;>intro hc<;>(try simp only [push_cast] at hc))|((with_reducible first|refine eK hG ?_|refine eQ hG ?_|refine eG hG ?_))|((with_reducible first|refine cK hG ?_|refine cQ hG ?_|refine cG hG ?_);(simp (disch:=omega) only [push_cast,↓zz,seval,hPr,hPf,hre,hpg,hpt,g1,g2,g3,g4,e1,e2,e3]);(fail_if_success (with_reducible change False)))|omega|with_reducible intro _))
     | true =>
       rw [hg] at hG
       have hWr:=z7t d r.out r.guards hrf (zfe hg)
       have hb:z4f d r=z2p d r.out r.guards:=by
         rw [Bool.eq_iff_iff,hiff]
         exact ⟨fun h=>h.2.2,fun h=>⟨hA,hg,h⟩⟩
       rw [hb] at k2
       cases hw:z2p d r.out r.guards with
       | false =>
         rw [hw] at hWr k2
         simp only [Bool.false_eq_true,if_false] at k2
         rw [hW,k2]
         clear hiff hW hA
         (repeat' (first|(simp (disch:=omega) only [push_cast,↓zz,seval,hPr,hPf,hre,hpg,hpt,g1,g2,g3,g4,e1,e2,e3])|(with_reducible first|refine And.intro ?_ ?_|(first|refine z01 ?_ ?_|refine z00 ?_ ?_)<;>intro hc<;>(try simp only [push_cast] at hc))|((with_reducible first|refine eK hG ?_|refine eQ hG ?_|refine eG hG ?_))|((with_reducible first|refine eK hWr ?_|refine eQ hWr ?_|refine eG hWr ?_))|((with_reducible first|refine cK hG ?_|refine cQ hG ?_|refine cG hG ?_);(simp (disch:=omega) only [push_cast,↓zz,seval,hPr,hPf,hre,hpg,hpt,g1,g2,g3,g4,e1,e2,e3]);(fail_if_success (with_reducible change False)))|((with_reducible first|refine cK hWr ?_|refine cQ hWr ?_|refine cG hWr ?_);(simp (disch:=omega) only [push_cast,↓zz,seval,hPr,hPf,hre,hpg,hpt,g1,g2,g3,g4,e1,e2,e3]);(fail_if_success (with_reducible change False)))|omega|with_reducible intro _))
       | true =>
         rw [hw] at hWr k2
         simp only [if_true] at k2
         clear hiff hA
         (repeat' (first|(simp (disch:=omega) only [push_cast,↓zz,seval,hPr,hPf,hre,hpg,hpt,g1,g2,g3,g4,e1,e2,e3])|(with_reducible first|refine And.intro ?_ ?_|(first|refine z01 ?_ ?_|refine z00 ?_ ?_)<;>intro hc<;>(try simp only [push_cast] at hc))|((with_reducible first|refine eK hG ?_|refine eQ hG ?_|refine eG hG ?_))|((with_reducible first|refine eK hWr ?_|refine eQ hWr ?_|refine eG hWr ?_))|((with_reducible first|refine cK hG ?_|refine cQ hG ?_|refine cG hG ?_);(simp (disch:=omega) only [push_cast,↓zz,seval,hPr,hPf,hre,hpg,hpt,g1,g2,g3,g4,e1,e2,e3]);(fail_if_success (with_reducible change False)))|((with_reducible first|refine cK hWr ?_|refine cQ hWr ?_|refine cG hWr ?_);(simp (disch:=omega) only [push_cast,↓zz,seval,hPr,hPf,hre,hpg,hpt,g1,g2,g3,g4,e1,e2,e3]);(fail_if_success (with_reducible change False)))|omega|with_reducible intro _))
         all_goals first
           | exact ⟨k + 1,by push_cast,⟨by omega,k2⟩,by omega⟩
           | trace_state
   · rw [hbad hA]
     clear hiff hW hA hbad hgood
     rcases hE with ⟨e1,e2,e3⟩|⟨e1,e2,e3,e4⟩|⟨e1,e2⟩|⟨e1,e2,e3⟩
     · (repeat' (first|(simp (disch:=omega) only [push_cast,↓zz,seval,hPr,hPf,hre,hpg,hpt,g1,g2,g3,g4,e1,e2,e3])|(with_reducible first|refine And.intro ?_ ?_|(first|refine z01 ?_ ?_|refine z00 ?_ ?_)<;>intro hc<;>(try simp only [push_cast] at hc))|omega|with_reducible intro _))
     · (repeat' (first|(simp (disch:=omega) only [push_cast,↓zz,seval,hPr,hPf,hre,hpg,hpt,g1,g2,g3,g4,e1,e2,e3,e4])|(with_reducible first|refine And.intro ?_ ?_|(first|refine z01 ?_ ?_|refine z00 ?_ ?_)<;>intro hc<;>(try simp only [push_cast] at hc))|omega|with_reducible intro _))
     · (repeat' (first|(simp (disch:=omega) only [push_cast,↓zz,seval,hPr,hPf,hre,hpg,hpt,g1,g2,g3,g4,e1,e2])|(with_reducible first|refine And.intro ?_ ?_|(first|refine z01 ?_ ?_|refine z00 ?_ ?_)<;>intro hc<;>(try simp only [push_cast] at hc))|omega|with_reducible intro _))
     · (repeat' (first|(simp (disch:=omega) only [push_cast,↓zz,seval,hPr,hPf,hre,hpg,hpt,g1,g2,g3,g4,e1,e2,e3])|(with_reducible first|refine And.intro ?_ ?_|(first|refine z01 ?_ ?_|refine z00 ?_ ?_)<;>intro hc<;>(try simp only [push_cast] at hc))|omega|with_reducible intro _))
 · rw [List.drop_of_length_le hk,z4r] at k2
   have hall:=z6i k2
   have hC:=zp1 d ⟨i3,i5,fun r hr=>zf2 (hall r hr)⟩
   have hcs:=y24 (l:=d.rules) (n:=d.states.toNat) fun r hr=>by
     have:=zf2 (hall r hr)
     omega
   rw [k2] at hW
   simp only at hW
   refine W_T ?_
   (repeat' (first|(simp (disch:=omega) only [push_cast,↓zz,seval,hPr,hPf])|(with_reducible first|refine And.intro ?_ ?_|(first|refine z01 ?_ ?_|refine z00 ?_ ?_)<;>intro hc<;>(try simp only [push_cast] at hc))|omega|with_reducible intro _))
   refine z0f (z0g (fun (k:Nat)=>k ≤ d.finals.length∧z4r (z2q d) d.finals 0=z4r (z2q d) (d.finals.drop k) k) (fun k=>d.finals.length - k)
     (fun k=>[(1,.ptr 0 1 0 0),(8,.int .i64 k)]) (fun k=>[⟨6,1,true,[z1j d]⟩]) (fun env _=>[z0k 1 (env 1)]) 0 ⟨by simp,rfl⟩ ?_ ?_)
   · (repeat' (first|(simp (disch:=omega) only [push_cast,↓zz,seval,hPr,hPf])|(with_reducible first|refine And.intro ?_ ?_|(first|refine z01 ?_ ?_|refine z00 ?_ ?_)<;>intro hc<;>(try simp only [push_cast] at hc))|omega|with_reducible intro _))
   rintro j ⟨j1,j2⟩
   rcases Nat.lt_or_ge j d.finals.length with hj|hj
   · have hfm:=z0i hj
     have hff:=hs.fin.2 _ hfm
     have hfg:=hs.fg _ hfm
     rw [zcv hj] at j2
     have hiff:=@zzb d (nth d.finals j)
     have hG:=zcj d.in_ (nth d.finals j).guards hfg
     generalize hfe:nth d.finals j=f at *
     have hpg:=z05 f.guards
     have hpt:=z0w f.out
     have hbad:z2q d f=false→z3v d=(3,(j:Int)):=fun hb=>by
       rw [hb] at j2
       simp only [Bool.false_eq_true,if_false] at j2
       rw [hW,j2]
     have hno:¬ (0 ≤ f.from_∧f.from_ < d.states)→z2q d f=false:=fun hA=>by
       cases h:z2q d f with
       | false=>rfl
       | true=>exact absurd (hiff.1 h).1 hA
     refine W_T ?_
     by_cases f1:f.from_ < 0
     · rw [hbad (hno (by omega))]
       have g1:=eq_true f1
       clear hiff hbad hW hno
       (repeat' (first|(simp (disch:=omega) only [push_cast,↓zz,seval,hPr,hPf,hfe,hpg,hpt,g1])|(with_reducible first|refine And.intro ?_ ?_|(first|refine z01 ?_ ?_|refine z00 ?_ ?_)<;>intro hc<;>(try simp only [push_cast] at hc))|omega|with_reducible intro _))
     by_cases f2:d.states ≤ f.from_
     · rw [hbad (hno (by omega))]
       have g1:=eq_false f1
       have g2:=eq_true f2
       clear hiff hbad hW hno
       (repeat' (first|(simp (disch:=omega) only [push_cast,↓zz,seval,hPr,hPf,hfe,hpg,hpt,g1,g2])|(with_reducible first|refine And.intro ?_ ?_|(first|refine z01 ?_ ?_|refine z00 ?_ ?_)<;>intro hc<;>(try simp only [push_cast] at hc))|omega|with_reducible intro _))
     have g1:=eq_false f1
     have g2:=eq_false f2
     cases hg:z2k d.in_ f.guards with
     | false =>
       rw [hg] at hG
       have hb:z2q d f=false:=by
         cases h:z2q d f with
         | false=>rfl
         | true=>have:=(hiff.1 h).2.1;rw [hg] at this;cases this
       rw [hbad hb]
       clear hiff hbad hW hno
       (repeat' (first|(simp (disch:=omega) only [push_cast,↓zz,seval,hPr,hPf,hfe,hpg,hpt,g1,g2])|(with_reducible first|refine And.intro ?_ ?_|(first|refine z01 ?_ ?_|refine z00 ?_ ?_)<;>intro hc<;>(try simp only [push_cast] at hc))|((with_reducible first|refine eK hG ?_|refine eQ hG ?_|refine eG hG ?_))|((with_reducible first|refine cK hG ?_|refine cQ hG ?_|refine cG hG ?_);(simp (disch:=omega) only [push_cast,↓zz,seval,hPr,hPf,hfe,hpg,hpt,g1,g2]);(fail_if_success (with_reducible change False)))|omega|with_reducible intro _))
     | true =>
       rw [hg] at hG
       have hWr:=z7t d f.out f.guards hff (zfe hg)
       have hb:z2q d f=z2p d f.out f.guards:=by
         rw [Bool.eq_iff_iff,hiff]
         exact ⟨fun h=>h.2.2,fun h=>⟨by omega,hg,h⟩⟩
       rw [hb] at j2 hbad
       cases hw:z2p d f.out f.guards with
       | false =>
         rw [hw] at hWr
         rw [hbad hw]
         clear hiff hbad hW hno
         (repeat' (first|(simp (disch:=omega) only [push_cast,↓zz,seval,hPr,hPf,hfe,hpg,hpt,g1,g2])|(with_reducible first|refine And.intro ?_ ?_|(first|refine z01 ?_ ?_|refine z00 ?_ ?_)<;>intro hc<;>(try simp only [push_cast] at hc))|((with_reducible first|refine eK hG ?_|refine eQ hG ?_|refine eG hG ?_))|((with_reducible first|refine eK hWr ?_|refine eQ hWr ?_|refine eG hWr ?_))|((with_reducible first|refine cK hG ?_|refine cQ hG ?_|refine cG hG ?_);(simp (disch:=omega) only [push_cast,↓zz,seval,hPr,hPf,hfe,hpg,hpt,g1,g2]);(fail_if_success (with_reducible change False)))|((with_reducible first|refine cK hWr ?_|refine cQ hWr ?_|refine cG hWr ?_);(simp (disch:=omega) only [push_cast,↓zz,seval,hPr,hPf,hfe,hpg,hpt,g1,g2]);(fail_if_success (with_reducible change False)))|omega|with_reducible intro _))
       | true =>
         rw [hw] at hWr j2
         simp only [if_true] at j2
         clear hiff hbad hno
         (repeat' (first|(simp (disch:=omega) only [push_cast,↓zz,seval,hPr,hPf,hfe,hpg,hpt,g1,g2])|(with_reducible first|refine And.intro ?_ ?_|(first|refine z01 ?_ ?_|refine z00 ?_ ?_)<;>intro hc<;>(try simp only [push_cast] at hc))|((with_reducible first|refine eK hG ?_|refine eQ hG ?_|refine eG hG ?_))|((with_reducible first|refine eK hWr ?_|refine eQ hWr ?_|refine eG hWr ?_))|((with_reducible first|refine cK hG ?_|refine cQ hG ?_|refine cG hG ?_);(simp (disch:=omega) only [push_cast,↓zz,seval,hPr,hPf,hfe,hpg,hpt,g1,g2]);(fail_if_success (with_reducible change False)))|((with_reducible first|refine cK hWr ?_|refine cQ hWr ?_|refine cG hWr ?_);(simp (disch:=omega) only [push_cast,↓zz,seval,hPr,hPf,hfe,hpg,hpt,g1,g2]);(fail_if_success (with_reducible change False)))|omega|with_reducible intro _))
         all_goals first
           | exact ⟨j + 1,by push_cast,⟨by omega,j2⟩,by omega⟩
           | trace_state
   · rw [List.drop_of_length_le hj,z4r] at j2
     rw [j2] at hW
     simp only at hW
     have hdc:@decide (cycP d.rules d.states.toNat) (Classical.propDecidable _)=cycR d.rules d.states.toNat:=by
       rw [Bool.eq_iff_iff,hcs]
       exact @decide_eq_true_iff _ (Classical.propDecidable _)
     rw [hdc] at hW
     clear hcs hdc
     generalize cycR d.rules d.states.toNat=c at *
     refine W_T ?_
     rw [hW]
     cases c
     · (repeat' (first|(simp (disch:=omega) only [push_cast,↓zz,seval,hPr,hPf])|(with_reducible first|refine And.intro ?_ ?_|(first|refine z01 ?_ ?_|refine z00 ?_ ?_)<;>intro hc<;>(try simp only [push_cast] at hc))|((with_reducible first|refine eK hC ?_|refine eQ hC ?_|refine eG hC ?_))|((with_reducible first|refine cK hC ?_|refine cQ hC ?_|refine cG hC ?_);(simp (disch:=omega) only [push_cast,↓zz,seval,hPr,hPf]);(fail_if_success (with_reducible change False)))|omega|with_reducible intro _))
     · (repeat' (first|(simp (disch:=omega) only [push_cast,↓zz,seval,hPr,hPf])|(with_reducible first|refine And.intro ?_ ?_|(first|refine z01 ?_ ?_|refine z00 ?_ ?_)<;>intro hc<;>(try simp only [push_cast] at hc))|((with_reducible first|refine eK hC ?_|refine eQ hC ?_|refine eG hC ?_))|((with_reducible first|refine cK hC ?_|refine cQ hC ?_|refine cG hC ?_);(simp (disch:=omega) only [push_cast,↓zz,seval,hPr,hPf]);(fail_if_success (with_reducible change False)))|omega|with_reducible intro _))
       all_goals trace_state
theorem z6m {α:Type} [DecidableEq α] [Inhabited α] {l m:List α} {k:Nat} (h1:k < l.length) (h2:k < m.length):decide (l.drop k=m.drop k)=(decide (nth l k=nth m k) && decide (l.drop (k + 1)=m.drop (k + 1))):=by
 rw [drop_at h1,drop_at h2]
 simp
theorem z8w (a b:List (List Span)) (hl:a.length ≤ 1000000000000) (ha:∀ l ∈ a,l.length ≤ 1000000000000):PC Tryz.prog 31 [z0b a,z0b b] (.bool (decide (a=b))):=by
 refine z0s zcm ?_
 unfold z72
 (repeat' (first|(simp (disch:=omega) only [push_cast,↓zz,seval])|(with_reducible first|refine And.intro ?_ ?_|(first|refine z01 ?_ ?_|refine z00 ?_ ?_)<;>intro hc<;>(try simp only [push_cast] at hc))|omega|with_reducible intro _))
 · have:a ≠ b:=by intro h;subst h;first|omega|simp_all
   simp [this]
 refine z0f (z0g (fun (k:Nat)=>k ≤ a.length∧decide (a=b)=decide (a.drop k=b.drop k)) (fun k=>a.length - k)
   (fun k=>[(0,z0b a),(1,z0b b),(5,.int .i64 k)]) (fun _=>[]) (fun _ _=>[]) 0 (by simp) ?_ ?_)
 · (repeat' (first|(simp (disch:=omega) only [push_cast,↓zz,seval])|(with_reducible first|refine And.intro ?_ ?_|(first|refine z01 ?_ ?_|refine z00 ?_ ?_)<;>intro hc<;>(try simp only [push_cast] at hc))|omega|with_reducible intro _))
 rintro k ⟨hk,hr⟩
 refine W_T ?_
 (repeat' (first|(simp (disch:=omega) only [push_cast,↓zz,seval])|(with_reducible first|refine And.intro ?_ ?_|(first|refine z01 ?_ ?_|refine z00 ?_ ?_)<;>intro hc<;>(try simp only [push_cast] at hc))|(have q_:=zbc (nth a k) (nth b k) (ha _ (z0i (by omega)));(with_reducible first|refine eK q_ ?_|refine eQ q_ ?_|refine eG q_ ?_);clear q_)|(have q_:=zbc (nth a k) (nth b k) (ha _ (z0i (by omega)));(with_reducible first|refine cK q_ ?_|refine cQ q_ ?_|refine cG q_ ?_);clear q_;(simp (disch:=omega) only [push_cast,↓zz,seval]);(fail_if_success (with_reducible change False)))|omega|with_reducible intro _))
 all_goals first
   | (rw [hr,List.drop_of_length_le (by omega),List.drop_of_length_le (by omega)];simp;done)
   | (rw [hr,z6m (by omega) (by omega)];simp_all;done)
   | (refine ⟨k + 1,?_⟩
      (repeat' (first|(simp (disch:=omega) only [push_cast,↓zz,seval])|(with_reducible first|refine And.intro ?_ ?_|(first|refine z01 ?_ ?_|refine z00 ?_ ?_)<;>intro hc<;>(try simp only [push_cast] at hc))|omega|with_reducible intro _))
      rw [hr,z6m (by omega) (by omega)];simp_all;done)
   | trace_state
theorem z7v (a b:List Term) (hl:a.length ≤ 1000000000000) (ha:∀ t ∈ a,t.parts.length ≤ 1000000000000):PC Tryz.prog 32 [z3n a,z3n b] (.bool (decide (a=b))):=by
 refine z0s zb0 ?_
 unfold z69
 (repeat' (first|(simp (disch:=omega) only [push_cast,↓zz,seval])|(with_reducible first|refine And.intro ?_ ?_|(first|refine z01 ?_ ?_|refine z00 ?_ ?_)<;>intro hc<;>(try simp only [push_cast] at hc))|omega|with_reducible intro _))
 · have:a ≠ b:=by intro h;subst h;first|omega|simp_all
   simp [this]
 refine z0f (z0g (fun (k:Nat)=>k ≤ a.length∧decide (a=b)=decide (a.drop k=b.drop k)) (fun k=>a.length - k)
   (fun k=>[(0,z3n a),(1,z3n b),(5,.int .i64 k)]) (fun _=>[]) (fun _ _=>[]) 0 (by simp) ?_ ?_)
 · (repeat' (first|(simp (disch:=omega) only [push_cast,↓zz,seval])|(with_reducible first|refine And.intro ?_ ?_|(first|refine z01 ?_ ?_|refine z00 ?_ ?_)<;>intro hc<;>(try simp only [push_cast] at hc))|omega|with_reducible intro _))
 rintro k ⟨hk,hr⟩
 refine W_T ?_
 (repeat' (first|(simp (disch:=omega) only [push_cast,↓zz,seval])|(with_reducible first|refine And.intro ?_ ?_|(first|refine z01 ?_ ?_|refine z00 ?_ ?_)<;>intro hc<;>(try simp only [push_cast] at hc))|(have q_:=zqw (nth a k) (nth b k) (ha _ (z0i (by omega)));(with_reducible first|refine eK q_ ?_|refine eQ q_ ?_|refine eG q_ ?_);clear q_)|(have q_:=zqw (nth a k) (nth b k) (ha _ (z0i (by omega)));(with_reducible first|refine cK q_ ?_|refine cQ q_ ?_|refine cG q_ ?_);clear q_;(simp (disch:=omega) only [push_cast,↓zz,seval]);(fail_if_success (with_reducible change False)))|omega|with_reducible intro _))
 all_goals first
   | (rw [hr,List.drop_of_length_le (by omega),List.drop_of_length_le (by omega)];simp;done)
   | (rw [hr,z6m (by omega) (by omega)];simp_all;done)
   | (refine ⟨k + 1,?_⟩
      (repeat' (first|(simp (disch:=omega) only [push_cast,↓zz,seval])|(with_reducible first|refine And.intro ?_ ?_|(first|refine z01 ?_ ?_|refine z00 ?_ ?_)<;>intro hc<;>(try simp only [push_cast] at hc))|omega|with_reducible intro _))
      rw [hr,z6m (by omega) (by omega)];simp_all;done)
   | trace_state
structure zhr (gs:List (List Span)) (out:List Term):Prop where
 g:gs.length ≤ 1000000000000
 gl:∀ l ∈ gs,l.length ≤ 1000000000000
 o:out.length ≤ 1000000000000
 ol:∀ t ∈ out,t.parts.length ≤ 1000000000000
theorem zfv (a b:Rule) (h:zhr a.guards a.out):PC Tryz.prog 30 [z8n a,z8n b] (.bool (decide (a=b))):=by
 have h1:=z8w a.guards b.guards h.g h.gl
 have h2:=z7v a.out b.out h.o h.ol
 have e:decide (a=b)=(decide (a.from_=b.from_) && (decide (a.to_=b.to_) && (decide (a.eat=b.eat) && (decide (a.guards=b.guards) && decide (a.out=b.out))))):=by
   cases a;cases b;simp only [Rule.mk.injEq];simp only [Bool.decide_and];ac_rfl
 have p1:=z05 a.guards
 have p2:=z05 b.guards
 have p3:=z0w a.out
 have p4:=z0w b.out
 refine z0s zcl ?_
 unfold z71
 (repeat' (first|(simp (disch:=omega) only [push_cast,↓zz,seval,p1,p2,p3,p4])|(with_reducible first|refine And.intro ?_ ?_|(first|refine z01 ?_ ?_|refine z00 ?_ ?_)<;>intro hc<;>(try simp only [push_cast] at hc))|((with_reducible first|refine eK h1 ?_|refine eQ h1 ?_|refine eG h1 ?_))|((with_reducible first|refine eK h2 ?_|refine eQ h2 ?_|refine eG h2 ?_))|((with_reducible first|refine cK h1 ?_|refine cQ h1 ?_|refine cG h1 ?_);(simp (disch:=omega) only [push_cast,↓zz,seval,p1,p2,p3,p4]);(fail_if_success (with_reducible change False)))|((with_reducible first|refine cK h2 ?_|refine cQ h2 ?_|refine cG h2 ?_);(simp (disch:=omega) only [push_cast,↓zz,seval,p1,p2,p3,p4]);(fail_if_success (with_reducible change False)))|omega|with_reducible intro _))
 all_goals rw [e];simp_all
structure zju (d:Desc):Prop where
 r:d.rules.length ≤ 1000000000000
 rs:∀ r ∈ d.rules,zhr r.guards r.out
 f:d.finals.length ≤ 1000000000000
 fs:∀ f ∈ d.finals,zhr f.guards f.out
theorem zul {a b:Desc} (h1:a.in_=b.in_) (h2:a.out=b.out) (h3:a.states=b.states) (h4:a.start=b.start):decide (a=b)=(decide (a.rules=b.rules) && decide (a.finals=b.finals)):=by
 cases a;cases b;simp only at h1 h2 h3 h4;subst h1 h2 h3 h4
 simp
theorem y3f (x y:z4u):decide (x=y)=(decide (x.from_=y.from_) && (decide (x.guards=y.guards) && decide (x.out=y.out))):=by
 cases x;cases y;simp
theorem zhs (a b:Desc) (h:zju a):PC Tryz.prog 11 [z1j a,z1j b] (.bool (decide (a=b))):=by
 have pa1:=z0v a.rules
 have pa2:=z0t a.finals
 have pb1:=z0v b.rules
 have pb2:=z0t b.finals
 have har:=h.r
 have haf:=h.f
 refine z0s zl8 ?_
 unfold zbm
 (repeat' (first|(simp (disch:=omega) only [push_cast,↓zz,seval,pa1,pa2,pb1,pb2])|(with_reducible first|refine And.intro ?_ ?_|(first|refine z01 ?_ ?_|refine z00 ?_ ?_)<;>intro hc<;>(try simp only [push_cast] at hc))|omega|with_reducible intro _))
 all_goals first
   | (have:a ≠ b:=by intro h;subst h;simp_all
      simp [this];done)
   | skip
 all_goals
   have hab:=zul (a:=a) (b:=b) (by assumption) (by assumption) (by assumption) (by assumption)
   have hrl:a.rules.length=b.rules.length:=by omega
   have hfl:a.finals.length=b.finals.length:=by omega
   rw [hab]
   refine z0f (z0g (fun (k:Nat)=>k ≤ a.rules.length∧decide (a.rules=b.rules)=decide (a.rules.drop k=b.rules.drop k)) (fun k=>a.rules.length - k)
     (fun k=>[(2,.ptr 0 1 0 0),(3,.ptr 1 1 0 0),(5,.int .i64 k)]) (fun _=>[⟨6,1,true,[z1j a]⟩,⟨6,1,true,[z1j b]⟩]) (fun env _=>[z0k 6 (env 2),z0k 6 (env 3)]) 0 (by simp) ?_ ?_)
   · (repeat' (first|(simp (disch:=omega) only [push_cast,↓zz,seval,pa1,pa2,pb1,pb2])|(with_reducible first|refine And.intro ?_ ?_|(first|refine z01 ?_ ?_|refine z00 ?_ ?_)<;>intro hc<;>(try simp only [push_cast] at hc))|omega|with_reducible intro _))
   rintro k ⟨hk,hr⟩
   refine W_T ?_
   rcases Nat.lt_or_ge k a.rules.length with hkl|hkl
   · have hS:=zfv (nth a.rules k) (nth b.rules k) (h.rs _ (z0i hkl))
     have hp1:=z0v a.rules
     rw [z6m hkl (by omega)] at hr
     generalize hx:nth a.rules k=x at *
     generalize hy:nth b.rules k=y at *
     (repeat' (first|(simp (disch:=omega) only [push_cast,↓zz,seval,pa1,pa2,pb1,pb2,hx,hy])|(with_reducible first|refine And.intro ?_ ?_|(first|refine z01 ?_ ?_|refine z00 ?_ ?_)<;>intro hc<;>(try simp only [push_cast] at hc))|((with_reducible first|refine eK hS ?_|refine eQ hS ?_|refine eG hS ?_))|((with_reducible first|refine cK hS ?_|refine cQ hS ?_|refine cG hS ?_);(simp (disch:=omega) only [push_cast,↓zz,seval,pa1,pa2,pb1,pb2,hx,hy]);(fail_if_success (with_reducible change False)))|omega|with_reducible intro _))
     all_goals first
       | (refine ⟨k + 1,?_⟩
          (repeat' (first|(simp (disch:=omega) only [push_cast,↓zz,seval])|(with_reducible first|refine And.intro ?_ ?_|(first|refine z01 ?_ ?_|refine z00 ?_ ?_)<;>intro hc<;>(try simp only [push_cast] at hc))|omega|with_reducible intro _))
          rw [hr];simp_all;done)
       | (simp_all;done)
       | trace_state
   · have hke:k=a.rules.length:=by omega
     subst hke
     have hre:decide (a.rules=b.rules)=true:=by rw [hr,List.drop_of_length_le (by omega),List.drop_of_length_le (by omega)];simp
     rw [hre,Bool.true_and]
     clear hr hre hab
     (repeat' (first|(simp (disch:=omega) only [push_cast,↓zz,seval,pa1,pa2,pb1,pb2])|(with_reducible first|refine And.intro ?_ ?_|(first|refine z01 ?_ ?_|refine z00 ?_ ?_)<;>intro hc<;>(try simp only [push_cast] at hc))|omega|with_reducible intro _))
     refine z0f (z0g (fun (k:Nat)=>k ≤ a.finals.length∧decide (a.finals=b.finals)=decide (a.finals.drop k=b.finals.drop k)) (fun k=>a.finals.length - k)
       (fun k=>[(2,.ptr 0 1 0 0),(3,.ptr 1 1 0 0),(6,.int .i64 k)]) (fun _=>[⟨6,1,true,[z1j a]⟩,⟨6,1,true,[z1j b]⟩]) (fun env _=>[z0k 6 (env 2),z0k 6 (env 3)]) 0 (by simp) ?_ ?_)
     · (repeat' (first|(simp (disch:=omega) only [push_cast,↓zz,seval,pa1,pa2,pb1,pb2])|(with_reducible first|refine And.intro ?_ ?_|(first|refine z01 ?_ ?_|refine z00 ?_ ?_)<;>intro hc<;>(try simp only [push_cast] at hc))|omega|with_reducible intro _))
     rintro k ⟨hk,hr⟩
     refine W_T ?_
     rcases Nat.lt_or_ge k a.finals.length with hkl|hkl
     · have hOk:=h.fs _ (z0i hkl)
       rw [z6m hkl (by omega)] at hr
       generalize hx:nth a.finals k=x at *
       generalize hy:nth b.finals k=y at *
       have h1:=z8w x.guards y.guards hOk.g hOk.gl
       have h2:=z7v x.out y.out hOk.o hOk.ol
       have p1:=z05 x.guards
       have p2:=z05 y.guards
       have p3:=z0w x.out
       have p4:=z0w y.out
       have hxy:=y3f x y
       (repeat' (first|(simp (disch:=omega) only [push_cast,↓zz,seval,yy,List.mem_cons,List.not_mem_nil,or_false,false_or,not_or,not_false_eq_true,true_or,or_true,pa1,pa2,pb1,pb2,hx,hy,p1,p2,p3,p4])|(with_reducible first|refine And.intro ?_ ?_|(first|refine z01 ?_ ?_|refine z00 ?_ ?_)<;>intro hc<;>(try simp only [push_cast] at hc))|((with_reducible refine y7n [2,3] [3,3] [none,none,none,none,none,none,none,none,none,none,some 2,some 3] (by decide) (by decide) ?_))|((with_reducible first|refine eK h1 ?_|refine eQ h1 ?_|refine eG h1 ?_))|((with_reducible first|refine eK h2 ?_|refine eQ h2 ?_|refine eG h2 ?_))|((with_reducible first|refine cK h1 ?_|refine cQ h1 ?_|refine cG h1 ?_);(simp (disch:=omega) only [push_cast,↓zz,seval,yy,List.mem_cons,List.not_mem_nil,or_false,false_or,not_or,not_false_eq_true,true_or,or_true,pa1,pa2,pb1,pb2,hx,hy,p1,p2,p3,p4]);(fail_if_success (with_reducible change False)))|((with_reducible first|refine cK h2 ?_|refine cQ h2 ?_|refine cG h2 ?_);(simp (disch:=omega) only [push_cast,↓zz,seval,yy,List.mem_cons,List.not_mem_nil,or_false,false_or,not_or,not_false_eq_true,true_or,or_true,pa1,pa2,pb1,pb2,hx,hy,p1,p2,p3,p4]);(fail_if_success (with_reducible change False)))|omega|with_reducible intro _))
       all_goals first
         | (refine ⟨k + 1,?_⟩
            (repeat' (first|(simp (disch:=omega) only [push_cast,↓zz,seval])|(with_reducible first|refine And.intro ?_ ?_|(first|refine z01 ?_ ?_|refine z00 ?_ ?_)<;>intro hc<;>(try simp only [push_cast] at hc))|omega|with_reducible intro _))
            rw [hr];simp_all;done)
         | (simp_all;done)
         | trace_state
     · rw [hr,List.drop_of_length_le (by omega),List.drop_of_length_le (by omega)]
       (repeat' (first|(simp (disch:=omega) only [push_cast,↓zz,seval,pa1,pa2,pb1,pb2])|(with_reducible first|refine And.intro ?_ ?_|(first|refine z01 ?_ ?_|refine z00 ?_ ?_)<;>intro hc<;>(try simp only [push_cast] at hc))|omega|with_reducible intro _))
       all_goals simp
       all_goals trace_state
theorem zum (a b:Desc) (ha:Wf a) (hb:Wf b) (hin:a.in_=b.in_) (hout:a.out=b.out):PC Tryz.prog 12 [z1j a,z1j b] (z1j (z9e a b)):=by
 obtain ⟨na,hna,na1,na2⟩:=ha.n
 obtain ⟨nb,hnb,nb1,nb2⟩:=hb.n
 have has:=ha.start
 have hbs:=hb.start
 have har:=ha.rl
 have haf:=ha.fl
 have hbr:=hb.rl
 have hbf:=hb.fl
 have pa1:=z0v a.rules
 have pa2:=z0t a.finals
 have pb1:=z0v b.rules
 have pb2:=z0t b.finals
 have hass:∀ x:Int,x + (1 + a.states)=x + 1 + a.states:=fun x=>by omega
 refine z0s zl9 ?_
 unfold zbn
 (repeat' (first|(simp (disch:=omega) only [push_cast,↓zz,seval,pa1,pa2,pb1,pb2,hin,hout])|(with_reducible first|refine And.intro ?_ ?_|(first|refine z01 ?_ ?_|refine z00 ?_ ?_)<;>intro hc<;>(try simp only [push_cast] at hc))|omega|with_reducible intro _))
 obtain ⟨g,g0,gs,eL0,gl⟩:=z4n (z5p a b) a.rules (shR 1)
 refine z0f (z0g (fun (k:Nat)=>k ≤ a.rules.length) (fun k=>a.rules.length - k) (fun (k:Nat)=>[(2,.ptr 0 1 0 0),(3,.ptr 1 1 0 0),(4,.ptr 2 1 0 0),(5,.ptr 3 1 0 0),(6,.int .i64 k)]) (fun k=>[⟨6,1,true,[z1j a]⟩,⟨6,1,true,[z1j b]⟩,⟨6,1,true,[.agg [.int .i64 0,.int .i64 0,.int .i64 0,.int .i64 0,.nilS,.nilS]]⟩,⟨6,1,true,[.agg [.int .i64 a.in_,.int .i64 a.out,.int .i64 (1 + a.states + b.states),.int .i64 0,.ref 4 1 0 (g k).length,.ref 5 1 0 ([]:List z4u).length]]⟩,⟨5,1,false,(g k).map z8n⟩,⟨3,1,false,([]:List z4u).map z65⟩]) (fun env H=>[z0k 6 (env 2),z0k 6 (env 3),z0k 6 (env 4),z0k 6 (env 5),z0k 5 (cellAt H (env 5) 4),z0k 3 (cellAt H (env 5) 5)]) 0 (by simp) ?_ ?_)
 · (repeat' (first|(simp (disch:=omega) only [push_cast,↓zz,seval,pa1,pa2,pb1,pb2,hin,hout,g0,z5p])|(with_reducible first|refine And.intro ?_ ?_|(first|refine z01 ?_ ?_|refine z00 ?_ ?_)<;>intro hc<;>(try simp only [push_cast] at hc))|omega|with_reducible intro _))
 intro k hk
 have gk:=gl k
 have hb0:(z5p a b).length ≤ 10000:=by first|omega|simp [z5p]
 rcases Nat.lt_or_ge k a.rules.length with hkl|hkl
 · have hw:=ha.r _ (z0i hkl)
   have e1:=gs k hkl
   generalize hre:nth a.rules k=r at *
   have hP:=z05 r.guards
   have hT:=z0w r.out
   have hpl:=z0v (g k)
   refine W_T ?_
   (repeat' (first|(simp (disch:=omega) only [push_cast,↓zz,seval,pa1,pa2,pb1,pb2,hin,hout,hre,hP,hT,hpl])|(with_reducible first|refine And.intro ?_ ?_|(first|refine z01 ?_ ?_|refine z00 ?_ ?_)<;>intro hc<;>(try simp only [push_cast] at hc))|omega|with_reducible intro _))
   all_goals
     refine ⟨k + 1,?_⟩
     (repeat' (first|(simp (disch:=omega) only [push_cast,↓zz,seval,pa1,pa2,pb1,pb2,hin,hout,e1,shR,hpl,hass])|(with_reducible first|refine And.intro ?_ ?_|(first|refine z01 ?_ ?_|refine z00 ?_ ?_)<;>intro hc<;>(try simp only [push_cast] at hc))|omega|with_reducible intro _))
 have hke:k=a.rules.length:=by omega
 subst hke
 have pL0:=z0v (g a.rules.length)
 have lL0:(g a.rules.length).length ≤ (z5p a b).length + 4096:=by omega
 have lL0:(g a.rules.length).length ≤ 5000:=by first|omega|(simp only [z5p,List.length_cons,List.length_nil] at lL0;omega)
 clear hk hkl gk gl gs g0 hb0
 generalize g a.rules.length=L0 at *
 refine W_T ?_
 (repeat' (first|(simp (disch:=omega) only [push_cast,↓zz,seval,pa1,pa2,pb1,pb2,hin,hout,pL0])|(with_reducible first|refine And.intro ?_ ?_|(first|refine z01 ?_ ?_|refine z00 ?_ ?_)<;>intro hc<;>(try simp only [push_cast] at hc))|omega|with_reducible intro _))
 obtain ⟨g,g0,gs,eL1,gl⟩:=z4n L0 b.rules (shR (1 + a.states))
 refine z0f (z0g (fun (k:Nat)=>k ≤ b.rules.length) (fun k=>b.rules.length - k) (fun (k:Nat)=>[(2,.ptr 0 1 0 0),(3,.ptr 1 1 0 0),(4,.ptr 2 1 0 0),(5,.ptr 3 1 0 0),(8,.int .i64 k)]) (fun k=>[⟨6,1,true,[z1j a]⟩,⟨6,1,true,[z1j b]⟩,⟨6,1,true,[.agg [.int .i64 0,.int .i64 0,.int .i64 0,.int .i64 0,.nilS,.nilS]]⟩,⟨6,1,true,[.agg [.int .i64 a.in_,.int .i64 a.out,.int .i64 (1 + a.states + b.states),.int .i64 0,.ref 4 1 0 (g k).length,.ref 5 1 0 ([]:List z4u).length]]⟩,⟨5,1,false,(g k).map z8n⟩,⟨3,1,false,([]:List z4u).map z65⟩]) (fun env H=>[z0k 6 (env 2),z0k 6 (env 3),z0k 6 (env 4),z0k 6 (env 5),z0k 5 (cellAt H (env 5) 4),z0k 3 (cellAt H (env 5) 5)]) 0 (by simp) ?_ ?_)
 · (repeat' (first|(simp (disch:=omega) only [push_cast,↓zz,seval,pa1,pa2,pb1,pb2,hin,hout,pL0,g0,z5p])|(with_reducible first|refine And.intro ?_ ?_|(first|refine z01 ?_ ?_|refine z00 ?_ ?_)<;>intro hc<;>(try simp only [push_cast] at hc))|omega|with_reducible intro _))
 intro k hk
 have gk:=gl k
 have hb0:L0.length ≤ 10000:=by first|omega|simp [z5p]
 rcases Nat.lt_or_ge k b.rules.length with hkl|hkl
 · have hw:=hb.r _ (z0i hkl)
   have e1:=gs k hkl
   generalize hre:nth b.rules k=r at *
   have hP:=z05 r.guards
   have hT:=z0w r.out
   have hpl:=z0v (g k)
   refine W_T ?_
   (repeat' (first|(simp (disch:=omega) only [push_cast,↓zz,seval,pa1,pa2,pb1,pb2,hin,hout,pL0,hre,hP,hT,hpl])|(with_reducible first|refine And.intro ?_ ?_|(first|refine z01 ?_ ?_|refine z00 ?_ ?_)<;>intro hc<;>(try simp only [push_cast] at hc))|omega|with_reducible intro _))
   all_goals
     refine ⟨k + 1,?_⟩
     (repeat' (first|(simp (disch:=omega) only [push_cast,↓zz,seval,pa1,pa2,pb1,pb2,hin,hout,pL0,e1,shR,hpl,hass])|(with_reducible first|refine And.intro ?_ ?_|(first|refine z01 ?_ ?_|refine z00 ?_ ?_)<;>intro hc<;>(try simp only [push_cast] at hc))|omega|with_reducible intro _))
 have hke:k=b.rules.length:=by omega
 subst hke
 have pL1:=z0v (g b.rules.length)
 have lL1:(g b.rules.length).length ≤ L0.length + 4096:=by omega
 have lL1:(g b.rules.length).length ≤ 10000:=by first|omega|(simp only [z5p,List.length_cons,List.length_nil] at lL1;omega)
 clear hk hkl gk gl gs g0 hb0
 generalize g b.rules.length=L1 at *
 refine W_T ?_
 (repeat' (first|(simp (disch:=omega) only [push_cast,↓zz,seval,pa1,pa2,pb1,pb2,hin,hout,pL0,pL1])|(with_reducible first|refine And.intro ?_ ?_|(first|refine z01 ?_ ?_|refine z00 ?_ ?_)<;>intro hc<;>(try simp only [push_cast] at hc))|omega|with_reducible intro _))
 obtain ⟨g,g0,gs,eF0,gl⟩:=z4n ([]:List z4u) a.finals (shF 1)
 refine z0f (z0g (fun (k:Nat)=>k ≤ a.finals.length) (fun k=>a.finals.length - k) (fun (k:Nat)=>[(2,.ptr 0 1 0 0),(3,.ptr 1 1 0 0),(4,.ptr 2 1 0 0),(5,.ptr 3 1 0 0),(10,.int .i64 k)]) (fun k=>[⟨6,1,true,[z1j a]⟩,⟨6,1,true,[z1j b]⟩,⟨6,1,true,[.agg [.int .i64 0,.int .i64 0,.int .i64 0,.int .i64 0,.nilS,.nilS]]⟩,⟨6,1,true,[.agg [.int .i64 a.in_,.int .i64 a.out,.int .i64 (1 + a.states + b.states),.int .i64 0,.ref 4 1 0 L1.length,.ref 5 1 0 (g k).length]]⟩,⟨5,1,false,L1.map z8n⟩,⟨3,1,false,(g k).map z65⟩]) (fun env H=>[z0k 6 (env 2),z0k 6 (env 3),z0k 6 (env 4),z0k 6 (env 5),z0k 5 (cellAt H (env 5) 4),z0k 3 (cellAt H (env 5) 5)]) 0 (by simp) ?_ ?_)
 · (repeat' (first|(simp (disch:=omega) only [push_cast,↓zz,seval,pa1,pa2,pb1,pb2,hin,hout,pL0,pL1,g0,z5p])|(with_reducible first|refine And.intro ?_ ?_|(first|refine z01 ?_ ?_|refine z00 ?_ ?_)<;>intro hc<;>(try simp only [push_cast] at hc))|omega|with_reducible intro _))
 intro k hk
 have gk:=gl k
 have hb0:([]:List z4u).length ≤ 10000:=by first|omega|simp [z5p]
 rcases Nat.lt_or_ge k a.finals.length with hkl|hkl
 · have hw:=ha.f _ (z0i hkl)
   have e1:=gs k hkl
   generalize hre:nth a.finals k=r at *
   have hP:=z05 r.guards
   have hT:=z0w r.out
   have hpl:=z0t (g k)
   refine W_T ?_
   (repeat' (first|(simp (disch:=omega) only [push_cast,↓zz,seval,pa1,pa2,pb1,pb2,hin,hout,pL0,pL1,hre,hP,hT,hpl])|(with_reducible first|refine And.intro ?_ ?_|(first|refine z01 ?_ ?_|refine z00 ?_ ?_)<;>intro hc<;>(try simp only [push_cast] at hc))|omega|with_reducible intro _))
   all_goals
     refine ⟨k + 1,?_⟩
     (repeat' (first|(simp (disch:=omega) only [push_cast,↓zz,seval,pa1,pa2,pb1,pb2,hin,hout,pL0,pL1,e1,shF,hpl,hass])|(with_reducible first|refine And.intro ?_ ?_|(first|refine z01 ?_ ?_|refine z00 ?_ ?_)<;>intro hc<;>(try simp only [push_cast] at hc))|omega|with_reducible intro _))
 have hke:k=a.finals.length:=by omega
 subst hke
 have pF0:=z0t (g a.finals.length)
 have lF0:(g a.finals.length).length ≤ ([]:List z4u).length + 4096:=by omega
 have lF0:(g a.finals.length).length ≤ 5000:=by first|omega|(simp only [z5p,List.length_cons,List.length_nil] at lF0;omega)
 clear hk hkl gk gl gs g0 hb0
 generalize g a.finals.length=F0 at *
 refine W_T ?_
 (repeat' (first|(simp (disch:=omega) only [push_cast,↓zz,seval,pa1,pa2,pb1,pb2,hin,hout,pL0,pL1,pF0])|(with_reducible first|refine And.intro ?_ ?_|(first|refine z01 ?_ ?_|refine z00 ?_ ?_)<;>intro hc<;>(try simp only [push_cast] at hc))|omega|with_reducible intro _))
 obtain ⟨g,g0,gs,eF1,gl⟩:=z4n F0 b.finals (shF (1 + a.states))
 refine z0f (z0g (fun (k:Nat)=>k ≤ b.finals.length) (fun k=>b.finals.length - k) (fun (k:Nat)=>[(2,.ptr 0 1 0 0),(3,.ptr 1 1 0 0),(4,.ptr 2 1 0 0),(5,.ptr 3 1 0 0),(12,.int .i64 k)]) (fun k=>[⟨6,1,true,[z1j a]⟩,⟨6,1,true,[z1j b]⟩,⟨6,1,true,[.agg [.int .i64 0,.int .i64 0,.int .i64 0,.int .i64 0,.nilS,.nilS]]⟩,⟨6,1,true,[.agg [.int .i64 a.in_,.int .i64 a.out,.int .i64 (1 + a.states + b.states),.int .i64 0,.ref 4 1 0 L1.length,.ref 5 1 0 (g k).length]]⟩,⟨5,1,false,L1.map z8n⟩,⟨3,1,false,(g k).map z65⟩]) (fun env H=>[z0k 6 (env 2),z0k 6 (env 3),z0k 6 (env 4),z0k 6 (env 5),z0k 5 (cellAt H (env 5) 4),z0k 3 (cellAt H (env 5) 5)]) 0 (by simp) ?_ ?_)
 · (repeat' (first|(simp (disch:=omega) only [push_cast,↓zz,seval,pa1,pa2,pb1,pb2,hin,hout,pL0,pL1,pF0,g0,z5p])|(with_reducible first|refine And.intro ?_ ?_|(first|refine z01 ?_ ?_|refine z00 ?_ ?_)<;>intro hc<;>(try simp only [push_cast] at hc))|omega|with_reducible intro _))
 intro k hk
 have gk:=gl k
 have hb0:F0.length ≤ 10000:=by first|omega|simp [z5p]
 rcases Nat.lt_or_ge k b.finals.length with hkl|hkl
 · have hw:=hb.f _ (z0i hkl)
   have e1:=gs k hkl
   generalize hre:nth b.finals k=r at *
   have hP:=z05 r.guards
   have hT:=z0w r.out
   have hpl:=z0t (g k)
   refine W_T ?_
   (repeat' (first|(simp (disch:=omega) only [push_cast,↓zz,seval,pa1,pa2,pb1,pb2,hin,hout,pL0,pL1,pF0,hre,hP,hT,hpl])|(with_reducible first|refine And.intro ?_ ?_|(first|refine z01 ?_ ?_|refine z00 ?_ ?_)<;>intro hc<;>(try simp only [push_cast] at hc))|omega|with_reducible intro _))
   all_goals
     refine ⟨k + 1,?_⟩
     (repeat' (first|(simp (disch:=omega) only [push_cast,↓zz,seval,pa1,pa2,pb1,pb2,hin,hout,pL0,pL1,pF0,e1,shF,hpl,hass])|(with_reducible first|refine And.intro ?_ ?_|(first|refine z01 ?_ ?_|refine z00 ?_ ?_)<;>intro hc<;>(try simp only [push_cast] at hc))|omega|with_reducible intro _))
 have hke:k=b.finals.length:=by omega
 subst hke
 have pF1:=z0t (g b.finals.length)
 have lF1:(g b.finals.length).length ≤ F0.length + 4096:=by omega
 have lF1:(g b.finals.length).length ≤ 10000:=by first|omega|(simp only [z5p,List.length_cons,List.length_nil] at lF1;omega)
 clear hk hkl gk gl gs g0 hb0
 generalize g b.finals.length=F1 at *
 refine W_T ?_
 (repeat' (first|(simp (disch:=omega) only [push_cast,↓zz,seval,pa1,pa2,pb1,pb2,hin,hout,pL0,pL1,pF0,pF1])|(with_reducible first|refine And.intro ?_ ?_|(first|refine z01 ?_ ?_|refine z00 ?_ ?_)<;>intro hc<;>(try simp only [push_cast] at hc))|omega|with_reducible intro _))
 all_goals first
   | (simp only [z9e,hin,hout];done)
   | (rw [eL1,eL0];rfl)
   | (rw [eF1,eF0];rfl)
   | trace_state
theorem zfi {gs:List (List Span)} {out:List Term} (h:z74 gs out ≤ 1500):gs.length ≤ 100:=by
 unfold z74 at h
 split at h
 · omega
 · omega
theorem zfj {d:Desc} (h:z7u d=true):zfh d:=by
 refine ⟨zza h,?_,?_⟩
 all_goals
   simp only [z7u,Bool.and_eq_true,decide_eq_true_eq] at h
   have sR:∀ r,0 ≤ szR r∧szR r ≤ 2000000:=fun r=>zbh _ _
   have sF:∀ f,0 ≤ szF f∧szF f ≤ 2000000:=fun r=>zbh _ _
   have a1:=(z57 sR d.rules).1
   have a2:=(z57 sF d.finals).1
 · intro r hr
   have h1:=z8h (fun r=>(sR r).1) hr
   have h2:szR r=z74 r.guards r.out:=rfl
   have:=zfi (gs:=r.guards) (out:=r.out) (by omega)
   omega
 · intro f hf
   have h1:=z8h (fun r=>(sF r).1) hf
   have h2:szF f=z74 f.guards f.out:=rfl
   have:=zfi (gs:=f.guards) (out:=f.out) (by omega)
   omega
end Go.Proofs.YticodgjinajkpaaGreat
