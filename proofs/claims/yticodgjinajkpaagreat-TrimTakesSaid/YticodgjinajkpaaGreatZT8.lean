/-
  Parts of the proof that the law holds whatever the input; without conditions.
-/
import Derived.Test.YticodgjinajkpaaGreatZT7
import Derived.Test.YticodgjinajkpaaGreatZT5
set_option linter.unusedSimpArgs false
set_option linter.unusedVariables false
namespace Go.Proofs.YticodgjinajkpaaGreat
open Abs
def fwdE (d:Desc):List (Int × Int):=d.rules.map fun r=>(r.from_,r.to_)
def bwdE (d:Desc):List (Int × Int):=d.rules.map fun r=>(r.to_,r.from_)
def endE (d:Desc):List Int:=d.finals.map (·.from_)
structure Wf (d:Desc):Prop where
 n:∃ n:Nat,d.states=n∧1 ≤ n∧n ≤ 1024
 start:0 ≤ d.start∧d.start < d.states
 rl:d.rules.length ≤ 4096
 fl:d.finals.length ≤ 4096
 r:∀ r ∈ d.rules,(0 ≤ r.from_∧r.from_ < d.states)∧0 ≤ r.to_∧r.to_ < d.states
 f:∀ f ∈ d.finals,0 ≤ f.from_∧f.from_ < d.states
theorem Lw {d:Desc} (h:Cp d=0):Wf d:=by
 obtain ⟨h1,h2,h3⟩:=G3 h
 have h4:=zd9 h1
 refine ⟨⟨d.states.toNat,by omega,by omega,by omega⟩,h4.2.2.2,h4.2.1,h4.2.2.1,fun r hr=>Wk (h2 r hr),fun f hf=>?_⟩
 have:=h3 f hf
 simp only [C9,Gw,Bool.and_eq_true,decide_eq_true_eq] at this
 exact this.1
theorem Wf.fwd {d:Desc} (h:Wf d) {n:Nat} (hn:d.states=n):InR n [d.start] (fwdE d) where
 f s hs:=by simp only [List.mem_singleton] at hs;subst hs;have:=h.start;omega
 e e he:=by
   obtain ⟨r,hr,rfl⟩:=List.mem_map.1 he
   have:=h.r r hr
   simp only
   omega
theorem Wf.bwd {d:Desc} (h:Wf d) {n:Nat} (hn:d.states=n):InR n (endE d) (bwdE d) where
 f s hs:=by
   obtain ⟨f,hf,rfl⟩:=List.mem_map.1 hs
   have:=h.f f hf
   omega
 e e he:=by
   obtain ⟨r,hr,rfl⟩:=List.mem_map.1 he
   have:=h.r r hr
   simp only
   omega
noncomputable def Ew (d:Desc):List Bool:=Cj d.states.toNat [d.start] (fwdE d)
noncomputable def goL (d:Desc):List Bool:=Cj d.states.toNat (endE d) (bwdE d)
theorem z8u {α β:Type} [Inhabited α] [Inhabited β] {l:List α} {f:α→β} {k:Nat} (h:k < l.length):nth (l.map f) k=f (nth l k):=by
 simp [nth,List.getD,h]
theorem Kf {α β:Type} [Inhabited α] {l:List α} {f:α→β} {k:Nat} (h:k < l.length):(l.map f).take (k + 1)=(l.map f).take k ++ [f (nth l k)]:=by
 rw [← List.map_take,take_at h,List.map_append,List.map_take];rfl
theorem Tt (d:Desc) (h:Wf d):PC Tryz.prog 34 [By d] (Eq (Ew d)):=by
 obtain ⟨n,hn,hn1,hn2⟩:=h.n
 have hr:=h.fwd hn
 have hrl:=h.rl
 have pR:=Bj d.rules
 have pF:=Bg d.finals
 have hS:=Q1 n [d.start] (fwdE d) hn2 (by simp) (by simp) (by simp [fwdE];omega) hr
 have ec:Ew d=Cj n [d.start] (fwdE d):=by rw [Ew,hn];rfl
 rw [ec]
 have hel:(fwdE d).length=d.rules.length:=by simp [fwdE]
 refine A9 Yd ?_
 unfold M9
 (repeat' (first|(simp (disch:=omega) only [push_cast,↓zz,seval,pR,pF])|(with_reducible first|refine And.intro ?_ ?_|(first|refine Ab ?_ ?_|refine Aa ?_ ?_)<;>intro hc<;>(try simp only [push_cast] at hc))|omega|with_reducible intro _))
 refine Ao (Ap (fun (k:Nat)=>k ≤ d.rules.length) (fun k=>d.rules.length - k)
   (fun k=>[(1,.ptr 0 1 0 0),(3,.ref 1 1 0 k),(7,F5 d.rules),(8,.int .i64 d.rules.length),(9,.int .i64 k)]) (fun k=>[⟨6,1,true,[By d]⟩,⟨2,1,false,((fwdE d).take k).map arcV⟩]) (fun env _=>[Aw 6 (env 1),Aw 2 (env 3)]) 0 (by simp) ?_ ?_)
 · (repeat' (first|(simp (disch:=omega) only [push_cast,↓zz,seval,pR,pF])|(with_reducible first|refine And.intro ?_ ?_|(first|refine Ab ?_ ?_|refine Aa ?_ ?_)<;>intro hc<;>(try simp only [push_cast] at hc))|omega|with_reducible intro _))
 intro k hk
 rcases Nat.lt_or_ge k d.rules.length with hkl|hkl
 · have e1:(fwdE d).take (k + 1)=(fwdE d).take k ++ [((nth d.rules k).from_,(nth d.rules k).to_)]:=Kf hkl
   have hll:((fwdE d).take k).length=k:=by simp [fwdE];omega
   generalize hre:nth d.rules k=r at *
   have hgr:=Ae r.guards
   have hot:=Bb r.out
   have hpl:=Gx ((fwdE d).take k)
   generalize (fwdE d).take k=L at *
   refine W_T ?_
   (repeat' (first|(simp (disch:=omega) only [push_cast,↓zz,seval,pR,pF,hre,hgr,hot])|(with_reducible first|refine And.intro ?_ ?_|(first|refine Ab ?_ ?_|refine Aa ?_ ?_)<;>intro hc<;>(try simp only [push_cast] at hc))|omega|with_reducible intro _))
   all_goals
     refine ⟨k + 1,?_⟩
     (repeat' (first|(simp (disch:=omega) only [push_cast,↓zz,seval,e1,hpl])|(with_reducible first|refine And.intro ?_ ?_|(first|refine Ab ?_ ?_|refine Aa ?_ ?_)<;>intro hc<;>(try simp only [push_cast] at hc))|omega|with_reducible intro _))
 · obtain rfl:k=d.rules.length:=by omega
   have et:(fwdE d).take d.rules.length=fwdE d:=List.take_of_length_le (by omega)
   have pE:=Gx (fwdE d)
   rw [et]
   refine W_T ?_
   (repeat' (first|(simp (disch:=omega) only [push_cast,↓zz,seval,pR,pF,hn,pE,hel,et])|(with_reducible first|refine And.intro ?_ ?_|(first|refine Ab ?_ ?_|refine Aa ?_ ?_)<;>intro hc<;>(try simp only [push_cast] at hc)|refine eK hS ?_|refine eQ hS ?_|refine eG hS ?_)|((with_reducible first|refine cK hS ?_|refine cQ hS ?_|refine cG hS ?_);(simp (disch:=omega) only [push_cast,↓zz,seval,pR,pF,hn,pE,hel,et]);(fail_if_success with_reducible change False))|omega|with_reducible intro _))
   all_goals trace_state
theorem Q7 (d:Desc) (h:Wf d):PC Tryz.prog 35 [By d] (Eq (goL d)):=by
 obtain ⟨n,hn,hn1,hn2⟩:=h.n
 have hr:=h.bwd hn
 have hrl:=h.rl
 have hfl:=h.fl
 have pR:=Bj d.rules
 have pF:=Bg d.finals
 have ec:goL d=Cj n (endE d) (bwdE d):=by rw [goL,hn];rfl
 rw [ec]
 have hel:(bwdE d).length=d.rules.length:=by simp [bwdE]
 have hfl2:(endE d).length=d.finals.length:=by simp [endE]
 refine A9 Vb ?_
 unfold K1
 (repeat' (first|(simp (disch:=omega) only [push_cast,↓zz,seval,pR,pF])|(with_reducible first|refine And.intro ?_ ?_|(first|refine Ab ?_ ?_|refine Aa ?_ ?_)<;>intro hc<;>(try simp only [push_cast] at hc))|omega|with_reducible intro _))
 refine Ao (Ap (fun (k:Nat)=>k ≤ d.rules.length) (fun k=>d.rules.length - k)
   (fun k=>[(1,.ptr 0 1 0 0),(3,.ref 1 1 0 k),(4,.nilS),(10,F5 d.rules),(11,.int .i64 d.rules.length),(12,.int .i64 k)]) (fun k=>[⟨6,1,true,[By d]⟩,⟨2,1,false,((bwdE d).take k).map arcV⟩]) (fun env _=>[Aw 6 (env 1),Aw 2 (env 3)]) 0 (by simp) ?_ ?_)
 · (repeat' (first|(simp (disch:=omega) only [push_cast,↓zz,seval,pR,pF])|(with_reducible first|refine And.intro ?_ ?_|(first|refine Ab ?_ ?_|refine Aa ?_ ?_)<;>intro hc<;>(try simp only [push_cast] at hc))|omega|with_reducible intro _))
 intro k hk
 rcases Nat.lt_or_ge k d.rules.length with hkl|hkl
 · have e1:(bwdE d).take (k + 1)=(bwdE d).take k ++ [((nth d.rules k).to_,(nth d.rules k).from_)]:=Kf hkl
   have hll:((bwdE d).take k).length=k:=by simp [bwdE];omega
   generalize hre:nth d.rules k=r at *
   have hgr:=Ae r.guards
   have hot:=Bb r.out
   have hpl:=Gx ((bwdE d).take k)
   generalize (bwdE d).take k=L at *
   refine W_T ?_
   (repeat' (first|(simp (disch:=omega) only [push_cast,↓zz,seval,pR,pF,hre,hgr,hot])|(with_reducible first|refine And.intro ?_ ?_|(first|refine Ab ?_ ?_|refine Aa ?_ ?_)<;>intro hc<;>(try simp only [push_cast] at hc))|omega|with_reducible intro _))
   all_goals
     refine ⟨k + 1,?_⟩
     (repeat' (first|(simp (disch:=omega) only [push_cast,↓zz,seval,e1,hpl])|(with_reducible first|refine And.intro ?_ ?_|(first|refine Ab ?_ ?_|refine Aa ?_ ?_)<;>intro hc<;>(try simp only [push_cast] at hc))|omega|with_reducible intro _))
 · obtain rfl:k=d.rules.length:=by omega
   have et:(bwdE d).take d.rules.length=bwdE d:=List.take_of_length_le (by omega)
   have pE:=Gx (bwdE d)
   rw [et]
   clear hk hkl
   refine W_T ?_
   (repeat' (first|(simp (disch:=omega) only [push_cast,↓zz,seval,pR,pF,hn,pE,hel,et])|(with_reducible first|refine And.intro ?_ ?_|(first|refine Ab ?_ ?_|refine Aa ?_ ?_)<;>intro hc<;>(try simp only [push_cast] at hc))|omega|with_reducible intro _))
   by_cases hfe:d.finals=[]
   · have hfe2:endE d=[]:=by rw [endE,hfe];rfl
     rw [hfe2] at hr ⊢
     have hS:=z8p n (bwdE d) hn2 (by omega) hr
     have hfe3:d.finals.length=0:=by rw [hfe];rfl
     refine Ao (Ap (fun (_:Unit)=>True) (fun _=>0)
       (fun k=>[(1,.ptr 0 1 0 0),(3,.ref 1 1 0 d.rules.length),(4,.nilS),(26,Pm d.finals),(27,.int .i64 d.finals.length),(28,.int .i64 0)]) (fun k=>[⟨6,1,true,[By d]⟩,⟨2,1,false,(bwdE d).map arcV⟩]) (fun env _=>[Aw 6 (env 1),Aw 2 (env 3)]) () trivial ?_ ?_)
     · (repeat' (first|(simp (disch:=omega) only [push_cast,↓zz,seval,pR,pF,pE])|(with_reducible first|refine And.intro ?_ ?_|(first|refine Ab ?_ ?_|refine Aa ?_ ?_)<;>intro hc<;>(try simp only [push_cast] at hc))|omega|with_reducible intro _))
     rintro ⟨⟩ _
     refine W_T ?_
     (repeat' (first|(simp (disch:=omega) only [push_cast,↓zz,seval,pR,pF,hn,pE,hel,et])|(with_reducible first|refine And.intro ?_ ?_|(first|refine Ab ?_ ?_|refine Aa ?_ ?_)<;>intro hc<;>(try simp only [push_cast] at hc)|refine eK hS ?_|refine eQ hS ?_|refine eG hS ?_)|((with_reducible first|refine cK hS ?_|refine cQ hS ?_|refine cG hS ?_);(simp (disch:=omega) only [push_cast,↓zz,seval,pR,pF,hn,pE,hel,et]);(fail_if_success with_reducible change False))|omega|with_reducible intro _))
     all_goals first|omega|trace_state
   · have hne:endE d ≠ []:=by simp [endE,hfe]
     have hS:=Q1 n (endE d) (bwdE d) hn2 hne (by omega) (by omega) hr
     refine Ao (Ap (fun (k:Nat)=>k ≤ d.finals.length) (fun k=>d.finals.length - k)
       (fun k=>[(1,.ptr 0 1 0 0),(3,.ref 1 1 0 d.rules.length),(4,.ref 2 1 0 k),(26,Pm d.finals),(27,.int .i64 d.finals.length),(28,.int .i64 k)]) (fun k=>[⟨6,1,true,[By d]⟩,⟨2,1,false,(bwdE d).map arcV⟩,⟨1,1,false,((endE d).take k).map (AV.int .i64)⟩]) (fun env _=>[Aw 6 (env 1),Aw 2 (env 3),Aw 1 (env 4)]) 0 (by simp) ?_ ?_)
     · (repeat' (first|(simp (disch:=omega) only [push_cast,↓zz,seval,pR,pF,pE])|(with_reducible first|refine And.intro ?_ ?_|(first|refine Ab ?_ ?_|refine Aa ?_ ?_)<;>intro hc<;>(try simp only [push_cast] at hc))|omega|with_reducible intro _))
     intro k hk
     rcases Nat.lt_or_ge k d.finals.length with hkl|hkl
     · have e1:(endE d).take (k + 1)=(endE d).take k ++ [(nth d.finals k).from_]:=Kf hkl
       have hll:((endE d).take k).length=k:=by simp;omega
       generalize hre:nth d.finals k=r at *
       have hgr:=Ae r.guards
       have hot:=Bb r.out
       generalize (endE d).take k=L at *
       refine W_T ?_
       (repeat' (first|(simp (disch:=omega) only [push_cast,↓zz,seval,pR,pF,pE,hel,hre,hgr,hot])|(with_reducible first|refine And.intro ?_ ?_|(first|refine Ab ?_ ?_|refine Aa ?_ ?_)<;>intro hc<;>(try simp only [push_cast] at hc))|omega|with_reducible intro _))
       all_goals
         refine ⟨k + 1,?_⟩
         (repeat' (first|(simp (disch:=omega) only [push_cast,↓zz,seval,e1,hel])|(with_reducible first|refine And.intro ?_ ?_|(first|refine Ab ?_ ?_|refine Aa ?_ ?_)<;>intro hc<;>(try simp only [push_cast] at hc))|omega|with_reducible intro _))
     · obtain rfl:k=d.finals.length:=by omega
       have et3:(endE d).take d.finals.length=endE d:=List.take_of_length_le (by omega)
       have pI:Ay ((endE d).map (AV.int .i64))=true:=Cw .i64 _
       rw [et3]
       clear hk hkl
       refine W_T ?_
       (repeat' (first|(simp (disch:=omega) only [push_cast,↓zz,seval,pR,pF,hn,pE,hel,pI,hfl2,et,et3])|(with_reducible first|refine And.intro ?_ ?_|(first|refine Ab ?_ ?_|refine Aa ?_ ?_)<;>intro hc<;>(try simp only [push_cast] at hc)|refine eK hS ?_|refine eQ hS ?_|refine eG hS ?_)|((with_reducible first|refine cK hS ?_|refine cQ hS ?_|refine cG hS ?_);(simp (disch:=omega) only [push_cast,↓zz,seval,pR,pF,hn,pE,hel,pI,hfl2,et,et3]);(fail_if_success with_reducible change False))|omega|with_reducible intro _))
       all_goals trace_state
def Jf (l:List Bool) (k:Nat):List Int:=((List.range k).filter fun i=>nth l i).map fun i:Nat=>(i:Int)
theorem Tu (l:List Bool) (k:Nat):Jf l (k + 1)=if nth l k=true then Jf l k ++ [(k:Int)] else Jf l k:=by
 simp only [Jf,List.range_succ,List.filter_append,List.map_append,List.filter_cons,List.filter_nil]
 split<;>simp_all
theorem zdj (l:List Bool) (k:Nat):(Jf l k).length ≤ k:=by
 have:=List.length_filter_le (fun i=>nth l i) (List.range k)
 simpa [Jf] using this
theorem Df (l:List Bool):Ay (l.map AV.bool)=true:=Dn (fun _=>rfl) l
theorem Zr (l:List Bool) (hl:l.length ≤ 1000000):PC Tryz.prog 33 [Eq l] (C2 (Jf l l.length)):=by
 have pB:=Df l
 refine A9 z0o ?_
 unfold Po
 (repeat' (first|(simp (disch:=omega) only [push_cast,↓zz,seval,pB])|(with_reducible first|refine And.intro ?_ ?_|(first|refine Ab ?_ ?_|refine Aa ?_ ?_)<;>intro hc<;>(try simp only [push_cast] at hc))|omega|with_reducible intro _))
 refine Ao (Ap (fun (k:Nat)=>k ≤ l.length) (fun k=>l.length - k)
   (fun k=>[(3,.ref 0 1 0 (Jf l k).length),(6,Eq l),(7,.int .i64 l.length),(8,.int .i64 k)]) (fun k=>[⟨1,1,false,(Jf l k).map (AV.int .i64)⟩]) (fun env _=>[Aw 1 (env 3)]) 0 (by simp) ?_ ?_)
 · have e0:Jf l 0=[]:=rfl
   (repeat' (first|(simp (disch:=omega) only [push_cast,↓zz,seval,pB,e0])|(with_reducible first|refine And.intro ?_ ?_|(first|refine Ab ?_ ?_|refine Aa ?_ ?_)<;>intro hc<;>(try simp only [push_cast] at hc))|omega|with_reducible intro _))
 intro k hk
 have hm:=zdj l k
 have pM:Ay ((Jf l k).map (AV.int .i64))=true:=Cw .i64 _
 rcases Nat.lt_or_ge k l.length with hkl|hkl
 · have hs:=Tu l k
   generalize Jf l k=L at *
   refine W_T ?_
   cases hx:nth l k with
   | true =>
     rw [hx,if_pos rfl] at hs
     (repeat' (first|(simp (disch:=omega) only [push_cast,↓zz,seval,pB,hx])|(with_reducible first|refine And.intro ?_ ?_|(first|refine Ab ?_ ?_|refine Aa ?_ ?_)<;>intro hc<;>(try simp only [push_cast] at hc))|omega|with_reducible intro _))
     all_goals
       refine ⟨k + 1,?_⟩
       (repeat' (first|(simp (disch:=omega) only [push_cast,↓zz,seval,hs,pM])|(with_reducible first|refine And.intro ?_ ?_|(first|refine Ab ?_ ?_|refine Aa ?_ ?_)<;>intro hc<;>(try simp only [push_cast] at hc))|omega|with_reducible intro _))
   | false =>
     rw [hx,if_neg (by simp)] at hs
     (repeat' (first|(simp (disch:=omega) only [push_cast,↓zz,seval,pB,hx])|(with_reducible first|refine And.intro ?_ ?_|(first|refine Ab ?_ ?_|refine Aa ?_ ?_)<;>intro hc<;>(try simp only [push_cast] at hc))|omega|with_reducible intro _))
     all_goals
       refine ⟨k + 1,?_⟩
       (repeat' (first|(simp (disch:=omega) only [push_cast,↓zz,seval,hs,pM])|(with_reducible first|refine And.intro ?_ ?_|(first|refine Ab ?_ ?_|refine Aa ?_ ?_)<;>intro hc<;>(try simp only [push_cast] at hc))|omega|with_reducible intro _))
 · obtain rfl:k=l.length:=by omega
   generalize Jf l l.length=L at *
   refine W_T ?_
   (repeat' (first|(simp (disch:=omega) only [push_cast,↓zz,seval,pB,pM])|(with_reducible first|refine And.intro ?_ ?_|(first|refine Ab ?_ ?_|refine Aa ?_ ?_)<;>intro hc<;>(try simp only [push_cast] at hc))|omega|with_reducible intro _))
   all_goals trace_state
theorem Q8 (d:Desc):(Ew d).length=d.states.toNat:=Du _ _ _
theorem z2h (d:Desc):(goL d).length=d.states.toNat:=Du _ _ _
noncomputable def N2 (d:Desc):List Int:=Jf (Ew d) d.states.toNat
noncomputable def Zs (d:Desc):List Int:=Jf (goL d) d.states.toNat
theorem z8v (d:Desc) (hf:Hh d) (h:Cp d=0):PC Tryz.prog 14 [By d] (.tup [C2 (N2 d),.int .i64 0]):=by
 have hw:=Lw h
 obtain ⟨n,hn,hn1,hn2⟩:=hw.n
 have hC:=I7 d hf
 rw [h] at hC
 have h1:=Tt d hw
 have h2:=Zr (Ew d) (by rw [Q8];omega)
 rw [Q8] at h2
 change PC _ _ _ (C2 (N2 d)) at h2
 have pR:=Bj d.rules
 have pF:=Bg d.finals
 have pB:=Df (Ew d)
 have pI:Ay ((N2 d).map (AV.int .i64))=true:=Cw .i64 _
 generalize Ew d=L at *
 generalize N2 d=M at *
 refine A9 X8 ?_
 unfold M4
 (repeat' (first|(simp (disch:=omega) only [push_cast,↓zz,seval,pR,pF,pB,pI])|(with_reducible first|refine And.intro ?_ ?_|(first|refine Ab ?_ ?_|refine Aa ?_ ?_)<;>intro hc<;>(try simp only [push_cast] at hc)|refine eK hC ?_|refine eQ hC ?_|refine eG hC ?_|refine eK h1 ?_|refine eQ h1 ?_|refine eG h1 ?_|refine eK h2 ?_|refine eQ h2 ?_|refine eG h2 ?_)|((with_reducible first|refine cK hC ?_|refine cQ hC ?_|refine cG hC ?_);(simp (disch:=omega) only [push_cast,↓zz,seval,pR,pF,pB,pI]);(fail_if_success with_reducible change False))|((with_reducible first|refine cK h1 ?_|refine cQ h1 ?_|refine cG h1 ?_);(simp (disch:=omega) only [push_cast,↓zz,seval,pR,pF,pB,pI]);(fail_if_success with_reducible change False))|((with_reducible first|refine cK h2 ?_|refine cQ h2 ?_|refine cG h2 ?_);(simp (disch:=omega) only [push_cast,↓zz,seval,pR,pF,pB,pI]);(fail_if_success with_reducible change False))|omega|with_reducible intro _))
 all_goals trace_state
theorem z2i (d:Desc) (hf:Hh d) (h:Cp d=0):PC Tryz.prog 15 [By d] (.tup [C2 (Zs d),.int .i64 0]):=by
 have hw:=Lw h
 obtain ⟨n,hn,hn1,hn2⟩:=hw.n
 have hC:=I7 d hf
 rw [h] at hC
 have h1:=Q7 d hw
 have h2:=Zr (goL d) (by rw [z2h];omega)
 rw [z2h] at h2
 change PC _ _ _ (C2 (Zs d)) at h2
 have pR:=Bj d.rules
 have pF:=Bg d.finals
 have pB:=Df (goL d)
 have pI:Ay ((Zs d).map (AV.int .i64))=true:=Cw .i64 _
 generalize goL d=L at *
 generalize Zs d=M at *
 refine A9 U8 ?_
 unfold Kx
 (repeat' (first|(simp (disch:=omega) only [push_cast,↓zz,seval,pR,pF,pB,pI])|(with_reducible first|refine And.intro ?_ ?_|(first|refine Ab ?_ ?_|refine Aa ?_ ?_)<;>intro hc<;>(try simp only [push_cast] at hc)|refine eK hC ?_|refine eQ hC ?_|refine eG hC ?_|refine eK h1 ?_|refine eQ h1 ?_|refine eG h1 ?_|refine eK h2 ?_|refine eQ h2 ?_|refine eG h2 ?_)|((with_reducible first|refine cK hC ?_|refine cQ hC ?_|refine cG hC ?_);(simp (disch:=omega) only [push_cast,↓zz,seval,pR,pF,pB,pI]);(fail_if_success with_reducible change False))|((with_reducible first|refine cK h1 ?_|refine cQ h1 ?_|refine cG h1 ?_);(simp (disch:=omega) only [push_cast,↓zz,seval,pR,pF,pB,pI]);(fail_if_success with_reducible change False))|((with_reducible first|refine cK h2 ?_|refine cQ h2 ?_|refine cG h2 ?_);(simp (disch:=omega) only [push_cast,↓zz,seval,pR,pF,pB,pI]);(fail_if_success with_reducible change False))|omega|with_reducible intro _))
 all_goals trace_state
theorem Lx (l:List (List Span)) (h0:l ≠ []) (hl:l.length ≤ 1000000000000):Bn Tryz.prog 59 [Ak l] (Abs.hl []) fun y H'=>y=.ref 0 2 0 l.length∧H'=Abs.hl [⟨1,2,false,l.map Ad⟩]:=by
 refine F6 (b:=0) B9 rfl ?_
 unfold Bu
 have hne:(l.map Ad).isEmpty=false:=by
   cases l with
   | nil=>exact absurd rfl h0
   | cons _ _=>rfl
 have hp:=Ae l
 (repeat' (first|(simp (disch:=omega) only [push_cast,↓zz,seval,hne,hp])|(with_reducible first|refine And.intro ?_ ?_|(first|refine Ab ?_ ?_|refine Aa ?_ ?_)<;>intro hc<;>(try simp only [push_cast] at hc))|omega|with_reducible intro _))
 all_goals trace_state
theorem N3 (l:List Term) (h0:l ≠ []) (hl:l.length ≤ 1000000000000):Bn Tryz.prog 60 [Cz l] (Abs.hl []) fun y H'=>y=.ref 0 2 0 l.length∧H'=Abs.hl [⟨6,2,false,l.map Bv⟩]:=by
 refine F6 (b:=0) Ci rfl ?_
 unfold B1
 have hne:(l.map Bv).isEmpty=false:=by
   cases l with
   | nil=>exact absurd rfl h0
   | cons _ _=>rfl
 have hp:=Bb l
 (repeat' (first|(simp (disch:=omega) only [push_cast,↓zz,seval,hne,hp])|(with_reducible first|refine And.intro ?_ ?_|(first|refine Ab ?_ ?_|refine Aa ?_ ?_)<;>intro hc<;>(try simp only [push_cast] at hc))|omega|with_reducible intro _))
 all_goals trace_state
theorem Aj:PC Tryz.prog 59 [Ak []] (Ak []):=by
 refine z42 ?_ ?_
 · refine A9 B9 ?_
   unfold Bu
   (repeat' (first|(simp (disch:=omega) only [push_cast,↓zz,seval])|(with_reducible first|refine And.intro ?_ ?_|(first|refine Ab ?_ ?_|refine Aa ?_ ?_)<;>intro hc<;>(try simp only [push_cast] at hc))|omega|with_reducible intro _))
 · refine A9 B9 ?_
   unfold Bu
   (repeat' (first|(simp (disch:=omega) only [push_cast,↓zz,seval])|(with_reducible first|refine And.intro ?_ ?_|(first|refine Ab ?_ ?_|refine Aa ?_ ?_)<;>intro hc<;>(try simp only [push_cast] at hc))|omega|with_reducible intro _))
theorem An:PC Tryz.prog 60 [Cz []] (Cz []):=by
 refine z42 ?_ ?_
 · refine A9 Ci ?_
   unfold B1
   (repeat' (first|(simp (disch:=omega) only [push_cast,↓zz,seval])|(with_reducible first|refine And.intro ?_ ?_|(first|refine Ab ?_ ?_|refine Aa ?_ ?_)<;>intro hc<;>(try simp only [push_cast] at hc))|omega|with_reducible intro _))
 · refine A9 Ci ?_
   unfold B1
   (repeat' (first|(simp (disch:=omega) only [push_cast,↓zz,seval])|(with_reducible first|refine And.intro ?_ ?_|(first|refine Ab ?_ ?_|refine Aa ?_ ?_)<;>intro hc<;>(try simp only [push_cast] at hc))|omega|with_reducible intro _))
theorem Hj {α β:Type} [Inhabited α] {l:List α} {f:α→β} {k:Nat} (h:k < l.length):(l.map f).set k (f (nth l k))=l.map f:=by
 have e:(l.map f)[k]'(by simpa using h)=f (nth l k):=by simp [nth,List.getD,h]
 rw [← e,List.set_getElem_self]
theorem zi8 (gs:List (List Span)) (out:List Term) (hgn:gs.length ≤ 1000000) (hgl:∀ g ∈ gs,g.length ≤ 1000000) (hon:out.length ≤ 1000000) (hol:∀ t ∈ out,t.parts.length ≤ 1000000) :
   PC Tryz.prog 36 [Ak gs,Cz out] (.tup [Ak gs,Cz out]):=by
 have pG:=Ae gs
 have pT:=Bb out
 refine A9 z7k ?_
 unfold Sy
 by_cases hg:gs=[]
 · subst hg
   by_cases ho:out=[]
   · subst ho
     (repeat' (first|(simp (disch:=omega) only [push_cast,↓zz,seval,pG,pT])|(with_reducible first|refine And.intro ?_ ?_|(first|refine Ab ?_ ?_|refine Aa ?_ ?_)<;>intro hc<;>(try simp only [push_cast] at hc)|refine eK Aj ?_|refine eQ Aj ?_|refine eG Aj ?_|refine eK An ?_|refine eQ An ?_|refine eG An ?_)|((with_reducible first|refine cK Aj ?_|refine cQ Aj ?_|refine cG Aj ?_);(simp (disch:=omega) only [push_cast,↓zz,seval,pG,pT]);(fail_if_success with_reducible change False))|((with_reducible first|refine cK An ?_|refine cQ An ?_|refine cG An ?_);(simp (disch:=omega) only [push_cast,↓zz,seval,pG,pT]);(fail_if_success with_reducible change False))|omega|with_reducible intro _))
     refine Ao (Ap (fun (_:Unit)=>True) (fun _=>0) (fun k=>[(0,.lst 1 []),(1,.lst 6 []),(13,.int .i64 0),(14,.int .i64 0)]) (fun k=>[]) (fun env _=>[]) () trivial ?_ ?_)
     · (repeat' (first|(simp (disch:=omega) only [push_cast,↓zz,seval,pG,pT])|(with_reducible first|refine And.intro ?_ ?_|(first|refine Ab ?_ ?_|refine Aa ?_ ?_)<;>intro hc<;>(try simp only [push_cast] at hc))|omega|with_reducible intro _))
     rintro ⟨⟩ _
     refine W_T ?_
     (repeat' (first|(simp (disch:=omega) only [push_cast,↓zz,seval,pG,pT])|(with_reducible first|refine And.intro ?_ ?_|(first|refine Ab ?_ ?_|refine Aa ?_ ?_)<;>intro hc<;>(try simp only [push_cast] at hc)|refine eK Aj ?_|refine eQ Aj ?_|refine eG Aj ?_|refine eK An ?_|refine eQ An ?_|refine eG An ?_)|((with_reducible first|refine cK Aj ?_|refine cQ Aj ?_|refine cG Aj ?_);(simp (disch:=omega) only [push_cast,↓zz,seval,pG,pT]);(fail_if_success with_reducible change False))|((with_reducible first|refine cK An ?_|refine cQ An ?_|refine cG An ?_);(simp (disch:=omega) only [push_cast,↓zz,seval,pG,pT]);(fail_if_success with_reducible change False))|omega|with_reducible intro _))
     refine Ao (Ap (fun (_:Unit)=>True) (fun _=>0) (fun k=>[(0,.lst 1 []),(1,.lst 6 []),(27,.int .i64 0),(28,.int .i64 0)]) (fun k=>[]) (fun env _=>[]) () trivial ?_ ?_)
     · (repeat' (first|(simp (disch:=omega) only [push_cast,↓zz,seval,pG,pT])|(with_reducible first|refine And.intro ?_ ?_|(first|refine Ab ?_ ?_|refine Aa ?_ ?_)<;>intro hc<;>(try simp only [push_cast] at hc))|omega|with_reducible intro _))
     rintro ⟨⟩ _
     refine W_T ?_
     (repeat' (first|(simp (disch:=omega) only [push_cast,↓zz,seval,pG,pT])|(with_reducible first|refine And.intro ?_ ?_|(first|refine Ab ?_ ?_|refine Aa ?_ ?_)<;>intro hc<;>(try simp only [push_cast] at hc)|refine eK Aj ?_|refine eQ Aj ?_|refine eG Aj ?_|refine eK An ?_|refine eQ An ?_|refine eG An ?_)|((with_reducible first|refine cK Aj ?_|refine cQ Aj ?_|refine cG Aj ?_);(simp (disch:=omega) only [push_cast,↓zz,seval,pG,pT]);(fail_if_success with_reducible change False))|((with_reducible first|refine cK An ?_|refine cQ An ?_|refine cG An ?_);(simp (disch:=omega) only [push_cast,↓zz,seval,pG,pT]);(fail_if_success with_reducible change False))|omega|with_reducible intro _))
     all_goals (try simp only [Ak,Cz,List.map_nil])
     all_goals (repeat' (first|(simp (disch:=omega) only [push_cast,↓zz,seval,Bo])|omega|(with_reducible refine And.intro ?_ ?_)))
   · skip
     (repeat' (first|(simp (disch:=omega) only [push_cast,↓zz,seval,pG,pT])|(with_reducible first|refine And.intro ?_ ?_|(first|refine Ab ?_ ?_|refine Aa ?_ ?_)<;>intro hc<;>(try simp only [push_cast] at hc)|refine eK Aj ?_|refine eQ Aj ?_|refine eG Aj ?_)|((with_reducible first|refine cK Aj ?_|refine cQ Aj ?_|refine cG Aj ?_);(simp (disch:=omega) only [push_cast,↓zz,seval,pG,pT]);(fail_if_success with_reducible change False))|omega|with_reducible intro _))
     (refine Hv [] (N3 out ho (by omega)) (by decide) (by simp) (by (simp (disch:=omega) only [push_cast,↓zz,seval])) (by (simp (disch:=omega) only [push_cast,↓zz,seval])) (by (simp (disch:=omega) only [push_cast,↓zz,seval])) (by (simp (disch:=omega) only [push_cast,↓zz,seval,List.mem_cons,List.not_mem_nil,or_false,forall_eq_or_imp,forall_eq,List.forall_mem_nil])) ?_)
     rintro y H' ⟨rfl,rfl⟩
     refine ⟨_,rfl,by simp,?_⟩
     (repeat' (first|(simp (disch:=omega) only [push_cast,↓zz,seval,pG,pT])|(with_reducible first|refine And.intro ?_ ?_|(first|refine Ab ?_ ?_|refine Aa ?_ ?_)<;>intro hc<;>(try simp only [push_cast] at hc)|refine eK Aj ?_|refine eQ Aj ?_|refine eG Aj ?_)|((with_reducible first|refine cK Aj ?_|refine cQ Aj ?_|refine cG Aj ?_);(simp (disch:=omega) only [push_cast,↓zz,seval,pG,pT]);(fail_if_success with_reducible change False))|omega|with_reducible intro _))
     refine Ao (Ap (fun (_:Unit)=>True) (fun _=>0) (fun k=>[(0,.lst 1 []),(1,.ref 0 1 0 out.length),(13,.int .i64 0),(14,.int .i64 0)]) (fun k=>[⟨6,1,false,out.map Bv⟩]) (fun env _=>[Aw 6 (env 1)]) () trivial ?_ ?_)
     · (repeat' (first|(simp (disch:=omega) only [push_cast,↓zz,seval,pG,pT])|(with_reducible first|refine And.intro ?_ ?_|(first|refine Ab ?_ ?_|refine Aa ?_ ?_)<;>intro hc<;>(try simp only [push_cast] at hc))|omega|with_reducible intro _))
     rintro ⟨⟩ _
     refine W_T ?_
     (repeat' (first|(simp (disch:=omega) only [push_cast,↓zz,seval,pG,pT])|(with_reducible first|refine And.intro ?_ ?_|(first|refine Ab ?_ ?_|refine Aa ?_ ?_)<;>intro hc<;>(try simp only [push_cast] at hc)|refine eK Aj ?_|refine eQ Aj ?_|refine eG Aj ?_)|((with_reducible first|refine cK Aj ?_|refine cQ Aj ?_|refine cG Aj ?_);(simp (disch:=omega) only [push_cast,↓zz,seval,pG,pT]);(fail_if_success with_reducible change False))|omega|with_reducible intro _))
     refine Ao (Ap (fun (k:Nat)=>k ≤ out.length) (fun k=>out.length - k) (fun k=>[(0,.lst 1 []),(1,.ref 0 1 0 out.length),(27,.int .i64 out.length),(28,.int .i64 k)]) (fun k=>[⟨6,1,false,out.map Bv⟩]) (fun env _=>[Aw 6 (env 1)]) 0 (by simp) ?_ ?_)
     · (repeat' (first|(simp (disch:=omega) only [push_cast,↓zz,seval,pG,pT])|(with_reducible first|refine And.intro ?_ ?_|(first|refine Ab ?_ ?_|refine Aa ?_ ?_)<;>intro hc<;>(try simp only [push_cast] at hc))|omega|with_reducible intro _))
     intro k hk
     rcases Nat.lt_or_ge k out.length with hkl|hkl
     · have hm:=hol _ (Au hkl)
       have hset:(out.map Bv).set k (Bv (nth out k))=out.map Bv:=Hj hkl
       generalize hne:nth out k=x at *
       have hC:=Qh x.parts (by omega)
       have hpx:=Fp x.parts
       refine W_T ?_
       (repeat' (first|(simp (disch:=omega) only [push_cast,↓zz,seval,pG,pT,hne,hset,hpx])|(with_reducible first|refine And.intro ?_ ?_|(first|refine Ab ?_ ?_|refine Aa ?_ ?_)<;>intro hc<;>(try simp only [push_cast] at hc)|refine eK hC ?_|refine eQ hC ?_|refine eG hC ?_)|((with_reducible first|refine cK hC ?_|refine cQ hC ?_|refine cG hC ?_);(simp (disch:=omega) only [push_cast,↓zz,seval,pG,pT,hne,hset,hpx]);(fail_if_success with_reducible change False))|omega|with_reducible intro _))
       all_goals
         refine ⟨k + 1,?_⟩
         (repeat' (first|(simp (disch:=omega) only [push_cast,↓zz,seval,pG,pT])|(with_reducible first|refine And.intro ?_ ?_|(first|refine Ab ?_ ?_|refine Aa ?_ ?_)<;>intro hc<;>(try simp only [push_cast] at hc))|omega|with_reducible intro _))
     obtain rfl:k=out.length:=by omega
     refine W_T ?_
     (repeat' (first|(simp (disch:=omega) only [push_cast,↓zz,seval,pG,pT])|(with_reducible first|refine And.intro ?_ ?_|(first|refine Ab ?_ ?_|refine Aa ?_ ?_)<;>intro hc<;>(try simp only [push_cast] at hc)|refine eK Aj ?_|refine eQ Aj ?_|refine eG Aj ?_)|((with_reducible first|refine cK Aj ?_|refine cQ Aj ?_|refine cG Aj ?_);(simp (disch:=omega) only [push_cast,↓zz,seval,pG,pT]);(fail_if_success with_reducible change False))|omega|with_reducible intro _))
     all_goals (try simp only [Ak,Cz,List.map_nil])
     all_goals (repeat' (first|(simp (disch:=omega) only [push_cast,↓zz,seval,Bo])|omega|(with_reducible refine And.intro ?_ ?_)))
 · by_cases ho:out=[]
   · subst ho
     (repeat' (first|(simp (disch:=omega) only [push_cast,↓zz,seval,pG,pT])|(with_reducible first|refine And.intro ?_ ?_|(first|refine Ab ?_ ?_|refine Aa ?_ ?_)<;>intro hc<;>(try simp only [push_cast] at hc)|refine eK An ?_|refine eQ An ?_|refine eG An ?_)|((with_reducible first|refine cK An ?_|refine cQ An ?_|refine cG An ?_);(simp (disch:=omega) only [push_cast,↓zz,seval,pG,pT]);(fail_if_success with_reducible change False))|omega|with_reducible intro _))
     (refine Hv [] (Lx gs hg (by omega)) (by decide) (by simp) (by (simp (disch:=omega) only [push_cast,↓zz,seval])) (by (simp (disch:=omega) only [push_cast,↓zz,seval])) (by (simp (disch:=omega) only [push_cast,↓zz,seval])) (by (simp (disch:=omega) only [push_cast,↓zz,seval,List.mem_cons,List.not_mem_nil,or_false,forall_eq_or_imp,forall_eq,List.forall_mem_nil])) ?_)
     rintro y H' ⟨rfl,rfl⟩
     refine ⟨_,rfl,by simp,?_⟩
     (repeat' (first|(simp (disch:=omega) only [push_cast,↓zz,seval,pG,pT])|(with_reducible first|refine And.intro ?_ ?_|(first|refine Ab ?_ ?_|refine Aa ?_ ?_)<;>intro hc<;>(try simp only [push_cast] at hc)|refine eK An ?_|refine eQ An ?_|refine eG An ?_)|((with_reducible first|refine cK An ?_|refine cQ An ?_|refine cG An ?_);(simp (disch:=omega) only [push_cast,↓zz,seval,pG,pT]);(fail_if_success with_reducible change False))|omega|with_reducible intro _))
     refine Ao (Ap (fun (k:Nat)=>k ≤ gs.length) (fun k=>gs.length - k) (fun k=>[(0,.ref 0 1 0 gs.length),(1,.lst 6 []),(13,.int .i64 gs.length),(14,.int .i64 k)]) (fun k=>[⟨1,1,false,gs.map Ad⟩]) (fun env _=>[Aw 1 (env 0)]) 0 (by simp) ?_ ?_)
     · (repeat' (first|(simp (disch:=omega) only [push_cast,↓zz,seval,pG,pT])|(with_reducible first|refine And.intro ?_ ?_|(first|refine Ab ?_ ?_|refine Aa ?_ ?_)<;>intro hc<;>(try simp only [push_cast] at hc))|omega|with_reducible intro _))
     intro k hk
     rcases Nat.lt_or_ge k gs.length with hkl|hkl
     · have hm:=hgl _ (Au hkl)
       have hset:(gs.map Ad).set k (Ad (nth gs k))=gs.map Ad:=Hj hkl
       generalize hne:nth gs k=x at *
       have hC:=Q2 x (by omega)
       have hpx:=Cf x
       refine W_T ?_
       (repeat' (first|(simp (disch:=omega) only [push_cast,↓zz,seval,pG,pT,hne,hset,hpx])|(with_reducible first|refine And.intro ?_ ?_|(first|refine Ab ?_ ?_|refine Aa ?_ ?_)<;>intro hc<;>(try simp only [push_cast] at hc)|refine eK hC ?_|refine eQ hC ?_|refine eG hC ?_)|((with_reducible first|refine cK hC ?_|refine cQ hC ?_|refine cG hC ?_);(simp (disch:=omega) only [push_cast,↓zz,seval,pG,pT,hne,hset,hpx]);(fail_if_success with_reducible change False))|omega|with_reducible intro _))
       all_goals
         refine ⟨k + 1,?_⟩
         (repeat' (first|(simp (disch:=omega) only [push_cast,↓zz,seval,pG,pT])|(with_reducible first|refine And.intro ?_ ?_|(first|refine Ab ?_ ?_|refine Aa ?_ ?_)<;>intro hc<;>(try simp only [push_cast] at hc))|omega|with_reducible intro _))
     obtain rfl:k=gs.length:=by omega
     refine W_T ?_
     (repeat' (first|(simp (disch:=omega) only [push_cast,↓zz,seval,pG,pT])|(with_reducible first|refine And.intro ?_ ?_|(first|refine Ab ?_ ?_|refine Aa ?_ ?_)<;>intro hc<;>(try simp only [push_cast] at hc)|refine eK An ?_|refine eQ An ?_|refine eG An ?_)|((with_reducible first|refine cK An ?_|refine cQ An ?_|refine cG An ?_);(simp (disch:=omega) only [push_cast,↓zz,seval,pG,pT]);(fail_if_success with_reducible change False))|omega|with_reducible intro _))
     refine Ao (Ap (fun (_:Unit)=>True) (fun _=>0) (fun k=>[(0,.ref 0 1 0 gs.length),(1,.lst 6 []),(27,.int .i64 0),(28,.int .i64 0)]) (fun k=>[⟨1,1,false,gs.map Ad⟩]) (fun env _=>[Aw 1 (env 0)]) () trivial ?_ ?_)
     · (repeat' (first|(simp (disch:=omega) only [push_cast,↓zz,seval,pG,pT])|(with_reducible first|refine And.intro ?_ ?_|(first|refine Ab ?_ ?_|refine Aa ?_ ?_)<;>intro hc<;>(try simp only [push_cast] at hc))|omega|with_reducible intro _))
     rintro ⟨⟩ _
     refine W_T ?_
     (repeat' (first|(simp (disch:=omega) only [push_cast,↓zz,seval,pG,pT])|(with_reducible first|refine And.intro ?_ ?_|(first|refine Ab ?_ ?_|refine Aa ?_ ?_)<;>intro hc<;>(try simp only [push_cast] at hc)|refine eK An ?_|refine eQ An ?_|refine eG An ?_)|((with_reducible first|refine cK An ?_|refine cQ An ?_|refine cG An ?_);(simp (disch:=omega) only [push_cast,↓zz,seval,pG,pT]);(fail_if_success with_reducible change False))|omega|with_reducible intro _))
     all_goals (try simp only [Ak,Cz,List.map_nil])
     all_goals (repeat' (first|(simp (disch:=omega) only [push_cast,↓zz,seval,Bo])|omega|(with_reducible refine And.intro ?_ ?_)))
   · skip
     (repeat' (first|(simp (disch:=omega) only [push_cast,↓zz,seval,pG,pT])|(with_reducible first|refine And.intro ?_ ?_|(first|refine Ab ?_ ?_|refine Aa ?_ ?_)<;>intro hc<;>(try simp only [push_cast] at hc))|omega|with_reducible intro _))
     (refine Hv [] (Lx gs hg (by omega)) (by decide) (by simp) (by (simp (disch:=omega) only [push_cast,↓zz,seval])) (by (simp (disch:=omega) only [push_cast,↓zz,seval])) (by (simp (disch:=omega) only [push_cast,↓zz,seval])) (by (simp (disch:=omega) only [push_cast,↓zz,seval,List.mem_cons,List.not_mem_nil,or_false,forall_eq_or_imp,forall_eq,List.forall_mem_nil])) ?_)
     rintro y H' ⟨rfl,rfl⟩
     refine ⟨_,rfl,by simp,?_⟩
     (repeat' (first|(simp (disch:=omega) only [push_cast,↓zz,seval,pG,pT])|(with_reducible first|refine And.intro ?_ ?_|(first|refine Ab ?_ ?_|refine Aa ?_ ?_)<;>intro hc<;>(try simp only [push_cast] at hc))|omega|with_reducible intro _))
     (refine Hv [] (N3 out ho (by omega)) (by decide) (by simp) (by (simp (disch:=omega) only [push_cast,↓zz,seval])) (by (simp (disch:=omega) only [push_cast,↓zz,seval])) (by (simp (disch:=omega) only [push_cast,↓zz,seval])) (by (simp (disch:=omega) only [push_cast,↓zz,seval,List.mem_cons,List.not_mem_nil,or_false,forall_eq_or_imp,forall_eq,List.forall_mem_nil])) ?_)
     rintro y H' ⟨rfl,rfl⟩
     refine ⟨_,rfl,by simp,?_⟩
     (repeat' (first|(simp (disch:=omega) only [push_cast,↓zz,seval,pG,pT])|(with_reducible first|refine And.intro ?_ ?_|(first|refine Ab ?_ ?_|refine Aa ?_ ?_)<;>intro hc<;>(try simp only [push_cast] at hc))|omega|with_reducible intro _))
     refine Ao (Ap (fun (k:Nat)=>k ≤ gs.length) (fun k=>gs.length - k) (fun k=>[(0,.ref 0 1 0 gs.length),(1,.ref 1 1 0 out.length),(13,.int .i64 gs.length),(14,.int .i64 k)]) (fun k=>[⟨1,1,false,gs.map Ad⟩,⟨6,1,false,out.map Bv⟩]) (fun env _=>[Aw 1 (env 0),Aw 6 (env 1)]) 0 (by simp) ?_ ?_)
     · (repeat' (first|(simp (disch:=omega) only [push_cast,↓zz,seval,pG,pT])|(with_reducible first|refine And.intro ?_ ?_|(first|refine Ab ?_ ?_|refine Aa ?_ ?_)<;>intro hc<;>(try simp only [push_cast] at hc))|omega|with_reducible intro _))
     intro k hk
     rcases Nat.lt_or_ge k gs.length with hkl|hkl
     · have hm:=hgl _ (Au hkl)
       have hset:(gs.map Ad).set k (Ad (nth gs k))=gs.map Ad:=Hj hkl
       generalize hne:nth gs k=x at *
       have hC:=Q2 x (by omega)
       have hpx:=Cf x
       refine W_T ?_
       (repeat' (first|(simp (disch:=omega) only [push_cast,↓zz,seval,pG,pT,hne,hset,hpx])|(with_reducible first|refine And.intro ?_ ?_|(first|refine Ab ?_ ?_|refine Aa ?_ ?_)<;>intro hc<;>(try simp only [push_cast] at hc)|refine eK hC ?_|refine eQ hC ?_|refine eG hC ?_)|((with_reducible first|refine cK hC ?_|refine cQ hC ?_|refine cG hC ?_);(simp (disch:=omega) only [push_cast,↓zz,seval,pG,pT,hne,hset,hpx]);(fail_if_success with_reducible change False))|omega|with_reducible intro _))
       all_goals
         refine ⟨k + 1,?_⟩
         (repeat' (first|(simp (disch:=omega) only [push_cast,↓zz,seval,pG,pT])|(with_reducible first|refine And.intro ?_ ?_|(first|refine Ab ?_ ?_|refine Aa ?_ ?_)<;>intro hc<;>(try simp only [push_cast] at hc))|omega|with_reducible intro _))
     obtain rfl:k=gs.length:=by omega
     refine W_T ?_
     (repeat' (first|(simp (disch:=omega) only [push_cast,↓zz,seval,pG,pT])|(with_reducible first|refine And.intro ?_ ?_|(first|refine Ab ?_ ?_|refine Aa ?_ ?_)<;>intro hc<;>(try simp only [push_cast] at hc))|omega|with_reducible intro _))
     refine Ao (Ap (fun (k:Nat)=>k ≤ out.length) (fun k=>out.length - k) (fun k=>[(0,.ref 0 1 0 gs.length),(1,.ref 1 1 0 out.length),(27,.int .i64 out.length),(28,.int .i64 k)]) (fun k=>[⟨1,1,false,gs.map Ad⟩,⟨6,1,false,out.map Bv⟩]) (fun env _=>[Aw 1 (env 0),Aw 6 (env 1)]) 0 (by simp) ?_ ?_)
     · (repeat' (first|(simp (disch:=omega) only [push_cast,↓zz,seval,pG,pT])|(with_reducible first|refine And.intro ?_ ?_|(first|refine Ab ?_ ?_|refine Aa ?_ ?_)<;>intro hc<;>(try simp only [push_cast] at hc))|omega|with_reducible intro _))
     intro k hk
     rcases Nat.lt_or_ge k out.length with hkl|hkl
     · have hm:=hol _ (Au hkl)
       have hset:(out.map Bv).set k (Bv (nth out k))=out.map Bv:=Hj hkl
       generalize hne:nth out k=x at *
       have hC:=Qh x.parts (by omega)
       have hpx:=Fp x.parts
       refine W_T ?_
       (repeat' (first|(simp (disch:=omega) only [push_cast,↓zz,seval,pG,pT,hne,hset,hpx])|(with_reducible first|refine And.intro ?_ ?_|(first|refine Ab ?_ ?_|refine Aa ?_ ?_)<;>intro hc<;>(try simp only [push_cast] at hc)|refine eK hC ?_|refine eQ hC ?_|refine eG hC ?_)|((with_reducible first|refine cK hC ?_|refine cQ hC ?_|refine cG hC ?_);(simp (disch:=omega) only [push_cast,↓zz,seval,pG,pT,hne,hset,hpx]);(fail_if_success with_reducible change False))|omega|with_reducible intro _))
       all_goals
         refine ⟨k + 1,?_⟩
         (repeat' (first|(simp (disch:=omega) only [push_cast,↓zz,seval,pG,pT])|(with_reducible first|refine And.intro ?_ ?_|(first|refine Ab ?_ ?_|refine Aa ?_ ?_)<;>intro hc<;>(try simp only [push_cast] at hc))|omega|with_reducible intro _))
     obtain rfl:k=out.length:=by omega
     refine W_T ?_
     (repeat' (first|(simp (disch:=omega) only [push_cast,↓zz,seval,pG,pT])|(with_reducible first|refine And.intro ?_ ?_|(first|refine Ab ?_ ?_|refine Aa ?_ ?_)<;>intro hc<;>(try simp only [push_cast] at hc))|omega|with_reducible intro _))
     all_goals (try simp only [Ak,Cz,List.map_nil])
     all_goals (repeat' (first|(simp (disch:=omega) only [push_cast,↓zz,seval,Bo])|omega|(with_reducible refine And.intro ?_ ?_)))
     all_goals trace_state
theorem Ly {α:Type} {p:α→Bool}:∀ {l:List α} {i:Nat},(∀ x ∈ l,p x=true)→E0 p l i=none
 | [],_,_=>rfl
 | x :: l,i,h=>by rw [E0,if_pos (h x (by simp)),Ly fun y hy=>h y (by simp [hy])]
theorem Kg {d:Desc} (h1:Ms d=true) (h2:∀ r ∈ d.rules,Ek d r=true) (h3:∀ f ∈ d.finals,C9 d f=true) (h4:¬ cycP d.rules d.states.toNat):Dz d=(0,0)∧Cp d=0:=by
 have e:Dz d=(0,0):=by
   rw [Dz,if_neg (by simp [h1]),Ly h2]
   simp only
   rw [Ly h3]
   simp only
   rw [if_neg h4]
 exact ⟨e,by rw [Cp,e];rfl⟩
theorem zi9 (s:Int):Full (domL s)∧∀ v,memL (domL s) v→0 ≤ v∧v ≤ 1114111:=by
 refine ⟨fun t ht=>?_,fun v hv=>Om (Ie.1 hv)⟩
 unfold domL at ht
 split at ht
 · simp at ht;subst ht;simp
 · split at ht
   · simp at ht;rcases ht with rfl|rfl<;>simp
   · cases ht
def Jt (a b:Int):Desc:=⟨a,b,1,0,[],[]⟩
theorem z2j {a b:Int} (ha:a=1 ∨ a=2) (hb:b=1 ∨ b=2):Dz (Jt a b)=(0,0)∧Cp (Jt a b)=0:=by
 refine Kg (by rcases ha with rfl|rfl<;>rcases hb with rfl|rfl<;>decide) (fun r hr=>by cases hr) (fun f hf=>by cases hf) ?_
 rintro ⟨C,hC,j,hj⟩
 obtain ⟨_,r,hr,_⟩:=hC j hj
 cases hr
noncomputable def Cv (d:Desc) (i:Nat):Bool:=C3 (fwdE d) [d.start] i && C3 (bwdE d) (endE d) i
def cntB (u:Nat→Bool) (k:Nat):Nat:=((List.range k).filter u).length
def numB (u:Nat→Bool) (i:Nat):Int:=if u i=true then (cntB u i:Int) else -1
def Fl (u:Nat→Bool) (l:List Rule):List Rule:=(l.filter fun r=>u r.from_.toNat && u r.to_.toNat).map fun r=>⟨numB u r.from_.toNat,numB u r.to_.toNat,r.guards,r.eat,r.out⟩
def F1 (u:Nat→Bool) (l:List Fc):List Fc:=(l.filter fun f=>u f.from_.toNat).map fun f=>⟨numB u f.from_.toNat,f.guards,f.out⟩
noncomputable def Jg (d:Desc):Desc :=
 if C3 (bwdE d) (endE d) d.start.toNat=false then Jt d.in_ d.out
 else ⟨d.in_,d.out,cntB (Cv d) d.states.toNat,numB (Cv d) d.start.toNat,Fl (Cv d) d.rules,F1 (Cv d) d.finals⟩
theorem D8 (u:Nat→Bool) (k:Nat):cntB u (k + 1)=if u k=true then cntB u k + 1 else cntB u k:=by
 simp only [cntB,List.range_succ,List.filter_append,List.length_append,List.filter_cons,List.filter_nil]
 split<;>simp_all
theorem Fe (u:Nat→Bool) (k:Nat):cntB u k ≤ k:=by
 have:=List.length_filter_le u (List.range k)
 simpa [cntB] using this
def numK (u:Nat→Bool) (k i:Nat):Int:=if i < k then numB u i else 0
theorem zdk (n:Nat) (u:Nat→Bool):famI n (numK u 0)=List.replicate n (.int .i64 0):=by
 refine List.ext_getElem (by simp [famI]) fun i h1 h2=>?_
 simp [famI,numK]
theorem zia (n:Nat) (u:Nat→Bool):famI n (numK u n)=famI n (numB u):=by
 rw [famI,famI]
 refine List.map_congr_left fun i hi=>?_
 have:i < n:=by simpa using hi
 simp [numK,this]
theorem Wm {n k:Nat} (h:k < n) (u:Nat→Bool) {x:Int} (hx:numB u k=x):(famI n (numK u k)).set k (.int .i64 x)=famI n (numK u (k + 1)):=by
 rw [Oi h,famI,famI]
 refine List.map_congr_left fun i _=>?_
 simp only [numK]
 by_cases e:i=k
 · subst e;simp [hx]
 · rw [if_neg e]
   by_cases e2:i < k
   · rw [if_pos e2,if_pos (by omega)]
   · rw [if_neg e2,if_neg (by omega)]
theorem Tv (u:Nat→Bool) {l:List Rule} {k:Nat} (h:k < l.length):Fl u (l.take (k + 1))=if (u (nth l k).from_.toNat && u (nth l k).to_.toNat)=true then Fl u (l.take k) ++ [⟨numB u (nth l k).from_.toNat,numB u (nth l k).to_.toNat,(nth l k).guards,(nth l k).eat,(nth l k).out⟩] else Fl u (l.take k):=by
 rw [take_at h]
 simp only [Fl,List.filter_append,List.map_append,List.filter_cons,List.filter_nil]
 split<;>simp_all
theorem Tw (u:Nat→Bool) {l:List Fc} {k:Nat} (h:k < l.length):F1 u (l.take (k + 1))=if u (nth l k).from_.toNat=true then F1 u (l.take k) ++ [⟨numB u (nth l k).from_.toNat,(nth l k).guards,(nth l k).out⟩] else F1 u (l.take k):=by
 rw [take_at h]
 simp only [F1,List.filter_append,List.map_append,List.filter_cons,List.filter_nil]
 split<;>simp_all
theorem Q9 (u:Nat→Bool) (l:List Rule):(Fl u l).length ≤ l.length:=by simpa [Fl] using List.length_filter_le _ l
theorem Ra (u:Nat→Bool) (l:List Fc):(F1 u l).length ≤ l.length:=by simpa [F1] using List.length_filter_le _ l
theorem Da {u:Nat→Bool} {i:Nat} (h:u i=true):numB u i=cntB u i:=if_pos h
theorem Gh {u:Nat→Bool} {i:Nat} (h:u i=false):numB u i=-1:=if_neg (by simp [h])
theorem Fs {n:Nat} {F:List Int} {E:List (Int × Int)} {i:Nat} (h:i < n):nth (Cj n F E) i=C3 E F i:=by simp [nth,Cj,List.getD,h]
theorem Zt (n:Nat) (f:Nat→Int):Ay (famI n f)=true:=Cc.2 fun x hx=>by
 obtain ⟨i,_,rfl⟩:=List.mem_map.1 hx
 rfl
theorem z5t {d:Desc} {gs:List (List Span)} {out:List Term} (hg:Cy d.in_ gs=true) (hw:De d out gs=true):PC Tryz.prog 36 [Ak gs,Cz out] (.tup [Ak gs,Cz out]):=by
 obtain ⟨g1,g2⟩:=Fb hg
 obtain ⟨w1,w2⟩:=N1 hw
 exact zi8 gs out (by omega) (fun g h=>by have:=g2 g h;omega) (by omega) (fun t h=>by have:=w2 t h;omega)
theorem zib {d:Desc} {r:Rule} (h:Ek d r=true):PC Tryz.prog 36 [Ak r.guards,Cz r.out] (.tup [Ak r.guards,Cz r.out]):=by
 simp only [Ek,Bool.and_eq_true] at h
 exact z5t h.2.2.1 h.2.2.2.2
theorem zdl {d:Desc} {f:Fc} (h:C9 d f=true):PC Tryz.prog 36 [Ak f.guards,Cz f.out] (.tup [Ak f.guards,Cz f.out]):=by
 simp only [C9,Bool.and_eq_true] at h
 exact z5t h.2.1 h.2.2
abbrev Rb:AV:=.agg [.int .i64 0,.int .i64 0,.int .i64 0,.int .i64 0,.nilS,.nilS]
theorem Zu (d:Desc) (hf:Hh d) (h:Cp d=0):PC Tryz.prog 19 [By d] (.tup [By (Jg d),.int .i64 0]):=by
 have hw:=Lw h
 obtain ⟨_,hrules,hfinals⟩:=G3 h
 obtain ⟨n,hn,hn1,hn2⟩:=hw.n
 have hC:=I7 d hf
 rw [h] at hC
 have h1:=Tt d hw
 have h2:=Q7 d hw
 have hE:PC Tryz.prog 26 [.int .i64 d.in_,.int .i64 d.out] (By (Jt d.in_ d.out)):=z8r d.in_ d.out
 have hst:=hw.start
 have hrl:=hw.rl
 have hfl:=hw.fl
 obtain ⟨s,hs⟩:∃ s:Nat,d.start=s:=⟨d.start.toNat,by omega⟩
 have hsn:s < n:=by omega
 have pR:=Bj d.rules
 have pF:=Bg d.finals
 have cL:Ew d=Cj n [d.start] (fwdE d):=by rw [Ew,hn];rfl
 have gL:goL d=Cj n (endE d) (bwdE d):=by rw [goL,hn];rfl
 have l1:(Ew d).length=n:=by rw [cL,Du]
 have l2:(goL d).length=n:=by rw [gL,Du]
 have a1:∀ i,i < n→nth (Ew d) i=C3 (fwdE d) [d.start] i:=fun i hi=>by rw [cL];exact Fs hi
 have a2:∀ i,i < n→nth (goL d) i=C3 (bwdE d) (endE d) i:=fun i hi=>by rw [gL];exact Fs hi
 have a3:=a2 s hsn
 have pC:=Df (Ew d)
 have pG:=Df (goL d)
 have hu:∀ i,i < n→Cv d i=(nth (Ew d) i && nth (goL d) i):=fun i hi=>by rw [a1 i hi,a2 i hi];rfl
 have hus:C3 (bwdE d) (endE d) s=true→Cv d s=true:=fun hb=>by
   have:Reach (fwdE d) [d.start] (s:Int):=.base (by simp [hs])
   simp [Cv,hb,D7.2 this]
 have hst2:d.start.toNat=s:=by omega
 have hsT:d.states.toNat=n:=by omega
 unfold Jg
 rw [hst2,hsT]
 generalize Ew d=CL at *
 generalize goL d=GL at *
 generalize hu0:Cv d=u at *
 refine A9 Pn ?_
 unfold J7
 cases hb:C3 (bwdE d) (endE d) s with
 | false =>
   rw [hb] at a3
   rw [if_pos rfl]
   generalize Jt d.in_ d.out=ev at *
   (repeat' (first|(simp (disch:=omega) only [push_cast,↓zz,seval,pR,pF,pC,pG,hs,hn,a3])|(with_reducible first|refine And.intro ?_ ?_|(first|refine Ab ?_ ?_|refine Aa ?_ ?_)<;>intro hc<;>(try simp only [push_cast] at hc)|refine eK hC ?_|refine eQ hC ?_|refine eG hC ?_|refine eK h1 ?_|refine eQ h1 ?_|refine eG h1 ?_|refine eK h2 ?_|refine eQ h2 ?_|refine eG h2 ?_|refine eK hE ?_|refine eQ hE ?_|refine eG hE ?_)|((with_reducible first|refine cK hC ?_|refine cQ hC ?_|refine cG hC ?_);(simp (disch:=omega) only [push_cast,↓zz,seval,pR,pF,pC,pG,hs,hn,a3]);(fail_if_success with_reducible change False))|((with_reducible first|refine cK h1 ?_|refine cQ h1 ?_|refine cG h1 ?_);(simp (disch:=omega) only [push_cast,↓zz,seval,pR,pF,pC,pG,hs,hn,a3]);(fail_if_success with_reducible change False))|((with_reducible first|refine cK h2 ?_|refine cQ h2 ?_|refine cG h2 ?_);(simp (disch:=omega) only [push_cast,↓zz,seval,pR,pF,pC,pG,hs,hn,a3]);(fail_if_success with_reducible change False))|((with_reducible first|refine cK hE ?_|refine cQ hE ?_|refine cG hE ?_);(simp (disch:=omega) only [push_cast,↓zz,seval,pR,pF,pC,pG,hs,hn,a3]);(fail_if_success with_reducible change False))|omega|with_reducible intro _))
 | true =>
   rw [hb] at a3
   rw [if_neg (by simp)]
   have husd:=hus hb
   (repeat' (first|(simp (disch:=omega) only [push_cast,↓zz,seval,pR,pF,pC,pG,hs,hn,a3])|(with_reducible first|refine And.intro ?_ ?_|(first|refine Ab ?_ ?_|refine Aa ?_ ?_)<;>intro hc<;>(try simp only [push_cast] at hc)|refine eK hC ?_|refine eQ hC ?_|refine eG hC ?_|refine eK h1 ?_|refine eQ h1 ?_|refine eG h1 ?_|refine eK h2 ?_|refine eQ h2 ?_|refine eG h2 ?_|refine eK hE ?_|refine eQ hE ?_|refine eG hE ?_)|((with_reducible first|refine cK hC ?_|refine cQ hC ?_|refine cG hC ?_);(simp (disch:=omega) only [push_cast,↓zz,seval,pR,pF,pC,pG,hs,hn,a3]);(fail_if_success with_reducible change False))|((with_reducible first|refine cK h1 ?_|refine cQ h1 ?_|refine cG h1 ?_);(simp (disch:=omega) only [push_cast,↓zz,seval,pR,pF,pC,pG,hs,hn,a3]);(fail_if_success with_reducible change False))|((with_reducible first|refine cK h2 ?_|refine cQ h2 ?_|refine cG h2 ?_);(simp (disch:=omega) only [push_cast,↓zz,seval,pR,pF,pC,pG,hs,hn,a3]);(fail_if_success with_reducible change False))|((with_reducible first|refine cK hE ?_|refine cQ hE ?_|refine cG hE ?_);(simp (disch:=omega) only [push_cast,↓zz,seval,pR,pF,pC,pG,hs,hn,a3]);(fail_if_success with_reducible change False))|omega|with_reducible intro _))
   refine Ao (Ap (fun (k:Nat)=>k ≤ n) (fun k=>n - k)
     (fun k=>[(1,.ptr 0 1 0 0),(2,.ptr 1 1 0 0),(5,Eq CL),(6,Eq GL),(7,.ref 2 1 0 n),(8,.ptr 3 1 0 0),(44,.int .i64 n),(45,.int .i64 k)]) (fun k=>[⟨6,1,true,[By d]⟩,⟨6,1,true,[Rb]⟩,⟨1,1,true,famI n (numK u k)⟩,⟨6,1,true,[.agg [.int .i64 d.in_,.int .i64 d.out,.int .i64 (cntB u k:Nat),.int .i64 0,.nilS,.nilS]]⟩]) (fun env _=>[Aw 6 (env 1),Aw 6 (env 2),Aw 1 (env 7),Aw 6 (env 8)]) 0 (by simp) ?_ ?_)
   · have e0:=(zdk n u).symm
     have e1:cntB u 0=0:=rfl
     have pI:=Zt n
     (repeat' (first|(simp (disch:=omega) only [push_cast,↓zz,seval,pR,pF,pC,pG,e0,e1,pI])|(with_reducible first|refine And.intro ?_ ?_|(first|refine Ab ?_ ?_|refine Aa ?_ ?_)<;>intro hc<;>(try simp only [push_cast] at hc))|omega|with_reducible intro _))
   intro k hk
   have lI:∀ f,(famI n f).length=n:=fun f=>by simp [famI]
   have pI:=Zt n
   rcases Nat.lt_or_ge k n with hkn|hkn
   · have huk:=hu k hkn
     have hcs:=D8 u k
     have hcl:=Fe u k
     have hset1:(famI n (numK u k)).set k (.int .i64 (-1))=famI n fun p=>if p=k then -1 else numK u k p:=Oi hkn
     have hset2:(famI n fun p=>if p=k then -1 else numK u k p).set k (.int .i64 (cntB u k:Nat))=(famI n (numK u k)).set k (.int .i64 (cntB u k:Nat)):=by
       rw [← hset1,List.set_set]
     have hl3:=lI fun p=>if p=k then -1 else numK u k p
     cases hck:nth CL k with
     | true =>
       cases hgk:nth GL k with
       | true =>
         rw [hck,hgk] at huk
         simp only [Bool.and_self,Bool.and_false] at huk
         have hnx:=Wm hkn u (Da huk)
         rw [hnx] at hset2
         rw [if_pos huk] at hcs
         have hlY:=lI (numK u k)
         generalize (famI n fun p=>if p=k then -1 else numK u k p)=X at *
         generalize famI n (numK u k)=Y at *
         refine W_T ?_
         (repeat' (first|(simp (disch:=omega) only [push_cast,↓zz,seval,pR,pF,pC,pG,lI,pI,hck,hgk,hset1,hset2,hl3,hlY])|(with_reducible first|refine And.intro ?_ ?_|(first|refine Ab ?_ ?_|refine Aa ?_ ?_)<;>intro hc<;>(try simp only [push_cast] at hc))|omega|with_reducible intro _))
         all_goals
           refine ⟨k + 1,?_⟩
           (repeat' (first|(simp (disch:=omega) only [push_cast,↓zz,seval,pI,hcs])|(with_reducible first|refine And.intro ?_ ?_|(first|refine Ab ?_ ?_|refine Aa ?_ ?_)<;>intro hc<;>(try simp only [push_cast] at hc))|omega|with_reducible intro _))
       | false =>
         rw [hck,hgk] at huk
         simp only [Bool.and_self,Bool.and_false] at huk
         have hnx:=Wm hkn u (Gh huk)
         rw [if_neg (by simp [huk])] at hcs
         refine W_T ?_
         (repeat' (first|(simp (disch:=omega) only [push_cast,↓zz,seval,pR,pF,pC,pG,lI,pI,hck,hgk,hnx])|(with_reducible first|refine And.intro ?_ ?_|(first|refine Ab ?_ ?_|refine Aa ?_ ?_)<;>intro hc<;>(try simp only [push_cast] at hc))|omega|with_reducible intro _))
         all_goals
           refine ⟨k + 1,?_⟩
           (repeat' (first|(simp (disch:=omega) only [push_cast,↓zz,seval,pI,hcs])|(with_reducible first|refine And.intro ?_ ?_|(first|refine Ab ?_ ?_|refine Aa ?_ ?_)<;>intro hc<;>(try simp only [push_cast] at hc))|omega|with_reducible intro _))
     | false =>
       rw [hck,Bool.false_and] at huk
       have hnx:=Wm hkn u (Gh huk)
       rw [if_neg (by simp [huk])] at hcs
       refine W_T ?_
       (repeat' (first|(simp (disch:=omega) only [push_cast,↓zz,seval,pR,pF,pC,pG,lI,pI,hck,hnx])|(with_reducible first|refine And.intro ?_ ?_|(first|refine Ab ?_ ?_|refine Aa ?_ ?_)<;>intro hc<;>(try simp only [push_cast] at hc))|omega|with_reducible intro _))
       all_goals
         refine ⟨k + 1,?_⟩
         (repeat' (first|(simp (disch:=omega) only [push_cast,↓zz,seval,pI,hcs])|(with_reducible first|refine And.intro ?_ ?_|(first|refine Ab ?_ ?_|refine Aa ?_ ?_)<;>intro hc<;>(try simp only [push_cast] at hc))|omega|with_reducible intro _))
   obtain ⟨k0,rfl⟩:∃ k0,k=k0:=⟨k,rfl⟩
   have hkn2:k=n:=by omega
   subst hkn2
   have hna:=zia k u
   rw [hna]
   have aI:∀ i,i < k→(famI k (numB u)).getD i .any=.int .i64 (numB u i):=fun i hi=>Bq hi
   have aS:=aI s hsn
   have nS:=Da husd
   generalize hnu:famI k (numB u)=NU at *
   have lN:NU.length=k:=by rw [← hnu];exact lI _
   have pN:Ay NU=true:=by rw [← hnu];exact pI _
   refine W_T ?_
   (repeat' (first|(simp (disch:=omega) only [push_cast,↓zz,seval,pR,pF,pC,pG,lN,pN,hs,aS])|(with_reducible first|refine And.intro ?_ ?_|(first|refine Ab ?_ ?_|refine Aa ?_ ?_)<;>intro hc<;>(try simp only [push_cast] at hc))|omega|with_reducible intro _))
   have hkR:=fun j (hj:j < d.rules.length)=>Tv u hj
   refine Ao (Ap (fun (j:Nat)=>j ≤ d.rules.length) (fun j=>d.rules.length - j)
     (fun j=>[(1,.ptr 0 1 0 0),(2,.ptr 1 1 0 0),(7,.ref 2 1 0 k),(8,.ptr 3 1 0 0),(78,F5 d.rules),(79,.int .i64 d.rules.length),(80,.int .i64 j)]) (fun j=>[⟨6,1,true,[By d]⟩,⟨6,1,true,[Rb]⟩,⟨1,1,true,NU⟩,⟨6,1,true,[.agg [.int .i64 d.in_,.int .i64 d.out,.int .i64 (cntB u k:Nat),.int .i64 (cntB u s:Nat),.ref 4 1 0 (Fl u (d.rules.take j)).length,.ref 5 1 0 ([]:List Fc).length]]⟩,⟨5,1,false,(Fl u (d.rules.take j)).map Md⟩,⟨3,1,false,([]:List Fc).map Kt⟩]) (fun env H=>[Aw 6 (env 1),Aw 6 (env 2),Aw 1 (env 7),Aw 6 (env 8),Aw 5 (cellAt H (env 8) 4),Aw 3 (cellAt H (env 8) 5)]) 0 (by simp) ?_ ?_)
   · have e0:Fl u []=[]:=rfl
     (repeat' (first|(simp (disch:=omega) only [push_cast,↓zz,seval,pR,pF,lN,pN,e0,nS])|(with_reducible first|refine And.intro ?_ ?_|(first|refine Ab ?_ ?_|refine Aa ?_ ?_)<;>intro hc<;>(try simp only [push_cast] at hc))|omega|with_reducible intro _))
   intro j hj
   have pK:=Bj (Fl u (d.rules.take j))
   have lK:=Q9 u (d.rules.take j)
   rw [List.length_take] at lK
   rcases Nat.lt_or_ge j d.rules.length with hjl|hjl
   · have hr:=hw.r _ (Au hjl)
     have hrB:=hrules _ (Au hjl)
     have hO:=zib hrB
     have e1:=hkR j hjl
     generalize hre:nth d.rules j=r at *
     have hgr:=Ae r.guards
     have hot:=Bb r.out
     obtain ⟨x,hx⟩:∃ x:Nat,r.from_=x:=⟨r.from_.toNat,by omega⟩
     obtain ⟨y,hy⟩:∃ y:Nat,r.to_=y:=⟨r.to_.toNat,by omega⟩
     have hxn:x < k:=by omega
     have hyn:y < k:=by omega
     have aX:=aI x hxn
     have aY:=aI y hyn
     rw [hx,hy,Int.toNat_natCast,Int.toNat_natCast] at e1
     have cx:=Fe u x
     have cy:=Fe u y
     generalize Fl u (d.rules.take j)=K at *
     cases hux:u x with
     | true =>
       have nX:=Da hux
       rw [nX] at aX
       cases huy:u y with
       | true =>
         have nY:=Da huy
         rw [nY] at aY
         rw [if_pos (by rw [hux,huy];rfl),nX,nY] at e1
         refine W_T ?_
         (repeat' (first|(simp (disch:=omega) only [push_cast,↓zz,seval,yy,List.mem_cons,List.not_mem_nil,or_false,false_or,not_or,not_false_eq_true,true_or,or_true,pR,pF,lN,pN,hre,hgr,hot,hx,hy,aX,aY,pK])|(with_reducible first|refine And.intro ?_ ?_|(first|refine Ab ?_ ?_|refine Aa ?_ ?_)<;>intro hc<;>(try simp only [push_cast] at hc))|((with_reducible refine U2 [6] [] [] (by simp) (by decide) ?_))|(with_reducible first|refine eK hO ?_|refine eQ hO ?_|refine eG hO ?_)|((with_reducible first|refine cK hO ?_|refine cQ hO ?_|refine cG hO ?_);(simp (disch:=omega) only [push_cast,↓zz,seval,yy,List.mem_cons,List.not_mem_nil,or_false,false_or,not_or,not_false_eq_true,true_or,or_true,pR,pF,lN,pN,hre,hgr,hot,hx,hy,aX,aY,pK]);(fail_if_success with_reducible change False))|omega|with_reducible intro _))
         all_goals
           refine ⟨j + 1,?_⟩
           (repeat' (first|(simp (disch:=omega) only [push_cast,↓zz,seval,e1,pK,pN])|(with_reducible first|refine And.intro ?_ ?_|(first|refine Ab ?_ ?_|refine Aa ?_ ?_)<;>intro hc<;>(try simp only [push_cast] at hc))|omega|with_reducible intro _))
       | false =>
         have nY:=Gh huy
         rw [nY] at aY
         rw [if_neg (by rw [hux,huy];simp)] at e1
         refine W_T ?_
         (repeat' (first|(simp (disch:=omega) only [push_cast,↓zz,seval,yy,List.mem_cons,List.not_mem_nil,or_false,false_or,not_or,not_false_eq_true,true_or,or_true,pR,pF,lN,pN,hre,hgr,hot,hx,hy,aX,aY,pK])|(with_reducible first|refine And.intro ?_ ?_|(first|refine Ab ?_ ?_|refine Aa ?_ ?_)<;>intro hc<;>(try simp only [push_cast] at hc))|((with_reducible refine U2 [6] [] [] (by simp) (by decide) ?_))|(with_reducible first|refine eK hO ?_|refine eQ hO ?_|refine eG hO ?_)|((with_reducible first|refine cK hO ?_|refine cQ hO ?_|refine cG hO ?_);(simp (disch:=omega) only [push_cast,↓zz,seval,yy,List.mem_cons,List.not_mem_nil,or_false,false_or,not_or,not_false_eq_true,true_or,or_true,pR,pF,lN,pN,hre,hgr,hot,hx,hy,aX,aY,pK]);(fail_if_success with_reducible change False))|omega|with_reducible intro _))
         all_goals
           refine ⟨j + 1,?_⟩
           (repeat' (first|(simp (disch:=omega) only [push_cast,↓zz,seval,e1,pK,pN])|(with_reducible first|refine And.intro ?_ ?_|(first|refine Ab ?_ ?_|refine Aa ?_ ?_)<;>intro hc<;>(try simp only [push_cast] at hc))|omega|with_reducible intro _))
     | false =>
       have nX:=Gh hux
       rw [nX] at aX
       rw [if_neg (by rw [hux];simp)] at e1
       generalize numB u y=ny at *
       refine W_T ?_
       (repeat' (first|(simp (disch:=omega) only [push_cast,↓zz,seval,yy,List.mem_cons,List.not_mem_nil,or_false,false_or,not_or,not_false_eq_true,true_or,or_true,pR,pF,lN,pN,hre,hgr,hot,hx,hy,aX,aY,pK])|(with_reducible first|refine And.intro ?_ ?_|(first|refine Ab ?_ ?_|refine Aa ?_ ?_)<;>intro hc<;>(try simp only [push_cast] at hc))|((with_reducible refine U2 [6] [] [] (by simp) (by decide) ?_))|(with_reducible first|refine eK hO ?_|refine eQ hO ?_|refine eG hO ?_)|((with_reducible first|refine cK hO ?_|refine cQ hO ?_|refine cG hO ?_);(simp (disch:=omega) only [push_cast,↓zz,seval,yy,List.mem_cons,List.not_mem_nil,or_false,false_or,not_or,not_false_eq_true,true_or,or_true,pR,pF,lN,pN,hre,hgr,hot,hx,hy,aX,aY,pK]);(fail_if_success with_reducible change False))|omega|with_reducible intro _))
       all_goals
         refine ⟨j + 1,?_⟩
         (repeat' (first|(simp (disch:=omega) only [push_cast,↓zz,seval,e1,pK,pN])|(with_reducible first|refine And.intro ?_ ?_|(first|refine Ab ?_ ?_|refine Aa ?_ ?_)<;>intro hc<;>(try simp only [push_cast] at hc))|omega|with_reducible intro _))
   obtain rfl:j=d.rules.length:=by omega
   have et:d.rules.take d.rules.length=d.rules:=List.take_of_length_le (by omega)
   rw [et] at pK lK ⊢
   refine W_T ?_
   (repeat' (first|(simp (disch:=omega) only [push_cast,↓zz,seval,pR,pF,lN,pN,pK,et])|(with_reducible first|refine And.intro ?_ ?_|(first|refine Ab ?_ ?_|refine Aa ?_ ?_)<;>intro hc<;>(try simp only [push_cast] at hc))|omega|with_reducible intro _))
   have hkF:=fun j (hj:j < d.finals.length)=>Tw u hj
   generalize hKR:Fl u d.rules=KR at *
   refine Ao (Ap (fun (j:Nat)=>j ≤ d.finals.length) (fun j=>d.finals.length - j)
     (fun j=>[(2,.ptr 0 1 0 0),(7,.ref 1 1 0 k),(8,.ptr 2 1 0 0),(122,Pm d.finals),(123,.int .i64 d.finals.length),(124,.int .i64 j)]) (fun j=>[⟨6,1,true,[Rb]⟩,⟨1,1,true,NU⟩,⟨6,1,true,[.agg [.int .i64 d.in_,.int .i64 d.out,.int .i64 (cntB u k:Nat),.int .i64 (cntB u s:Nat),.ref 3 1 0 KR.length,.ref 4 1 0 (F1 u (d.finals.take j)).length]]⟩,⟨5,1,false,KR.map Md⟩,⟨3,1,false,(F1 u (d.finals.take j)).map Kt⟩]) (fun env H=>[Aw 6 (env 2),Aw 1 (env 7),Aw 6 (env 8),Aw 5 (cellAt H (env 8) 4),Aw 3 (cellAt H (env 8) 5)]) 0 (by simp) ?_ ?_)
   · have e0:F1 u []=[]:=rfl
     (repeat' (first|(simp (disch:=omega) only [push_cast,↓zz,seval,pR,pF,lN,pN,e0,pK])|(with_reducible first|refine And.intro ?_ ?_|(first|refine Ab ?_ ?_|refine Aa ?_ ?_)<;>intro hc<;>(try simp only [push_cast] at hc))|omega|with_reducible intro _))
   intro j hj
   have pJ:=Bg (F1 u (d.finals.take j))
   have lJ:=Ra u (d.finals.take j)
   rw [List.length_take] at lJ
   rcases Nat.lt_or_ge j d.finals.length with hjl|hjl
   · have hr:=hw.f _ (Au hjl)
     have hrB:=hfinals _ (Au hjl)
     have hO:=zdl hrB
     have e1:=hkF j hjl
     generalize hre:nth d.finals j=r at *
     have hgr:=Ae r.guards
     have hot:=Bb r.out
     obtain ⟨x,hx⟩:∃ x:Nat,r.from_=x:=⟨r.from_.toNat,by omega⟩
     have hxn:x < k:=by omega
     have aX:=aI x hxn
     rw [hx,Int.toNat_natCast] at e1
     have cx:=Fe u x
     generalize F1 u (d.finals.take j)=K at *
     cases hux:u x with
     | true =>
       have nX:=Da hux
       rw [nX] at aX
       rw [if_pos hux,nX] at e1
       refine W_T ?_
       (repeat' (first|(simp (disch:=omega) only [push_cast,↓zz,seval,pR,pF,lN,pN,hre,hgr,hot,hx,aX,pK,pJ])|(with_reducible first|refine And.intro ?_ ?_|(first|refine Ab ?_ ?_|refine Aa ?_ ?_)<;>intro hc<;>(try simp only [push_cast] at hc)|refine eK hO ?_|refine eQ hO ?_|refine eG hO ?_)|((with_reducible first|refine cK hO ?_|refine cQ hO ?_|refine cG hO ?_);(simp (disch:=omega) only [push_cast,↓zz,seval,pR,pF,lN,pN,hre,hgr,hot,hx,aX,pK,pJ]);(fail_if_success with_reducible change False))|omega|with_reducible intro _))
       all_goals
         refine ⟨j + 1,?_⟩
         (repeat' (first|(simp (disch:=omega) only [push_cast,↓zz,seval,e1,pK,pJ,pN])|(with_reducible first|refine And.intro ?_ ?_|(first|refine Ab ?_ ?_|refine Aa ?_ ?_)<;>intro hc<;>(try simp only [push_cast] at hc))|omega|with_reducible intro _))
     | false =>
       have nX:=Gh hux
       rw [nX] at aX
       rw [if_neg (by rw [hux];simp)] at e1
       refine W_T ?_
       (repeat' (first|(simp (disch:=omega) only [push_cast,↓zz,seval,pR,pF,lN,pN,hre,hgr,hot,hx,aX,pK,pJ])|(with_reducible first|refine And.intro ?_ ?_|(first|refine Ab ?_ ?_|refine Aa ?_ ?_)<;>intro hc<;>(try simp only [push_cast] at hc)|refine eK hO ?_|refine eQ hO ?_|refine eG hO ?_)|((with_reducible first|refine cK hO ?_|refine cQ hO ?_|refine cG hO ?_);(simp (disch:=omega) only [push_cast,↓zz,seval,pR,pF,lN,pN,hre,hgr,hot,hx,aX,pK,pJ]);(fail_if_success with_reducible change False))|omega|with_reducible intro _))
       all_goals
         refine ⟨j + 1,?_⟩
         (repeat' (first|(simp (disch:=omega) only [push_cast,↓zz,seval,e1,pK,pJ,pN])|(with_reducible first|refine And.intro ?_ ?_|(first|refine Ab ?_ ?_|refine Aa ?_ ?_)<;>intro hc<;>(try simp only [push_cast] at hc))|omega|with_reducible intro _))
   obtain rfl:j=d.finals.length:=by omega
   have et2:d.finals.take d.finals.length=d.finals:=List.take_of_length_le (by omega)
   rw [et2] at pJ lJ ⊢
   refine W_T ?_
   (repeat' (first|(simp (disch:=omega) only [push_cast,↓zz,seval,pR,pF,lN,pN,pK,pJ,et2])|(with_reducible first|refine And.intro ?_ ?_|(first|refine Ab ?_ ?_|refine Aa ?_ ?_)<;>intro hc<;>(try simp only [push_cast] at hc))|omega|with_reducible intro _))
   all_goals (rw [nS];(repeat' (first|(simp (disch:=omega) only [push_cast,↓zz,seval,Bo])|omega|(with_reducible refine And.intro ?_ ?_))))
   all_goals trace_state
theorem Lz {n:Nat} {F:List Int} {E:List (Int × Int)} (hr:InR n F E) {on:Nat→Bool} (h1:∀ i:Nat,on i=true→Reach E F i) (h2:∀ s ∈ F,on s.toNat=true) (h3:∀ e ∈ E,on e.1.toNat=true→on e.2.toNat=true) (i:Nat):C3 E F i=on i :=
 (zd4 hr ⟨fun s hs=>(by cases hs),h1,fun s hs=>.inl (h2 s hs),fun j hj t ht=>.inl (by have:=h3 _ ht;simpa [hj] using this)⟩ i).symm
def exK:Desc:=⟨1,1,3,0,[⟨0,1,[[⟨97,97⟩]],1,[]⟩,⟨0,2,[[⟨98,98⟩]],1,[]⟩],[⟨1,[],[]⟩]⟩
theorem Zv {s x:Int} (h:memL (domL s) x):Cy s [[⟨x,x⟩]]=true:=by
 have hb:=(zi9 s).2 x h
 have hm:Ej [⟨x,x⟩] (domL s)=[]:=(G1 (fun v hv=>by obtain ⟨t,ht,h1,h2⟩:=hv;simp only [List.mem_singleton] at ht;subst ht;simp only at h1 h2;omega) (fun t ht=>by simp only [List.mem_singleton] at ht;subst ht;simp)).2 fun v hv=>by
   obtain ⟨t,ht,h1,h2⟩:=hv
   simp only [List.mem_singleton] at ht
   subst ht
   simp only at h1 h2
   have:v=x:=by omega
   rw [this];exact h
 have hc:Jr (-1073741826) [⟨x,x⟩]=true:=by simp [Jr];omega
 simp [Cy,Ib,hm,Qv,hc]
theorem If:Cp exK=0:=by
 refine (Kg (by decide) (fun r hr=>?_) (fun f hf=>?_) ?_).2
 · simp only [exK,List.mem_cons,List.not_mem_nil,or_false] at hr
   rcases hr with rfl|rfl
   · simp only [Ek,Bool.and_eq_true]
     exact ⟨by decide,by decide,Zv (Ie.2 (by decide)),by decide,by decide⟩
   · simp only [Ek,Bool.and_eq_true]
     exact ⟨by decide,by decide,Zv (Ie.2 (by decide)),by decide,by decide⟩
 · simp only [exK,List.mem_singleton] at hf
   subst hf
   decide
 · rintro ⟨C,hC,j,hj⟩
   obtain ⟨_,r,hr,he,_⟩:=hC j hj
   simp only [exK,List.mem_cons,List.not_mem_nil,or_false] at hr
   rcases hr with rfl|rfl<;>simp [Ei] at he
theorem z2k:Hh exK:=by
 refine ⟨fun r hr t ht=>?_,fun f hf t ht=>?_⟩
 · simp only [exK,List.mem_cons,List.not_mem_nil,or_false] at hr
   rcases hr with rfl|rfl<;>cases ht
 · simp only [exK,List.mem_singleton] at hf
   subst hf
   cases ht
theorem Zw (i:Nat):C3 (fwdE exK) [exK.start] i=decide (i < 3):=by
 refine Lz (n:=3) ((Lw If).fwd rfl) (on:=fun i=>decide (i < 3)) (fun i hi=>?_) (by decide) (by decide) i
 have b:Reach (fwdE exK) [exK.start] 0:=.base (by decide)
 match i,hi with
 | 0,_=>exact b
 | 1,_=>exact .step b (by decide)
 | 2,_=>exact .step b (by decide)
 | i + 3,h=>exact absurd (of_decide_eq_true h) (by omega)
theorem Wn (i:Nat):C3 (bwdE exK) (endE exK) i=decide (i < 2):=by
 refine Lz (n:=3) ((Lw If).bwd rfl) (on:=fun i=>decide (i < 2)) (fun i hi=>?_) (by decide) (by decide) i
 have b:Reach (bwdE exK) (endE exK) 1:=.base (by decide)
 match i,hi with
 | 0,_=>exact .step b (by decide)
 | 1,_=>exact b
 | i + 2,h=>exact absurd (of_decide_eq_true h) (by omega)
theorem zic:Cv exK=fun i=>decide (i < 2):=by
 funext i
 rw [Cv,Zw,Wn]
 by_cases h:i < 2
 · simp [h];omega
 · simp [h]
theorem zid:Jg exK=⟨1,1,2,0,[⟨0,1,[[⟨97,97⟩]],1,[]⟩],[⟨1,[],[]⟩]⟩:=by
 unfold Jg
 rw [Wn,zic]
 rfl
theorem z8w:N2 exK=[0,1,2]:=by
 have:Ew exK=[true,true,true]:=by
   rw [Ew,Cj]
   have e:(C3 (fwdE exK) [exK.start])=fun i=>decide (i < 3):=funext Zw
   rw [e];rfl
 rw [N2,this];rfl
theorem zdm:Zs exK=[0,1]:=by
 have:goL exK=[true,true,false]:=by
   rw [goL,Cj]
   have e:(C3 (bwdE exK) (endE exK))=fun i=>decide (i < 2):=funext Wn
   rw [e];rfl
 rw [Zs,this];rfl
abbrev exKV:AV:=.agg [.int .i64 1,.int .i64 1,.int .i64 3,.int .i64 0,.lst 5 [.agg [.int .i64 0,.int .i64 1,Ak [[⟨97,97⟩]],.int .i64 1,.nilS],.agg [.int .i64 0,.int .i64 2,Ak [[⟨98,98⟩]],.int .i64 1,.nilS]],.lst 3 [.agg [.int .i64 1,.nilS,.nilS]]]
theorem z2l:AV.le exKV (By exK):=by
 refine AV.le_agg (Az (AV.le_refl _) (Az (AV.le_refl _) (Az (AV.le_refl _) (Az (AV.le_refl _) (Az (AV.le_lst rfl (Bj _) ?_) (Az (AV.le_lst rfl (Bg _) ?_) D4))))))
 · have k:∀ a b:Int,∀ g:List (List Span),AV.le (.agg [.int .i64 a,.int .i64 b,Ak g,.int .i64 1,.nilS]) (Md ⟨a,b,g,1,[]⟩):=fun a b g=>AV.le_agg (Az (AV.le_refl _) (Az (AV.le_refl _) (Az (AV.le_refl _) (Az (AV.le_refl _) (Az (AV.le_nilS (by decide)) D4)))))
   exact Az (k _ _ _) (Az (k _ _ _) D4)
 · exact Az (AV.le_agg (Az (AV.le_refl _) (Az (AV.le_nilS (by decide)) (Az (AV.le_nilS (by decide)) D4)))) D4
theorem z2m:PC Tryz.prog 13 [] (.bool true):=by
 have hC:=z8v exK z2k If
 have hG:=z2i exK z2k If
 have hT:=Zu exK z2k If
 rw [z8w] at hC
 rw [zdm] at hG
 rw [zid] at hT
 have hC:=Ht hC (Az z2l D4)
 have hG:=Ht hG (Az z2l D4)
 have hT:=Ht hT (Az z2l D4)
 refine znk U7 ?_
 unfold Kw
 refine Rp (W_T ?_)
 (repeat' (first|(simp (disch:=omega) only [push_cast,↓zz,seval])|(with_reducible first|refine And.intro ?_ ?_|(first|refine Ab ?_ ?_|refine Aa ?_ ?_)<;>intro hc<;>(try simp only [push_cast] at hc))|omega|with_reducible intro _))
 refine Rp (W_T ?_)
 (repeat' (first|(simp (disch:=omega) only [push_cast,↓zz,seval])|(with_reducible first|refine And.intro ?_ ?_|(first|refine Ab ?_ ?_|refine Aa ?_ ?_)<;>intro hc<;>(try simp only [push_cast] at hc))|omega|with_reducible intro _))
 refine Rp (W_T ?_)
 (repeat' (first|(simp (disch:=omega) only [push_cast,↓zz,seval])|(with_reducible first|refine And.intro ?_ ?_|(first|refine Ab ?_ ?_|refine Aa ?_ ?_)<;>intro hc<;>(try simp only [push_cast] at hc))|omega|with_reducible intro _))
 refine zbu (z7s (l':=[⟨0,2,false,[]⟩,⟨0,2,false,[]⟩,⟨0,2,false,[]⟩,⟨0,2,false,[]⟩,⟨0,2,false,[]⟩,⟨0,2,false,[]⟩,⟨6,1,true,[exKV]⟩]) (g:=6) (d:=8) [0,1,2,3,4,5] (by decide) (by simp) rfl (by decide) ?_ ?_) (W_T ?_)
 · (simp (disch:=omega) only [push_cast,↓zz,seval])
 · rfl
 (repeat' (first|(simp (disch:=omega) only [push_cast,↓zz,seval])|(with_reducible first|refine And.intro ?_ ?_|(first|refine Ab ?_ ?_|refine Aa ?_ ?_)<;>intro hc<;>(try simp only [push_cast] at hc)|refine eK hC ?_|refine eQ hC ?_|refine eK hG ?_|refine eQ hG ?_|refine eK hT ?_|refine eQ hT ?_)|omega|with_reducible intro _))
 all_goals trace_state
structure zno (d:Desc) (k:Nat) (f:Bool) (w a l:Int):Prop where
 le:k ≤ d.rules.length
 fr:freeB d=(f && (d.rules.drop k).all fun r=>!Ei r)
 wi:zrc d=(d.rules.drop k).foldl widF w
 ah:zrd d=(d.rules.drop k).foldl aheF a
 lo:longV d=d.finals.foldl lonG ((d.rules.drop k).foldl lonF l)
 nn:0 ≤ a
theorem zno.step {d:Desc} {k:Nat} {f:Bool} {w a l:Int} (h:zno d k f w a l) (hk:k < d.rules.length) {f2:Bool} {w2 a2 l2:Int} (e1:f2=(f && !Ei (nth d.rules k))) (e2:w2=widF w (nth d.rules k)) (e3:a2=aheF a (nth d.rules k)) (e4:l2=lonF l (nth d.rules k)):zno d (k + 1) f2 w2 a2 l2 where
 le:=by omega
 fr:=by rw [h.fr,drop_at hk,List.all_cons,e1,Bool.and_assoc]
 wi:=by rw [h.wi,fold_at hk,e2]
 ah:=by rw [h.ah,fold_at hk,e3]
 lo:=by rw [h.lo,fold_at hk,e4]
 nn:=by have:=h.nn;rw [e3,aheF];omega
def famB (n:Nat) (f:Nat→Bool):List AV:=(List.range n).map fun i=>AV.bool (f i)
theorem Wo {n i:Nat} {f:Nat→Bool} {x:Bool} (h:i < n):(famB n f).set i (.bool x)=famB n fun j=>if j=i then x else f j:=by
 rw [famB,Dr h,famB]
 refine List.map_congr_left fun p _=>?_
 by_cases e:p=i
 · subst e;simp
 · simp [e]
theorem Fo {n:Nat} {f g:Nat→Bool} (h:∀ i,i < n→f i=g i):famB n f=famB n g:=List.map_congr_left fun i hi=>by rw [h i (by simpa using hi)]
theorem z5u (n:Nat):List.replicate n (AV.bool false)=famB n fun _=>false:=by
 refine List.ext_getElem (by simp [famB]) fun i h1 h2=>?_
 simp [famB]
theorem zie {l:List Rule} {on:Nat→Bool} {m:Nat} (hm:m < l.length):onF (l.take (m + 1)) on=fun j=>onF (l.take m) on j || (Ei (nth l m) && (on (nth l m).from_.toNat && decide ((nth l m).to_=j))):=by
 funext j
 rw [onF,take_at hm,List.any_append]
 simp [onF]
theorem z8x {l:List Rule} {on:Nat→Bool} {m:Nat} (hm:m < l.length):Mk (l.take (m + 1)) on=(Mk (l.take m) on || (Ei (nth l m) && on (nth l m).from_.toNat)):=by
 rw [Mk,take_at hm,List.any_append]
 simp [Mk]
theorem z2n (d:Desc) (hd:zr9 d):PC Tryz.prog 55 [By d] (.bool (cycR d.rules d.states.toNat)):=by
 obtain ⟨⟨hn1,hn2⟩,hlen,hrul⟩:=hd
 have hPr:=Bj d.rules
 have hPf:=Bg d.finals
 obtain ⟨n,hn⟩:∃ n:Nat,d.states=n:=⟨d.states.toNat,by omega⟩
 have pB:∀ f,Ay (famB n f)=true:=fun f=>Cc.2 fun x hx=>by
   obtain ⟨i,_,rfl⟩:=List.mem_map.1 hx
   rfl
 have lB:∀ f,(famB n f).length=n:=fun f=>by simp [famB]
 have aB:∀ f i,i < n→(famB n f).getD i .any=.bool (f i):=fun f i hi=>Bq hi
 have rB:=z5u n
 have hpd:Ay [By d]=true:=by simp [Ay,Mt]
 refine A9 Ve ?_
 unfold K3
 rw [hn,Int.toNat_natCast]
 (repeat' (first|(simp (disch:=omega) only [push_cast,↓zz,seval,hn])|(with_reducible first|refine And.intro ?_ ?_|(first|refine Ab ?_ ?_|refine Aa ?_ ?_)<;>intro hc<;>(try simp only [push_cast] at hc))|omega|with_reducible intro _))
 refine Ao (Ap (fun (k:Nat)=>k ≤ n) (fun k=>n - k)
   (fun k=>[(1,.ptr 0 1 0 0),(3,.ref 1 1 0 n),(13,.int .i64 n),(14,.int .i64 k)]) (fun k=>[⟨6,1,true,[By d]⟩,⟨1,1,true,famB n fun i=>decide (i < k)⟩]) (fun env _=>[Aw 6 (env 1),Aw 1 (env 3)]) 0 (by simp) ?_ ?_)
 · have e0:(famB n fun i=>decide (i < 0))=famB n fun _=>false:=Fo fun i _=>by simp
   (repeat' (first|(simp (disch:=omega) only [push_cast,↓zz,seval,hPr,hPf,hn,rB,e0,pB,lB,Int.toNat_natCast])|(with_reducible first|refine And.intro ?_ ?_|(first|refine Ab ?_ ?_|refine Aa ?_ ?_)<;>intro hc<;>(try simp only [push_cast] at hc))|omega|with_reducible intro _))
 intro k hk
 rcases Nat.lt_or_ge k n with hkn|hkn
 · have hs:=Wo (f:=fun i=>decide (i < k)) (x:=true) hkn
   have he:(famB n fun j=>if j=k then true else decide (j < k))=famB n fun i=>decide (i < k + 1):=Fo fun i _=>by
     by_cases h:i=k
     · subst h;simp
     · rw [if_neg h,decide_eq_decide];omega
   rw [he] at hs
   refine W_T ?_
   (repeat' (first|(simp (disch:=omega) only [push_cast,↓zz,seval,hPr,hPf,hn,pB,lB,hs])|(with_reducible first|refine And.intro ?_ ?_|(first|refine Ab ?_ ?_|refine Aa ?_ ?_)<;>intro hc<;>(try simp only [push_cast] at hc))|omega|with_reducible intro _))
   all_goals
     refine ⟨k + 1,?_⟩
     (repeat' (first|(simp (disch:=omega) only [push_cast,↓zz,seval])|(with_reducible first|refine And.intro ?_ ?_|(first|refine Ab ?_ ?_|refine Aa ?_ ?_)<;>intro hc<;>(try simp only [push_cast] at hc))|omega|with_reducible intro _))
 · have hkk:n=k:=by omega
   subst hkk
   have he:(famB n fun i=>decide (i < n))=famB n (onK d.rules 0):=Fo fun i hi=>by simp [onK,hi]
   rw [he]
   refine W_T ?_
   (repeat' (first|(simp (disch:=omega) only [push_cast,↓zz,seval,hPr,hPf,hn,pB,lB])|(with_reducible first|refine And.intro ?_ ?_|(first|refine Ab ?_ ?_|refine Aa ?_ ?_)<;>intro hc<;>(try simp only [push_cast] at hc))|omega|with_reducible intro _))
   refine Ao (Ap (fun (k:Nat)=>k ≤ n + 1∧∀ i,i < k→Mk d.rules (onK d.rules i)=true) (fun k=>n + 1 - k)
     (fun k=>[(1,.ptr 0 1 0 0),(3,.ref 1 1 0 n),(5,.int .i64 k)]) (fun k=>[⟨6,1,true,[By d]⟩,⟨1,1,true,famB n (onK d.rules k)⟩]) (fun env _=>[Aw 6 (env 1),Aw 1 (env 3)]) 0 ⟨by simp,fun i hi=>by omega⟩ ?_ ?_)
   · (repeat' (first|(simp (disch:=omega) only [push_cast,↓zz,seval,hPr,hPf,hn,pB,lB])|(with_reducible first|refine And.intro ?_ ?_|(first|refine Ab ?_ ?_|refine Aa ?_ ?_)<;>intro hc<;>(try simp only [push_cast] at hc))|omega|with_reducible intro _))
   rintro k ⟨k1,k2⟩
   rcases Nat.lt_or_ge k (n + 1) with hk1|hk1
   · generalize hon:onK d.rules k=on at *
     refine W_T ?_
     (repeat' (first|(simp (disch:=omega) only [push_cast,↓zz,seval,hPr,hPf,hn,pB,lB,rB,Int.toNat_natCast])|(with_reducible first|refine And.intro ?_ ?_|(first|refine Ab ?_ ?_|refine Aa ?_ ?_)<;>intro hc<;>(try simp only [push_cast] at hc))|omega|with_reducible intro _))
     refine Ao (Ap (fun (m:Nat)=>m ≤ d.rules.length) (fun m=>d.rules.length - m)
       (fun m=>[(1,.ptr 0 1 0 0),(3,.ref 1 1 0 n),(5,.int .i64 k),(6,.ref 2 1 0 n),(7,.bool (Mk (d.rules.take m) on)),(8,.int .i64 m)]) (fun m=>[⟨6,1,true,[By d]⟩,⟨1,1,true,famB n on⟩,⟨1,1,true,famB n (onF (d.rules.take m) on)⟩]) (fun env _=>[Aw 6 (env 1),Aw 1 (env 3),Aw 1 (env 6)]) 0 (by simp) ?_ ?_)
     · have e1:famB n (onF [] on)=famB n fun _=>false:=Fo fun i _=>by simp [onF]
       have e2:Mk [] on=false:=by simp [Mk]
       (repeat' (first|(simp (disch:=omega) only [push_cast,↓zz,seval,hPr,hPf,hn,pB,lB,e1,e2])|(with_reducible first|refine And.intro ?_ ?_|(first|refine Ab ?_ ?_|refine Aa ?_ ?_)<;>intro hc<;>(try simp only [push_cast] at hc))|omega|with_reducible intro _))
     intro m hm
     rcases Nat.lt_or_ge m d.rules.length with hml|hml
     · have hr:=hrul _ (Au hml)
       have e1:=zie (on:=on) hml
       have e2:=z8x (on:=on) hml
       generalize hre:nth d.rules m=r at *
       have hP:=Ae r.guards
       have hT:=Bb r.out
       obtain ⟨i,hi⟩:∃ i:Nat,r.from_=i:=⟨r.from_.toNat,by omega⟩
       obtain ⟨j,hj⟩:∃ j:Nat,r.to_=j:=⟨r.to_.toNat,by omega⟩
       have hin:i < n:=by omega
       have hjn:j < n:=by omega
       have aI:=aB on i hin
       have hset:=Wo (f:=onF (d.rules.take m) on) (x:=true) hjn
       rw [hi,hj,Int.toNat_natCast] at e1
       rw [hi,Int.toNat_natCast] at e2
       by_cases he:(r.guards.length:Int)=0
       · have hie:Ei r=true:=by simp [Ei,he]
         rw [hie] at e1 e2
         cases hoi:on i with
         | true =>
           rw [hoi] at aI e1 e2
           have e3:(famB n fun p=>if p=j then true else onF (d.rules.take m) on p)=famB n (onF (d.rules.take (m + 1)) on):=Fo fun p _=>by
             rw [e1]
             by_cases h:p=j
             · subst h;simp
             · have:¬ (j:Int)=p:=by omega
               simp [h,this]
           rw [e3] at hset
           simp only [Bool.and_self,Bool.or_true] at e2
           refine W_T ?_
           (repeat' (first|(simp (disch:=omega) only [push_cast,↓zz,seval,hPr,hPf,hn,pB,lB,hre,hP,hT,hi,hj,he,aI,hset])|(with_reducible first|refine And.intro ?_ ?_|(first|refine Ab ?_ ?_|refine Aa ?_ ?_)<;>intro hc<;>(try simp only [push_cast] at hc))|omega|with_reducible intro _))
           all_goals
             refine ⟨m + 1,?_⟩
             (repeat' (first|(simp (disch:=omega) only [push_cast,↓zz,seval,e2])|(with_reducible first|refine And.intro ?_ ?_|(first|refine Ab ?_ ?_|refine Aa ?_ ?_)<;>intro hc<;>(try simp only [push_cast] at hc))|omega|with_reducible intro _))
         | false =>
           rw [hoi] at aI e1 e2
           have e3:famB n (onF (d.rules.take (m + 1)) on)=famB n (onF (d.rules.take m) on):=Fo fun p _=>by rw [e1];simp
           simp only [Bool.and_false,Bool.or_false] at e2
           refine W_T ?_
           (repeat' (first|(simp (disch:=omega) only [push_cast,↓zz,seval,hPr,hPf,hn,pB,lB,hre,hP,hT,hi,hj,he,aI])|(with_reducible first|refine And.intro ?_ ?_|(first|refine Ab ?_ ?_|refine Aa ?_ ?_)<;>intro hc<;>(try simp only [push_cast] at hc))|omega|with_reducible intro _))
           all_goals
             refine ⟨m + 1,?_⟩
             (repeat' (first|(simp (disch:=omega) only [push_cast,↓zz,seval,e2,e3])|(with_reducible first|refine And.intro ?_ ?_|(first|refine Ab ?_ ?_|refine Aa ?_ ?_)<;>intro hc<;>(try simp only [push_cast] at hc))|omega|with_reducible intro _))
       · have hie:Ei r=false:=decide_eq_false he
         rw [hie] at e1 e2
         have e3:famB n (onF (d.rules.take (m + 1)) on)=famB n (onF (d.rules.take m) on):=Fo fun p _=>by rw [e1];simp
         simp only [Bool.false_and,Bool.or_false] at e2
         refine W_T ?_
         (repeat' (first|(simp (disch:=omega) only [push_cast,↓zz,seval,hPr,hPf,hn,pB,lB,hre,hP,hT,hi,hj,he])|(with_reducible first|refine And.intro ?_ ?_|(first|refine Ab ?_ ?_|refine Aa ?_ ?_)<;>intro hc<;>(try simp only [push_cast] at hc))|omega|with_reducible intro _))
         all_goals
           refine ⟨m + 1,?_⟩
           (repeat' (first|(simp (disch:=omega) only [push_cast,↓zz,seval,e2,e3])|(with_reducible first|refine And.intro ?_ ?_|(first|refine Ab ?_ ?_|refine Aa ?_ ?_)<;>intro hc<;>(try simp only [push_cast] at hc))|omega|with_reducible intro _))
     · have hme:m=d.rules.length:=by omega
       subst hme
       rw [List.take_length]
       have hnx:onF d.rules on=onK d.rules (k + 1):=by rw [← hon];rfl
       rw [hnx]
       cases hsm:Mk d.rules on with
       | false =>
         have hres:cycR d.rules n=false:=by
           rw [cycR,List.all_eq_false]
           exact ⟨k,by simp;omega,by rw [hon,hsm];simp⟩
         rw [hres]
         refine W_T ?_
         (repeat' (first|(simp (disch:=omega) only [push_cast,↓zz,seval,hPr,hPf,hn,pB,lB])|(with_reducible first|refine And.intro ?_ ?_|(first|refine Ab ?_ ?_|refine Aa ?_ ?_)<;>intro hc<;>(try simp only [push_cast] at hc))|omega|with_reducible intro _))
       | true =>
         have hall:∀ i,i < k + 1→Mk d.rules (onK d.rules i)=true:=fun i hi=>by
           rcases Nat.lt_or_ge i k with h|h
           · exact k2 i h
           · obtain rfl:i=k:=by omega
             rw [hon];exact hsm
         refine W_T ?_
         (repeat' (first|(simp (disch:=omega) only [push_cast,↓zz,seval,hPr,hPf,hn,pB,lB])|(with_reducible first|refine And.intro ?_ ?_|(first|refine Ab ?_ ?_|refine Aa ?_ ?_)<;>intro hc<;>(try simp only [push_cast] at hc))|omega|with_reducible intro _))
         all_goals
           refine ⟨k + 1,?_⟩
           (repeat' (first|(simp (disch:=omega) only [push_cast,↓zz,seval])|(with_reducible first|refine And.intro ?_ ?_|(first|refine Ab ?_ ?_|refine Aa ?_ ?_)<;>intro hc<;>(try simp only [push_cast] at hc))|omega|with_reducible intro _))
         all_goals first|exact hall _ (by omega)|exact hall
   · have hke:k=n + 1:=by omega
     have hres:cycR d.rules n=true:=by
       rw [cycR,List.all_eq_true]
       intro i hi
       exact k2 i (by simp at hi;omega)
     rw [hres]
     refine W_T ?_
     (repeat' (first|(simp (disch:=omega) only [push_cast,↓zz,seval,hPr,hPf,hn,pB,lB])|(with_reducible first|refine And.intro ?_ ?_|(first|refine Ab ?_ ?_|refine Aa ?_ ?_)<;>intro hc<;>(try simp only [push_cast] at hc))|omega|with_reducible intro _))
     all_goals trace_state
open Classical in
theorem zdn (v:Nat) (l:List Int) (x:Int) (hr:Br l) (hl:l.length ≤ 1000000000000) {K:AV→Ac→Prop} (p:Nat) (hp:Place l x p p)
   (hyes:p < l.length→nth l p=x→K (.ref 0 v 0 l.length) (Abs.hl [⟨1,v,false,l.map intV⟩]))
   (hno:(p < l.length→nth l p ≠ x)→K (.ref 0 (v + 1) 0 (l.length + 1)) (Abs.hl [⟨1,v + 1,false,(l.take p ++ x :: l.drop p).map intV⟩])) :
   Bn Tryz.prog 123 [.ref 0 v 0 l.length,.int .i64 x] (Abs.hl [⟨1,v,false,l.map intV⟩]) K:=by
 refine F6 (b:=1) z0x rfl ?_
 unfold P0
 (repeat' (first|(simp (disch:=omega) only [push_cast,↓zz,seval])|(with_reducible first|refine And.intro ?_ ?_|(first|refine Ab ?_ ?_|refine Aa ?_ ?_)<;>intro hc<;>(try simp only [push_cast] at hc))|omega|with_reducible intro _))
 refine Ao (Ap (fun (s:Nat × Nat)=>Place l x s.1 s.2) (fun s=>s.2 - s.1) (fun s=>[(0,.ref 0 v 0 l.length),(1,.int .i64 x),(5,.int .i64 s.1),(6,.int .i64 s.2)])
   (fun _=>[⟨1,v,false,l.map intV⟩]) (fun _ _=>[]) (0,l.length) ⟨by simp,by simp,by simp,by intro j h1 h2;simp at h1;omega⟩ ?_ ?_)
 · (repeat' (first|(simp (disch:=omega) only [push_cast,↓zz,seval])|(with_reducible first|refine And.intro ?_ ?_|(first|refine Ab ?_ ?_|refine Aa ?_ ?_)<;>intro hc<;>(try simp only [push_cast] at hc))|omega|with_reducible intro _))
 rintro ⟨lo,hi⟩ hpl
 have hle:=hpl.le
 have htop:=hpl.top
 simp only at hle htop
 rcases Nat.lt_or_ge lo hi with hlh|hlh
 · obtain ⟨s1,s2⟩:=Tg hr hpl hlh
   have hm:(lo + hi) / 2 < l.length:=by omega
   have hw:IntKind.i64.wrap (((lo:Int) + (hi:Int)).tdiv 2)=(((lo + hi) / 2:Nat):Int):=by
     rw [Int.tdiv_eq_ediv_of_nonneg (by omega),show ((lo:Int) + hi) / 2=(((lo + hi) / 2:Nat):Int) by omega]
     exact IntWalk.i64_in _ (by omega)
   refine W_T ?_
   (repeat' (first|(simp (disch:=omega) only [push_cast,↓zz,seval,hw])|(with_reducible first|refine And.intro ?_ ?_|(first|refine Ab ?_ ?_|refine Aa ?_ ?_)<;>intro hc<;>(try simp only [push_cast] at hc))|omega|with_reducible intro _))
   all_goals rw [show (((lo:Int) + hi) / 2).toNat=(lo + hi) / 2 by omega] at hc
   · exact ⟨((lo + hi) / 2 + 1,hi),⟨by simp only;omega,rfl⟩,s1 hc,by simp only;omega⟩
   · exact ⟨(lo,(lo + hi) / 2),⟨rfl,by simp only;omega⟩,s2 hc,by simp only;omega⟩
 · have hlp:lo=p∧hi=p:=by
     have e:lo=hi:=by omega
     subst e
     rcases Nat.lt_trichotomy lo p with h|h|h
     · have:=hp.lt lo h;have:=hpl.ge lo (Nat.le_refl _) (by have:=hp.top;omega);omega
     · exact ⟨h,h⟩
     · have:=hpl.lt p h;have:=hp.ge p (Nat.le_refl _) (by omega);omega
   obtain ⟨rfl,rfl⟩:=hlp
   refine W_T ?_
   (repeat' (first|(simp (disch:=omega) only [push_cast,↓zz,seval])|(with_reducible first|refine And.intro ?_ ?_|(first|refine Ab ?_ ?_|refine Aa ?_ ?_)<;>intro hc<;>(try simp only [push_cast] at hc))|omega|with_reducible intro _))
   · exact hyes (by omega) hc
   all_goals
     have hn:=hno (by first|exact fun _=>hc|exact fun h=>absurd h (by omega))
     refine Ao (Ap (fun (s:Nat × Int)=>hi ≤ s.1∧s.1 ≤ l.length) (fun s=>s.1) (fun s=>[(0,.ref 0 (v + 1) 0 (l.length + 1)),(1,.int .i64 x),(5,.int .i64 hi),(8,.int .i64 s.1)])
       (fun s=>[⟨1,v + 1,false,(gapL l s.1 s.2).map intV⟩]) (fun _ _=>[]) (l.length,0) ⟨by simp only;omega,by simp⟩ ?_ ?_)
     · (repeat' (first|(simp (disch:=omega) only [push_cast,↓zz,seval,z5c])|(with_reducible first|refine And.intro ?_ ?_|(first|refine Ab ?_ ?_|refine Aa ?_ ?_)<;>intro hc<;>(try simp only [push_cast] at hc))|omega|with_reducible intro _))
     rintro ⟨i,y⟩ ⟨h1,h2⟩
     simp only at h1 h2
     have hgl:=z5b (y:=y) h2
     refine W_T ?_
     rcases Nat.lt_or_ge hi i with hlt|hge
     · obtain ⟨i,rfl⟩:∃ k,i=k + 1:=⟨i - 1,by omega⟩
       have hs:=Og (y:=y) (z:=nth l i) h2
       have ha:=zck (y:=y) (show i < l.length by omega)
       rw [Za (by omega)] at hs
       (repeat' (first|(simp (disch:=omega) only [push_cast,↓zz,seval,hgl,hs,ha,E5])|(with_reducible first|refine And.intro ?_ ?_|(first|refine Ab ?_ ?_|refine Aa ?_ ?_)<;>intro hc<;>(try simp only [push_cast] at hc))|omega|with_reducible intro _))
       all_goals exact ⟨(i,nth l i),⟨rfl,A6 _ _⟩,⟨by simp only;omega,by simp only;omega⟩,by simp only;omega⟩
     · obtain rfl:i=hi:=by omega
       have hs:=Og (y:=y) (z:=x) h2
       (repeat' (first|(simp (disch:=omega) only [push_cast,↓zz,seval,hgl,hs])|(with_reducible first|refine And.intro ?_ ?_|(first|refine Ab ?_ ?_|refine Aa ?_ ?_)<;>intro hc<;>(try simp only [push_cast] at hc))|omega|with_reducible intro _))
       exact hn
theorem Zx (v:Nat) (l:List Int) (x:Int) (hr:Br l) (hl:l.length ≤ 1000000000000) :
   Bn Tryz.prog 123 [.ref 0 v 0 l.length,.int .i64 x] (Abs.hl [⟨1,v,false,l.map intV⟩]) fun y H'=>∃ v',y=.ref 0 v' 0 (putI l x).length∧H'=Abs.hl [⟨1,v',false,(putI l x).map intV⟩]:=by
 obtain ⟨e1,e2⟩:=V3 l x
 refine zdn v l x hr hl (lowI l x) (Gu hr x) (fun h1 h2=>?_) (fun h=>?_)
 · rw [putI,if_pos ((V4 hr x).2 ⟨h1,h2⟩)]
   exact ⟨v,rfl,rfl⟩
 · rw [putI,if_neg (fun hx=>by obtain ⟨h1,h2⟩:=(V4 hr x).1 hx;exact h h1 h2),← e1,← e2]
   refine ⟨v + 1,?_,rfl⟩
   congr 1
   have:=(Gu hr x).top
   simp;omega
theorem Tx:∀ {a b:List Int},Br a→Br b→(∀ x,x ∈ a ↔ x ∈ b)→a=b
 | [],[],_,_,_=>rfl
 | [],y :: b,_,_,h=>absurd ((h y).2 (by simp)) (by simp)
 | x :: a,[],_,_,h=>absurd ((h x).1 (by simp)) (by simp)
 | x :: a,y :: b,ha,hb,h=>by
   obtain ⟨a1,a2⟩:=List.pairwise_cons.1 ha
   obtain ⟨b1,b2⟩:=List.pairwise_cons.1 hb
   have hx:=(h x).1 (by simp)
   have hy:=(h y).2 (by simp)
   have e:x=y:=by
     rcases List.mem_cons.1 hx with e|hx
     · exact e
     · rcases List.mem_cons.1 hy with e|hy
       · exact e.symm
       · have:=b1 x hx;have:=a1 y hy;omega
   subst e
   rw [Tx a2 b2 fun z=>?_]
   have hz:=h z
   simp only [List.mem_cons] at hz
   constructor
   · intro hm
     rcases hz.1 (.inr hm) with e|hm'
     · have:=a1 z hm;omega
     · exact hm'
   · intro hm
     rcases hz.2 (.inr hm) with e|hm'
     · have:=b1 z hm;omega
     · exact hm'
theorem I9:∀ (m l:List Int),Br l→Br (m.foldl putI l)∧(m.foldl putI l).length ≤ l.length + m.length∧∀ v,v ∈ m.foldl putI l ↔ v ∈ l ∨ v ∈ m
 | [],l,h=>⟨h,by simp,fun v=>by simp⟩
 | x :: m,l,h=>by
   obtain ⟨i1,i2,i3⟩:=I9 m (putI l x) (Fz h x)
   have hl:(putI l x).length ≤ l.length + 1:=by
     unfold putI
     split
     · omega
     · have:=congrArg List.length (List.takeWhile_append_dropWhile (p:=fun y=>decide (y < x)) (l:=l))
       simp only [List.length_append,List.length_cons] at this ⊢
       omega
   refine ⟨i1,by simp only [List.foldl_cons,List.length_cons];omega,fun v=>?_⟩
   rw [List.foldl_cons,i3,V2,List.mem_cons]
   constructor
   · rintro ((h|h)|h)
     · exact .inr (.inl h)
     · exact .inl h
     · exact .inr (.inr h)
   · rintro (h|h|h)
     · exact .inl (.inr h)
     · exact .inl (.inl h)
     · exact .inr h
def F8 (out:List Span) (x:Int):List Span:=addS out ⟨x,x⟩
def Ju (l:List Int):List Span:=l.foldl F8 []
theorem Ty (l:List Int):∀ out:List Span,(l.foldl F8 out).length ≤ out.length + l.length:=by
 induction l with
 | nil=>intro out;simp
 | cons x l ih =>
   intro out
   have:=ih (F8 out x)
   have h2:=zhc out ⟨x,x⟩
   simp only [List.foldl_cons,List.length_cons,F8] at *
   omega
theorem z2o (l:List Int) (hl:l.length ≤ 1000000000) (hb:∀ x ∈ l,-1099511627776 ≤ x∧x ≤ 1099511627776):PC Tryz.prog 125 [C2 l] (Ad (Ju l)):=by
 have hP:Ay (l.map (AV.int .i64))=true:=Cw .i64 l
 refine A9 Vn ?_
 unfold Ld
 (repeat' (first|(simp (disch:=omega) only [push_cast,↓zz,seval])|(with_reducible first|refine And.intro ?_ ?_|(first|refine Ab ?_ ?_|refine Aa ?_ ?_)<;>intro hc<;>(try simp only [push_cast] at hc))|omega|with_reducible intro _))
 refine Ao (Ap (fun (k:Nat)=>k ≤ l.length) (fun k=>l.length - k)
   (fun k=>[(0,C2 l),(3,.ref 0 1 0 ((l.take k).foldl F8 []).length),(4,.int .i64 k)]) (fun k=>[⟨2,1,false,((l.take k).foldl F8 []).map Bt⟩]) (fun env _=>[Aw 2 (env 3)]) 0 (by simp) ?_ ?_)
 · (repeat' (first|(simp (disch:=omega) only [push_cast,↓zz,seval,hP,List.foldl_nil,List.length_nil])|(with_reducible first|refine And.intro ?_ ?_|(first|refine Ab ?_ ?_|refine Aa ?_ ?_)<;>intro hc<;>(try simp only [push_cast] at hc))|omega|with_reducible intro _))
 intro k hk
 have hlen:=Ty (l.take k) []
 simp only [List.length_nil,List.length_take] at hlen
 rcases Nat.lt_or_ge k l.length with hkl|hkl
 · have hxb:=hb _ (Au hkl)
   have hst:(l.take (k + 1)).foldl F8 []=addS ((l.take k).foldl F8 []) ⟨nth l k,nth l k⟩:=by rw [take_at hkl,List.foldl_append];rfl
   generalize hxe:nth l k=x at *
   generalize hoe:(l.take k).foldl F8 []=out at *
   have hwn:IntKind.i64.wrap (x - 1)=x - 1:=IntWalk.i64_in _ (by omega)
   rcases Dt out with rfl|⟨mm,z,hout⟩
   · rw [Fj] at hst
     refine W_T ?_
     (repeat' (first|(simp (disch:=omega) only [push_cast,↓zz,seval,hP,hxe,hwn])|(with_reducible first|refine And.intro ?_ ?_|(first|refine Ab ?_ ?_|refine Aa ?_ ?_)<;>intro hc<;>(try simp only [push_cast] at hc))|omega|with_reducible intro _))
     all_goals
       refine ⟨k + 1,?_⟩
       (repeat' (first|(simp (disch:=omega) only [push_cast,↓zz,seval,hst])|(with_reducible first|refine And.intro ?_ ?_|(first|refine Ab ?_ ?_|refine Aa ?_ ?_)<;>intro hc<;>(try simp only [push_cast] at hc))|omega|with_reducible intro _))
   · have l1:out.length=mm.length + 1:=by rw [hout];simp
     have l2:nth out mm.length=z:=by rw [hout];exact V6
     have l3:IntKind.i64.wrap (mm.length:Int)=mm.length:=IntWalk.i64_in _ (by omega)
     have l4:(out.map Bt).set mm.length (.agg [.int .i64 z.lo,.int .i64 x])=(mm ++ [(⟨z.lo,x⟩:Span)]).map Bt:=by rw [hout];exact H9 (f:=Bt) (z:=⟨z.lo,x⟩)
     have hadd:addS out ⟨x,x⟩=if z.hi=x - 1 then mm ++ [⟨z.lo,x⟩] else out ++ [⟨x,x⟩]:=by rw [hout,Gv]
     rw [hadd] at hst
     clear hadd hout
     refine W_T ?_
     (repeat' (first|(simp (disch:=omega) only [push_cast,↓zz,seval,hP,hxe,hwn,l1,l2,l3,l4])|(with_reducible first|refine And.intro ?_ ?_|(first|refine Ab ?_ ?_|refine Aa ?_ ?_)<;>intro hc<;>(try simp only [push_cast] at hc))|omega|with_reducible intro _))
     · rw [if_pos (by assumption)] at hst
       refine ⟨k + 1,?_⟩
       (repeat' (first|(simp (disch:=omega) only [push_cast,↓zz,seval,hst])|(with_reducible first|refine And.intro ?_ ?_|(first|refine Ab ?_ ?_|refine Aa ?_ ?_)<;>intro hc<;>(try simp only [push_cast] at hc))|omega|with_reducible intro _))
     · rw [if_neg (by assumption)] at hst
       refine ⟨k + 1,?_⟩
       (repeat' (first|(simp (disch:=omega) only [push_cast,↓zz,seval,hst,l1])|(with_reducible first|refine And.intro ?_ ?_|(first|refine Ab ?_ ?_|refine Aa ?_ ?_)<;>intro hc<;>(try simp only [push_cast] at hc))|omega|with_reducible intro _))
 · have et:l.take k=l:=List.take_of_length_le hkl
   have hke:k=l.length:=by omega
   rw [et] at hlen ⊢
   have hsl:l.foldl F8 []=Ju l:=rfl
   rw [hsl] at hlen ⊢
   have hpp:=Cf (Ju l)
   refine W_T ?_
   (repeat' (first|(simp (disch:=omega) only [push_cast,↓zz,seval,hP,hke,hpp])|(with_reducible first|refine And.intro ?_ ?_|(first|refine Ab ?_ ?_|refine Aa ?_ ?_)<;>intro hc<;>(try simp only [push_cast] at hc))|omega|with_reducible intro _))
   all_goals trace_state
def prs (a b:List Int):List Int:=a.flatMap fun x=>b.map (x + ·)
def bigB (v:Int):Bool:=decide (1114111 < v)
def Rc (a b:List Int):Option (List Int):=if (prs a b).any bigB then none else some ((prs a b).foldl putI [])
abbrev optL (o:Option (List Int)):AV:=.tup [C2 (o.getD []),.bool o.isSome]
theorem Re {a b:List Int} {v:Int}:v ∈ prs a b ↔ ∃ x ∈ a,∃ y ∈ b,x + y=v:=by simp [prs]
theorem z5v {a b:List Int} {k:Nat} (h:k < a.length):prs (a.take (k + 1)) b=prs (a.take k) b ++ b.map (nth a k + ·):=by rw [prs,take_at h];simp [prs]
theorem znp (a b:List Int):(prs a b).length=a.length * b.length:=by
 induction a with
 | nil=>simp [prs]
 | cons x a ih =>
   have:prs (x :: a) b=b.map (x + ·) ++ prs a b:=rfl
   rw [this,List.length_append,List.length_map,ih,List.length_cons,Nat.add_mul]
   omega
theorem z5w {a b:List Int} {i k:Nat} (hi:i < a.length) (hk:k < b.length) (h:1114111 < nth a i + nth b k):Rc a b=none:=by
 rw [Rc,if_pos]
 rw [List.any_eq_true]
 exact ⟨_,Re.2 ⟨_,Au hi,_,Au hk,rfl⟩,by simpa [bigB] using h⟩
theorem z5x {a b:List Int} (h:∀ v ∈ prs a b,v ≤ 1114111):Rc a b=some ((prs a b).foldl putI []):=by
 rw [Rc,if_neg]
 simp only [List.any_eq_true,not_exists,not_and,bigB,decide_eq_true_eq]
 intro v hv
 have:=h v hv
 omega
def E2 (m:List Int) (k:Nat):List Int:=((List.range k).filter fun (t:Nat)=>decide ((t:Int) - 1114111 ∈ m)).map fun (t:Nat)=>(t:Int) - 1114111
theorem z2p (m:List Int) (k:Nat):E2 m (k + 1)=if (k:Int) - 1114111 ∈ m then E2 m k ++ [(k:Int) - 1114111] else E2 m k:=by
 rw [E2,List.range_succ,List.filter_append,List.map_append]
 split
 · rename_i h;simp [E2,h]
 · rename_i h;simp [E2,h]
theorem z8y (m:List Int) (k:Nat):(E2 m k).length ≤ k:=by
 have:=List.length_filter_le (fun t:Nat=>decide ((t:Int) - 1114111 ∈ m)) (List.range k)
 simpa [E2] using this
theorem z8z {m:List Int} {k:Nat} {v:Int}:v ∈ E2 m k ↔ (-1114111 ≤ v∧v < (k:Int) - 1114111)∧v ∈ m:=by
 simp only [E2,List.mem_map,List.mem_filter,List.mem_range,decide_eq_true_eq]
 constructor
 · rintro ⟨t,⟨h1,h2⟩,rfl⟩
   exact ⟨by omega,h2⟩
 · rintro ⟨h1,h2⟩
   exact ⟨(v + 1114111).toNat,⟨by omega,by rw [show (((v + 1114111).toNat:Nat):Int) - 1114111=v by omega];exact h2⟩,by omega⟩
theorem Wp (m:List Int) (k:Nat):Br (E2 m k):=by
 rw [Br,E2,List.pairwise_map]
 exact ((List.pairwise_lt_range).filter _).imp fun h=>by omega
theorem z90 (a b:List Int) (hla:a.length ≤ 3000000) (hlb:b.length ≤ 3000000) (ha:∀ x ∈ a,-1114111 ≤ x∧x ≤ 1099511627776) (hb:∀ x ∈ b,0 ≤ x∧x ≤ 1099511627776) :
   PC Tryz.prog 124 [C2 a,C2 b] (optL (Rc a b)):=by
 have pa:Ay (a.map (AV.int .i64))=true:=Cw .i64 a
 have pb:Ay (b.map (AV.int .i64))=true:=Cw .i64 b
 have hmul:((a.length * b.length:Nat):Int)=(a.length:Int) * b.length:=by push_cast
 have hml:a.length * b.length ≤ 3000000 * 3000000:=Nat.mul_le_mul hla hlb
 have hw:IntKind.i64.wrap ((a.length:Int) * b.length)=(a.length:Int) * b.length:=IntWalk.i64_in _ (by omega)
 refine A9 Yv ?_
 unfold Nt
 generalize hN:(2228223:Int)=N
 (repeat' (first|(simp (disch:=omega) only [push_cast,↓zz,seval,hw])|(with_reducible first|refine And.intro ?_ ?_|(first|refine Ab ?_ ?_|refine Aa ?_ ?_)<;>intro hc<;>(try simp only [push_cast] at hc))|omega|with_reducible intro _))
 · have h4:a.length * b.length ≤ 4000:=by
     rw [← hmul] at hc
     omega
   refine Ao (Ap (fun (s:Nat × List Int)=>s.1 ≤ a.length∧s.2=(prs (a.take s.1) b).foldl putI []∧∀ v ∈ prs (a.take s.1) b,v ≤ 1114111) (fun s=>a.length - s.1)
     (fun s=>[(0,C2 a),(1,C2 b),(6,.ref 0 1 0 s.2.length),(7,.int .i64 s.1)]) (fun s=>[⟨1,1,false,s.2.map (AV.int .i64)⟩]) (fun env _=>[Aw 1 (env 6)]) (0,[]) ⟨by simp,rfl,by simp [prs]⟩ ?_ ?_)
   · (repeat' (first|(simp (disch:=omega) only [push_cast,↓zz,seval,pa,pb])|(with_reducible first|refine And.intro ?_ ?_|(first|refine Ab ?_ ?_|refine Aa ?_ ?_)<;>intro hc<;>(try simp only [push_cast] at hc))|omega|with_reducible intro _))
   rintro ⟨i,out⟩ ⟨i1,i2,i3⟩
   simp only at i1 i2 i3
   rcases Nat.lt_or_ge i a.length with hi|hi
   · have hx:=ha _ (Au hi)
     have hsn:=z5v (b:=b) hi
     refine W_T ?_
     (repeat' (first|(simp (disch:=omega) only [push_cast,↓zz,seval,pa,pb])|(with_reducible first|refine And.intro ?_ ?_|(first|refine Ab ?_ ?_|refine Aa ?_ ?_)<;>intro hc<;>(try simp only [push_cast] at hc))|omega|with_reducible intro _))
     refine Ao (Ap (fun (s:Nat × List Int)=>s.1 ≤ b.length∧s.2=(prs (a.take i) b ++ (b.take s.1).map (nth a i + ·)).foldl putI []∧∀ v ∈ prs (a.take i) b ++ (b.take s.1).map (nth a i + ·),v ≤ 1114111) (fun s=>b.length - s.1)
       (fun s=>[(0,C2 a),(1,C2 b),(6,.ref 0 1 0 s.2.length),(7,.int .i64 i),(8,.int .i64 s.1)]) (fun s=>[⟨1,1,false,s.2.map (AV.int .i64)⟩]) (fun env _=>[Aw 1 (env 6)]) (0,out) ⟨by simp,by simpa using i2,by simpa using i3⟩ ?_ ?_)
     · (repeat' (first|(simp (disch:=omega) only [push_cast,↓zz,seval,pa,pb])|(with_reducible first|refine And.intro ?_ ?_|(first|refine Ab ?_ ?_|refine Aa ?_ ?_)<;>intro hc<;>(try simp only [push_cast] at hc))|omega|with_reducible intro _))
     rintro ⟨k,o⟩ ⟨k1,k2,k3⟩
     simp only at k1 k2 k3
     rcases Nat.lt_or_ge k b.length with hk|hk
     · have hy:=hb _ (Au hk)
       have hno:=fun h=>z5w hi hk h
       have hst:(b.take (k + 1)).map (nth a i + ·)=(b.take k).map (nth a i + ·) ++ [nth a i + nth b k]:=by rw [take_at hk];simp
       obtain ⟨f1,f2,_⟩:=I9 (prs (a.take i) b ++ (b.take k).map (nth a i + ·)) [] (by simp [Br])
       rw [← k2] at f1 f2
       have hol:o.length ≤ 10000000000:=by
         have h1:=znp (a.take i) b
         have h2:(a.take i).length * b.length ≤ a.length * b.length:=Nat.mul_le_mul_right _ (by simp;omega)
         simp only [List.length_append,List.length_map,List.length_nil,List.length_take] at f2 h1 h2
         omega
       generalize hxe:nth a i=x at *
       generalize hye:nth b k=y at *
       have hws:IntKind.i64.wrap (x + y)=x + y:=IntWalk.i64_in _ (by omega)
       refine W_T ?_
       (repeat' (first|(simp (disch:=omega) only [push_cast,↓zz,seval,pa,pb,hxe,hye,hws])|(with_reducible first|refine And.intro ?_ ?_|(first|refine Ab ?_ ?_|refine Aa ?_ ?_)<;>intro hc<;>(try simp only [push_cast] at hc))|omega|with_reducible intro _))
       · rw [hno (by assumption)]
         (repeat' (first|(simp (disch:=omega) only [push_cast,↓zz,seval,Bo])|omega|(with_reducible refine And.intro ?_ ?_)))
       · (refine Hv [0] (Zx 1 o (x + y) f1 (by omega)) (by decide) (by simp) (by (simp (disch:=omega) only [push_cast,↓zz,seval])) (by (simp (disch:=omega) only [push_cast,↓zz,seval])) (by (simp (disch:=omega) only [push_cast,↓zz,seval])) (by (simp (disch:=omega) only [push_cast,↓zz,seval,List.mem_cons,List.not_mem_nil,or_false,forall_eq_or_imp,forall_eq,List.forall_mem_nil])) ?_)
         rintro y' H' ⟨v',rfl,rfl⟩
         refine ⟨_,rfl,by simp,?_⟩
         (repeat' (first|(simp (disch:=omega) only [push_cast,↓zz,seval])|(with_reducible first|refine And.intro ?_ ?_|(first|refine Ab ?_ ?_|refine Aa ?_ ?_)<;>intro hc<;>(try simp only [push_cast] at hc))|omega|with_reducible intro _))
         have hm:prs (a.take i) b ++ ((b.take k).map (x + ·) ++ [x + y])=(prs (a.take i) b ++ (b.take k).map (x + ·)) ++ [x + y]:=by rw [List.append_assoc]
         refine ⟨(k + 1,putI o (x + y)),⟨⟨rfl,by push_cast⟩,A6 _ _⟩,⟨by simp only;omega,?_,?_⟩,by simp only;omega⟩
         · rw [hst,hm,List.foldl_append,← k2];rfl
         · rw [hst,hm]
           intro v hv
           rcases List.mem_append.1 hv with hv|hv
           · exact k3 v hv
           · simp only [List.mem_singleton] at hv;omega
     · have hkb:b.take k=b:=List.take_of_length_le hk
       rw [hkb,← hsn] at k2 k3
       refine W_T ?_
       (repeat' (first|(simp (disch:=omega) only [push_cast,↓zz,seval,pa,pb])|(with_reducible first|refine And.intro ?_ ?_|(first|refine Ab ?_ ?_|refine Aa ?_ ?_)<;>intro hc<;>(try simp only [push_cast] at hc))|omega|with_reducible intro _))
       all_goals exact ⟨(i + 1,o),⟨⟨rfl,by push_cast⟩,A6 _ _⟩,⟨by simp only;omega,k2,k3⟩,by simp only;omega⟩
   · have hia:a.take i=a:=List.take_of_length_le hi
     rw [hia] at i2 i3
     have hres:=z5x i3
     rw [← i2] at hres
     rw [hres]
     refine W_T ?_
     (repeat' (first|(simp (disch:=omega) only [push_cast,↓zz,seval,pa,pb])|(with_reducible first|refine And.intro ?_ ?_|(first|refine Ab ?_ ?_|refine Aa ?_ ?_)<;>intro hc<;>(try simp only [push_cast] at hc))|omega|with_reducible intro _))
     all_goals (simp only [optL,Option.getD_some,Option.isSome_some];(repeat' (first|(simp (disch:=omega) only [push_cast,↓zz,seval,Bo])|omega|(with_reducible refine And.intro ?_ ?_))))
 · obtain ⟨n,hn⟩:∃ n:Nat,N=n:=⟨N.toNat,by omega⟩
   subst hn
   have pB:∀ f,Ay (famB n f)=true:=fun f=>Cc.2 fun x hx=>by
     obtain ⟨i,_,rfl⟩:=List.mem_map.1 hx
     rfl
   have lB:∀ f,(famB n f).length=n:=fun f=>by simp [famB]
   have aB:∀ f i,i < n→(famB n f).getD i .any=.bool (f i):=fun f i hi=>Bq hi
   have rB:=z5u n
   refine Ao (Ap (fun (i:Nat)=>i ≤ a.length∧∀ v ∈ prs (a.take i) b,v ≤ 1114111) (fun i=>a.length - i)
     (fun i=>[(0,C2 a),(1,C2 b),(9,.ref 0 1 0 n),(10,.int .i64 i)]) (fun i=>[⟨1,1,true,famB n fun t=>decide ((t:Int) - 1114111 ∈ prs (a.take i) b)⟩]) (fun env _=>[Aw 1 (env 9)]) 0 ⟨by simp,by simp [prs]⟩ ?_ ?_)
   · have e0:(famB n fun t=>decide ((t:Int) - 1114111 ∈ prs [] b))=famB n fun _=>false:=Fo fun t _=>by simp [prs]
     (repeat' (first|(simp (disch:=omega) only [push_cast,↓zz,seval,pa,pb,rB,pB,lB,e0,Int.toNat_natCast])|(with_reducible first|refine And.intro ?_ ?_|(first|refine Ab ?_ ?_|refine Aa ?_ ?_)<;>intro hc<;>(try simp only [push_cast] at hc))|omega|with_reducible intro _))
     all_goals
       show leSL _ (famB n fun _=>false) (famB n fun t=>decide ((t:Int) - 1114111 ∈ prs [] b))
       rw [e0]
       exact A6 _ _
   rintro i ⟨i1,i3⟩
   rcases Nat.lt_or_ge i a.length with hi|hi
   · have hx:=ha _ (Au hi)
     have hsn:=z5v (b:=b) hi
     refine W_T ?_
     (repeat' (first|(simp (disch:=omega) only [push_cast,↓zz,seval,pa,pb,pB,lB])|(with_reducible first|refine And.intro ?_ ?_|(first|refine Ab ?_ ?_|refine Aa ?_ ?_)<;>intro hc<;>(try simp only [push_cast] at hc))|omega|with_reducible intro _))
     refine Ao (Ap (fun (k:Nat)=>k ≤ b.length∧∀ v ∈ prs (a.take i) b ++ (b.take k).map (nth a i + ·),v ≤ 1114111) (fun k=>b.length - k)
       (fun k=>[(0,C2 a),(1,C2 b),(9,.ref 0 1 0 n),(10,.int .i64 i),(11,.int .i64 k)]) (fun k=>[⟨1,1,true,famB n fun t=>decide ((t:Int) - 1114111 ∈ prs (a.take i) b ++ (b.take k).map (nth a i + ·))⟩]) (fun env _=>[Aw 1 (env 9)]) 0 ⟨by simp,by simpa using i3⟩ ?_ ?_)
     · have e0:(famB n fun t=>decide ((t:Int) - 1114111 ∈ prs (a.take i) b ++ []))=famB n fun t=>decide ((t:Int) - 1114111 ∈ prs (a.take i) b):=by rw [List.append_nil]
       (repeat' (first|(simp (disch:=omega) only [push_cast,↓zz,seval,pa,pb,pB,lB,e0,List.take_zero,List.map_nil])|(with_reducible first|refine And.intro ?_ ?_|(first|refine Ab ?_ ?_|refine Aa ?_ ?_)<;>intro hc<;>(try simp only [push_cast] at hc))|omega|with_reducible intro _))
     rintro k ⟨k1,k3⟩
     rcases Nat.lt_or_ge k b.length with hk|hk
     · have hy:=hb _ (Au hk)
       have hno:=fun h=>z5w hi hk h
       have hst:(b.take (k + 1)).map (nth a i + ·)=(b.take k).map (nth a i + ·) ++ [nth a i + nth b k]:=by rw [take_at hk];simp
       generalize hxe:nth a i=x at *
       generalize hye:nth b k=y at *
       have hws:IntKind.i64.wrap (x + y)=x + y:=IntWalk.i64_in _ (by omega)
       have hws2:IntKind.i64.wrap (x + y + 1114111)=x + y + 1114111:=IntWalk.i64_in _ (by omega)
       by_cases hbg:1114111 < x + y
       · rw [hno hbg]
         refine W_T ?_
         (repeat' (first|(simp (disch:=omega) only [push_cast,↓zz,seval,pa,pb,pB,lB,hxe,hye,hws])|(with_reducible first|refine And.intro ?_ ?_|(first|refine Ab ?_ ?_|refine Aa ?_ ?_)<;>intro hc<;>(try simp only [push_cast] at hc))|omega|with_reducible intro _))
         all_goals (repeat' (first|(simp (disch:=omega) only [push_cast,↓zz,seval,Bo])|omega|(with_reducible refine And.intro ?_ ?_)))
       · obtain ⟨t,ht⟩:∃ t:Nat,x + y + 1114111=t:=⟨(x + y + 1114111).toNat,by omega⟩
         have htn:t < n:=by omega
         have hset:=Wo (f:=fun t=>decide ((t:Int) - 1114111 ∈ prs (a.take i) b ++ (b.take k).map (x + ·))) (x:=true) htn
         have he:(famB n fun j=>if j=t then true else decide ((j:Int) - 1114111 ∈ prs (a.take i) b ++ (b.take k).map (x + ·)))=famB n fun j=>decide ((j:Int) - 1114111 ∈ prs (a.take i) b ++ (b.take (k + 1)).map (x + ·)):=Fo fun j _=>by
           rw [hst,← List.append_assoc]
           by_cases h:j=t
           · subst h
             rw [if_pos rfl,eq_comm,decide_eq_true_eq,List.mem_append]
             exact .inr (by simp;omega)
           · rw [if_neg h,decide_eq_decide,List.mem_append (s:=prs (a.take i) b ++ (b.take k).map (x + ·))]
             simp only [List.mem_singleton]
             exact ⟨.inl,fun hh=>hh.elim id fun hh=>absurd hh (by omega)⟩
         rw [he] at hset
         refine W_T ?_
         (repeat' (first|(simp (disch:=omega) only [push_cast,↓zz,seval,pa,pb,pB,lB,hxe,hye,hws,hws2,ht,hset])|(with_reducible first|refine And.intro ?_ ?_|(first|refine Ab ?_ ?_|refine Aa ?_ ?_)<;>intro hc<;>(try simp only [push_cast] at hc))|omega|with_reducible intro _))
         all_goals
           refine ⟨k + 1,?_⟩
           (repeat' (first|(simp (disch:=omega) only [push_cast,↓zz,seval])|(with_reducible first|refine And.intro ?_ ?_|(first|refine Ab ?_ ?_|refine Aa ?_ ?_)<;>intro hc<;>(try simp only [push_cast] at hc))|omega|with_reducible intro _))
         all_goals
           rename_i v hv
           rw [hst,← List.append_assoc] at hv
           rcases List.mem_append.1 hv with hv|hv
           · exact k3 v hv
           · simp only [List.mem_singleton] at hv;omega
     · have hkb:b.take k=b:=List.take_of_length_le hk
       rw [hkb,← hsn] at k3
       rw [hkb,← hsn]
       refine W_T ?_
       (repeat' (first|(simp (disch:=omega) only [push_cast,↓zz,seval,pa,pb,pB,lB])|(with_reducible first|refine And.intro ?_ ?_|(first|refine Ab ?_ ?_|refine Aa ?_ ?_)<;>intro hc<;>(try simp only [push_cast] at hc))|omega|with_reducible intro _))
       all_goals
         refine ⟨i + 1,?_⟩
         (repeat' (first|(simp (disch:=omega) only [push_cast,↓zz,seval])|(with_reducible first|refine And.intro ?_ ?_|(first|refine Ab ?_ ?_|refine Aa ?_ ?_)<;>intro hc<;>(try simp only [push_cast] at hc))|omega|with_reducible intro _))
       all_goals exact k3
   · have hia:a.take i=a:=List.take_of_length_le hi
     rw [hia] at i3
     have hres:=z5x i3
     have hmem:∀ v,v ∈ prs a b→-1114111 ≤ v∧v ≤ 1114111:=fun v hv=>by
       obtain ⟨x,hx,y,hy,rfl⟩:=Re.1 hv
       have h1:=ha x hx
       have h2:=hb y hy
       have h3:=i3 _ hv
       omega
     rw [hia]
     refine W_T ?_
     (repeat' (first|(simp (disch:=omega) only [push_cast,↓zz,seval,pa,pb,pB,lB])|(with_reducible first|refine And.intro ?_ ?_|(first|refine Ab ?_ ?_|refine Aa ?_ ?_)<;>intro hc<;>(try simp only [push_cast] at hc))|omega|with_reducible intro _))
     have lG:∀ k,k ≤ n→(E2 (prs a b) k).length ≤ k:=fun k _=>z8y _ k
     refine Ao (Ap (fun (k:Nat)=>k ≤ n) (fun k=>n - k)
       (fun k=>[(9,.ref 0 1 0 n),(12,.ref 1 1 0 (E2 (prs a b) k).length),(13,.int .i64 k)]) (fun k=>[⟨1,1,true,famB n fun t=>decide ((t:Int) - 1114111 ∈ prs a b)⟩,⟨1,1,false,(E2 (prs a b) k).map (AV.int .i64)⟩]) (fun env _=>[Aw 1 (env 9),Aw 1 (env 12)]) 0 (by simp) ?_ ?_)
     · have e0:E2 (prs a b) 0=[]:=rfl
       (repeat' (first|(simp (disch:=omega) only [push_cast,↓zz,seval,pB,lB,e0])|(with_reducible first|refine And.intro ?_ ?_|(first|refine Ab ?_ ?_|refine Aa ?_ ?_)<;>intro hc<;>(try simp only [push_cast] at hc))|omega|with_reducible intro _))
     intro k hk
     have hlk:=lG k hk
     rcases Nat.lt_or_ge k n with hkn|hkn
     · have aK:=aB (fun t=>decide ((t:Int) - 1114111 ∈ prs a b)) k hkn
       have hst:=z2p (prs a b) k
       have hwk:IntKind.i64.wrap ((k:Int) - 1114111)=(k:Int) - 1114111:=IntWalk.i64_in _ (by omega)
       by_cases hm:(k:Int) - 1114111 ∈ prs a b
       · rw [if_pos hm] at hst
         rw [decide_eq_true hm] at aK
         refine W_T ?_
         (repeat' (first|(simp (disch:=omega) only [push_cast,↓zz,seval,pB,lB,aK,hwk])|(with_reducible first|refine And.intro ?_ ?_|(first|refine Ab ?_ ?_|refine Aa ?_ ?_)<;>intro hc<;>(try simp only [push_cast] at hc))|omega|with_reducible intro _))
         all_goals
           refine ⟨k + 1,?_⟩
           (repeat' (first|(simp (disch:=omega) only [push_cast,↓zz,seval,hst])|(with_reducible first|refine And.intro ?_ ?_|(first|refine Ab ?_ ?_|refine Aa ?_ ?_)<;>intro hc<;>(try simp only [push_cast] at hc))|omega|with_reducible intro _))
       · rw [if_neg hm] at hst
         rw [decide_eq_false hm] at aK
         refine W_T ?_
         (repeat' (first|(simp (disch:=omega) only [push_cast,↓zz,seval,pB,lB,aK,hwk])|(with_reducible first|refine And.intro ?_ ?_|(first|refine Ab ?_ ?_|refine Aa ?_ ?_)<;>intro hc<;>(try simp only [push_cast] at hc))|omega|with_reducible intro _))
         all_goals
           refine ⟨k + 1,?_⟩
           (repeat' (first|(simp (disch:=omega) only [push_cast,↓zz,seval,hst])|(with_reducible first|refine And.intro ?_ ?_|(first|refine Ab ?_ ?_|refine Aa ?_ ?_)<;>intro hc<;>(try simp only [push_cast] at hc))|omega|with_reducible intro _))
     · have hke:k=n:=by omega
       subst hke
       have heq:E2 (prs a b) k=(prs a b).foldl putI []:=by
         obtain ⟨f1,_,f3⟩:=I9 (prs a b) [] (by simp [Br])
         refine Tx (Wp _ _) f1 fun v=>?_
         rw [z8z,f3]
         simp only [List.not_mem_nil,false_or]
         constructor
         · exact fun h=>h.2
         · intro h
           have:=hmem v h
           exact ⟨by omega,h⟩
       have hpo:Ay ((E2 (prs a b) k).map (AV.int .i64))=true:=Cw .i64 _
       rw [heq] at hpo hlk ⊢
       rw [hres]
       refine W_T ?_
       (repeat' (first|(simp (disch:=omega) only [push_cast,↓zz,seval,pB,lB,hpo])|(with_reducible first|refine And.intro ?_ ?_|(first|refine Ab ?_ ?_|refine Aa ?_ ?_)<;>intro hc<;>(try simp only [push_cast] at hc))|omega|with_reducible intro _))
       all_goals (simp only [optL,Option.getD_some,Option.isSome_some];(repeat' (first|(simp (disch:=omega) only [push_cast,↓zz,seval,Bo])|omega|(with_reducible refine And.intro ?_ ?_))))
theorem N4 (s:Int):PC Tryz.prog 81 [.int .i64 s] (Ad (domL s)):=by
 refine A9 Rx ?_
 unfold Jn
 (repeat' (first|(simp (disch:=omega) only [push_cast,↓zz,seval])|(with_reducible first|refine And.intro ?_ ?_|(first|refine Ab ?_ ?_|refine Aa ?_ ?_)<;>intro hc<;>(try simp only [push_cast] at hc))|omega|with_reducible intro _))
 all_goals (simp only [domL, *];rfl)
theorem z91 (l:List Span) (d:Int) (hl:l.length ≤ 10000000000):PC Tryz.prog 121 [Ad l,.int .i64 d] (Ad (Dw l d)):=by
 have hN:=I3 l hl
 have hz:(d < -2147483648 ∨ 2147483648 < d)→Dw l d=[]:=fun h=>by rw [Dw,if_pos h]
 refine A9 Yu ?_
 unfold Ns
 by_cases hb:d < -2147483648 ∨ 2147483648 < d
 · rw [hz hb]
   (repeat' (first|(simp (disch:=omega) only [push_cast,↓zz,seval])|(with_reducible first|refine And.intro ?_ ?_|(first|refine Ab ?_ ?_|refine Aa ?_ ?_)<;>intro hc<;>(try simp only [push_cast] at hc))|omega|with_reducible intro _))
   all_goals first
     | (exfalso;omega)
     | ((repeat' (first|(simp (disch:=omega) only [push_cast,↓zz,seval,Bo])|omega|(with_reducible refine And.intro ?_ ?_)));done)
 have hbd:=C8 l
 have hmv:Dw l d=Ar ((Ar l).map (Dy d)):=by rw [Dw,if_neg hb]
 have hnl:(Ar l).length ≤ 10000000000:=Nat.le_trans (Dd l) hl
 have hM:=I3 ((Ar l).map (Dy d)) (by simpa using hnl)
 rw [hmv]
 generalize Ar l=m at *
 obtain ⟨g,g0,gs,ge,gl⟩:=zdi ([]:List Span) m (Dy d)
 (repeat' (first|(simp (disch:=omega) only [push_cast,↓zz,seval])|(with_reducible first|refine And.intro ?_ ?_|(first|refine Ab ?_ ?_|refine Aa ?_ ?_)<;>intro hc<;>(try simp only [push_cast] at hc)|refine eK hN ?_|refine eQ hN ?_|refine eG hN ?_)|((with_reducible first|refine cK hN ?_|refine cQ hN ?_|refine cG hN ?_);(simp (disch:=omega) only [push_cast,↓zz,seval]);(fail_if_success with_reducible change False))|omega|with_reducible intro _))
 refine Ao (Ap (fun (k:Nat)=>k ≤ m.length) (fun k=>m.length - k) (fun k=>[(1,.int .i64 d),(5,Ad m),(6,.ref 0 1 0 (g k).length),(7,.int .i64 k)]) (fun k=>[⟨2,1,false,(g k).map Bt⟩]) (fun env _=>[Aw 2 (env 6)]) 0 (by simp) ?_ ?_)
 · (repeat' (first|(simp (disch:=omega) only [push_cast,↓zz,seval,g0])|(with_reducible first|refine And.intro ?_ ?_|(first|refine Ab ?_ ?_|refine Aa ?_ ?_)<;>intro hc<;>(try simp only [push_cast] at hc))|omega|with_reducible intro _))
 intro k hk
 have gk:=gl k
 simp only [List.length_nil] at gk
 have hgp:=Cf (g k)
 have hpm:=Cf m
 rcases Nat.lt_or_ge k m.length with hkm|hkm
 · have hx:=hbd _ (Au hkm)
   have e1:=gs k hkm
   generalize hxe:nth m k=x at *
   have w1:IntKind.i64.wrap (x.lo + d)=x.lo + d:=IntWalk.i64_in _ (by omega)
   have w2:IntKind.i64.wrap (x.hi + d)=x.hi + d:=IntWalk.i64_in _ (by omega)
   refine W_T ?_
   (repeat' (first|(simp (disch:=omega) only [push_cast,↓zz,seval,hpm,hxe,w1,w2])|(with_reducible first|refine And.intro ?_ ?_|(first|refine Ab ?_ ?_|refine Aa ?_ ?_)<;>intro hc<;>(try simp only [push_cast] at hc))|omega|with_reducible intro _))
   all_goals
     refine ⟨k + 1,?_⟩
     (repeat' (first|(simp (disch:=omega) only [push_cast,↓zz,seval,e1,Dy])|(with_reducible first|refine And.intro ?_ ?_|(first|refine Ab ?_ ?_|refine Aa ?_ ?_)<;>intro hc<;>(try simp only [push_cast] at hc))|omega|with_reducible intro _))
 · obtain rfl:k=m.length:=by omega
   have hge:g m.length=m.map (Dy d):=by rw [ge];simp
   rw [hge] at *
   have et:List.take m.length (m.map (Dy d))=m.map (Dy d):=List.take_of_length_le (by simp)
   refine W_T ?_
   (repeat' (first|(simp (disch:=omega) only [push_cast,↓zz,seval,hpm,hgp,et])|(with_reducible first|refine And.intro ?_ ?_|(first|refine Ab ?_ ?_|refine Aa ?_ ?_)<;>intro hc<;>(try simp only [push_cast] at hc)|refine eK hM ?_|refine eQ hM ?_|refine eG hM ?_)|((with_reducible first|refine cK hM ?_|refine cQ hM ?_|refine cG hM ?_);(simp (disch:=omega) only [push_cast,↓zz,seval,hpm,hgp,et]);(fail_if_success with_reducible change False))|omega|with_reducible intro _))
def inG (g:List Span) (k:Nat):List Int:=((List.range k).filter fun (x:Nat)=>hasI g (x:Int)).map fun (x:Nat)=>(x:Int)
theorem z5y (g:List Span) (k:Nat):inG g (k + 1)=if hasI g (k:Int) then inG g k ++ [(k:Int)] else inG g k:=by
 rw [inG,List.range_succ,List.filter_append,List.map_append]
 split
 · rename_i h;simp [inG,h]
 · rename_i h;simp [inG,h]
theorem znq (g:List Span) (k:Nat):(inG g k).length ≤ k:=by
 have:=List.length_filter_le (fun (x:Nat)=>hasI g (x:Int)) (List.range k)
 simpa [inG] using this
theorem zdo {g:List Span} {k:Nat} {v:Int}:v ∈ inG g k ↔ (0 ≤ v∧v < k)∧hasI g v=true:=by
 simp only [inG,List.mem_map,List.mem_filter,List.mem_range]
 constructor
 · rintro ⟨t,⟨h1,h2⟩,rfl⟩
   exact ⟨by omega,h2⟩
 · rintro ⟨h1,h2⟩
   exact ⟨v.toNat,⟨by omega,by rw [show ((v.toNat:Nat):Int)=v by omega];exact h2⟩,by omega⟩
def ownL (ps:List Part) (a:Int) (g:List Span) (k:Nat):List Int:=((inG g k).map (totV (atL ps a))).foldl putI []
def Jh (ps:List Part) (a:Int) (g:List Span) (k:Nat):Bool:=decide (inG g k ≠ []) && decide (atL ps a ≠ [])
def topI (i:Int):Nat:=if i=1 then 256 else 0
def nowR (t:Term) (i:Int):List (List Span)→Nat→List Int→Option (List Int)
 | [],_,now=>some now
 | g :: gs,k,now=>if Jh t.parts k g (topI i) then (Rc now (ownL t.parts k g (topI i))).bind (nowR t i gs (k + 1)) else nowR t i gs (k + 1) now
def Eg (t:Term) (i:Int) (gs:List (List Span)):List Span × Bool :=
 if i=2∧t.parts.length=1 then
   (Dw (Ar (nth gs (nth t.parts 0).at_.toNat)) t.sum,decide (0 ≤ (nth (Dw (Ar (nth gs (nth t.parts 0).at_.toNat)) t.sum) 0).lo) && decide ((nth (Dw (Ar (nth gs (nth t.parts 0).at_.toNat)) t.sum) ((Dw (Ar (nth gs (nth t.parts 0).at_.toNat)) t.sum).length - 1)).hi ≤ 1114111))
 else match nowR t i gs 0 [t.sum] with
   | none=>([],false)
   | some now=>(Ju now,decide (0 ≤ nth now 0) && decide (nth now (now.length - 1) ≤ 1114111))
structure GOk (i:Int) (gs:List (List Span)):Prop where
 len:gs.length ≤ 4
 short:∀ g ∈ gs,g.length ≤ 64
 some:∀ g ∈ gs,∃ v,memL g v
 dom:∀ g ∈ gs,∀ v,memL g v→Q6 i v=true
theorem zif {ps:List Part} {a:Int} {k:Nat} (h:k < ps.length):atL (ps.take (k + 1)) a=if (nth ps k).at_=a then atL (ps.take k) a ++ [nth ps k] else atL (ps.take k) a:=by
 rw [take_at h,atL,atL,List.filter_append]
 split
 · rename_i h;simp [h]
 · rename_i h;simp [h]
theorem Tz:∀ {l:List Int} {a b:Int},Br l→(∀ x ∈ l,a ≤ x∧x ≤ b)→a ≤ b + 1→(l.length:Int) ≤ b - a + 1
 | [],a,b,_,_,h=>by simp;omega
 | x :: l,a,b,hr,hm,h=>by
   obtain ⟨r1,r2⟩:=List.pairwise_cons.1 hr
   have hx:=hm x (by simp)
   have:=Tz (a:=x + 1) (b:=b) r2 (fun y hy=>by have:=r1 y hy;have:=hm y (by simp [hy]);omega) (by omega)
   push_cast [List.length_cons]
   omega
structure z2q (now:List Int):Prop where
 ris:Br now
 bd:∀ x ∈ now,-1114111 ≤ x∧x ≤ 1114111
 pos:0 < now.length
theorem z2q.len {now:List Int} (h:z2q now):now.length ≤ 2228223:=by
 have:=Tz h.ris h.bd (by omega)
 omega
theorem zdp {a b m:List Int} (ha:z2q a) (hb:∀ x ∈ b,0 ≤ x) (hp:0 < b.length) (h:Rc a b=some m):z2q m∧∀ v,v ∈ m ↔ ∃ x ∈ a,∃ y ∈ b,x + y=v:=by
 rw [Rc] at h
 split at h
 · cases h
 · rename_i hn
   injection h with h
   subst h
   obtain ⟨f1,f2,f3⟩:=I9 (prs a b) [] (by simp [Br])
   have hmem:∀ v,v ∈ (prs a b).foldl putI [] ↔ ∃ x ∈ a,∃ y ∈ b,x + y=v:=fun v=>by rw [f3,← Re];simp
   refine ⟨⟨f1,fun v hv=>?_,?_⟩,hmem⟩
   · obtain ⟨x,hx,y,hy,rfl⟩:=(hmem v).1 hv
     have h1:=ha.bd x hx
     have h2:=hb y hy
     have h3:¬ 1114111 < x + y:=fun h=>hn (List.any_eq_true.2 ⟨x + y,Re.2 ⟨x,hx,y,hy,rfl⟩,by simpa [bigB] using h⟩)
     omega
   · refine List.length_pos_iff.2 fun h0=>?_
     have h1:=(hmem (nth a 0 + nth b 0)).2 ⟨_,Au ha.pos,_,Au hp,rfl⟩
     rw [h0] at h1
     cases h1
theorem zdq {ps:List Part} {a:Int} {g:List Span} {k:Nat} (hk:k ≤ 256) (hl:ps.length ≤ 4) (hb:∀ p ∈ ps,Dg p=true) :
   Br (ownL ps a g k)∧(ownL ps a g k).length ≤ 256∧(∀ v,v ∈ ownL ps a g k ↔ ∃ x ∈ inG g k,totV (atL ps a) x=v)∧∀ v ∈ ownL ps a g k,0 ≤ v∧v ≤ 264241152:=by
 obtain ⟨f1,f2,f3⟩:=I9 ((inG g k).map (totV (atL ps a))) [] (by simp [Br])
 have hlen:=znq g k
 simp only [List.length_nil,List.length_map] at f2
 have hmem:∀ v,v ∈ ownL ps a g k ↔ ∃ x ∈ inG g k,totV (atL ps a) x=v:=fun v=>by rw [ownL,f3];simp
 refine ⟨f1,by rw [ownL];omega,hmem,fun v hv=>?_⟩
 obtain ⟨x,hx,rfl⟩:=(hmem v).1 hv
 have hx2:=(zdo.1 hx).1
 have hal:(atL ps a).length ≤ 4:=Nat.le_trans (List.length_filter_le _ _) hl
 have:=Ia (x:=x) (by omega) (l:=atL ps a) (fun p hp=>hb p (List.mem_filter.1 hp).1)
 have h2:((atL ps a).length:Int) * 66060288 ≤ 4 * 66060288:=Int.mul_le_mul_of_nonneg_right (by omega) (by omega)
 omega
theorem zdr {ps:List Part} {a:Int} {g:List Span} {k:Nat} (hs:Jh ps a g k=true):0 < (ownL ps a g k).length:=by
 simp only [Jh,Bool.and_eq_true,decide_eq_true_eq] at hs
 obtain ⟨f1,f2,f3⟩:=I9 ((inG g k).map (totV (atL ps a))) [] (by simp [Br])
 obtain ⟨x,hx⟩:=List.exists_mem_of_ne_nil _ hs.1
 exact List.length_pos_of_mem ((f3 _).2 (.inr (List.mem_map_of_mem hx)))
theorem zig {ps:List Part} {a:Int} {g:List Span} {k:Nat}:ownL ps a g (k + 1)=if hasI g (k:Int) then putI (ownL ps a g k) (totV (atL ps a) k) else ownL ps a g k:=by
 rw [ownL,z5y]
 split
 · rw [List.map_append,List.foldl_append];rfl
 · rfl
theorem zds {ps:List Part} {a:Int} {g:List Span} {k:Nat}:Jh ps a g (k + 1)=if hasI g (k:Int) then decide (atL ps a ≠ []) else Jh ps a g k:=by
 rw [Jh,z5y]
 split
 · simp
 · rfl
theorem z2r (t:Term) (i o:Int) (gs:List (List Span)) (hr:Er t i o gs.length=true) (hG:GOk i gs) :
   PC Tryz.prog 99 [Bv t,.int .i64 i,Ak gs] (.tup [Ad (Eg t i gs).1,.bool (Eg t i gs).2]):=by
 have hP:=Ae gs
 obtain ⟨hn,hp⟩:=Ep hr
 have hnum:=hn
 simp only [B6,Bool.and_eq_true,decide_eq_true_eq] at hnum
 have hl4:=hnum.2.2
 have hsm:=E6 hnum.1.1.2
 have hrp:∀ p ∈ t.parts,Dj p gs.length=true:=fun p h=>List.all_eq_true.1 hp p h
 have hbp:∀ p ∈ t.parts,Dg p=true:=fun p h=>by have:=hrp p h;simp only [Dj,Bool.and_eq_true] at this;exact this.2
 have hgl:=hG.len
 refine A9 Vj ?_
 unfold K9
 by_cases hone:i=2∧t.parts.length=1
 · have hpp:=hrp _ (Au (l:=t.parts) (i:=0) (by omega))
   have hpa:=Ai hpp
   have hI:Eg t i gs=_:=if_pos hone
   generalize hpe:nth t.parts 0=p at *
   obtain ⟨a,ha⟩:∃ a:Nat,p.at_=a:=⟨p.at_.toNat,by omega⟩
   have hag:a < gs.length:=by omega
   rw [ha,Int.toNat_natCast] at hI
   have hgm:=Au hag
   have hN:=I3 (nth gs a) (by have:=hG.short _ hgm;omega)
   have hM:=z91 (Ar (nth gs a)) t.sum (by have:=hG.short _ hgm;have:=Dd (nth gs a);omega)
   have hpos:0 < (Dw (Ar (nth gs a)) t.sum).length:=by
     obtain ⟨v,hv⟩:=hG.some _ hgm
     have hv2:=Om (hG.dom _ hgm v hv)
     have h1:memL (Ar (nth gs a)) v:=((Aq (nth gs a)).2 v).2 ⟨hv,by omega⟩
     have h2:memL (Dw (Ar (nth gs a)) t.sum) (v + t.sum):=(V9 (by omega)).2 ⟨⟨by rw [show v + t.sum - t.sum=v by omega];exact h1,by omega⟩,by omega⟩
     exact List.length_pos_iff.2 (Ke h2)
   have hle:(Dw (Ar (nth gs a)) t.sum).length ≤ 2147483649:=by
     rw [Dw,if_neg (by omega)];exact Hg _
   rw [hI]
   generalize Dw (Ar (nth gs a)) t.sum=l at *
   obtain ⟨m,hm⟩:∃ m,l.length=m + 1:=⟨l.length - 1,by omega⟩
   have hw:IntKind.i64.wrap (m:Int)=m:=IntWalk.i64_in _ (by omega)
   obtain ⟨h2,h1⟩:=hone
   subst h2
   clear hI
   rw [hm,Nat.add_sub_cancel]
   (repeat' (first|(simp (disch:=omega) only [push_cast,↓zz,seval,hP,hpe,ha,h1,hm,hw])|(with_reducible first|refine And.intro ?_ ?_|(first|refine Ab ?_ ?_|refine Aa ?_ ?_)<;>intro hc<;>(try simp only [push_cast] at hc)|refine eK hN ?_|refine eQ hN ?_|refine eG hN ?_|refine eK hM ?_|refine eQ hM ?_|refine eG hM ?_)|((with_reducible first|refine cK hN ?_|refine cQ hN ?_|refine cG hN ?_);(simp (disch:=omega) only [push_cast,↓zz,seval,hP,hpe,ha,h1,hm,hw]);(fail_if_success with_reducible change False))|((with_reducible first|refine cK hM ?_|refine cQ hM ?_|refine cG hM ?_);(simp (disch:=omega) only [push_cast,↓zz,seval,hP,hpe,ha,h1,hm,hw]);(fail_if_success with_reducible change False))|omega|with_reducible intro _))
   all_goals first
     | (rw [decide_eq_true (p:=0 ≤ (nth l 0).lo) (by assumption),Bool.true_and];(repeat' (first|(simp (disch:=omega) only [push_cast,↓zz,seval,Bo])|omega|(with_reducible refine And.intro ?_ ?_)));done)
     | (rw [decide_eq_false (p:=0 ≤ (nth l 0).lo) (by assumption),Bool.false_and];(repeat' (first|(simp (disch:=omega) only [push_cast,↓zz,seval,Bo])|omega|(with_reducible refine And.intro ?_ ?_)));done)
     | trace_state
 have hI:Eg t i gs=match nowR t i gs 0 [t.sum] with
   | none=>([],false)
   | some now=>(Ju now,decide (0 ≤ nth now 0) && decide (nth now (now.length - 1) ≤ 1114111)):=if_neg hone
 have hst:z2q [t.sum]:=⟨by simp [Br],by simp;omega,by simp⟩
 (repeat' (first|(simp (disch:=omega) only [push_cast,↓zz,seval,hP])|(with_reducible first|refine And.intro ?_ ?_|(first|refine Ab ?_ ?_|refine Aa ?_ ?_)<;>intro hc<;>(try simp only [push_cast] at hc))|omega|with_reducible intro _))
 all_goals first
   | (exfalso;omega)
   | skip
 all_goals
   refine Ao (Ap (fun (s:Nat × List Int)=>s.1 ≤ gs.length∧z2q s.2∧nowR t i gs 0 [t.sum]=nowR t i (gs.drop s.1) s.1 s.2) (fun s=>gs.length - s.1)
     (fun s=>[(1,.int .i64 i),(2,Ak gs),(3,.ptr 0 1 0 0),(9,C2 s.2),(10,.int .i64 s.1)]) (fun s=>[⟨6,1,true,[Bv t]⟩]) (fun env _=>[Aw 1 (env 3)]) (0,[t.sum]) ⟨by simp,hst,rfl⟩ ?_ ?_)
   · (repeat' (first|(simp (disch:=omega) only [push_cast,↓zz,seval,hP])|(with_reducible first|refine And.intro ?_ ?_|(first|refine Ab ?_ ?_|refine Aa ?_ ?_)<;>intro hc<;>(try simp only [push_cast] at hc))|omega|with_reducible intro _))
   rintro ⟨k,now⟩ ⟨k1,kn,k2⟩
   simp only at k1 kn k2
   have hnl:=kn.len
   have pN:Ay (now.map (AV.int .i64))=true:=Cw .i64 now
   rcases Nat.lt_or_ge k gs.length with hk|hk
   · rw [drop_at hk,nowR] at k2
     have hgs:=hG.short _ (Au hk)
     generalize hge:nth gs k=g at *
     refine W_T ?_
     (repeat' (first|(simp (disch:=omega) only [push_cast,↓zz,seval,hP,hge])|(with_reducible first|refine And.intro ?_ ?_|(first|refine Ab ?_ ?_|refine Aa ?_ ?_)<;>intro hc<;>(try simp only [push_cast] at hc))|omega|with_reducible intro _))
     refine Ao (Ap (fun (x:Nat)=>x ≤ topI i) (fun x=>topI i - x)
       (fun x=>[(1,.int .i64 i),(2,Ak gs),(3,.ptr 0 1 0 0),(9,C2 now),(10,.int .i64 k),(11,.ref 1 1 0 (ownL t.parts k g x).length),(12,.bool (Jh t.parts k g x)),(13,.int .i64 x)])
       (fun x=>[⟨6,1,true,[Bv t]⟩,⟨1,1,false,(ownL t.parts k g x).map (AV.int .i64)⟩]) (fun env _=>[Aw 1 (env 3),Aw 1 (env 11)]) 0 (by simp) ?_ ?_)
     · have e0:ownL t.parts k g 0=[]:=rfl
       have s0:Jh t.parts k g 0=false:=rfl
       (repeat' (first|(simp (disch:=omega) only [push_cast,↓zz,seval,hP,pN,e0,s0])|(with_reducible first|refine And.intro ?_ ?_|(first|refine Ab ?_ ?_|refine Aa ?_ ?_)<;>intro hc<;>(try simp only [push_cast] at hc))|omega|with_reducible intro _))
     intro x hx
     rcases Nat.lt_or_ge x (topI i) with hxt|hxt
     · have hi:i=1∧x < 256:=by
         unfold topI at hxt
         split at hxt
         · exact ⟨by assumption,hxt⟩
         · omega
       have hie:(i=1)=True:=eq_true hi.1
       have hH:=Qo g x (by omega)
       have hos:=zig (ps:=t.parts) (a:=k) (g:=g) (k:=x)
       have hss:=zds (ps:=t.parts) (a:=k) (g:=g) (k:=x)
       obtain ⟨o1,o2,_,o4⟩:=zdq (a:=(k:Int)) (g:=g) (k:=x) (by omega) hl4 hbp
       have hsa:Jh t.parts k g x=true→decide (atL t.parts k ≠ [])=true:=fun h=>by rw [Jh,Bool.and_eq_true] at h;exact h.2
       generalize ownL t.parts k g x=own at *
       generalize Jh t.parts k g x=sm at *
       cases hh:hasI g (x:Int) with
       | false =>
         rw [hh] at hH
         rw [hh,if_neg (by simp)] at hos hss
         refine W_T ?_
         (repeat' (first|(simp (disch:=omega) only [push_cast,↓zz,seval,hP,hge,hie])|(with_reducible first|refine And.intro ?_ ?_|(first|refine Ab ?_ ?_|refine Aa ?_ ?_)<;>intro hc<;>(try simp only [push_cast] at hc)|refine eK hH ?_|refine eQ hH ?_|refine eG hH ?_)|((with_reducible first|refine cK hH ?_|refine cQ hH ?_|refine cG hH ?_);(simp (disch:=omega) only [push_cast,↓zz,seval,hP,hge,hie]);(fail_if_success with_reducible change False))|omega|with_reducible intro _))
         all_goals
           refine ⟨x + 1,?_⟩
           (repeat' (first|(simp (disch:=omega) only [push_cast,↓zz,seval,hos,hss])|(with_reducible first|refine And.intro ?_ ?_|(first|refine Ab ?_ ?_|refine Aa ?_ ?_)<;>intro hc<;>(try simp only [push_cast] at hc))|omega|with_reducible intro _))
       | true =>
         rw [hh] at hH
         rw [hh,if_pos rfl] at hos hss
         refine W_T ?_
         (repeat' (first|(simp (disch:=omega) only [push_cast,↓zz,seval,hP,hge,hie])|(with_reducible first|refine And.intro ?_ ?_|(first|refine Ab ?_ ?_|refine Aa ?_ ?_)<;>intro hc<;>(try simp only [push_cast] at hc)|refine eK hH ?_|refine eQ hH ?_|refine eG hH ?_)|((with_reducible first|refine cK hH ?_|refine cQ hH ?_|refine cG hH ?_);(simp (disch:=omega) only [push_cast,↓zz,seval,hP,hge,hie]);(fail_if_success with_reducible change False))|omega|with_reducible intro _))
         all_goals
           refine Ao (Ap (fun (j:Nat)=>j ≤ t.parts.length) (fun j=>t.parts.length - j)
             (fun j=>[(1,.int .i64 i),(2,Ak gs),(3,.ptr 0 1 0 0),(9,C2 now),(10,.int .i64 k),(11,.ref 1 1 0 own.length),(12,.bool (sm || decide (atL (t.parts.take j) k ≠ []))),(13,.int .i64 x),(14,.int .i64 (totV (atL (t.parts.take j) k) x)),(15,.int .i64 j)])
             (fun j=>[⟨6,1,true,[Bv t]⟩,⟨1,1,false,own.map (AV.int .i64)⟩]) (fun env _=>[Aw 1 (env 3),Aw 1 (env 11)]) 0 (by simp) ?_ ?_)
           · have e0:atL [] (k:Int)=[]:=rfl
             (repeat' (first|(simp (disch:=omega) only [push_cast,↓zz,seval,hP,pN,e0,Wa,ne_eq,not_true_eq_false,decide_false,Bool.or_false])|(with_reducible first|refine And.intro ?_ ?_|(first|refine Ab ?_ ?_|refine Aa ?_ ?_)<;>intro hc<;>(try simp only [push_cast] at hc))|omega|with_reducible intro _))
           intro j hj
           have hbj:=Ia (x:=(x:Int)) (by omega) (l:=atL (t.parts.take j) k) (fun p hp=>hbp p (List.mem_of_mem_take (List.mem_filter.1 hp).1))
           have hlj:(atL (t.parts.take j) k).length ≤ 4:=Nat.le_trans (List.length_filter_le _ _) (by simp;omega)
           have hmj:((atL (t.parts.take j) k).length:Int) * 66060288 ≤ 4 * 66060288:=Int.mul_le_mul_of_nonneg_right (by omega) (by omega)
           rcases Nat.lt_or_ge j t.parts.length with hjp|hjp
           · have hat:=zif (a:=(k:Int)) hjp
             have hpb:=hbp _ (Au hjp)
             have hV:=z1i (nth t.parts j) x
             have hvs:=Es hpb (x:=(x:Int)) (by omega)
             rw [z1h hpb (by omega)] at hV
             have hpp:=Fp t.parts
             generalize hpe:nth t.parts j=p at *
             generalize atL (t.parts.take j) k=A at *
             have hT:=Zk A p x
             have hw:IntKind.i64.wrap (totV A x + valP p x)=totV A x + valP p x:=IntWalk.i64_in _ (by omega)
             by_cases ha:p.at_=k
             · rw [if_pos ha] at hat
               have hne:decide (¬ (A ++ [p]=[]))=true:=by simp
               refine W_T ?_
               (repeat' (first|(simp (disch:=omega) only [push_cast,↓zz,seval,hP,hpp,hpe,ha,hw])|(with_reducible first|refine And.intro ?_ ?_|(first|refine Ab ?_ ?_|refine Aa ?_ ?_)<;>intro hc<;>(try simp only [push_cast] at hc)|refine eK hV ?_|refine eQ hV ?_|refine eG hV ?_)|((with_reducible first|refine cK hV ?_|refine cQ hV ?_|refine cG hV ?_);(simp (disch:=omega) only [push_cast,↓zz,seval,hP,hpp,hpe,ha,hw]);(fail_if_success with_reducible change False))|omega|with_reducible intro _))
               all_goals
                 refine ⟨j + 1,?_⟩
                 (repeat' (first|(simp (disch:=omega) only [push_cast,↓zz,seval,hat,hT,hne,Bool.or_true])|(with_reducible first|refine And.intro ?_ ?_|(first|refine Ab ?_ ?_|refine Aa ?_ ?_)<;>intro hc<;>(try simp only [push_cast] at hc))|omega|with_reducible intro _))
             · rw [if_neg ha] at hat
               refine W_T ?_
               (repeat' (first|(simp (disch:=omega) only [push_cast,↓zz,seval,hP,hpp,hpe])|(with_reducible first|refine And.intro ?_ ?_|(first|refine Ab ?_ ?_|refine Aa ?_ ?_)<;>intro hc<;>(try simp only [push_cast] at hc))|omega|with_reducible intro _))
               all_goals
                 refine ⟨j + 1,?_⟩
                 (repeat' (first|(simp (disch:=omega) only [push_cast,↓zz,seval,hat])|(with_reducible first|refine And.intro ?_ ?_|(first|refine Ab ?_ ?_|refine Aa ?_ ?_)<;>intro hc<;>(try simp only [push_cast] at hc))|omega|with_reducible intro _))
           · have hjt:t.parts.take j=t.parts:=List.take_of_length_le hjp
             rw [hjt] at *
             have hsm2:(sm || decide (atL t.parts k ≠ []))=Jh t.parts k g (x + 1):=by
               rw [hss]
               cases sm with
               | false=>rfl
               | true=>rw [hsa rfl];rfl
             refine W_T ?_
             (repeat' (first|(simp (disch:=omega) only [push_cast,↓zz,seval,hP])|(with_reducible first|refine And.intro ?_ ?_|(first|refine Ab ?_ ?_|refine Aa ?_ ?_)<;>intro hc<;>(try simp only [push_cast] at hc))|omega|with_reducible intro _))
             (refine Hv [1] (Zx 1 own (totV (atL t.parts k) x) o1 (by omega)) (by decide) (by simp) (by (simp (disch:=omega) only [push_cast,↓zz,seval])) (by (simp (disch:=omega) only [push_cast,↓zz,seval])) (by (simp (disch:=omega) only [push_cast,↓zz,seval])) (by (simp (disch:=omega) only [push_cast,↓zz,seval,List.mem_cons,List.not_mem_nil,or_false,forall_eq_or_imp,forall_eq,List.forall_mem_nil])) ?_)
             rintro y' H' ⟨v',rfl,rfl⟩
             refine ⟨_,rfl,by simp,?_⟩
             (repeat' (first|(simp (disch:=omega) only [push_cast,↓zz,seval])|(with_reducible first|refine And.intro ?_ ?_|(first|refine Ab ?_ ?_|refine Aa ?_ ?_)<;>intro hc<;>(try simp only [push_cast] at hc))|omega|with_reducible intro _))
             refine ⟨x + 1,?_⟩
             (repeat' (first|(simp (disch:=omega) only [push_cast,↓zz,seval,hos,hss,hsm2])|(with_reducible first|refine And.intro ?_ ?_|(first|refine Ab ?_ ?_|refine Aa ?_ ?_)<;>intro hc<;>(try simp only [push_cast] at hc))|omega|with_reducible intro _))
     · have hxe:x=topI i:=by omega
       subst hxe
       have ht:((i=1)=True∧((topI i:Int) < 256)=False) ∨ ((i=1)=False∧((topI i:Int) < 256)=True):=by
         unfold topI
         split
         · exact .inl ⟨eq_true (by assumption),by simp⟩
         · exact .inr ⟨eq_false (by assumption),by simp⟩
       obtain ⟨o1,o2,_,o4⟩:=zdq (a:=(k:Int)) (g:=g) (k:=topI i) (by unfold topI;split<;>omega) hl4 hbp
       have op:=zdr (ps:=t.parts) (a:=k) (g:=g) (k:=topI i)
       generalize ownL t.parts k g (topI i)=own at *
       generalize Jh t.parts k g (topI i)=sm at *
       generalize topI i=n at *
       have hS:=z90 now own (by omega) (by omega) (fun x hx=>by have:=kn.bd x hx;omega) (fun x hx=>by have:=o4 x hx;omega)
       have pO:Ay (own.map (AV.int .i64))=true:=Cw .i64 own
       have eO:List.take own.length (own.map (AV.int .i64))=own.map (AV.int .i64):=List.take_of_length_le (by simp)
       refine W_T ?_
       cases sm with
       | false =>
         rw [if_neg (by simp)] at k2
         rcases ht with ⟨hi,hn2⟩|⟨hi,hn2⟩
         all_goals
           (repeat' (first|(simp (disch:=omega) only [push_cast,↓zz,seval,hP,hge,hi,hn2])|(with_reducible first|refine And.intro ?_ ?_|(first|refine Ab ?_ ?_|refine Aa ?_ ?_)<;>intro hc<;>(try simp only [push_cast] at hc))|omega|with_reducible intro _))
         all_goals
           refine ⟨(k + 1,now),⟨rfl,by push_cast⟩,⟨by simp only;omega,kn,k2⟩,by simp only;omega⟩
       | true =>
         rw [if_pos rfl] at k2
         have hop:=op rfl
         cases hv:Rc now own with
         | none =>
           rw [hv] at hS k2
           rw [hI,k2]
           rcases ht with ⟨hi,hn2⟩|⟨hi,hn2⟩
           all_goals
             (repeat' (first|(simp (disch:=omega) only [push_cast,↓zz,seval,hP,hge,hi,hn2,pN,pO,eO,Option.bind_none])|(with_reducible first|refine And.intro ?_ ?_|(first|refine Ab ?_ ?_|refine Aa ?_ ?_)<;>intro hc<;>(try simp only [push_cast] at hc)|refine eK hS ?_|refine eQ hS ?_|refine eG hS ?_)|((with_reducible first|refine cK hS ?_|refine cQ hS ?_|refine cG hS ?_);(simp (disch:=omega) only [push_cast,↓zz,seval,hP,hge,hi,hn2,pN,pO,eO,Option.bind_none]);(fail_if_success with_reducible change False))|omega|with_reducible intro _))
           all_goals (repeat' (first|(simp (disch:=omega) only [push_cast,↓zz,seval,Bo])|omega|(with_reducible refine And.intro ?_ ?_)))
         | some m =>
           rw [hv,Option.bind_some] at k2
           rw [hv] at hS
           obtain ⟨m1,_⟩:=zdp kn (fun y hy=>(o4 y hy).1) hop hv
           have pM:Ay (m.map (AV.int .i64))=true:=Cw .i64 m
           simp only [optL,Option.getD_some,Option.isSome_some] at hS
           rcases ht with ⟨hi,hn2⟩|⟨hi,hn2⟩
           all_goals
             (repeat' (first|(simp (disch:=omega) only [push_cast,↓zz,seval,hP,hge,hi,hn2,pN,pO,eO,pM])|(with_reducible first|refine And.intro ?_ ?_|(first|refine Ab ?_ ?_|refine Aa ?_ ?_)<;>intro hc<;>(try simp only [push_cast] at hc)|refine eK hS ?_|refine eQ hS ?_|refine eG hS ?_)|((with_reducible first|refine cK hS ?_|refine cQ hS ?_|refine cG hS ?_);(simp (disch:=omega) only [push_cast,↓zz,seval,hP,hge,hi,hn2,pN,pO,eO,pM]);(fail_if_success with_reducible change False))|omega|with_reducible intro _))
           all_goals
             refine ⟨(k + 1,m),⟨rfl,by push_cast⟩,⟨by simp only;omega,m1,k2⟩,by simp only;omega⟩
   · rw [List.drop_of_length_le hk,nowR] at k2
     rw [hI,k2]
     have hS:=z2o now (by omega) (fun x hx=>by have:=kn.bd x hx;omega)
     obtain ⟨m,hm⟩:∃ m,now.length=m + 1:=⟨now.length - 1,by have:=kn.pos;omega⟩
     have hw:IntKind.i64.wrap (m:Int)=m:=IntWalk.i64_in _ (by omega)
     simp only
     rw [hm,Nat.add_sub_cancel]
     refine W_T ?_
     (repeat' (first|(simp (disch:=omega) only [push_cast,↓zz,seval,hP,pN,hm,hw])|(with_reducible first|refine And.intro ?_ ?_|(first|refine Ab ?_ ?_|refine Aa ?_ ?_)<;>intro hc<;>(try simp only [push_cast] at hc)|refine eK hS ?_|refine eQ hS ?_|refine eG hS ?_)|((with_reducible first|refine cK hS ?_|refine cQ hS ?_|refine cG hS ?_);(simp (disch:=omega) only [push_cast,↓zz,seval,hP,pN,hm,hw]);(fail_if_success with_reducible change False))|omega|with_reducible intro _))
     all_goals first
       | (rw [decide_eq_true (p:=0 ≤ nth now 0) (by assumption),Bool.true_and];(repeat' (first|(simp (disch:=omega) only [push_cast,↓zz,seval,Bo])|omega|(with_reducible refine And.intro ?_ ?_)));done)
       | (rw [decide_eq_false (p:=0 ≤ nth now 0) (by assumption),Bool.false_and];(repeat' (first|(simp (disch:=omega) only [push_cast,↓zz,seval,Bo])|omega|(with_reducible refine And.intro ?_ ?_)));done)
       | trace_state
theorem Zy {l:List Int} (h:Br l) {i j:Nat} (hij:i ≤ j) (hj:j < l.length):nth l i ≤ nth l j:=by
 rcases Nat.lt_or_ge i j with hlt|hge
 · have:=List.pairwise_iff_getElem.1 h i j (by omega) hj hlt
   simp only [nth,List.getD_eq_getElem?_getD,List.getElem?_eq_getElem hj,List.getElem?_eq_getElem (show i < l.length by omega),Option.getD_some]
   omega
 · rw [show i=j by omega];exact Int.le_refl _
theorem zjj {α:Type} [Inhabited α] {l:List α} {x:α} (h:x ∈ l):∃ i,i < l.length∧nth l i=x:=by
 obtain ⟨i,hi,rfl⟩:=List.getElem_of_mem h
 exact ⟨i,hi,by simp [nth,hi]⟩
theorem z92 {l:List Int} (h:Br l) (hp:0 < l.length) {m M:Int}:(m ≤ nth l 0∧nth l (l.length - 1) ≤ M) ↔ ∀ v ∈ l,m ≤ v∧v ≤ M:=by
 constructor
 · rintro ⟨h1,h2⟩ v hv
   obtain ⟨i,hi,rfl⟩:=zjj hv
   have a1:=Zy h (Nat.zero_le i) hi
   have a2:=Zy h (show i ≤ l.length - 1 by omega) (by omega)
   omega
 · intro ha
   have a1:=ha _ (Au hp)
   have a2:=ha _ (Au (show l.length - 1 < l.length by omega))
   exact ⟨a1.1,a2.2⟩
theorem z5z {l:List Span} (h:Plain l) {i j:Nat} (hij:i ≤ j) (hj:j < l.length):(nth l i).lo ≤ (nth l j).lo∧(nth l i).hi ≤ (nth l j).hi:=by
 rcases Nat.lt_or_ge i j with hlt|hge
 · have h1:=List.pairwise_iff_getElem.1 h.2 i j (by omega) hj hlt
   have h2:=h.1 _ (Au hj)
   have h3:=h.1 _ (Au (show i < l.length by omega))
   simp only [nth,List.getD_eq_getElem?_getD,List.getElem?_eq_getElem hj,List.getElem?_eq_getElem (show i < l.length by omega),Option.getD_some] at h2 h3 ⊢
   omega
 · rw [show i=j by omega];exact ⟨Int.le_refl _,Int.le_refl _⟩
theorem zdt {l:List Span} (h:Plain l) (hp:0 < l.length) {m M:Int}:(m ≤ (nth l 0).lo∧(nth l (l.length - 1)).hi ≤ M) ↔ ∀ v,memL l v→m ≤ v∧v ≤ M:=by
 constructor
 · rintro ⟨h1,h2⟩ v ⟨s,hs,hv⟩
   obtain ⟨i,hi,rfl⟩:=zjj hs
   have a1:=z5z h (Nat.zero_le i) hi
   have a2:=z5z h (show i ≤ l.length - 1 by omega) (by omega)
   omega
 · intro ha
   have l1:=h.1 _ (Au hp)
   have l2:=h.1 _ (Au (show l.length - 1 < l.length by omega))
   have a1:=ha (nth l 0).lo ⟨_,Au hp,Int.le_refl _,l1⟩
   have a2:=ha (nth l (l.length - 1)).hi ⟨_,Au (by omega),l2,Int.le_refl _⟩
   exact ⟨a1.1,a2.2⟩
theorem T0:∀ (l:List Int) (out:List Span),Br l→Plain out→(∀ x ∈ l,z1p out x)→Plain (l.foldl F8 out)∧∀ v,memL (l.foldl F8 out) v ↔ memL out v ∨ v ∈ l
 | [],out,_,h,_=>⟨h,fun v=>by simp⟩
 | x :: l,out,hr,h,ha=>by
   obtain ⟨r1,r2⟩:=List.pairwise_cons.1 hr
   obtain ⟨p1,p2,p3⟩:=Tk h (x:=⟨x,x⟩) (Int.le_refl _) (ha x (by simp))
   obtain ⟨i1,i2⟩:=T0 l (F8 out x) r2 p1 fun y hy=>Tl p2 (by have:=r1 y hy;simp only;omega)
   refine ⟨i1,fun v=>?_⟩
   rw [List.foldl_cons,i2,List.mem_cons]
   have:=p3 v
   simp only at this
   rw [F8,this]
   constructor
   · rintro ((h|h)|h)
     · exact .inl h
     · exact .inr (.inl (by omega))
     · exact .inr (.inr h)
   · rintro (h|rfl|h)
     · exact .inl (.inl h)
     · exact .inl (.inr ⟨Int.le_refl _,Int.le_refl _⟩)
     · exact .inr h
theorem z2s {l:List Int} (h:Br l):Plain (Ju l)∧∀ v,memL (Ju l) v ↔ v ∈ l:=by
 obtain ⟨h1,h2⟩:=T0 l [] h ⟨by simp,by simp⟩ (fun x _ s hs=>by cases hs)
 exact ⟨h1,fun v=>by rw [Ju,h2];simp [memL]⟩
def begW (l:List Part) (k:Nat) (w:List Int):Int:=Mw l ((List.range k).map fun (a:Nat)=>(a:Int)) w
theorem G4 (l:List Part) (k:Nat) (w:List Int):begW l (k + 1) w=begW l k w + totV (atL l k) (nth w k):=by
 simp [begW,Mw,List.range_succ,List.map_append,List.sum_append]
theorem zdu (l:List Part) (w:List Int):begW l 0 w=0:=rfl
theorem z60 {l:List Part} {n:Nat} {w:List Int} (h:∀ p ∈ l,0 ≤ p.at_∧p.at_ < n):begW l n w=totW w l:=by
 refine I8 w l _ ?_ fun p hp=>?_
 · exact List.pairwise_map.2 (List.nodup_range.imp fun h e=>h (by omega))
 · have:=h p hp
   exact List.mem_map.2 ⟨p.at_.toNat,by simp;omega,by omega⟩
theorem z61 {l:List Part} {w:List Int} {k:Nat} {x:Int} (hk:k < w.length):∀ {j:Nat},j ≤ k→begW l j (w.set k x)=begW l j w
 | 0,_=>rfl
 | j + 1,h=>by
   rw [G4,G4,z61 hk (j:=j) (by omega),Mx hk,if_neg (by omega)]
theorem znr {l:List Part} {x:Int} (hx:0 ≤ x∧x ≤ 2097151) (hb:∀ p ∈ l,Dg p=true) (a:Int):0 ≤ totV (atL l a) x:=(Ia hx (l:=atL l a) fun p hp=>hb p (List.mem_filter.1 hp).1).1
theorem Zz {l:List Part} {w:List Int} {k n:Nat} (hb:∀ p ∈ l,Dg p=true) (hw:∀ a,a < n→0 ≤ nth w a∧nth w a ≤ 1114111):∀ d,k + d ≤ n→begW l k w ≤ begW l (k + d) w
 | 0,_=>Int.le_refl _
 | d + 1,h=>by
   have h1:=Zz hb hw d (k:=k) (by omega)
   have h2:=hw (k + d) (by omega)
   have h3:=znr (x:=nth w (k + d)) (by omega) hb ((k + d:Nat):Int)
   have h4:begW l (k + (d + 1)) w=begW l (k + d) w + totV (atL l ((k + d:Nat):Int)) (nth w (k + d)):=G4 l (k + d) w
   omega
theorem L1 {g:List Span} {v:Int} {i:Int} (hd:∀ v,memL g v→Q6 i v=true):memL (symI g) v ↔ memL g v:=by
 rw [(Lt g).2 v]
 constructor
 · exact fun h=>h.2
 · exact fun h=>⟨Om (hd v h),h⟩
structure TOk (t:Term) (i:Int) (gs:List (List Span)):Prop where
 parts:∀ p ∈ t.parts,Dj p gs.length=true
 four:t.parts.length ≤ 4
 sm:-1114111 ≤ t.sum∧t.sum ≤ 1114111
 sort:i=1 ∨ (i=2∧t.parts.length ≤ 1∧∀ p ∈ t.parts,F7 p=true)
theorem TOk.bits {t:Term} {i:Int} {gs:List (List Span)} (h:TOk t i gs):∀ p ∈ t.parts,Dg p=true:=fun p hp=>by
 have:=h.parts p hp
 simp only [Dj,Bool.and_eq_true] at this
 exact this.2
theorem TOk.at {t:Term} {i:Int} {gs:List (List Span)} (h:TOk t i gs):∀ p ∈ t.parts,0 ≤ p.at_∧p.at_ < gs.length:=fun p hp=>Ai (h.parts p hp)
theorem zjk {t:Term} {i o:Int} {gs:List (List Span)} (hr:Er t i o gs.length=true):TOk t i gs:=by
 obtain ⟨hn,hp⟩:=Ep hr
 simp only [B6,Bool.and_eq_true,decide_eq_true_eq] at hn
 refine ⟨fun p h=>List.all_eq_true.1 hp p h,hn.2.2,E6 hn.1.1.2,?_⟩
 simp only [Er,C4,Y3,Bool.and_eq_true,Bool.or_eq_true,decide_eq_true_eq,List.all_eq_true] at hr
 obtain ⟨⟨⟨⟨⟨h1,_⟩,_⟩,h2⟩,h3⟩,_⟩:=hr
 rcases h1 with h1|h1
 · exact .inl h1
 · refine .inr ⟨h1,?_,fun p hp=>?_⟩
   · rcases h3 with h3|h3
     · exact absurd h1 h3
     · exact h3
   · rcases (h2 p hp).2 with h|h
     · exact absurd h1 h
     · exact h
def PS (t:Term) (gs:List (List Span)) (k:Nat) (now:List Int):Prop:=z2q now∧∀ v,v ∈ now ↔ ∃ w,Win (gs.map symI) w∧t.sum + begW t.parts k w=v
theorem zdv {gs:List (List Span)} {w:List Int} (h:Win (gs.map symI) w):w.length=gs.length:=by have:=h.1;simpa using this
theorem zdw {gs:List (List Span)} {w:List Int} {k:Nat} (h:Win (gs.map symI) w) (hk:k < gs.length):memL (symI (nth gs k)) (nth w k):=by
 have:=h.2 k (by simpa using hk)
 have e:nth (gs.map symI) k=symI (nth gs k):=by simp [nth,hk]
 rwa [e] at this
theorem zdx {gs:List (List Span)} {w:List Int} (h:Win (gs.map symI) w) {k:Nat} (hk:k < gs.length):0 ≤ nth w k∧nth w k ≤ 1114111:=(((Lt _).2 _).1 (zdw h hk)).1
theorem zdy {gs:List (List Span)} {w:List Int} {k:Nat} {x:Int} (h:Win (gs.map symI) w) (hk:k < gs.length) (hx:memL (symI (nth gs k)) x):Win (gs.map symI) (w.set k x) :=
 zde h (by simpa using hk) (by have e:nth (gs.map symI) k=symI (nth gs k):=(by simp [nth,hk]);rwa [e])
theorem zre {i:Int} {gs:List (List Span)} (hG:GOk i gs):∃ w,Win (gs.map symI) w:=by
 refine z5r.1 (List.all_eq_true.2 fun g hg=>?_)
 rw [List.take_length] at hg
 obtain ⟨v,hv⟩:=hG.some g hg
 have h1:=(L1 (hG.dom g hg)).2 hv
 have:=List.length_pos_iff.2 (Ke h1)
 rw [decide_eq_true_eq]
 omega
theorem Rf {t:Term} {i:Int} {gs:List (List Span)} (hT:TOk t i gs) (hG:GOk i gs) (h1:¬ (i=2∧t.parts.length=1)):∀ (rest:List (List Span)) (k:Nat) (now:List Int),gs.drop k=rest→k ≤ gs.length→PS t gs k now →
   match nowR t i rest k now with
   | none=>∃ w,Win (gs.map symI) w∧1114111 < t.sum + totW w t.parts
   | some m=>PS t gs gs.length m
 | [],k,now,hd,hk,hp=>by
   have:k=gs.length:=by
     have:=congrArg List.length hd
     simp at this;omega
   subst this
   exact hp
 | g :: rest,k,now,hd,hk,hp=>by
   have hkl:k < gs.length:=by
     rcases Nat.lt_or_ge k gs.length with h|h
     · exact h
     · rw [List.drop_of_length_le h] at hd;cases hd
   rw [drop_at hkl] at hd
   injection hd with hg hd
   subst hg
   have hgm:=Au hkl
   have hin:i=1→∀ x,x ∈ inG (nth gs k) 256 ↔ memL (symI (nth gs k)) x:=fun hi x=>by
     rw [zdo,L1 (hG.dom _ hgm)]
     constructor
     · rintro ⟨hx,hh⟩
       exact (zdg (by omega)).1 hh
     · intro hm
       have hb:=hG.dom _ hgm x hm
       rw [hi] at hb
       simp only [Q6,decide_eq_true_eq] at hb
       exact ⟨by omega,(zdg (by omega)).2 hm⟩
   rw [nowR]
   cases hs:Jh t.parts k (nth gs k) (topI i) with
   | false =>
     rw [if_neg (by simp)]
     have hnil:atL t.parts k=[]:=by
       rcases hT.sort with hi|⟨hi,hl,_⟩
       · rw [hi] at hs
         simp only [Jh,Bool.and_eq_false_iff,decide_eq_false_iff_not,Decidable.not_not] at hs
         rcases hs with hs|hs
         · exfalso
           obtain ⟨v,hv⟩:=hG.some _ hgm
           have:=(hin hi v).2 ((L1 (hG.dom _ hgm)).2 hv)
           rw [show topI 1=256 from rfl] at hs
           rw [hs] at this
           cases this
         · exact hs
       · have:t.parts=[]:=List.eq_nil_of_length_eq_zero (by omega)
         rw [this];rfl
     refine Rf hT hG h1 rest (k + 1) now hd (by omega) ⟨hp.1,fun v=>?_⟩
     rw [hp.2]
     have e:∀ w,begW t.parts (k + 1) w=begW t.parts k w:=fun w=>by rw [G4,hnil,Wa,Int.add_zero]
     simp only [e]
   | true =>
     rw [if_pos rfl]
     have hi:i=1:=by
       rcases hT.sort with hi|⟨hi,_,_⟩
       · exact hi
       · exfalso
         subst hi
         simp [Jh,topI,inG] at hs
     have e256:topI i=256:=by rw [hi];rfl
     rw [e256] at hs ⊢
     have hop:=zdr hs
     obtain ⟨o1,o2,o3,o4⟩:=zdq (a:=(k:Int)) (g:=nth gs k) (k:=256) (Nat.le_refl _) hT.four hT.bits
     have hstep:∀ w,Win (gs.map symI) w→∀ y,y ∈ ownL t.parts k (nth gs k) 256→∃ w',Win (gs.map symI) w'∧begW t.parts (k + 1) w'=begW t.parts k w + y:=fun w hw y hy=>by
       obtain ⟨x,hx,rfl⟩:=(o3 y).1 hy
       refine ⟨w.set k x,zdy hw hkl ((hin hi x).1 hx),?_⟩
       have hlw:=zdv hw
       rw [G4,z61 (by omega) (Nat.le_refl k),Mx (by omega),if_pos rfl]
     cases hv:Rc now (ownL t.parts k (nth gs k) 256) with
     | none =>
       simp only [Option.bind_none]
       rw [Rc] at hv
       split at hv
       · rename_i hb
         obtain ⟨v,hv1,hv2⟩:=List.any_eq_true.1 hb
         obtain ⟨x,hx,y,hy,rfl⟩:=Re.1 hv1
         obtain ⟨w,hw,rfl⟩:=(hp.2 x).1 hx
         obtain ⟨w',hw',e'⟩:=hstep w hw y hy
         refine ⟨w',hw',?_⟩
         have hm:=Zz (k:=k + 1) hT.bits (fun a ha=>zdx hw' ha) (gs.length - (k + 1)) (by omega)
         rw [show k + 1 + (gs.length - (k + 1))=gs.length by omega,z60 hT.at] at hm
         simp only [bigB,decide_eq_true_eq] at hv2
         omega
       · cases hv
     | some m =>
       simp only [Option.bind_some]
       obtain ⟨m1,m2⟩:=zdp hp.1 (fun y hy=>(o4 y hy).1) hop hv
       refine Rf hT hG h1 rest (k + 1) m hd (by omega) ⟨m1,fun v=>?_⟩
       rw [m2]
       constructor
       · rintro ⟨x,hx,y,hy,rfl⟩
         obtain ⟨w,hw,rfl⟩:=(hp.2 x).1 hx
         obtain ⟨w',hw',e'⟩:=hstep w hw y hy
         exact ⟨w',hw',by omega⟩
       · rintro ⟨w,hw,rfl⟩
         exact ⟨_,(hp.2 _).2 ⟨w,hw,rfl⟩,_,(o3 _).2 ⟨nth w k,(hin hi _).2 (zdw hw hkl),rfl⟩,by rw [G4];omega⟩
theorem T5 {t:Term} {i:Int} {gs:List (List Span)} (hT:TOk t i gs) (hG:GOk i gs) :
   ((Eg t i gs).2=true ↔ ∀ w,Win (gs.map symI) w→0 ≤ t.sum + totW w t.parts∧t.sum + totW w t.parts ≤ 1114111) ∧
   ((Eg t i gs).2=true→Plain (Eg t i gs).1∧(Eg t i gs).1.length ≤ 2147483649∧∀ v,memL (Eg t i gs).1 v ↔ ∃ w,Win (gs.map symI) w∧t.sum + totW w t.parts=v):=by
 have hall:∀ w,begW t.parts gs.length w=totW w t.parts:=fun w=>z60 hT.at
 obtain ⟨w0,hw0⟩:=zre hG
 have hsm:=hT.sm
 by_cases h1:i=2∧t.parts.length=1
 · obtain ⟨p,hp⟩:∃ p,t.parts=[p]:=List.length_eq_one_iff.1 h1.2
   have hpm:p ∈ t.parts:=by rw [hp];simp
   have hpa:=hT.at p hpm
   have hpw:F7 p=true:=by
     rcases hT.sort with h|h
     · omega
     · exact h.2.2 p hpm
   obtain ⟨a,ha⟩:∃ a:Nat,p.at_=a:=⟨p.at_.toNat,by omega⟩
   have hag:a < gs.length:=by omega
   have hgm:=Au hag
   have hI:Eg t i gs=(Dw (Ar (nth gs a)) t.sum,decide (0 ≤ (nth (Dw (Ar (nth gs a)) t.sum) 0).lo) && decide ((nth (Dw (Ar (nth gs a)) t.sum) ((Dw (Ar (nth gs a)) t.sum).length - 1)).hi ≤ 1114111)):=by
     rw [Eg,if_pos h1,show (nth t.parts 0)=p by rw [hp];rfl,ha,Int.toNat_natCast]
   have htot:∀ w,Win (gs.map symI) w→totW w t.parts=nth w a:=fun w hw=>by
     have hx:=zdx hw hag
     rw [hp]
     simp only [totW,List.map_cons,List.map_nil,List.sum_cons,List.sum_nil,Int.add_zero,ha,Int.toNat_natCast]
     simp only [F7,decide_eq_true_eq] at hpw
     rw [valP,hpw.1,hpw.2.1,hpw.2.2]
     simp
     omega
   have hmem:∀ v,memL (Dw (Ar (nth gs a)) t.sum) v ↔ ∃ w,Win (gs.map symI) w∧t.sum + totW w t.parts=v:=fun v=>by
     rw [V9 (by omega),(Aq (nth gs a)).2]
     constructor
     · rintro ⟨⟨⟨h,_⟩,_⟩,_⟩
       have hs:=(L1 (hG.dom _ hgm)).2 h
       have hw:=zdy hw0 hag hs
       refine ⟨_,hw,?_⟩
       rw [htot _ hw,Mx (by rw [zdv hw0];exact hag),if_pos rfl]
       omega
     · rintro ⟨w,hw,rfl⟩
       rw [htot w hw]
       have hx:=zdx hw hag
       have hs:=(L1 (hG.dom _ hgm)).1 (zdw hw hag)
       exact ⟨⟨⟨by rw [show t.sum + nth w a - t.sum=nth w a by omega];exact hs,by omega⟩,by omega⟩,by omega⟩
   have hpl:Plain (Dw (Ar (nth gs a)) t.sum):=by
     rw [Dw,if_neg (by omega)];exact (Aq _).1
   have hle:(Dw (Ar (nth gs a)) t.sum).length ≤ 2147483649:=by
     rw [Dw,if_neg (by omega)];exact Hg _
   have hpos:0 < (Dw (Ar (nth gs a)) t.sum).length:=List.length_pos_iff.2 (Ke ((hmem _).2 ⟨w0,hw0,rfl⟩))
   rw [hI]
   generalize Dw (Ar (nth gs a)) t.sum=l at *
   refine ⟨?_,fun _=>⟨hpl,hle,hmem⟩⟩
   simp only
   rw [Bool.and_eq_true,decide_eq_true_eq,decide_eq_true_eq,zdt hpl hpos]
   constructor
   · exact fun h w hw=>h _ ((hmem _).2 ⟨w,hw,rfl⟩)
   · intro h v hv
     obtain ⟨w,hw,rfl⟩:=(hmem v).1 hv
     exact h w hw
 · have hst:PS t gs 0 [t.sum]:=⟨⟨by simp [Br],by simp;omega,by simp⟩,fun v=>by
     simp only [zdu,Int.add_zero,List.mem_singleton]
     exact ⟨fun h=>⟨w0,hw0,h.symm⟩,fun ⟨_,_,h⟩=>h.symm⟩⟩
   have hN:=Rf hT hG h1 gs 0 [t.sum] rfl (by omega) hst
   have hI:Eg t i gs=match nowR t i gs 0 [t.sum] with
     | none=>([],false)
     | some now=>(Ju now,decide (0 ≤ nth now 0) && decide (nth now (now.length - 1) ≤ 1114111)):=if_neg h1
   cases hv:nowR t i gs 0 [t.sum] with
   | none =>
     rw [hv] at hN hI
     simp only at hN hI
     rw [hI]
     obtain ⟨w,hw,hb⟩:=hN
     refine ⟨⟨fun h=>(by cases h),fun h=>?_⟩,fun h=>(by cases h)⟩
     have:=h w hw
     omega
   | some now =>
     rw [hv] at hN hI
     simp only at hN hI
     rw [hI]
     obtain ⟨n1,n2⟩:=hN
     obtain ⟨s1,s2⟩:=z2s n1.ris
     have hsl:=Ty now []
     have hnl:=n1.len
     simp only [List.length_nil] at hsl
     refine ⟨?_,fun _=>⟨s1,by simp only [Ju];omega,fun v=>?_⟩⟩
     · simp only
       rw [Bool.and_eq_true,decide_eq_true_eq,decide_eq_true_eq,z92 n1.ris n1.pos]
       constructor
       · intro h w hw
         have:=h _ ((n2 _).2 ⟨w,hw,rfl⟩)
         rw [hall] at this
         exact this
       · intro h v hv
         obtain ⟨w,hw,rfl⟩:=(n2 v).1 hv
         rw [hall]
         exact h w hw
     · rw [s2,n2]
       simp only [hall]
def okQ (t:Term) (q:Int):Bool:=decide (0 ≤ t.base + q % 2 ^ t.take.toNat * 2 ^ t.up.toNat∧t.base + q % 2 ^ t.take.toNat * 2 ^ t.up.toNat ≤ 255)
def rowQ (t:Term) (a:Int) (n:Nat):Bool:=(List.range n).all fun k=>okQ t (a + (k:Nat))
def Wq (t:Term) (s:Span):Bool:=rowQ t (s.lo / 2 ^ t.drop.toNat) (s.hi / 2 ^ t.drop.toNat - s.lo / 2 ^ t.drop.toNat + 1).toNat
def zdz (t:Term) (i o:Int) (gs:List (List Span)):Bool :=
 Er t i o gs.length && ((Eg t i gs).2 && (if o=2 then decide (Ej (Eg t i gs).1 (domL o)=[]) else (Eg t i gs).1.all (Wq t)))
theorem Rh {t:Term} {a:Int} {n:Nat}:rowQ t a n=true ↔ ∀ k:Nat,k < n→okQ t (a + k)=true:=by
 simp [rowQ,List.all_eq_true]
theorem z93 {t:Term} {a:Int} {n k:Nat} (h:k < n) (hb:okQ t (a + k)=false):rowQ t a n=false:=by
 rw [rowQ,List.all_eq_false]
 exact ⟨k,by simpa using h,by simp [hb]⟩
theorem ze0 {t:Term} {a:Int} {n m:Nat} (hm:(m:Int)=2 ^ t.take.toNat) (h:∀ k:Nat,k < m→okQ t (a + k)=true):rowQ t a n=true:=by
 refine Rh.2 fun k _=>?_
 have hp:0 < m:=by
   have:(0:Int) < 2 ^ t.take.toNat:=Int.pow_pos (by decide)
   omega
 have h1:=h (k % m) (Nat.mod_lt _ hp)
 have e:(a + (k:Nat)) % 2 ^ t.take.toNat=(a + ((k % m:Nat):Nat)) % 2 ^ t.take.toNat:=by
   rw [← hm]
   have:=Nat.div_add_mod k m
   rw [show (a + (k:Int))=a + ((k % m:Nat):Int) + (m:Int) * ((k / m:Nat):Int) by rw [← Int.natCast_mul];omega,Int.add_mul_emod_self_left]
 rw [okQ,e]
 rwa [okQ] at h1
theorem zns {t:Term} {a:Int} {m:Nat} (hm:(m:Int)=2 ^ t.take.toNat) (hb:300 < m) (hup:t.up=0 ∨ t.take ≤ 6) (ht:1 ≤ t.take∧t.take ≤ 21) (h1:okQ t a=true) (h2:okQ t (a + 256)=true):False:=by
 have hu:t.up=0:=by
   rcases hup with h|h
   · exact h
   · exfalso
     have:(2:Nat) ^ t.take.toNat ≤ 2 ^ 6:=Nat.pow_le_pow_right (by decide) (by omega)
     have e:((2 ^ t.take.toNat:Nat):Int)=2 ^ t.take.toNat:=by simp
     omega
 have h9:512 ≤ m:=by
   rcases Nat.lt_or_ge t.take.toNat 9 with h|h
   · have:(2:Nat) ^ t.take.toNat ≤ 2 ^ 8:=Nat.pow_le_pow_right (by decide) (by omega)
     have e:((2 ^ t.take.toNat:Nat):Int)=2 ^ t.take.toNat:=by simp
     omega
   · have:(2:Nat) ^ 9 ≤ 2 ^ t.take.toNat:=Nat.pow_le_pow_right (by decide) h
     have e:((2 ^ t.take.toNat:Nat):Int)=2 ^ t.take.toNat:=by simp
     omega
 simp only [okQ,decide_eq_true_eq,hu,← hm] at h1 h2
 simp only [show (0:Int).toNat=0 from rfl,Int.pow_zero,Int.mul_one] at h1 h2
 have b1:=Int.emod_nonneg a (show (m:Int) ≠ 0 by omega)
 have b2:=Int.emod_lt_of_pos a (show (0:Int) < m by omega)
 have b3:=Int.emod_nonneg (a + 256) (show (m:Int) ≠ 0 by omega)
 have e1:=Int.emod_add_mul_ediv a m
 have e2:=Int.emod_add_mul_ediv (a + 256) m
 generalize a % (m:Int)=r1 at *
 generalize (a + 256) % (m:Int)=r2 at *
 generalize a / (m:Int)=q1 at *
 generalize (a + 256) / (m:Int)=q2 at *
 have e3:r2 - r1 - 256=(m:Int) * (q1 - q2):=by rw [Int.mul_sub];omega
 rcases Int.lt_trichotomy (q1 - q2) 0 with h|h|h
 · have:=Int.mul_le_mul_of_nonneg_left (show q1 - q2 ≤ -1 by omega) (show (0:Int) ≤ m by omega)
   omega
 · rw [h] at e3;omega
 · have:=Int.mul_le_mul_of_nonneg_left (show 1 ≤ q1 - q2 by omega) (show (0:Int) ≤ m by omega)
   omega
theorem zih {t:Term} {l:List Span} {k:Nat} (h:k < l.length):(l.drop k).all (Wq t)=(Wq t (nth l k) && (l.drop (k + 1)).all (Wq t)):=by rw [drop_at h,List.all_cons]
set_option maxHeartbeats 4000000 in
theorem z94 (t:Term) (i o:Int) (gs:List (List Span)) (ht:t.parts.length < 1000000000000) (hG:GOk i gs) :
   PC Tryz.prog 82 [Bv t,.int .i64 i,.int .i64 o,Ak gs] (.bool (zdz t i o gs)):=by
 have hP:=Ae gs
 have hR:=zc0 t i o gs.length ht
 refine A9 Ym ?_
 unfold Nk
 cases hr:Er t i o gs.length with
 | false =>
   rw [hr] at hR
   rw [zdz,hr,Bool.false_and]
   (repeat' (first|(simp (disch:=omega) only [push_cast,↓zz,seval,hP])|(with_reducible first|refine And.intro ?_ ?_|(first|refine Ab ?_ ?_|refine Aa ?_ ?_)<;>intro hc<;>(try simp only [push_cast] at hc)|refine eK hR ?_|refine eQ hR ?_|refine eG hR ?_)|((with_reducible first|refine cK hR ?_|refine cQ hR ?_|refine cG hR ?_);(simp (disch:=omega) only [push_cast,↓zz,seval,hP]);(fail_if_success with_reducible change False))|omega|with_reducible intro _))
 | true =>
 rw [hr] at hR
 have hI:=z2r t i o gs hr hG
 obtain ⟨s1,s2⟩:=T5 (zjk hr) hG
 have hout:Dg t.outer=true:=by
   have hn:=(Ep hr).1
   simp only [B6,Bool.and_eq_true] at hn
   exact hn.1.2
 have hbase:B5 t.base=true:=by
   have hn:=(Ep hr).1
   simp only [B6,Bool.and_eq_true] at hn
   exact hn.1.1.1
 have hbm:=E6 hbase
 rw [Dp] at hout
 simp only at hout
 rw [zdz,hr,Bool.true_and]
 cases hok:(Eg t i gs).2 with
 | false =>
   rw [hok] at hI
   rw [Bool.false_and]
   (repeat' (first|(simp (disch:=omega) only [push_cast,↓zz,seval,hP])|(with_reducible first|refine And.intro ?_ ?_|(first|refine Ab ?_ ?_|refine Aa ?_ ?_)<;>intro hc<;>(try simp only [push_cast] at hc)|refine eK hR ?_|refine eQ hR ?_|refine eG hR ?_|refine eK hI ?_|refine eQ hI ?_|refine eG hI ?_)|((with_reducible first|refine cK hR ?_|refine cQ hR ?_|refine cG hR ?_);(simp (disch:=omega) only [push_cast,↓zz,seval,hP]);(fail_if_success with_reducible change False))|((with_reducible first|refine cK hI ?_|refine cQ hI ?_|refine cG hI ?_);(simp (disch:=omega) only [push_cast,↓zz,seval,hP]);(fail_if_success with_reducible change False))|omega|with_reducible intro _))
 | true =>
 obtain ⟨p1,p2,p3⟩:=s2 hok
 have hrng:∀ v,memL (Eg t i gs).1 v→0 ≤ v∧v ≤ 1114111:=fun v hv=>by
   obtain ⟨w,hw,rfl⟩:=(p3 v).1 hv
   exact s1.1 hok w hw
 rw [hok] at hI
 rw [Bool.true_and]
 clear s1 s2 p3
 generalize (Eg t i gs).1=l at *
 have hpl:=Cf l
 by_cases ho:o=2
 · subst ho
   have hD:=N4 2
   have hM:=Mp l (domL 2) 2 (by omega) (by have:=Wd 2;omega)
   rw [Tm] at hM
   rw [if_pos rfl]
   have hlen:decide (((Ej l (domL 2)).length:Int)=0)=decide (Ej l (domL 2)=[]):=by
     rw [decide_eq_decide]
     constructor
     · exact fun h=>List.eq_nil_of_length_eq_zero (by omega)
     · intro h;rw [h];rfl
   (repeat' (first|(simp (disch:=omega) only [push_cast,↓zz,seval,hP,hpl])|(with_reducible first|refine And.intro ?_ ?_|(first|refine Ab ?_ ?_|refine Aa ?_ ?_)<;>intro hc<;>(try simp only [push_cast] at hc)|refine eK hR ?_|refine eQ hR ?_|refine eG hR ?_|refine eK hI ?_|refine eQ hI ?_|refine eG hI ?_|refine eK hD ?_|refine eQ hD ?_|refine eG hD ?_|refine eK hM ?_|refine eQ hM ?_|refine eG hM ?_)|((with_reducible first|refine cK hR ?_|refine cQ hR ?_|refine cG hR ?_);(simp (disch:=omega) only [push_cast,↓zz,seval,hP,hpl]);(fail_if_success with_reducible change False))|((with_reducible first|refine cK hI ?_|refine cQ hI ?_|refine cG hI ?_);(simp (disch:=omega) only [push_cast,↓zz,seval,hP,hpl]);(fail_if_success with_reducible change False))|((with_reducible first|refine cK hD ?_|refine cQ hD ?_|refine cG hD ?_);(simp (disch:=omega) only [push_cast,↓zz,seval,hP,hpl]);(fail_if_success with_reducible change False))|((with_reducible first|refine cK hM ?_|refine cQ hM ?_|refine cG hM ?_);(simp (disch:=omega) only [push_cast,↓zz,seval,hP,hpl]);(fail_if_success with_reducible change False))|omega|with_reducible intro _))
 · rw [if_neg ho]
   have hT1:=Hd t.drop (by omega)
   have hT2:=Hd t.take (by omega)
   have hT3:=Hd t.up (by omega)
   have pd:=Gs t.drop.toNat (by omega)
   have pt:=Gs t.take.toNat (by omega)
   have pu:=Gs t.up.toNat (by omega)
   have hoq:∀ q,okQ t q=decide (0 ≤ t.base + q % 2 ^ t.take.toNat * 2 ^ t.up.toNat∧t.base + q % 2 ^ t.take.toNat * 2 ^ t.up.toNat ≤ 255):=fun _=>rfl
   have hsq:∀ s,Wq t s=rowQ t (s.lo / 2 ^ t.drop.toNat) (s.hi / 2 ^ t.drop.toNat - s.lo / 2 ^ t.drop.toNat + 1).toNat:=fun _=>rfl
   obtain ⟨m,hm⟩:∃ m:Nat,(m:Int)=2 ^ t.take.toNat:=⟨2 ^ t.take.toNat,by simp⟩
   have hround:=fun a n=>ze0 (t:=t) (a:=a) (n:=n) hm
   have hfar:=fun a hb=>zns (t:=t) (a:=a) hm hb (by omega) (by omega)
   generalize (2:Int) ^ t.take.toNat=P at *
   subst hm
   generalize (2:Int) ^ t.drop.toNat=D at *
   generalize (2:Int) ^ t.up.toNat=U at *
   (repeat' (first|(simp (disch:=omega) only [push_cast,↓zz,seval,hP,hpl])|(with_reducible first|refine And.intro ?_ ?_|(first|refine Ab ?_ ?_|refine Aa ?_ ?_)<;>intro hc<;>(try simp only [push_cast] at hc)|refine eK hR ?_|refine eQ hR ?_|refine eG hR ?_|refine eK hI ?_|refine eQ hI ?_|refine eG hI ?_|refine eK hT1 ?_|refine eQ hT1 ?_|refine eG hT1 ?_|refine eK hT2 ?_|refine eQ hT2 ?_|refine eG hT2 ?_|refine eK hT3 ?_|refine eQ hT3 ?_|refine eG hT3 ?_)|((with_reducible first|refine cK hR ?_|refine cQ hR ?_|refine cG hR ?_);(simp (disch:=omega) only [push_cast,↓zz,seval,hP,hpl]);(fail_if_success with_reducible change False))|((with_reducible first|refine cK hI ?_|refine cQ hI ?_|refine cG hI ?_);(simp (disch:=omega) only [push_cast,↓zz,seval,hP,hpl]);(fail_if_success with_reducible change False))|((with_reducible first|refine cK hT1 ?_|refine cQ hT1 ?_|refine cG hT1 ?_);(simp (disch:=omega) only [push_cast,↓zz,seval,hP,hpl]);(fail_if_success with_reducible change False))|((with_reducible first|refine cK hT2 ?_|refine cQ hT2 ?_|refine cG hT2 ?_);(simp (disch:=omega) only [push_cast,↓zz,seval,hP,hpl]);(fail_if_success with_reducible change False))|((with_reducible first|refine cK hT3 ?_|refine cQ hT3 ?_|refine cG hT3 ?_);(simp (disch:=omega) only [push_cast,↓zz,seval,hP,hpl]);(fail_if_success with_reducible change False))|omega|with_reducible intro _))
   refine Ao (Ap (fun (k:Nat)=>k ≤ l.length∧l.all (Wq t)=(l.drop k).all (Wq t)) (fun k=>l.length - k)
     (fun k=>[(4,.ptr 0 1 0 0),(9,Ad l),(11,.int .i64 D),(12,.int .i64 m),(13,.int .i64 U),(14,.int .i64 k)]) (fun k=>[⟨6,1,true,[Bv t]⟩]) (fun env _=>[Aw 1 (env 4)]) 0 ⟨by simp,rfl⟩ ?_ ?_)
   · (repeat' (first|(simp (disch:=omega) only [push_cast,↓zz,seval,hP,hpl])|(with_reducible first|refine And.intro ?_ ?_|(first|refine Ab ?_ ?_|refine Aa ?_ ?_)<;>intro hc<;>(try simp only [push_cast] at hc))|omega|with_reducible intro _))
   rintro k ⟨k1,k2⟩
   rcases Nat.lt_or_ge k l.length with hk|hk
   · rw [zih hk] at k2
     have hs1:=p1.1 _ (Au hk)
     have hs2:=hrng (nth l k).lo ⟨_,Au hk,Int.le_refl _,hs1⟩
     have hs3:=hrng (nth l k).hi ⟨_,Au hk,hs1,Int.le_refl _⟩
     generalize hse:nth l k=s at *
     rw [hsq] at k2
     have q1:s.lo.tdiv D=s.lo / D:=Int.tdiv_eq_ediv_of_nonneg hs2.1
     have q2:s.hi.tdiv D=s.hi / D:=Int.tdiv_eq_ediv_of_nonneg hs3.1
     have b1:0 ≤ s.lo / D:=Int.ediv_nonneg hs2.1 (by omega)
     have b2:s.hi / D ≤ s.hi:=Int.ediv_le_self _ hs3.1
     have b3:s.lo / D ≤ s.hi / D:=Int.ediv_le_ediv (by omega) hs1
     have w1:IntKind.i64.wrap (s.lo / D)=s.lo / D:=IntWalk.i64_in _ (by omega)
     have w2:IntKind.i64.wrap (s.hi / D)=s.hi / D:=IntWalk.i64_in _ (by omega)
     generalize s.lo / D=a at *
     generalize s.hi / D=b at *
     refine W_T ?_
     (repeat' (first|(simp (disch:=omega) only [push_cast,↓zz,seval,hP,hpl,hse,q1,q2,w1,w2])|(with_reducible first|refine And.intro ?_ ?_|(first|refine Ab ?_ ?_|refine Aa ?_ ?_)<;>intro hc<;>(try simp only [push_cast] at hc))|omega|with_reducible intro _))
     refine Ao (Ap (fun (n:Nat)=>n ≤ (b - a + 1).toNat∧∀ j:Nat,j < n→okQ t (a + j)=true) (fun n=>(b - a + 1).toNat - n)
       (fun n=>[(4,.ptr 0 1 0 0),(9,Ad l),(11,.int .i64 D),(12,.int .i64 m),(13,.int .i64 U),(14,.int .i64 k),(15,.int .i64 a),(16,.int .i64 b),(17,.int .i64 (a + n))]) (fun n=>[⟨6,1,true,[Bv t]⟩]) (fun env _=>[Aw 1 (env 4)]) 0 ⟨by simp,fun j hj=>by omega⟩ ?_ ?_)
     · (repeat' (first|(simp (disch:=omega) only [push_cast,↓zz,seval,hP,hpl])|(with_reducible first|refine And.intro ?_ ?_|(first|refine Ab ?_ ?_|refine Aa ?_ ?_)<;>intro hc<;>(try simp only [push_cast] at hc))|omega|with_reducible intro _))
     rintro n ⟨n1,n2⟩
     rcases Nat.lt_or_ge n (b - a + 1).toNat with hn|hn
     · have r0:0 ≤ (a + n) % (m:Int):=Int.emod_nonneg _ (by omega)
       have r1:(a + n) % (m:Int) < m:=Int.emod_lt_of_pos _ (by omega)
       have hrm:(a + n).tmod m=(a + n) % (m:Int):=Int.tmod_eq_emod_of_nonneg (by omega)
       have hoqn:=hoq (a + n)
       generalize (a + (n:Int)) % (m:Int)=r at *
       have v0:0 ≤ r * U:=Int.mul_nonneg r0 (by omega)
       have v1:r * U ≤ 2097152 * 2097152:=Int.mul_le_mul (by omega) (by omega) (by omega) (by omega)
       have w3:IntKind.i64.wrap r=r:=IntWalk.i64_in _ (by omega)
       have w4:IntKind.i64.wrap (r * U)=r * U:=IntWalk.i64_in _ (by omega)
       obtain ⟨v,hv⟩:∃ v,r * U=v:=⟨_,rfl⟩
       rw [hv] at v0 v1 w4 hoqn
       have w5:IntKind.i64.wrap (t.base + v)=t.base + v:=IntWalk.i64_in _ (by omega)
       by_cases hf:300 < n∧300 < m
       · have f1:=n2 0 (by omega)
         have f2:=n2 256 (by omega)
         exact absurd (hfar a hf.2 (by simpa using f1) (by simpa using f2)) (by simp)
       refine W_T ?_
       by_cases hbr:m < n
       · have hrow:=hround a (b - a + 1).toNat fun j hj=>n2 j (by omega)
         rw [hrow,Bool.true_and] at k2
         (repeat' (first|(simp (disch:=omega) only [push_cast,↓zz,seval,hP,hpl])|(with_reducible first|refine And.intro ?_ ?_|(first|refine Ab ?_ ?_|refine Aa ?_ ?_)<;>intro hc<;>(try simp only [push_cast] at hc))|omega|with_reducible intro _))
         all_goals first
           | exact ⟨k + 1,by push_cast,⟨by omega,k2⟩,by omega⟩
           | trace_state
       · cases hb:okQ t (a + n) with
         | false =>
           rw [hb] at hoqn
           have hno:=of_decide_eq_false hoqn.symm
           rw [z93 hn hb,Bool.false_and] at k2
           (repeat' (first|(simp (disch:=omega) only [push_cast,↓zz,seval,hP,hpl,hrm,hv,w3,w4,w5,k2])|(with_reducible first|refine And.intro ?_ ?_|(first|refine Ab ?_ ?_|refine Aa ?_ ?_)<;>intro hc<;>(try simp only [push_cast] at hc))|omega|with_reducible intro _))
         | true =>
           rw [hb] at hoqn
           have hyes:=of_decide_eq_true hoqn.symm
           have nx:∀ j:Nat,j < n + 1→okQ t (a + j)=true:=fun j hj=>by
             rcases Nat.lt_or_ge j n with h|h
             · exact n2 j h
             · rw [show j=n by omega];exact hb
           (repeat' (first|(simp (disch:=omega) only [push_cast,↓zz,seval,hP,hpl,hrm,hv,w3,w4,w5])|(with_reducible first|refine And.intro ?_ ?_|(first|refine Ab ?_ ?_|refine Aa ?_ ?_)<;>intro hc<;>(try simp only [push_cast] at hc))|omega|with_reducible intro _))
           all_goals first
             | exact ⟨n + 1,by push_cast;omega,⟨by omega,nx⟩,by omega⟩
             | trace_state
     · have hrow:rowQ t a (b - a + 1).toNat=true:=Rh.2 fun j hj=>n2 j (by omega)
       rw [hrow,Bool.true_and] at k2
       refine W_T ?_
       (repeat' (first|(simp (disch:=omega) only [push_cast,↓zz,seval,hP,hpl])|(with_reducible first|refine And.intro ?_ ?_|(first|refine Ab ?_ ?_|refine Aa ?_ ?_)<;>intro hc<;>(try simp only [push_cast] at hc))|omega|with_reducible intro _))
       all_goals first
         | exact ⟨k + 1,by push_cast,⟨by omega,k2⟩,by omega⟩
         | trace_state
   · rw [List.drop_of_length_le hk,List.all_nil] at k2
     refine W_T ?_
     (repeat' (first|(simp (disch:=omega) only [push_cast,↓zz,seval,hP,hpl,k2])|(with_reducible first|refine And.intro ?_ ?_|(first|refine Ab ?_ ?_|refine Aa ?_ ?_)<;>intro hc<;>(try simp only [push_cast] at hc))|omega|with_reducible intro _))
     all_goals trace_state
theorem T6 {t:Term} {s:Span} (hs:s.lo ≤ s.hi):Wq t s=true ↔ ∀ v,s.lo ≤ v→v ≤ s.hi→okQ t (v / 2 ^ t.drop.toNat)=true:=by
 have hD:(0:Int) < 2 ^ t.drop.toNat:=Int.pow_pos (by decide)
 rw [Wq,Rh]
 generalize (2:Int) ^ t.drop.toNat=D at *
 have hq:=fun q=>zda (lo:=s.lo) (hi:=s.hi) (q:=q) hD hs
 have hle:s.lo / D ≤ s.hi / D:=Int.ediv_le_ediv hD hs
 constructor
 · intro h v h1 h2
   have b1:s.lo / D ≤ v / D:=Int.ediv_le_ediv hD h1
   have b2:v / D ≤ s.hi / D:=Int.ediv_le_ediv hD h2
   have:=h (v / D - s.lo / D).toNat (by omega)
   rwa [show s.lo / D + (((v / D - s.lo / D).toNat:Nat):Int)=v / D by omega] at this
 · intro h k hk
   obtain ⟨x,x1,x2,x3⟩:=(hq (s.lo / D + k)).2 ⟨by omega,by omega⟩
   rw [← x3]
   exact h x x1 x2
theorem z62 {t:Term} {i o:Int} {n:Int} {w:List Int} {x:Int} (hr:Er t i o n=true) (hx:0 ≤ x∧x ≤ 1114111) (hv:Lm t w=some (t.base + valP t.outer x)) :
   fitW t o w=true ↔ (if o=2 then Q6 o x else okQ t (x / 2 ^ t.drop.toNat))=true:=by
 rw [fitW,hv]
 simp only
 simp only [Er,Y3,N0,Bool.and_eq_true,Bool.or_eq_true,decide_eq_true_eq] at hr
 obtain ⟨⟨⟨⟨⟨_,h1⟩,_⟩,_⟩,_⟩,h2⟩:=hr
 by_cases ho:o=2
 · rw [if_pos ho]
   obtain ⟨b1,b2,b3,b4⟩:t.base=0∧t.drop=0∧t.take=21∧t.up=0:=by
     rcases h2 with h2|h2
     · exact absurd ho h2
     · exact h2
   have e:t.base + valP t.outer x=x:=by
     simp only [valP,Term.outer,b1,b2,b3,b4]
     simp
     omega
   rw [e,Bool.and_eq_true,decide_eq_true_eq]
   exact ⟨fun h=>h.2,fun h=>⟨hx,h⟩⟩
 · rw [if_neg ho]
   have ho1:o=1:=by omega
   have e:okQ t (x / 2 ^ t.drop.toNat)=decide (0 ≤ t.base + valP t.outer x∧t.base + valP t.outer x ≤ 255):=rfl
   rw [e,ho1,Bool.and_eq_true,decide_eq_true_eq,decide_eq_true_eq,Q6,decide_eq_true_eq]
   omega
theorem ze1 {t:Term} {i o:Int} {gs:List (List Span)} (hG:GOk i gs):zdz t i o gs=Qu t i o gs:=by
 rw [Bool.eq_iff_iff,zdh hG.len,zdz,Bool.and_eq_true,Bool.and_eq_true]
 refine and_congr_right fun hr=>?_
 obtain ⟨hn,hp⟩:=Ep hr
 have hS:=I4 hp hG.len
 have hT:=zjk hr
 obtain ⟨s1,s2⟩:=T5 hT hG
 have hval:=fun w hw=>G0 (w:=w) hS hn hw
 constructor
 · rintro ⟨hok,hres⟩ w hw
   have hrng:=s1.1 hok w hw
   obtain ⟨p1,p2,p3⟩:=s2 hok
   have hm:=(p3 _).2 ⟨w,hw,rfl⟩
   rw [z62 hr hrng (by rw [hval w hw,if_pos hrng])]
   generalize (Eg t i gs).1=l at *
   have hbl:∀ v,memL l v→-1073741824 ≤ v∧v ≤ 1073741824:=fun v hv=>by
     obtain ⟨w,hw,rfl⟩:=(p3 v).1 hv
     have:=s1.1 hok w hw
     omega
   by_cases ho:o=2
   · rw [if_pos ho] at hres ⊢
     rw [decide_eq_true_eq] at hres
     exact Ie.1 ((G1 hbl p1.1).1 hres _ hm)
   · rw [if_neg ho] at hres ⊢
     obtain ⟨s,hs,hs2⟩:=hm
     exact (T6 (p1.1 s hs)).1 (List.all_eq_true.1 hres s hs) _ hs2.1 hs2.2
 · intro h
   have hok:(Eg t i gs).2=true:=s1.2 fun w hw=>by
     have:=h w hw
     rw [fitW,hval w hw] at this
     split at this
     · rename_i v hv
       split at hv
       · assumption
       · cases hv
     · cases this
   refine ⟨hok,?_⟩
   obtain ⟨p1,p2,p3⟩:=s2 hok
   have hfw:∀ v,memL (Eg t i gs).1 v→(if o=2 then Q6 o v else okQ t (v / 2 ^ t.drop.toNat))=true:=fun v hv=>by
     obtain ⟨w,hw,rfl⟩:=(p3 v).1 hv
     have hrng:=s1.1 hok w hw
     exact (z62 hr hrng (by rw [hval w hw,if_pos hrng])).1 (h w hw)
   have hbl:∀ v,memL (Eg t i gs).1 v→-1073741824 ≤ v∧v ≤ 1073741824:=fun v hv=>by
     obtain ⟨w,hw,rfl⟩:=(p3 v).1 hv
     have:=s1.1 hok w hw
     omega
   by_cases ho:o=2
   · rw [if_pos ho,decide_eq_true_eq,G1 hbl p1.1]
     intro v hv
     have:=hfw v hv
     rw [if_pos ho] at this
     exact Ie.2 this
   · rw [if_neg ho,List.all_eq_true]
     intro s hs
     rw [T6 (p1.1 s hs)]
     intro v h1 h2
     have:=hfw v ⟨s,hs,h1,h2⟩
     rwa [if_neg ho] at this
theorem T7:∀ {l:List Span} {last:Int},Jr last l=true ↔ (∀ s ∈ l,s.lo ≤ s.hi∧-1073741824 ≤ s.lo∧s.hi ≤ 1073741824∧last + 1 < s.lo)∧l.Pairwise fun s t=>s.hi + 1 < t.lo
 | [],last=>by simp [Jr]
 | s :: l,last=>by
   rw [Jr,Bool.and_eq_true,decide_eq_true_eq,T7 (l:=l),List.pairwise_cons]
   constructor
   · rintro ⟨h1,h2,h3⟩
     refine ⟨fun t ht=>?_,fun t ht=>(h2 t ht).2.2.2,h3⟩
     rcases List.mem_cons.1 ht with rfl|ht
     · exact h1
     · have:=h2 t ht
       omega
   · rintro ⟨h1,h2,h3⟩
     exact ⟨h1 s (by simp),fun t ht=>⟨(h1 t (by simp [ht])).1,(h1 t (by simp [ht])).2.1,(h1 t (by simp [ht])).2.2.1,h2 t ht⟩,h3⟩
theorem z95 {g:List Span}:Qv g=true ↔ g=Ar g:=by
 rw [Qv,T7]
 constructor
 · rintro ⟨h1,h2⟩
   exact (Lu ⟨fun s hs=>(h1 s hs).1,h2⟩ fun s hs=>⟨(h1 s hs).2.1,(h1 s hs).2.2.1⟩).symm
 · intro h
   have hp:=(Aq g).1
   have hb:=C8 g
   rw [← h] at hp hb
   exact ⟨fun s hs=>by have:=hb s hs;omega,hp.2⟩
def z63 (i:Int) (g:List Span):Bool:=decide (g.length ≠ 0) && (decide (g.length ≤ 64) && (decide (g=Ar g) && decide (Ej g (domL i)=[])))
theorem T8 (i:Int) (g:List Span):z63 i g=Ib i g:=by
 have hc:decide (g=Ar g)=Qv g:=by rw [Bool.eq_iff_iff,decide_eq_true_eq,z95]
 have h1:decide (g.length ≠ 0)=!decide ((g.length:Int)=0):=by
   rw [Bool.eq_iff_iff,Bool.not_eq_true',decide_eq_true_eq,decide_eq_false_iff_not];omega
 have h2:decide (g.length ≤ 64)=decide ((g.length:Int) ≤ 64):=by rw [decide_eq_decide];omega
 rw [z63,Ib,hc,h1,h2]
theorem Ri {i:Int} {gs:List (List Span)} (h:Cy i gs=true):GOk i gs:=by
 obtain ⟨h1,h2⟩:=Fb h
 simp only [Cy,Bool.and_eq_true,List.all_eq_true] at h
 have hg:∀ g ∈ gs,g.length ≠ 0∧g=Ar g∧Ej g (domL i)=[]:=fun g hm=>by
   have:=h.2 g hm
   rw [← T8] at this
   simp only [z63,Bool.and_eq_true,decide_eq_true_eq] at this
   exact ⟨this.1,this.2.2.1,this.2.2.2⟩
 refine ⟨h1,h2,fun g hm=>?_,fun g hm v hv=>?_⟩
 · obtain ⟨g1,g2,g3⟩:=hg g hm
   obtain ⟨s,hs⟩:=List.exists_mem_of_length_pos (show 0 < g.length by omega)
   have hf:=(Aq g).1.1
   rw [← g2] at hf
   exact ⟨s.lo,s,hs,Int.le_refl _,hf s hs⟩
 · obtain ⟨g1,g2,g3⟩:=hg g hm
   have hb:=C8 g
   have hf:=(Aq g).1.1
   rw [← g2] at hb hf
   have hbl:∀ v,memL g v→-1073741824 ≤ v∧v ≤ 1073741824:=fun v ⟨s,hs,hv⟩=>by have:=hb s hs;omega
   exact Ie.1 ((G1 hbl hf).1 g3 v hv)
end Go.Proofs.YticodgjinajkpaaGreat
