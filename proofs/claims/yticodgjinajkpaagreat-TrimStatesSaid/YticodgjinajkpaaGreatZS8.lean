/-
  Parts of the proof that the law holds whatever the input; without conditions.
-/
import Derived.Test.YticodgjinajkpaaGreatZS7
import Derived.Test.YticodgjinajkpaaGreatZS5
set_option linter.unusedSimpArgs false
set_option linter.unusedVariables false
namespace Go.Proofs.YticodgjinajkpaaGreat
open Abs
def fwdE (d:Desc):List (Int × Int):=d.rules.map fun r=>(r.from_,r.to_)
def bwdE (d:Desc):List (Int × Int):=d.rules.map fun r=>(r.to_,r.from_)
def endE (d:Desc):List Int:=d.finals.map (·.from_)
structure Wf (d:Desc):Prop where
 n:∃ n:Nat,d.states=n∧1 ≤ n∧n ≤ 1024
 start:0 ≤ d.start∧d.start < d.states
 rl:d.rules.length ≤ 4096
 fl:d.finals.length ≤ 4096
 r:∀ r ∈ d.rules,(0 ≤ r.from_∧r.from_ < d.states)∧0 ≤ r.to_∧r.to_ < d.states
 f:∀ f ∈ d.finals,0 ≤ f.from_∧f.from_ < d.states
theorem z7g {d:Desc} (h:D7 d=0):Wf d:=by
 obtain ⟨h1,h2,h3⟩:=Su h
 have h4:=zbv h1
 refine ⟨⟨d.states.toNat,by omega,by omega,by omega⟩,h4.2.2.2,h4.2.1,h4.2.2.1,fun r hr=>Vp (h2 r hr),fun f hf=>?_⟩
 have:=h3 f hf
 simp only [Dc,G9,Bool.and_eq_true,decide_eq_true_eq] at this
 exact this.1
theorem Wf.fwd {d:Desc} (h:Wf d) {n:Nat} (hn:d.states=n):InR n [d.start] (fwdE d) where
 f s hs:=by simp only [List.mem_singleton] at hs;subst hs;have:=h.start;omega
 e e he:=by
   obtain ⟨r,hr,rfl⟩:=List.mem_map.1 he
   have:=h.r r hr
   simp only
   omega
theorem Wf.bwd {d:Desc} (h:Wf d) {n:Nat} (hn:d.states=n):InR n (endE d) (bwdE d) where
 f s hs:=by
   obtain ⟨f,hf,rfl⟩:=List.mem_map.1 hs
   have:=h.f f hf
   omega
 e e he:=by
   obtain ⟨r,hr,rfl⟩:=List.mem_map.1 he
   have:=h.r r hr
   simp only
   omega
noncomputable def Fp (d:Desc):List Bool:=Cn d.states.toNat [d.start] (fwdE d)
noncomputable def goL (d:Desc):List Bool:=Cn d.states.toNat (endE d) (bwdE d)
theorem z7h {α β:Type} [Inhabited α] [Inhabited β] {l:List α} {f:α→β} {k:Nat} (h:k < l.length):nth (l.map f) k=f (nth l k):=by
 simp [nth,List.getD,h]
theorem Jz {α β:Type} [Inhabited α] {l:List α} {f:α→β} {k:Nat} (h:k < l.length):(l.map f).take (k + 1)=(l.map f).take k ++ [f (nth l k)]:=by
 rw [← List.map_take,take_at h,List.map_append,List.map_take];rfl
theorem Sv (d:Desc) (h:Wf d):PC Tryz.prog 34 [B8 d] (G8 (Fp d)):=by
 obtain ⟨n,hn,hn1,hn2⟩:=h.n
 have hr:=h.fwd hn
 have hrl:=h.rl
 have pR:=Bu d.rules
 have pF:=Bp d.finals
 have hS:=Qb n [d.start] (fwdE d) hn2 (by simp) (by simp) (by simp [fwdE];omega) hr
 have ec:Fp d=Cn n [d.start] (fwdE d):=by rw [Fp,hn];rfl
 rw [ec]
 have hel:(fwdE d).length=d.rules.length:=by simp [fwdE]
 refine A9 Xf ?_
 unfold Ml
 (repeat' (first|(simp (disch:=omega) only [push_cast,↓zz,seval,pR,pF])|(with_reducible first|refine And.intro ?_ ?_|(first|refine Ab ?_ ?_|refine Aa ?_ ?_)<;>intro hc<;>(try simp only [push_cast] at hc))|omega|with_reducible intro _))
 refine Ao (Aq (fun (k:Nat)=>k ≤ d.rules.length) (fun k=>d.rules.length - k)
   (fun k=>[(1,.ptr 0 1 0 0),(3,.ref 1 1 0 k),(7,Fv d.rules),(8,.int .i64 d.rules.length),(9,.int .i64 k)]) (fun k=>[⟨6,1,true,[B8 d]⟩,⟨2,1,false,((fwdE d).take k).map arcV⟩]) (fun env _=>[Ay 6 (env 1),Ay 2 (env 3)]) 0 (by simp) ?_ ?_)
 · (repeat' (first|(simp (disch:=omega) only [push_cast,↓zz,seval,pR,pF])|(with_reducible first|refine And.intro ?_ ?_|(first|refine Ab ?_ ?_|refine Aa ?_ ?_)<;>intro hc<;>(try simp only [push_cast] at hc))|omega|with_reducible intro _))
 intro k hk
 rcases Nat.lt_or_ge k d.rules.length with hkl|hkl
 · have e1:(fwdE d).take (k + 1)=(fwdE d).take k ++ [((nth d.rules k).from_,(nth d.rules k).to_)]:=Jz hkl
   have hll:((fwdE d).take k).length=k:=by simp [fwdE];omega
   generalize hre:nth d.rules k=r at *
   have hgr:=Ag r.guards
   have hot:=Bh r.out
   have hpl:=Gl ((fwdE d).take k)
   generalize (fwdE d).take k=L at *
   refine W_T ?_
   (repeat' (first|(simp (disch:=omega) only [push_cast,↓zz,seval,pR,pF,hre,hgr,hot])|(with_reducible first|refine And.intro ?_ ?_|(first|refine Ab ?_ ?_|refine Aa ?_ ?_)<;>intro hc<;>(try simp only [push_cast] at hc))|omega|with_reducible intro _))
   all_goals
     refine ⟨k + 1,?_⟩
     (repeat' (first|(simp (disch:=omega) only [push_cast,↓zz,seval,e1,hpl])|(with_reducible first|refine And.intro ?_ ?_|(first|refine Ab ?_ ?_|refine Aa ?_ ?_)<;>intro hc<;>(try simp only [push_cast] at hc))|omega|with_reducible intro _))
 · obtain rfl:k=d.rules.length:=by omega
   have et:(fwdE d).take d.rules.length=fwdE d:=List.take_of_length_le (by omega)
   have pE:=Gl (fwdE d)
   rw [et]
   refine W_T ?_
   (repeat' (first|(simp (disch:=omega) only [push_cast,↓zz,seval,pR,pF,hn,pE,hel,et])|(with_reducible first|refine And.intro ?_ ?_|(first|refine Ab ?_ ?_|refine Aa ?_ ?_)<;>intro hc<;>(try simp only [push_cast] at hc)|refine eK hS ?_|refine eQ hS ?_|refine eG hS ?_)|((with_reducible first|refine cK hS ?_|refine cQ hS ?_|refine cG hS ?_);(simp (disch:=omega) only [push_cast,↓zz,seval,pR,pF,hn,pE,hel,et]);(fail_if_success with_reducible change False))|omega|with_reducible intro _))
   all_goals trace_state
theorem Qh (d:Desc) (h:Wf d):PC Tryz.prog 35 [B8 d] (G8 (goL d)):=by
 obtain ⟨n,hn,hn1,hn2⟩:=h.n
 have hr:=h.bwd hn
 have hrl:=h.rl
 have hfl:=h.fl
 have pR:=Bu d.rules
 have pF:=Bp d.finals
 have ec:goL d=Cn n (endE d) (bwdE d):=by rw [goL,hn];rfl
 rw [ec]
 have hel:(bwdE d).length=d.rules.length:=by simp [bwdE]
 have hfl2:(endE d).length=d.finals.length:=by simp [endE]
 refine A9 Uh ?_
 unfold Ki
 (repeat' (first|(simp (disch:=omega) only [push_cast,↓zz,seval,pR,pF])|(with_reducible first|refine And.intro ?_ ?_|(first|refine Ab ?_ ?_|refine Aa ?_ ?_)<;>intro hc<;>(try simp only [push_cast] at hc))|omega|with_reducible intro _))
 refine Ao (Aq (fun (k:Nat)=>k ≤ d.rules.length) (fun k=>d.rules.length - k)
   (fun k=>[(1,.ptr 0 1 0 0),(3,.ref 1 1 0 k),(4,.nilS),(10,Fv d.rules),(11,.int .i64 d.rules.length),(12,.int .i64 k)]) (fun k=>[⟨6,1,true,[B8 d]⟩,⟨2,1,false,((bwdE d).take k).map arcV⟩]) (fun env _=>[Ay 6 (env 1),Ay 2 (env 3)]) 0 (by simp) ?_ ?_)
 · (repeat' (first|(simp (disch:=omega) only [push_cast,↓zz,seval,pR,pF])|(with_reducible first|refine And.intro ?_ ?_|(first|refine Ab ?_ ?_|refine Aa ?_ ?_)<;>intro hc<;>(try simp only [push_cast] at hc))|omega|with_reducible intro _))
 intro k hk
 rcases Nat.lt_or_ge k d.rules.length with hkl|hkl
 · have e1:(bwdE d).take (k + 1)=(bwdE d).take k ++ [((nth d.rules k).to_,(nth d.rules k).from_)]:=Jz hkl
   have hll:((bwdE d).take k).length=k:=by simp [bwdE];omega
   generalize hre:nth d.rules k=r at *
   have hgr:=Ag r.guards
   have hot:=Bh r.out
   have hpl:=Gl ((bwdE d).take k)
   generalize (bwdE d).take k=L at *
   refine W_T ?_
   (repeat' (first|(simp (disch:=omega) only [push_cast,↓zz,seval,pR,pF,hre,hgr,hot])|(with_reducible first|refine And.intro ?_ ?_|(first|refine Ab ?_ ?_|refine Aa ?_ ?_)<;>intro hc<;>(try simp only [push_cast] at hc))|omega|with_reducible intro _))
   all_goals
     refine ⟨k + 1,?_⟩
     (repeat' (first|(simp (disch:=omega) only [push_cast,↓zz,seval,e1,hpl])|(with_reducible first|refine And.intro ?_ ?_|(first|refine Ab ?_ ?_|refine Aa ?_ ?_)<;>intro hc<;>(try simp only [push_cast] at hc))|omega|with_reducible intro _))
 · obtain rfl:k=d.rules.length:=by omega
   have et:(bwdE d).take d.rules.length=bwdE d:=List.take_of_length_le (by omega)
   have pE:=Gl (bwdE d)
   rw [et]
   clear hk hkl
   refine W_T ?_
   (repeat' (first|(simp (disch:=omega) only [push_cast,↓zz,seval,pR,pF,hn,pE,hel,et])|(with_reducible first|refine And.intro ?_ ?_|(first|refine Ab ?_ ?_|refine Aa ?_ ?_)<;>intro hc<;>(try simp only [push_cast] at hc))|omega|with_reducible intro _))
   by_cases hfe:d.finals=[]
   · have hfe2:endE d=[]:=by rw [endE,hfe];rfl
     rw [hfe2] at hr ⊢
     have hS:=z7b n (bwdE d) hn2 (by omega) hr
     have hfe3:d.finals.length=0:=by rw [hfe];rfl
     refine Ao (Aq (fun (_:Unit)=>True) (fun _=>0)
       (fun k=>[(1,.ptr 0 1 0 0),(3,.ref 1 1 0 d.rules.length),(4,.nilS),(26,Ou d.finals),(27,.int .i64 d.finals.length),(28,.int .i64 0)]) (fun k=>[⟨6,1,true,[B8 d]⟩,⟨2,1,false,(bwdE d).map arcV⟩]) (fun env _=>[Ay 6 (env 1),Ay 2 (env 3)]) () trivial ?_ ?_)
     · (repeat' (first|(simp (disch:=omega) only [push_cast,↓zz,seval,pR,pF,pE])|(with_reducible first|refine And.intro ?_ ?_|(first|refine Ab ?_ ?_|refine Aa ?_ ?_)<;>intro hc<;>(try simp only [push_cast] at hc))|omega|with_reducible intro _))
     rintro ⟨⟩ _
     refine W_T ?_
     (repeat' (first|(simp (disch:=omega) only [push_cast,↓zz,seval,pR,pF,hn,pE,hel,et])|(with_reducible first|refine And.intro ?_ ?_|(first|refine Ab ?_ ?_|refine Aa ?_ ?_)<;>intro hc<;>(try simp only [push_cast] at hc)|refine eK hS ?_|refine eQ hS ?_|refine eG hS ?_)|((with_reducible first|refine cK hS ?_|refine cQ hS ?_|refine cG hS ?_);(simp (disch:=omega) only [push_cast,↓zz,seval,pR,pF,hn,pE,hel,et]);(fail_if_success with_reducible change False))|omega|with_reducible intro _))
     all_goals first|omega|trace_state
   · have hne:endE d ≠ []:=by simp [endE,hfe]
     have hS:=Qb n (endE d) (bwdE d) hn2 hne (by omega) (by omega) hr
     refine Ao (Aq (fun (k:Nat)=>k ≤ d.finals.length) (fun k=>d.finals.length - k)
       (fun k=>[(1,.ptr 0 1 0 0),(3,.ref 1 1 0 d.rules.length),(4,.ref 2 1 0 k),(26,Ou d.finals),(27,.int .i64 d.finals.length),(28,.int .i64 k)]) (fun k=>[⟨6,1,true,[B8 d]⟩,⟨2,1,false,(bwdE d).map arcV⟩,⟨1,1,false,((endE d).take k).map (AV.int .i64)⟩]) (fun env _=>[Ay 6 (env 1),Ay 2 (env 3),Ay 1 (env 4)]) 0 (by simp) ?_ ?_)
     · (repeat' (first|(simp (disch:=omega) only [push_cast,↓zz,seval,pR,pF,pE])|(with_reducible first|refine And.intro ?_ ?_|(first|refine Ab ?_ ?_|refine Aa ?_ ?_)<;>intro hc<;>(try simp only [push_cast] at hc))|omega|with_reducible intro _))
     intro k hk
     rcases Nat.lt_or_ge k d.finals.length with hkl|hkl
     · have e1:(endE d).take (k + 1)=(endE d).take k ++ [(nth d.finals k).from_]:=Jz hkl
       have hll:((endE d).take k).length=k:=by simp;omega
       generalize hre:nth d.finals k=r at *
       have hgr:=Ag r.guards
       have hot:=Bh r.out
       generalize (endE d).take k=L at *
       refine W_T ?_
       (repeat' (first|(simp (disch:=omega) only [push_cast,↓zz,seval,pR,pF,pE,hel,hre,hgr,hot])|(with_reducible first|refine And.intro ?_ ?_|(first|refine Ab ?_ ?_|refine Aa ?_ ?_)<;>intro hc<;>(try simp only [push_cast] at hc))|omega|with_reducible intro _))
       all_goals
         refine ⟨k + 1,?_⟩
         (repeat' (first|(simp (disch:=omega) only [push_cast,↓zz,seval,e1,hel])|(with_reducible first|refine And.intro ?_ ?_|(first|refine Ab ?_ ?_|refine Aa ?_ ?_)<;>intro hc<;>(try simp only [push_cast] at hc))|omega|with_reducible intro _))
     · obtain rfl:k=d.finals.length:=by omega
       have et3:(endE d).take d.finals.length=endE d:=List.take_of_length_le (by omega)
       have pI:Ax ((endE d).map (AV.int .i64))=true:=Cj .i64 _
       rw [et3]
       clear hk hkl
       refine W_T ?_
       (repeat' (first|(simp (disch:=omega) only [push_cast,↓zz,seval,pR,pF,hn,pE,hel,pI,hfl2,et,et3])|(with_reducible first|refine And.intro ?_ ?_|(first|refine Ab ?_ ?_|refine Aa ?_ ?_)<;>intro hc<;>(try simp only [push_cast] at hc)|refine eK hS ?_|refine eQ hS ?_|refine eG hS ?_)|((with_reducible first|refine cK hS ?_|refine cQ hS ?_|refine cG hS ?_);(simp (disch:=omega) only [push_cast,↓zz,seval,pR,pF,hn,pE,hel,pI,hfl2,et,et3]);(fail_if_success with_reducible change False))|omega|with_reducible intro _))
       all_goals trace_state
def Eo (l:List Bool) (k:Nat):List Int:=((List.range k).filter fun i=>nth l i).map fun i:Nat=>(i:Int)
theorem Iw (l:List Bool) (k:Nat):Eo l (k + 1)=if nth l k=true then Eo l k ++ [(k:Int)] else Eo l k:=by
 simp only [Eo,List.range_succ,List.filter_append,List.map_append,List.filter_cons,List.filter_nil]
 split<;>simp_all
theorem Qi (l:List Bool) (k:Nat):(Eo l k).length ≤ k:=by
 have:=List.length_filter_le (fun i=>nth l i) (List.range k)
 simpa [Eo] using this
theorem Do (l:List Bool):Ax (l.map AV.bool)=true:=Dg (fun _=>rfl) l
theorem Yu (l:List Bool) (hl:l.length ≤ 1000000):PC Tryz.prog 33 [G8 l] (Cv (Eo l l.length)):=by
 have pB:=Do l
 refine A9 Zt ?_
 unfold Ow
 (repeat' (first|(simp (disch:=omega) only [push_cast,↓zz,seval,pB])|(with_reducible first|refine And.intro ?_ ?_|(first|refine Ab ?_ ?_|refine Aa ?_ ?_)<;>intro hc<;>(try simp only [push_cast] at hc))|omega|with_reducible intro _))
 refine Ao (Aq (fun (k:Nat)=>k ≤ l.length) (fun k=>l.length - k)
   (fun k=>[(3,.ref 0 1 0 (Eo l k).length),(6,G8 l),(7,.int .i64 l.length),(8,.int .i64 k)]) (fun k=>[⟨1,1,false,(Eo l k).map (AV.int .i64)⟩]) (fun env _=>[Ay 1 (env 3)]) 0 (by simp) ?_ ?_)
 · have e0:Eo l 0=[]:=rfl
   (repeat' (first|(simp (disch:=omega) only [push_cast,↓zz,seval,pB,e0])|(with_reducible first|refine And.intro ?_ ?_|(first|refine Ab ?_ ?_|refine Aa ?_ ?_)<;>intro hc<;>(try simp only [push_cast] at hc))|omega|with_reducible intro _))
 intro k hk
 have hm:=Qi l k
 have pM:Ax ((Eo l k).map (AV.int .i64))=true:=Cj .i64 _
 rcases Nat.lt_or_ge k l.length with hkl|hkl
 · have hs:=Iw l k
   generalize Eo l k=L at *
   refine W_T ?_
   cases hx:nth l k with
   | true =>
     rw [hx,if_pos rfl] at hs
     (repeat' (first|(simp (disch:=omega) only [push_cast,↓zz,seval,pB,hx])|(with_reducible first|refine And.intro ?_ ?_|(first|refine Ab ?_ ?_|refine Aa ?_ ?_)<;>intro hc<;>(try simp only [push_cast] at hc))|omega|with_reducible intro _))
     all_goals
       refine ⟨k + 1,?_⟩
       (repeat' (first|(simp (disch:=omega) only [push_cast,↓zz,seval,hs,pM])|(with_reducible first|refine And.intro ?_ ?_|(first|refine Ab ?_ ?_|refine Aa ?_ ?_)<;>intro hc<;>(try simp only [push_cast] at hc))|omega|with_reducible intro _))
   | false =>
     rw [hx,if_neg (by simp)] at hs
     (repeat' (first|(simp (disch:=omega) only [push_cast,↓zz,seval,pB,hx])|(with_reducible first|refine And.intro ?_ ?_|(first|refine Ab ?_ ?_|refine Aa ?_ ?_)<;>intro hc<;>(try simp only [push_cast] at hc))|omega|with_reducible intro _))
     all_goals
       refine ⟨k + 1,?_⟩
       (repeat' (first|(simp (disch:=omega) only [push_cast,↓zz,seval,hs,pM])|(with_reducible first|refine And.intro ?_ ?_|(first|refine Ab ?_ ?_|refine Aa ?_ ?_)<;>intro hc<;>(try simp only [push_cast] at hc))|omega|with_reducible intro _))
 · obtain rfl:k=l.length:=by omega
   generalize Eo l l.length=L at *
   refine W_T ?_
   (repeat' (first|(simp (disch:=omega) only [push_cast,↓zz,seval,pB,pM])|(with_reducible first|refine And.intro ?_ ?_|(first|refine Ab ?_ ?_|refine Aa ?_ ?_)<;>intro hc<;>(try simp only [push_cast] at hc))|omega|with_reducible intro _))
   all_goals trace_state
theorem Ld (d:Desc):(Fp d).length=d.states.toNat:=Em _ _ _
theorem Vr (d:Desc):(goL d).length=d.states.toNat:=Em _ _ _
noncomputable def Jd (d:Desc):List Int:=Eo (Fp d) d.states.toNat
noncomputable def Q5 (d:Desc):List Int:=Eo (goL d) d.states.toNat
theorem Sw (d:Desc) (hf:F9 d) (h:D7 d=0):PC Tryz.prog 14 [B8 d] (.tup [Cv (Jd d),.int .i64 0]):=by
 have hw:=z7g h
 obtain ⟨n,hn,hn1,hn2⟩:=hw.n
 have hC:=Gp d hf
 rw [h] at hC
 have h1:=Sv d hw
 have h2:=Yu (Fp d) (by rw [Ld];omega)
 rw [Ld] at h2
 change PC _ _ _ (Cv (Jd d)) at h2
 have pR:=Bu d.rules
 have pF:=Bp d.finals
 have pB:=Do (Fp d)
 have pI:Ax ((Jd d).map (AV.int .i64))=true:=Cj .i64 _
 generalize Fp d=L at *
 generalize Jd d=M at *
 refine A9 Mg ?_
 unfold Hl
 (repeat' (first|(simp (disch:=omega) only [push_cast,↓zz,seval,pR,pF,pB,pI])|(with_reducible first|refine And.intro ?_ ?_|(first|refine Ab ?_ ?_|refine Aa ?_ ?_)<;>intro hc<;>(try simp only [push_cast] at hc)|refine eK hC ?_|refine eQ hC ?_|refine eG hC ?_|refine eK h1 ?_|refine eQ h1 ?_|refine eG h1 ?_|refine eK h2 ?_|refine eQ h2 ?_|refine eG h2 ?_)|((with_reducible first|refine cK hC ?_|refine cQ hC ?_|refine cG hC ?_);(simp (disch:=omega) only [push_cast,↓zz,seval,pR,pF,pB,pI]);(fail_if_success with_reducible change False))|((with_reducible first|refine cK h1 ?_|refine cQ h1 ?_|refine cG h1 ?_);(simp (disch:=omega) only [push_cast,↓zz,seval,pR,pF,pB,pI]);(fail_if_success with_reducible change False))|((with_reducible first|refine cK h2 ?_|refine cQ h2 ?_|refine cG h2 ?_);(simp (disch:=omega) only [push_cast,↓zz,seval,pR,pF,pB,pI]);(fail_if_success with_reducible change False))|omega|with_reducible intro _))
 all_goals trace_state
theorem Qj (d:Desc) (hf:F9 d) (h:D7 d=0):PC Tryz.prog 15 [B8 d] (.tup [Cv (Q5 d),.int .i64 0]):=by
 have hw:=z7g h
 obtain ⟨n,hn,hn1,hn2⟩:=hw.n
 have hC:=Gp d hf
 rw [h] at hC
 have h1:=Qh d hw
 have h2:=Yu (goL d) (by rw [Vr];omega)
 rw [Vr] at h2
 change PC _ _ _ (Cv (Q5 d)) at h2
 have pR:=Bu d.rules
 have pF:=Bp d.finals
 have pB:=Do (goL d)
 have pI:Ax ((Q5 d).map (AV.int .i64))=true:=Cj .i64 _
 generalize goL d=L at *
 generalize Q5 d=M at *
 refine A9 Kf ?_
 unfold Gz
 (repeat' (first|(simp (disch:=omega) only [push_cast,↓zz,seval,pR,pF,pB,pI])|(with_reducible first|refine And.intro ?_ ?_|(first|refine Ab ?_ ?_|refine Aa ?_ ?_)<;>intro hc<;>(try simp only [push_cast] at hc)|refine eK hC ?_|refine eQ hC ?_|refine eG hC ?_|refine eK h1 ?_|refine eQ h1 ?_|refine eG h1 ?_|refine eK h2 ?_|refine eQ h2 ?_|refine eG h2 ?_)|((with_reducible first|refine cK hC ?_|refine cQ hC ?_|refine cG hC ?_);(simp (disch:=omega) only [push_cast,↓zz,seval,pR,pF,pB,pI]);(fail_if_success with_reducible change False))|((with_reducible first|refine cK h1 ?_|refine cQ h1 ?_|refine cG h1 ?_);(simp (disch:=omega) only [push_cast,↓zz,seval,pR,pF,pB,pI]);(fail_if_success with_reducible change False))|((with_reducible first|refine cK h2 ?_|refine cQ h2 ?_|refine cG h2 ?_);(simp (disch:=omega) only [push_cast,↓zz,seval,pR,pF,pB,pI]);(fail_if_success with_reducible change False))|omega|with_reducible intro _))
 all_goals trace_state
theorem Vs (d:Desc) (hf:F9 d) (h:¬ D7 d=0):PC Tryz.prog 14 [B8 d] (.tup [.nilS,.int .i64 2]):=by
 have hC:=Gp d hf
 have e:D7 d=2:=by
   unfold D7 at h ⊢
   split at h
   · exact absurd rfl h
   · rw [if_neg (by assumption)]
 rw [e] at hC
 have pR:=Bu d.rules
 have pF:=Bp d.finals
 refine A9 Mg ?_
 unfold Hl
 (repeat' (first|(simp (disch:=omega) only [push_cast,↓zz,seval,pR,pF])|(with_reducible first|refine And.intro ?_ ?_|(first|refine Ab ?_ ?_|refine Aa ?_ ?_)<;>intro hc<;>(try simp only [push_cast] at hc)|refine eK hC ?_|refine eQ hC ?_|refine eG hC ?_)|((with_reducible first|refine cK hC ?_|refine cQ hC ?_|refine cG hC ?_);(simp (disch:=omega) only [push_cast,↓zz,seval,pR,pF]);(fail_if_success with_reducible change False))|omega|with_reducible intro _))
 all_goals trace_state
theorem Q6 (d:Desc) (hf:F9 d) (h:¬ D7 d=0):PC Tryz.prog 15 [B8 d] (.tup [.nilS,.int .i64 2]):=by
 have hC:=Gp d hf
 have e:D7 d=2:=by
   unfold D7 at h ⊢
   split at h
   · exact absurd rfl h
   · rw [if_neg (by assumption)]
 rw [e] at hC
 have pR:=Bu d.rules
 have pF:=Bp d.finals
 refine A9 Kf ?_
 unfold Gz
 (repeat' (first|(simp (disch:=omega) only [push_cast,↓zz,seval,pR,pF])|(with_reducible first|refine And.intro ?_ ?_|(first|refine Ab ?_ ?_|refine Aa ?_ ?_)<;>intro hc<;>(try simp only [push_cast] at hc)|refine eK hC ?_|refine eQ hC ?_|refine eG hC ?_)|((with_reducible first|refine cK hC ?_|refine cQ hC ?_|refine cG hC ?_);(simp (disch:=omega) only [push_cast,↓zz,seval,pR,pF]);(fail_if_success with_reducible change False))|omega|with_reducible intro _))
 all_goals trace_state
theorem Le (l:List (List Span)) (h0:l ≠ []) (hl:l.length ≤ 1000000000000):Bl Tryz.prog 59 [Al l] (Abs.hl []) fun y H'=>y=.ref 0 2 0 l.length∧H'=Abs.hl [⟨1,2,false,l.map Ad⟩]:=by
 refine Fx (b:=0) B9 rfl ?_
 unfold Bt
 have hne:(l.map Ad).isEmpty=false:=by
   cases l with
   | nil=>exact absurd rfl h0
   | cons _ _=>rfl
 have hp:=Ag l
 (repeat' (first|(simp (disch:=omega) only [push_cast,↓zz,seval,hne,hp])|(with_reducible first|refine And.intro ?_ ?_|(first|refine Ab ?_ ?_|refine Aa ?_ ?_)<;>intro hc<;>(try simp only [push_cast] at hc))|omega|with_reducible intro _))
 all_goals trace_state
theorem Na (l:List Term) (h0:l ≠ []) (hl:l.length ≤ 1000000000000):Bl Tryz.prog 60 [C5 l] (Abs.hl []) fun y H'=>y=.ref 0 2 0 l.length∧H'=Abs.hl [⟨6,2,false,l.map B2⟩]:=by
 refine Fx (b:=0) Ci rfl ?_
 unfold Bz
 have hne:(l.map B2).isEmpty=false:=by
   cases l with
   | nil=>exact absurd rfl h0
   | cons _ _=>rfl
 have hp:=Bh l
 (repeat' (first|(simp (disch:=omega) only [push_cast,↓zz,seval,hne,hp])|(with_reducible first|refine And.intro ?_ ?_|(first|refine Ab ?_ ?_|refine Aa ?_ ?_)<;>intro hc<;>(try simp only [push_cast] at hc))|omega|with_reducible intro _))
 all_goals trace_state
theorem Aj:PC Tryz.prog 59 [Al []] (Al []):=by
 refine z2i ?_ ?_
 · refine A9 B9 ?_
   unfold Bt
   (repeat' (first|(simp (disch:=omega) only [push_cast,↓zz,seval])|(with_reducible first|refine And.intro ?_ ?_|(first|refine Ab ?_ ?_|refine Aa ?_ ?_)<;>intro hc<;>(try simp only [push_cast] at hc))|omega|with_reducible intro _))
 · refine A9 B9 ?_
   unfold Bt
   (repeat' (first|(simp (disch:=omega) only [push_cast,↓zz,seval])|(with_reducible first|refine And.intro ?_ ?_|(first|refine Ab ?_ ?_|refine Aa ?_ ?_)<;>intro hc<;>(try simp only [push_cast] at hc))|omega|with_reducible intro _))
theorem An:PC Tryz.prog 60 [C5 []] (C5 []):=by
 refine z2i ?_ ?_
 · refine A9 Ci ?_
   unfold Bz
   (repeat' (first|(simp (disch:=omega) only [push_cast,↓zz,seval])|(with_reducible first|refine And.intro ?_ ?_|(first|refine Ab ?_ ?_|refine Aa ?_ ?_)<;>intro hc<;>(try simp only [push_cast] at hc))|omega|with_reducible intro _))
 · refine A9 Ci ?_
   unfold Bz
   (repeat' (first|(simp (disch:=omega) only [push_cast,↓zz,seval])|(with_reducible first|refine And.intro ?_ ?_|(first|refine Ab ?_ ?_|refine Aa ?_ ?_)<;>intro hc<;>(try simp only [push_cast] at hc))|omega|with_reducible intro _))
theorem G7 {α β:Type} [Inhabited α] {l:List α} {f:α→β} {k:Nat} (h:k < l.length):(l.map f).set k (f (nth l k))=l.map f:=by
 have e:(l.map f)[k]'(by simpa using h)=f (nth l k):=by simp [nth,List.getD,h]
 rw [← e,List.set_getElem_self]
theorem zgr (gs:List (List Span)) (out:List Term) (hgn:gs.length ≤ 1000000) (hgl:∀ g ∈ gs,g.length ≤ 1000000) (hon:out.length ≤ 1000000) (hol:∀ t ∈ out,t.parts.length ≤ 1000000) :
   PC Tryz.prog 36 [Al gs,C5 out] (.tup [Al gs,C5 out]):=by
 have pG:=Ag gs
 have pT:=Bh out
 refine A9 z61 ?_
 unfold R6
 by_cases hg:gs=[]
 · subst hg
   by_cases ho:out=[]
   · subst ho
     (repeat' (first|(simp (disch:=omega) only [push_cast,↓zz,seval,pG,pT])|(with_reducible first|refine And.intro ?_ ?_|(first|refine Ab ?_ ?_|refine Aa ?_ ?_)<;>intro hc<;>(try simp only [push_cast] at hc)|refine eK Aj ?_|refine eQ Aj ?_|refine eG Aj ?_|refine eK An ?_|refine eQ An ?_|refine eG An ?_)|((with_reducible first|refine cK Aj ?_|refine cQ Aj ?_|refine cG Aj ?_);(simp (disch:=omega) only [push_cast,↓zz,seval,pG,pT]);(fail_if_success with_reducible change False))|((with_reducible first|refine cK An ?_|refine cQ An ?_|refine cG An ?_);(simp (disch:=omega) only [push_cast,↓zz,seval,pG,pT]);(fail_if_success with_reducible change False))|omega|with_reducible intro _))
     refine Ao (Aq (fun (_:Unit)=>True) (fun _=>0) (fun k=>[(0,.lst 1 []),(1,.lst 6 []),(13,.int .i64 0),(14,.int .i64 0)]) (fun k=>[]) (fun env _=>[]) () trivial ?_ ?_)
     · (repeat' (first|(simp (disch:=omega) only [push_cast,↓zz,seval,pG,pT])|(with_reducible first|refine And.intro ?_ ?_|(first|refine Ab ?_ ?_|refine Aa ?_ ?_)<;>intro hc<;>(try simp only [push_cast] at hc))|omega|with_reducible intro _))
     rintro ⟨⟩ _
     refine W_T ?_
     (repeat' (first|(simp (disch:=omega) only [push_cast,↓zz,seval,pG,pT])|(with_reducible first|refine And.intro ?_ ?_|(first|refine Ab ?_ ?_|refine Aa ?_ ?_)<;>intro hc<;>(try simp only [push_cast] at hc)|refine eK Aj ?_|refine eQ Aj ?_|refine eG Aj ?_|refine eK An ?_|refine eQ An ?_|refine eG An ?_)|((with_reducible first|refine cK Aj ?_|refine cQ Aj ?_|refine cG Aj ?_);(simp (disch:=omega) only [push_cast,↓zz,seval,pG,pT]);(fail_if_success with_reducible change False))|((with_reducible first|refine cK An ?_|refine cQ An ?_|refine cG An ?_);(simp (disch:=omega) only [push_cast,↓zz,seval,pG,pT]);(fail_if_success with_reducible change False))|omega|with_reducible intro _))
     refine Ao (Aq (fun (_:Unit)=>True) (fun _=>0) (fun k=>[(0,.lst 1 []),(1,.lst 6 []),(27,.int .i64 0),(28,.int .i64 0)]) (fun k=>[]) (fun env _=>[]) () trivial ?_ ?_)
     · (repeat' (first|(simp (disch:=omega) only [push_cast,↓zz,seval,pG,pT])|(with_reducible first|refine And.intro ?_ ?_|(first|refine Ab ?_ ?_|refine Aa ?_ ?_)<;>intro hc<;>(try simp only [push_cast] at hc))|omega|with_reducible intro _))
     rintro ⟨⟩ _
     refine W_T ?_
     (repeat' (first|(simp (disch:=omega) only [push_cast,↓zz,seval,pG,pT])|(with_reducible first|refine And.intro ?_ ?_|(first|refine Ab ?_ ?_|refine Aa ?_ ?_)<;>intro hc<;>(try simp only [push_cast] at hc)|refine eK Aj ?_|refine eQ Aj ?_|refine eG Aj ?_|refine eK An ?_|refine eQ An ?_|refine eG An ?_)|((with_reducible first|refine cK Aj ?_|refine cQ Aj ?_|refine cG Aj ?_);(simp (disch:=omega) only [push_cast,↓zz,seval,pG,pT]);(fail_if_success with_reducible change False))|((with_reducible first|refine cK An ?_|refine cQ An ?_|refine cG An ?_);(simp (disch:=omega) only [push_cast,↓zz,seval,pG,pT]);(fail_if_success with_reducible change False))|omega|with_reducible intro _))
     all_goals (try simp only [Al,C5,List.map_nil])
     all_goals (repeat' (first|(simp (disch:=omega) only [push_cast,↓zz,seval,Bm])|omega|(with_reducible refine And.intro ?_ ?_)))
   · skip
     (repeat' (first|(simp (disch:=omega) only [push_cast,↓zz,seval,pG,pT])|(with_reducible first|refine And.intro ?_ ?_|(first|refine Ab ?_ ?_|refine Aa ?_ ?_)<;>intro hc<;>(try simp only [push_cast] at hc)|refine eK Aj ?_|refine eQ Aj ?_|refine eG Aj ?_)|((with_reducible first|refine cK Aj ?_|refine cQ Aj ?_|refine cG Aj ?_);(simp (disch:=omega) only [push_cast,↓zz,seval,pG,pT]);(fail_if_success with_reducible change False))|omega|with_reducible intro _))
     (refine Hj [] (Na out ho (by omega)) (by decide) (by simp) (by (simp (disch:=omega) only [push_cast,↓zz,seval])) (by (simp (disch:=omega) only [push_cast,↓zz,seval])) (by (simp (disch:=omega) only [push_cast,↓zz,seval])) (by (simp (disch:=omega) only [push_cast,↓zz,seval,List.mem_cons,List.not_mem_nil,or_false,forall_eq_or_imp,forall_eq,List.forall_mem_nil])) ?_)
     rintro y H' ⟨rfl,rfl⟩
     refine ⟨_,rfl,by simp,?_⟩
     (repeat' (first|(simp (disch:=omega) only [push_cast,↓zz,seval,pG,pT])|(with_reducible first|refine And.intro ?_ ?_|(first|refine Ab ?_ ?_|refine Aa ?_ ?_)<;>intro hc<;>(try simp only [push_cast] at hc)|refine eK Aj ?_|refine eQ Aj ?_|refine eG Aj ?_)|((with_reducible first|refine cK Aj ?_|refine cQ Aj ?_|refine cG Aj ?_);(simp (disch:=omega) only [push_cast,↓zz,seval,pG,pT]);(fail_if_success with_reducible change False))|omega|with_reducible intro _))
     refine Ao (Aq (fun (_:Unit)=>True) (fun _=>0) (fun k=>[(0,.lst 1 []),(1,.ref 0 1 0 out.length),(13,.int .i64 0),(14,.int .i64 0)]) (fun k=>[⟨6,1,false,out.map B2⟩]) (fun env _=>[Ay 6 (env 1)]) () trivial ?_ ?_)
     · (repeat' (first|(simp (disch:=omega) only [push_cast,↓zz,seval,pG,pT])|(with_reducible first|refine And.intro ?_ ?_|(first|refine Ab ?_ ?_|refine Aa ?_ ?_)<;>intro hc<;>(try simp only [push_cast] at hc))|omega|with_reducible intro _))
     rintro ⟨⟩ _
     refine W_T ?_
     (repeat' (first|(simp (disch:=omega) only [push_cast,↓zz,seval,pG,pT])|(with_reducible first|refine And.intro ?_ ?_|(first|refine Ab ?_ ?_|refine Aa ?_ ?_)<;>intro hc<;>(try simp only [push_cast] at hc)|refine eK Aj ?_|refine eQ Aj ?_|refine eG Aj ?_)|((with_reducible first|refine cK Aj ?_|refine cQ Aj ?_|refine cG Aj ?_);(simp (disch:=omega) only [push_cast,↓zz,seval,pG,pT]);(fail_if_success with_reducible change False))|omega|with_reducible intro _))
     refine Ao (Aq (fun (k:Nat)=>k ≤ out.length) (fun k=>out.length - k) (fun k=>[(0,.lst 1 []),(1,.ref 0 1 0 out.length),(27,.int .i64 out.length),(28,.int .i64 k)]) (fun k=>[⟨6,1,false,out.map B2⟩]) (fun env _=>[Ay 6 (env 1)]) 0 (by simp) ?_ ?_)
     · (repeat' (first|(simp (disch:=omega) only [push_cast,↓zz,seval,pG,pT])|(with_reducible first|refine And.intro ?_ ?_|(first|refine Ab ?_ ?_|refine Aa ?_ ?_)<;>intro hc<;>(try simp only [push_cast] at hc))|omega|with_reducible intro _))
     intro k hk
     rcases Nat.lt_or_ge k out.length with hkl|hkl
     · have hm:=hol _ (Aw hkl)
       have hset:(out.map B2).set k (B2 (nth out k))=out.map B2:=G7 hkl
       generalize hne:nth out k=x at *
       have hC:=Pn x.parts (by omega)
       have hpx:=Fc x.parts
       refine W_T ?_
       (repeat' (first|(simp (disch:=omega) only [push_cast,↓zz,seval,pG,pT,hne,hset,hpx])|(with_reducible first|refine And.intro ?_ ?_|(first|refine Ab ?_ ?_|refine Aa ?_ ?_)<;>intro hc<;>(try simp only [push_cast] at hc)|refine eK hC ?_|refine eQ hC ?_|refine eG hC ?_)|((with_reducible first|refine cK hC ?_|refine cQ hC ?_|refine cG hC ?_);(simp (disch:=omega) only [push_cast,↓zz,seval,pG,pT,hne,hset,hpx]);(fail_if_success with_reducible change False))|omega|with_reducible intro _))
       all_goals
         refine ⟨k + 1,?_⟩
         (repeat' (first|(simp (disch:=omega) only [push_cast,↓zz,seval,pG,pT])|(with_reducible first|refine And.intro ?_ ?_|(first|refine Ab ?_ ?_|refine Aa ?_ ?_)<;>intro hc<;>(try simp only [push_cast] at hc))|omega|with_reducible intro _))
     obtain rfl:k=out.length:=by omega
     refine W_T ?_
     (repeat' (first|(simp (disch:=omega) only [push_cast,↓zz,seval,pG,pT])|(with_reducible first|refine And.intro ?_ ?_|(first|refine Ab ?_ ?_|refine Aa ?_ ?_)<;>intro hc<;>(try simp only [push_cast] at hc)|refine eK Aj ?_|refine eQ Aj ?_|refine eG Aj ?_)|((with_reducible first|refine cK Aj ?_|refine cQ Aj ?_|refine cG Aj ?_);(simp (disch:=omega) only [push_cast,↓zz,seval,pG,pT]);(fail_if_success with_reducible change False))|omega|with_reducible intro _))
     all_goals (try simp only [Al,C5,List.map_nil])
     all_goals (repeat' (first|(simp (disch:=omega) only [push_cast,↓zz,seval,Bm])|omega|(with_reducible refine And.intro ?_ ?_)))
 · by_cases ho:out=[]
   · subst ho
     (repeat' (first|(simp (disch:=omega) only [push_cast,↓zz,seval,pG,pT])|(with_reducible first|refine And.intro ?_ ?_|(first|refine Ab ?_ ?_|refine Aa ?_ ?_)<;>intro hc<;>(try simp only [push_cast] at hc)|refine eK An ?_|refine eQ An ?_|refine eG An ?_)|((with_reducible first|refine cK An ?_|refine cQ An ?_|refine cG An ?_);(simp (disch:=omega) only [push_cast,↓zz,seval,pG,pT]);(fail_if_success with_reducible change False))|omega|with_reducible intro _))
     (refine Hj [] (Le gs hg (by omega)) (by decide) (by simp) (by (simp (disch:=omega) only [push_cast,↓zz,seval])) (by (simp (disch:=omega) only [push_cast,↓zz,seval])) (by (simp (disch:=omega) only [push_cast,↓zz,seval])) (by (simp (disch:=omega) only [push_cast,↓zz,seval,List.mem_cons,List.not_mem_nil,or_false,forall_eq_or_imp,forall_eq,List.forall_mem_nil])) ?_)
     rintro y H' ⟨rfl,rfl⟩
     refine ⟨_,rfl,by simp,?_⟩
     (repeat' (first|(simp (disch:=omega) only [push_cast,↓zz,seval,pG,pT])|(with_reducible first|refine And.intro ?_ ?_|(first|refine Ab ?_ ?_|refine Aa ?_ ?_)<;>intro hc<;>(try simp only [push_cast] at hc)|refine eK An ?_|refine eQ An ?_|refine eG An ?_)|((with_reducible first|refine cK An ?_|refine cQ An ?_|refine cG An ?_);(simp (disch:=omega) only [push_cast,↓zz,seval,pG,pT]);(fail_if_success with_reducible change False))|omega|with_reducible intro _))
     refine Ao (Aq (fun (k:Nat)=>k ≤ gs.length) (fun k=>gs.length - k) (fun k=>[(0,.ref 0 1 0 gs.length),(1,.lst 6 []),(13,.int .i64 gs.length),(14,.int .i64 k)]) (fun k=>[⟨1,1,false,gs.map Ad⟩]) (fun env _=>[Ay 1 (env 0)]) 0 (by simp) ?_ ?_)
     · (repeat' (first|(simp (disch:=omega) only [push_cast,↓zz,seval,pG,pT])|(with_reducible first|refine And.intro ?_ ?_|(first|refine Ab ?_ ?_|refine Aa ?_ ?_)<;>intro hc<;>(try simp only [push_cast] at hc))|omega|with_reducible intro _))
     intro k hk
     rcases Nat.lt_or_ge k gs.length with hkl|hkl
     · have hm:=hgl _ (Aw hkl)
       have hset:(gs.map Ad).set k (Ad (nth gs k))=gs.map Ad:=G7 hkl
       generalize hne:nth gs k=x at *
       have hC:=Qc x (by omega)
       have hpx:=Cf x
       refine W_T ?_
       (repeat' (first|(simp (disch:=omega) only [push_cast,↓zz,seval,pG,pT,hne,hset,hpx])|(with_reducible first|refine And.intro ?_ ?_|(first|refine Ab ?_ ?_|refine Aa ?_ ?_)<;>intro hc<;>(try simp only [push_cast] at hc)|refine eK hC ?_|refine eQ hC ?_|refine eG hC ?_)|((with_reducible first|refine cK hC ?_|refine cQ hC ?_|refine cG hC ?_);(simp (disch:=omega) only [push_cast,↓zz,seval,pG,pT,hne,hset,hpx]);(fail_if_success with_reducible change False))|omega|with_reducible intro _))
       all_goals
         refine ⟨k + 1,?_⟩
         (repeat' (first|(simp (disch:=omega) only [push_cast,↓zz,seval,pG,pT])|(with_reducible first|refine And.intro ?_ ?_|(first|refine Ab ?_ ?_|refine Aa ?_ ?_)<;>intro hc<;>(try simp only [push_cast] at hc))|omega|with_reducible intro _))
     obtain rfl:k=gs.length:=by omega
     refine W_T ?_
     (repeat' (first|(simp (disch:=omega) only [push_cast,↓zz,seval,pG,pT])|(with_reducible first|refine And.intro ?_ ?_|(first|refine Ab ?_ ?_|refine Aa ?_ ?_)<;>intro hc<;>(try simp only [push_cast] at hc)|refine eK An ?_|refine eQ An ?_|refine eG An ?_)|((with_reducible first|refine cK An ?_|refine cQ An ?_|refine cG An ?_);(simp (disch:=omega) only [push_cast,↓zz,seval,pG,pT]);(fail_if_success with_reducible change False))|omega|with_reducible intro _))
     refine Ao (Aq (fun (_:Unit)=>True) (fun _=>0) (fun k=>[(0,.ref 0 1 0 gs.length),(1,.lst 6 []),(27,.int .i64 0),(28,.int .i64 0)]) (fun k=>[⟨1,1,false,gs.map Ad⟩]) (fun env _=>[Ay 1 (env 0)]) () trivial ?_ ?_)
     · (repeat' (first|(simp (disch:=omega) only [push_cast,↓zz,seval,pG,pT])|(with_reducible first|refine And.intro ?_ ?_|(first|refine Ab ?_ ?_|refine Aa ?_ ?_)<;>intro hc<;>(try simp only [push_cast] at hc))|omega|with_reducible intro _))
     rintro ⟨⟩ _
     refine W_T ?_
     (repeat' (first|(simp (disch:=omega) only [push_cast,↓zz,seval,pG,pT])|(with_reducible first|refine And.intro ?_ ?_|(first|refine Ab ?_ ?_|refine Aa ?_ ?_)<;>intro hc<;>(try simp only [push_cast] at hc)|refine eK An ?_|refine eQ An ?_|refine eG An ?_)|((with_reducible first|refine cK An ?_|refine cQ An ?_|refine cG An ?_);(simp (disch:=omega) only [push_cast,↓zz,seval,pG,pT]);(fail_if_success with_reducible change False))|omega|with_reducible intro _))
     all_goals (try simp only [Al,C5,List.map_nil])
     all_goals (repeat' (first|(simp (disch:=omega) only [push_cast,↓zz,seval,Bm])|omega|(with_reducible refine And.intro ?_ ?_)))
   · skip
     (repeat' (first|(simp (disch:=omega) only [push_cast,↓zz,seval,pG,pT])|(with_reducible first|refine And.intro ?_ ?_|(first|refine Ab ?_ ?_|refine Aa ?_ ?_)<;>intro hc<;>(try simp only [push_cast] at hc))|omega|with_reducible intro _))
     (refine Hj [] (Le gs hg (by omega)) (by decide) (by simp) (by (simp (disch:=omega) only [push_cast,↓zz,seval])) (by (simp (disch:=omega) only [push_cast,↓zz,seval])) (by (simp (disch:=omega) only [push_cast,↓zz,seval])) (by (simp (disch:=omega) only [push_cast,↓zz,seval,List.mem_cons,List.not_mem_nil,or_false,forall_eq_or_imp,forall_eq,List.forall_mem_nil])) ?_)
     rintro y H' ⟨rfl,rfl⟩
     refine ⟨_,rfl,by simp,?_⟩
     (repeat' (first|(simp (disch:=omega) only [push_cast,↓zz,seval,pG,pT])|(with_reducible first|refine And.intro ?_ ?_|(first|refine Ab ?_ ?_|refine Aa ?_ ?_)<;>intro hc<;>(try simp only [push_cast] at hc))|omega|with_reducible intro _))
     (refine Hj [] (Na out ho (by omega)) (by decide) (by simp) (by (simp (disch:=omega) only [push_cast,↓zz,seval])) (by (simp (disch:=omega) only [push_cast,↓zz,seval])) (by (simp (disch:=omega) only [push_cast,↓zz,seval])) (by (simp (disch:=omega) only [push_cast,↓zz,seval,List.mem_cons,List.not_mem_nil,or_false,forall_eq_or_imp,forall_eq,List.forall_mem_nil])) ?_)
     rintro y H' ⟨rfl,rfl⟩
     refine ⟨_,rfl,by simp,?_⟩
     (repeat' (first|(simp (disch:=omega) only [push_cast,↓zz,seval,pG,pT])|(with_reducible first|refine And.intro ?_ ?_|(first|refine Ab ?_ ?_|refine Aa ?_ ?_)<;>intro hc<;>(try simp only [push_cast] at hc))|omega|with_reducible intro _))
     refine Ao (Aq (fun (k:Nat)=>k ≤ gs.length) (fun k=>gs.length - k) (fun k=>[(0,.ref 0 1 0 gs.length),(1,.ref 1 1 0 out.length),(13,.int .i64 gs.length),(14,.int .i64 k)]) (fun k=>[⟨1,1,false,gs.map Ad⟩,⟨6,1,false,out.map B2⟩]) (fun env _=>[Ay 1 (env 0),Ay 6 (env 1)]) 0 (by simp) ?_ ?_)
     · (repeat' (first|(simp (disch:=omega) only [push_cast,↓zz,seval,pG,pT])|(with_reducible first|refine And.intro ?_ ?_|(first|refine Ab ?_ ?_|refine Aa ?_ ?_)<;>intro hc<;>(try simp only [push_cast] at hc))|omega|with_reducible intro _))
     intro k hk
     rcases Nat.lt_or_ge k gs.length with hkl|hkl
     · have hm:=hgl _ (Aw hkl)
       have hset:(gs.map Ad).set k (Ad (nth gs k))=gs.map Ad:=G7 hkl
       generalize hne:nth gs k=x at *
       have hC:=Qc x (by omega)
       have hpx:=Cf x
       refine W_T ?_
       (repeat' (first|(simp (disch:=omega) only [push_cast,↓zz,seval,pG,pT,hne,hset,hpx])|(with_reducible first|refine And.intro ?_ ?_|(first|refine Ab ?_ ?_|refine Aa ?_ ?_)<;>intro hc<;>(try simp only [push_cast] at hc)|refine eK hC ?_|refine eQ hC ?_|refine eG hC ?_)|((with_reducible first|refine cK hC ?_|refine cQ hC ?_|refine cG hC ?_);(simp (disch:=omega) only [push_cast,↓zz,seval,pG,pT,hne,hset,hpx]);(fail_if_success with_reducible change False))|omega|with_reducible intro _))
       all_goals
         refine ⟨k + 1,?_⟩
         (repeat' (first|(simp (disch:=omega) only [push_cast,↓zz,seval,pG,pT])|(with_reducible first|refine And.intro ?_ ?_|(first|refine Ab ?_ ?_|refine Aa ?_ ?_)<;>intro hc<;>(try simp only [push_cast] at hc))|omega|with_reducible intro _))
     obtain rfl:k=gs.length:=by omega
     refine W_T ?_
     (repeat' (first|(simp (disch:=omega) only [push_cast,↓zz,seval,pG,pT])|(with_reducible first|refine And.intro ?_ ?_|(first|refine Ab ?_ ?_|refine Aa ?_ ?_)<;>intro hc<;>(try simp only [push_cast] at hc))|omega|with_reducible intro _))
     refine Ao (Aq (fun (k:Nat)=>k ≤ out.length) (fun k=>out.length - k) (fun k=>[(0,.ref 0 1 0 gs.length),(1,.ref 1 1 0 out.length),(27,.int .i64 out.length),(28,.int .i64 k)]) (fun k=>[⟨1,1,false,gs.map Ad⟩,⟨6,1,false,out.map B2⟩]) (fun env _=>[Ay 1 (env 0),Ay 6 (env 1)]) 0 (by simp) ?_ ?_)
     · (repeat' (first|(simp (disch:=omega) only [push_cast,↓zz,seval,pG,pT])|(with_reducible first|refine And.intro ?_ ?_|(first|refine Ab ?_ ?_|refine Aa ?_ ?_)<;>intro hc<;>(try simp only [push_cast] at hc))|omega|with_reducible intro _))
     intro k hk
     rcases Nat.lt_or_ge k out.length with hkl|hkl
     · have hm:=hol _ (Aw hkl)
       have hset:(out.map B2).set k (B2 (nth out k))=out.map B2:=G7 hkl
       generalize hne:nth out k=x at *
       have hC:=Pn x.parts (by omega)
       have hpx:=Fc x.parts
       refine W_T ?_
       (repeat' (first|(simp (disch:=omega) only [push_cast,↓zz,seval,pG,pT,hne,hset,hpx])|(with_reducible first|refine And.intro ?_ ?_|(first|refine Ab ?_ ?_|refine Aa ?_ ?_)<;>intro hc<;>(try simp only [push_cast] at hc)|refine eK hC ?_|refine eQ hC ?_|refine eG hC ?_)|((with_reducible first|refine cK hC ?_|refine cQ hC ?_|refine cG hC ?_);(simp (disch:=omega) only [push_cast,↓zz,seval,pG,pT,hne,hset,hpx]);(fail_if_success with_reducible change False))|omega|with_reducible intro _))
       all_goals
         refine ⟨k + 1,?_⟩
         (repeat' (first|(simp (disch:=omega) only [push_cast,↓zz,seval,pG,pT])|(with_reducible first|refine And.intro ?_ ?_|(first|refine Ab ?_ ?_|refine Aa ?_ ?_)<;>intro hc<;>(try simp only [push_cast] at hc))|omega|with_reducible intro _))
     obtain rfl:k=out.length:=by omega
     refine W_T ?_
     (repeat' (first|(simp (disch:=omega) only [push_cast,↓zz,seval,pG,pT])|(with_reducible first|refine And.intro ?_ ?_|(first|refine Ab ?_ ?_|refine Aa ?_ ?_)<;>intro hc<;>(try simp only [push_cast] at hc))|omega|with_reducible intro _))
     all_goals (try simp only [Al,C5,List.map_nil])
     all_goals (repeat' (first|(simp (disch:=omega) only [push_cast,↓zz,seval,Bm])|omega|(with_reducible refine And.intro ?_ ?_)))
     all_goals trace_state
theorem Vt {α:Type} {p:α→Bool}:∀ {l:List α} {i:Nat},(∀ x ∈ l,p x=true)→Eu p l i=none
 | [],_,_=>rfl
 | x :: l,i,h=>by rw [Eu,if_pos (h x (by simp)),Vt fun y hy=>h y (by simp [hy])]
theorem z0r {d:Desc} (h1:P7 d=true) (h2:∀ r ∈ d.rules,Er d r=true) (h3:∀ f ∈ d.finals,Dc d f=true) (h4:¬ cycP d.rules d.states.toNat):Ed d=(0,0)∧D7 d=0:=by
 have e:Ed d=(0,0):=by
   rw [Ed,if_neg (by simp [h1]),Vt h2]
   simp only
   rw [Vt h3]
   simp only
   rw [if_neg h4]
 exact ⟨e,by rw [D7,e];rfl⟩
theorem zgs (s:Int):Full (domL s)∧∀ v,memL (domL s) v→0 ≤ v∧v ≤ 1114111:=by
 refine ⟨fun t ht=>?_,fun v hv=>Nu (Hy.1 hv)⟩
 unfold domL at ht
 split at ht
 · simp at ht;subst ht;simp
 · split at ht
   · simp at ht;rcases ht with rfl|rfl<;>simp
   · cases ht
def zc5 (a b:Int):Desc:=⟨a,b,1,0,[],[]⟩
noncomputable def Q7 (d:Desc) (i:Nat):Bool:=Ec (fwdE d) [d.start] i && Ec (bwdE d) (endE d) i
def cntB (u:Nat→Bool) (k:Nat):Nat:=((List.range k).filter u).length
def numB (u:Nat→Bool) (i:Nat):Int:=if u i=true then (cntB u i:Int) else -1
def L9 (u:Nat→Bool) (l:List Rule):List Rule:=(l.filter fun r=>u r.from_.toNat && u r.to_.toNat).map fun r=>⟨numB u r.from_.toNat,numB u r.to_.toNat,r.guards,r.eat,r.out⟩
def Ni (u:Nat→Bool) (l:List Hb):List Hb:=(l.filter fun f=>u f.from_.toNat).map fun f=>⟨numB u f.from_.toNat,f.guards,f.out⟩
noncomputable def zc6 (d:Desc):Desc :=
 if Ec (bwdE d) (endE d) d.start.toNat=false then zc5 d.in_ d.out
 else ⟨d.in_,d.out,cntB (Q7 d) d.states.toNat,numB (Q7 d) d.start.toNat,L9 (Q7 d) d.rules,Ni (Q7 d) d.finals⟩
theorem Hz (u:Nat→Bool) (k:Nat):cntB u (k + 1)=if u k=true then cntB u k + 1 else cntB u k:=by
 simp only [cntB,List.range_succ,List.filter_append,List.length_append,List.filter_cons,List.filter_nil]
 split<;>simp_all
theorem Ma (u:Nat→Bool) (k:Nat):cntB u k ≤ k:=by
 have:=List.length_filter_le u (List.range k)
 simpa [cntB] using this
def numK (u:Nat→Bool) (k i:Nat):Int:=if i < k then numB u i else 0
theorem zc7 (n:Nat) (u:Nat→Bool):famI n (numK u 0)=List.replicate n (.int .i64 0):=by
 refine List.ext_getElem (by simp [famI]) fun i h1 h2=>?_
 simp [famI,numK]
theorem zgt (n:Nat) (u:Nat→Bool):famI n (numK u n)=famI n (numB u):=by
 rw [famI,famI]
 refine List.map_congr_left fun i hi=>?_
 have:i < n:=by simpa using hi
 simp [numK,this]
theorem Vu {n k:Nat} (h:k < n) (u:Nat→Bool) {x:Int} (hx:numB u k=x):(famI n (numK u k)).set k (.int .i64 x)=famI n (numK u (k + 1)):=by
 rw [Nr h,famI,famI]
 refine List.map_congr_left fun i _=>?_
 simp only [numK]
 by_cases e:i=k
 · subst e;simp [hx]
 · rw [if_neg e]
   by_cases e2:i < k
   · rw [if_pos e2,if_pos (by omega)]
   · rw [if_neg e2,if_neg (by omega)]
theorem z7i (u:Nat→Bool) {l:List Rule} {k:Nat} (h:k < l.length):L9 u (l.take (k + 1))=if (u (nth l k).from_.toNat && u (nth l k).to_.toNat)=true then L9 u (l.take k) ++ [⟨numB u (nth l k).from_.toNat,numB u (nth l k).to_.toNat,(nth l k).guards,(nth l k).eat,(nth l k).out⟩] else L9 u (l.take k):=by
 rw [take_at h]
 simp only [L9,List.filter_append,List.map_append,List.filter_cons,List.filter_nil]
 split<;>simp_all
theorem z7j (u:Nat→Bool) {l:List Hb} {k:Nat} (h:k < l.length):Ni u (l.take (k + 1))=if u (nth l k).from_.toNat=true then Ni u (l.take k) ++ [⟨numB u (nth l k).from_.toNat,(nth l k).guards,(nth l k).out⟩] else Ni u (l.take k):=by
 rw [take_at h]
 simp only [Ni,List.filter_append,List.map_append,List.filter_cons,List.filter_nil]
 split<;>simp_all
theorem zc8 (u:Nat→Bool) (l:List Rule):(L9 u l).length ≤ l.length:=by simpa [L9] using List.length_filter_le _ l
theorem zc9 (u:Nat→Bool) (l:List Hb):(Ni u l).length ≤ l.length:=by simpa [Ni] using List.length_filter_le _ l
theorem Lf {u:Nat→Bool} {i:Nat} (h:u i=true):numB u i=cntB u i:=if_pos h
theorem Qk {u:Nat→Bool} {i:Nat} (h:u i=false):numB u i=-1:=if_neg (by simp [h])
theorem Sx {n:Nat} {F:List Int} {E:List (Int × Int)} {i:Nat} (h:i < n):nth (Cn n F E) i=Ec E F i:=by simp [nth,Cn,List.getD,h]
theorem Yv (n:Nat) (f:Nat→Int):Ax (famI n f)=true:=Cc.2 fun x hx=>by
 obtain ⟨i,_,rfl⟩:=List.mem_map.1 hx
 rfl
theorem z4d {d:Desc} {gs:List (List Span)} {out:List Term} (hg:Cz d.in_ gs=true) (hw:Dl d out gs=true):PC Tryz.prog 36 [Al gs,C5 out] (.tup [Al gs,C5 out]):=by
 obtain ⟨g1,g2⟩:=Fz hg
 obtain ⟨w1,w2⟩:=Yt hw
 exact zgr gs out (by omega) (fun g h=>by have:=g2 g h;omega) (by omega) (fun t h=>by have:=w2 t h;omega)
theorem zgu {d:Desc} {r:Rule} (h:Er d r=true):PC Tryz.prog 36 [Al r.guards,C5 r.out] (.tup [Al r.guards,C5 r.out]):=by
 simp only [Er,Bool.and_eq_true] at h
 exact z4d h.2.2.1 h.2.2.2.2
theorem zca {d:Desc} {f:Hb} (h:Dc d f=true):PC Tryz.prog 36 [Al f.guards,C5 f.out] (.tup [Al f.guards,C5 f.out]):=by
 simp only [Dc,Bool.and_eq_true] at h
 exact z4d h.2.1 h.2.2
abbrev zcb:AV:=.agg [.int .i64 0,.int .i64 0,.int .i64 0,.int .i64 0,.nilS,.nilS]
theorem zcc (d:Desc) (hf:F9 d) (h:D7 d=0):PC Tryz.prog 19 [B8 d] (.tup [B8 (zc6 d),.int .i64 0]):=by
 have hw:=z7g h
 obtain ⟨_,hrules,hfinals⟩:=Su h
 obtain ⟨n,hn,hn1,hn2⟩:=hw.n
 have hC:=Gp d hf
 rw [h] at hC
 have h1:=Sv d hw
 have h2:=Qh d hw
 have hE:PC Tryz.prog 26 [.int .i64 d.in_,.int .i64 d.out] (B8 (zc5 d.in_ d.out)):=z7d d.in_ d.out
 have hst:=hw.start
 have hrl:=hw.rl
 have hfl:=hw.fl
 obtain ⟨s,hs⟩:∃ s:Nat,d.start=s:=⟨d.start.toNat,by omega⟩
 have hsn:s < n:=by omega
 have pR:=Bu d.rules
 have pF:=Bp d.finals
 have cL:Fp d=Cn n [d.start] (fwdE d):=by rw [Fp,hn];rfl
 have gL:goL d=Cn n (endE d) (bwdE d):=by rw [goL,hn];rfl
 have l1:(Fp d).length=n:=by rw [cL,Em]
 have l2:(goL d).length=n:=by rw [gL,Em]
 have a1:∀ i,i < n→nth (Fp d) i=Ec (fwdE d) [d.start] i:=fun i hi=>by rw [cL];exact Sx hi
 have a2:∀ i,i < n→nth (goL d) i=Ec (bwdE d) (endE d) i:=fun i hi=>by rw [gL];exact Sx hi
 have a3:=a2 s hsn
 have pC:=Do (Fp d)
 have pG:=Do (goL d)
 have hu:∀ i,i < n→Q7 d i=(nth (Fp d) i && nth (goL d) i):=fun i hi=>by rw [a1 i hi,a2 i hi];rfl
 have hus:Ec (bwdE d) (endE d) s=true→Q7 d s=true:=fun hb=>by
   have:Reach (fwdE d) [d.start] (s:Int):=.base (by simp [hs])
   simp [Q7,hb,Jw.2 this]
 have hst2:d.start.toNat=s:=by omega
 have hsT:d.states.toNat=n:=by omega
 unfold zc6
 rw [hst2,hsT]
 generalize Fp d=CL at *
 generalize goL d=GL at *
 generalize hu0:Q7 d=u at *
 refine A9 Zs ?_
 unfold Ov
 cases hb:Ec (bwdE d) (endE d) s with
 | false =>
   rw [hb] at a3
   rw [if_pos rfl]
   generalize zc5 d.in_ d.out=ev at *
   (repeat' (first|(simp (disch:=omega) only [push_cast,↓zz,seval,pR,pF,pC,pG,hs,hn,a3])|(with_reducible first|refine And.intro ?_ ?_|(first|refine Ab ?_ ?_|refine Aa ?_ ?_)<;>intro hc<;>(try simp only [push_cast] at hc)|refine eK hC ?_|refine eQ hC ?_|refine eG hC ?_|refine eK h1 ?_|refine eQ h1 ?_|refine eG h1 ?_|refine eK h2 ?_|refine eQ h2 ?_|refine eG h2 ?_|refine eK hE ?_|refine eQ hE ?_|refine eG hE ?_)|((with_reducible first|refine cK hC ?_|refine cQ hC ?_|refine cG hC ?_);(simp (disch:=omega) only [push_cast,↓zz,seval,pR,pF,pC,pG,hs,hn,a3]);(fail_if_success with_reducible change False))|((with_reducible first|refine cK h1 ?_|refine cQ h1 ?_|refine cG h1 ?_);(simp (disch:=omega) only [push_cast,↓zz,seval,pR,pF,pC,pG,hs,hn,a3]);(fail_if_success with_reducible change False))|((with_reducible first|refine cK h2 ?_|refine cQ h2 ?_|refine cG h2 ?_);(simp (disch:=omega) only [push_cast,↓zz,seval,pR,pF,pC,pG,hs,hn,a3]);(fail_if_success with_reducible change False))|((with_reducible first|refine cK hE ?_|refine cQ hE ?_|refine cG hE ?_);(simp (disch:=omega) only [push_cast,↓zz,seval,pR,pF,pC,pG,hs,hn,a3]);(fail_if_success with_reducible change False))|omega|with_reducible intro _))
 | true =>
   rw [hb] at a3
   rw [if_neg (by simp)]
   have husd:=hus hb
   (repeat' (first|(simp (disch:=omega) only [push_cast,↓zz,seval,pR,pF,pC,pG,hs,hn,a3])|(with_reducible first|refine And.intro ?_ ?_|(first|refine Ab ?_ ?_|refine Aa ?_ ?_)<;>intro hc<;>(try simp only [push_cast] at hc)|refine eK hC ?_|refine eQ hC ?_|refine eG hC ?_|refine eK h1 ?_|refine eQ h1 ?_|refine eG h1 ?_|refine eK h2 ?_|refine eQ h2 ?_|refine eG h2 ?_|refine eK hE ?_|refine eQ hE ?_|refine eG hE ?_)|((with_reducible first|refine cK hC ?_|refine cQ hC ?_|refine cG hC ?_);(simp (disch:=omega) only [push_cast,↓zz,seval,pR,pF,pC,pG,hs,hn,a3]);(fail_if_success with_reducible change False))|((with_reducible first|refine cK h1 ?_|refine cQ h1 ?_|refine cG h1 ?_);(simp (disch:=omega) only [push_cast,↓zz,seval,pR,pF,pC,pG,hs,hn,a3]);(fail_if_success with_reducible change False))|((with_reducible first|refine cK h2 ?_|refine cQ h2 ?_|refine cG h2 ?_);(simp (disch:=omega) only [push_cast,↓zz,seval,pR,pF,pC,pG,hs,hn,a3]);(fail_if_success with_reducible change False))|((with_reducible first|refine cK hE ?_|refine cQ hE ?_|refine cG hE ?_);(simp (disch:=omega) only [push_cast,↓zz,seval,pR,pF,pC,pG,hs,hn,a3]);(fail_if_success with_reducible change False))|omega|with_reducible intro _))
   refine Ao (Aq (fun (k:Nat)=>k ≤ n) (fun k=>n - k)
     (fun k=>[(1,.ptr 0 1 0 0),(2,.ptr 1 1 0 0),(5,G8 CL),(6,G8 GL),(7,.ref 2 1 0 n),(8,.ptr 3 1 0 0),(44,.int .i64 n),(45,.int .i64 k)]) (fun k=>[⟨6,1,true,[B8 d]⟩,⟨6,1,true,[zcb]⟩,⟨1,1,true,famI n (numK u k)⟩,⟨6,1,true,[.agg [.int .i64 d.in_,.int .i64 d.out,.int .i64 (cntB u k:Nat),.int .i64 0,.nilS,.nilS]]⟩]) (fun env _=>[Ay 6 (env 1),Ay 6 (env 2),Ay 1 (env 7),Ay 6 (env 8)]) 0 (by simp) ?_ ?_)
   · have e0:=(zc7 n u).symm
     have e1:cntB u 0=0:=rfl
     have pI:=Yv n
     (repeat' (first|(simp (disch:=omega) only [push_cast,↓zz,seval,pR,pF,pC,pG,e0,e1,pI])|(with_reducible first|refine And.intro ?_ ?_|(first|refine Ab ?_ ?_|refine Aa ?_ ?_)<;>intro hc<;>(try simp only [push_cast] at hc))|omega|with_reducible intro _))
   intro k hk
   have lI:∀ f,(famI n f).length=n:=fun f=>by simp [famI]
   have pI:=Yv n
   rcases Nat.lt_or_ge k n with hkn|hkn
   · have huk:=hu k hkn
     have hcs:=Hz u k
     have hcl:=Ma u k
     have hset1:(famI n (numK u k)).set k (.int .i64 (-1))=famI n fun p=>if p=k then -1 else numK u k p:=Nr hkn
     have hset2:(famI n fun p=>if p=k then -1 else numK u k p).set k (.int .i64 (cntB u k:Nat))=(famI n (numK u k)).set k (.int .i64 (cntB u k:Nat)):=by
       rw [← hset1,List.set_set]
     have hl3:=lI fun p=>if p=k then -1 else numK u k p
     cases hck:nth CL k with
     | true =>
       cases hgk:nth GL k with
       | true =>
         rw [hck,hgk] at huk
         simp only [Bool.and_self,Bool.and_false] at huk
         have hnx:=Vu hkn u (Lf huk)
         rw [hnx] at hset2
         rw [if_pos huk] at hcs
         have hlY:=lI (numK u k)
         generalize (famI n fun p=>if p=k then -1 else numK u k p)=X at *
         generalize famI n (numK u k)=Y at *
         refine W_T ?_
         (repeat' (first|(simp (disch:=omega) only [push_cast,↓zz,seval,pR,pF,pC,pG,lI,pI,hck,hgk,hset1,hset2,hl3,hlY])|(with_reducible first|refine And.intro ?_ ?_|(first|refine Ab ?_ ?_|refine Aa ?_ ?_)<;>intro hc<;>(try simp only [push_cast] at hc))|omega|with_reducible intro _))
         all_goals
           refine ⟨k + 1,?_⟩
           (repeat' (first|(simp (disch:=omega) only [push_cast,↓zz,seval,pI,hcs])|(with_reducible first|refine And.intro ?_ ?_|(first|refine Ab ?_ ?_|refine Aa ?_ ?_)<;>intro hc<;>(try simp only [push_cast] at hc))|omega|with_reducible intro _))
       | false =>
         rw [hck,hgk] at huk
         simp only [Bool.and_self,Bool.and_false] at huk
         have hnx:=Vu hkn u (Qk huk)
         rw [if_neg (by simp [huk])] at hcs
         refine W_T ?_
         (repeat' (first|(simp (disch:=omega) only [push_cast,↓zz,seval,pR,pF,pC,pG,lI,pI,hck,hgk,hnx])|(with_reducible first|refine And.intro ?_ ?_|(first|refine Ab ?_ ?_|refine Aa ?_ ?_)<;>intro hc<;>(try simp only [push_cast] at hc))|omega|with_reducible intro _))
         all_goals
           refine ⟨k + 1,?_⟩
           (repeat' (first|(simp (disch:=omega) only [push_cast,↓zz,seval,pI,hcs])|(with_reducible first|refine And.intro ?_ ?_|(first|refine Ab ?_ ?_|refine Aa ?_ ?_)<;>intro hc<;>(try simp only [push_cast] at hc))|omega|with_reducible intro _))
     | false =>
       rw [hck,Bool.false_and] at huk
       have hnx:=Vu hkn u (Qk huk)
       rw [if_neg (by simp [huk])] at hcs
       refine W_T ?_
       (repeat' (first|(simp (disch:=omega) only [push_cast,↓zz,seval,pR,pF,pC,pG,lI,pI,hck,hnx])|(with_reducible first|refine And.intro ?_ ?_|(first|refine Ab ?_ ?_|refine Aa ?_ ?_)<;>intro hc<;>(try simp only [push_cast] at hc))|omega|with_reducible intro _))
       all_goals
         refine ⟨k + 1,?_⟩
         (repeat' (first|(simp (disch:=omega) only [push_cast,↓zz,seval,pI,hcs])|(with_reducible first|refine And.intro ?_ ?_|(first|refine Ab ?_ ?_|refine Aa ?_ ?_)<;>intro hc<;>(try simp only [push_cast] at hc))|omega|with_reducible intro _))
   obtain ⟨k0,rfl⟩:∃ k0,k=k0:=⟨k,rfl⟩
   have hkn2:k=n:=by omega
   subst hkn2
   have hna:=zgt k u
   rw [hna]
   have aI:∀ i,i < k→(famI k (numB u)).getD i .any=.int .i64 (numB u i):=fun i hi=>Bo hi
   have aS:=aI s hsn
   have nS:=Lf husd
   generalize hnu:famI k (numB u)=NU at *
   have lN:NU.length=k:=by rw [← hnu];exact lI _
   have pN:Ax NU=true:=by rw [← hnu];exact pI _
   refine W_T ?_
   (repeat' (first|(simp (disch:=omega) only [push_cast,↓zz,seval,pR,pF,pC,pG,lN,pN,hs,aS])|(with_reducible first|refine And.intro ?_ ?_|(first|refine Ab ?_ ?_|refine Aa ?_ ?_)<;>intro hc<;>(try simp only [push_cast] at hc))|omega|with_reducible intro _))
   have hkR:=fun j (hj:j < d.rules.length)=>z7i u hj
   refine Ao (Aq (fun (j:Nat)=>j ≤ d.rules.length) (fun j=>d.rules.length - j)
     (fun j=>[(1,.ptr 0 1 0 0),(2,.ptr 1 1 0 0),(7,.ref 2 1 0 k),(8,.ptr 3 1 0 0),(78,Fv d.rules),(79,.int .i64 d.rules.length),(80,.int .i64 j)]) (fun j=>[⟨6,1,true,[B8 d]⟩,⟨6,1,true,[zcb]⟩,⟨1,1,true,NU⟩,⟨6,1,true,[.agg [.int .i64 d.in_,.int .i64 d.out,.int .i64 (cntB u k:Nat),.int .i64 (cntB u s:Nat),.ref 4 1 0 (L9 u (d.rules.take j)).length,.ref 5 1 0 ([]:List Hb).length]]⟩,⟨5,1,false,(L9 u (d.rules.take j)).map Ub⟩,⟨3,1,false,([]:List Hb).map Ot⟩]) (fun env H=>[Ay 6 (env 1),Ay 6 (env 2),Ay 1 (env 7),Ay 6 (env 8),Ay 5 (cellAt H (env 8) 4),Ay 3 (cellAt H (env 8) 5)]) 0 (by simp) ?_ ?_)
   · have e0:L9 u []=[]:=rfl
     (repeat' (first|(simp (disch:=omega) only [push_cast,↓zz,seval,pR,pF,lN,pN,e0,nS])|(with_reducible first|refine And.intro ?_ ?_|(first|refine Ab ?_ ?_|refine Aa ?_ ?_)<;>intro hc<;>(try simp only [push_cast] at hc))|omega|with_reducible intro _))
   intro j hj
   have pK:=Bu (L9 u (d.rules.take j))
   have lK:=zc8 u (d.rules.take j)
   rw [List.length_take] at lK
   rcases Nat.lt_or_ge j d.rules.length with hjl|hjl
   · have hr:=hw.r _ (Aw hjl)
     have hrB:=hrules _ (Aw hjl)
     have hO:=zgu hrB
     have e1:=hkR j hjl
     generalize hre:nth d.rules j=r at *
     have hgr:=Ag r.guards
     have hot:=Bh r.out
     obtain ⟨x,hx⟩:∃ x:Nat,r.from_=x:=⟨r.from_.toNat,by omega⟩
     obtain ⟨y,hy⟩:∃ y:Nat,r.to_=y:=⟨r.to_.toNat,by omega⟩
     have hxn:x < k:=by omega
     have hyn:y < k:=by omega
     have aX:=aI x hxn
     have aY:=aI y hyn
     rw [hx,hy,Int.toNat_natCast,Int.toNat_natCast] at e1
     have cx:=Ma u x
     have cy:=Ma u y
     generalize L9 u (d.rules.take j)=K at *
     cases hux:u x with
     | true =>
       have nX:=Lf hux
       rw [nX] at aX
       cases huy:u y with
       | true =>
         have nY:=Lf huy
         rw [nY] at aY
         rw [if_pos (by rw [hux,huy];rfl),nX,nY] at e1
         refine W_T ?_
         (repeat' (first|(simp (disch:=omega) only [push_cast,↓zz,seval,yy,List.mem_cons,List.not_mem_nil,or_false,false_or,not_or,not_false_eq_true,true_or,or_true,pR,pF,lN,pN,hre,hgr,hot,hx,hy,aX,aY,pK])|(with_reducible first|refine And.intro ?_ ?_|(first|refine Ab ?_ ?_|refine Aa ?_ ?_)<;>intro hc<;>(try simp only [push_cast] at hc))|((with_reducible refine Zr [6] [] [] (by simp) (by decide) ?_))|(with_reducible first|refine eK hO ?_|refine eQ hO ?_|refine eG hO ?_)|((with_reducible first|refine cK hO ?_|refine cQ hO ?_|refine cG hO ?_);(simp (disch:=omega) only [push_cast,↓zz,seval,yy,List.mem_cons,List.not_mem_nil,or_false,false_or,not_or,not_false_eq_true,true_or,or_true,pR,pF,lN,pN,hre,hgr,hot,hx,hy,aX,aY,pK]);(fail_if_success with_reducible change False))|omega|with_reducible intro _))
         all_goals
           refine ⟨j + 1,?_⟩
           (repeat' (first|(simp (disch:=omega) only [push_cast,↓zz,seval,e1,pK,pN])|(with_reducible first|refine And.intro ?_ ?_|(first|refine Ab ?_ ?_|refine Aa ?_ ?_)<;>intro hc<;>(try simp only [push_cast] at hc))|omega|with_reducible intro _))
       | false =>
         have nY:=Qk huy
         rw [nY] at aY
         rw [if_neg (by rw [hux,huy];simp)] at e1
         refine W_T ?_
         (repeat' (first|(simp (disch:=omega) only [push_cast,↓zz,seval,yy,List.mem_cons,List.not_mem_nil,or_false,false_or,not_or,not_false_eq_true,true_or,or_true,pR,pF,lN,pN,hre,hgr,hot,hx,hy,aX,aY,pK])|(with_reducible first|refine And.intro ?_ ?_|(first|refine Ab ?_ ?_|refine Aa ?_ ?_)<;>intro hc<;>(try simp only [push_cast] at hc))|((with_reducible refine Zr [6] [] [] (by simp) (by decide) ?_))|(with_reducible first|refine eK hO ?_|refine eQ hO ?_|refine eG hO ?_)|((with_reducible first|refine cK hO ?_|refine cQ hO ?_|refine cG hO ?_);(simp (disch:=omega) only [push_cast,↓zz,seval,yy,List.mem_cons,List.not_mem_nil,or_false,false_or,not_or,not_false_eq_true,true_or,or_true,pR,pF,lN,pN,hre,hgr,hot,hx,hy,aX,aY,pK]);(fail_if_success with_reducible change False))|omega|with_reducible intro _))
         all_goals
           refine ⟨j + 1,?_⟩
           (repeat' (first|(simp (disch:=omega) only [push_cast,↓zz,seval,e1,pK,pN])|(with_reducible first|refine And.intro ?_ ?_|(first|refine Ab ?_ ?_|refine Aa ?_ ?_)<;>intro hc<;>(try simp only [push_cast] at hc))|omega|with_reducible intro _))
     | false =>
       have nX:=Qk hux
       rw [nX] at aX
       rw [if_neg (by rw [hux];simp)] at e1
       generalize numB u y=ny at *
       refine W_T ?_
       (repeat' (first|(simp (disch:=omega) only [push_cast,↓zz,seval,yy,List.mem_cons,List.not_mem_nil,or_false,false_or,not_or,not_false_eq_true,true_or,or_true,pR,pF,lN,pN,hre,hgr,hot,hx,hy,aX,aY,pK])|(with_reducible first|refine And.intro ?_ ?_|(first|refine Ab ?_ ?_|refine Aa ?_ ?_)<;>intro hc<;>(try simp only [push_cast] at hc))|((with_reducible refine Zr [6] [] [] (by simp) (by decide) ?_))|(with_reducible first|refine eK hO ?_|refine eQ hO ?_|refine eG hO ?_)|((with_reducible first|refine cK hO ?_|refine cQ hO ?_|refine cG hO ?_);(simp (disch:=omega) only [push_cast,↓zz,seval,yy,List.mem_cons,List.not_mem_nil,or_false,false_or,not_or,not_false_eq_true,true_or,or_true,pR,pF,lN,pN,hre,hgr,hot,hx,hy,aX,aY,pK]);(fail_if_success with_reducible change False))|omega|with_reducible intro _))
       all_goals
         refine ⟨j + 1,?_⟩
         (repeat' (first|(simp (disch:=omega) only [push_cast,↓zz,seval,e1,pK,pN])|(with_reducible first|refine And.intro ?_ ?_|(first|refine Ab ?_ ?_|refine Aa ?_ ?_)<;>intro hc<;>(try simp only [push_cast] at hc))|omega|with_reducible intro _))
   obtain rfl:j=d.rules.length:=by omega
   have et:d.rules.take d.rules.length=d.rules:=List.take_of_length_le (by omega)
   rw [et] at pK lK ⊢
   refine W_T ?_
   (repeat' (first|(simp (disch:=omega) only [push_cast,↓zz,seval,pR,pF,lN,pN,pK,et])|(with_reducible first|refine And.intro ?_ ?_|(first|refine Ab ?_ ?_|refine Aa ?_ ?_)<;>intro hc<;>(try simp only [push_cast] at hc))|omega|with_reducible intro _))
   have hkF:=fun j (hj:j < d.finals.length)=>z7j u hj
   generalize hKR:L9 u d.rules=KR at *
   refine Ao (Aq (fun (j:Nat)=>j ≤ d.finals.length) (fun j=>d.finals.length - j)
     (fun j=>[(2,.ptr 0 1 0 0),(7,.ref 1 1 0 k),(8,.ptr 2 1 0 0),(122,Ou d.finals),(123,.int .i64 d.finals.length),(124,.int .i64 j)]) (fun j=>[⟨6,1,true,[zcb]⟩,⟨1,1,true,NU⟩,⟨6,1,true,[.agg [.int .i64 d.in_,.int .i64 d.out,.int .i64 (cntB u k:Nat),.int .i64 (cntB u s:Nat),.ref 3 1 0 KR.length,.ref 4 1 0 (Ni u (d.finals.take j)).length]]⟩,⟨5,1,false,KR.map Ub⟩,⟨3,1,false,(Ni u (d.finals.take j)).map Ot⟩]) (fun env H=>[Ay 6 (env 2),Ay 1 (env 7),Ay 6 (env 8),Ay 5 (cellAt H (env 8) 4),Ay 3 (cellAt H (env 8) 5)]) 0 (by simp) ?_ ?_)
   · have e0:Ni u []=[]:=rfl
     (repeat' (first|(simp (disch:=omega) only [push_cast,↓zz,seval,pR,pF,lN,pN,e0,pK])|(with_reducible first|refine And.intro ?_ ?_|(first|refine Ab ?_ ?_|refine Aa ?_ ?_)<;>intro hc<;>(try simp only [push_cast] at hc))|omega|with_reducible intro _))
   intro j hj
   have pJ:=Bp (Ni u (d.finals.take j))
   have lJ:=zc9 u (d.finals.take j)
   rw [List.length_take] at lJ
   rcases Nat.lt_or_ge j d.finals.length with hjl|hjl
   · have hr:=hw.f _ (Aw hjl)
     have hrB:=hfinals _ (Aw hjl)
     have hO:=zca hrB
     have e1:=hkF j hjl
     generalize hre:nth d.finals j=r at *
     have hgr:=Ag r.guards
     have hot:=Bh r.out
     obtain ⟨x,hx⟩:∃ x:Nat,r.from_=x:=⟨r.from_.toNat,by omega⟩
     have hxn:x < k:=by omega
     have aX:=aI x hxn
     rw [hx,Int.toNat_natCast] at e1
     have cx:=Ma u x
     generalize Ni u (d.finals.take j)=K at *
     cases hux:u x with
     | true =>
       have nX:=Lf hux
       rw [nX] at aX
       rw [if_pos hux,nX] at e1
       refine W_T ?_
       (repeat' (first|(simp (disch:=omega) only [push_cast,↓zz,seval,pR,pF,lN,pN,hre,hgr,hot,hx,aX,pK,pJ])|(with_reducible first|refine And.intro ?_ ?_|(first|refine Ab ?_ ?_|refine Aa ?_ ?_)<;>intro hc<;>(try simp only [push_cast] at hc)|refine eK hO ?_|refine eQ hO ?_|refine eG hO ?_)|((with_reducible first|refine cK hO ?_|refine cQ hO ?_|refine cG hO ?_);(simp (disch:=omega) only [push_cast,↓zz,seval,pR,pF,lN,pN,hre,hgr,hot,hx,aX,pK,pJ]);(fail_if_success with_reducible change False))|omega|with_reducible intro _))
       all_goals
         refine ⟨j + 1,?_⟩
         (repeat' (first|(simp (disch:=omega) only [push_cast,↓zz,seval,e1,pK,pJ,pN])|(with_reducible first|refine And.intro ?_ ?_|(first|refine Ab ?_ ?_|refine Aa ?_ ?_)<;>intro hc<;>(try simp only [push_cast] at hc))|omega|with_reducible intro _))
     | false =>
       have nX:=Qk hux
       rw [nX] at aX
       rw [if_neg (by rw [hux];simp)] at e1
       refine W_T ?_
       (repeat' (first|(simp (disch:=omega) only [push_cast,↓zz,seval,pR,pF,lN,pN,hre,hgr,hot,hx,aX,pK,pJ])|(with_reducible first|refine And.intro ?_ ?_|(first|refine Ab ?_ ?_|refine Aa ?_ ?_)<;>intro hc<;>(try simp only [push_cast] at hc)|refine eK hO ?_|refine eQ hO ?_|refine eG hO ?_)|((with_reducible first|refine cK hO ?_|refine cQ hO ?_|refine cG hO ?_);(simp (disch:=omega) only [push_cast,↓zz,seval,pR,pF,lN,pN,hre,hgr,hot,hx,aX,pK,pJ]);(fail_if_success with_reducible change False))|omega|with_reducible intro _))
       all_goals
         refine ⟨j + 1,?_⟩
         (repeat' (first|(simp (disch:=omega) only [push_cast,↓zz,seval,e1,pK,pJ,pN])|(with_reducible first|refine And.intro ?_ ?_|(first|refine Ab ?_ ?_|refine Aa ?_ ?_)<;>intro hc<;>(try simp only [push_cast] at hc))|omega|with_reducible intro _))
   obtain rfl:j=d.finals.length:=by omega
   have et2:d.finals.take d.finals.length=d.finals:=List.take_of_length_le (by omega)
   rw [et2] at pJ lJ ⊢
   refine W_T ?_
   (repeat' (first|(simp (disch:=omega) only [push_cast,↓zz,seval,pR,pF,lN,pN,pK,pJ,et2])|(with_reducible first|refine And.intro ?_ ?_|(first|refine Ab ?_ ?_|refine Aa ?_ ?_)<;>intro hc<;>(try simp only [push_cast] at hc))|omega|with_reducible intro _))
   all_goals (rw [nS];(repeat' (first|(simp (disch:=omega) only [push_cast,↓zz,seval,Bm])|omega|(with_reducible refine And.intro ?_ ?_))))
   all_goals trace_state
theorem Lg {n:Nat} {F:List Int} {E:List (Int × Int)} (hr:InR n F E) {on:Nat→Bool} (h1:∀ i:Nat,on i=true→Reach E F i) (h2:∀ s ∈ F,on s.toNat=true) (h3:∀ e ∈ E,on e.1.toNat=true→on e.2.toNat=true) (i:Nat):Ec E F i=on i :=
 (zbp hr ⟨fun s hs=>(by cases hs),h1,fun s hs=>.inl (h2 s hs),fun j hj t ht=>.inl (by have:=h3 _ ht;simpa [hj] using this)⟩ i).symm
def exK:Desc:=⟨1,1,3,0,[⟨0,1,[[⟨97,97⟩]],1,[]⟩,⟨0,2,[[⟨98,98⟩]],1,[]⟩],[⟨1,[],[]⟩]⟩
theorem Yw {s x:Int} (h:memL (domL s) x):Cz s [[⟨x,x⟩]]=true:=by
 have hb:=(zgs s).2 x h
 have hm:Eb [⟨x,x⟩] (domL s)=[]:=(Gr (fun v hv=>by obtain ⟨t,ht,h1,h2⟩:=hv;simp only [List.mem_singleton] at ht;subst ht;simp only at h1 h2;omega) (fun t ht=>by simp only [List.mem_singleton] at ht;subst ht;simp)).2 fun v hv=>by
   obtain ⟨t,ht,h1,h2⟩:=hv
   simp only [List.mem_singleton] at ht
   subst ht
   simp only at h1 h2
   have:v=x:=by omega
   rw [this];exact h
 have hc:Jb (-1073741826) [⟨x,x⟩]=true:=by simp [Jb];omega
 simp [Cz,Hw,hm,P5,hc]
theorem H0:D7 exK=0:=by
 refine (z0r (by decide) (fun r hr=>?_) (fun f hf=>?_) ?_).2
 · simp only [exK,List.mem_cons,List.not_mem_nil,or_false] at hr
   rcases hr with rfl|rfl
   · simp only [Er,Bool.and_eq_true]
     exact ⟨by decide,by decide,Yw (Hy.2 (by decide)),by decide,by decide⟩
   · simp only [Er,Bool.and_eq_true]
     exact ⟨by decide,by decide,Yw (Hy.2 (by decide)),by decide,by decide⟩
 · simp only [exK,List.mem_singleton] at hf
   subst hf
   decide
 · rintro ⟨C,hC,j,hj⟩
   obtain ⟨_,r,hr,he,_⟩:=hC j hj
   simp only [exK,List.mem_cons,List.not_mem_nil,or_false] at hr
   rcases hr with rfl|rfl<;>simp [Ea] at he
theorem z0s:F9 exK:=by
 refine ⟨fun r hr t ht=>?_,fun f hf t ht=>?_⟩
 · simp only [exK,List.mem_cons,List.not_mem_nil,or_false] at hr
   rcases hr with rfl|rfl<;>cases ht
 · simp only [exK,List.mem_singleton] at hf
   subst hf
   cases ht
theorem Yx (i:Nat):Ec (fwdE exK) [exK.start] i=decide (i < 3):=by
 refine Lg (n:=3) ((z7g H0).fwd rfl) (on:=fun i=>decide (i < 3)) (fun i hi=>?_) (by decide) (by decide) i
 have b:Reach (fwdE exK) [exK.start] 0:=.base (by decide)
 match i,hi with
 | 0,_=>exact b
 | 1,_=>exact .step b (by decide)
 | 2,_=>exact .step b (by decide)
 | i + 3,h=>exact absurd (of_decide_eq_true h) (by omega)
theorem Vv (i:Nat):Ec (bwdE exK) (endE exK) i=decide (i < 2):=by
 refine Lg (n:=3) ((z7g H0).bwd rfl) (on:=fun i=>decide (i < 2)) (fun i hi=>?_) (by decide) (by decide) i
 have b:Reach (bwdE exK) (endE exK) 1:=.base (by decide)
 match i,hi with
 | 0,_=>exact .step b (by decide)
 | 1,_=>exact b
 | i + 2,h=>exact absurd (of_decide_eq_true h) (by omega)
theorem zgv:Q7 exK=fun i=>decide (i < 2):=by
 funext i
 rw [Q7,Yx,Vv]
 by_cases h:i < 2
 · simp [h];omega
 · simp [h]
theorem zgw:zc6 exK=⟨1,1,2,0,[⟨0,1,[[⟨97,97⟩]],1,[]⟩],[⟨1,[],[]⟩]⟩:=by
 unfold zc6
 rw [Vv,zgv]
 rfl
theorem z7k:Jd exK=[0,1,2]:=by
 have:Fp exK=[true,true,true]:=by
   rw [Fp,Cn]
   have e:(Ec (fwdE exK) [exK.start])=fun i=>decide (i < 3):=funext Yx
   rw [e];rfl
 rw [Jd,this];rfl
theorem zcd:Q5 exK=[0,1]:=by
 have:goL exK=[true,true,false]:=by
   rw [goL,Cn]
   have e:(Ec (bwdE exK) (endE exK))=fun i=>decide (i < 2):=funext Vv
   rw [e];rfl
 rw [Q5,this];rfl
abbrev exKV:AV:=.agg [.int .i64 1,.int .i64 1,.int .i64 3,.int .i64 0,.lst 5 [.agg [.int .i64 0,.int .i64 1,Al [[⟨97,97⟩]],.int .i64 1,.nilS],.agg [.int .i64 0,.int .i64 2,Al [[⟨98,98⟩]],.int .i64 1,.nilS]],.lst 3 [.agg [.int .i64 1,.nilS,.nilS]]]
theorem z0t:AV.le exKV (B8 exK):=by
 refine AV.le_agg (A8 (AV.le_refl _) (A8 (AV.le_refl _) (A8 (AV.le_refl _) (A8 (AV.le_refl _) (A8 (AV.le_lst rfl (Bu _) ?_) (A8 (AV.le_lst rfl (Bp _) ?_) Ef))))))
 · have k:∀ a b:Int,∀ g:List (List Span),AV.le (.agg [.int .i64 a,.int .i64 b,Al g,.int .i64 1,.nilS]) (Ub ⟨a,b,g,1,[]⟩):=fun a b g=>AV.le_agg (A8 (AV.le_refl _) (A8 (AV.le_refl _) (A8 (AV.le_refl _) (A8 (AV.le_refl _) (A8 (AV.le_nilS (by decide)) Ef)))))
   exact A8 (k _ _ _) (A8 (k _ _ _) Ef)
 · exact A8 (AV.le_agg (A8 (AV.le_refl _) (A8 (AV.le_nilS (by decide)) (A8 (AV.le_nilS (by decide)) Ef)))) Ef
theorem z0u:PC Tryz.prog 13 [] (.bool true):=by
 have hC:=Sw exK z0s H0
 have hG:=Qj exK z0s H0
 have hT:=zcc exK z0s H0
 rw [z7k] at hC
 rw [zcd] at hG
 rw [zgw] at hT
 have hC:=Jp hC (A8 z0t Ef)
 have hG:=Jp hG (A8 z0t Ef)
 have hT:=Jp hT (A8 z0t Ef)
 refine zm3 Ue ?_
 unfold Ke
 refine Qu (W_T ?_)
 (repeat' (first|(simp (disch:=omega) only [push_cast,↓zz,seval])|(with_reducible first|refine And.intro ?_ ?_|(first|refine Ab ?_ ?_|refine Aa ?_ ?_)<;>intro hc<;>(try simp only [push_cast] at hc))|omega|with_reducible intro _))
 refine Qu (W_T ?_)
 (repeat' (first|(simp (disch:=omega) only [push_cast,↓zz,seval])|(with_reducible first|refine And.intro ?_ ?_|(first|refine Ab ?_ ?_|refine Aa ?_ ?_)<;>intro hc<;>(try simp only [push_cast] at hc))|omega|with_reducible intro _))
 refine Qu (W_T ?_)
 (repeat' (first|(simp (disch:=omega) only [push_cast,↓zz,seval])|(with_reducible first|refine And.intro ?_ ?_|(first|refine Ab ?_ ?_|refine Aa ?_ ?_)<;>intro hc<;>(try simp only [push_cast] at hc))|omega|with_reducible intro _))
 refine zaf (z6a (l':=[⟨0,2,false,[]⟩,⟨0,2,false,[]⟩,⟨0,2,false,[]⟩,⟨0,2,false,[]⟩,⟨0,2,false,[]⟩,⟨0,2,false,[]⟩,⟨6,1,true,[exKV]⟩]) (g:=6) (d:=8) [0,1,2,3,4,5] (by decide) (by simp) rfl (by decide) ?_ ?_) (W_T ?_)
 · (simp (disch:=omega) only [push_cast,↓zz,seval])
 · rfl
 (repeat' (first|(simp (disch:=omega) only [push_cast,↓zz,seval])|(with_reducible first|refine And.intro ?_ ?_|(first|refine Ab ?_ ?_|refine Aa ?_ ?_)<;>intro hc<;>(try simp only [push_cast] at hc)|refine eK hC ?_|refine eQ hC ?_|refine eK hG ?_|refine eQ hG ?_|refine eK hT ?_|refine eQ hT ?_)|omega|with_reducible intro _))
 all_goals trace_state
structure zm7 (d:Desc) (k:Nat) (f:Bool) (w a l:Int):Prop where
 le:k ≤ d.rules.length
 fr:freeB d=(f && (d.rules.drop k).all fun r=>!Ea r)
 wi:zpu d=(d.rules.drop k).foldl widF w
 ah:zpv d=(d.rules.drop k).foldl aheF a
 lo:longV d=d.finals.foldl lonG ((d.rules.drop k).foldl lonF l)
 nn:0 ≤ a
theorem zm7.step {d:Desc} {k:Nat} {f:Bool} {w a l:Int} (h:zm7 d k f w a l) (hk:k < d.rules.length) {f2:Bool} {w2 a2 l2:Int} (e1:f2=(f && !Ea (nth d.rules k))) (e2:w2=widF w (nth d.rules k)) (e3:a2=aheF a (nth d.rules k)) (e4:l2=lonF l (nth d.rules k)):zm7 d (k + 1) f2 w2 a2 l2 where
 le:=by omega
 fr:=by rw [h.fr,drop_at hk,List.all_cons,e1,Bool.and_assoc]
 wi:=by rw [h.wi,fold_at hk,e2]
 ah:=by rw [h.ah,fold_at hk,e3]
 lo:=by rw [h.lo,fold_at hk,e4]
 nn:=by have:=h.nn;rw [e3,aheF];omega
def famB (n:Nat) (f:Nat→Bool):List AV:=(List.range n).map fun i=>AV.bool (f i)
theorem Vw {n i:Nat} {f:Nat→Bool} {x:Bool} (h:i < n):(famB n f).set i (.bool x)=famB n fun j=>if j=i then x else f j:=by
 rw [famB,Dm h,famB]
 refine List.map_congr_left fun p _=>?_
 by_cases e:p=i
 · subst e;simp
 · simp [e]
theorem Fb {n:Nat} {f g:Nat→Bool} (h:∀ i,i < n→f i=g i):famB n f=famB n g:=List.map_congr_left fun i hi=>by rw [h i (by simpa using hi)]
theorem z4e (n:Nat):List.replicate n (AV.bool false)=famB n fun _=>false:=by
 refine List.ext_getElem (by simp [famB]) fun i h1 h2=>?_
 simp [famB]
theorem zgx {l:List Rule} {on:Nat→Bool} {m:Nat} (hm:m < l.length):onF (l.take (m + 1)) on=fun j=>onF (l.take m) on j || (Ea (nth l m) && (on (nth l m).from_.toNat && decide ((nth l m).to_=j))):=by
 funext j
 rw [onF,take_at hm,List.any_append]
 simp [onF]
theorem z7l {l:List Rule} {on:Nat→Bool} {m:Nat} (hm:m < l.length):Lv (l.take (m + 1)) on=(Lv (l.take m) on || (Ea (nth l m) && on (nth l m).from_.toNat)):=by
 rw [Lv,take_at hm,List.any_append]
 simp [Lv]
theorem z0v (d:Desc) (hd:zpr d):PC Tryz.prog 55 [B8 d] (.bool (cycR d.rules d.states.toNat)):=by
 obtain ⟨⟨hn1,hn2⟩,hlen,hrul⟩:=hd
 have hPr:=Bu d.rules
 have hPf:=Bp d.finals
 obtain ⟨n,hn⟩:∃ n:Nat,d.states=n:=⟨d.states.toNat,by omega⟩
 have pB:∀ f,Ax (famB n f)=true:=fun f=>Cc.2 fun x hx=>by
   obtain ⟨i,_,rfl⟩:=List.mem_map.1 hx
   rfl
 have lB:∀ f,(famB n f).length=n:=fun f=>by simp [famB]
 have aB:∀ f i,i < n→(famB n f).getD i .any=.bool (f i):=fun f i hi=>Bo hi
 have rB:=z4e n
 have hpd:Ax [B8 d]=true:=by simp [Ax,L3]
 refine A9 Uj ?_
 unfold Kk
 rw [hn,Int.toNat_natCast]
 (repeat' (first|(simp (disch:=omega) only [push_cast,↓zz,seval,hn])|(with_reducible first|refine And.intro ?_ ?_|(first|refine Ab ?_ ?_|refine Aa ?_ ?_)<;>intro hc<;>(try simp only [push_cast] at hc))|omega|with_reducible intro _))
 refine Ao (Aq (fun (k:Nat)=>k ≤ n) (fun k=>n - k)
   (fun k=>[(1,.ptr 0 1 0 0),(3,.ref 1 1 0 n),(13,.int .i64 n),(14,.int .i64 k)]) (fun k=>[⟨6,1,true,[B8 d]⟩,⟨1,1,true,famB n fun i=>decide (i < k)⟩]) (fun env _=>[Ay 6 (env 1),Ay 1 (env 3)]) 0 (by simp) ?_ ?_)
 · have e0:(famB n fun i=>decide (i < 0))=famB n fun _=>false:=Fb fun i _=>by simp
   (repeat' (first|(simp (disch:=omega) only [push_cast,↓zz,seval,hPr,hPf,hn,rB,e0,pB,lB,Int.toNat_natCast])|(with_reducible first|refine And.intro ?_ ?_|(first|refine Ab ?_ ?_|refine Aa ?_ ?_)<;>intro hc<;>(try simp only [push_cast] at hc))|omega|with_reducible intro _))
 intro k hk
 rcases Nat.lt_or_ge k n with hkn|hkn
 · have hs:=Vw (f:=fun i=>decide (i < k)) (x:=true) hkn
   have he:(famB n fun j=>if j=k then true else decide (j < k))=famB n fun i=>decide (i < k + 1):=Fb fun i _=>by
     by_cases h:i=k
     · subst h;simp
     · rw [if_neg h,decide_eq_decide];omega
   rw [he] at hs
   refine W_T ?_
   (repeat' (first|(simp (disch:=omega) only [push_cast,↓zz,seval,hPr,hPf,hn,pB,lB,hs])|(with_reducible first|refine And.intro ?_ ?_|(first|refine Ab ?_ ?_|refine Aa ?_ ?_)<;>intro hc<;>(try simp only [push_cast] at hc))|omega|with_reducible intro _))
   all_goals
     refine ⟨k + 1,?_⟩
     (repeat' (first|(simp (disch:=omega) only [push_cast,↓zz,seval])|(with_reducible first|refine And.intro ?_ ?_|(first|refine Ab ?_ ?_|refine Aa ?_ ?_)<;>intro hc<;>(try simp only [push_cast] at hc))|omega|with_reducible intro _))
 · have hkk:n=k:=by omega
   subst hkk
   have he:(famB n fun i=>decide (i < n))=famB n (onK d.rules 0):=Fb fun i hi=>by simp [onK,hi]
   rw [he]
   refine W_T ?_
   (repeat' (first|(simp (disch:=omega) only [push_cast,↓zz,seval,hPr,hPf,hn,pB,lB])|(with_reducible first|refine And.intro ?_ ?_|(first|refine Ab ?_ ?_|refine Aa ?_ ?_)<;>intro hc<;>(try simp only [push_cast] at hc))|omega|with_reducible intro _))
   refine Ao (Aq (fun (k:Nat)=>k ≤ n + 1∧∀ i,i < k→Lv d.rules (onK d.rules i)=true) (fun k=>n + 1 - k)
     (fun k=>[(1,.ptr 0 1 0 0),(3,.ref 1 1 0 n),(5,.int .i64 k)]) (fun k=>[⟨6,1,true,[B8 d]⟩,⟨1,1,true,famB n (onK d.rules k)⟩]) (fun env _=>[Ay 6 (env 1),Ay 1 (env 3)]) 0 ⟨by simp,fun i hi=>by omega⟩ ?_ ?_)
   · (repeat' (first|(simp (disch:=omega) only [push_cast,↓zz,seval,hPr,hPf,hn,pB,lB])|(with_reducible first|refine And.intro ?_ ?_|(first|refine Ab ?_ ?_|refine Aa ?_ ?_)<;>intro hc<;>(try simp only [push_cast] at hc))|omega|with_reducible intro _))
   rintro k ⟨k1,k2⟩
   rcases Nat.lt_or_ge k (n + 1) with hk1|hk1
   · generalize hon:onK d.rules k=on at *
     refine W_T ?_
     (repeat' (first|(simp (disch:=omega) only [push_cast,↓zz,seval,hPr,hPf,hn,pB,lB,rB,Int.toNat_natCast])|(with_reducible first|refine And.intro ?_ ?_|(first|refine Ab ?_ ?_|refine Aa ?_ ?_)<;>intro hc<;>(try simp only [push_cast] at hc))|omega|with_reducible intro _))
     refine Ao (Aq (fun (m:Nat)=>m ≤ d.rules.length) (fun m=>d.rules.length - m)
       (fun m=>[(1,.ptr 0 1 0 0),(3,.ref 1 1 0 n),(5,.int .i64 k),(6,.ref 2 1 0 n),(7,.bool (Lv (d.rules.take m) on)),(8,.int .i64 m)]) (fun m=>[⟨6,1,true,[B8 d]⟩,⟨1,1,true,famB n on⟩,⟨1,1,true,famB n (onF (d.rules.take m) on)⟩]) (fun env _=>[Ay 6 (env 1),Ay 1 (env 3),Ay 1 (env 6)]) 0 (by simp) ?_ ?_)
     · have e1:famB n (onF [] on)=famB n fun _=>false:=Fb fun i _=>by simp [onF]
       have e2:Lv [] on=false:=by simp [Lv]
       (repeat' (first|(simp (disch:=omega) only [push_cast,↓zz,seval,hPr,hPf,hn,pB,lB,e1,e2])|(with_reducible first|refine And.intro ?_ ?_|(first|refine Ab ?_ ?_|refine Aa ?_ ?_)<;>intro hc<;>(try simp only [push_cast] at hc))|omega|with_reducible intro _))
     intro m hm
     rcases Nat.lt_or_ge m d.rules.length with hml|hml
     · have hr:=hrul _ (Aw hml)
       have e1:=zgx (on:=on) hml
       have e2:=z7l (on:=on) hml
       generalize hre:nth d.rules m=r at *
       have hP:=Ag r.guards
       have hT:=Bh r.out
       obtain ⟨i,hi⟩:∃ i:Nat,r.from_=i:=⟨r.from_.toNat,by omega⟩
       obtain ⟨j,hj⟩:∃ j:Nat,r.to_=j:=⟨r.to_.toNat,by omega⟩
       have hin:i < n:=by omega
       have hjn:j < n:=by omega
       have aI:=aB on i hin
       have hset:=Vw (f:=onF (d.rules.take m) on) (x:=true) hjn
       rw [hi,hj,Int.toNat_natCast] at e1
       rw [hi,Int.toNat_natCast] at e2
       by_cases he:(r.guards.length:Int)=0
       · have hie:Ea r=true:=by simp [Ea,he]
         rw [hie] at e1 e2
         cases hoi:on i with
         | true =>
           rw [hoi] at aI e1 e2
           have e3:(famB n fun p=>if p=j then true else onF (d.rules.take m) on p)=famB n (onF (d.rules.take (m + 1)) on):=Fb fun p _=>by
             rw [e1]
             by_cases h:p=j
             · subst h;simp
             · have:¬ (j:Int)=p:=by omega
               simp [h,this]
           rw [e3] at hset
           simp only [Bool.and_self,Bool.or_true] at e2
           refine W_T ?_
           (repeat' (first|(simp (disch:=omega) only [push_cast,↓zz,seval,hPr,hPf,hn,pB,lB,hre,hP,hT,hi,hj,he,aI,hset])|(with_reducible first|refine And.intro ?_ ?_|(first|refine Ab ?_ ?_|refine Aa ?_ ?_)<;>intro hc<;>(try simp only [push_cast] at hc))|omega|with_reducible intro _))
           all_goals
             refine ⟨m + 1,?_⟩
             (repeat' (first|(simp (disch:=omega) only [push_cast,↓zz,seval,e2])|(with_reducible first|refine And.intro ?_ ?_|(first|refine Ab ?_ ?_|refine Aa ?_ ?_)<;>intro hc<;>(try simp only [push_cast] at hc))|omega|with_reducible intro _))
         | false =>
           rw [hoi] at aI e1 e2
           have e3:famB n (onF (d.rules.take (m + 1)) on)=famB n (onF (d.rules.take m) on):=Fb fun p _=>by rw [e1];simp
           simp only [Bool.and_false,Bool.or_false] at e2
           refine W_T ?_
           (repeat' (first|(simp (disch:=omega) only [push_cast,↓zz,seval,hPr,hPf,hn,pB,lB,hre,hP,hT,hi,hj,he,aI])|(with_reducible first|refine And.intro ?_ ?_|(first|refine Ab ?_ ?_|refine Aa ?_ ?_)<;>intro hc<;>(try simp only [push_cast] at hc))|omega|with_reducible intro _))
           all_goals
             refine ⟨m + 1,?_⟩
             (repeat' (first|(simp (disch:=omega) only [push_cast,↓zz,seval,e2,e3])|(with_reducible first|refine And.intro ?_ ?_|(first|refine Ab ?_ ?_|refine Aa ?_ ?_)<;>intro hc<;>(try simp only [push_cast] at hc))|omega|with_reducible intro _))
       · have hie:Ea r=false:=decide_eq_false he
         rw [hie] at e1 e2
         have e3:famB n (onF (d.rules.take (m + 1)) on)=famB n (onF (d.rules.take m) on):=Fb fun p _=>by rw [e1];simp
         simp only [Bool.false_and,Bool.or_false] at e2
         refine W_T ?_
         (repeat' (first|(simp (disch:=omega) only [push_cast,↓zz,seval,hPr,hPf,hn,pB,lB,hre,hP,hT,hi,hj,he])|(with_reducible first|refine And.intro ?_ ?_|(first|refine Ab ?_ ?_|refine Aa ?_ ?_)<;>intro hc<;>(try simp only [push_cast] at hc))|omega|with_reducible intro _))
         all_goals
           refine ⟨m + 1,?_⟩
           (repeat' (first|(simp (disch:=omega) only [push_cast,↓zz,seval,e2,e3])|(with_reducible first|refine And.intro ?_ ?_|(first|refine Ab ?_ ?_|refine Aa ?_ ?_)<;>intro hc<;>(try simp only [push_cast] at hc))|omega|with_reducible intro _))
     · have hme:m=d.rules.length:=by omega
       subst hme
       rw [List.take_length]
       have hnx:onF d.rules on=onK d.rules (k + 1):=by rw [← hon];rfl
       rw [hnx]
       cases hsm:Lv d.rules on with
       | false =>
         have hres:cycR d.rules n=false:=by
           rw [cycR,List.all_eq_false]
           exact ⟨k,by simp;omega,by rw [hon,hsm];simp⟩
         rw [hres]
         refine W_T ?_
         (repeat' (first|(simp (disch:=omega) only [push_cast,↓zz,seval,hPr,hPf,hn,pB,lB])|(with_reducible first|refine And.intro ?_ ?_|(first|refine Ab ?_ ?_|refine Aa ?_ ?_)<;>intro hc<;>(try simp only [push_cast] at hc))|omega|with_reducible intro _))
       | true =>
         have hall:∀ i,i < k + 1→Lv d.rules (onK d.rules i)=true:=fun i hi=>by
           rcases Nat.lt_or_ge i k with h|h
           · exact k2 i h
           · obtain rfl:i=k:=by omega
             rw [hon];exact hsm
         refine W_T ?_
         (repeat' (first|(simp (disch:=omega) only [push_cast,↓zz,seval,hPr,hPf,hn,pB,lB])|(with_reducible first|refine And.intro ?_ ?_|(first|refine Ab ?_ ?_|refine Aa ?_ ?_)<;>intro hc<;>(try simp only [push_cast] at hc))|omega|with_reducible intro _))
         all_goals
           refine ⟨k + 1,?_⟩
           (repeat' (first|(simp (disch:=omega) only [push_cast,↓zz,seval])|(with_reducible first|refine And.intro ?_ ?_|(first|refine Ab ?_ ?_|refine Aa ?_ ?_)<;>intro hc<;>(try simp only [push_cast] at hc))|omega|with_reducible intro _))
         all_goals first|exact hall _ (by omega)|exact hall
   · have hke:k=n + 1:=by omega
     have hres:cycR d.rules n=true:=by
       rw [cycR,List.all_eq_true]
       intro i hi
       exact k2 i (by simp at hi;omega)
     rw [hres]
     refine W_T ?_
     (repeat' (first|(simp (disch:=omega) only [push_cast,↓zz,seval,hPr,hPf,hn,pB,lB])|(with_reducible first|refine And.intro ?_ ?_|(first|refine Ab ?_ ?_|refine Aa ?_ ?_)<;>intro hc<;>(try simp only [push_cast] at hc))|omega|with_reducible intro _))
     all_goals trace_state
open Classical in
theorem zce (v:Nat) (l:List Int) (x:Int) (hr:Bq l) (hl:l.length ≤ 1000000000000) {K:AV→Ac→Prop} (p:Nat) (hp:Place l x p p)
   (hyes:p < l.length→nth l p=x→K (.ref 0 v 0 l.length) (Abs.hl [⟨1,v,false,l.map intV⟩]))
   (hno:(p < l.length→nth l p ≠ x)→K (.ref 0 (v + 1) 0 (l.length + 1)) (Abs.hl [⟨1,v + 1,false,(l.take p ++ x :: l.drop p).map intV⟩])) :
   Bl Tryz.prog 123 [.ref 0 v 0 l.length,.int .i64 x] (Abs.hl [⟨1,v,false,l.map intV⟩]) K:=by
 refine Fx (b:=1) Z2 rfl ?_
 unfold O8
 (repeat' (first|(simp (disch:=omega) only [push_cast,↓zz,seval])|(with_reducible first|refine And.intro ?_ ?_|(first|refine Ab ?_ ?_|refine Aa ?_ ?_)<;>intro hc<;>(try simp only [push_cast] at hc))|omega|with_reducible intro _))
 refine Ao (Aq (fun (s:Nat × Nat)=>Place l x s.1 s.2) (fun s=>s.2 - s.1) (fun s=>[(0,.ref 0 v 0 l.length),(1,.int .i64 x),(5,.int .i64 s.1),(6,.int .i64 s.2)])
   (fun _=>[⟨1,v,false,l.map intV⟩]) (fun _ _=>[]) (0,l.length) ⟨by simp,by simp,by simp,by intro j h1 h2;simp at h1;omega⟩ ?_ ?_)
 · (repeat' (first|(simp (disch:=omega) only [push_cast,↓zz,seval])|(with_reducible first|refine And.intro ?_ ?_|(first|refine Ab ?_ ?_|refine Aa ?_ ?_)<;>intro hc<;>(try simp only [push_cast] at hc))|omega|with_reducible intro _))
 rintro ⟨lo,hi⟩ hpl
 have hle:=hpl.le
 have htop:=hpl.top
 simp only at hle htop
 rcases Nat.lt_or_ge lo hi with hlh|hlh
 · obtain ⟨s1,s2⟩:=Sg hr hpl hlh
   have hm:(lo + hi) / 2 < l.length:=by omega
   have hw:IntKind.i64.wrap (((lo:Int) + (hi:Int)).tdiv 2)=(((lo + hi) / 2:Nat):Int):=by
     rw [Int.tdiv_eq_ediv_of_nonneg (by omega),show ((lo:Int) + hi) / 2=(((lo + hi) / 2:Nat):Int) by omega]
     exact IntWalk.i64_in _ (by omega)
   refine W_T ?_
   (repeat' (first|(simp (disch:=omega) only [push_cast,↓zz,seval,hw])|(with_reducible first|refine And.intro ?_ ?_|(first|refine Ab ?_ ?_|refine Aa ?_ ?_)<;>intro hc<;>(try simp only [push_cast] at hc))|omega|with_reducible intro _))
   all_goals rw [show (((lo:Int) + hi) / 2).toNat=(lo + hi) / 2 by omega] at hc
   · exact ⟨((lo + hi) / 2 + 1,hi),⟨by simp only;omega,rfl⟩,s1 hc,by simp only;omega⟩
   · exact ⟨(lo,(lo + hi) / 2),⟨rfl,by simp only;omega⟩,s2 hc,by simp only;omega⟩
 · have hlp:lo=p∧hi=p:=by
     have e:lo=hi:=by omega
     subst e
     rcases Nat.lt_trichotomy lo p with h|h|h
     · have:=hp.lt lo h;have:=hpl.ge lo (Nat.le_refl _) (by have:=hp.top;omega);omega
     · exact ⟨h,h⟩
     · have:=hpl.lt p h;have:=hp.ge p (Nat.le_refl _) (by omega);omega
   obtain ⟨rfl,rfl⟩:=hlp
   refine W_T ?_
   (repeat' (first|(simp (disch:=omega) only [push_cast,↓zz,seval])|(with_reducible first|refine And.intro ?_ ?_|(first|refine Ab ?_ ?_|refine Aa ?_ ?_)<;>intro hc<;>(try simp only [push_cast] at hc))|omega|with_reducible intro _))
   · exact hyes (by omega) hc
   all_goals
     have hn:=hno (by first|exact fun _=>hc|exact fun h=>absurd h (by omega))
     refine Ao (Aq (fun (s:Nat × Int)=>hi ≤ s.1∧s.1 ≤ l.length) (fun s=>s.1) (fun s=>[(0,.ref 0 (v + 1) 0 (l.length + 1)),(1,.int .i64 x),(5,.int .i64 hi),(8,.int .i64 s.1)])
       (fun s=>[⟨1,v + 1,false,(gapL l s.1 s.2).map intV⟩]) (fun _ _=>[]) (l.length,0) ⟨by simp only;omega,by simp⟩ ?_ ?_)
     · (repeat' (first|(simp (disch:=omega) only [push_cast,↓zz,seval,z3u])|(with_reducible first|refine And.intro ?_ ?_|(first|refine Ab ?_ ?_|refine Aa ?_ ?_)<;>intro hc<;>(try simp only [push_cast] at hc))|omega|with_reducible intro _))
     rintro ⟨i,y⟩ ⟨h1,h2⟩
     simp only at h1 h2
     have hgl:=z3t (y:=y) h2
     refine W_T ?_
     rcases Nat.lt_or_ge hi i with hlt|hge
     · obtain ⟨i,rfl⟩:∃ k,i=k + 1:=⟨i - 1,by omega⟩
       have hs:=Np (y:=y) (z:=nth l i) h2
       have ha:=zb5 (y:=y) (show i < l.length by omega)
       rw [Yd (by omega)] at hs
       (repeat' (first|(simp (disch:=omega) only [push_cast,↓zz,seval,hgl,hs,ha,E0])|(with_reducible first|refine And.intro ?_ ?_|(first|refine Ab ?_ ?_|refine Aa ?_ ?_)<;>intro hc<;>(try simp only [push_cast] at hc))|omega|with_reducible intro _))
       all_goals exact ⟨(i,nth l i),⟨rfl,A5 _ _⟩,⟨by simp only;omega,by simp only;omega⟩,by simp only;omega⟩
     · obtain rfl:i=hi:=by omega
       have hs:=Np (y:=y) (z:=x) h2
       (repeat' (first|(simp (disch:=omega) only [push_cast,↓zz,seval,hgl,hs])|(with_reducible first|refine And.intro ?_ ?_|(first|refine Ab ?_ ?_|refine Aa ?_ ?_)<;>intro hc<;>(try simp only [push_cast] at hc))|omega|with_reducible intro _))
       exact hn
theorem Yy (v:Nat) (l:List Int) (x:Int) (hr:Bq l) (hl:l.length ≤ 1000000000000) :
   Bl Tryz.prog 123 [.ref 0 v 0 l.length,.int .i64 x] (Abs.hl [⟨1,v,false,l.map intV⟩]) fun y H'=>∃ v',y=.ref 0 v' 0 (putI l x).length∧H'=Abs.hl [⟨1,v',false,(putI l x).map intV⟩]:=by
 obtain ⟨e1,e2⟩:=U8 l x
 refine zce v l x hr hl (lowI l x) (Gj hr x) (fun h1 h2=>?_) (fun h=>?_)
 · rw [putI,if_pos ((U9 hr x).2 ⟨h1,h2⟩)]
   exact ⟨v,rfl,rfl⟩
 · rw [putI,if_neg (fun hx=>by obtain ⟨h1,h2⟩:=(U9 hr x).1 hx;exact h h1 h2),← e1,← e2]
   refine ⟨v + 1,?_,rfl⟩
   congr 1
   have:=(Gj hr x).top
   simp;omega
theorem Sy:∀ {a b:List Int},Bq a→Bq b→(∀ x,x ∈ a ↔ x ∈ b)→a=b
 | [],[],_,_,_=>rfl
 | [],y :: b,_,_,h=>absurd ((h y).2 (by simp)) (by simp)
 | x :: a,[],_,_,h=>absurd ((h x).1 (by simp)) (by simp)
 | x :: a,y :: b,ha,hb,h=>by
   obtain ⟨a1,a2⟩:=List.pairwise_cons.1 ha
   obtain ⟨b1,b2⟩:=List.pairwise_cons.1 hb
   have hx:=(h x).1 (by simp)
   have hy:=(h y).2 (by simp)
   have e:x=y:=by
     rcases List.mem_cons.1 hx with e|hx
     · exact e
     · rcases List.mem_cons.1 hy with e|hy
       · exact e.symm
       · have:=b1 x hx;have:=a1 y hy;omega
   subst e
   rw [Sy a2 b2 fun z=>?_]
   have hz:=h z
   simp only [List.mem_cons] at hz
   constructor
   · intro hm
     rcases hz.1 (.inr hm) with e|hm'
     · have:=a1 z hm;omega
     · exact hm'
   · intro hm
     rcases hz.2 (.inr hm) with e|hm'
     · have:=b1 z hm;omega
     · exact hm'
theorem Ix:∀ (m l:List Int),Bq l→Bq (m.foldl putI l)∧(m.foldl putI l).length ≤ l.length + m.length∧∀ v,v ∈ m.foldl putI l ↔ v ∈ l ∨ v ∈ m
 | [],l,h=>⟨h,by simp,fun v=>by simp⟩
 | x :: m,l,h=>by
   obtain ⟨i1,i2,i3⟩:=Ix m (putI l x) (Fo h x)
   have hl:(putI l x).length ≤ l.length + 1:=by
     unfold putI
     split
     · omega
     · have:=congrArg List.length (List.takeWhile_append_dropWhile (p:=fun y=>decide (y < x)) (l:=l))
       simp only [List.length_append,List.length_cons] at this ⊢
       omega
   refine ⟨i1,by simp only [List.foldl_cons,List.length_cons];omega,fun v=>?_⟩
   rw [List.foldl_cons,i3,U7,List.mem_cons]
   constructor
   · rintro ((h|h)|h)
     · exact .inr (.inl h)
     · exact .inl h
     · exact .inr (.inr h)
   · rintro (h|h|h)
     · exact .inl (.inr h)
     · exact .inl (.inl h)
     · exact .inr h
def F0 (out:List Span) (x:Int):List Span:=addS out ⟨x,x⟩
def Je (l:List Int):List Span:=l.foldl F0 []
theorem Sz (l:List Int):∀ out:List Span,(l.foldl F0 out).length ≤ out.length + l.length:=by
 induction l with
 | nil=>intro out;simp
 | cons x l ih =>
   intro out
   have:=ih (F0 out x)
   have h2:=zfv out ⟨x,x⟩
   simp only [List.foldl_cons,List.length_cons,F0] at *
   omega
theorem z0w (l:List Int) (hl:l.length ≤ 1000000000) (hb:∀ x ∈ l,-1099511627776 ≤ x∧x ≤ 1099511627776):PC Tryz.prog 125 [Cv l] (Ad (Je l)):=by
 have hP:Ax (l.map (AV.int .i64))=true:=Cj .i64 l
 refine A9 Us ?_
 unfold Ku
 (repeat' (first|(simp (disch:=omega) only [push_cast,↓zz,seval])|(with_reducible first|refine And.intro ?_ ?_|(first|refine Ab ?_ ?_|refine Aa ?_ ?_)<;>intro hc<;>(try simp only [push_cast] at hc))|omega|with_reducible intro _))
 refine Ao (Aq (fun (k:Nat)=>k ≤ l.length) (fun k=>l.length - k)
   (fun k=>[(0,Cv l),(3,.ref 0 1 0 ((l.take k).foldl F0 []).length),(4,.int .i64 k)]) (fun k=>[⟨2,1,false,((l.take k).foldl F0 []).map Bs⟩]) (fun env _=>[Ay 2 (env 3)]) 0 (by simp) ?_ ?_)
 · (repeat' (first|(simp (disch:=omega) only [push_cast,↓zz,seval,hP,List.foldl_nil,List.length_nil])|(with_reducible first|refine And.intro ?_ ?_|(first|refine Ab ?_ ?_|refine Aa ?_ ?_)<;>intro hc<;>(try simp only [push_cast] at hc))|omega|with_reducible intro _))
 intro k hk
 have hlen:=Sz (l.take k) []
 simp only [List.length_nil,List.length_take] at hlen
 rcases Nat.lt_or_ge k l.length with hkl|hkl
 · have hxb:=hb _ (Aw hkl)
   have hst:(l.take (k + 1)).foldl F0 []=addS ((l.take k).foldl F0 []) ⟨nth l k,nth l k⟩:=by rw [take_at hkl,List.foldl_append];rfl
   generalize hxe:nth l k=x at *
   generalize hoe:(l.take k).foldl F0 []=out at *
   have hwn:IntKind.i64.wrap (x - 1)=x - 1:=IntWalk.i64_in _ (by omega)
   rcases Dn out with rfl|⟨mm,z,hout⟩
   · rw [Fa] at hst
     refine W_T ?_
     (repeat' (first|(simp (disch:=omega) only [push_cast,↓zz,seval,hP,hxe,hwn])|(with_reducible first|refine And.intro ?_ ?_|(first|refine Ab ?_ ?_|refine Aa ?_ ?_)<;>intro hc<;>(try simp only [push_cast] at hc))|omega|with_reducible intro _))
     all_goals
       refine ⟨k + 1,?_⟩
       (repeat' (first|(simp (disch:=omega) only [push_cast,↓zz,seval,hst])|(with_reducible first|refine And.intro ?_ ?_|(first|refine Ab ?_ ?_|refine Aa ?_ ?_)<;>intro hc<;>(try simp only [push_cast] at hc))|omega|with_reducible intro _))
   · have l1:out.length=mm.length + 1:=by rw [hout];simp
     have l2:nth out mm.length=z:=by rw [hout];exact Vb
     have l3:IntKind.i64.wrap (mm.length:Int)=mm.length:=IntWalk.i64_in _ (by omega)
     have l4:(out.map Bs).set mm.length (.agg [.int .i64 z.lo,.int .i64 x])=(mm ++ [(⟨z.lo,x⟩:Span)]).map Bs:=by rw [hout];exact Hu (f:=Bs) (z:=⟨z.lo,x⟩)
     have hadd:addS out ⟨x,x⟩=if z.hi=x - 1 then mm ++ [⟨z.lo,x⟩] else out ++ [⟨x,x⟩]:=by rw [hout,Gk]
     rw [hadd] at hst
     clear hadd hout
     refine W_T ?_
     (repeat' (first|(simp (disch:=omega) only [push_cast,↓zz,seval,hP,hxe,hwn,l1,l2,l3,l4])|(with_reducible first|refine And.intro ?_ ?_|(first|refine Ab ?_ ?_|refine Aa ?_ ?_)<;>intro hc<;>(try simp only [push_cast] at hc))|omega|with_reducible intro _))
     · rw [if_pos (by assumption)] at hst
       refine ⟨k + 1,?_⟩
       (repeat' (first|(simp (disch:=omega) only [push_cast,↓zz,seval,hst])|(with_reducible first|refine And.intro ?_ ?_|(first|refine Ab ?_ ?_|refine Aa ?_ ?_)<;>intro hc<;>(try simp only [push_cast] at hc))|omega|with_reducible intro _))
     · rw [if_neg (by assumption)] at hst
       refine ⟨k + 1,?_⟩
       (repeat' (first|(simp (disch:=omega) only [push_cast,↓zz,seval,hst,l1])|(with_reducible first|refine And.intro ?_ ?_|(first|refine Ab ?_ ?_|refine Aa ?_ ?_)<;>intro hc<;>(try simp only [push_cast] at hc))|omega|with_reducible intro _))
 · have et:l.take k=l:=List.take_of_length_le hkl
   have hke:k=l.length:=by omega
   rw [et] at hlen ⊢
   have hsl:l.foldl F0 []=Je l:=rfl
   rw [hsl] at hlen ⊢
   have hpp:=Cf (Je l)
   refine W_T ?_
   (repeat' (first|(simp (disch:=omega) only [push_cast,↓zz,seval,hP,hke,hpp])|(with_reducible first|refine And.intro ?_ ?_|(first|refine Ab ?_ ?_|refine Aa ?_ ?_)<;>intro hc<;>(try simp only [push_cast] at hc))|omega|with_reducible intro _))
   all_goals trace_state
def prs (a b:List Int):List Int:=a.flatMap fun x=>b.map (x + ·)
def bigB (v:Int):Bool:=decide (1114111 < v)
def Ql (a b:List Int):Option (List Int):=if (prs a b).any bigB then none else some ((prs a b).foldl putI [])
abbrev optL (o:Option (List Int)):AV:=.tup [Cv (o.getD []),.bool o.isSome]
theorem Qm {a b:List Int} {v:Int}:v ∈ prs a b ↔ ∃ x ∈ a,∃ y ∈ b,x + y=v:=by simp [prs]
theorem z4f {a b:List Int} {k:Nat} (h:k < a.length):prs (a.take (k + 1)) b=prs (a.take k) b ++ b.map (nth a k + ·):=by rw [prs,take_at h];simp [prs]
theorem zm8 (a b:List Int):(prs a b).length=a.length * b.length:=by
 induction a with
 | nil=>simp [prs]
 | cons x a ih =>
   have:prs (x :: a) b=b.map (x + ·) ++ prs a b:=rfl
   rw [this,List.length_append,List.length_map,ih,List.length_cons,Nat.add_mul]
   omega
theorem z4g {a b:List Int} {i k:Nat} (hi:i < a.length) (hk:k < b.length) (h:1114111 < nth a i + nth b k):Ql a b=none:=by
 rw [Ql,if_pos]
 rw [List.any_eq_true]
 exact ⟨_,Qm.2 ⟨_,Aw hi,_,Aw hk,rfl⟩,by simpa [bigB] using h⟩
theorem z4h {a b:List Int} (h:∀ v ∈ prs a b,v ≤ 1114111):Ql a b=some ((prs a b).foldl putI []):=by
 rw [Ql,if_neg]
 simp only [List.any_eq_true,not_exists,not_and,bigB,decide_eq_true_eq]
 intro v hv
 have:=h v hv
 omega
def Ew (m:List Int) (k:Nat):List Int:=((List.range k).filter fun (t:Nat)=>decide ((t:Int) - 1114111 ∈ m)).map fun (t:Nat)=>(t:Int) - 1114111
theorem z0x (m:List Int) (k:Nat):Ew m (k + 1)=if (k:Int) - 1114111 ∈ m then Ew m k ++ [(k:Int) - 1114111] else Ew m k:=by
 rw [Ew,List.range_succ,List.filter_append,List.map_append]
 split
 · rename_i h;simp [Ew,h]
 · rename_i h;simp [Ew,h]
theorem z7m (m:List Int) (k:Nat):(Ew m k).length ≤ k:=by
 have:=List.length_filter_le (fun t:Nat=>decide ((t:Int) - 1114111 ∈ m)) (List.range k)
 simpa [Ew] using this
theorem z7n {m:List Int} {k:Nat} {v:Int}:v ∈ Ew m k ↔ (-1114111 ≤ v∧v < (k:Int) - 1114111)∧v ∈ m:=by
 simp only [Ew,List.mem_map,List.mem_filter,List.mem_range,decide_eq_true_eq]
 constructor
 · rintro ⟨t,⟨h1,h2⟩,rfl⟩
   exact ⟨by omega,h2⟩
 · rintro ⟨h1,h2⟩
   exact ⟨(v + 1114111).toNat,⟨by omega,by rw [show (((v + 1114111).toNat:Nat):Int) - 1114111=v by omega];exact h2⟩,by omega⟩
theorem Vx (m:List Int) (k:Nat):Bq (Ew m k):=by
 rw [Bq,Ew,List.pairwise_map]
 exact ((List.pairwise_lt_range).filter _).imp fun h=>by omega
theorem z7o (a b:List Int) (hla:a.length ≤ 3000000) (hlb:b.length ≤ 3000000) (ha:∀ x ∈ a,-1114111 ≤ x∧x ≤ 1099511627776) (hb:∀ x ∈ b,0 ≤ x∧x ≤ 1099511627776) :
   PC Tryz.prog 124 [Cv a,Cv b] (optL (Ql a b)):=by
 have pa:Ax (a.map (AV.int .i64))=true:=Cj .i64 a
 have pb:Ax (b.map (AV.int .i64))=true:=Cj .i64 b
 have hmul:((a.length * b.length:Nat):Int)=(a.length:Int) * b.length:=by push_cast
 have hml:a.length * b.length ≤ 3000000 * 3000000:=Nat.mul_le_mul hla hlb
 have hw:IntKind.i64.wrap ((a.length:Int) * b.length)=(a.length:Int) * b.length:=IntWalk.i64_in _ (by omega)
 refine A9 Xw ?_
 unfold M2
 generalize hN:(2228223:Int)=N
 (repeat' (first|(simp (disch:=omega) only [push_cast,↓zz,seval,hw])|(with_reducible first|refine And.intro ?_ ?_|(first|refine Ab ?_ ?_|refine Aa ?_ ?_)<;>intro hc<;>(try simp only [push_cast] at hc))|omega|with_reducible intro _))
 · have h4:a.length * b.length ≤ 4000:=by
     rw [← hmul] at hc
     omega
   refine Ao (Aq (fun (s:Nat × List Int)=>s.1 ≤ a.length∧s.2=(prs (a.take s.1) b).foldl putI []∧∀ v ∈ prs (a.take s.1) b,v ≤ 1114111) (fun s=>a.length - s.1)
     (fun s=>[(0,Cv a),(1,Cv b),(6,.ref 0 1 0 s.2.length),(7,.int .i64 s.1)]) (fun s=>[⟨1,1,false,s.2.map (AV.int .i64)⟩]) (fun env _=>[Ay 1 (env 6)]) (0,[]) ⟨by simp,rfl,by simp [prs]⟩ ?_ ?_)
   · (repeat' (first|(simp (disch:=omega) only [push_cast,↓zz,seval,pa,pb])|(with_reducible first|refine And.intro ?_ ?_|(first|refine Ab ?_ ?_|refine Aa ?_ ?_)<;>intro hc<;>(try simp only [push_cast] at hc))|omega|with_reducible intro _))
   rintro ⟨i,out⟩ ⟨i1,i2,i3⟩
   simp only at i1 i2 i3
   rcases Nat.lt_or_ge i a.length with hi|hi
   · have hx:=ha _ (Aw hi)
     have hsn:=z4f (b:=b) hi
     refine W_T ?_
     (repeat' (first|(simp (disch:=omega) only [push_cast,↓zz,seval,pa,pb])|(with_reducible first|refine And.intro ?_ ?_|(first|refine Ab ?_ ?_|refine Aa ?_ ?_)<;>intro hc<;>(try simp only [push_cast] at hc))|omega|with_reducible intro _))
     refine Ao (Aq (fun (s:Nat × List Int)=>s.1 ≤ b.length∧s.2=(prs (a.take i) b ++ (b.take s.1).map (nth a i + ·)).foldl putI []∧∀ v ∈ prs (a.take i) b ++ (b.take s.1).map (nth a i + ·),v ≤ 1114111) (fun s=>b.length - s.1)
       (fun s=>[(0,Cv a),(1,Cv b),(6,.ref 0 1 0 s.2.length),(7,.int .i64 i),(8,.int .i64 s.1)]) (fun s=>[⟨1,1,false,s.2.map (AV.int .i64)⟩]) (fun env _=>[Ay 1 (env 6)]) (0,out) ⟨by simp,by simpa using i2,by simpa using i3⟩ ?_ ?_)
     · (repeat' (first|(simp (disch:=omega) only [push_cast,↓zz,seval,pa,pb])|(with_reducible first|refine And.intro ?_ ?_|(first|refine Ab ?_ ?_|refine Aa ?_ ?_)<;>intro hc<;>(try simp only [push_cast] at hc))|omega|with_reducible intro _))
     rintro ⟨k,o⟩ ⟨k1,k2,k3⟩
     simp only at k1 k2 k3
     rcases Nat.lt_or_ge k b.length with hk|hk
     · have hy:=hb _ (Aw hk)
       have hno:=fun h=>z4g hi hk h
       have hst:(b.take (k + 1)).map (nth a i + ·)=(b.take k).map (nth a i + ·) ++ [nth a i + nth b k]:=by rw [take_at hk];simp
       obtain ⟨f1,f2,_⟩:=Ix (prs (a.take i) b ++ (b.take k).map (nth a i + ·)) [] (by simp [Bq])
       rw [← k2] at f1 f2
       have hol:o.length ≤ 10000000000:=by
         have h1:=zm8 (a.take i) b
         have h2:(a.take i).length * b.length ≤ a.length * b.length:=Nat.mul_le_mul_right _ (by simp;omega)
         simp only [List.length_append,List.length_map,List.length_nil,List.length_take] at f2 h1 h2
         omega
       generalize hxe:nth a i=x at *
       generalize hye:nth b k=y at *
       have hws:IntKind.i64.wrap (x + y)=x + y:=IntWalk.i64_in _ (by omega)
       refine W_T ?_
       (repeat' (first|(simp (disch:=omega) only [push_cast,↓zz,seval,pa,pb,hxe,hye,hws])|(with_reducible first|refine And.intro ?_ ?_|(first|refine Ab ?_ ?_|refine Aa ?_ ?_)<;>intro hc<;>(try simp only [push_cast] at hc))|omega|with_reducible intro _))
       · rw [hno (by assumption)]
         (repeat' (first|(simp (disch:=omega) only [push_cast,↓zz,seval,Bm])|omega|(with_reducible refine And.intro ?_ ?_)))
       · (refine Hj [0] (Yy 1 o (x + y) f1 (by omega)) (by decide) (by simp) (by (simp (disch:=omega) only [push_cast,↓zz,seval])) (by (simp (disch:=omega) only [push_cast,↓zz,seval])) (by (simp (disch:=omega) only [push_cast,↓zz,seval])) (by (simp (disch:=omega) only [push_cast,↓zz,seval,List.mem_cons,List.not_mem_nil,or_false,forall_eq_or_imp,forall_eq,List.forall_mem_nil])) ?_)
         rintro y' H' ⟨v',rfl,rfl⟩
         refine ⟨_,rfl,by simp,?_⟩
         (repeat' (first|(simp (disch:=omega) only [push_cast,↓zz,seval])|(with_reducible first|refine And.intro ?_ ?_|(first|refine Ab ?_ ?_|refine Aa ?_ ?_)<;>intro hc<;>(try simp only [push_cast] at hc))|omega|with_reducible intro _))
         have hm:prs (a.take i) b ++ ((b.take k).map (x + ·) ++ [x + y])=(prs (a.take i) b ++ (b.take k).map (x + ·)) ++ [x + y]:=by rw [List.append_assoc]
         refine ⟨(k + 1,putI o (x + y)),⟨⟨rfl,by push_cast⟩,A5 _ _⟩,⟨by simp only;omega,?_,?_⟩,by simp only;omega⟩
         · rw [hst,hm,List.foldl_append,← k2];rfl
         · rw [hst,hm]
           intro v hv
           rcases List.mem_append.1 hv with hv|hv
           · exact k3 v hv
           · simp only [List.mem_singleton] at hv;omega
     · have hkb:b.take k=b:=List.take_of_length_le hk
       rw [hkb,← hsn] at k2 k3
       refine W_T ?_
       (repeat' (first|(simp (disch:=omega) only [push_cast,↓zz,seval,pa,pb])|(with_reducible first|refine And.intro ?_ ?_|(first|refine Ab ?_ ?_|refine Aa ?_ ?_)<;>intro hc<;>(try simp only [push_cast] at hc))|omega|with_reducible intro _))
       all_goals exact ⟨(i + 1,o),⟨⟨rfl,by push_cast⟩,A5 _ _⟩,⟨by simp only;omega,k2,k3⟩,by simp only;omega⟩
   · have hia:a.take i=a:=List.take_of_length_le hi
     rw [hia] at i2 i3
     have hres:=z4h i3
     rw [← i2] at hres
     rw [hres]
     refine W_T ?_
     (repeat' (first|(simp (disch:=omega) only [push_cast,↓zz,seval,pa,pb])|(with_reducible first|refine And.intro ?_ ?_|(first|refine Ab ?_ ?_|refine Aa ?_ ?_)<;>intro hc<;>(try simp only [push_cast] at hc))|omega|with_reducible intro _))
     all_goals (simp only [optL,Option.getD_some,Option.isSome_some];(repeat' (first|(simp (disch:=omega) only [push_cast,↓zz,seval,Bm])|omega|(with_reducible refine And.intro ?_ ?_))))
 · obtain ⟨n,hn⟩:∃ n:Nat,N=n:=⟨N.toNat,by omega⟩
   subst hn
   have pB:∀ f,Ax (famB n f)=true:=fun f=>Cc.2 fun x hx=>by
     obtain ⟨i,_,rfl⟩:=List.mem_map.1 hx
     rfl
   have lB:∀ f,(famB n f).length=n:=fun f=>by simp [famB]
   have aB:∀ f i,i < n→(famB n f).getD i .any=.bool (f i):=fun f i hi=>Bo hi
   have rB:=z4e n
   refine Ao (Aq (fun (i:Nat)=>i ≤ a.length∧∀ v ∈ prs (a.take i) b,v ≤ 1114111) (fun i=>a.length - i)
     (fun i=>[(0,Cv a),(1,Cv b),(9,.ref 0 1 0 n),(10,.int .i64 i)]) (fun i=>[⟨1,1,true,famB n fun t=>decide ((t:Int) - 1114111 ∈ prs (a.take i) b)⟩]) (fun env _=>[Ay 1 (env 9)]) 0 ⟨by simp,by simp [prs]⟩ ?_ ?_)
   · have e0:(famB n fun t=>decide ((t:Int) - 1114111 ∈ prs [] b))=famB n fun _=>false:=Fb fun t _=>by simp [prs]
     (repeat' (first|(simp (disch:=omega) only [push_cast,↓zz,seval,pa,pb,rB,pB,lB,e0,Int.toNat_natCast])|(with_reducible first|refine And.intro ?_ ?_|(first|refine Ab ?_ ?_|refine Aa ?_ ?_)<;>intro hc<;>(try simp only [push_cast] at hc))|omega|with_reducible intro _))
     all_goals
       show leSL _ (famB n fun _=>false) (famB n fun t=>decide ((t:Int) - 1114111 ∈ prs [] b))
       rw [e0]
       exact A5 _ _
   rintro i ⟨i1,i3⟩
   rcases Nat.lt_or_ge i a.length with hi|hi
   · have hx:=ha _ (Aw hi)
     have hsn:=z4f (b:=b) hi
     refine W_T ?_
     (repeat' (first|(simp (disch:=omega) only [push_cast,↓zz,seval,pa,pb,pB,lB])|(with_reducible first|refine And.intro ?_ ?_|(first|refine Ab ?_ ?_|refine Aa ?_ ?_)<;>intro hc<;>(try simp only [push_cast] at hc))|omega|with_reducible intro _))
     refine Ao (Aq (fun (k:Nat)=>k ≤ b.length∧∀ v ∈ prs (a.take i) b ++ (b.take k).map (nth a i + ·),v ≤ 1114111) (fun k=>b.length - k)
       (fun k=>[(0,Cv a),(1,Cv b),(9,.ref 0 1 0 n),(10,.int .i64 i),(11,.int .i64 k)]) (fun k=>[⟨1,1,true,famB n fun t=>decide ((t:Int) - 1114111 ∈ prs (a.take i) b ++ (b.take k).map (nth a i + ·))⟩]) (fun env _=>[Ay 1 (env 9)]) 0 ⟨by simp,by simpa using i3⟩ ?_ ?_)
     · have e0:(famB n fun t=>decide ((t:Int) - 1114111 ∈ prs (a.take i) b ++ []))=famB n fun t=>decide ((t:Int) - 1114111 ∈ prs (a.take i) b):=by rw [List.append_nil]
       (repeat' (first|(simp (disch:=omega) only [push_cast,↓zz,seval,pa,pb,pB,lB,e0,List.take_zero,List.map_nil])|(with_reducible first|refine And.intro ?_ ?_|(first|refine Ab ?_ ?_|refine Aa ?_ ?_)<;>intro hc<;>(try simp only [push_cast] at hc))|omega|with_reducible intro _))
     rintro k ⟨k1,k3⟩
     rcases Nat.lt_or_ge k b.length with hk|hk
     · have hy:=hb _ (Aw hk)
       have hno:=fun h=>z4g hi hk h
       have hst:(b.take (k + 1)).map (nth a i + ·)=(b.take k).map (nth a i + ·) ++ [nth a i + nth b k]:=by rw [take_at hk];simp
       generalize hxe:nth a i=x at *
       generalize hye:nth b k=y at *
       have hws:IntKind.i64.wrap (x + y)=x + y:=IntWalk.i64_in _ (by omega)
       have hws2:IntKind.i64.wrap (x + y + 1114111)=x + y + 1114111:=IntWalk.i64_in _ (by omega)
       by_cases hbg:1114111 < x + y
       · rw [hno hbg]
         refine W_T ?_
         (repeat' (first|(simp (disch:=omega) only [push_cast,↓zz,seval,pa,pb,pB,lB,hxe,hye,hws])|(with_reducible first|refine And.intro ?_ ?_|(first|refine Ab ?_ ?_|refine Aa ?_ ?_)<;>intro hc<;>(try simp only [push_cast] at hc))|omega|with_reducible intro _))
         all_goals (repeat' (first|(simp (disch:=omega) only [push_cast,↓zz,seval,Bm])|omega|(with_reducible refine And.intro ?_ ?_)))
       · obtain ⟨t,ht⟩:∃ t:Nat,x + y + 1114111=t:=⟨(x + y + 1114111).toNat,by omega⟩
         have htn:t < n:=by omega
         have hset:=Vw (f:=fun t=>decide ((t:Int) - 1114111 ∈ prs (a.take i) b ++ (b.take k).map (x + ·))) (x:=true) htn
         have he:(famB n fun j=>if j=t then true else decide ((j:Int) - 1114111 ∈ prs (a.take i) b ++ (b.take k).map (x + ·)))=famB n fun j=>decide ((j:Int) - 1114111 ∈ prs (a.take i) b ++ (b.take (k + 1)).map (x + ·)):=Fb fun j _=>by
           rw [hst,← List.append_assoc]
           by_cases h:j=t
           · subst h
             rw [if_pos rfl,eq_comm,decide_eq_true_eq,List.mem_append]
             exact .inr (by simp;omega)
           · rw [if_neg h,decide_eq_decide,List.mem_append (s:=prs (a.take i) b ++ (b.take k).map (x + ·))]
             simp only [List.mem_singleton]
             exact ⟨.inl,fun hh=>hh.elim id fun hh=>absurd hh (by omega)⟩
         rw [he] at hset
         refine W_T ?_
         (repeat' (first|(simp (disch:=omega) only [push_cast,↓zz,seval,pa,pb,pB,lB,hxe,hye,hws,hws2,ht,hset])|(with_reducible first|refine And.intro ?_ ?_|(first|refine Ab ?_ ?_|refine Aa ?_ ?_)<;>intro hc<;>(try simp only [push_cast] at hc))|omega|with_reducible intro _))
         all_goals
           refine ⟨k + 1,?_⟩
           (repeat' (first|(simp (disch:=omega) only [push_cast,↓zz,seval])|(with_reducible first|refine And.intro ?_ ?_|(first|refine Ab ?_ ?_|refine Aa ?_ ?_)<;>intro hc<;>(try simp only [push_cast] at hc))|omega|with_reducible intro _))
         all_goals
           rename_i v hv
           rw [hst,← List.append_assoc] at hv
           rcases List.mem_append.1 hv with hv|hv
           · exact k3 v hv
           · simp only [List.mem_singleton] at hv;omega
     · have hkb:b.take k=b:=List.take_of_length_le hk
       rw [hkb,← hsn] at k3
       rw [hkb,← hsn]
       refine W_T ?_
       (repeat' (first|(simp (disch:=omega) only [push_cast,↓zz,seval,pa,pb,pB,lB])|(with_reducible first|refine And.intro ?_ ?_|(first|refine Ab ?_ ?_|refine Aa ?_ ?_)<;>intro hc<;>(try simp only [push_cast] at hc))|omega|with_reducible intro _))
       all_goals
         refine ⟨i + 1,?_⟩
         (repeat' (first|(simp (disch:=omega) only [push_cast,↓zz,seval])|(with_reducible first|refine And.intro ?_ ?_|(first|refine Ab ?_ ?_|refine Aa ?_ ?_)<;>intro hc<;>(try simp only [push_cast] at hc))|omega|with_reducible intro _))
       all_goals exact k3
   · have hia:a.take i=a:=List.take_of_length_le hi
     rw [hia] at i3
     have hres:=z4h i3
     have hmem:∀ v,v ∈ prs a b→-1114111 ≤ v∧v ≤ 1114111:=fun v hv=>by
       obtain ⟨x,hx,y,hy,rfl⟩:=Qm.1 hv
       have h1:=ha x hx
       have h2:=hb y hy
       have h3:=i3 _ hv
       omega
     rw [hia]
     refine W_T ?_
     (repeat' (first|(simp (disch:=omega) only [push_cast,↓zz,seval,pa,pb,pB,lB])|(with_reducible first|refine And.intro ?_ ?_|(first|refine Ab ?_ ?_|refine Aa ?_ ?_)<;>intro hc<;>(try simp only [push_cast] at hc))|omega|with_reducible intro _))
     have lG:∀ k,k ≤ n→(Ew (prs a b) k).length ≤ k:=fun k _=>z7m _ k
     refine Ao (Aq (fun (k:Nat)=>k ≤ n) (fun k=>n - k)
       (fun k=>[(9,.ref 0 1 0 n),(12,.ref 1 1 0 (Ew (prs a b) k).length),(13,.int .i64 k)]) (fun k=>[⟨1,1,true,famB n fun t=>decide ((t:Int) - 1114111 ∈ prs a b)⟩,⟨1,1,false,(Ew (prs a b) k).map (AV.int .i64)⟩]) (fun env _=>[Ay 1 (env 9),Ay 1 (env 12)]) 0 (by simp) ?_ ?_)
     · have e0:Ew (prs a b) 0=[]:=rfl
       (repeat' (first|(simp (disch:=omega) only [push_cast,↓zz,seval,pB,lB,e0])|(with_reducible first|refine And.intro ?_ ?_|(first|refine Ab ?_ ?_|refine Aa ?_ ?_)<;>intro hc<;>(try simp only [push_cast] at hc))|omega|with_reducible intro _))
     intro k hk
     have hlk:=lG k hk
     rcases Nat.lt_or_ge k n with hkn|hkn
     · have aK:=aB (fun t=>decide ((t:Int) - 1114111 ∈ prs a b)) k hkn
       have hst:=z0x (prs a b) k
       have hwk:IntKind.i64.wrap ((k:Int) - 1114111)=(k:Int) - 1114111:=IntWalk.i64_in _ (by omega)
       by_cases hm:(k:Int) - 1114111 ∈ prs a b
       · rw [if_pos hm] at hst
         rw [decide_eq_true hm] at aK
         refine W_T ?_
         (repeat' (first|(simp (disch:=omega) only [push_cast,↓zz,seval,pB,lB,aK,hwk])|(with_reducible first|refine And.intro ?_ ?_|(first|refine Ab ?_ ?_|refine Aa ?_ ?_)<;>intro hc<;>(try simp only [push_cast] at hc))|omega|with_reducible intro _))
         all_goals
           refine ⟨k + 1,?_⟩
           (repeat' (first|(simp (disch:=omega) only [push_cast,↓zz,seval,hst])|(with_reducible first|refine And.intro ?_ ?_|(first|refine Ab ?_ ?_|refine Aa ?_ ?_)<;>intro hc<;>(try simp only [push_cast] at hc))|omega|with_reducible intro _))
       · rw [if_neg hm] at hst
         rw [decide_eq_false hm] at aK
         refine W_T ?_
         (repeat' (first|(simp (disch:=omega) only [push_cast,↓zz,seval,pB,lB,aK,hwk])|(with_reducible first|refine And.intro ?_ ?_|(first|refine Ab ?_ ?_|refine Aa ?_ ?_)<;>intro hc<;>(try simp only [push_cast] at hc))|omega|with_reducible intro _))
         all_goals
           refine ⟨k + 1,?_⟩
           (repeat' (first|(simp (disch:=omega) only [push_cast,↓zz,seval,hst])|(with_reducible first|refine And.intro ?_ ?_|(first|refine Ab ?_ ?_|refine Aa ?_ ?_)<;>intro hc<;>(try simp only [push_cast] at hc))|omega|with_reducible intro _))
     · have hke:k=n:=by omega
       subst hke
       have heq:Ew (prs a b) k=(prs a b).foldl putI []:=by
         obtain ⟨f1,_,f3⟩:=Ix (prs a b) [] (by simp [Bq])
         refine Sy (Vx _ _) f1 fun v=>?_
         rw [z7n,f3]
         simp only [List.not_mem_nil,false_or]
         constructor
         · exact fun h=>h.2
         · intro h
           have:=hmem v h
           exact ⟨by omega,h⟩
       have hpo:Ax ((Ew (prs a b) k).map (AV.int .i64))=true:=Cj .i64 _
       rw [heq] at hpo hlk ⊢
       rw [hres]
       refine W_T ?_
       (repeat' (first|(simp (disch:=omega) only [push_cast,↓zz,seval,pB,lB,hpo])|(with_reducible first|refine And.intro ?_ ?_|(first|refine Ab ?_ ?_|refine Aa ?_ ?_)<;>intro hc<;>(try simp only [push_cast] at hc))|omega|with_reducible intro _))
       all_goals (simp only [optL,Option.getD_some,Option.isSome_some];(repeat' (first|(simp (disch:=omega) only [push_cast,↓zz,seval,Bm])|omega|(with_reducible refine And.intro ?_ ?_))))
theorem Nb (s:Int):PC Tryz.prog 81 [.int .i64 s] (Ad (domL s)):=by
 refine A9 Q2 ?_
 unfold I7
 (repeat' (first|(simp (disch:=omega) only [push_cast,↓zz,seval])|(with_reducible first|refine And.intro ?_ ?_|(first|refine Ab ?_ ?_|refine Aa ?_ ?_)<;>intro hc<;>(try simp only [push_cast] at hc))|omega|with_reducible intro _))
 all_goals (simp only [domL, *];rfl)
theorem z7p (l:List Span) (d:Int) (hl:l.length ≤ 10000000000):PC Tryz.prog 121 [Ad l,.int .i64 d] (Ad (Dq l d)):=by
 have hN:=Iq l hl
 have hz:(d < -2147483648 ∨ 2147483648 < d)→Dq l d=[]:=fun h=>by rw [Dq,if_pos h]
 refine A9 Xv ?_
 unfold M1
 by_cases hb:d < -2147483648 ∨ 2147483648 < d
 · rw [hz hb]
   (repeat' (first|(simp (disch:=omega) only [push_cast,↓zz,seval])|(with_reducible first|refine And.intro ?_ ?_|(first|refine Ab ?_ ?_|refine Aa ?_ ?_)<;>intro hc<;>(try simp only [push_cast] at hc))|omega|with_reducible intro _))
   all_goals first
     | (exfalso;omega)
     | ((repeat' (first|(simp (disch:=omega) only [push_cast,↓zz,seval,Bm])|omega|(with_reducible refine And.intro ?_ ?_)));done)
 have hbd:=C4 l
 have hmv:Dq l d=Ar ((Ar l).map (Dt d)):=by rw [Dq,if_neg hb]
 have hnl:(Ar l).length ≤ 10000000000:=Nat.le_trans (C8 l) hl
 have hM:=Iq ((Ar l).map (Dt d)) (by simpa using hnl)
 rw [hmv]
 generalize Ar l=m at *
 obtain ⟨g,g0,gs,ge,gl⟩:=zc4 ([]:List Span) m (Dt d)
 (repeat' (first|(simp (disch:=omega) only [push_cast,↓zz,seval])|(with_reducible first|refine And.intro ?_ ?_|(first|refine Ab ?_ ?_|refine Aa ?_ ?_)<;>intro hc<;>(try simp only [push_cast] at hc)|refine eK hN ?_|refine eQ hN ?_|refine eG hN ?_)|((with_reducible first|refine cK hN ?_|refine cQ hN ?_|refine cG hN ?_);(simp (disch:=omega) only [push_cast,↓zz,seval]);(fail_if_success with_reducible change False))|omega|with_reducible intro _))
 refine Ao (Aq (fun (k:Nat)=>k ≤ m.length) (fun k=>m.length - k) (fun k=>[(1,.int .i64 d),(5,Ad m),(6,.ref 0 1 0 (g k).length),(7,.int .i64 k)]) (fun k=>[⟨2,1,false,(g k).map Bs⟩]) (fun env _=>[Ay 2 (env 6)]) 0 (by simp) ?_ ?_)
 · (repeat' (first|(simp (disch:=omega) only [push_cast,↓zz,seval,g0])|(with_reducible first|refine And.intro ?_ ?_|(first|refine Ab ?_ ?_|refine Aa ?_ ?_)<;>intro hc<;>(try simp only [push_cast] at hc))|omega|with_reducible intro _))
 intro k hk
 have gk:=gl k
 simp only [List.length_nil] at gk
 have hgp:=Cf (g k)
 have hpm:=Cf m
 rcases Nat.lt_or_ge k m.length with hkm|hkm
 · have hx:=hbd _ (Aw hkm)
   have e1:=gs k hkm
   generalize hxe:nth m k=x at *
   have w1:IntKind.i64.wrap (x.lo + d)=x.lo + d:=IntWalk.i64_in _ (by omega)
   have w2:IntKind.i64.wrap (x.hi + d)=x.hi + d:=IntWalk.i64_in _ (by omega)
   refine W_T ?_
   (repeat' (first|(simp (disch:=omega) only [push_cast,↓zz,seval,hpm,hxe,w1,w2])|(with_reducible first|refine And.intro ?_ ?_|(first|refine Ab ?_ ?_|refine Aa ?_ ?_)<;>intro hc<;>(try simp only [push_cast] at hc))|omega|with_reducible intro _))
   all_goals
     refine ⟨k + 1,?_⟩
     (repeat' (first|(simp (disch:=omega) only [push_cast,↓zz,seval,e1,Dt])|(with_reducible first|refine And.intro ?_ ?_|(first|refine Ab ?_ ?_|refine Aa ?_ ?_)<;>intro hc<;>(try simp only [push_cast] at hc))|omega|with_reducible intro _))
 · obtain rfl:k=m.length:=by omega
   have hge:g m.length=m.map (Dt d):=by rw [ge];simp
   rw [hge] at *
   have et:List.take m.length (m.map (Dt d))=m.map (Dt d):=List.take_of_length_le (by simp)
   refine W_T ?_
   (repeat' (first|(simp (disch:=omega) only [push_cast,↓zz,seval,hpm,hgp,et])|(with_reducible first|refine And.intro ?_ ?_|(first|refine Ab ?_ ?_|refine Aa ?_ ?_)<;>intro hc<;>(try simp only [push_cast] at hc)|refine eK hM ?_|refine eQ hM ?_|refine eG hM ?_)|((with_reducible first|refine cK hM ?_|refine cQ hM ?_|refine cG hM ?_);(simp (disch:=omega) only [push_cast,↓zz,seval,hpm,hgp,et]);(fail_if_success with_reducible change False))|omega|with_reducible intro _))
def inG (g:List Span) (k:Nat):List Int:=((List.range k).filter fun (x:Nat)=>hasI g (x:Int)).map fun (x:Nat)=>(x:Int)
theorem z4i (g:List Span) (k:Nat):inG g (k + 1)=if hasI g (k:Int) then inG g k ++ [(k:Int)] else inG g k:=by
 rw [inG,List.range_succ,List.filter_append,List.map_append]
 split
 · rename_i h;simp [inG,h]
 · rename_i h;simp [inG,h]
theorem zm9 (g:List Span) (k:Nat):(inG g k).length ≤ k:=by
 have:=List.length_filter_le (fun (x:Nat)=>hasI g (x:Int)) (List.range k)
 simpa [inG] using this
theorem zcf {g:List Span} {k:Nat} {v:Int}:v ∈ inG g k ↔ (0 ≤ v∧v < k)∧hasI g v=true:=by
 simp only [inG,List.mem_map,List.mem_filter,List.mem_range]
 constructor
 · rintro ⟨t,⟨h1,h2⟩,rfl⟩
   exact ⟨by omega,h2⟩
 · rintro ⟨h1,h2⟩
   exact ⟨v.toNat,⟨by omega,by rw [show ((v.toNat:Nat):Int)=v by omega];exact h2⟩,by omega⟩
def ownL (ps:List Part) (a:Int) (g:List Span) (k:Nat):List Int:=((inG g k).map (totV (atL ps a))).foldl putI []
def I3 (ps:List Part) (a:Int) (g:List Span) (k:Nat):Bool:=decide (inG g k ≠ []) && decide (atL ps a ≠ [])
def topI (i:Int):Nat:=if i=1 then 256 else 0
def nowR (t:Term) (i:Int):List (List Span)→Nat→List Int→Option (List Int)
 | [],_,now=>some now
 | g :: gs,k,now=>if I3 t.parts k g (topI i) then (Ql now (ownL t.parts k g (topI i))).bind (nowR t i gs (k + 1)) else nowR t i gs (k + 1) now
def D8 (t:Term) (i:Int) (gs:List (List Span)):List Span × Bool :=
 if i=2∧t.parts.length=1 then
   (Dq (Ar (nth gs (nth t.parts 0).at_.toNat)) t.sum,decide (0 ≤ (nth (Dq (Ar (nth gs (nth t.parts 0).at_.toNat)) t.sum) 0).lo) && decide ((nth (Dq (Ar (nth gs (nth t.parts 0).at_.toNat)) t.sum) ((Dq (Ar (nth gs (nth t.parts 0).at_.toNat)) t.sum).length - 1)).hi ≤ 1114111))
 else match nowR t i gs 0 [t.sum] with
   | none=>([],false)
   | some now=>(Je now,decide (0 ≤ nth now 0) && decide (nth now (now.length - 1) ≤ 1114111))
structure GOk (i:Int) (gs:List (List Span)):Prop where
 len:gs.length ≤ 4
 short:∀ g ∈ gs,g.length ≤ 64
 some:∀ g ∈ gs,∃ v,memL g v
 dom:∀ g ∈ gs,∀ v,memL g v→Qg i v=true
theorem zgy {ps:List Part} {a:Int} {k:Nat} (h:k < ps.length):atL (ps.take (k + 1)) a=if (nth ps k).at_=a then atL (ps.take k) a ++ [nth ps k] else atL (ps.take k) a:=by
 rw [take_at h,atL,atL,List.filter_append]
 split
 · rename_i h;simp [h]
 · rename_i h;simp [h]
theorem S6:∀ {l:List Int} {a b:Int},Bq l→(∀ x ∈ l,a ≤ x∧x ≤ b)→a ≤ b + 1→(l.length:Int) ≤ b - a + 1
 | [],a,b,_,_,h=>by simp;omega
 | x :: l,a,b,hr,hm,h=>by
   obtain ⟨r1,r2⟩:=List.pairwise_cons.1 hr
   have hx:=hm x (by simp)
   have:=S6 (a:=x + 1) (b:=b) r2 (fun y hy=>by have:=r1 y hy;have:=hm y (by simp [hy]);omega) (by omega)
   push_cast [List.length_cons]
   omega
structure z0y (now:List Int):Prop where
 ris:Bq now
 bd:∀ x ∈ now,-1114111 ≤ x∧x ≤ 1114111
 pos:0 < now.length
theorem z0y.len {now:List Int} (h:z0y now):now.length ≤ 2228223:=by
 have:=S6 h.ris h.bd (by omega)
 omega
theorem zcg {a b m:List Int} (ha:z0y a) (hb:∀ x ∈ b,0 ≤ x) (hp:0 < b.length) (h:Ql a b=some m):z0y m∧∀ v,v ∈ m ↔ ∃ x ∈ a,∃ y ∈ b,x + y=v:=by
 rw [Ql] at h
 split at h
 · cases h
 · rename_i hn
   injection h with h
   subst h
   obtain ⟨f1,f2,f3⟩:=Ix (prs a b) [] (by simp [Bq])
   have hmem:∀ v,v ∈ (prs a b).foldl putI [] ↔ ∃ x ∈ a,∃ y ∈ b,x + y=v:=fun v=>by rw [f3,← Qm];simp
   refine ⟨⟨f1,fun v hv=>?_,?_⟩,hmem⟩
   · obtain ⟨x,hx,y,hy,rfl⟩:=(hmem v).1 hv
     have h1:=ha.bd x hx
     have h2:=hb y hy
     have h3:¬ 1114111 < x + y:=fun h=>hn (List.any_eq_true.2 ⟨x + y,Qm.2 ⟨x,hx,y,hy,rfl⟩,by simpa [bigB] using h⟩)
     omega
   · refine List.length_pos_iff.2 fun h0=>?_
     have h1:=(hmem (nth a 0 + nth b 0)).2 ⟨_,Aw ha.pos,_,Aw hp,rfl⟩
     rw [h0] at h1
     cases h1
theorem zch {ps:List Part} {a:Int} {g:List Span} {k:Nat} (hk:k ≤ 256) (hl:ps.length ≤ 4) (hb:∀ p ∈ ps,C9 p=true) :
   Bq (ownL ps a g k)∧(ownL ps a g k).length ≤ 256∧(∀ v,v ∈ ownL ps a g k ↔ ∃ x ∈ inG g k,totV (atL ps a) x=v)∧∀ v ∈ ownL ps a g k,0 ≤ v∧v ≤ 264241152:=by
 obtain ⟨f1,f2,f3⟩:=Ix ((inG g k).map (totV (atL ps a))) [] (by simp [Bq])
 have hlen:=zm9 g k
 simp only [List.length_nil,List.length_map] at f2
 have hmem:∀ v,v ∈ ownL ps a g k ↔ ∃ x ∈ inG g k,totV (atL ps a) x=v:=fun v=>by rw [ownL,f3];simp
 refine ⟨f1,by rw [ownL];omega,hmem,fun v hv=>?_⟩
 obtain ⟨x,hx,rfl⟩:=(hmem v).1 hv
 have hx2:=(zcf.1 hx).1
 have hal:(atL ps a).length ≤ 4:=Nat.le_trans (List.length_filter_le _ _) hl
 have:=Hv (x:=x) (by omega) (l:=atL ps a) (fun p hp=>hb p (List.mem_filter.1 hp).1)
 have h2:((atL ps a).length:Int) * 66060288 ≤ 4 * 66060288:=Int.mul_le_mul_of_nonneg_right (by omega) (by omega)
 omega
theorem zci {ps:List Part} {a:Int} {g:List Span} {k:Nat} (hs:I3 ps a g k=true):0 < (ownL ps a g k).length:=by
 simp only [I3,Bool.and_eq_true,decide_eq_true_eq] at hs
 obtain ⟨f1,f2,f3⟩:=Ix ((inG g k).map (totV (atL ps a))) [] (by simp [Bq])
 obtain ⟨x,hx⟩:=List.exists_mem_of_ne_nil _ hs.1
 exact List.length_pos_of_mem ((f3 _).2 (.inr (List.mem_map_of_mem hx)))
theorem zgz {ps:List Part} {a:Int} {g:List Span} {k:Nat}:ownL ps a g (k + 1)=if hasI g (k:Int) then putI (ownL ps a g k) (totV (atL ps a) k) else ownL ps a g k:=by
 rw [ownL,z4i]
 split
 · rw [List.map_append,List.foldl_append];rfl
 · rfl
theorem zcj {ps:List Part} {a:Int} {g:List Span} {k:Nat}:I3 ps a g (k + 1)=if hasI g (k:Int) then decide (atL ps a ≠ []) else I3 ps a g k:=by
 rw [I3,z4i]
 split
 · simp
 · rfl
theorem z0z (t:Term) (i o:Int) (gs:List (List Span)) (hr:Ek t i o gs.length=true) (hG:GOk i gs) :
   PC Tryz.prog 99 [B2 t,.int .i64 i,Al gs] (.tup [Ad (D8 t i gs).1,.bool (D8 t i gs).2]):=by
 have hP:=Ag gs
 obtain ⟨hn,hp⟩:=Ej hr
 have hnum:=hn
 simp only [B5,Bool.and_eq_true,decide_eq_true_eq] at hnum
 have hl4:=hnum.2.2
 have hsm:=E1 hnum.1.1.2
 have hrp:∀ p ∈ t.parts,Db p gs.length=true:=fun p h=>List.all_eq_true.1 hp p h
 have hbp:∀ p ∈ t.parts,C9 p=true:=fun p h=>by have:=hrp p h;simp only [Db,Bool.and_eq_true] at this;exact this.2
 have hgl:=hG.len
 refine A9 Uo ?_
 unfold Kq
 by_cases hone:i=2∧t.parts.length=1
 · have hpp:=hrp _ (Aw (l:=t.parts) (i:=0) (by omega))
   have hpa:=Ai hpp
   have hI:D8 t i gs=_:=if_pos hone
   generalize hpe:nth t.parts 0=p at *
   obtain ⟨a,ha⟩:∃ a:Nat,p.at_=a:=⟨p.at_.toNat,by omega⟩
   have hag:a < gs.length:=by omega
   rw [ha,Int.toNat_natCast] at hI
   have hgm:=Aw hag
   have hN:=Iq (nth gs a) (by have:=hG.short _ hgm;omega)
   have hM:=z7p (Ar (nth gs a)) t.sum (by have:=hG.short _ hgm;have:=C8 (nth gs a);omega)
   have hpos:0 < (Dq (Ar (nth gs a)) t.sum).length:=by
     obtain ⟨v,hv⟩:=hG.some _ hgm
     have hv2:=Nu (hG.dom _ hgm v hv)
     have h1:memL (Ar (nth gs a)) v:=((Ap (nth gs a)).2 v).2 ⟨hv,by omega⟩
     have h2:memL (Dq (Ar (nth gs a)) t.sum) (v + t.sum):=(Vf (by omega)).2 ⟨⟨by rw [show v + t.sum - t.sum=v by omega];exact h1,by omega⟩,by omega⟩
     exact List.length_pos_iff.2 (Jy h2)
   have hle:(Dq (Ar (nth gs a)) t.sum).length ≤ 2147483649:=by
     rw [Dq,if_neg (by omega)];exact G5 _
   rw [hI]
   generalize Dq (Ar (nth gs a)) t.sum=l at *
   obtain ⟨m,hm⟩:∃ m,l.length=m + 1:=⟨l.length - 1,by omega⟩
   have hw:IntKind.i64.wrap (m:Int)=m:=IntWalk.i64_in _ (by omega)
   obtain ⟨h2,h1⟩:=hone
   subst h2
   clear hI
   rw [hm,Nat.add_sub_cancel]
   (repeat' (first|(simp (disch:=omega) only [push_cast,↓zz,seval,hP,hpe,ha,h1,hm,hw])|(with_reducible first|refine And.intro ?_ ?_|(first|refine Ab ?_ ?_|refine Aa ?_ ?_)<;>intro hc<;>(try simp only [push_cast] at hc)|refine eK hN ?_|refine eQ hN ?_|refine eG hN ?_|refine eK hM ?_|refine eQ hM ?_|refine eG hM ?_)|((with_reducible first|refine cK hN ?_|refine cQ hN ?_|refine cG hN ?_);(simp (disch:=omega) only [push_cast,↓zz,seval,hP,hpe,ha,h1,hm,hw]);(fail_if_success with_reducible change False))|((with_reducible first|refine cK hM ?_|refine cQ hM ?_|refine cG hM ?_);(simp (disch:=omega) only [push_cast,↓zz,seval,hP,hpe,ha,h1,hm,hw]);(fail_if_success with_reducible change False))|omega|with_reducible intro _))
   all_goals first
     | (rw [decide_eq_true (p:=0 ≤ (nth l 0).lo) (by assumption),Bool.true_and];(repeat' (first|(simp (disch:=omega) only [push_cast,↓zz,seval,Bm])|omega|(with_reducible refine And.intro ?_ ?_)));done)
     | (rw [decide_eq_false (p:=0 ≤ (nth l 0).lo) (by assumption),Bool.false_and];(repeat' (first|(simp (disch:=omega) only [push_cast,↓zz,seval,Bm])|omega|(with_reducible refine And.intro ?_ ?_)));done)
     | trace_state
 have hI:D8 t i gs=match nowR t i gs 0 [t.sum] with
   | none=>([],false)
   | some now=>(Je now,decide (0 ≤ nth now 0) && decide (nth now (now.length - 1) ≤ 1114111)):=if_neg hone
 have hst:z0y [t.sum]:=⟨by simp [Bq],by simp;omega,by simp⟩
 (repeat' (first|(simp (disch:=omega) only [push_cast,↓zz,seval,hP])|(with_reducible first|refine And.intro ?_ ?_|(first|refine Ab ?_ ?_|refine Aa ?_ ?_)<;>intro hc<;>(try simp only [push_cast] at hc))|omega|with_reducible intro _))
 all_goals first
   | (exfalso;omega)
   | skip
 all_goals
   refine Ao (Aq (fun (s:Nat × List Int)=>s.1 ≤ gs.length∧z0y s.2∧nowR t i gs 0 [t.sum]=nowR t i (gs.drop s.1) s.1 s.2) (fun s=>gs.length - s.1)
     (fun s=>[(1,.int .i64 i),(2,Al gs),(3,.ptr 0 1 0 0),(9,Cv s.2),(10,.int .i64 s.1)]) (fun s=>[⟨6,1,true,[B2 t]⟩]) (fun env _=>[Ay 1 (env 3)]) (0,[t.sum]) ⟨by simp,hst,rfl⟩ ?_ ?_)
   · (repeat' (first|(simp (disch:=omega) only [push_cast,↓zz,seval,hP])|(with_reducible first|refine And.intro ?_ ?_|(first|refine Ab ?_ ?_|refine Aa ?_ ?_)<;>intro hc<;>(try simp only [push_cast] at hc))|omega|with_reducible intro _))
   rintro ⟨k,now⟩ ⟨k1,kn,k2⟩
   simp only at k1 kn k2
   have hnl:=kn.len
   have pN:Ax (now.map (AV.int .i64))=true:=Cj .i64 now
   rcases Nat.lt_or_ge k gs.length with hk|hk
   · rw [drop_at hk,nowR] at k2
     have hgs:=hG.short _ (Aw hk)
     generalize hge:nth gs k=g at *
     refine W_T ?_
     (repeat' (first|(simp (disch:=omega) only [push_cast,↓zz,seval,hP,hge])|(with_reducible first|refine And.intro ?_ ?_|(first|refine Ab ?_ ?_|refine Aa ?_ ?_)<;>intro hc<;>(try simp only [push_cast] at hc))|omega|with_reducible intro _))
     refine Ao (Aq (fun (x:Nat)=>x ≤ topI i) (fun x=>topI i - x)
       (fun x=>[(1,.int .i64 i),(2,Al gs),(3,.ptr 0 1 0 0),(9,Cv now),(10,.int .i64 k),(11,.ref 1 1 0 (ownL t.parts k g x).length),(12,.bool (I3 t.parts k g x)),(13,.int .i64 x)])
       (fun x=>[⟨6,1,true,[B2 t]⟩,⟨1,1,false,(ownL t.parts k g x).map (AV.int .i64)⟩]) (fun env _=>[Ay 1 (env 3),Ay 1 (env 11)]) 0 (by simp) ?_ ?_)
     · have e0:ownL t.parts k g 0=[]:=rfl
       have s0:I3 t.parts k g 0=false:=rfl
       (repeat' (first|(simp (disch:=omega) only [push_cast,↓zz,seval,hP,pN,e0,s0])|(with_reducible first|refine And.intro ?_ ?_|(first|refine Ab ?_ ?_|refine Aa ?_ ?_)<;>intro hc<;>(try simp only [push_cast] at hc))|omega|with_reducible intro _))
     intro x hx
     rcases Nat.lt_or_ge x (topI i) with hxt|hxt
     · have hi:i=1∧x < 256:=by
         unfold topI at hxt
         split at hxt
         · exact ⟨by assumption,hxt⟩
         · omega
       have hie:(i=1)=True:=eq_true hi.1
       have hH:=Pu g x (by omega)
       have hos:=zgz (ps:=t.parts) (a:=k) (g:=g) (k:=x)
       have hss:=zcj (ps:=t.parts) (a:=k) (g:=g) (k:=x)
       obtain ⟨o1,o2,_,o4⟩:=zch (a:=(k:Int)) (g:=g) (k:=x) (by omega) hl4 hbp
       have hsa:I3 t.parts k g x=true→decide (atL t.parts k ≠ [])=true:=fun h=>by rw [I3,Bool.and_eq_true] at h;exact h.2
       generalize ownL t.parts k g x=own at *
       generalize I3 t.parts k g x=sm at *
       cases hh:hasI g (x:Int) with
       | false =>
         rw [hh] at hH
         rw [hh,if_neg (by simp)] at hos hss
         refine W_T ?_
         (repeat' (first|(simp (disch:=omega) only [push_cast,↓zz,seval,hP,hge,hie])|(with_reducible first|refine And.intro ?_ ?_|(first|refine Ab ?_ ?_|refine Aa ?_ ?_)<;>intro hc<;>(try simp only [push_cast] at hc)|refine eK hH ?_|refine eQ hH ?_|refine eG hH ?_)|((with_reducible first|refine cK hH ?_|refine cQ hH ?_|refine cG hH ?_);(simp (disch:=omega) only [push_cast,↓zz,seval,hP,hge,hie]);(fail_if_success with_reducible change False))|omega|with_reducible intro _))
         all_goals
           refine ⟨x + 1,?_⟩
           (repeat' (first|(simp (disch:=omega) only [push_cast,↓zz,seval,hos,hss])|(with_reducible first|refine And.intro ?_ ?_|(first|refine Ab ?_ ?_|refine Aa ?_ ?_)<;>intro hc<;>(try simp only [push_cast] at hc))|omega|with_reducible intro _))
       | true =>
         rw [hh] at hH
         rw [hh,if_pos rfl] at hos hss
         refine W_T ?_
         (repeat' (first|(simp (disch:=omega) only [push_cast,↓zz,seval,hP,hge,hie])|(with_reducible first|refine And.intro ?_ ?_|(first|refine Ab ?_ ?_|refine Aa ?_ ?_)<;>intro hc<;>(try simp only [push_cast] at hc)|refine eK hH ?_|refine eQ hH ?_|refine eG hH ?_)|((with_reducible first|refine cK hH ?_|refine cQ hH ?_|refine cG hH ?_);(simp (disch:=omega) only [push_cast,↓zz,seval,hP,hge,hie]);(fail_if_success with_reducible change False))|omega|with_reducible intro _))
         all_goals
           refine Ao (Aq (fun (j:Nat)=>j ≤ t.parts.length) (fun j=>t.parts.length - j)
             (fun j=>[(1,.int .i64 i),(2,Al gs),(3,.ptr 0 1 0 0),(9,Cv now),(10,.int .i64 k),(11,.ref 1 1 0 own.length),(12,.bool (sm || decide (atL (t.parts.take j) k ≠ []))),(13,.int .i64 x),(14,.int .i64 (totV (atL (t.parts.take j) k) x)),(15,.int .i64 j)])
             (fun j=>[⟨6,1,true,[B2 t]⟩,⟨1,1,false,own.map (AV.int .i64)⟩]) (fun env _=>[Ay 1 (env 3),Ay 1 (env 11)]) 0 (by simp) ?_ ?_)
           · have e0:atL [] (k:Int)=[]:=rfl
             (repeat' (first|(simp (disch:=omega) only [push_cast,↓zz,seval,hP,pN,e0,Vg,ne_eq,not_true_eq_false,decide_false,Bool.or_false])|(with_reducible first|refine And.intro ?_ ?_|(first|refine Ab ?_ ?_|refine Aa ?_ ?_)<;>intro hc<;>(try simp only [push_cast] at hc))|omega|with_reducible intro _))
           intro j hj
           have hbj:=Hv (x:=(x:Int)) (by omega) (l:=atL (t.parts.take j) k) (fun p hp=>hbp p (List.mem_of_mem_take (List.mem_filter.1 hp).1))
           have hlj:(atL (t.parts.take j) k).length ≤ 4:=Nat.le_trans (List.length_filter_le _ _) (by simp;omega)
           have hmj:((atL (t.parts.take j) k).length:Int) * 66060288 ≤ 4 * 66060288:=Int.mul_le_mul_of_nonneg_right (by omega) (by omega)
           rcases Nat.lt_or_ge j t.parts.length with hjp|hjp
           · have hat:=zgy (a:=(k:Int)) hjp
             have hpb:=hbp _ (Aw hjp)
             have hV:=z03 (nth t.parts j) x
             have hvs:=El hpb (x:=(x:Int)) (by omega)
             rw [z02 hpb (by omega)] at hV
             have hpp:=Fc t.parts
             generalize hpe:nth t.parts j=p at *
             generalize atL (t.parts.take j) k=A at *
             have hT:=Yn A p x
             have hw:IntKind.i64.wrap (totV A x + valP p x)=totV A x + valP p x:=IntWalk.i64_in _ (by omega)
             by_cases ha:p.at_=k
             · rw [if_pos ha] at hat
               have hne:decide (¬ (A ++ [p]=[]))=true:=by simp
               refine W_T ?_
               (repeat' (first|(simp (disch:=omega) only [push_cast,↓zz,seval,hP,hpp,hpe,ha,hw])|(with_reducible first|refine And.intro ?_ ?_|(first|refine Ab ?_ ?_|refine Aa ?_ ?_)<;>intro hc<;>(try simp only [push_cast] at hc)|refine eK hV ?_|refine eQ hV ?_|refine eG hV ?_)|((with_reducible first|refine cK hV ?_|refine cQ hV ?_|refine cG hV ?_);(simp (disch:=omega) only [push_cast,↓zz,seval,hP,hpp,hpe,ha,hw]);(fail_if_success with_reducible change False))|omega|with_reducible intro _))
               all_goals
                 refine ⟨j + 1,?_⟩
                 (repeat' (first|(simp (disch:=omega) only [push_cast,↓zz,seval,hat,hT,hne,Bool.or_true])|(with_reducible first|refine And.intro ?_ ?_|(first|refine Ab ?_ ?_|refine Aa ?_ ?_)<;>intro hc<;>(try simp only [push_cast] at hc))|omega|with_reducible intro _))
             · rw [if_neg ha] at hat
               refine W_T ?_
               (repeat' (first|(simp (disch:=omega) only [push_cast,↓zz,seval,hP,hpp,hpe])|(with_reducible first|refine And.intro ?_ ?_|(first|refine Ab ?_ ?_|refine Aa ?_ ?_)<;>intro hc<;>(try simp only [push_cast] at hc))|omega|with_reducible intro _))
               all_goals
                 refine ⟨j + 1,?_⟩
                 (repeat' (first|(simp (disch:=omega) only [push_cast,↓zz,seval,hat])|(with_reducible first|refine And.intro ?_ ?_|(first|refine Ab ?_ ?_|refine Aa ?_ ?_)<;>intro hc<;>(try simp only [push_cast] at hc))|omega|with_reducible intro _))
           · have hjt:t.parts.take j=t.parts:=List.take_of_length_le hjp
             rw [hjt] at *
             have hsm2:(sm || decide (atL t.parts k ≠ []))=I3 t.parts k g (x + 1):=by
               rw [hss]
               cases sm with
               | false=>rfl
               | true=>rw [hsa rfl];rfl
             refine W_T ?_
             (repeat' (first|(simp (disch:=omega) only [push_cast,↓zz,seval,hP])|(with_reducible first|refine And.intro ?_ ?_|(first|refine Ab ?_ ?_|refine Aa ?_ ?_)<;>intro hc<;>(try simp only [push_cast] at hc))|omega|with_reducible intro _))
             (refine Hj [1] (Yy 1 own (totV (atL t.parts k) x) o1 (by omega)) (by decide) (by simp) (by (simp (disch:=omega) only [push_cast,↓zz,seval])) (by (simp (disch:=omega) only [push_cast,↓zz,seval])) (by (simp (disch:=omega) only [push_cast,↓zz,seval])) (by (simp (disch:=omega) only [push_cast,↓zz,seval,List.mem_cons,List.not_mem_nil,or_false,forall_eq_or_imp,forall_eq,List.forall_mem_nil])) ?_)
             rintro y' H' ⟨v',rfl,rfl⟩
             refine ⟨_,rfl,by simp,?_⟩
             (repeat' (first|(simp (disch:=omega) only [push_cast,↓zz,seval])|(with_reducible first|refine And.intro ?_ ?_|(first|refine Ab ?_ ?_|refine Aa ?_ ?_)<;>intro hc<;>(try simp only [push_cast] at hc))|omega|with_reducible intro _))
             refine ⟨x + 1,?_⟩
             (repeat' (first|(simp (disch:=omega) only [push_cast,↓zz,seval,hos,hss,hsm2])|(with_reducible first|refine And.intro ?_ ?_|(first|refine Ab ?_ ?_|refine Aa ?_ ?_)<;>intro hc<;>(try simp only [push_cast] at hc))|omega|with_reducible intro _))
     · have hxe:x=topI i:=by omega
       subst hxe
       have ht:((i=1)=True∧((topI i:Int) < 256)=False) ∨ ((i=1)=False∧((topI i:Int) < 256)=True):=by
         unfold topI
         split
         · exact .inl ⟨eq_true (by assumption),by simp⟩
         · exact .inr ⟨eq_false (by assumption),by simp⟩
       obtain ⟨o1,o2,_,o4⟩:=zch (a:=(k:Int)) (g:=g) (k:=topI i) (by unfold topI;split<;>omega) hl4 hbp
       have op:=zci (ps:=t.parts) (a:=k) (g:=g) (k:=topI i)
       generalize ownL t.parts k g (topI i)=own at *
       generalize I3 t.parts k g (topI i)=sm at *
       generalize topI i=n at *
       have hS:=z7o now own (by omega) (by omega) (fun x hx=>by have:=kn.bd x hx;omega) (fun x hx=>by have:=o4 x hx;omega)
       have pO:Ax (own.map (AV.int .i64))=true:=Cj .i64 own
       have eO:List.take own.length (own.map (AV.int .i64))=own.map (AV.int .i64):=List.take_of_length_le (by simp)
       refine W_T ?_
       cases sm with
       | false =>
         rw [if_neg (by simp)] at k2
         rcases ht with ⟨hi,hn2⟩|⟨hi,hn2⟩
         all_goals
           (repeat' (first|(simp (disch:=omega) only [push_cast,↓zz,seval,hP,hge,hi,hn2])|(with_reducible first|refine And.intro ?_ ?_|(first|refine Ab ?_ ?_|refine Aa ?_ ?_)<;>intro hc<;>(try simp only [push_cast] at hc))|omega|with_reducible intro _))
         all_goals
           refine ⟨(k + 1,now),⟨rfl,by push_cast⟩,⟨by simp only;omega,kn,k2⟩,by simp only;omega⟩
       | true =>
         rw [if_pos rfl] at k2
         have hop:=op rfl
         cases hv:Ql now own with
         | none =>
           rw [hv] at hS k2
           rw [hI,k2]
           rcases ht with ⟨hi,hn2⟩|⟨hi,hn2⟩
           all_goals
             (repeat' (first|(simp (disch:=omega) only [push_cast,↓zz,seval,hP,hge,hi,hn2,pN,pO,eO,Option.bind_none])|(with_reducible first|refine And.intro ?_ ?_|(first|refine Ab ?_ ?_|refine Aa ?_ ?_)<;>intro hc<;>(try simp only [push_cast] at hc)|refine eK hS ?_|refine eQ hS ?_|refine eG hS ?_)|((with_reducible first|refine cK hS ?_|refine cQ hS ?_|refine cG hS ?_);(simp (disch:=omega) only [push_cast,↓zz,seval,hP,hge,hi,hn2,pN,pO,eO,Option.bind_none]);(fail_if_success with_reducible change False))|omega|with_reducible intro _))
           all_goals (repeat' (first|(simp (disch:=omega) only [push_cast,↓zz,seval,Bm])|omega|(with_reducible refine And.intro ?_ ?_)))
         | some m =>
           rw [hv,Option.bind_some] at k2
           rw [hv] at hS
           obtain ⟨m1,_⟩:=zcg kn (fun y hy=>(o4 y hy).1) hop hv
           have pM:Ax (m.map (AV.int .i64))=true:=Cj .i64 m
           simp only [optL,Option.getD_some,Option.isSome_some] at hS
           rcases ht with ⟨hi,hn2⟩|⟨hi,hn2⟩
           all_goals
             (repeat' (first|(simp (disch:=omega) only [push_cast,↓zz,seval,hP,hge,hi,hn2,pN,pO,eO,pM])|(with_reducible first|refine And.intro ?_ ?_|(first|refine Ab ?_ ?_|refine Aa ?_ ?_)<;>intro hc<;>(try simp only [push_cast] at hc)|refine eK hS ?_|refine eQ hS ?_|refine eG hS ?_)|((with_reducible first|refine cK hS ?_|refine cQ hS ?_|refine cG hS ?_);(simp (disch:=omega) only [push_cast,↓zz,seval,hP,hge,hi,hn2,pN,pO,eO,pM]);(fail_if_success with_reducible change False))|omega|with_reducible intro _))
           all_goals
             refine ⟨(k + 1,m),⟨rfl,by push_cast⟩,⟨by simp only;omega,m1,k2⟩,by simp only;omega⟩
   · rw [List.drop_of_length_le hk,nowR] at k2
     rw [hI,k2]
     have hS:=z0w now (by omega) (fun x hx=>by have:=kn.bd x hx;omega)
     obtain ⟨m,hm⟩:∃ m,now.length=m + 1:=⟨now.length - 1,by have:=kn.pos;omega⟩
     have hw:IntKind.i64.wrap (m:Int)=m:=IntWalk.i64_in _ (by omega)
     simp only
     rw [hm,Nat.add_sub_cancel]
     refine W_T ?_
     (repeat' (first|(simp (disch:=omega) only [push_cast,↓zz,seval,hP,pN,hm,hw])|(with_reducible first|refine And.intro ?_ ?_|(first|refine Ab ?_ ?_|refine Aa ?_ ?_)<;>intro hc<;>(try simp only [push_cast] at hc)|refine eK hS ?_|refine eQ hS ?_|refine eG hS ?_)|((with_reducible first|refine cK hS ?_|refine cQ hS ?_|refine cG hS ?_);(simp (disch:=omega) only [push_cast,↓zz,seval,hP,pN,hm,hw]);(fail_if_success with_reducible change False))|omega|with_reducible intro _))
     all_goals first
       | (rw [decide_eq_true (p:=0 ≤ nth now 0) (by assumption),Bool.true_and];(repeat' (first|(simp (disch:=omega) only [push_cast,↓zz,seval,Bm])|omega|(with_reducible refine And.intro ?_ ?_)));done)
       | (rw [decide_eq_false (p:=0 ≤ nth now 0) (by assumption),Bool.false_and];(repeat' (first|(simp (disch:=omega) only [push_cast,↓zz,seval,Bm])|omega|(with_reducible refine And.intro ?_ ?_)));done)
       | trace_state
theorem Yz {l:List Int} (h:Bq l) {i j:Nat} (hij:i ≤ j) (hj:j < l.length):nth l i ≤ nth l j:=by
 rcases Nat.lt_or_ge i j with hlt|hge
 · have:=List.pairwise_iff_getElem.1 h i j (by omega) hj hlt
   simp only [nth,List.getD_eq_getElem?_getD,List.getElem?_eq_getElem hj,List.getElem?_eq_getElem (show i < l.length by omega),Option.getD_some]
   omega
 · rw [show i=j by omega];exact Int.le_refl _
theorem zi0 {α:Type} [Inhabited α] {l:List α} {x:α} (h:x ∈ l):∃ i,i < l.length∧nth l i=x:=by
 obtain ⟨i,hi,rfl⟩:=List.getElem_of_mem h
 exact ⟨i,hi,by simp [nth,hi]⟩
theorem z7q {l:List Int} (h:Bq l) (hp:0 < l.length) {m M:Int}:(m ≤ nth l 0∧nth l (l.length - 1) ≤ M) ↔ ∀ v ∈ l,m ≤ v∧v ≤ M:=by
 constructor
 · rintro ⟨h1,h2⟩ v hv
   obtain ⟨i,hi,rfl⟩:=zi0 hv
   have a1:=Yz h (Nat.zero_le i) hi
   have a2:=Yz h (show i ≤ l.length - 1 by omega) (by omega)
   omega
 · intro ha
   have a1:=ha _ (Aw hp)
   have a2:=ha _ (Aw (show l.length - 1 < l.length by omega))
   exact ⟨a1.1,a2.2⟩
theorem z4j {l:List Span} (h:Plain l) {i j:Nat} (hij:i ≤ j) (hj:j < l.length):(nth l i).lo ≤ (nth l j).lo∧(nth l i).hi ≤ (nth l j).hi:=by
 rcases Nat.lt_or_ge i j with hlt|hge
 · have h1:=List.pairwise_iff_getElem.1 h.2 i j (by omega) hj hlt
   have h2:=h.1 _ (Aw hj)
   have h3:=h.1 _ (Aw (show i < l.length by omega))
   simp only [nth,List.getD_eq_getElem?_getD,List.getElem?_eq_getElem hj,List.getElem?_eq_getElem (show i < l.length by omega),Option.getD_some] at h2 h3 ⊢
   omega
 · rw [show i=j by omega];exact ⟨Int.le_refl _,Int.le_refl _⟩
theorem zck {l:List Span} (h:Plain l) (hp:0 < l.length) {m M:Int}:(m ≤ (nth l 0).lo∧(nth l (l.length - 1)).hi ≤ M) ↔ ∀ v,memL l v→m ≤ v∧v ≤ M:=by
 constructor
 · rintro ⟨h1,h2⟩ v ⟨s,hs,hv⟩
   obtain ⟨i,hi,rfl⟩:=zi0 hs
   have a1:=z4j h (Nat.zero_le i) hi
   have a2:=z4j h (show i ≤ l.length - 1 by omega) (by omega)
   omega
 · intro ha
   have l1:=h.1 _ (Aw hp)
   have l2:=h.1 _ (Aw (show l.length - 1 < l.length by omega))
   have a1:=ha (nth l 0).lo ⟨_,Aw hp,Int.le_refl _,l1⟩
   have a2:=ha (nth l (l.length - 1)).hi ⟨_,Aw (by omega),l2,Int.le_refl _⟩
   exact ⟨a1.1,a2.2⟩
theorem S7:∀ (l:List Int) (out:List Span),Bq l→Plain out→(∀ x ∈ l,z09 out x)→Plain (l.foldl F0 out)∧∀ v,memL (l.foldl F0 out) v ↔ memL out v ∨ v ∈ l
 | [],out,_,h,_=>⟨h,fun v=>by simp⟩
 | x :: l,out,hr,h,ha=>by
   obtain ⟨r1,r2⟩:=List.pairwise_cons.1 hr
   obtain ⟨p1,p2,p3⟩:=Sk h (x:=⟨x,x⟩) (Int.le_refl _) (ha x (by simp))
   obtain ⟨i1,i2⟩:=S7 l (F0 out x) r2 p1 fun y hy=>Sl p2 (by have:=r1 y hy;simp only;omega)
   refine ⟨i1,fun v=>?_⟩
   rw [List.foldl_cons,i2,List.mem_cons]
   have:=p3 v
   simp only at this
   rw [F0,this]
   constructor
   · rintro ((h|h)|h)
     · exact .inl h
     · exact .inr (.inl (by omega))
     · exact .inr (.inr h)
   · rintro (h|rfl|h)
     · exact .inl (.inl h)
     · exact .inl (.inr ⟨Int.le_refl _,Int.le_refl _⟩)
     · exact .inr h
theorem z1a {l:List Int} (h:Bq l):Plain (Je l)∧∀ v,memL (Je l) v ↔ v ∈ l:=by
 obtain ⟨h1,h2⟩:=S7 l [] h ⟨by simp,by simp⟩ (fun x _ s hs=>by cases hs)
 exact ⟨h1,fun v=>by rw [Je,h2];simp [memL]⟩
def begW (l:List Part) (k:Nat) (w:List Int):Int:=L6 l ((List.range k).map fun (a:Nat)=>(a:Int)) w
theorem Gs (l:List Part) (k:Nat) (w:List Int):begW l (k + 1) w=begW l k w + totV (atL l k) (nth w k):=by
 simp [begW,L6,List.range_succ,List.map_append,List.sum_append]
theorem zcl (l:List Part) (w:List Int):begW l 0 w=0:=rfl
theorem z4k {l:List Part} {n:Nat} {w:List Int} (h:∀ p ∈ l,0 ≤ p.at_∧p.at_ < n):begW l n w=totW w l:=by
 refine Iv w l _ ?_ fun p hp=>?_
 · exact List.pairwise_map.2 (List.nodup_range.imp fun h e=>h (by omega))
 · have:=h p hp
   exact List.mem_map.2 ⟨p.at_.toNat,by simp;omega,by omega⟩
theorem z4l {l:List Part} {w:List Int} {k:Nat} {x:Int} (hk:k < w.length):∀ {j:Nat},j ≤ k→begW l j (w.set k x)=begW l j w
 | 0,_=>rfl
 | j + 1,h=>by
   rw [Gs,Gs,z4l hk (j:=j) (by omega),L8 hk,if_neg (by omega)]
theorem zma {l:List Part} {x:Int} (hx:0 ≤ x∧x ≤ 2097151) (hb:∀ p ∈ l,C9 p=true) (a:Int):0 ≤ totV (atL l a) x:=(Hv hx (l:=atL l a) fun p hp=>hb p (List.mem_filter.1 hp).1).1
theorem Y0 {l:List Part} {w:List Int} {k n:Nat} (hb:∀ p ∈ l,C9 p=true) (hw:∀ a,a < n→0 ≤ nth w a∧nth w a ≤ 1114111):∀ d,k + d ≤ n→begW l k w ≤ begW l (k + d) w
 | 0,_=>Int.le_refl _
 | d + 1,h=>by
   have h1:=Y0 hb hw d (k:=k) (by omega)
   have h2:=hw (k + d) (by omega)
   have h3:=zma (x:=nth w (k + d)) (by omega) hb ((k + d:Nat):Int)
   have h4:begW l (k + (d + 1)) w=begW l (k + d) w + totV (atL l ((k + d:Nat):Int)) (nth w (k + d)):=Gs l (k + d) w
   omega
theorem Lh {g:List Span} {v:Int} {i:Int} (hd:∀ v,memL g v→Qg i v=true):memL (symI g) v ↔ memL g v:=by
 rw [(La g).2 v]
 constructor
 · exact fun h=>h.2
 · exact fun h=>⟨Nu (hd v h),h⟩
structure TOk (t:Term) (i:Int) (gs:List (List Span)):Prop where
 parts:∀ p ∈ t.parts,Db p gs.length=true
 four:t.parts.length ≤ 4
 sm:-1114111 ≤ t.sum∧t.sum ≤ 1114111
 sort:i=1 ∨ (i=2∧t.parts.length ≤ 1∧∀ p ∈ t.parts,Fy p=true)
theorem TOk.bits {t:Term} {i:Int} {gs:List (List Span)} (h:TOk t i gs):∀ p ∈ t.parts,C9 p=true:=fun p hp=>by
 have:=h.parts p hp
 simp only [Db,Bool.and_eq_true] at this
 exact this.2
theorem TOk.at {t:Term} {i:Int} {gs:List (List Span)} (h:TOk t i gs):∀ p ∈ t.parts,0 ≤ p.at_∧p.at_ < gs.length:=fun p hp=>Ai (h.parts p hp)
theorem zi1 {t:Term} {i o:Int} {gs:List (List Span)} (hr:Ek t i o gs.length=true):TOk t i gs:=by
 obtain ⟨hn,hp⟩:=Ej hr
 simp only [B5,Bool.and_eq_true,decide_eq_true_eq] at hn
 refine ⟨fun p h=>List.all_eq_true.1 hp p h,hn.2.2,E1 hn.1.1.2,?_⟩
 simp only [Ek,C0,X6,Bool.and_eq_true,Bool.or_eq_true,decide_eq_true_eq,List.all_eq_true] at hr
 obtain ⟨⟨⟨⟨⟨h1,_⟩,_⟩,h2⟩,h3⟩,_⟩:=hr
 rcases h1 with h1|h1
 · exact .inl h1
 · refine .inr ⟨h1,?_,fun p hp=>?_⟩
   · rcases h3 with h3|h3
     · exact absurd h1 h3
     · exact h3
   · rcases (h2 p hp).2 with h|h
     · exact absurd h1 h
     · exact h
def PS (t:Term) (gs:List (List Span)) (k:Nat) (now:List Int):Prop:=z0y now∧∀ v,v ∈ now ↔ ∃ w,Win (gs.map symI) w∧t.sum + begW t.parts k w=v
theorem zcm {gs:List (List Span)} {w:List Int} (h:Win (gs.map symI) w):w.length=gs.length:=by have:=h.1;simpa using this
theorem zcn {gs:List (List Span)} {w:List Int} {k:Nat} (h:Win (gs.map symI) w) (hk:k < gs.length):memL (symI (nth gs k)) (nth w k):=by
 have:=h.2 k (by simpa using hk)
 have e:nth (gs.map symI) k=symI (nth gs k):=by simp [nth,hk]
 rwa [e] at this
theorem zco {gs:List (List Span)} {w:List Int} (h:Win (gs.map symI) w) {k:Nat} (hk:k < gs.length):0 ≤ nth w k∧nth w k ≤ 1114111:=(((La _).2 _).1 (zcn h hk)).1
theorem zcp {gs:List (List Span)} {w:List Int} {k:Nat} {x:Int} (h:Win (gs.map symI) w) (hk:k < gs.length) (hx:memL (symI (nth gs k)) x):Win (gs.map symI) (w.set k x) :=
 zc0 h (by simpa using hk) (by have e:nth (gs.map symI) k=symI (nth gs k):=(by simp [nth,hk]);rwa [e])
theorem zpw {i:Int} {gs:List (List Span)} (hG:GOk i gs):∃ w,Win (gs.map symI) w:=by
 refine z4b.1 (List.all_eq_true.2 fun g hg=>?_)
 rw [List.take_length] at hg
 obtain ⟨v,hv⟩:=hG.some g hg
 have h1:=(Lh (hG.dom g hg)).2 hv
 have:=List.length_pos_iff.2 (Jy h1)
 rw [decide_eq_true_eq]
 omega
theorem Qn {t:Term} {i:Int} {gs:List (List Span)} (hT:TOk t i gs) (hG:GOk i gs) (h1:¬ (i=2∧t.parts.length=1)):∀ (rest:List (List Span)) (k:Nat) (now:List Int),gs.drop k=rest→k ≤ gs.length→PS t gs k now →
   match nowR t i rest k now with
   | none=>∃ w,Win (gs.map symI) w∧1114111 < t.sum + totW w t.parts
   | some m=>PS t gs gs.length m
 | [],k,now,hd,hk,hp=>by
   have:k=gs.length:=by
     have:=congrArg List.length hd
     simp at this;omega
   subst this
   exact hp
 | g :: rest,k,now,hd,hk,hp=>by
   have hkl:k < gs.length:=by
     rcases Nat.lt_or_ge k gs.length with h|h
     · exact h
     · rw [List.drop_of_length_le h] at hd;cases hd
   rw [drop_at hkl] at hd
   injection hd with hg hd
   subst hg
   have hgm:=Aw hkl
   have hin:i=1→∀ x,x ∈ inG (nth gs k) 256 ↔ memL (symI (nth gs k)) x:=fun hi x=>by
     rw [zcf,Lh (hG.dom _ hgm)]
     constructor
     · rintro ⟨hx,hh⟩
       exact (zc2 (by omega)).1 hh
     · intro hm
       have hb:=hG.dom _ hgm x hm
       rw [hi] at hb
       simp only [Qg,decide_eq_true_eq] at hb
       exact ⟨by omega,(zc2 (by omega)).2 hm⟩
   rw [nowR]
   cases hs:I3 t.parts k (nth gs k) (topI i) with
   | false =>
     rw [if_neg (by simp)]
     have hnil:atL t.parts k=[]:=by
       rcases hT.sort with hi|⟨hi,hl,_⟩
       · rw [hi] at hs
         simp only [I3,Bool.and_eq_false_iff,decide_eq_false_iff_not,Decidable.not_not] at hs
         rcases hs with hs|hs
         · exfalso
           obtain ⟨v,hv⟩:=hG.some _ hgm
           have:=(hin hi v).2 ((Lh (hG.dom _ hgm)).2 hv)
           rw [show topI 1=256 from rfl] at hs
           rw [hs] at this
           cases this
         · exact hs
       · have:t.parts=[]:=List.eq_nil_of_length_eq_zero (by omega)
         rw [this];rfl
     refine Qn hT hG h1 rest (k + 1) now hd (by omega) ⟨hp.1,fun v=>?_⟩
     rw [hp.2]
     have e:∀ w,begW t.parts (k + 1) w=begW t.parts k w:=fun w=>by rw [Gs,hnil,Vg,Int.add_zero]
     simp only [e]
   | true =>
     rw [if_pos rfl]
     have hi:i=1:=by
       rcases hT.sort with hi|⟨hi,_,_⟩
       · exact hi
       · exfalso
         subst hi
         simp [I3,topI,inG] at hs
     have e256:topI i=256:=by rw [hi];rfl
     rw [e256] at hs ⊢
     have hop:=zci hs
     obtain ⟨o1,o2,o3,o4⟩:=zch (a:=(k:Int)) (g:=nth gs k) (k:=256) (Nat.le_refl _) hT.four hT.bits
     have hstep:∀ w,Win (gs.map symI) w→∀ y,y ∈ ownL t.parts k (nth gs k) 256→∃ w',Win (gs.map symI) w'∧begW t.parts (k + 1) w'=begW t.parts k w + y:=fun w hw y hy=>by
       obtain ⟨x,hx,rfl⟩:=(o3 y).1 hy
       refine ⟨w.set k x,zcp hw hkl ((hin hi x).1 hx),?_⟩
       have hlw:=zcm hw
       rw [Gs,z4l (by omega) (Nat.le_refl k),L8 (by omega),if_pos rfl]
     cases hv:Ql now (ownL t.parts k (nth gs k) 256) with
     | none =>
       simp only [Option.bind_none]
       rw [Ql] at hv
       split at hv
       · rename_i hb
         obtain ⟨v,hv1,hv2⟩:=List.any_eq_true.1 hb
         obtain ⟨x,hx,y,hy,rfl⟩:=Qm.1 hv1
         obtain ⟨w,hw,rfl⟩:=(hp.2 x).1 hx
         obtain ⟨w',hw',e'⟩:=hstep w hw y hy
         refine ⟨w',hw',?_⟩
         have hm:=Y0 (k:=k + 1) hT.bits (fun a ha=>zco hw' ha) (gs.length - (k + 1)) (by omega)
         rw [show k + 1 + (gs.length - (k + 1))=gs.length by omega,z4k hT.at] at hm
         simp only [bigB,decide_eq_true_eq] at hv2
         omega
       · cases hv
     | some m =>
       simp only [Option.bind_some]
       obtain ⟨m1,m2⟩:=zcg hp.1 (fun y hy=>(o4 y hy).1) hop hv
       refine Qn hT hG h1 rest (k + 1) m hd (by omega) ⟨m1,fun v=>?_⟩
       rw [m2]
       constructor
       · rintro ⟨x,hx,y,hy,rfl⟩
         obtain ⟨w,hw,rfl⟩:=(hp.2 x).1 hx
         obtain ⟨w',hw',e'⟩:=hstep w hw y hy
         exact ⟨w',hw',by omega⟩
       · rintro ⟨w,hw,rfl⟩
         exact ⟨_,(hp.2 _).2 ⟨w,hw,rfl⟩,_,(o3 _).2 ⟨nth w k,(hin hi _).2 (zcn hw hkl),rfl⟩,by rw [Gs];omega⟩
theorem S8 {t:Term} {i:Int} {gs:List (List Span)} (hT:TOk t i gs) (hG:GOk i gs) :
   ((D8 t i gs).2=true ↔ ∀ w,Win (gs.map symI) w→0 ≤ t.sum + totW w t.parts∧t.sum + totW w t.parts ≤ 1114111) ∧
   ((D8 t i gs).2=true→Plain (D8 t i gs).1∧(D8 t i gs).1.length ≤ 2147483649∧∀ v,memL (D8 t i gs).1 v ↔ ∃ w,Win (gs.map symI) w∧t.sum + totW w t.parts=v):=by
 have hall:∀ w,begW t.parts gs.length w=totW w t.parts:=fun w=>z4k hT.at
 obtain ⟨w0,hw0⟩:=zpw hG
 have hsm:=hT.sm
 by_cases h1:i=2∧t.parts.length=1
 · obtain ⟨p,hp⟩:∃ p,t.parts=[p]:=List.length_eq_one_iff.1 h1.2
   have hpm:p ∈ t.parts:=by rw [hp];simp
   have hpa:=hT.at p hpm
   have hpw:Fy p=true:=by
     rcases hT.sort with h|h
     · omega
     · exact h.2.2 p hpm
   obtain ⟨a,ha⟩:∃ a:Nat,p.at_=a:=⟨p.at_.toNat,by omega⟩
   have hag:a < gs.length:=by omega
   have hgm:=Aw hag
   have hI:D8 t i gs=(Dq (Ar (nth gs a)) t.sum,decide (0 ≤ (nth (Dq (Ar (nth gs a)) t.sum) 0).lo) && decide ((nth (Dq (Ar (nth gs a)) t.sum) ((Dq (Ar (nth gs a)) t.sum).length - 1)).hi ≤ 1114111)):=by
     rw [D8,if_pos h1,show (nth t.parts 0)=p by rw [hp];rfl,ha,Int.toNat_natCast]
   have htot:∀ w,Win (gs.map symI) w→totW w t.parts=nth w a:=fun w hw=>by
     have hx:=zco hw hag
     rw [hp]
     simp only [totW,List.map_cons,List.map_nil,List.sum_cons,List.sum_nil,Int.add_zero,ha,Int.toNat_natCast]
     simp only [Fy,decide_eq_true_eq] at hpw
     rw [valP,hpw.1,hpw.2.1,hpw.2.2]
     simp
     omega
   have hmem:∀ v,memL (Dq (Ar (nth gs a)) t.sum) v ↔ ∃ w,Win (gs.map symI) w∧t.sum + totW w t.parts=v:=fun v=>by
     rw [Vf (by omega),(Ap (nth gs a)).2]
     constructor
     · rintro ⟨⟨⟨h,_⟩,_⟩,_⟩
       have hs:=(Lh (hG.dom _ hgm)).2 h
       have hw:=zcp hw0 hag hs
       refine ⟨_,hw,?_⟩
       rw [htot _ hw,L8 (by rw [zcm hw0];exact hag),if_pos rfl]
       omega
     · rintro ⟨w,hw,rfl⟩
       rw [htot w hw]
       have hx:=zco hw hag
       have hs:=(Lh (hG.dom _ hgm)).1 (zcn hw hag)
       exact ⟨⟨⟨by rw [show t.sum + nth w a - t.sum=nth w a by omega];exact hs,by omega⟩,by omega⟩,by omega⟩
   have hpl:Plain (Dq (Ar (nth gs a)) t.sum):=by
     rw [Dq,if_neg (by omega)];exact (Ap _).1
   have hle:(Dq (Ar (nth gs a)) t.sum).length ≤ 2147483649:=by
     rw [Dq,if_neg (by omega)];exact G5 _
   have hpos:0 < (Dq (Ar (nth gs a)) t.sum).length:=List.length_pos_iff.2 (Jy ((hmem _).2 ⟨w0,hw0,rfl⟩))
   rw [hI]
   generalize Dq (Ar (nth gs a)) t.sum=l at *
   refine ⟨?_,fun _=>⟨hpl,hle,hmem⟩⟩
   simp only
   rw [Bool.and_eq_true,decide_eq_true_eq,decide_eq_true_eq,zck hpl hpos]
   constructor
   · exact fun h w hw=>h _ ((hmem _).2 ⟨w,hw,rfl⟩)
   · intro h v hv
     obtain ⟨w,hw,rfl⟩:=(hmem v).1 hv
     exact h w hw
 · have hst:PS t gs 0 [t.sum]:=⟨⟨by simp [Bq],by simp;omega,by simp⟩,fun v=>by
     simp only [zcl,Int.add_zero,List.mem_singleton]
     exact ⟨fun h=>⟨w0,hw0,h.symm⟩,fun ⟨_,_,h⟩=>h.symm⟩⟩
   have hN:=Qn hT hG h1 gs 0 [t.sum] rfl (by omega) hst
   have hI:D8 t i gs=match nowR t i gs 0 [t.sum] with
     | none=>([],false)
     | some now=>(Je now,decide (0 ≤ nth now 0) && decide (nth now (now.length - 1) ≤ 1114111)):=if_neg h1
   cases hv:nowR t i gs 0 [t.sum] with
   | none =>
     rw [hv] at hN hI
     simp only at hN hI
     rw [hI]
     obtain ⟨w,hw,hb⟩:=hN
     refine ⟨⟨fun h=>(by cases h),fun h=>?_⟩,fun h=>(by cases h)⟩
     have:=h w hw
     omega
   | some now =>
     rw [hv] at hN hI
     simp only at hN hI
     rw [hI]
     obtain ⟨n1,n2⟩:=hN
     obtain ⟨s1,s2⟩:=z1a n1.ris
     have hsl:=Sz now []
     have hnl:=n1.len
     simp only [List.length_nil] at hsl
     refine ⟨?_,fun _=>⟨s1,by simp only [Je];omega,fun v=>?_⟩⟩
     · simp only
       rw [Bool.and_eq_true,decide_eq_true_eq,decide_eq_true_eq,z7q n1.ris n1.pos]
       constructor
       · intro h w hw
         have:=h _ ((n2 _).2 ⟨w,hw,rfl⟩)
         rw [hall] at this
         exact this
       · intro h v hv
         obtain ⟨w,hw,rfl⟩:=(n2 v).1 hv
         rw [hall]
         exact h w hw
     · rw [s2,n2]
       simp only [hall]
def okQ (t:Term) (q:Int):Bool:=decide (0 ≤ t.base + q % 2 ^ t.take.toNat * 2 ^ t.up.toNat∧t.base + q % 2 ^ t.take.toNat * 2 ^ t.up.toNat ≤ 255)
def rowQ (t:Term) (a:Int) (n:Nat):Bool:=(List.range n).all fun k=>okQ t (a + (k:Nat))
def Vy (t:Term) (s:Span):Bool:=rowQ t (s.lo / 2 ^ t.drop.toNat) (s.hi / 2 ^ t.drop.toNat - s.lo / 2 ^ t.drop.toNat + 1).toNat
def zcq (t:Term) (i o:Int) (gs:List (List Span)):Bool :=
 Ek t i o gs.length && ((D8 t i gs).2 && (if o=2 then decide (Eb (D8 t i gs).1 (domL o)=[]) else (D8 t i gs).1.all (Vy t)))
theorem Qo {t:Term} {a:Int} {n:Nat}:rowQ t a n=true ↔ ∀ k:Nat,k < n→okQ t (a + k)=true:=by
 simp [rowQ,List.all_eq_true]
theorem z7r {t:Term} {a:Int} {n k:Nat} (h:k < n) (hb:okQ t (a + k)=false):rowQ t a n=false:=by
 rw [rowQ,List.all_eq_false]
 exact ⟨k,by simpa using h,by simp [hb]⟩
theorem zcr {t:Term} {a:Int} {n m:Nat} (hm:(m:Int)=2 ^ t.take.toNat) (h:∀ k:Nat,k < m→okQ t (a + k)=true):rowQ t a n=true:=by
 refine Qo.2 fun k _=>?_
 have hp:0 < m:=by
   have:(0:Int) < 2 ^ t.take.toNat:=Int.pow_pos (by decide)
   omega
 have h1:=h (k % m) (Nat.mod_lt _ hp)
 have e:(a + (k:Nat)) % 2 ^ t.take.toNat=(a + ((k % m:Nat):Nat)) % 2 ^ t.take.toNat:=by
   rw [← hm]
   have:=Nat.div_add_mod k m
   rw [show (a + (k:Int))=a + ((k % m:Nat):Int) + (m:Int) * ((k / m:Nat):Int) by rw [← Int.natCast_mul];omega,Int.add_mul_emod_self_left]
 rw [okQ,e]
 rwa [okQ] at h1
theorem zmb {t:Term} {a:Int} {m:Nat} (hm:(m:Int)=2 ^ t.take.toNat) (hb:300 < m) (hup:t.up=0 ∨ t.take ≤ 6) (ht:1 ≤ t.take∧t.take ≤ 21) (h1:okQ t a=true) (h2:okQ t (a + 256)=true):False:=by
 have hu:t.up=0:=by
   rcases hup with h|h
   · exact h
   · exfalso
     have:(2:Nat) ^ t.take.toNat ≤ 2 ^ 6:=Nat.pow_le_pow_right (by decide) (by omega)
     have e:((2 ^ t.take.toNat:Nat):Int)=2 ^ t.take.toNat:=by simp
     omega
 have h9:512 ≤ m:=by
   rcases Nat.lt_or_ge t.take.toNat 9 with h|h
   · have:(2:Nat) ^ t.take.toNat ≤ 2 ^ 8:=Nat.pow_le_pow_right (by decide) (by omega)
     have e:((2 ^ t.take.toNat:Nat):Int)=2 ^ t.take.toNat:=by simp
     omega
   · have:(2:Nat) ^ 9 ≤ 2 ^ t.take.toNat:=Nat.pow_le_pow_right (by decide) h
     have e:((2 ^ t.take.toNat:Nat):Int)=2 ^ t.take.toNat:=by simp
     omega
 simp only [okQ,decide_eq_true_eq,hu,← hm] at h1 h2
 simp only [show (0:Int).toNat=0 from rfl,Int.pow_zero,Int.mul_one] at h1 h2
 have b1:=Int.emod_nonneg a (show (m:Int) ≠ 0 by omega)
 have b2:=Int.emod_lt_of_pos a (show (0:Int) < m by omega)
 have b3:=Int.emod_nonneg (a + 256) (show (m:Int) ≠ 0 by omega)
 have e1:=Int.emod_add_mul_ediv a m
 have e2:=Int.emod_add_mul_ediv (a + 256) m
 generalize a % (m:Int)=r1 at *
 generalize (a + 256) % (m:Int)=r2 at *
 generalize a / (m:Int)=q1 at *
 generalize (a + 256) / (m:Int)=q2 at *
 have e3:r2 - r1 - 256=(m:Int) * (q1 - q2):=by rw [Int.mul_sub];omega
 rcases Int.lt_trichotomy (q1 - q2) 0 with h|h|h
 · have:=Int.mul_le_mul_of_nonneg_left (show q1 - q2 ≤ -1 by omega) (show (0:Int) ≤ m by omega)
   omega
 · rw [h] at e3;omega
 · have:=Int.mul_le_mul_of_nonneg_left (show 1 ≤ q1 - q2 by omega) (show (0:Int) ≤ m by omega)
   omega
theorem zh0 {t:Term} {l:List Span} {k:Nat} (h:k < l.length):(l.drop k).all (Vy t)=(Vy t (nth l k) && (l.drop (k + 1)).all (Vy t)):=by rw [drop_at h,List.all_cons]
set_option maxHeartbeats 4000000 in
theorem z7s (t:Term) (i o:Int) (gs:List (List Span)) (ht:t.parts.length < 1000000000000) (hG:GOk i gs) :
   PC Tryz.prog 82 [B2 t,.int .i64 i,.int .i64 o,Al gs] (.bool (zcq t i o gs)):=by
 have hP:=Ag gs
 have hR:=zal t i o gs.length ht
 refine A9 Xn ?_
 unfold Mt
 cases hr:Ek t i o gs.length with
 | false =>
   rw [hr] at hR
   rw [zcq,hr,Bool.false_and]
   (repeat' (first|(simp (disch:=omega) only [push_cast,↓zz,seval,hP])|(with_reducible first|refine And.intro ?_ ?_|(first|refine Ab ?_ ?_|refine Aa ?_ ?_)<;>intro hc<;>(try simp only [push_cast] at hc)|refine eK hR ?_|refine eQ hR ?_|refine eG hR ?_)|((with_reducible first|refine cK hR ?_|refine cQ hR ?_|refine cG hR ?_);(simp (disch:=omega) only [push_cast,↓zz,seval,hP]);(fail_if_success with_reducible change False))|omega|with_reducible intro _))
 | true =>
 rw [hr] at hR
 have hI:=z0z t i o gs hr hG
 obtain ⟨s1,s2⟩:=S8 (zi1 hr) hG
 have hout:C9 t.outer=true:=by
   have hn:=(Ej hr).1
   simp only [B5,Bool.and_eq_true] at hn
   exact hn.1.2
 have hbase:B4 t.base=true:=by
   have hn:=(Ej hr).1
   simp only [B5,Bool.and_eq_true] at hn
   exact hn.1.1.1
 have hbm:=E1 hbase
 rw [Dj] at hout
 simp only at hout
 rw [zcq,hr,Bool.true_and]
 cases hok:(D8 t i gs).2 with
 | false =>
   rw [hok] at hI
   rw [Bool.false_and]
   (repeat' (first|(simp (disch:=omega) only [push_cast,↓zz,seval,hP])|(with_reducible first|refine And.intro ?_ ?_|(first|refine Ab ?_ ?_|refine Aa ?_ ?_)<;>intro hc<;>(try simp only [push_cast] at hc)|refine eK hR ?_|refine eQ hR ?_|refine eG hR ?_|refine eK hI ?_|refine eQ hI ?_|refine eG hI ?_)|((with_reducible first|refine cK hR ?_|refine cQ hR ?_|refine cG hR ?_);(simp (disch:=omega) only [push_cast,↓zz,seval,hP]);(fail_if_success with_reducible change False))|((with_reducible first|refine cK hI ?_|refine cQ hI ?_|refine cG hI ?_);(simp (disch:=omega) only [push_cast,↓zz,seval,hP]);(fail_if_success with_reducible change False))|omega|with_reducible intro _))
 | true =>
 obtain ⟨p1,p2,p3⟩:=s2 hok
 have hrng:∀ v,memL (D8 t i gs).1 v→0 ≤ v∧v ≤ 1114111:=fun v hv=>by
   obtain ⟨w,hw,rfl⟩:=(p3 v).1 hv
   exact s1.1 hok w hw
 rw [hok] at hI
 rw [Bool.true_and]
 clear s1 s2 p3
 generalize (D8 t i gs).1=l at *
 have hpl:=Cf l
 by_cases ho:o=2
 · subst ho
   have hD:=Nb 2
   have hM:=L1 l (domL 2) 2 (by omega) (by have:=Vj 2;omega)
   rw [Sm] at hM
   rw [if_pos rfl]
   have hlen:decide (((Eb l (domL 2)).length:Int)=0)=decide (Eb l (domL 2)=[]):=by
     rw [decide_eq_decide]
     constructor
     · exact fun h=>List.eq_nil_of_length_eq_zero (by omega)
     · intro h;rw [h];rfl
   (repeat' (first|(simp (disch:=omega) only [push_cast,↓zz,seval,hP,hpl])|(with_reducible first|refine And.intro ?_ ?_|(first|refine Ab ?_ ?_|refine Aa ?_ ?_)<;>intro hc<;>(try simp only [push_cast] at hc)|refine eK hR ?_|refine eQ hR ?_|refine eG hR ?_|refine eK hI ?_|refine eQ hI ?_|refine eG hI ?_|refine eK hD ?_|refine eQ hD ?_|refine eG hD ?_|refine eK hM ?_|refine eQ hM ?_|refine eG hM ?_)|((with_reducible first|refine cK hR ?_|refine cQ hR ?_|refine cG hR ?_);(simp (disch:=omega) only [push_cast,↓zz,seval,hP,hpl]);(fail_if_success with_reducible change False))|((with_reducible first|refine cK hI ?_|refine cQ hI ?_|refine cG hI ?_);(simp (disch:=omega) only [push_cast,↓zz,seval,hP,hpl]);(fail_if_success with_reducible change False))|((with_reducible first|refine cK hD ?_|refine cQ hD ?_|refine cG hD ?_);(simp (disch:=omega) only [push_cast,↓zz,seval,hP,hpl]);(fail_if_success with_reducible change False))|((with_reducible first|refine cK hM ?_|refine cQ hM ?_|refine cG hM ?_);(simp (disch:=omega) only [push_cast,↓zz,seval,hP,hpl]);(fail_if_success with_reducible change False))|omega|with_reducible intro _))
 · rw [if_neg ho]
   have hT1:=G1 t.drop (by omega)
   have hT2:=G1 t.take (by omega)
   have hT3:=G1 t.up (by omega)
   have pd:=Gh t.drop.toNat (by omega)
   have pt:=Gh t.take.toNat (by omega)
   have pu:=Gh t.up.toNat (by omega)
   have hoq:∀ q,okQ t q=decide (0 ≤ t.base + q % 2 ^ t.take.toNat * 2 ^ t.up.toNat∧t.base + q % 2 ^ t.take.toNat * 2 ^ t.up.toNat ≤ 255):=fun _=>rfl
   have hsq:∀ s,Vy t s=rowQ t (s.lo / 2 ^ t.drop.toNat) (s.hi / 2 ^ t.drop.toNat - s.lo / 2 ^ t.drop.toNat + 1).toNat:=fun _=>rfl
   obtain ⟨m,hm⟩:∃ m:Nat,(m:Int)=2 ^ t.take.toNat:=⟨2 ^ t.take.toNat,by simp⟩
   have hround:=fun a n=>zcr (t:=t) (a:=a) (n:=n) hm
   have hfar:=fun a hb=>zmb (t:=t) (a:=a) hm hb (by omega) (by omega)
   generalize (2:Int) ^ t.take.toNat=P at *
   subst hm
   generalize (2:Int) ^ t.drop.toNat=D at *
   generalize (2:Int) ^ t.up.toNat=U at *
   (repeat' (first|(simp (disch:=omega) only [push_cast,↓zz,seval,hP,hpl])|(with_reducible first|refine And.intro ?_ ?_|(first|refine Ab ?_ ?_|refine Aa ?_ ?_)<;>intro hc<;>(try simp only [push_cast] at hc)|refine eK hR ?_|refine eQ hR ?_|refine eG hR ?_|refine eK hI ?_|refine eQ hI ?_|refine eG hI ?_|refine eK hT1 ?_|refine eQ hT1 ?_|refine eG hT1 ?_|refine eK hT2 ?_|refine eQ hT2 ?_|refine eG hT2 ?_|refine eK hT3 ?_|refine eQ hT3 ?_|refine eG hT3 ?_)|((with_reducible first|refine cK hR ?_|refine cQ hR ?_|refine cG hR ?_);(simp (disch:=omega) only [push_cast,↓zz,seval,hP,hpl]);(fail_if_success with_reducible change False))|((with_reducible first|refine cK hI ?_|refine cQ hI ?_|refine cG hI ?_);(simp (disch:=omega) only [push_cast,↓zz,seval,hP,hpl]);(fail_if_success with_reducible change False))|((with_reducible first|refine cK hT1 ?_|refine cQ hT1 ?_|refine cG hT1 ?_);(simp (disch:=omega) only [push_cast,↓zz,seval,hP,hpl]);(fail_if_success with_reducible change False))|((with_reducible first|refine cK hT2 ?_|refine cQ hT2 ?_|refine cG hT2 ?_);(simp (disch:=omega) only [push_cast,↓zz,seval,hP,hpl]);(fail_if_success with_reducible change False))|((with_reducible first|refine cK hT3 ?_|refine cQ hT3 ?_|refine cG hT3 ?_);(simp (disch:=omega) only [push_cast,↓zz,seval,hP,hpl]);(fail_if_success with_reducible change False))|omega|with_reducible intro _))
   refine Ao (Aq (fun (k:Nat)=>k ≤ l.length∧l.all (Vy t)=(l.drop k).all (Vy t)) (fun k=>l.length - k)
     (fun k=>[(4,.ptr 0 1 0 0),(9,Ad l),(11,.int .i64 D),(12,.int .i64 m),(13,.int .i64 U),(14,.int .i64 k)]) (fun k=>[⟨6,1,true,[B2 t]⟩]) (fun env _=>[Ay 1 (env 4)]) 0 ⟨by simp,rfl⟩ ?_ ?_)
   · (repeat' (first|(simp (disch:=omega) only [push_cast,↓zz,seval,hP,hpl])|(with_reducible first|refine And.intro ?_ ?_|(first|refine Ab ?_ ?_|refine Aa ?_ ?_)<;>intro hc<;>(try simp only [push_cast] at hc))|omega|with_reducible intro _))
   rintro k ⟨k1,k2⟩
   rcases Nat.lt_or_ge k l.length with hk|hk
   · rw [zh0 hk] at k2
     have hs1:=p1.1 _ (Aw hk)
     have hs2:=hrng (nth l k).lo ⟨_,Aw hk,Int.le_refl _,hs1⟩
     have hs3:=hrng (nth l k).hi ⟨_,Aw hk,hs1,Int.le_refl _⟩
     generalize hse:nth l k=s at *
     rw [hsq] at k2
     have q1:s.lo.tdiv D=s.lo / D:=Int.tdiv_eq_ediv_of_nonneg hs2.1
     have q2:s.hi.tdiv D=s.hi / D:=Int.tdiv_eq_ediv_of_nonneg hs3.1
     have b1:0 ≤ s.lo / D:=Int.ediv_nonneg hs2.1 (by omega)
     have b2:s.hi / D ≤ s.hi:=Int.ediv_le_self _ hs3.1
     have b3:s.lo / D ≤ s.hi / D:=Int.ediv_le_ediv (by omega) hs1
     have w1:IntKind.i64.wrap (s.lo / D)=s.lo / D:=IntWalk.i64_in _ (by omega)
     have w2:IntKind.i64.wrap (s.hi / D)=s.hi / D:=IntWalk.i64_in _ (by omega)
     generalize s.lo / D=a at *
     generalize s.hi / D=b at *
     refine W_T ?_
     (repeat' (first|(simp (disch:=omega) only [push_cast,↓zz,seval,hP,hpl,hse,q1,q2,w1,w2])|(with_reducible first|refine And.intro ?_ ?_|(first|refine Ab ?_ ?_|refine Aa ?_ ?_)<;>intro hc<;>(try simp only [push_cast] at hc))|omega|with_reducible intro _))
     refine Ao (Aq (fun (n:Nat)=>n ≤ (b - a + 1).toNat∧∀ j:Nat,j < n→okQ t (a + j)=true) (fun n=>(b - a + 1).toNat - n)
       (fun n=>[(4,.ptr 0 1 0 0),(9,Ad l),(11,.int .i64 D),(12,.int .i64 m),(13,.int .i64 U),(14,.int .i64 k),(15,.int .i64 a),(16,.int .i64 b),(17,.int .i64 (a + n))]) (fun n=>[⟨6,1,true,[B2 t]⟩]) (fun env _=>[Ay 1 (env 4)]) 0 ⟨by simp,fun j hj=>by omega⟩ ?_ ?_)
     · (repeat' (first|(simp (disch:=omega) only [push_cast,↓zz,seval,hP,hpl])|(with_reducible first|refine And.intro ?_ ?_|(first|refine Ab ?_ ?_|refine Aa ?_ ?_)<;>intro hc<;>(try simp only [push_cast] at hc))|omega|with_reducible intro _))
     rintro n ⟨n1,n2⟩
     rcases Nat.lt_or_ge n (b - a + 1).toNat with hn|hn
     · have r0:0 ≤ (a + n) % (m:Int):=Int.emod_nonneg _ (by omega)
       have r1:(a + n) % (m:Int) < m:=Int.emod_lt_of_pos _ (by omega)
       have hrm:(a + n).tmod m=(a + n) % (m:Int):=Int.tmod_eq_emod_of_nonneg (by omega)
       have hoqn:=hoq (a + n)
       generalize (a + (n:Int)) % (m:Int)=r at *
       have v0:0 ≤ r * U:=Int.mul_nonneg r0 (by omega)
       have v1:r * U ≤ 2097152 * 2097152:=Int.mul_le_mul (by omega) (by omega) (by omega) (by omega)
       have w3:IntKind.i64.wrap r=r:=IntWalk.i64_in _ (by omega)
       have w4:IntKind.i64.wrap (r * U)=r * U:=IntWalk.i64_in _ (by omega)
       obtain ⟨v,hv⟩:∃ v,r * U=v:=⟨_,rfl⟩
       rw [hv] at v0 v1 w4 hoqn
       have w5:IntKind.i64.wrap (t.base + v)=t.base + v:=IntWalk.i64_in _ (by omega)
       by_cases hf:300 < n∧300 < m
       · have f1:=n2 0 (by omega)
         have f2:=n2 256 (by omega)
         exact absurd (hfar a hf.2 (by simpa using f1) (by simpa using f2)) (by simp)
       refine W_T ?_
       by_cases hbr:m < n
       · have hrow:=hround a (b - a + 1).toNat fun j hj=>n2 j (by omega)
         rw [hrow,Bool.true_and] at k2
         (repeat' (first|(simp (disch:=omega) only [push_cast,↓zz,seval,hP,hpl])|(with_reducible first|refine And.intro ?_ ?_|(first|refine Ab ?_ ?_|refine Aa ?_ ?_)<;>intro hc<;>(try simp only [push_cast] at hc))|omega|with_reducible intro _))
         all_goals first
           | exact ⟨k + 1,by push_cast,⟨by omega,k2⟩,by omega⟩
           | trace_state
       · cases hb:okQ t (a + n) with
         | false =>
           rw [hb] at hoqn
           have hno:=of_decide_eq_false hoqn.symm
           rw [z7r hn hb,Bool.false_and] at k2
           (repeat' (first|(simp (disch:=omega) only [push_cast,↓zz,seval,hP,hpl,hrm,hv,w3,w4,w5,k2])|(with_reducible first|refine And.intro ?_ ?_|(first|refine Ab ?_ ?_|refine Aa ?_ ?_)<;>intro hc<;>(try simp only [push_cast] at hc))|omega|with_reducible intro _))
         | true =>
           rw [hb] at hoqn
           have hyes:=of_decide_eq_true hoqn.symm
           have nx:∀ j:Nat,j < n + 1→okQ t (a + j)=true:=fun j hj=>by
             rcases Nat.lt_or_ge j n with h|h
             · exact n2 j h
             · rw [show j=n by omega];exact hb
           (repeat' (first|(simp (disch:=omega) only [push_cast,↓zz,seval,hP,hpl,hrm,hv,w3,w4,w5])|(with_reducible first|refine And.intro ?_ ?_|(first|refine Ab ?_ ?_|refine Aa ?_ ?_)<;>intro hc<;>(try simp only [push_cast] at hc))|omega|with_reducible intro _))
           all_goals first
             | exact ⟨n + 1,by push_cast;omega,⟨by omega,nx⟩,by omega⟩
             | trace_state
     · have hrow:rowQ t a (b - a + 1).toNat=true:=Qo.2 fun j hj=>n2 j (by omega)
       rw [hrow,Bool.true_and] at k2
       refine W_T ?_
       (repeat' (first|(simp (disch:=omega) only [push_cast,↓zz,seval,hP,hpl])|(with_reducible first|refine And.intro ?_ ?_|(first|refine Ab ?_ ?_|refine Aa ?_ ?_)<;>intro hc<;>(try simp only [push_cast] at hc))|omega|with_reducible intro _))
       all_goals first
         | exact ⟨k + 1,by push_cast,⟨by omega,k2⟩,by omega⟩
         | trace_state
   · rw [List.drop_of_length_le hk,List.all_nil] at k2
     refine W_T ?_
     (repeat' (first|(simp (disch:=omega) only [push_cast,↓zz,seval,hP,hpl,k2])|(with_reducible first|refine And.intro ?_ ?_|(first|refine Ab ?_ ?_|refine Aa ?_ ?_)<;>intro hc<;>(try simp only [push_cast] at hc))|omega|with_reducible intro _))
     all_goals trace_state
theorem Ta {t:Term} {s:Span} (hs:s.lo ≤ s.hi):Vy t s=true ↔ ∀ v,s.lo ≤ v→v ≤ s.hi→okQ t (v / 2 ^ t.drop.toNat)=true:=by
 have hD:(0:Int) < 2 ^ t.drop.toNat:=Int.pow_pos (by decide)
 rw [Vy,Qo]
 generalize (2:Int) ^ t.drop.toNat=D at *
 have hq:=fun q=>zbw (lo:=s.lo) (hi:=s.hi) (q:=q) hD hs
 have hle:s.lo / D ≤ s.hi / D:=Int.ediv_le_ediv hD hs
 constructor
 · intro h v h1 h2
   have b1:s.lo / D ≤ v / D:=Int.ediv_le_ediv hD h1
   have b2:v / D ≤ s.hi / D:=Int.ediv_le_ediv hD h2
   have:=h (v / D - s.lo / D).toNat (by omega)
   rwa [show s.lo / D + (((v / D - s.lo / D).toNat:Nat):Int)=v / D by omega] at this
 · intro h k hk
   obtain ⟨x,x1,x2,x3⟩:=(hq (s.lo / D + k)).2 ⟨by omega,by omega⟩
   rw [← x3]
   exact h x x1 x2
theorem z4m {t:Term} {i o:Int} {n:Int} {w:List Int} {x:Int} (hr:Ek t i o n=true) (hx:0 ≤ x∧x ≤ 1114111) (hv:K4 t w=some (t.base + valP t.outer x)) :
   fitW t o w=true ↔ (if o=2 then Qg o x else okQ t (x / 2 ^ t.drop.toNat))=true:=by
 rw [fitW,hv]
 simp only
 simp only [Ek,X6,M9,Bool.and_eq_true,Bool.or_eq_true,decide_eq_true_eq] at hr
 obtain ⟨⟨⟨⟨⟨_,h1⟩,_⟩,_⟩,_⟩,h2⟩:=hr
 by_cases ho:o=2
 · rw [if_pos ho]
   obtain ⟨b1,b2,b3,b4⟩:t.base=0∧t.drop=0∧t.take=21∧t.up=0:=by
     rcases h2 with h2|h2
     · exact absurd ho h2
     · exact h2
   have e:t.base + valP t.outer x=x:=by
     simp only [valP,Term.outer,b1,b2,b3,b4]
     simp
     omega
   rw [e,Bool.and_eq_true,decide_eq_true_eq]
   exact ⟨fun h=>h.2,fun h=>⟨hx,h⟩⟩
 · rw [if_neg ho]
   have ho1:o=1:=by omega
   have e:okQ t (x / 2 ^ t.drop.toNat)=decide (0 ≤ t.base + valP t.outer x∧t.base + valP t.outer x ≤ 255):=rfl
   rw [e,ho1,Bool.and_eq_true,decide_eq_true_eq,decide_eq_true_eq,Qg,decide_eq_true_eq]
   omega
theorem zcs {t:Term} {i o:Int} {gs:List (List Span)} (hG:GOk i gs):zcq t i o gs=P0 t i o gs:=by
 rw [Bool.eq_iff_iff,zc3 hG.len,zcq,Bool.and_eq_true,Bool.and_eq_true]
 refine and_congr_right fun hr=>?_
 obtain ⟨hn,hp⟩:=Ej hr
 have hS:=Ir hp hG.len
 have hT:=zi1 hr
 obtain ⟨s1,s2⟩:=S8 hT hG
 have hval:=fun w hw=>Gq (w:=w) hS hn hw
 constructor
 · rintro ⟨hok,hres⟩ w hw
   have hrng:=s1.1 hok w hw
   obtain ⟨p1,p2,p3⟩:=s2 hok
   have hm:=(p3 _).2 ⟨w,hw,rfl⟩
   rw [z4m hr hrng (by rw [hval w hw,if_pos hrng])]
   generalize (D8 t i gs).1=l at *
   have hbl:∀ v,memL l v→-1073741824 ≤ v∧v ≤ 1073741824:=fun v hv=>by
     obtain ⟨w,hw,rfl⟩:=(p3 v).1 hv
     have:=s1.1 hok w hw
     omega
   by_cases ho:o=2
   · rw [if_pos ho] at hres ⊢
     rw [decide_eq_true_eq] at hres
     exact Hy.1 ((Gr hbl p1.1).1 hres _ hm)
   · rw [if_neg ho] at hres ⊢
     obtain ⟨s,hs,hs2⟩:=hm
     exact (Ta (p1.1 s hs)).1 (List.all_eq_true.1 hres s hs) _ hs2.1 hs2.2
 · intro h
   have hok:(D8 t i gs).2=true:=s1.2 fun w hw=>by
     have:=h w hw
     rw [fitW,hval w hw] at this
     split at this
     · rename_i v hv
       split at hv
       · assumption
       · cases hv
     · cases this
   refine ⟨hok,?_⟩
   obtain ⟨p1,p2,p3⟩:=s2 hok
   have hfw:∀ v,memL (D8 t i gs).1 v→(if o=2 then Qg o v else okQ t (v / 2 ^ t.drop.toNat))=true:=fun v hv=>by
     obtain ⟨w,hw,rfl⟩:=(p3 v).1 hv
     have hrng:=s1.1 hok w hw
     exact (z4m hr hrng (by rw [hval w hw,if_pos hrng])).1 (h w hw)
   have hbl:∀ v,memL (D8 t i gs).1 v→-1073741824 ≤ v∧v ≤ 1073741824:=fun v hv=>by
     obtain ⟨w,hw,rfl⟩:=(p3 v).1 hv
     have:=s1.1 hok w hw
     omega
   by_cases ho:o=2
   · rw [if_pos ho,decide_eq_true_eq,Gr hbl p1.1]
     intro v hv
     have:=hfw v hv
     rw [if_pos ho] at this
     exact Hy.2 this
   · rw [if_neg ho,List.all_eq_true]
     intro s hs
     rw [Ta (p1.1 s hs)]
     intro v h1 h2
     have:=hfw v ⟨s,hs,h1,h2⟩
     rwa [if_neg ho] at this
theorem Tb:∀ {l:List Span} {last:Int},Jb last l=true ↔ (∀ s ∈ l,s.lo ≤ s.hi∧-1073741824 ≤ s.lo∧s.hi ≤ 1073741824∧last + 1 < s.lo)∧l.Pairwise fun s t=>s.hi + 1 < t.lo
 | [],last=>by simp [Jb]
 | s :: l,last=>by
   rw [Jb,Bool.and_eq_true,decide_eq_true_eq,Tb (l:=l),List.pairwise_cons]
   constructor
   · rintro ⟨h1,h2,h3⟩
     refine ⟨fun t ht=>?_,fun t ht=>(h2 t ht).2.2.2,h3⟩
     rcases List.mem_cons.1 ht with rfl|ht
     · exact h1
     · have:=h2 t ht
       omega
   · rintro ⟨h1,h2,h3⟩
     exact ⟨h1 s (by simp),fun t ht=>⟨(h1 t (by simp [ht])).1,(h1 t (by simp [ht])).2.1,(h1 t (by simp [ht])).2.2.1,h2 t ht⟩,h3⟩
theorem z7t {g:List Span}:P5 g=true ↔ g=Ar g:=by
 rw [P5,Tb]
 constructor
 · rintro ⟨h1,h2⟩
   exact (Lb ⟨fun s hs=>(h1 s hs).1,h2⟩ fun s hs=>⟨(h1 s hs).2.1,(h1 s hs).2.2.1⟩).symm
 · intro h
   have hp:=(Ap g).1
   have hb:=C4 g
   rw [← h] at hp hb
   exact ⟨fun s hs=>by have:=hb s hs;omega,hp.2⟩
def z4n (i:Int) (g:List Span):Bool:=decide (g.length ≠ 0) && (decide (g.length ≤ 64) && (decide (g=Ar g) && decide (Eb g (domL i)=[])))
theorem Tc (i:Int) (g:List Span):z4n i g=Hw i g:=by
 have hc:decide (g=Ar g)=P5 g:=by rw [Bool.eq_iff_iff,decide_eq_true_eq,z7t]
 have h1:decide (g.length ≠ 0)=!decide ((g.length:Int)=0):=by
   rw [Bool.eq_iff_iff,Bool.not_eq_true',decide_eq_true_eq,decide_eq_false_iff_not];omega
 have h2:decide (g.length ≤ 64)=decide ((g.length:Int) ≤ 64):=by rw [decide_eq_decide];omega
 rw [z4n,Hw,hc,h1,h2]
theorem Qp {i:Int} {gs:List (List Span)} (h:Cz i gs=true):GOk i gs:=by
 obtain ⟨h1,h2⟩:=Fz h
 simp only [Cz,Bool.and_eq_true,List.all_eq_true] at h
 have hg:∀ g ∈ gs,g.length ≠ 0∧g=Ar g∧Eb g (domL i)=[]:=fun g hm=>by
   have:=h.2 g hm
   rw [← Tc] at this
   simp only [z4n,Bool.and_eq_true,decide_eq_true_eq] at this
   exact ⟨this.1,this.2.2.1,this.2.2.2⟩
 refine ⟨h1,h2,fun g hm=>?_,fun g hm v hv=>?_⟩
 · obtain ⟨g1,g2,g3⟩:=hg g hm
   obtain ⟨s,hs⟩:=List.exists_mem_of_length_pos (show 0 < g.length by omega)
   have hf:=(Ap g).1.1
   rw [← g2] at hf
   exact ⟨s.lo,s,hs,Int.le_refl _,hf s hs⟩
 · obtain ⟨g1,g2,g3⟩:=hg g hm
   have hb:=C4 g
   have hf:=(Ap g).1.1
   rw [← g2] at hb hf
   have hbl:∀ v,memL g v→-1073741824 ≤ v∧v ≤ 1073741824:=fun v ⟨s,hs,hv⟩=>by have:=hb s hs;omega
   exact Hy.1 ((Gr hbl hf).1 g3 v hv)
end Go.Proofs.YticodgjinajkpaaGreat
