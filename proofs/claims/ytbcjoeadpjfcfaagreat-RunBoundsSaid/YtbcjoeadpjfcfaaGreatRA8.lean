/-
  Parts of the proof that the law holds whatever the input; without conditions.
-/
import Derived.Shelf.SlSortCmp.Whole1
import Derived.Shelf.Small.Bits
import Derived.Ground.SlsfProg
import Derived.Ground.NamesProg
import Derived.Test.YtbcjoeadpjfcfaaGreatProg
import Derived.Test.YtbcjoeadpjfcfaaGreatRA7
import Derived.Test.YtbcjoeadpjfcfaaGreatRA5
import Derived.Test.YtbcjoeadpjfcfaaGreatRA6
set_option linter.unusedSimpArgs false
set_option linter.unusedVariables false
namespace Go.Proofs.YtbcjoeadpjfcfaaGreat
open Abs
def sumT {α:Type} (f:α→Int) (l:List α):Int:=(l.map f).sum
theorem Wn {α:Type} [Inhabited α] {f:α→Int} {l:List α} {k:Nat} (h:k<l.length):sumT f (l.take (k+1))=sumT f (l.take k)+f (nth l k):=by rw[take_at h];simp[sumT]
theorem Gc {α:Type} {f:α→Int} {B:Int} (hf:∀ x,0≤f x∧f x≤B):∀ l:List α,0≤sumT f l∧sumT f l≤l.length * B
 | []=>by simp[sumT]
 | x::l=>by
   have h1:=Gc hf l;have h2:=hf x;have e:sumT f (x::l)=f x+sumT f l:=by simp[sumT]
   have e2:((x::l).length:Int) * B=l.length * B+B:=by push_cast [List.length_cons];rw[Int.add_mul,Int.one_mul]
   omega
theorem J1 {α:Type} {f:α→Int} (hf:∀ x,0≤f x):∀ {l:List α} {x:α},x∈l→f x≤sumT f l
 | y::l,x,h=>by
   have e:sumT f (y::l)=f y+sumT f l:=by simp[sumT]
   have hn:∀ m:List α,0≤sumT f m:=fun m=>by
     induction m with
     | nil=>simp[sumT]
     | cons z m ih =>
       have e:sumT f (z::m)=f z+sumT f m:=by simp[sumT]
       have:=hf z;omega
   have h1:=hf y;have h2:=hn l;rcases List.mem_cons.1 h with rfl|h
   · omega
   · have:=J1 hf h
     omega
def szG (g:List Span):Int:=min (g.length:Int) 4000
def szT (t:Term):Int:=1+min (t.parts.length:Int) 4000
theorem z6f (g:List Span):0≤szG g∧szG g≤4000:=by unfold szG;omega
theorem z6g (t:Term):0≤szT t∧szT t≤4001:=by unfold szT;omega
def Iw (gs:List (List Span)) (out:List Term):Int:=if 100<gs.length∨200<out.length then 4000 else 1+sumT szG gs+sumT szT out
theorem Uh (gs:List (List Span)) (out:List Term):PC Tryz.prog 43 [Ao gs,Ea out] (.int .i64 (Iw gs out)):=by
 have hP:=Ah gs;have hT:=Bl out;refine A7 Yr ?_;unfold Ns;by_cases hb:100<gs.length∨200<out.length
 · rw[Iw,if_pos hb]
   (with_reducible repeat' (first|(simp(disch:=omega)only[push_cast,↓zz,seval,hP,hT])|refine And.intro ?_ ?_|(first|refine Ab ?_ ?_|refine Aa ?_ ?_)<;>intro hc<;>(try simp only[push_cast] at hc)|omega|intro _))
 rw[Iw,if_neg hb];(with_reducible repeat' (first|(simp(disch:=omega)only[push_cast,↓zz,seval,hP,hT])|refine And.intro ?_ ?_|(first|refine Ab ?_ ?_|refine Aa ?_ ?_)<;>intro hc<;>(try simp only[push_cast] at hc)|omega|intro _))
 refine Ax (A8 (fun (k:Nat)=>k≤gs.length) (fun k=>gs.length-k)
   (fun k=>[(0,Ao gs),(1,Ea out),(5,.int .i64 (1+sumT szG (gs.take k))),(6,.int .i64 k)]) (fun k=>[]) (fun _ _=>[]) 0 (by simp) ?_ ?_)
 · have e0:sumT szG ([]:List (List Span))=0:=rfl
   (with_reducible repeat' (first|(simp(disch:=omega)only[push_cast,↓zz,seval,hP,hT,e0])|refine And.intro ?_ ?_|(first|refine Ab ?_ ?_|refine Aa ?_ ?_)<;>intro hc<;>(try simp only[push_cast] at hc)|omega|intro _))
 intro k hk;have hb1:=Gc z6f (gs.take k);have hb2:((gs.take k).length:Int) * 4000≤100 * 4000:=Int.mul_le_mul_of_nonneg_right (by simp;omega) (by omega);rcases Nat.lt_or_ge k gs.length with hkl|hkl
 · have hst:=Wn (f:=szG) hkl
   have hx:=z6f (nth gs k);have hsz:min ((nth gs k).length:Int) 4000=szG (nth gs k):=rfl;generalize hge:nth gs k=g at *;generalize sumT szG (gs.take k)=n at *;have hw:IntKind.i64.wrap (1+n+szG g)=1+n+szG g:=IntWalk.i64_in _ (by omega);refine W_T ?_;(with_reducible repeat' (first|(simp(disch:=omega)only[push_cast,↓zz,seval,hP,hT,hge,hsz,hw])|refine And.intro ?_ ?_|(first|refine Ab ?_ ?_|refine Aa ?_ ?_)<;>intro hc<;>(try simp only[push_cast] at hc)|omega|intro _))
   all_goals
     refine⟨k+1,?_⟩;(with_reducible repeat' (first|(simp(disch:=omega)only[push_cast,↓zz,seval,hst])|refine And.intro ?_ ?_|(first|refine Ab ?_ ?_|refine Aa ?_ ?_)<;>intro hc<;>(try simp only[push_cast] at hc)|omega|intro _))
   all_goals first
     | omega
     | trace_state
 · have hkt:gs.take k=gs:=List.take_of_length_le hkl
   rw[hkt] at hb1 hb2 ⊢;generalize sumT szG gs=n at *;refine W_T ?_;(with_reducible repeat' (first|(simp(disch:=omega)only[push_cast,↓zz,seval,hP,hT])|refine And.intro ?_ ?_|(first|refine Ab ?_ ?_|refine Aa ?_ ?_)<;>intro hc<;>(try simp only[push_cast] at hc)|omega|intro _))
   refine Ax (A8 (fun (k:Nat)=>k≤out.length) (fun k=>out.length-k)
     (fun k=>[(1,Ea out),(5,.int .i64 (1+n+sumT szT (out.take k))),(7,.int .i64 k)]) (fun k=>[]) (fun _ _=>[]) 0 (by simp) ?_ ?_)
   · have e0:sumT szT ([]:List Term)=0:=rfl
     (with_reducible repeat' (first|(simp(disch:=omega)only[push_cast,↓zz,seval,hP,hT,e0,Int.add_zero])|refine And.intro ?_ ?_|(first|refine Ab ?_ ?_|refine Aa ?_ ?_)<;>intro hc<;>(try simp only[push_cast] at hc)|omega|intro _))
   intro j hj;have hb3:=Gc z6g (out.take j);have hb4:((out.take j).length:Int) * 4001≤200 * 4001:=Int.mul_le_mul_of_nonneg_right (by simp;omega) (by omega);rcases Nat.lt_or_ge j out.length with hjl|hjl
   · have hst:=Wn (f:=szT) hjl
     have hx:=z6g (nth out j);have hsz:szT (nth out j)=1+min ((nth out j).parts.length:Int) 4000:=rfl;generalize hge:nth out j=t at *;generalize sumT szT (out.take j)=m at *;generalize hze:min (t.parts.length:Int) 4000=z at *;have hw:IntKind.i64.wrap (1+n+m+1)=1+n+m+1:=IntWalk.i64_in _ (by omega);have hw2:IntKind.i64.wrap (1+n+m+1+z)=1+n+m+1+z:=IntWalk.i64_in _ (by omega);refine W_T ?_;(with_reducible repeat' (first|(simp(disch:=omega)only[push_cast,↓zz,seval,hP,hT,hge,hze,hw,hw2])|refine And.intro ?_ ?_|(first|refine Ab ?_ ?_|refine Aa ?_ ?_)<;>intro hc<;>(try simp only[push_cast] at hc)|omega|intro _))
     all_goals
       refine⟨j+1,?_⟩;(with_reducible repeat' (first|(simp(disch:=omega)only[push_cast,↓zz,seval,hst])|refine And.intro ?_ ?_|(first|refine Ab ?_ ?_|refine Aa ?_ ?_)<;>intro hc<;>(try simp only[push_cast] at hc)|omega|intro _))
     all_goals first
       | omega
       | trace_state
   · have hjt:out.take j=out:=List.take_of_length_le hjl
     rw[hjt];refine W_T ?_;(with_reducible repeat' (first|(simp(disch:=omega)only[push_cast,↓zz,seval,hP,hT])|refine And.intro ?_ ?_|(first|refine Ab ?_ ?_|refine Aa ?_ ?_)<;>intro hc<;>(try simp only[push_cast] at hc)|omega|intro _))
     all_goals trace_state
theorem Nh (gs:List (List Span)) (out:List Term):0≤Iw gs out∧Iw gs out≤2000000:=by
 unfold Iw;have h1:=Gc z6f gs;have h2:=Gc z6g out;split
 · omega
 · omega
def szR (r:Rule):Int:=Iw r.guards r.out
def szF (f:Eu):Int:=Iw f.guards f.out
def E6 (d:Desc):Bool:=decide (d.rules.length≤80∧d.finals.length≤80)&&decide (sumT szR d.rules+sumT szF d.finals≤1500)
theorem z2w (d:Desc):PC Tryz.prog 15 [B2 d] (.bool (E6 d)):=by
 have hPr:=Az d.rules;have hPf:=As d.finals;have sR:∀ r,0≤szR r∧szR r≤2000000:=fun r=>Nh _ _;have sF:∀ f,0≤szF f∧szF f≤2000000:=fun r=>Nh _ _;refine A7 Vn ?_;unfold Lr;by_cases hb:d.rules.length≤80∧d.finals.length≤80
 · rw[E6,decide_eq_true hb,Bool.true_and]
   (with_reducible repeat' (first|(simp(disch:=omega)only[push_cast,↓zz,seval])|refine And.intro ?_ ?_|(first|refine Ab ?_ ?_|refine Aa ?_ ?_)<;>intro hc<;>(try simp only[push_cast] at hc)|omega|intro _))
   refine Ax (A8 (fun (k:Nat)=>k≤d.rules.length) (fun k=>d.rules.length-k)
     (fun k=>[(1,.ptr 0 1 0 0),(3,.int .i64 (sumT szR (d.rules.take k))),(4,.int .i64 k)]) (fun k=>[⟨6,1,true,[B2 d]⟩]) (fun env _=>[Bm 1 (env 1)]) 0 (by simp) ?_ ?_)
   · have e0:sumT szR ([]:List Rule)=0:=rfl
     (with_reducible repeat' (first|(simp(disch:=omega)only[push_cast,↓zz,seval,hPr,hPf,e0])|refine And.intro ?_ ?_|(first|refine Ab ?_ ?_|refine Aa ?_ ?_)<;>intro hc<;>(try simp only[push_cast] at hc)|omega|intro _))
   intro k hk;have hb1:=Gc sR (d.rules.take k);have hb2:((d.rules.take k).length:Int) * 2000000≤80 * 2000000:=Int.mul_le_mul_of_nonneg_right (by simp;omega) (by omega);rcases Nat.lt_or_ge k d.rules.length with hkl|hkl
   · have hst:=Wn (f:=szR) hkl
     have hx:=sR (nth d.rules k);have hS:=Uh (nth d.rules k).guards (nth d.rules k).out;have hsz:Iw (nth d.rules k).guards (nth d.rules k).out=szR (nth d.rules k):=rfl;rw[hsz] at hS;generalize hge:nth d.rules k=r at *;generalize sumT szR (d.rules.take k)=n at *;have hw:IntKind.i64.wrap (n+szR r)=n+szR r:=IntWalk.i64_in _ (by omega);have hpg:=Ah r.guards;have hpt:=Bl r.out;refine W_T ?_;(with_reducible repeat' (first|(simp(disch:=omega)only[push_cast,↓zz,seval,hPr,hPf,hge,hw,hpg,hpt])|refine And.intro ?_ ?_|(first|refine Ab ?_ ?_|refine Aa ?_ ?_)<;>intro hc<;>(try simp only[push_cast] at hc)|refine eK hS ?_|refine eQ hS ?_|refine eG hS ?_|((first|refine cK hS ?_|refine cQ hS ?_|refine cG hS ?_);(simp(disch:=omega)only[push_cast,↓zz,seval,hPr,hPf,hge,hw,hpg,hpt]);(fail_if_success change False))|omega|intro _))
     all_goals
       refine⟨k+1,?_⟩;(with_reducible repeat' (first|(simp(disch:=omega)only[push_cast,↓zz,seval,hst])|refine And.intro ?_ ?_|(first|refine Ab ?_ ?_|refine Aa ?_ ?_)<;>intro hc<;>(try simp only[push_cast] at hc)|omega|intro _))
   · have hkt:d.rules.take k=d.rules:=List.take_of_length_le hkl
     rw[hkt] at hb1 hb2 ⊢;generalize sumT szR d.rules=n at *;refine W_T ?_;(with_reducible repeat' (first|(simp(disch:=omega)only[push_cast,↓zz,seval,hPr,hPf])|refine And.intro ?_ ?_|(first|refine Ab ?_ ?_|refine Aa ?_ ?_)<;>intro hc<;>(try simp only[push_cast] at hc)|omega|intro _))
     refine Ax (A8 (fun (k:Nat)=>k≤d.finals.length) (fun k=>d.finals.length-k)
       (fun k=>[(1,.ptr 0 1 0 0),(3,.int .i64 (n+sumT szF (d.finals.take k))),(5,.int .i64 k)]) (fun k=>[⟨6,1,true,[B2 d]⟩]) (fun env _=>[Bm 1 (env 1)]) 0 (by simp) ?_ ?_)
     · have e0:sumT szF ([]:List Eu)=0:=rfl
       (with_reducible repeat' (first|(simp(disch:=omega)only[push_cast,↓zz,seval,hPr,hPf,e0,Int.add_zero])|refine And.intro ?_ ?_|(first|refine Ab ?_ ?_|refine Aa ?_ ?_)<;>intro hc<;>(try simp only[push_cast] at hc)|omega|intro _))
     intro j hj;have hb3:=Gc sF (d.finals.take j);have hb4:((d.finals.take j).length:Int) * 2000000≤80 * 2000000:=Int.mul_le_mul_of_nonneg_right (by simp;omega) (by omega);rcases Nat.lt_or_ge j d.finals.length with hjl|hjl
     · have hst:=Wn (f:=szF) hjl
       have hx:=sF (nth d.finals j);have hS:=Uh (nth d.finals j).guards (nth d.finals j).out;have hsz:Iw (nth d.finals j).guards (nth d.finals j).out=szF (nth d.finals j):=rfl;rw[hsz] at hS;generalize hge:nth d.finals j=f at *;generalize sumT szF (d.finals.take j)=m at *;have hw:IntKind.i64.wrap (n+m+szF f)=n+m+szF f:=IntWalk.i64_in _ (by omega);have hpg:=Ah f.guards;have hpt:=Bl f.out;refine W_T ?_;(with_reducible repeat' (first|(simp(disch:=omega)only[push_cast,↓zz,seval,hPr,hPf,hge,hw,hpg,hpt])|refine And.intro ?_ ?_|(first|refine Ab ?_ ?_|refine Aa ?_ ?_)<;>intro hc<;>(try simp only[push_cast] at hc)|refine eK hS ?_|refine eQ hS ?_|refine eG hS ?_|((first|refine cK hS ?_|refine cQ hS ?_|refine cG hS ?_);(simp(disch:=omega)only[push_cast,↓zz,seval,hPr,hPf,hge,hw,hpg,hpt]);(fail_if_success change False))|omega|intro _))
       all_goals
         refine⟨j+1,?_⟩;(with_reducible repeat' (first|(simp(disch:=omega)only[push_cast,↓zz,seval,hst])|refine And.intro ?_ ?_|(first|refine Ab ?_ ?_|refine Aa ?_ ?_)<;>intro hc<;>(try simp only[push_cast] at hc)|omega|intro _))
       all_goals first
         | omega
         | trace_state
     · have hjt:d.finals.take j=d.finals:=List.take_of_length_le hjl
       rw[hjt];refine W_T ?_;(with_reducible repeat' (first|(simp(disch:=omega)only[push_cast,↓zz,seval,hPr,hPf])|refine And.intro ?_ ?_|(first|refine Ab ?_ ?_|refine Aa ?_ ?_)<;>intro hc<;>(try simp only[push_cast] at hc)|omega|intro _))
 · rw[E6,decide_eq_false hb,Bool.false_and]
   (with_reducible repeat' (first|(simp(disch:=omega)only[push_cast,↓zz,seval])|refine And.intro ?_ ?_|(first|refine Ab ?_ ?_|refine Aa ?_ ?_)<;>intro hc<;>(try simp only[push_cast] at hc)|omega|intro _))
   all_goals trace_state
theorem Ui {gs:List (List Span)} {out:List Term} (h:Iw gs out≤1500):∀ t∈out,t.parts.length<4000:=by
 unfold Iw at h;split at h
 · omega
 · intro t ht
   have h1:=J1 (fun t=>(z6g t).1) ht;have h2:=(Gc z6f gs).1;have h3:szT t=1+min (t.parts.length:Int) 4000:=rfl;omega
theorem zee {d:Desc} (h:E6 d=true):E1 d:=by
 simp only[E6,Bool.and_eq_true,decide_eq_true_eq] at h;have sR:∀ r,0≤szR r∧szR r≤2000000:=fun r=>Nh _ _;have sF:∀ f,0≤szF f∧szF f≤2000000:=fun r=>Nh _ _;have a1:=(Gc sR d.rules).1;have a2:=(Gc sF d.finals).1;refine⟨fun r hr t ht=>?_,fun f hf t ht=>?_⟩
 · have h1:=J1 (fun r=>(sR r).1) hr
   have h2:szR r=Iw r.guards r.out:=rfl;have:=Ui (gs:=r.guards) (out:=r.out) (by omega) t ht;omega
 · have h1:=J1 (fun r=>(sF r).1) hf
   have h2:szF f=Iw f.guards f.out:=rfl;have:=Ui (gs:=f.guards) (out:=f.out) (by omega) t ht;omega
structure zef (d:Desc):Prop where
 fin:E1 d
 rg:∀ r∈d.rules,r.guards.length≤9223372036854775807
 fg:∀ f∈d.finals,f.guards.length≤9223372036854775807
structure Hold (p:Prop):Prop where
 get:p
theorem Mg {α:Type} [DecidableEq α] [Inhabited α] {l m:List α} {k:Nat} (h1:k<l.length) (h2:k<m.length):decide (l.drop k=m.drop k)=(decide (nth l k=nth m k)&&decide (l.drop (k+1)=m.drop (k+1))):=by
 rw[drop_at h1,drop_at h2];simp
structure zlo (gs:List (List Span)) (out:List Term):Prop where
 g:gs.length≤1000000000000
 gl:∀ l∈gs,l.length≤1000000000000
 o:out.length≤1000000000000
 ol:∀ t∈out,t.parts.length≤1000000000000
structure zuf (d:Desc):Prop where
 r:d.rules.length≤1000000000000
 rs:∀ r∈d.rules,zlo r.guards r.out
 f:d.finals.length≤1000000000000
 fs:∀ f∈d.finals,zlo f.guards f.out
end Go.Proofs.YtbcjoeadpjfcfaaGreat
namespace Go.Proofs.YtbcjoeadpjfcfaaGreat
open Abs
theorem Rs {gs:List (List Span)} {out:List Term} (h:Iw gs out≤1500):gs.length≤100:=by
 unfold Iw at h;split at h
 · omega
 · omega
theorem K6 {d:Desc} (h:E6 d=true):zef d:=by
 refine⟨zee h,?_,?_⟩
 all_goals
   simp only[E6,Bool.and_eq_true,decide_eq_true_eq] at h;have sR:∀ r,0≤szR r∧szR r≤2000000:=fun r=>Nh _ _;have sF:∀ f,0≤szF f∧szF f≤2000000:=fun r=>Nh _ _;have a1:=(Gc sR d.rules).1;have a2:=(Gc sF d.finals).1
 · intro r hr
   have h1:=J1 (fun r=>(sR r).1) hr;have h2:szR r=Iw r.guards r.out:=rfl;have:=Rs (gs:=r.guards) (out:=r.out) (by omega);omega
 · intro f hf
   have h1:=J1 (fun r=>(sF r).1) hf;have h2:szF f=Iw f.guards f.out:=rfl;have:=Rs (gs:=f.guards) (out:=f.out) (by omega);omega
abbrev zlp:AV:=.agg [.int .i64 0,.int .i64 0,.int .i64 0,.int .i64 0,.nilS,.nilS]
theorem Zx (a b:Desc) (ha:E1 a) (hb:E1 b) (h:¬(B6 a=0∧B6 b=0∧a.in_=b.in_∧a.out=b.out)) :
   PC Tryz.prog 35 [B2 a,B2 b] (.tup [zlp,.int .i64 2]):=by
 have hCa:=Fz a ha;have hCb:=Fz b hb;have pa1:=Az a.rules;have pa2:=As a.finals;have pb1:=Az b.rules;have pb2:=As b.finals;refine A7 Kw ?_;unfold Ie;by_cases h1:B6 a=0
 · rw[h1] at hCa
   by_cases h2:B6 b=0
   · rw[h2] at hCb
     by_cases h3:a.in_=b.in_
     · have h4:¬a.out=b.out:=fun h4=>h ⟨h1,h2,h3,h4⟩
       (with_reducible repeat' (first|(simp(disch:=omega)only[push_cast,↓zz,seval,pa1,pa2,pb1,pb2,h3,h4])|refine And.intro ?_ ?_|(first|refine Ab ?_ ?_|refine Aa ?_ ?_)<;>intro hc<;>(try simp only[push_cast] at hc)|refine eK hCa ?_|refine eQ hCa ?_|refine eG hCa ?_|refine eK hCb ?_|refine eQ hCb ?_|refine eG hCb ?_|((first|refine cK hCa ?_|refine cQ hCa ?_|refine cG hCa ?_|refine cK hCb ?_|refine cQ hCb ?_|refine cG hCb ?_);(simp(disch:=omega)only[push_cast,↓zz,seval,pa1,pa2,pb1,pb2,h3,h4]);(fail_if_success change False))|omega|intro _))
     · (with_reducible repeat' (first|(simp(disch:=omega)only[push_cast,↓zz,seval,pa1,pa2,pb1,pb2,h3])|refine And.intro ?_ ?_|(first|refine Ab ?_ ?_|refine Aa ?_ ?_)<;>intro hc<;>(try simp only[push_cast] at hc)|refine eK hCa ?_|refine eQ hCa ?_|refine eG hCa ?_|refine eK hCb ?_|refine eQ hCb ?_|refine eG hCb ?_|((first|refine cK hCa ?_|refine cQ hCa ?_|refine cG hCa ?_|refine cK hCb ?_|refine cQ hCb ?_|refine cG hCb ?_);(simp(disch:=omega)only[push_cast,↓zz,seval,pa1,pa2,pb1,pb2,h3]);(fail_if_success change False))|omega|intro _))
   · generalize B6 b=kb at *
     (with_reducible repeat' (first|(simp(disch:=omega)only[push_cast,↓zz,seval,pa1,pa2,pb1,pb2,h2])|refine And.intro ?_ ?_|(first|refine Ab ?_ ?_|refine Aa ?_ ?_)<;>intro hc<;>(try simp only[push_cast] at hc)|refine eK hCa ?_|refine eQ hCa ?_|refine eG hCa ?_|refine eK hCb ?_|refine eQ hCb ?_|refine eG hCb ?_|((first|refine cK hCa ?_|refine cQ hCa ?_|refine cG hCa ?_|refine cK hCb ?_|refine cQ hCb ?_|refine cG hCb ?_);(simp(disch:=omega)only[push_cast,↓zz,seval,pa1,pa2,pb1,pb2,h2]);(fail_if_success change False))|omega|intro _))
 · generalize B6 a=ka at *
   (with_reducible repeat' (first|(simp(disch:=omega)only[push_cast,↓zz,seval,pa1,pa2,pb1,pb2,h1])|refine And.intro ?_ ?_|(first|refine Ab ?_ ?_|refine Aa ?_ ?_)<;>intro hc<;>(try simp only[push_cast] at hc)|refine eK hCa ?_|refine eQ hCa ?_|refine eG hCa ?_|refine eK hCb ?_|refine eQ hCb ?_|refine eG hCb ?_|((first|refine cK hCa ?_|refine cQ hCa ?_|refine cG hCa ?_|refine cK hCb ?_|refine cQ hCb ?_|refine cG hCb ?_);(simp(disch:=omega)only[push_cast,↓zz,seval,pa1,pa2,pb1,pb2,h1]);(fail_if_success change False))|omega|intro _))
   all_goals trace_state
theorem Wo (a b:Desc) (ha:E1 a) (hb:E1 b) (ca:B6 a=0) (cb:B6 b=0) (hin:a.in_=b.in_) (hout:a.out=b.out) (hl:1024<1+a.states+b.states) :
   PC Tryz.prog 35 [B2 a,B2 b] (.tup [zlp,.int .i64 4]):=by
 have hCa:=Fz a ha;have hCb:=Fz b hb;rw[ca] at hCa;rw[cb] at hCb;have wa:=Wl ca;have wb:=Wl cb;obtain⟨na,hna,na1,na2⟩:=wa.n;obtain⟨nb,hnb,nb1,nb2⟩:=wb.n;have pa1:=Az a.rules;have pa2:=As a.finals;have pb1:=Az b.rules;have pb2:=As b.finals;refine A7 Kw ?_;unfold Ie;(with_reducible repeat' (first|(simp(disch:=omega)only[push_cast,↓zz,seval,pa1,pa2,pb1,pb2,hin,hout])|refine And.intro ?_ ?_|(first|refine Ab ?_ ?_|refine Aa ?_ ?_)<;>intro hc<;>(try simp only[push_cast] at hc)|refine eK hCa ?_|refine eQ hCa ?_|refine eG hCa ?_|refine eK hCb ?_|refine eQ hCb ?_|refine eG hCb ?_|((first|refine cK hCa ?_|refine cQ hCa ?_|refine cG hCa ?_|refine cK hCb ?_|refine cQ hCb ?_|refine cG hCb ?_);(simp(disch:=omega)only[push_cast,↓zz,seval,pa1,pa2,pb1,pb2,hin,hout]);(fail_if_success change False))|omega|intro _))
 all_goals trace_state
theorem Zy {d:Desc} (h:E6 d=true):d.rules.length≤80∧d.finals.length≤80:=by
 simp only[E6,Bool.and_eq_true,decide_eq_true_eq] at h;omega
theorem zq2 (s x:Int) (hx:-2147483648≤x∧x≤2147483647):PC Tryz.prog 133 [.int .i64 s,.int .i32 x] (.bool (E9 s x)):=by
 refine A7 zcp ?_;unfold Yz;(with_reducible repeat' (first|(simp(disch:=omega)only[push_cast,↓zz,seval])|refine And.intro ?_ ?_|(first|refine Ab ?_ ?_|refine Aa ?_ ?_)<;>intro hc<;>(try simp only[push_cast] at hc)|omega|intro _))
 all_goals first
   | (unfold E9;first|(refine z4i ?_;omega)|(refine z4j ?_;omega)|(refine Pj ?_;omega))
   | (rw[eq_comm];(unfold E9;first|(refine z4i ?_;omega)|(refine z4j ?_;omega)|(refine Pj ?_;omega)))
   | trace_state
theorem zeg (s:Int) (l:List Int) (hl:l.length≤1000000000000) (h32:∀ x∈l,-2147483648≤x∧x≤2147483647):PC Tryz.prog 100 [.int .i64 s,Ag l] (.bool (l.all (E9 s))):=by
 have pI:Ak (l.map (AV.int .i32))=true:=Ay .i32 _;refine A7 z1f ?_;unfold Qg;(with_reducible repeat' (first|(simp(disch:=omega)only[push_cast,↓zz,seval,pI])|refine And.intro ?_ ?_|(first|refine Ab ?_ ?_|refine Aa ?_ ?_)<;>intro hc<;>(try simp only[push_cast] at hc)|omega|intro _))
 refine Ax (A8 (fun (k:Nat)=>k≤l.length∧l.all (E9 s)=(l.drop k).all (E9 s)) (fun k=>l.length-k)
   (fun k=>[(0,.int .i64 s),(7,Ag l),(8,.int .i64 l.length),(9,.int .i64 k)]) (fun _=>[]) (fun _ _=>[]) 0 (by simp) ?_ ?_)
 · (with_reducible repeat' (first|(simp(disch:=omega)only[push_cast,↓zz,seval,pI])|refine And.intro ?_ ?_|(first|refine Ab ?_ ?_|refine Aa ?_ ?_)<;>intro hc<;>(try simp only[push_cast] at hc)|omega|intro _))
 rintro k ⟨hk,hr⟩;rcases Nat.lt_or_ge k l.length with hkl|hkl
 · have hI:=zq2 s (nth l k) (h32 _ (Au hkl))
   rw[drop_at hkl,List.all_cons] at hr;generalize E9 s (nth l k)=b at *;cases b with
   | true =>
     refine W_T ?_;(with_reducible repeat' (first|(simp(disch:=omega)only[push_cast,↓zz,seval,pI])|refine And.intro ?_ ?_|(first|refine Ab ?_ ?_|refine Aa ?_ ?_)<;>intro hc<;>(try simp only[push_cast] at hc)|refine eK hI ?_|refine eQ hI ?_|refine eG hI ?_|((first|refine cK hI ?_|refine cQ hI ?_|refine cG hI ?_);(simp(disch:=omega)only[push_cast,↓zz,seval,pI]);(fail_if_success change False))|omega|intro _))
     all_goals
       refine⟨k+1,?_⟩;(with_reducible repeat' (first|(simp(disch:=omega)only[push_cast,↓zz,seval])|refine And.intro ?_ ?_|(first|refine Ab ?_ ?_|refine Aa ?_ ?_)<;>intro hc<;>(try simp only[push_cast] at hc)|omega|intro _));simpa using hr
   | false =>
     refine W_T ?_;(with_reducible repeat' (first|(simp(disch:=omega)only[push_cast,↓zz,seval,pI])|refine And.intro ?_ ?_|(first|refine Ab ?_ ?_|refine Aa ?_ ?_)<;>intro hc<;>(try simp only[push_cast] at hc)|refine eK hI ?_|refine eQ hI ?_|refine eG hI ?_|((first|refine cK hI ?_|refine cQ hI ?_|refine cG hI ?_);(simp(disch:=omega)only[push_cast,↓zz,seval,pI]);(fail_if_success change False))|omega|intro _))
     all_goals (rw[hr];rfl)
 · rw[List.drop_of_length_le hkl] at hr
   refine W_T ?_;(with_reducible repeat' (first|(simp(disch:=omega)only[push_cast,↓zz,seval,pI])|refine And.intro ?_ ?_|(first|refine Ab ?_ ?_|refine Aa ?_ ?_)<;>intro hc<;>(try simp only[push_cast] at hc)|omega|intro _))
   all_goals (rw[hr];rfl)
theorem Ni (a b:List Int) (hl:a.length≤1000000000000):PC Tryz.prog 32 [Ag a,Ag b] (.bool (decide (a=b))):=by
 refine A7 Yo ?_;unfold Np;(with_reducible repeat' (first|(simp(disch:=omega)only[push_cast,↓zz,seval])|refine And.intro ?_ ?_|(first|refine Ab ?_ ?_|refine Aa ?_ ?_)<;>intro hc<;>(try simp only[push_cast] at hc)|omega|intro _))
 · have:a≠b:=by intro h;subst h;first|omega|simp_all
   simp[this]
 refine Ax (A8 (fun (k:Nat)=>k≤a.length∧decide (a=b)=decide (a.drop k=b.drop k)) (fun k=>a.length-k)
   (fun k=>[(0,Ag a),(1,Ag b),(5,.int .i64 k)]) (fun s=>[]) (fun env _=>[]) 0 (by simp) ?_ ?_)
 · (with_reducible repeat' (first|(simp(disch:=omega)only[push_cast,↓zz,seval])|refine And.intro ?_ ?_|(first|refine Ab ?_ ?_|refine Aa ?_ ?_)<;>intro hc<;>(try simp only[push_cast] at hc)|omega|intro _))
 rintro k ⟨hk,hr⟩;refine W_T ?_;(with_reducible repeat' (first|(simp(disch:=omega)only[push_cast,↓zz,seval])|refine And.intro ?_ ?_|(first|refine Ab ?_ ?_|refine Aa ?_ ?_)<;>intro hc<;>(try simp only[push_cast] at hc)|omega|intro _))
 all_goals first
   | (rw[hr,List.drop_of_length_le (by omega),List.drop_of_length_le (by omega)];simp;done)
   | (rw[hr,Mg (by omega) (by omega)];simp_all;done)
   | (refine⟨k+1,?_⟩
      (with_reducible repeat' (first|(simp(disch:=omega)only[push_cast,↓zz,seval])|refine And.intro ?_ ?_|(first|refine Ab ?_ ?_|refine Aa ?_ ?_)<;>intro hc<;>(try simp only[push_cast] at hc)|omega|intro _))
      rw[hr,Mg (by omega) (by omega)];simp_all;done)
   | trace_state
theorem Je (a b:List (List Int)) (hl:a.length≤1000000000000) (ha:∀ l∈a,l.length≤1000000000000):PC Tryz.prog 28 [Dg a,Dg b] (.bool (decide (a=b))):=by
 refine A7 My ?_;unfold Hm;(with_reducible repeat' (first|(simp(disch:=omega)only[push_cast,↓zz,seval])|refine And.intro ?_ ?_|(first|refine Ab ?_ ?_|refine Aa ?_ ?_)<;>intro hc<;>(try simp only[push_cast] at hc)|omega|intro _))
 · have:a≠b:=by intro h;subst h;first|omega|simp_all
   simp[this]
 refine Ax (A8 (fun (k:Nat)=>k≤a.length∧decide (a=b)=decide (a.drop k=b.drop k)) (fun k=>a.length-k)
   (fun k=>[(0,Dg a),(1,Dg b),(5,.int .i64 k)]) (fun s=>[]) (fun env _=>[]) 0 (by simp) ?_ ?_)
 · (with_reducible repeat' (first|(simp(disch:=omega)only[push_cast,↓zz,seval])|refine And.intro ?_ ?_|(first|refine Ab ?_ ?_|refine Aa ?_ ?_)<;>intro hc<;>(try simp only[push_cast] at hc)|omega|intro _))
 rintro k ⟨hk,hr⟩;refine W_T ?_;(with_reducible repeat' (first|(simp(disch:=omega)only[push_cast,↓zz,seval])|refine And.intro ?_ ?_|(first|refine Ab ?_ ?_|refine Aa ?_ ?_)<;>intro hc<;>(try simp only[push_cast] at hc)|(have q_:=Ni (nth a k) (nth b k) (ha _ (Au (by omega)));(first|refine eK q_ ?_|refine eQ q_ ?_|refine eG q_ ?_);clear q_)|(have q_:=Ni (nth a k) (nth b k) (ha _ (Au (by omega)));(first|refine cK q_ ?_|refine cQ q_ ?_|refine cG q_ ?_);clear q_;(simp(disch:=omega)only[push_cast,↓zz,seval]);(fail_if_success change False))|omega|intro _))
 all_goals first
   | (rw[hr,List.drop_of_length_le (by omega),List.drop_of_length_le (by omega)];simp;done)
   | (rw[hr,Mg (by omega) (by omega)];simp_all;done)
   | (refine⟨k+1,?_⟩
      (with_reducible repeat' (first|(simp(disch:=omega)only[push_cast,↓zz,seval])|refine And.intro ?_ ?_|(first|refine Ab ?_ ?_|refine Aa ?_ ?_)<;>intro hc<;>(try simp only[push_cast] at hc)|omega|intro _))
      rw[hr,Mg (by omega) (by omega)];simp_all;done)
   | trace_state
noncomputable def askV (d:Desc) (x:List Int):Int:=if B6 d≠0 then 2 else if 1024<x.length then 4 else if x.all (E9 d.in_)=true then 0 else 1
theorem zeh (d:Desc) (x:List Int) (hf:E1 d) (hl:x.length≤9223372036854775807) (h32:∀ v∈x,-2147483648≤v∧v≤2147483647):PC Tryz.prog 59 [B2 d,Ag x] (.int .i64 (askV d x)):=by
 have hC:=Fz d hf;have hF:=fun (h:¬1024<x.length)=>zeg d.in_ x (by omega) h32;have pR:=Az d.rules;have pF:=As d.finals;have pI:Ak (x.map (AV.int .i32))=true:=Ay .i32 _;refine A7 z1a ?_;unfold Qa askV;generalize B6 d=k at *;generalize x.all (E9 d.in_)=b at *;by_cases hk:k=0
 · subst hk
   rw[if_neg (by simp)];by_cases hx:1024<x.length
   · rw[if_pos hx]
     (with_reducible repeat' (first|(simp(disch:=omega)only[push_cast,↓zz,seval,pR,pF,pI])|refine And.intro ?_ ?_|(first|refine Ab ?_ ?_|refine Aa ?_ ?_)<;>intro hc<;>(try simp only[push_cast] at hc)|refine eK hC ?_|refine eQ hC ?_|refine eG hC ?_|((first|refine cK hC ?_|refine cQ hC ?_|refine cG hC ?_);(simp(disch:=omega)only[push_cast,↓zz,seval,pR,pF,pI]);(fail_if_success change False))|omega|intro _))
   · rw[if_neg hx]
     have hF:=hF hx;cases b with
     | true =>
       rw[if_pos rfl];(with_reducible repeat' (first|(simp(disch:=omega)only[push_cast,↓zz,seval,pR,pF,pI])|refine And.intro ?_ ?_|(first|refine Ab ?_ ?_|refine Aa ?_ ?_)<;>intro hc<;>(try simp only[push_cast] at hc)|refine eK hC ?_|refine eQ hC ?_|refine eG hC ?_|refine eK hF ?_|refine eQ hF ?_|refine eG hF ?_|((first|refine cK hC ?_|refine cQ hC ?_|refine cG hC ?_|refine cK hF ?_|refine cQ hF ?_|refine cG hF ?_);(simp(disch:=omega)only[push_cast,↓zz,seval,pR,pF,pI]);(fail_if_success change False))|omega|intro _))
     | false =>
       rw[if_neg (by simp)];(with_reducible repeat' (first|(simp(disch:=omega)only[push_cast,↓zz,seval,pR,pF,pI])|refine And.intro ?_ ?_|(first|refine Ab ?_ ?_|refine Aa ?_ ?_)<;>intro hc<;>(try simp only[push_cast] at hc)|refine eK hC ?_|refine eQ hC ?_|refine eG hC ?_|refine eK hF ?_|refine eQ hF ?_|refine eG hF ?_|((first|refine cK hC ?_|refine cQ hC ?_|refine cG hC ?_|refine cK hF ?_|refine cQ hF ?_|refine cG hF ?_);(simp(disch:=omega)only[push_cast,↓zz,seval,pR,pF,pI]);(fail_if_success change False))|omega|intro _))
 · rw[if_pos hk]
   (with_reducible repeat' (first|(simp(disch:=omega)only[push_cast,↓zz,seval,pR,pF,pI,hk])|refine And.intro ?_ ?_|(first|refine Ab ?_ ?_|refine Aa ?_ ?_)<;>intro hc<;>(try simp only[push_cast] at hc)|refine eK hC ?_|refine eQ hC ?_|refine eG hC ?_|((first|refine cK hC ?_|refine cQ hC ?_|refine cG hC ?_);(simp(disch:=omega)only[push_cast,↓zz,seval,pR,pF,pI,hk]);(fail_if_success change False))|omega|intro _))
   all_goals trace_state
abbrev C4 (d:Desc) (x:List Int) (ru fi od li:AV):AV:=.cptr (.agg [.int .i64 d.in_,.int .i64 d.out,.int .i64 d.states,.int .i64 d.start,Cz d.rules,Cw d.finals,Ag x,ru,fi,od,li])
def goB (x:List Int) (gs:List (List Span)) (at_:Nat):Bool:=decide (gs.length+at_≤x.length)&&(List.range gs.length).all fun k=>hasI (nth gs k) (nth x (at_+k))
theorem Sj {p:Nat→Bool} {k n:Nat} (h:k<n) (hp:∀ j,j<k→p j=true):(p k=false→(List.range n).all p=false):=fun hk=>by
 rw[List.all_eq_false];exact⟨k,by simpa using h,by simp[hk]⟩
theorem Wp (d:Desc) (x:List Int) (ru fi od li:AV) (gs:List (List Span)) (at_:Nat) (hr:ru.pure=true) (hfi:fi.pure=true) (ho:od.pure=true) (hli:li.pure=true) (hx:x.length≤1000000) (h32:∀ v∈x,-2147483648≤v∧v≤2147483647) (hg:∀ g∈gs,g.length≤1000000) (hgl:gs.length≤1000000) (ha:at_≤1000000) :
   PC Tryz.prog 65 [C4 d x ru fi od li,Ao gs,.int .i64 at_] (.bool (goB x gs at_)):=by
 have pR:=Az d.rules;have pF:=As d.finals;have pX:Ak (x.map (AV.int .i32))=true:=Ay .i32 _;have pG:=Ah gs;refine A7 M1 ?_;unfold Hp;(with_reducible repeat' (first|(simp(disch:=omega)only[push_cast,↓zz,seval,pR,pF,pX,pG,hr,hfi,ho,hli])|refine And.intro ?_ ?_|(first|refine Ab ?_ ?_|refine Aa ?_ ?_)<;>intro hc<;>(try simp only[push_cast] at hc)|omega|intro _))
 · have:¬gs.length+at_≤x.length:=by omega
   simp[goB,this]
 have hfit:gs.length+at_≤x.length:=by omega
 have hgo:goB x gs at_=(List.range gs.length).all fun k=>hasI (nth gs k) (nth x (at_+k)):=by simp[goB,hfit]
 rw[hgo]
 refine Ax (A8 (fun (k:Nat)=>k≤gs.length∧Hold (∀ j,j<k→hasI (nth gs j) (nth x (at_+j))=true)) (fun k=>gs.length-k)
   (fun k=>[(0,C4 d x ru fi od li),(2,.int .i64 at_),(19,Ao gs),(20,.int .i64 gs.length),(21,.int .i64 k)]) (fun _=>[]) (fun _ _=>[]) 0 ⟨by simp,⟨fun j hj=>by omega⟩⟩ ?_ ?_)
 · (with_reducible repeat' (first|(simp(disch:=omega)only[push_cast,↓zz,seval,pR,pF,pX,pG,hr,hfi,ho,hli])|refine And.intro ?_ ?_|(first|refine Ab ?_ ?_|refine Aa ?_ ?_)<;>intro hc<;>(try simp only[push_cast] at hc)|omega|intro _))
 rintro k ⟨hk,⟨hall⟩⟩;rcases Nat.lt_or_ge k gs.length with hkl|hkl
 · have hHas:=ziq (nth gs k) (nth x (at_+k)) (by have:=hg _ (Au hkl);omega)
   have hb:=h32 _ (Au (show at_+k<x.length by omega));have hcast:((at_:Int)+k).toNat=at_+k:=by omega
   generalize hge:nth gs k=g at *;have pg:=Dm g;cases hh:hasI g (nth x (at_+k)) with
   | true =>
     rw[hh] at hHas
     have hnx:Hold (∀ j,j<k+1→hasI (nth gs j) (nth x (at_+j))=true):=⟨fun j hj=>by
       by_cases e:j=k
       · subst e;rw[hge];exact hh
       · exact hall j (by omega)⟩
     clear hall;refine W_T ?_;(with_reducible repeat' (first|(simp(disch:=omega)only[push_cast,↓zz,seval,pR,pF,pX,pG,hr,hfi,ho,hli,hge,pg,hcast])|refine And.intro ?_ ?_|(first|refine Ab ?_ ?_|refine Aa ?_ ?_)<;>intro hc<;>(try simp only[push_cast] at hc)|refine eK hHas ?_|refine eQ hHas ?_|refine eG hHas ?_|((first|refine cK hHas ?_|refine cQ hHas ?_|refine cG hHas ?_);(simp(disch:=omega)only[push_cast,↓zz,seval,pR,pF,pX,pG,hr,hfi,ho,hli,hge,pg,hcast]);(fail_if_success change False))|omega|intro _))
     all_goals first
       | (refine⟨k+1,?_⟩
          (with_reducible repeat' (first|(simp(disch:=omega)only[push_cast,↓zz,seval,pR,pF,pX,pG,hr,hfi,ho,hli])|refine And.intro ?_ ?_|(first|refine Ab ?_ ?_|refine Aa ?_ ?_)<;>intro hc<;>(try simp only[push_cast] at hc)|omega|intro _))
          all_goals first|assumption|trace_state)
       | trace_state
   | false =>
     rw[hh] at hHas;have hno:(List.range gs.length).all (fun k=>hasI (nth gs k) (nth x (at_+k)))=false:=Sj hkl hall (by rw[hge];exact hh);rw[hno];clear hall hno;refine W_T ?_;(with_reducible repeat' (first|(simp(disch:=omega)only[push_cast,↓zz,seval,pR,pF,pX,pG,hr,hfi,ho,hli,hge,pg,hcast])|refine And.intro ?_ ?_|(first|refine Ab ?_ ?_|refine Aa ?_ ?_)<;>intro hc<;>(try simp only[push_cast] at hc)|refine eK hHas ?_|refine eQ hHas ?_|refine eG hHas ?_|((first|refine cK hHas ?_|refine cQ hHas ?_|refine cG hHas ?_);(simp(disch:=omega)only[push_cast,↓zz,seval,pR,pF,pX,pG,hr,hfi,ho,hli,hge,pg,hcast]);(fail_if_success change False))|omega|intro _))
 · obtain rfl:k=gs.length:=by omega
   have hyes:(List.range gs.length).all (fun k=>hasI (nth gs k) (nth x (at_+k)))=true:=List.all_eq_true.2 fun j hj=>hall j (by simpa using hj);rw[hyes];clear hall hyes;refine W_T ?_;(with_reducible repeat' (first|(simp(disch:=omega)only[push_cast,↓zz,seval,pR,pF,pX,pG,hr,hfi,ho,hli])|refine And.intro ?_ ?_|(first|refine Ab ?_ ?_|refine Aa ?_ ?_)<;>intro hc<;>(try simp only[push_cast] at hc)|omega|intro _))
   all_goals trace_state
theorem zjr (d:Desc) (x:List Int) (ru fi od li:AV) (f:Eu) (at_:Nat) (hr:ru.pure=true) (hfi:fi.pure=true) (ho:od.pure=true) (hli:li.pure=true) (hx:x.length≤1000000) (h32:∀ v∈x,-2147483648≤v∧v≤2147483647) (hg:∀ g∈f.guards,g.length≤1000000) (hgl:f.guards.length≤1000000) (ha:at_≤1000000) :
   PC Tryz.prog 63 [C4 d x ru fi od li,J8 f,.int .i64 at_] (.bool (decide (f.guards.length+at_=x.length)&&goB x f.guards at_)):=by
 have pR:=Az d.rules;have pF:=As d.finals;have pX:Ak (x.map (AV.int .i32))=true:=Ay .i32 _;have pG:=Ah f.guards;have pT:=Bl f.out;have hF:=Wp d x ru fi od li f.guards at_ hr hfi ho hli hx h32 hg hgl ha;refine A7 M0 ?_;unfold Ho;generalize goB x f.guards at_=b at *;by_cases he:f.guards.length+at_=x.length
 · rw[decide_eq_true he,Bool.true_and]
   have he2:(f.guards.length:Int)=(x.length:Int)-at_:=by omega
   (with_reducible repeat' (first|(simp(disch:=omega)only[push_cast,↓zz,seval,pR,pF,pX,pG,pT,hr,hfi,ho,hli,he2])|refine And.intro ?_ ?_|(first|refine Ab ?_ ?_|refine Aa ?_ ?_)<;>intro hc<;>(try simp only[push_cast] at hc)|refine eK hF ?_|refine eQ hF ?_|refine eG hF ?_|((first|refine cK hF ?_|refine cQ hF ?_|refine cG hF ?_);(simp(disch:=omega)only[push_cast,↓zz,seval,pR,pF,pX,pG,pT,hr,hfi,ho,hli,he2]);(fail_if_success change False))|omega|intro _))
   all_goals first|omega|trace_state
 · rw[decide_eq_false he,Bool.false_and]
   have he2:¬(f.guards.length:Int)=(x.length:Int)-at_:=by omega
   (with_reducible repeat' (first|(simp(disch:=omega)only[push_cast,↓zz,seval,pR,pF,pX,pG,pT,hr,hfi,ho,hli,he2])|refine And.intro ?_ ?_|(first|refine Ab ?_ ?_|refine Aa ?_ ?_)<;>intro hc<;>(try simp only[push_cast] at hc)|refine eK hF ?_|refine eQ hF ?_|refine eG hF ?_|((first|refine cK hF ?_|refine cQ hF ?_|refine cG hF ?_);(simp(disch:=omega)only[push_cast,↓zz,seval,pR,pF,pX,pG,pT,hr,hfi,ho,hli,he2]);(fail_if_success change False))|omega|intro _))
   all_goals first|omega|trace_state
def Ee (out:List Term) (w:List Int):List Int:=out.map fun t=>IntKind.i32.wrap ((D6 t w).getD 0)
theorem Uj (d:Desc) (x:List Int) (ru fi od li:AV) (out:List Term) (at_ n:Nat) (hr:ru.pure=true) (hfi:fi.pure=true) (ho:od.pure=true) (hli:li.pure=true) (hx:x.length≤1000000) (h32:∀ v∈x,-2147483648≤v∧v≤2147483647) (hol:out.length≤1000000) (hop:∀ t∈out,t.parts.length≤1000000) (ha:at_+n≤x.length) :
   PC Tryz.prog 64 [C4 d x ru fi od li,Ea out,.int .i64 at_,.int .i64 n] (Ag (Ee out ((x.drop at_).take n))):=by
 have pR:=Az d.rules;have pF:=As d.finals;have pX:Ak (x.map (AV.int .i32))=true:=Ay .i32 _;have pT:=Bl out;have hwl:((x.drop at_).take n).length≤1000000:=by simp;omega
 have hw32:∀ v∈(x.drop at_).take n,-2147483648≤v∧v≤2147483647:=fun v hv=>h32 v (List.mem_of_mem_drop (List.mem_of_mem_take hv));have hV:=fun t (ht:t∈out)=>z8d t ((x.drop at_).take n) (by have:=hop t ht;omega) (by omega) hw32;have hmw:List.take n (List.drop at_ (x.map (AV.int .i32)))=((x.drop at_).take n).map (AV.int .i32):=by rw[List.map_take,List.map_drop]
 have hcat:((at_:Int)+n).toNat=at_+n:=by omega
 have pW:Ak (((x.drop at_).take n).map (AV.int .i32))=true:=Ay .i32 _;have hdt:List.drop at_ (List.take (at_+n) x)=(x.drop at_).take n:=by rw[List.drop_take];simp
 have e0:∀ w,Ee [] w=[]:=fun _=>rfl;have wl:∀ w,(Ee out w).length=out.length:=fun w=>by simp[Ee]
 have wt:∀ w,List.take out.length (Ee out w)=Ee out w:=fun w=>List.take_of_length_le (by rw[wl];exact Nat.le_refl _);refine A7 Kx ?_;unfold Gu;(with_reducible repeat' (first|(simp(disch:=omega)only[push_cast,↓zz,seval,pR,pF,pX,pT,hr,hfi,ho,hli])|refine And.intro ?_ ?_|(first|refine Ab ?_ ?_|refine Aa ?_ ?_)<;>intro hc<;>(try simp only[push_cast] at hc)|omega|intro _))
 refine Ax (A8 (fun (k:Nat)=>k≤out.length) (fun k=>out.length-k)
   (fun k=>[(0,C4 d x ru fi od li),(2,.int .i64 at_),(3,.int .i64 n),(9,.ref 0 1 0 k),(14,Ea out),(15,.int .i64 out.length),(16,.int .i64 k)]) (fun k=>[⟨1,1,false,(Ee (out.take k) ((x.drop at_).take n)).map (AV.int .i32)⟩]) (fun env _=>[Bm 1 (env 9)]) 0 (by simp) ?_ ?_)
 · (with_reducible repeat' (first|(simp(disch:=omega)only[push_cast,↓zz,seval,pR,pF,pX,pT,hr,hfi,ho,hli,e0])|refine And.intro ?_ ?_|(first|refine Ab ?_ ?_|refine Aa ?_ ?_)<;>intro hc<;>(try simp only[push_cast] at hc)|omega|intro _))
 intro k hk;have hlk:(Ee (out.take k) ((x.drop at_).take n)).length=k:=by simp[Ee];omega
 have pL:Ak ((Ee (out.take k) ((x.drop at_).take n)).map (AV.int .i32))=true:=Ay .i32 _;rcases Nat.lt_or_ge k out.length with hkl|hkl
 · have hVk:=hV _ (Au hkl)
   have e1:Ee (out.take (k+1)) ((x.drop at_).take n)=Ee (out.take k) ((x.drop at_).take n)++[IntKind.i32.wrap ((D6 (nth out k) ((x.drop at_).take n)).getD 0)]:=by rw[Ee,take_at hkl,List.map_append];rfl
   generalize hte:nth out k=t at *;have pP:=Hl t.parts;generalize Ee (out.take k) ((x.drop at_).take n)=L at *;refine W_T ?_;(with_reducible repeat' (first|(simp(disch:=omega)only[push_cast,↓zz,seval,pR,pF,pX,pT,hr,hfi,ho,hli,hte,pP,hmw,hcat,pW,hdt])|refine And.intro ?_ ?_|(first|refine Ab ?_ ?_|refine Aa ?_ ?_)<;>intro hc<;>(try simp only[push_cast] at hc)|refine eK hVk ?_|refine eQ hVk ?_|refine eG hVk ?_|((first|refine cK hVk ?_|refine cQ hVk ?_|refine cG hVk ?_);(simp(disch:=omega)only[push_cast,↓zz,seval,pR,pF,pX,pT,hr,hfi,ho,hli,hte,pP,hmw,hcat,pW,hdt]);(fail_if_success change False))|omega|intro _))
   all_goals
     refine⟨k+1,?_⟩;(with_reducible repeat' (first|(simp(disch:=omega)only[push_cast,↓zz,seval,e1,pL,pR,pF,pX,pT,hr,hfi,ho,hli])|refine And.intro ?_ ?_|(first|refine Ab ?_ ?_|refine Aa ?_ ?_)<;>intro hc<;>(try simp only[push_cast] at hc)|omega|intro _))
 · obtain rfl:k=out.length:=by omega
   have et:out.take out.length=out:=List.take_of_length_le (by omega);rw[et] at hlk pL ⊢;refine W_T ?_;(with_reducible repeat' (first|(simp(disch:=omega)only[push_cast,↓zz,seval,pR,pF,pX,pT,hr,hfi,ho,hli,pL,et,wl,wt])|refine And.intro ?_ ?_|(first|refine Ab ?_ ?_|refine Aa ?_ ?_)<;>intro hc<;>(try simp only[push_cast] at hc)|omega|intro _))
   all_goals trace_state
def ltW:List Int→List Int→Bool
 | [],[]=>false
 | [],_::_=>true
 | _::_,[]=>false
 | a::l,b::m=>if a<b then true else if b<a then false else ltW l m
theorem Em:∀ a,ltW a a=false
 | []=>rfl
 | a::l=>by simp[ltW,Em l]
theorem F9:∀ a b c,ltW a b=true→ltW b c=true→ltW a c=true
 | [],[],_,h,_=>by simp[ltW] at h
 | [],b::m,[],_,h=>by simp[ltW] at h
 | [],_::_,_::_,_,_=>rfl
 | _::_,[],_,h,_=>by simp[ltW] at h
 | _::_,_::_,[],_,h=>by simp[ltW] at h
 | a::l,b::m,c::n,h1,h2=>by
   simp only[ltW] at h1 h2 ⊢;split at h1
   · split at h2
     · rw[if_pos (by omega)]
     · split at h2
       · cases h2
       · rw[if_pos (by omega)]
   · split at h1
     · cases h1
     · split at h2
       · rw[if_pos (by omega)]
       · split at h2
         · cases h2
         · rw[if_neg (by omega),if_neg (by omega)]
           exact F9 l m n h1 h2
theorem Hy:∀ a b,ltW a b=false→ltW b a=false→a=b
 | [],[],_,_=>rfl
 | [],_::_,h,_=>by simp[ltW] at h
 | _::_,[],_,h=>by simp[ltW] at h
 | a::l,b::m,h1,h2=>by
   have e1:¬a<b:=fun h=>by simp[ltW,h] at h1
   have e2:¬b<a:=fun h=>by simp[ltW,h] at h2
   rw[ltW,if_neg e1,if_neg e2] at h1;rw[ltW,if_neg e2,if_neg e1] at h2;have:a=b:=by omega
   rw[this,Hy l m h1 h2]
def Jf (l:List (List Int)):Prop:=l.Pairwise fun a b=>ltW a b=true
theorem Wq:∀ {l m:List (List Int)},Jf l→Jf m→(∀ w,w∈l↔w∈m)→l=m
 | [],[],_,_,_=>rfl
 | [],b::m,_,_,h=>by have:=(h b).2 (by simp);cases this
 | a::l,[],_,_,h=>by have:=(h a).1 (by simp);cases this
 | a::l,b::m,h1,h2,h=>by
   rw[Jf,List.pairwise_cons] at h1 h2
   have e:a=b:=by
     rcases List.mem_cons.1 ((h a).1 (by simp)) with e|ha
     · exact e
     · rcases List.mem_cons.1 ((h b).2 (by simp)) with e|hb
       · exact e.symm
       · have k1:=h1.1 b hb
         have k2:=h2.1 a ha;have:=F9 _ _ _ k1 k2;rw[Em] at this;cases this
   subst e;have hna:a∉l:=fun hm=>by have:=h1.1 a hm;rw[Em] at this;cases this
   have hnb:a∉m:=fun hm=>by have:=h2.1 a hm;rw[Em] at this;cases this
   rw[Wq (l:=l) (m:=m) h1.2 h2.2 fun w=>?_];constructor
   · intro hw
     rcases List.mem_cons.1 ((h w).1 (by simp[hw])) with e|e
     · subst e;exact absurd hw hna
     · exact e
   · intro hw
     rcases List.mem_cons.1 ((h w).2 (by simp[hw])) with e|e
     · subst e;exact absurd hw hnb
     · exact e
def insU (w:List Int):List (List Int)→List (List Int)
 | []=>[w]
 | a::l=>if ltW w a=true then w::a::l else if ltW a w=true then a::insU w l else a::l
theorem O1 (w:List Int):∀ (l:List (List Int)) (v:List Int),v∈insU w l↔v=w∨v∈l
 | [],v=>by simp[insU]
 | a::l,v=>by
   simp only[insU];split
   · simp
   · split
     · rw[List.mem_cons,O1 w l v,List.mem_cons]
       constructor
       · rintro (h|h|h)
         · exact .inr (.inl h)
         · exact .inl h
         · exact .inr (.inr h)
       · rintro (h|h|h)
         · exact .inr (.inl h)
         · exact .inl h
         · exact .inr (.inr h)
     · rename_i h1 h2
       have e:w=a:=Hy w a (by simpa using h1) (by simpa using h2);subst e;simp
theorem Rt (w:List Int):∀ {l:List (List Int)},Jf l→Jf (insU w l)
 | [],_=>List.pairwise_singleton _ _
 | a::l,h=>by
   have h':=h;rw[Jf,List.pairwise_cons] at h';simp only[insU];split
   · rename_i h1
     refine List.pairwise_cons.2 ⟨fun v hv=>?_,h⟩;rcases List.mem_cons.1 hv with rfl|hv
     · exact h1
     · exact F9 _ _ _ h1 (h'.1 v hv)
   · split
     · rename_i h2
       refine List.pairwise_cons.2 ⟨fun v hv=>?_,Rt w h'.2⟩;rcases (O1 w l v).1 hv with rfl|hv
       · exact h2
       · exact h'.1 v hv
     · exact h
def Gz (l:List (List Int)):List (List Int):=l.foldr insU []
theorem G0:∀ (l:List (List Int)) (v:List Int),v∈Gz l↔v∈l
 | [],v=>Iff.rfl
 | a::l,v=>by
   show v∈insU a (Gz l)↔_;rw[O1,G0 l v,List.mem_cons]
theorem Hz:∀ (l:List (List Int)),Jf (Gz l)
 | []=>List.Pairwise.nil
 | a::l=>Rt a (Hz l)
theorem Wr {l m:List (List Int)} (h1:Jf m) (h2:∀ w,w∈m↔w∈l):Gz l=m:=Wq (Hz l) h1 fun w=>(G0 l w).trans (h2 w).symm
theorem Ws (w:List Int):∀ l:List (List Int),(insU w l).length≤l.length+1
 | []=>by simp[insU]
 | a::l=>by
   have:=Ws w l;simp only[insU];repeat' split
   all_goals simp;try omega
theorem Ru:∀ l:List (List Int),(Gz l).length≤l.length
 | []=>Nat.le_refl _
 | a::l=>by
   have:=Ru l;have h2:=Ws a (Gz l);show (insU a (Gz l)).length≤_;simp;omega
theorem Ip {α:Type}:∀ {l m:List α},l.Nodup→(∀ w∈l,w∈m)→l.length≤m.length
 | [],m,_,_=>Nat.zero_le _
 | a::l,m,hn,h=>by
   obtain⟨s,t,rfl⟩:=List.append_of_mem (h a (by simp));rw[List.nodup_cons] at hn
   have:=Ip (l:=l) (m:=s++t) hn.2 fun w hw=>by
     have:=h w (by simp[hw]);simp only[List.mem_append,List.mem_cons] at this ⊢;rcases this with h1|h1|h1
     · exact .inl h1
     · subst h1;exact absurd hw hn.1
     · exact .inr h1
   simp only[List.length_append,List.length_cons] at this ⊢;omega
def epsI (l:List Rule) (s:Int):List Nat:=(List.range l.length).filter fun i=>Cr (nth l i)&&decide ((nth l i).from_=s)
theorem Wt {l:List Rule} {s:Int} {i:Nat}:i∈epsI l s↔i<l.length∧Cr (nth l i)=true∧(nth l i).from_=s:=by
 simp[epsI]
def okP (l:List Rule):Int→List Nat→Prop
 | _,[]=>True
 | s,i::p=>i∈epsI l s∧okP l (nth l i).to_ p
def endP (l:List Rule):Int→List Nat→Int
 | s,[]=>s
 | _,i::p=>endP l (nth l i).to_ p
theorem zu7 {l:List Rule} {on:Nat→Bool} {i j:Nat} (hi:i<l.length) (he:Cr (nth l i)=true) (ho:on (nth l i).from_.toNat=true) (ht:(nth l i).to_=j):onF l on j=true:=by
 rw[onF,List.any_eq_true];exact⟨nth l i,Au hi,by simp[he,ho,ht]⟩
theorem zlq {l:List Rule} {n:Nat} (hl:∀ r∈l,(0≤r.from_∧r.from_<n)∧0≤r.to_∧r.to_<n):∀ (p:List Nat) (k:Nat) (s:Int),0≤s→onK l k s.toNat=true→okP l s p→onK l (k+p.length) (endP l s p).toNat=true
 | [],k,s,_,ho,_=>ho
 | i::p,k,s,hs,ho,hp=>by
   obtain⟨h1,h2,h3⟩:=Wt.1 hp.1;have hr:=hl _ (Au h1);have ht:onK l (k+1) (nth l i).to_.toNat=true:=zu7 h1 h2 (by rw[h3];exact ho) (by omega);have:=zlq hl p (k+1) (nth l i).to_ hr.2.1 ht hp.2;rw[List.length_cons,show k+(p.length+1)=k+1+p.length by omega];exact this
theorem zei {l:List Rule} {n:Nat} (hl:∀ r∈l,(0≤r.from_∧r.from_<n)∧0≤r.to_∧r.to_<n) (hc:¬cycP l n) {s:Int} (hs:0≤s) {p:List Nat} (hp:okP l s p):p.length≤n+1:=by
 have hcr:¬cycR l n=true:=fun h=>hc ((zig hl).1 h)
 have:∃ k,k≤n∧z8g l (onK l k)=false:=by
   refine Classical.byContradiction fun hh=>hcr ?_;rw[cycR,List.all_eq_true];intro k hk;refine Classical.byContradiction fun h2=>hh ⟨k,by simp at hk;omega,by simpa using h2⟩
 obtain⟨k,hk,hkf⟩:=this
 have hno:∀ j,onK l (k+1) j=false:=fun j=>by
   refine Classical.byContradiction fun hh=>?_;have h1:onF l (onK l k) j=true:=by simpa [onK] using hh
   rw[onF,List.any_eq_true] at h1;obtain⟨r,hr,h2⟩:=h1;simp only[Bool.and_eq_true] at h2
   have:z8g l (onK l k)=true:=by
     rw[z8g,List.any_eq_true];exact⟨r,hr,by simp[h2.1,h2.2.1]⟩
   rw[hkf] at this;cases this
 refine Classical.byContradiction fun hlen=>?_;have h1:=zlq hl p 0 s hs rfl hp;rw[Nat.zero_add] at h1
 have down:∀ m j,onK l (k+1+m) j=true→onK l (k+1) j=true:=fun m=>by
   induction m with
   | zero=>exact fun j h=>h
   | succ m ih=>exact fun j h=>ih j (V8 l _ j h)
 have:=down (p.length-(k+1)) (endP l s p).toNat (by rw[show k+1+(p.length-(k+1))=p.length by omega];exact h1);rw[hno] at this;cases this
end Go.Proofs.YtbcjoeadpjfcfaaGreat
namespace Go.Proofs.YtbcjoeadpjfcfaaGreat
open Abs
theorem O2 (l:List Rule):∀ (s:Int) (p q:List Nat),endP l s (p++q)=endP l (endP l s p) q
 | s,[],q=>rfl
 | s,i::p,q=>O2 l _ p q
theorem Wu (l:List Rule):∀ (s:Int) (p q:List Nat),okP l s (p++q)↔okP l s p∧okP l (endP l s p) q
 | s,[],q=>by simp[okP,endP]
 | s,i::p,q=>by simp[okP,endP,Wu l _ p q,and_assoc]
def D3 (x:List Int) (out:List Term) (gs:List (List Span)) (at_:Nat):List Int:=Ee out ((x.drop at_).take gs.length)
inductive RelW (d:Desc) (x:List Int):Nat→Int→List Int→Prop
 | fin {at_:Nat} {s:Int} (f:Eu):f∈d.finals→f.from_=s→f.guards.length+at_=x.length→goB x f.guards at_=true→RelW d x at_ s (D3 x f.out f.guards at_)
 | step {at_:Nat} {s:Int} (r:Rule) (w:List Int):r∈d.rules→r.from_=s→goB x r.guards at_=true→RelW d x (at_+r.eat.toNat) r.to_ w→RelW d x at_ s (D3 x r.out r.guards at_++w)
theorem Mh {d:Desc} {x:List Int} {at_:Nat} {s:Int} {w:List Int}:RelW d x at_ s w ↔
   (∃ f∈d.finals,f.from_=s∧(f.guards.length+at_=x.length∧goB x f.guards at_=true)∧w=D3 x f.out f.guards at_) ∨
   ∃ r∈d.rules,r.from_=s∧goB x r.guards at_=true∧∃ v,RelW d x (at_+r.eat.toNat) r.to_ v∧w=D3 x r.out r.guards at_++v:=by
 constructor
 · rintro (⟨f,h1,h2,h3,h4⟩|⟨r,v,h1,h2,h3,h4⟩)
   · exact .inl ⟨f,h1,h2,⟨h3,h4⟩,rfl⟩
   · exact .inr ⟨r,h1,h2,h3,v,h4,rfl⟩
 · rintro (⟨f,h1,h2,⟨h3,h4⟩,rfl⟩|⟨r,h1,h2,h3,v,h4,rfl⟩)
   · exact .fin f h1 h2 h3 h4
   · exact .step r v h1 h2 h3 h4
def J7 (d:Desc) (x:List Int) (at_:Nat) (s:Int) (L:List (List Int)):Prop:=Jf L∧∀ w,w∈L↔RelW d x at_ s w
theorem zjs {d:Desc} {x:List Int} {at_:Nat} {s:Int} {L M:List (List Int)} (h1:J7 d x at_ s L) (h2:J7 d x at_ s M):L=M:=Wq h1.1 h2.1 fun w=>(h1.2 w).trans (h2.2 w).symm
def outL (d:Desc) (x:List Int) (S:Nat→Int→List (List Int)) (at_:Nat) (s:Int):List (List Int) :=
 ((d.finals.filter fun f=>decide (f.from_=s)&&(decide (f.guards.length+at_=x.length)&&goB x f.guards at_)).map fun f=>D3 x f.out f.guards at_) ++
 (d.rules.filter fun r=>decide (r.from_=s)&&goB x r.guards at_).flatMap fun r=>(S (at_+r.eat.toNat) r.to_).map (D3 x r.out r.guards at_++·)
theorem zjt {d:Desc} {x:List Int} {S:Nat→Int→List (List Int)} {at_:Nat} {s:Int} (h:∀ r∈d.rules,r.from_=s→goB x r.guards at_=true→∀ v,v∈S (at_+r.eat.toNat) r.to_↔RelW d x (at_+r.eat.toNat) r.to_ v) (w:List Int):w∈outL d x S at_ s↔RelW d x at_ s w:=by
 rw[Mh,outL,List.mem_append,List.mem_map,List.mem_flatMap];constructor
 · rintro (⟨f,hf,rfl⟩|⟨r,hr,hw⟩)
   · obtain⟨h1,h2⟩:=List.mem_filter.1 hf
     simp only[Bool.and_eq_true,decide_eq_true_eq] at h2;exact .inl ⟨f,h1,h2.1,h2.2,rfl⟩
   · obtain⟨h1,h2⟩:=List.mem_filter.1 hr
     simp only[Bool.and_eq_true,decide_eq_true_eq] at h2;obtain⟨v,hv,rfl⟩:=List.mem_map.1 hw;exact .inr ⟨r,h1,h2.1,h2.2,v,(h r h1 h2.1 h2.2 v).1 hv,rfl⟩
 · rintro (⟨f,h1,h2,h3,rfl⟩|⟨r,h1,h2,h3,v,hv,rfl⟩)
   · exact .inl ⟨f,List.mem_filter.2 ⟨h1,by simp[h2,h3.1,h3.2]⟩,rfl⟩
   · exact .inr ⟨r,List.mem_filter.2 ⟨h1,by simp[h2,h3]⟩,List.mem_map.2 ⟨v,(h r h1 h2 h3 v).2 hv,rfl⟩⟩
theorem Wv {d:Desc} {x:List Int} {S:Nat→Int→List (List Int)} {at_:Nat} {s:Int} (h:∀ r∈d.rules,r.from_=s→goB x r.guards at_=true→J7 d x (at_+r.eat.toNat) r.to_ (S (at_+r.eat.toNat) r.to_)):J7 d x at_ s (Gz (outL d x S at_ s)) :=
 ⟨Hz _,fun w=>(G0 _ w).trans (zjt (fun r h1 h2 h3 v=>(h r h1 h2 h3).2 v) w)⟩
structure Topo (l:List Rule) (n:Nat) (ord:List Nat):Prop where
 nodup:ord.Nodup
 all:∀ s,s∈ord↔s<n
 eps:∀ i,i<ord.length→∀ r∈l,Cr r=true→r.from_=(nth ord i:Nat)→∃ t:Nat,r.to_=t∧t∈ord.take i
structure Goes (d:Desc) (n:Nat):Prop where
 r:∀ r∈d.rules,(0≤r.from_∧r.from_<n)∧(0≤r.to_∧r.to_<n)∧r.eat.toNat≤r.guards.length∧(Cr r=false→1≤r.eat.toNat)
theorem Jg {x:List Int} {gs:List (List Span)} {at_:Nat} (h:goB x gs at_=true):gs.length+at_≤x.length:=by
 simp only[goB,Bool.and_eq_true,decide_eq_true_eq] at h;exact h.1
theorem zej {d:Desc} {n:Nat} (hg:Goes d n) {r:Rule} (hr:r∈d.rules) (he:Cr r=true):r.eat.toNat=0:=by
 have h1:=(hg.r r hr).2.2.1;simp only[Cr,decide_eq_true_eq] at he;omega
theorem zu8 {d:Desc} {n:Nat} {x:List Int} {ord:List Nat} (hg:Goes d n) (ht:Topo d.rules n ord):∀ (k at_:Nat),x.length-at_<k→at_≤x.length→∀ s:Nat,s<n→∃ L,J7 d x at_ s L:=by
 intro k
 induction k with
 | zero=>intro at_ h;omega
 | succ k ih =>
   intro at_ hk ha
   have key:∀ i,i≤ord.length→∀ s:Nat,s∈ord.take i→∃ L,J7 d x at_ s L:=fun i=>by
     induction i with
     | zero=>intro _ s hs;simp at hs
     | succ i ihi =>
       intro hi s hs;rw[take_at (by omega),List.mem_append,List.mem_singleton] at hs;rcases hs with hs|rfl
       · exact ihi (by omega) s hs
       · have hnx:∀ r∈d.rules,r.from_=(nth ord i:Nat)→goB x r.guards at_=true→∃ L,J7 d x (at_+r.eat.toNat) r.to_ L:=fun r hr hf hgo=>by
           obtain⟨_,⟨t1,t2⟩,e1,e2⟩:=hg.r r hr;have hle:=Jg hgo;cases he:Cr r with
           | true =>
             obtain⟨t,h1,h2⟩:=ht.eps i (by omega) r hr he hf;rw[zej hg hr he,h1,Nat.add_zero];exact ihi (by omega) t h2
           | false =>
             have:=e2 he;have h3:=ih (at_+r.eat.toNat) (by omega) (by omega) r.to_.toNat (by omega)
             rwa [Int.toNat_of_nonneg t1] at h3
         classical
         exact⟨_,Wv (S:=fun a t=>if h:∃ L,J7 d x a t L then h.choose else []) fun r hr hf hgo=>by
           have h:=hnx r hr hf hgo;simp only[dif_pos h]
           exact h.choose_spec⟩
   intro s hs;exact key ord.length (Nat.le_refl _) s (by rw[List.take_length];exact (ht.all s).2 hs)
open Classical in
noncomputable def outW (d:Desc) (x:List Int) (at_:Nat) (s:Int):List (List Int):=if h:∃ L,J7 d x at_ s L then h.choose else []
theorem Zz {d:Desc} {x:List Int} {at_:Nat} {s:Int} (h:∃ L,J7 d x at_ s L):J7 d x at_ s (outW d x at_ s):=by
 rw[outW,dif_pos h];exact h.choose_spec
theorem Rv {d:Desc} {x:List Int} {at_:Nat} {s:Int} {L:List (List Int)} (h:J7 d x at_ s L):outW d x at_ s=L:=zjs (Zz ⟨L,h⟩) h
inductive z2x (d:Desc) (x:List Int):Nat→Int→List Int→Nat→Int→Prop
 | here {at_:Nat} {s:Int}:z2x d x at_ s [] at_ s
 | step {at_:Nat} {s:Int} {u:List Int} {a:Nat} {t:Int} (r:Rule):z2x d x at_ s u a t→r∈d.rules→r.from_=t→goB x r.guards a=true→z2x d x at_ s (u++D3 x r.out r.guards a) (a+r.eat.toNat) r.to_
theorem zju {d:Desc} {x:List Int} {at_:Nat} {s:Int} {u:List Int} {a:Nat} {t:Int} (h:z2x d x at_ s u a t):∀ {w:List Int},RelW d x a t w→RelW d x at_ s (u++w):=by
 induction h with
 | here=>intro w hw;exact hw
 | step r _ h1 h2 h3 ih =>
   intro w hw;rw[List.append_assoc];exact ih (.step r w h1 h2 h3 hw)
theorem z6h {d:Desc} {x:List Int} {at_:Nat} {s:Int} {u:List Int} {a:Nat} {t:Int} (h:z2x d x at_ s u a t) {L M:List (List Int)} (hL:J7 d x a t L) (hM:J7 d x at_ s M):L.length≤M.length:=by
 have h1:(L.map (u++·)).length≤M.length:=by
   refine Ip ?_ fun w hw=>?_
   · have hn:L.Nodup:=List.Pairwise.imp (fun {a b} hab (e:a=b)=>by subst e;rw[Em] at hab;cases hab) hL.1
     exact List.Pairwise.map _ (fun a b hab (e:u++a=u++b)=>hab (List.append_cancel_left e)) hn
   · obtain⟨v,hv,rfl⟩:=List.mem_map.1 hw
     exact (hM.2 _).2 (zju h ((hL.2 v).1 hv))
 simpa using h1
section
variable {α:Type} (w:Nat) (e:α→AV)
def gG (v:Nat) (l:List α):Grp:=⟨w,v,l.isEmpty,l.map e⟩
def fF (n:Nat) (V:Nat→Nat) (D:Nat→List α):List Grp:=(List.range n).map fun i=>gG w e (V i) (D i)
def fT (o n:Nat) (V:Nat→Nat) (D:Nat→List α):List AV:=(List.range n).map fun i=>AV.ref (i+o) (V i) 0 (D i).length
def fD (n:Nat) (D:Nat→List α):List AV:=(List.range n).map fun i=>AV.lst w ((D i).map e)
def setD (D:Nat→List α) (i:Nat) (l:List α) (p:Nat):List α:=if p=i then l else D p
variable {w e} {n o i:Nat} {V:Nat→Nat} {D:Nat→List α}
theorem Uk:(fF w e n V D).length=n:=by simp[fF]
theorem zlr:(fT o n V D).length=n:=by simp[fT]
theorem z6i:(fD w e n D).length=n:=by simp[fD]
theorem zjv (h:i<n):(fF w e n V D).getD i default=gG w e (V i) (D i):=Ca h
theorem zu9 {z:AV} (h:i<n):(fT o n V D).getD i z=.ref (i+o) (V i) 0 (D i).length:=Ca h
theorem zjw {z:AV} (h:i<n):(fD w e n D).getD i z=.lst w ((D i).map e):=Ca h
theorem z6j (h:i<n):(fD w e n D)[i]? = some (.lst w ((D i).map e)):=by simp[fD,h]
theorem Dc (he:∀ x,(e x).pure=true) (l:List α):Ak (l.map e)=true:=Bn.2 fun x hx=>by
 obtain⟨y,_,rfl⟩:=List.mem_map.1 hx;exact he y
theorem E2 (he:∀ x,(e x).pure=true):Ak (fD w e n D)=true:=Bn.2 fun x hx=>by
 obtain⟨i,_,rfl⟩:=List.mem_map.1 hx;exact Dc he _
theorem zls {l:List α} (h:i<n):(fT o n V D).set i (.ref (i+o) (V i+1) 0 l.length)=fT o n (setV V i (V i+1)) (setD D i l):=by
 rw[fT,Db h,fT];refine List.map_congr_left fun j _=>?_;by_cases hj:j=i
 · subst hj;simp[setV,setD]
 · simp[setV,setD,hj]
theorem zlt {l:List α} (hl:l≠[]) (h:i<n):(fF w e n V D).set i ⟨w,V i+1,false,l.map e⟩=fF w e n (setV V i (V i+1)) (setD D i l):=by
 rw[fF,Db h,fF];refine List.map_congr_left fun j _=>?_;by_cases hj:j=i
 · subst hj
   cases l with
   | nil=>exact absurd rfl hl
   | cons a l=>simp[setV,setD,gG]
 · simp[setV,setD,hj,gG]
theorem zq3 (l:List α):(!l.isEmpty||(l.map e).isEmpty)=true:=by cases l<;>rfl
theorem zlu {F R:List Grp} (hF:F.length=n) (h:i<n):(F++R).getD i default=F.getD i default:=by
 rw[List.getD_eq_getElem?_getD,List.getElem?_append_left (by omega),←List.getD_eq_getElem?_getD]
theorem zq4 {F R:List Grp} (hF:F.length=n) (k:Nat):(F++R).getD (n+k) default=R.getD k default:=by
 rw[List.getD_eq_getElem?_getD,List.getElem?_append_right (by omega),←List.getD_eq_getElem?_getD];congr 1;omega
theorem O3 {F R:List Grp} (hF:F.length=n):(F++R).getD n default=R.getD 0 default:=by
 have:=zq4 (R:=R) hF 0;simpa using this
theorem z2y {G:Grp}:∀ {F R:List Grp} {i:Nat},i<F.length→setQ (F++R) i G=some (F.set i G++R)
 | [],_,_,h=>by simp at h
 | a::F,R,0,h=>rfl
 | a::F,R,i+1,h=>by rw[List.cons_append,setQ,z2y (by simpa using h)];rfl
theorem z6k {G:Grp}:∀ (F R:List Grp) {n:Nat} (k:Nat),F.length=n→setQ (F++R) (n+k) G=(setQ R k G).map (F++·)
 | [],R,n,k,h=>by
   obtain rfl:n=0:=by simpa using h.symm
   rw[Nat.zero_add,List.nil_append];cases setQ R k G<;>rfl
 | a::F,R,n,k,h=>by
   obtain⟨m,rfl⟩:∃ m,n=m+1:=⟨n-1,by simp at h;omega⟩;rw[show m+1+k=m+k+1 by omega,List.cons_append,setQ,z6k F R k (by simpa using h)];cases setQ R k G<;>rfl
theorem Z0 {G:Grp} (F R:List Grp) {n:Nat} (h:F.length=n):setQ (F++R) n G=(setQ R 0 G).map (F++·):=by
 have:=z6k (G:=G) F R 0 h;simpa using this
theorem z6l {ks:List Nat} {F R:List Grp} {G:Grp} {p i:Nat} (hi:i<F.length) (h:p+i∈ks):Cd p ks (F++R) (F.set i G++R):=by
 rw[←List.set_append_left _ _ hi];exact K3 h
theorem zua:fF w e n (fun _=>1) (fun _=>[])=(List.replicate n w).map Iu:=by
 rw[List.map_replicate];refine List.ext_getElem (by simp[fF]) fun i h1 h2=>?_;simp only[fF,List.getElem_map,List.getElem_range,List.getElem_replicate];rfl
theorem zq5 {l:List Grp} {o n:Nat} (hw:0<w) (h:∀ i,i<n→l.getD (i+o) default=Iu w∧i+o<l.length):leSL l (List.replicate n .nilS) (fT o n (fun _=>1) fun _=>([]:List α)):=by
 have key:∀ idx:List Nat,(∀ i∈idx,i<n)→leSL l (List.replicate idx.length .nilS) (idx.map fun i=>AV.ref (i+o) 1 0 0):=fun idx=>by
   induction idx with
   | nil=>exact fun _=>rfl
   | cons i idx ih =>
     intro hi;obtain⟨h1,h2⟩:=h i (hi i (by simp));refine⟨?_,ih fun j hj=>hi j (by simp[hj])⟩;show 0=0∧0=0∧(l.getD (i+o) default).ver=1∧0<(l.getD (i+o) default).w∧(l.getD (i+o) default).xs=[]∧(l.getD (i+o) default).exact=true∧i+o<l.length;rw[h1];exact⟨rfl,rfl,rfl,hw,rfl,rfl,h2⟩
 have:=key (List.range n) fun i hi=>by simpa using hi
 rwa [List.length_range] at this
theorem zlv {m o:Nat} (h:n+o≤m):ltL m (fT o n V D):=by
 have key:∀ (l:List Nat),(∀ i∈l,i<n)→ltL m (l.map fun i=>AV.ref (i+o) (V i) 0 (D i).length):=fun l=>by
   induction l with
   | nil=>exact fun _=>trivial
   | cons i l ih =>
     intro h';exact⟨by have:=h' i (by simp);show i+o<_;omega,ih fun j hj=>h' j (by simp[hj])⟩
 exact key _ fun i hi=>by simpa using hi
theorem zlw {m:Nat} (he:∀ x,(e x).pure=true):∀ G∈fF w e n V D,ltL m G.xs:=fun G hG=>by
 obtain⟨i,_,rfl⟩:=List.mem_map.1 hG;exact Cc _ _ (Dc he _)
theorem Ul (l0:List Grp) {G':Grp}:∀ {l:List Grp} {t:Nat},t<l.length→zbi l0 (l.getD t default) G'→Hi l0 l (l.set t G')
 | [],_,h,_=>by simp at h
 | a::l,0,_,h=>⟨h,K4 l0 l⟩
 | a::l,t+1,hl,h=>⟨⟨rfl,rfl,id,Bf _ _⟩,Ul l0 (by simpa using hl) (by simpa using h)⟩
theorem zek {m b t v:Nat} {env:Env} {l:List Grp} {ex:Bool} (hw:0<w) (ht:t<l.length) (hg:l.getD t default=⟨1,v,ex,List.replicate n .nilS⟩) :
   Ent m b env (Abs.hl l) env (Abs.hl (l.set t ⟨1,v,ex,fT l.length n (fun _=>1) fun _=>([]:List α)⟩++fF w e n (fun _=>1) fun _=>[])):=by
 refine (z5j (List.replicate n w) (fun x hx=>by have:=(List.mem_replicate.1 hx).2;omega)).trans (zcn ?_ fun i _=>Lm _ _);rw[zua,←List.set_append_left _ _ ht];refine Ul _ (by simp;omega) ?_;rw[List.getD_eq_getElem?_getD,List.getElem?_append_left ht,←List.getD_eq_getElem?_getD,hg];refine⟨rfl,rfl,id,zq5 hw fun i hi=>⟨?_,by simp;omega⟩⟩;rw[List.getD_eq_getElem?_getD,List.getElem?_append_right (by omega),List.map_replicate];simp[hi]
def fKs (t o n:Nat):List Nat:=t::(List.range n).map (·+o)
theorem zel {t i:Nat} (h:i<n):i+o∈fKs t o n:=List.mem_cons.2 (.inr (List.mem_map.2 ⟨i,List.mem_range.2 h,rfl⟩))
theorem K7 {t g:Nat} (h:g≠t) (h2:g<o∨o+n≤g):g∉fKs t o n:=fun hh=>by
 rcases List.mem_cons.1 hh with hh|hh
 · exact h hh
 · obtain⟨i,hi,rfl⟩:=List.mem_map.1 hh
   have:=List.mem_range.1 hi;omega
theorem zem {H:Ac} {t v:Nat} (hw:0<w) (he:∀ x,(e x).pure=true) (h1:H.at_ t=⟨1,v,true,fT o n V D⟩) (h2:∀ i,i<n→H.at_ (i+o)=gG w e (V i) (D i)) :
   Cp 2 (H.only (fKs t o n)) (.ref t v 0 n)∧frzV 2 (H.only (fKs t o n)) (.ref t v 0 n)=.lst 1 (fD w e n D):=by
 have hat1:(H.only (fKs t o n)).at_ t=⟨1,v,true,fT o n V D⟩:=by
   show (if t∈fKs t o n then H.at_ t else (H.at_ t).dead)=_;rw[if_pos (by simp[fKs]),h1]
 have hat:∀ i,i<n→(H.only (fKs t o n)).at_ (i+o)=gG w e (V i) (D i):=fun i hi=>by
   show (if i+o∈fKs t o n then H.at_ (i+o) else (H.at_ (i+o)).dead)=_;rw[if_pos (zel hi),h2 i hi]
 have htl:(((fT o n V D).drop 0).take n)=fT o n V D:=by
   rw[List.drop_zero];exact List.take_of_length_le (by simp[fT])
 have hz:∀ x,frzV 0 (H.only (fKs t o n)) x=x:=fun x=>rfl;constructor
 · refine⟨by rw[hat1],by rw[hat1];exact Nat.one_pos,by rw[hat1];simp[fT],fun y hy=>?_⟩
   rw[hat1,htl] at hy;obtain⟨i,hi,rfl⟩:=List.mem_map.1 hy;have hi':i<n:=by simpa using hi
   refine⟨by rw[hat i hi'];rfl,by rw[hat i hi'];exact hw,by rw[hat i hi'];simp[gG],fun z hz=>?_⟩;rw[hat i hi'] at hz;obtain⟨u,_,rfl⟩:=List.mem_map.1 (List.mem_of_mem_drop (List.mem_of_mem_take hz));exact he u
 · show AV.lst _ _=_
   rw[hat1,htl,fT,List.map_map];congr 1;refine List.map_congr_left fun i hi=>?_;have hi':i<n:=by simpa using hi
   show AV.lst _ _=_;rw[hat i hi']
   have e1:(((gG w e (V i) (D i)).xs.drop 0).take (D i).length).map (frzV 0 (H.only (fKs t o n)))=(D i).map e:=by
     rw[List.drop_zero,List.take_of_length_le (by simp[gG])];refine (List.map_congr_left fun x hx=>?_).trans (List.map_id _);exact hz x
   rw[e1];rfl
theorem zen {F:List Grp} {t o:Nat}:∀ {i:Nat},(∀ j,j<F.length→i+j∈fKs t o n)→D1 i (fKs t o n) F=F.map Grp.dead:=by
 induction F with
 | nil=>intro i _;rfl
 | cons G F ih =>
   intro i h
   rw[D1,if_pos (by have:=h 0 (by simp);simpa using this),List.map_cons,ih fun j hj=>by
     have:=h (j+1) (by simpa using hj)
     rwa [show i+1+j=i+(j+1) by omega]]
theorem Z1 (ks:List Nat):∀ (i:Nat) (l r:List Grp),D1 i ks (l++r)=D1 i ks l++D1 (i+l.length) ks r
 | i,[],r=>by simp[D1]
 | i,G::l,r=>by
   rw[List.cons_append,D1,D1,Z1 ks (i+1) l r,List.cons_append,List.length_cons,show i+1+l.length=i+(l.length+1) by omega]
end
def z6m (m:Nat) (env:Env):List (Nat × AV)→Prop
 | []=>True
 | (t,y)::r=>env t=y∧ltV m y∧z6m m env r
theorem Um {m:Nat} {env:Env}:∀ {L:List (Nat × AV)},z6m m env L→∀ p∈L,env p.1=p.2
 | [],_,p,hp=>by cases hp
 | (t,y)::r,h,p,hp=>by
   rcases List.mem_cons.1 hp with rfl|hp
   · exact h.1
   · exact Um h.2.2 p hp
theorem Z2 {m:Nat} {env:Env}:∀ {L:List (Nat × AV)},z6m m env L→∀ i,ltV m (De L i)
 | [],_,i=>trivial
 | (t,y)::r,h,i=>by
   show ltV m (if i=t then y else De r i);split
   · exact h.2.1
   · exact Z2 h.2.2 i
theorem Fl {n b:Nat} {env:Env} {l l0 gar:List Grp} (L:List (Nat × AV)) (hl':l=l0++gar) (hb:b≤l0.length) (hcl:∀ G∈l0,ltL l0.length G.xs) (hL:z6m l0.length env L):Ent n b env (Abs.hl l) (De L) (Abs.hl l0):=by
 subst hl';exact (Oz L (Um hL)).trans (P8 hb hcl fun i _=>Z2 hL i)
theorem J2 {P:Program} {f:Nat} {xs:List AV} {l:List Grp} {K:AV→Ac→Prop} (h:Be P f xs (Abs.hl l) (fun y H'=>∃ y' H'',Ent 1 l.length (fun _=>y) H' (fun _=>y') H''∧K y' H'')):Be P f xs (Abs.hl l) K :=
 ⟨h.1,fun S cargs hS hx=>(h.2 S cargs hS hx).mono fun e w' hh=>by
   obtain⟨v,S1,y,H',he,hw,ev,hS1,hv,y',H'',h1,h2⟩:=hh;have hn:S.n=l.length:=hS.n;obtain⟨S2,q1,q2,q3,q4⟩:=h1 S1 (fun _=>v) (by rw[←hn];exact ev.n) hS1 (fun i _=>hv);have hb:=(ev.down (b:=l.length) (by omega)).trans q2
   exact⟨v,S2,y',_,he,q1.trans hw,⟨hb.base,hb.os,hb.tape,hb.output,hb.size,hb.kept,hb.im,hb.keep,hb.fresh,by rw[hn];exact hb.n,fun g hg=>hb.cur g (by omega),fun g hg=>hb.same g (by omega)⟩,q3,q4 0 Nat.one_pos,h2⟩⟩
theorem z6n {b:Nat} {y:AV} {l l0 gar:List Grp} (hl':l=l0++gar) (hb:b≤l0.length) (hcl:∀ G∈l0,ltL l0.length G.xs) (hy:ltV l0.length y):Ent 1 b (fun _=>y) (Abs.hl l) (fun _=>y) (Abs.hl l0):=by
 subst hl';exact P8 hb hcl fun i _=>hy
theorem zeo {P:Program} {f:Nat} {xs:List AV} {l l0 extra:List Grp} {K0 K:AV→Ac→Prop} (hl':l=l0++extra) (h:Be P f xs (Abs.hl l0) K0) (hlt:ltL l0.length xs) (hltG:∀ G∈l0,ltL l0.length G.xs)
   (hK:∀ y H',K0 y H'→∃ l',H'=Abs.hl l'∧l'.length=l0.length∧ltV l0.length y∧(∀ G∈l',ltL l0.length G.xs)∧@nx y (Abs.hl (l'++extra)) ⟨K⟩):@Vd P f xs (Abs.hl l) ⟨K⟩:=by
 subst hl';exact zdb h hlt hltG hK
end Go.Proofs.YtbcjoeadpjfcfaaGreat
set_option maxRecDepth 100000
namespace Go.Proofs.YtbcjoeadpjfcfaaGreat
open Abs
abbrev e1 (i:Nat):AV:=.int .i64 i
end Go.Proofs.YtbcjoeadpjfcfaaGreat
namespace Go.Proofs.YtbcjoeadpjfcfaaGreat.Abs
def Frz1 (d:Nat) (H:Ac) (ks:List Nat) (x y:AV):Prop:=y=x∨(Cp d (H.only ks) x∧y=frzV d (H.only ks) x)
def FrzL (d:Nat) (H:Ac) (ks:List Nat):List AV→List AV→Prop
 | [],ys=>ys=[]
 | x::xs,ys=>∃ y r,ys=y::r∧Frz1 d H ks x y∧FrzL d H ks xs r
def Frz2 (d:Nat) (H:Ac) (ks:List Nat) (x y:AV):Prop:=Frz1 d H ks x y∨∃ cs ds,x=.agg cs∧y=.agg ds∧FrzL d H ks cs ds
def FrzM (d:Nat) (H:Ac) (ks:List Nat):List AV→List AV→Prop
 | [],ys=>ys=[]
 | x::xs,ys=>∃ y r,ys=y::r∧Frz2 d H ks x y∧FrzM d H ks xs r
theorem FrzM.len {d:Nat} {H:Ac} {ks:List Nat}:∀ {xs ys:List AV},FrzM d H ks xs ys→ys.length=xs.length
 | [],_,h=>by rw[show _=[] from h]
 | x::xs,_,⟨y,r,rfl,_,h⟩=>by simp[FrzM.len h]
theorem Frz1.rel {d:Nat} {H:Ac} {ks:List Nat} {S:MS} (hS:SRel S H) {x y:AV} {v:Value} (h:Frz1 d H ks x y) (hv:VRel S x v):VRel (S.kill H ks) y v:=by
 rcases h with rfl|⟨h1,rfl⟩
 · exact VRel.mono (G4 ks hS) _ hv
 · exact Ow ks hS d h1 hv
theorem FrzL.rel {d:Nat} {H:Ac} {ks:List Nat} {S:MS} (hS:SRel S H):∀ {xs ys:List AV} {vs:List Value},FrzL d H ks xs ys→Ad S xs vs→Ad (S.kill H ks) ys vs
 | [],_,_,h,hv=>by rw[show _=[] from h];exact hv
 | x::xs,_,_,⟨y,r,rfl,h1,h2⟩,⟨u,q,rfl,k1,k2⟩=>⟨u,q,rfl,h1.rel hS k1,FrzL.rel hS h2 k2⟩
theorem Frz2.rel {d:Nat} {H:Ac} {ks:List Nat} {S:MS} (hS:SRel S H) {x y:AV} {v:Value} (h:Frz2 d H ks x y) (hv:VRel S x v):VRel (S.kill H ks) y v:=by
 rcases h with h|⟨cs,ds,rfl,rfl,h⟩
 · exact h.rel hS hv
 · obtain⟨vs,rfl,hvs⟩:=hv
   exact⟨vs,rfl,h.rel hS hvs⟩
theorem FrzM.rel {d:Nat} {H:Ac} {ks:List Nat} {S:MS} (hS:SRel S H):∀ {xs ys:List AV} {vs:List Value},FrzM d H ks xs ys→Ad S xs vs→Ad (S.kill H ks) ys vs
 | [],_,_,h,hv=>by rw[show _=[] from h];exact hv
 | x::xs,_,_,⟨y,r,rfl,h1,h2⟩,⟨u,q,rfl,k1,k2⟩=>⟨u,q,rfl,h1.rel hS k1,FrzM.rel hS h2 k2⟩
theorem FrzM.refl {d:Nat} {H:Ac} {ks:List Nat}:∀ (xs:List AV),FrzM d H ks xs xs
 | []=>rfl
 | x::xs=>⟨x,xs,rfl,.inl (.inl rfl),FrzM.refl xs⟩
theorem FrzM.set {d:Nat} {H:Ac} {ks:List Nat} {y:AV}:∀ {xs:List AV} {i:Nat},i<xs.length→Frz2 d H ks (xs.getD i .any) y→FrzM d H ks xs (xs.set i y)
 | [],_,h,_=>by simp at h
 | x::xs,0,_,h=>⟨y,xs,rfl,h,FrzM.refl xs⟩
 | x::xs,i+1,hi,h=>⟨x,_,rfl,.inl (.inl rfl),FrzM.set (by simpa using hi) (by simpa using h)⟩
theorem Rw {n b:Nat} {env:Env} {l l':List Grp} {g w v d:Nat} {ex:Bool} {xs ys:List AV} (ks:List Nat) (hw:0<w) (hlt:g<l.length) (hg:l.getD g default=⟨w,v,ex,xs⟩) (hk:g∉ks)
   (hxy:FrzM d (hl l) ks xs ys) (hl':(D1 0 ks l).set g ⟨w,v,ex,ys⟩=l'):Ent n b env (hl l) env (hl l'):=fun S val hb hS hv=>by
 subst hl';have hS1:=Ov ks hS;have he:=G4 ks hS;refine⟨S.kill (hl l) ks,rfl,he.down hb,?_,fun i hi=>VRel.mono he _ (hv i hi)⟩;have hlk:g<(D1 0 ks l).length:=by rw[Gt];exact hlt
 have hat0:∀ j,j<l.length→((hl l).kill ks).at_ j=(D1 0 ks l).getD j default:=fun j hj=>by
   rw[Ll 0 ks l j hj,Nat.zero_add];rfl
 have hn:(hl ((D1 0 ks l).set g ⟨w,v,ex,ys⟩)).n=((hl l).kill ks).n:=by simp[hl,Ac.kill,Gt]
 have hlen:((hl l).kill ks).n=l.length:=rfl
 have hat:∀ j,j<l.length→(hl ((D1 0 ks l).set g ⟨w,v,ex,ys⟩)).at_ j=if j=g then ⟨w,v,ex,ys⟩ else ((hl l).kill ks).at_ j:=fun j hj=>by
   rw[Cy];by_cases e:j=g
   · subst e;rw[if_pos rfl];exact Ko _ hlk
   · rw[if_neg e,hat0 j hj];exact F6 _ (Ne.symm e)
 have hgk:((hl l).kill ks).at_ g=⟨w,v,ex,xs⟩:=by
   show (if g∈ks then _ else _)=_;rw[if_neg hk,Cy,hg]
 have h1:GRel (S.kill (hl l) ks) ⟨w,v,ex,xs⟩ g:=by have:=hS1.grp g (by rw[hlen];exact hlt);rwa [hgk] at this
 have h0:GRel S ⟨w,v,ex,xs⟩ g:=by have:=hS.grp g hlt;rwa [Cy,hg] at this
 have hly:=hxy.len
 have hG:GRel (S.kill (hl l) ks) ⟨w,v,ex,ys⟩ g:=by
   refine⟨h1.ver,h1.wid,fun _ hc=>?_,fun hh=>by show ys.length≤_;rw[hly];exact h1.len hh,fun hh he=>by show ys.length=_;rw[hly];exact h1.full hh he,fun hh=>by simp only at hh;omega⟩;obtain⟨⟨cells,TT,vs,a1,a2,a3,a4⟩,_⟩:=h0.live hw hc;exact⟨⟨cells,TT,vs,a1,a2,hxy.rel hS a3,a4⟩,(h1.live hw hc).2⟩
 have hhas:∀ j,j<l.length→((hl ((D1 0 ks l).set g ⟨w,v,ex,ys⟩)).at_ j).has ((S.kill (hl l) ks).cap j)→(((hl l).kill ks).at_ j).has ((S.kill (hl l) ks).cap j):=fun j hj h=>by
   rw[hat j hj] at h;by_cases e:j=g
   · subst e;rw[if_pos rfl] at h;rw[hgk];exact h
   · rw[if_neg e] at h;exact h
 refine⟨hS1.n.trans hn.symm,fun j hj=>?_,fun j j' a c hne p q=>hS1.apart j j' (by rwa [hn] at a) (by rwa [hn] at c) hne (hhas j (by rwa [hn] at a) p) (hhas j' (by rwa [hn] at c) q),hS1.im⟩;rw[hn] at hj;rw[hat j hj];by_cases e:j=g
 · subst e;rw[if_pos rfl];exact hG
 · rw[if_neg e];exact hS1.grp j hj
end Go.Proofs.YtbcjoeadpjfcfaaGreat.Abs
set_option maxRecDepth 100000
namespace Go.Proofs.YtbcjoeadpjfcfaaGreat
open Abs
def ruI (l:List Rule) (s:Nat):List Nat:=(List.range l.length).filter fun i=>decide ((nth l i).from_=(s:Int))
theorem He {l:List Rule} {s i:Nat}:i∈ruI l s↔i<l.length∧(nth l i).from_=s:=by simp[ruI]
theorem z2z (l:List Rule) (s:Nat):(ruI l s).length≤l.length:=by
 have:=List.length_filter_le (fun i=>decide ((nth l i).from_=(s:Int))) (List.range l.length)
 rwa [List.length_range] at this
def z37 (l:List Rule) (a b:Int):Prop:=∃ i p,okP l a (i::p)∧endP l a (i::p)=b
theorem zjx {l:List Rule} {i:Nat} (h:i<l.length) (he:Cr (nth l i)=true):z37 l (nth l i).from_ (nth l i).to_ :=
 ⟨i,[],⟨Wt.2 ⟨h,he,rfl⟩,trivial⟩,rfl⟩
theorem z9o {l:List Rule} {a b c:Int} (h:z37 l a b) (k:z37 l b c):z37 l a c:=by
 obtain⟨i,p,h1,h2⟩:=h;obtain⟨j,q,k1,k2⟩:=k;refine⟨i,p++j::q,?_,?_⟩
 · rw[←List.cons_append,Wu,h2];exact⟨h1,k1⟩
 · rw[←List.cons_append,O2,h2];exact k2
theorem zep {l:List Rule} {n:Nat} (hl:∀ r∈l,(0≤r.from_∧r.from_<n)∧0≤r.to_∧r.to_<n) (hc:¬cycP l n) {a:Int} (ha:0≤a):¬z37 l a a:=by
 rintro⟨i,p,h1,h2⟩
 have key:∀ k:Nat,∃ q,okP l a q∧endP l a q=a∧k≤q.length:=fun k=>by
   induction k with
   | zero=>exact⟨[],trivial,rfl,Nat.le_refl _⟩
   | succ k ih =>
     obtain⟨q,q1,q2,q3⟩:=ih;refine⟨q++i::p,?_,?_,by simp;omega⟩
     · rw[Wu,q2];exact⟨q1,h1⟩
     · rw[O2,q2];exact h2
 obtain⟨q,q1,_,q3⟩:=key (n+2);have:=zei hl hc ha q1;omega
def z38 (l:List Rule) (ord:List Nat):Prop:=∀ i,i<ord.length→∀ r∈l,Cr r=true→r.from_=(nth ord i:Nat)→∃ t:Nat,r.to_=t∧t∈ord.take i
theorem Z3 {l:List Rule} {ord:List Nat} {s:Nat} (h:z38 l ord) (hs:∀ r∈l,Cr r=true→r.from_=(s:Int)→∃ t:Nat,r.to_=t∧t∈ord):z38 l (ord++[s]):=fun i hi r hr he hf=>by
 rw[List.length_append,List.length_singleton] at hi;rcases Nat.lt_or_ge i ord.length with h1|h1
 · have e:nth (ord++[s]) i=nth ord i:=by simp[nth,List.getD,List.getElem?_append_left h1]
   rw[e] at hf;obtain⟨t,t1,t2⟩:=h i h1 r hr he hf;exact⟨t,t1,by rw[List.take_append_of_le_length (by omega)];exact t2⟩
 · obtain rfl:i=ord.length:=by omega
   have e:nth (ord++[s]) ord.length=s:=by simp[nth,List.getD]
   rw[e] at hf;obtain⟨t,t1,t2⟩:=hs r hr he hf;exact⟨t,t1,by rw[List.take_append_of_le_length (Nat.le_refl _),List.take_length];exact t2⟩
structure Un (l:List Rule) (n:Nat) (dn:Nat→Bool) (ord:List Nat) (s:Nat):Prop where
 p1:∀ a∈ord,dn a=true
 p2:∀ a,a<n→dn a=true→a∈ord∨z37 l a s
 p3:z38 l ord
 p4:ord.Nodup∧∀ a∈ord,a<n
structure Ww (l:List Rule) (n:Nat) (dn:Nat→Bool) (ord:List Nat) (s:Nat) (dn':Nat→Bool) (new:List Nat):Prop where
 q2:s∈ord++new
 q3:∀ a,a<n→(dn' a=true↔dn a=true∨a∈new)
 q4:z38 l (ord++new)
 q5:(ord++new).Nodup∧∀ a∈ord++new,a<n
 q6:∀ a∈new,dn a=false
def Jh (dn:Nat→Bool):Nat→Nat
 | 0=>0
 | k+1=>Jh dn k+(if dn k=true then 0 else 1)
theorem Z4 {dn dn':Nat→Bool}:∀ {n:Nat},(∀ a,a<n→dn a=true→dn' a=true)→Jh dn' n≤Jh dn n
 | 0,_=>Nat.le_refl _
 | n+1,h=>by
   have ih:=Z4 (n:=n) fun a ha=>h a (by omega);simp only[Jh];cases h1:dn n with
   | true=>rw[h n (by omega) h1];simp;exact ih
   | false=>simp;split<;>omega
theorem Z5 {dn dn':Nat→Bool} {s:Nat} (h1:dn s=false) (h2:dn' s=true):∀ {n:Nat},s<n→(∀ a,a<n→dn a=true→dn' a=true)→Jh dn' n<Jh dn n
 | 0,hs,_=>by omega
 | n+1,hs,h=>by
   simp only[Jh];by_cases e:s=n
   · subst e
     have:=Z4 (n:=s) fun a ha=>h a (by omega);simp[h1,h2];omega
   · have ih:=Z5 h1 h2 (n:=n) (by omega) fun a ha=>h a (by omega)
     cases h3:dn n with
     | true=>rw[h n (by omega) h3];simp;exact ih
     | false=>simp;split<;>omega
structure Rx (l:List Rule) (n:Nat) (dn:Nat→Bool) (ord:List Nat) (s:Nat) (dk:Nat→Bool) (new:List Nat) (k:Nat):Prop where
 m3:∀ a,a<n→(dk a=true↔dn a=true∨a=s∨a∈new)
 m4:z38 l (ord++new)
 m5:(ord++new).Nodup∧∀ a∈ord++new,a<n
 m6:∀ a∈new,dn a=false∧a≠s
 m7:∀ j,j<k→Cr (nth l (nth (ruI l s) j))=true→∃ t:Nat,(nth l (nth (ruI l s) j)).to_=t∧t∈ord++new
theorem zq6 {l:List Rule} {n:Nat} {dn:Nat→Bool} {ord:List Nat} {s:Nat} {dk:Nat→Bool} {new:List Nat} {k i:Nat} (hm:Rx l n dn ord s dk new k) (hp:Un l n dn ord s) (hi:i∈ruI l s) (he:Cr (nth l i)=true) (j:Nat) (hj:(nth l i).to_=j):Un l n dk (ord++new) j:=by
 obtain⟨i1,i2⟩:=He.1 hi;have hone:z37 l s j:=by have:=zjx i1 he;rwa [i2,hj] at this
 refine⟨fun a ha=>?_,fun a ha h=>?_,hm.m4,hm.m5⟩
 · have han:=hm.m5.2 a ha
   rcases List.mem_append.1 ha with h|h
   · exact (hm.m3 a han).2 (.inl (hp.p1 a h))
   · exact (hm.m3 a han).2 (.inr (.inr h))
 · rcases (hm.m3 a ha).1 h with h|rfl|h
   · rcases hp.p2 a ha h with h|h
     · exact .inl (List.mem_append_left _ h)
     · exact .inr (z9o h hone)
   · exact .inr hone
   · exact .inl (List.mem_append_right _ h)
theorem zjy {l:List Rule} {n:Nat} {dn:Nat→Bool} {ord:List Nat} {s:Nat} {dk:Nat→Bool} {new:List Nat} {k i:Nat} (hm:Rx l n dn ord s dk new k) (hk:k<(ruI l s).length) (hi:i=nth (ruI l s) k) (he:Cr (nth l i)=false):Rx l n dn ord s dk new (k+1) :=
 ⟨hm.m3,hm.m4,hm.m5,hm.m6,fun j hj h=>by
   rcases Nat.lt_or_ge j k with h1|h1
   · exact hm.m7 j h1 h
   · obtain rfl:j=k:=by omega
     rw[←hi,he] at h;cases h⟩
theorem zjz {l:List Rule} {n:Nat} {dn:Nat→Bool} {ord:List Nat} {s:Nat} {dk:Nat→Bool} {new:List Nat} {k i:Nat} {dn2:Nat→Bool} {new2:List Nat} (hm:Rx l n dn ord s dk new k) (hp:Un l n dn ord s) (hk:k<(ruI l s).length) (hi:i=nth (ruI l s) k)
   (h:Cr (nth l i)=true∧∃ j:Nat,(nth l i).to_=j∧Ww l n dk (ord++new) j dn2 new2):Rx l n dn ord s dn2 (new++new2) (k+1):=by
 obtain⟨he,j,hj,hq⟩:=h;have hsn:s<n→dk s=true:=fun hs=>(hm.m3 s hs).2 (.inr (.inl rfl));refine⟨fun a ha=>?_,by rw[←List.append_assoc];exact hq.q4,by rw[←List.append_assoc];exact hq.q5,fun a ha=>?_,fun m hmk h=>?_⟩
 · rw[hq.q3 a ha,hm.m3 a ha,List.mem_append]
   constructor
   · rintro ((h|h|h)|h)
     · exact .inl h
     · exact .inr (.inl h)
     · exact .inr (.inr (.inl h))
     · exact .inr (.inr (.inr h))
   · rintro (h|h|h|h)
     · exact .inl (.inl h)
     · exact .inl (.inr (.inl h))
     · exact .inl (.inr (.inr h))
     · exact .inr h
 · rcases List.mem_append.1 ha with h|h
   · exact hm.m6 a h
   · have han:a<n:=hq.q5.2 a (List.mem_append_right _ h)
     have h6:=hq.q6 a h;refine⟨?_,fun e=>?_⟩
     · cases hd:dn a with
       | false=>rfl
       | true=>rw[(hm.m3 a han).2 (.inl hd)] at h6;cases h6
     · subst e;rw[hsn han] at h6;cases h6
 · rw[←List.append_assoc]
   rcases Nat.lt_or_ge m k with h1|h1
   · obtain⟨t,t1,t2⟩:=hm.m7 m h1 h
     exact⟨t,t1,List.mem_append_left _ t2⟩
   · obtain rfl:m=k:=by omega
     rw[←hi];exact⟨j,hj,hq.q2⟩
theorem zq7 {l:List Rule} {n:Nat} {dn:Nat→Bool} {ord:List Nat} {s:Nat} {dk:Nat→Bool} {new:List Nat} (hm:Rx l n dn ord s dk new (ruI l s).length) (hp:Un l n dn ord s) (hs:s<n) (hsno:s∉ord) (hd:dn s=false):Ww l n dn ord s dk (new++[s]):=by
 have hsnew:s∉new:=fun h=>(hm.m6 s h).2 rfl;refine⟨by simp,fun a ha=>?_,?_,⟨?_,fun a ha=>?_⟩,fun a ha=>?_⟩
 · rw[hm.m3 a ha,List.mem_append,List.mem_singleton]
   constructor
   · rintro (h|h|h)
     · exact .inl h
     · exact .inr (.inr h)
     · exact .inr (.inl h)
   · rintro (h|h|h)
     · exact .inl h
     · exact .inr (.inr h)
     · exact .inr (.inl h)
 · rw[←List.append_assoc]
   refine Z3 hm.m4 fun r hr he hf=>?_;obtain⟨i,hi,rfl⟩:=List.getElem_of_mem hr;have e:nth l i=l[i]:=Fe hi;have hmem:i∈ruI l s:=He.2 ⟨hi,by rw[e];exact hf⟩;obtain⟨j,hj,hje⟩:=List.getElem_of_mem hmem;have e2:nth (ruI l s) j=i:=by rw[Fe hj];exact hje
   have:=hm.m7 j hj (by rw[e2,e];exact he);rw[e2,e] at this;exact this
 · rw[←List.append_assoc]
   refine List.nodup_append.2 ⟨hm.m5.1,List.nodup_cons.2 ⟨by simp,List.nodup_nil⟩,fun a ha b hb=>?_⟩;rw[List.mem_singleton.1 hb];rintro rfl;rcases List.mem_append.1 ha with h|h
   · exact hsno h
   · exact hsnew h
 · rw[←List.append_assoc] at ha
   rcases List.mem_append.1 ha with h|h
   · exact hm.m5.2 a h
   · rw[List.mem_singleton.1 h];exact hs
 · rcases List.mem_append.1 ha with h|h
   · exact (hm.m6 a h).1
   · rw[List.mem_singleton.1 h];exact hd
def rnB (d:Desc) (x:List Int) (RU FI od li:AV):AV:=.agg [.int .i64 d.in_,.int .i64 d.out,.int .i64 d.states,.int .i64 d.start,Cz d.rules,Cw d.finals,Ag x,RU,FI,od,li]
def ruV (l:List Rule) (n:Nat):AV:=.lst 1 (fD 1 e1 n (ruI l))
def srtL (d:Desc) (x:List Int) (n:Nat) (FI:AV) (v:Nat) (dn:Nat→Bool) (ord:List Nat):List Grp :=
 [⟨11,1,true,[rnB d x (ruV d.rules n) FI (.ref 2 v 0 ord.length) .nilS]⟩,⟨1,1,true,spB n dn⟩,gG 1 e1 v ord]
theorem Ef (d:Desc) (x:List Int) (n:Nat) (FI:AV) (hFI:FI.pure=true) (v:Nat) (dn:Nat→Bool) (ord:List Nat):∀ G∈srtL d x n FI v dn ord,ltL 3 G.xs:=fun G hG=>by
 have h1:ltV 3 (Cz d.rules):=Bv _ _ (Az _);have h2:ltV 3 (Cw d.finals):=Bv _ _ (As _);have h3:ltV 3 (Ag x):=Bv _ _ (Ay .i32 _);have h4:ltV 3 (ruV d.rules n):=Bv _ _ (E2 fun _=>rfl);have h5:ltV 3 FI:=Bv _ _ hFI;simp only[srtL,List.mem_cons,List.not_mem_nil,or_false] at hG;rcases hG with rfl|rfl|rfl
 · exact⟨⟨trivial,trivial,trivial,trivial,h1,h2,h3,h4,h5,(show 2<3 by omega),trivial,trivial⟩,trivial⟩
 · exact Cc _ _ (Bn.2 fun y hy=>by obtain⟨i,_,rfl⟩:=List.mem_map.1 hy;rfl)
 · exact Cc _ _ (Dc (fun _=>rfl) _)
theorem zk0 (d:Desc) (x:List Int) {n:Nat} (hn:n≤1024) (hrl:d.rules.length≤4096) (hl:∀ r∈d.rules,(0≤r.from_∧r.from_<n)∧0≤r.to_∧r.to_<n) (hc:¬cycP d.rules n) (FI:AV) (hFI:FI.pure=true) :
   ∀ (u:Nat) (s:Nat) (v:Nat) (dn:Nat→Bool) (ord:List Nat),Jh dn n≤u→s<n→Un d.rules n dn ord s →
   Be Tryz.prog 101 [.ptr 0 1 0 0,.int .i64 s,.ref 1 1 0 n] (Abs.hl (srtL d x n FI v dn ord)) fun y H'=>∃ v' dn' new,y=.tup [] ∧
     H'=Abs.hl (srtL d x n FI v' dn' (ord++new))∧Ww d.rules n dn ord s dn' new:=by
 intro u
 induction u using Nat.strongRecOn with
 | ind u ih =>
 intro s v dn ord hu hs hp;have hs0:(0:Int)≤s:=by omega
 have pR:=Az d.rules;have pFi:=As d.finals;have pX:Ak (x.map (AV.int .i32))=true:=Ay .i32 _;have pRU:Ak (fD 1 e1 n (ruI d.rules))=true:=E2 fun _=>rfl;have lB:∀ on,(spB n on).length=n:=fun on=>by simp[spB]
 have aB:(spB n dn).getD s .any=.bool (dn s):=Ca hs;have pB:∀ on,Ak (spB n on)=true:=fun on=>Bn.2 fun y hy=>by obtain⟨i,_,rfl⟩:=List.mem_map.1 hy;rfl
 refine J2 (Pg M2 (W_T ?_));unfold Hq;cases hd:dn s with
 | true =>
   rw[hd] at aB;have hso:s∈ord:=(hp.p2 s hs hd).resolve_right (zep hl hc hs0);rw[srtL];unfold rnB;(with_reducible repeat' (first|(simp(disch:=omega)only[push_cast,↓zz,seval,pR,pFi,pX,hFI,lB,aB,pB])|refine And.intro ?_ ?_|(first|refine Ab ?_ ?_|refine Aa ?_ ?_)<;>intro hc<;>(try simp only[push_cast] at hc)|omega|intro _))
   all_goals exact⟨_,_,Ent.refl,v,dn,[],rfl,by rw[List.append_nil];rfl,⟨by simpa using hso,fun a _=>by simp,by rw[List.append_nil];exact hp.p3,by rw[List.append_nil];exact hp.p4,fun a ha=>by cases ha⟩⟩
 | false =>
   rw[hd] at aB;have hset:=zpx (on:=dn) hs;have lRU:(fD 1 e1 n (ruI d.rules)).length=n:=z6i;have aR:(fD 1 e1 n (ruI d.rules)).getD s .any=.lst 1 ((ruI d.rules s).map e1):=zjw hs;have aR2:(fD 1 e1 n (ruI d.rules))[s]? = some (.lst 1 ((ruI d.rules s).map e1)):=z6j hs;have pI:Ak ((ruI d.rules s).map e1)=true:=Dc (fun _=>rfl) _;have hIl:=z2z d.rules s;have hsno:s∉ord:=fun h=>by have:=hp.p1 s h;rw[hd] at this;cases this
   have hlt:∀ dn',(∀ a,a<n→dn a=true→dn' a=true)→dn' s=true→Jh dn' n<u:=fun dn' h1 h2=>Nat.lt_of_lt_of_le (Z5 hd h2 hs h1) hu;rw[srtL];unfold rnB ruV;generalize hRe:fD 1 e1 n (ruI d.rules)=RU at *;(with_reducible repeat' (first|(simp(disch:=omega)only[push_cast,↓zz,seval,pR,pFi,pX,hFI,lB,aB,pB,hset,lRU,aR,aR2,pI])|refine And.intro ?_ ?_|(first|refine Ab ?_ ?_|refine Aa ?_ ?_)<;>intro hc<;>(try simp only[push_cast] at hc)|omega|intro _))
   refine Ax (Kv (fun (q:Nat × Nat × (Nat→Bool) × List Nat)=>q.1≤(ruI d.rules s).length∧Hold (Rx d.rules n dn ord s q.2.2.1 q.2.2.2 q.1)) (fun q=>(ruI d.rules s).length-q.1)
     (fun q=>De [(0,.ptr 0 1 0 0),(1,.int .i64 s),(2,.ref 1 1 0 n),(22,.lst 1 ((ruI d.rules s).map e1)),(23,.int .i64 (ruI d.rules s).length),(24,.int .i64 q.1)])
     (fun q=>Abs.hl (srtL d x n FI q.2.1 q.2.2.1 (ord++q.2.2.2))) (0,v,setB dn s,[]) ⟨Nat.zero_le _,⟨?_⟩⟩ ?_ ?_)
   · refine⟨fun a _=>?_,by rw[List.append_nil];exact hp.p3,by rw[List.append_nil];exact hp.p4,fun a ha=>(by cases ha),fun j hj=>absurd hj (Nat.not_lt_zero _)⟩
     simp only[setB];by_cases e:a=s<;>simp[e]
   · refine Fl (gar:=[]) _ ?_ (by simp[srtL,hl_n]) (Ef d x n FI hFI _ _ _) ?_
     · rw[List.append_nil,List.append_nil,srtL]
       unfold rnB ruV;rw[hRe]
     · have hI:ltV 3 (.lst 1 ((ruI d.rules s).map e1)):=Bv _ _ pI
       exact⟨rfl,(show 0<3 by omega),rfl,trivial,rfl,(show 1<3 by omega),rfl,hI,rfl,trivial,rfl,trivial,trivial⟩
   rintro⟨k,v1,dk,new⟩ ⟨hk,⟨hm⟩⟩;simp only at hk hm ⊢;have hI:ltV 3 (.lst 1 ((ruI d.rules s).map e1)):=Bv _ _ pI;rcases Nat.lt_or_ge k (ruI d.rules s).length with hkl|hkl
   · obtain⟨i,hi⟩:∃ i,i=nth (ruI d.rules s) k:=⟨_,rfl⟩
     have him:i∈ruI d.rules s:=by rw[hi];exact Au hkl
     obtain⟨i1,i2⟩:=He.1 him;have aI:((ruI d.rules s).map e1).getD k .any=.int .i64 i:=by rw[hi];simp[nth,List.getD,hkl]
     have hto:=(hl _ (Au i1)).2;have hmid:=fun dn2 new2 h=>zjz (dn:=dn) (ord:=ord) (s:=s) (dk:=dk) (new:=new) (dn2:=dn2) (new2:=new2) hm hp hkl hi h;have hskip:=zjy (dn:=dn) (ord:=ord) (s:=s) (dk:=dk) (new:=new) hm hkl hi;have hpre:=fun h=>zq6 (dn:=dn) (ord:=ord) (s:=s) (dk:=dk) (new:=new) (i:=i) hm hp him h;generalize hre:nth d.rules i=r at *;have hgr:=Ah r.guards;have hot:=Bl r.out;obtain⟨j,hj⟩:∃ j:Nat,r.to_=j:=⟨r.to_.toNat,by omega⟩;have hjn:j<n:=by omega
     rw[srtL];unfold rnB ruV;rw[hRe];refine W_T ?_;cases he:Cr r with
     | true =>
       have he0:(r.guards.length:Int)=0:=by simpa [Cr] using he
       have hIH:=ih (Jh dk n) (hlt dk (fun a ha h=>(hm.m3 a ha).2 (.inl h)) ((hm.m3 s hs).2 (.inr (.inl rfl)))) j v1 dk (ord++new) (Nat.le_refl _) hjn (hpre he j hj);(with_reducible repeat' (first|(simp(disch:=omega)only[push_cast,↓zz,seval,pR,pFi,pX,hFI,lB,pB,pI,aI,hre,hgr,hot,hj,i1,he0])|refine And.intro ?_ ?_|(first|refine Ab ?_ ?_|refine Aa ?_ ?_)<;>intro hc<;>(try simp only[push_cast] at hc)|omega|intro _));refine zeo (l0:=srtL d x n FI v1 dk (ord++new)) (extra:=[_]) (by rw[srtL];unfold rnB ruV;rw[hRe,List.length_append];rfl) hIH ?_ (Ef d x n FI hFI _ _ _) ?_
       · exact⟨(show 0<3 by omega),trivial,(show 1<3 by omega),trivial⟩
       rintro y H' ⟨v2,dn2,new2,rfl,rfl,hpost⟩;refine⟨_,rfl,rfl,trivial,Ef d x n FI hFI _ _ _,?_⟩;have hM:=hmid dn2 new2 ⟨he,j,hj,hpost⟩;rw[List.append_assoc];(with_reducible repeat' (first|(simp(disch:=omega)only[push_cast,↓zz,seval])|refine And.intro ?_ ?_|(first|refine Ab ?_ ?_|refine Aa ?_ ?_)<;>intro hc<;>(try simp only[push_cast] at hc)|omega|intro _));refine⟨(k+1,v2,dn2,new++new2),Fl (gar:=[_]) _ rfl (by simp[srtL,hl_n]) (Ef d x n FI hFI _ _ _) ?_,⟨by omega,⟨hM⟩⟩,by simp only;omega⟩;exact⟨rfl,(show 0<3 by omega),rfl,trivial,rfl,(show 1<3 by omega),rfl,hI,rfl,trivial,rfl,trivial,trivial⟩
     | false =>
       have he0:¬(r.guards.length:Int)=0:=by simpa [Cr] using he
       (with_reducible repeat' (first|(simp(disch:=omega)only[push_cast,↓zz,seval,pR,pFi,pX,hFI,lB,pB,pI,aI,hre,hgr,hot,hj,i1,he0])|refine And.intro ?_ ?_|(first|refine Ab ?_ ?_|refine Aa ?_ ?_)<;>intro hc<;>(try simp only[push_cast] at hc)|omega|intro _));refine⟨(k+1,v1,dk,new),Fl (gar:=[⟨5,1,true,[.agg [.int .i64 r.from_,.int .i64 j,Ao r.guards,.int .i64 r.eat,Ea r.out]]⟩]) _ ?_ (by simp[srtL,hl_n]) (Ef d x n FI hFI _ _ _) ?_,⟨by omega,⟨hskip he⟩⟩,by simp only;omega⟩
       · simp only
         rw[srtL];unfold rnB ruV;rw[hRe,List.length_append];rfl
       · exact⟨rfl,(show 0<3 by omega),rfl,trivial,rfl,(show 1<3 by omega),rfl,hI,rfl,trivial,rfl,trivial,trivial⟩
   · obtain rfl:k=(ruI d.rules s).length:=by omega
     have hend:=zq7 hm hp hs hsno hd
     have hol:(ord++new).length≤n:=by
       have:=Ip (l:=ord++new) (m:=List.range n) hm.m5.1 fun a ha=>List.mem_range.2 (hm.m5.2 a ha);simpa using this
     have hEx:=zq3 (e:=e1) (ord++new);have pO:Ak ((ord++new).map e1)=true:=Dc (fun _=>rfl) _;have eO:(ord++(new++[s])).map e1=(ord++new).map e1++[.int .i64 (s:Int)]:=by simp
     have eL:(ord++(new++[s])).length=(ord++new).length+1:=by simp;omega
     have hfin:∀ v1,srtL d x n FI (v1+1) dk (ord++(new++[s]))=[⟨11,1,true,[rnB d x (ruV d.rules n) FI (.ref 2 (v1+1) 0 ((ord++new).length+1)) .nilS]⟩,⟨1,1,true,spB n dk⟩,⟨1,v1+1,false,(ord++new).map e1++[.int .i64 (s:Int)]⟩]:=fun v1=>by
       have he:(ord++(new++[s])).isEmpty=false:=by simp
       rw[srtL,gG,eO,eL,he]
     rw[srtL,gG];generalize ord++new=on at *;unfold rnB ruV;rw[hRe];refine W_T ?_;(with_reducible repeat' (first|(simp(disch:=omega)only[push_cast,↓zz,seval,pR,pFi,pX,hFI,lB,pB,pI,hEx,pO])|refine And.intro ?_ ?_|(first|refine Ab ?_ ?_|refine Aa ?_ ?_)<;>intro hc<;>(try simp only[push_cast] at hc)|omega|intro _));refine⟨_,_,z6n (l0:=srtL d x n FI (v1+1) dk (ord++(new++[s]))) (gar:=[⟨1,1,true,[.int .i64 (s:Int)]⟩]) ?_ (by simp[srtL,hl_n]) (Ef d x n FI hFI _ _ _) trivial,v1+1,dk,new++[s],rfl,rfl,hend⟩;rw[hfin];unfold rnB ruV;rw[hRe];rfl
def lvB (n m:Nat) (L:Nat→Nat→Bool):List AV:=(List.range m).map fun p=>AV.bool (L (p / n) (p % n))
def setP {β:Type} (L:Nat→Nat→β) (a t:Nat) (v:β):Nat→Nat→β:=fun b u=>if b=a∧u=t then v else L b u
section
variable {n m a t:Nat} {L:Nat→Nat→Bool}
theorem Mi (h:t<n):(a * n+t) / n=a:=by
 rw[Nat.mul_comm,Nat.mul_add_div (by omega),Nat.div_eq_of_lt h,Nat.add_zero]
theorem Mj (h:t<n):(a * n+t) % n=t:=by
 rw[Nat.mul_comm,Nat.mul_add_mod,Nat.mod_eq_of_lt h]
theorem z6o {p:Nat} (h:t<n) (hp:p / n=a∧p % n=t):p=a * n+t:=by
 have:=Nat.div_add_mod p n;rw[hp.1,hp.2,Nat.mul_comm] at this;exact this.symm
theorem Gi {k:Nat} (h:t<n) (ha:a≤k):a * n+t<(k+1) * n:=by
 have h1:a * n≤k * n:=Nat.mul_le_mul_right n ha;have h2:(k+1) * n=k * n+n:=Nat.succ_mul k n;omega
theorem K8:(lvB n m L).length=m:=by simp[lvB]
theorem O4:Ak (lvB n m L)=true:=Bn.2 fun x hx=>by
 obtain⟨i,_,rfl⟩:=List.mem_map.1 hx;rfl
theorem zlx {z:AV} (ht:t<n) (hp:a * n+t<m):(lvB n m L).getD (a * n+t) z=.bool (L a t):=by
 rw[lvB,Ca hp,Mi ht,Mj ht]
theorem zeq {v:Bool} (ht:t<n) (hp:a * n+t<m):(lvB n m L).set (a * n+t) (.bool v)=lvB n m (setP L a t v):=by
 rw[lvB,Db hp,lvB];refine List.map_congr_left fun p _=>?_;simp only[setP];by_cases e:p=a * n+t
 · subst e;rw[if_pos rfl,Mi ht,Mj ht,if_pos ⟨rfl,rfl⟩]
 · rw[if_neg e,if_neg fun h=>e (z6o ht h)]
theorem zk1:List.replicate m (AV.bool false)=lvB n m fun _ _=>false:=by
 refine List.ext_getElem (by simp[lvB]) fun i h1 h2=>?_;simp[lvB]
end
structure Liv (d:Desc) (x:List Int) (n:Nat) (ord:List Nat) (at_ j:Nat) (L:Nat→Nat→Bool):Prop where
 start:L 0 d.start.toNat=true
 lead:∀ a t,L a t=true→t<n∧a≤x.length∧∃ u,z2x d x 0 d.start u a t
 clos:∀ a t,(a<at_∨(a=at_∧t∈ord.drop (n-j)))→L a t=true→∀ r∈d.rules,r.from_=(t:Nat)→goB x r.guards a=true→L (a+r.eat.toNat) r.to_.toNat=true
structure LivS (d:Desc) (x:List Int) (n:Nat) (ord:List Nat) (at_ j s k:Nat) (L:Nat→Nat→Bool):Prop where
 liv:Liv d x n ord at_ j L
 on:L at_ s=true
 some_:∀ i,i<k→goB x (nth d.rules (nth (ruI d.rules s) i)).guards at_=true→L (at_+(nth d.rules (nth (ruI d.rules s) i)).eat.toNat) (nth d.rules (nth (ruI d.rules s) i)).to_.toNat=true
structure LivE (d:Desc) (x:List Int) (n:Nat) (L:Nat→Nat→Bool):Prop where
 start:L 0 d.start.toNat=true
 lead:∀ a t,L a t=true→t<n∧a≤x.length∧∃ u,z2x d x 0 d.start u a t
 clos:∀ a t,L a t=true→∀ r∈d.rules,r.from_=(t:Nat)→goB x r.guards a=true→L (a+r.eat.toNat) r.to_.toNat=true
section
variable {d:Desc} {x:List Int} {n:Nat} {ord:List Nat} {at_ j s k:Nat} {L:Nat→Nat→Bool}
theorem Dk (ht:Topo d.rules n ord):ord.length=n:=by
 have h1:=Ip (l:=ord) (m:=List.range n) ht.nodup fun a ha=>List.mem_range.2 ((ht.all a).1 ha);have h2:=Ip (l:=List.range n) (m:=ord) List.nodup_range fun a ha=>(ht.all a).2 (List.mem_range.1 ha);simp at h1 h2;omega
theorem zk2 (hs:0≤d.start∧d.start<n) (hol:ord.length=n):Liv d x n ord 0 0 (setP (fun _ _=>false) 0 d.start.toNat true):=by
 refine⟨by simp[setP],fun a t h=>?_,fun a t h hL=>?_⟩
 · simp only[setP] at h
   split at h
   · rename_i e
     obtain⟨rfl,rfl⟩:=e;refine⟨by omega,Nat.zero_le _,[],?_⟩;rw[Int.toNat_of_nonneg hs.1];exact .here
   · cases h
 · rcases h with h|⟨_,h⟩
   · omega
   · rw[List.drop_of_length_le (by omega)] at h;cases h
theorem zer (h:Liv d x n ord at_ j L) (ho:L at_ s=true):LivS d x n ord at_ j s 0 L:=⟨h,ho,fun i hi=>absurd hi (Nat.not_lt_zero _)⟩
theorem zq8 (h:LivS d x n ord at_ j s k L) (hno:goB x (nth d.rules (nth (ruI d.rules s) k)).guards at_=false):LivS d x n ord at_ j s (k+1) L:=by
 refine⟨h.liv,h.on,fun i hi hg=>?_⟩;rcases Nat.lt_or_ge i k with h1|h1
 · exact h.some_ i h1 hg
 · obtain rfl:i=k:=by omega
   rw[hno] at hg;cases hg
theorem zk3 (h:LivS d x n ord at_ j s k L) (hg:Goes d n) (ht:Topo d.rules n ord) (hj:j<n) (hs:s=nth ord (n-1-j)) (hk:k<(ruI d.rules s).length) (hgo:goB x (nth d.rules (nth (ruI d.rules s) k)).guards at_=true) :
   LivS d x n ord at_ j s (k+1) (setP L (at_+(nth d.rules (nth (ruI d.rules s) k)).eat.toNat) (nth d.rules (nth (ruI d.rules s) k)).to_.toNat true):=by
 obtain⟨i1,i2⟩:=He.1 (Au hk);have hr:=Au i1;generalize hre:nth d.rules (nth (ruI d.rules s) k)=r at *;obtain⟨hf,htt,he1,he2⟩:=hg.r r hr;have hle:=Jg hgo
 have mono:∀ a t,L a t=true→setP L (at_+r.eat.toNat) r.to_.toNat true a t=true:=fun a t hl=>by
   simp only[setP];split
   · rfl
   · exact hl
 have hol:=Dk ht;refine⟨⟨mono _ _ h.liv.start,fun a t hl=>?_,fun a t hp hl q hq hqf hqg=>mono _ _ ?_⟩,mono _ _ h.on,fun i hi hgi=>?_⟩
 · simp only[setP] at hl
   split at hl
   · rename_i e
     obtain⟨rfl,rfl⟩:=e;obtain⟨_,_,u,hu⟩:=h.liv.lead _ _ h.on;refine⟨by omega,by omega,u++D3 x r.out r.guards at_,?_⟩;have:=hu.step r hr i2 hgo
     rwa [Int.toNat_of_nonneg htt.1]
   · exact h.liv.lead a t hl
 · refine h.liv.clos a t hp ?_ q hq hqf hqg
   simp only[setP] at hl;split at hl
   · rename_i e
     exfalso;obtain⟨rfl,rfl⟩:=e;rcases hp with hp|⟨hp,hm⟩
     · omega
     · have e0:r.eat.toNat=0:=by omega
       have heps:Cr r=true:=by
         cases hh:Cr r with
         | true=>rfl
         | false=>have:=he2 hh;omega
       obtain⟨t,t1,t2⟩:=ht.eps (n-1-j) (by omega) r hr heps (by rw[←hs];exact i2);have e3:r.to_.toNat=t:=by omega
       rw[e3] at hm;have hm2:t∈ord.drop (n-1-j):=List.mem_of_mem_drop (i:=1) (by rw[List.drop_drop,show n-1-j+1=n-j by omega];exact hm);have hnd:=ht.nodup;rw[←List.take_append_drop (n-1-j) ord,List.nodup_append] at hnd;exact hnd.2.2 t t2 t hm2 rfl
   · exact hl
 · rcases Nat.lt_or_ge i k with h1|h1
   · exact mono _ _ (h.some_ i h1 hgi)
   · obtain rfl:i=k:=by omega
     rw[hre];simp[setP]
theorem Od {l:List Nat} {i t:Nat} (hi:i<l.length) (h:t∈l.drop i):t=nth l i∨t∈l.drop (i+1):=by
 rw[drop_at hi,List.mem_cons] at h;exact h
theorem zk4 (h:LivS d x n ord at_ j s (ruI d.rules s).length L) (ht:Topo d.rules n ord) (hj:j<n) (hs:s=nth ord (n-1-j)):Liv d x n ord at_ (j+1) L:=by
 have hol:=Dk ht;refine⟨h.liv.start,h.liv.lead,fun a t hp hl q hq hqf hqg=>?_⟩;rcases hp with hp|⟨rfl,hm⟩
 · exact h.liv.clos a t (.inl hp) hl q hq hqf hqg
 · rw[show n-(j+1)=n-1-j by omega] at hm
   rcases Od (by omega) hm with h1|h1
   · rw[←hs] at h1
     subst h1;obtain⟨i,hi,rfl⟩:=List.getElem_of_mem hq;have e:nth d.rules i=d.rules[i]:=Fe hi;obtain⟨p,hp,hpe⟩:=List.getElem_of_mem (He.2 ⟨hi,by rw[e];exact hqf⟩);have e2:nth (ruI d.rules t) p=i:=by rw[Fe hp];exact hpe
     have:=h.some_ p hp (by rw[e2,e];exact hqg)
     rwa [e2,e] at this
   · exact h.liv.clos a t (.inr ⟨rfl,by rwa [show n-j=n-1-j+1 by omega]⟩) hl q hq hqf hqg
theorem zk5 (h:Liv d x n ord at_ j L) (ht:Topo d.rules n ord) (hj:j<n) (hs:s=nth ord (n-1-j)) (ho:L at_ s=false):Liv d x n ord at_ (j+1) L:=by
 have hol:=Dk ht;refine⟨h.start,h.lead,fun a t hp hl q hq hqf hqg=>?_⟩;rcases hp with hp|⟨rfl,hm⟩
 · exact h.clos a t (.inl hp) hl q hq hqf hqg
 · rw[show n-(j+1)=n-1-j by omega] at hm
   rcases Od (by omega) hm with h1|h1
   · rw[←hs] at h1
     subst h1;rw[ho] at hl;cases hl
   · exact h.clos a t (.inr ⟨rfl,by rwa [show n-j=n-1-j+1 by omega]⟩) hl q hq hqf hqg
theorem zq9 (h:Liv d x n ord at_ n L) (ht:Topo d.rules n ord):Liv d x n ord (at_+1) 0 L:=by
 have hol:=Dk ht;refine⟨h.start,h.lead,fun a t hp hl q hq hqf hqg=>?_⟩;rcases hp with hp|⟨_,hm⟩
 · rcases Nat.lt_or_ge a at_ with h1|h1
   · exact h.clos a t (.inl h1) hl q hq hqf hqg
   · refine h.clos a t (.inr ⟨by omega,?_⟩) hl q hq hqf hqg
     rw[Nat.sub_self,List.drop_zero];exact (ht.all t).2 (h.lead a t hl).1
 · rw[Nat.sub_zero,List.drop_of_length_le (by omega)] at hm;cases hm
theorem zqa (h:Liv d x n ord (x.length+1) 0 L):LivE d x n L :=
 ⟨h.start,h.lead,fun a t hl q hq hqf hqg=>h.clos a t (.inl (by have:=(h.lead a t hl).2.1;omega)) hl q hq hqf hqg⟩
structure Uo (l:List Rule) (n k:Nat) (dn:Nat→Bool) (ord:List Nat):Prop where
 a1:∀ a,a<n→(dn a=true↔a∈ord)
 a2:z38 l ord
 a3:ord.Nodup∧∀ a∈ord,a<n
 a4:∀ a,a<k→a∈ord
theorem z3a (l:List Rule) (n:Nat):Uo l n 0 (fun _=>false) [] :=
 ⟨fun a _=>by simp,fun i hi=>absurd hi (Nat.not_lt_zero _),⟨List.nodup_nil,fun a h=>by cases h⟩,fun a h=>absurd h (Nat.not_lt_zero _)⟩
theorem z9p {l:List Rule} {dn:Nat→Bool} (h:Uo l n k dn ord):Un l n dn ord k :=
 ⟨fun a ha=>(h.a1 a (h.a3.2 a ha)).2 ha,fun a ha hd=>.inl ((h.a1 a ha).1 hd),h.a2,h.a3⟩
theorem z3b {l:List Rule} {dn dn':Nat→Bool} {new:List Nat} (h:Uo l n k dn ord) (hp:Ww l n dn ord k dn' new):Uo l n (k+1) dn' (ord++new):=by
 refine⟨fun a ha=>?_,hp.q4,hp.q5,fun a ha=>?_⟩
 · rw[hp.q3 a ha,h.a1 a ha,List.mem_append]
 · rcases Nat.lt_or_ge a k with h1|h1
   · exact List.mem_append_left _ (h.a4 a h1)
   · obtain rfl:a=k:=by omega
     exact hp.q2
theorem z3c {l:List Rule} {dn:Nat→Bool} (h:Uo l n n dn ord):Topo l n ord :=
 ⟨h.a3.1,fun s=>⟨h.a3.2 s,h.a4 s⟩,h.a2⟩
end
section
variable {d:Desc} {x:List Int} {n:Nat} {ord:List Nat} {L:Nat→Nat→Bool}
def Past (ord:List Nat) (at_ j a t:Nat):Prop:=at_<a∨(a=at_∧t∈ord.take j)
theorem zk6 {at_ a t:Nat} (hol:ord.length=n) (ht:t∈ord) (h:Past ord at_ 0 a t):Past ord (at_+1) n a t:=by
 rcases h with h|⟨_,h⟩
 · rcases Nat.lt_or_ge (at_+1) a with h1|h1
   · exact .inl h1
   · exact .inr ⟨by omega,by rw[List.take_of_length_le (by omega)];exact ht⟩
 · simp at h
theorem Z6 {at_ j a t:Nat} (hj:j<ord.length) (h:Past ord at_ (j+1) a t):Past ord at_ j a t∨(a=at_∧t=nth ord j):=by
 rcases h with h|⟨h1,h⟩
 · exact .inl (.inl h)
 · rw[take_at hj,List.mem_append,List.mem_singleton] at h
   rcases h with h|h
   · exact .inl (.inr ⟨h1,h⟩)
   · exact .inr ⟨h1,h⟩
theorem z3d (hg:Goes d n) (ht:Topo d.rules n ord) {at_ j:Nat} (hj:j<n) {r:Rule} (hr:r∈d.rules) (hf:r.from_=(nth ord j:Nat)):Past ord at_ j (at_+r.eat.toNat) r.to_.toNat:=by
 obtain⟨_,htt,he1,he2⟩:=hg.r r hr;cases he:Cr r with
 | true =>
   have e0:=zej hg hr he;obtain⟨t,t1,t2⟩:=ht.eps j (by rw[Dk ht];exact hj) r hr he hf;refine .inr ⟨by omega,?_⟩;rw[show r.to_.toNat=t by omega];exact t2
 | false=>exact .inl (by have:=he2 he;omega)
theorem zqb (hg:Goes d n) (ht:Topo d.rules n ord) (ho:(∀ r∈d.rules,r.out.length≤64)∧∀ f∈d.finals,f.out.length≤64):∀ (k at_:Nat),x.length-at_<k→at_≤x.length→∀ i,i≤n→∀ s∈ord.take i,∀ w,RelW d x at_ (s:Nat) w→w.length≤64 * ((x.length-at_) * n+i):=by
 have hl:∀ (out:List Term) gs a,(D3 x out gs a).length=out.length:=fun out gs a=>by simp[D3,Ee]
 have hol:=Dk ht;intro k
 induction k with
 | zero=>intro at_ h;omega
 | succ k ih =>
   intro at_ hk ha i
   induction i with
   | zero=>intro _ s hs;simp at hs
   | succ i ihi =>
     intro hi s hs w hw;rw[take_at (by omega),List.mem_append,List.mem_singleton] at hs;rcases hs with hs|rfl
     · have:=ihi (by omega) s hs w hw
       omega
     · rcases Mh.1 hw with⟨f,hf,_,_,rfl⟩|⟨r,hr,hf,hgo,v,hv,rfl⟩
       · rw[hl]
         have:=ho.2 f hf;have:64 * ((x.length-at_) * n+i+1)≥64:=by omega
         omega
       · rw[List.length_append,hl]
         have h64:=ho.1 r hr;obtain⟨_,htt,e1,e2⟩:=hg.r r hr;have hle:=Jg hgo;have hv2:RelW d x (at_+r.eat.toNat) (r.to_.toNat:Nat) v:=by rw[Int.toNat_of_nonneg htt.1];exact hv
         have key:v.length≤64 * ((x.length-at_) * n+i):=by
           rcases z3d (at_:=at_) hg ht (by omega:i<n) hr hf with hp|⟨hp,hm⟩
           · have h1:=ih (at_+r.eat.toNat) (by omega) (by omega) n (Nat.le_refl _) r.to_.toNat (by rw[List.take_of_length_le (by omega)];exact (ht.all _).2 (by omega)) v hv2
             have h2:(x.length-(at_+r.eat.toNat)) * n+n≤(x.length-at_) * n:=by
               rw[←Nat.succ_mul];exact Nat.mul_le_mul_right n (by omega)
             omega
           · rw[hp] at hv2
             exact ihi (by omega) _ hm v hv2
         omega
theorem Wx (hg:Goes d n) (ht:Topo d.rules n ord) (ho:(∀ r∈d.rules,r.out.length≤64)∧∀ f∈d.finals,f.out.length≤64) (hn:n≤1024) (hx:x.length≤1024) {at_ s:Nat} (ha:at_≤x.length) (hs:s<n) {w:List Int} (hw:RelW d x at_ s w):w.length≤100000000:=by
 have h1:=zqb hg ht ho (x.length-at_+1) at_ (by omega) ha n (Nat.le_refl _) s (by rw[List.take_of_length_le (by rw[Dk ht];omega)];exact (ht.all s).2 hs) w hw;have h2:(x.length-at_) * n≤1024 * 1024:=Nat.mul_le_mul (by omega) hn;omega
structure OutI (d:Desc) (x:List Int) (L:Nat→Nat→Bool) (ord:List Nat) (most:Nat) (at_ j:Nat) (S:Nat→Nat→List (List Int)) (many:Bool):Prop where
 no:many=false→∀ a t,a≤x.length→L a t=true→Past ord at_ j a t→S a t=outW d x a t∧(S a t).length≤most
 yes:many=true→∃ a t,L a t=true∧most<(outW d x a t).length
variable {most at_ j:Nat} {S:Nat→Nat→List (List Int)} {many:Bool}
theorem zes (ho:ord.length=n):OutI d x L ord most x.length 0 (fun _ _=>[]) false:=by
 refine⟨fun _ a t ha _ hp=>?_,fun h=>by cases h⟩;rcases hp with h|⟨_,h⟩
 · omega
 · simp at h
theorem zet (h:OutI d x L ord most at_ j S true) (at2 j2:Nat):OutI d x L ord most at2 j2 S true:=⟨fun h=>(by cases h),h.yes⟩
theorem zeu (h:OutI d x L ord most at_ j S many) (hj:j<ord.length) (ho:L at_ (nth ord j)=false):OutI d x L ord most at_ (j+1) S many:=by
 refine⟨fun hm a t ha hl hp=>?_,h.yes⟩;rcases Z6 hj hp with h1|⟨rfl,rfl⟩
 · exact h.no hm a t ha hl h1
 · rw[ho] at hl;cases hl
theorem zk7 (h:OutI d x L ord most (at_+1) n S many) (hl:LivE d x n L) (ht:Topo d.rules n ord):OutI d x L ord most at_ 0 S many:=⟨fun hm a t ha hlt hp=>h.no hm a t ha hlt (zk6 (Dk ht) ((ht.all t).2 (hl.lead a t hlt).1) hp),h.yes⟩
theorem Oe (hg:Goes d n) (ht:Topo d.rules n ord) {a t:Nat} (ha:a≤x.length) (hs:t<n):J7 d x a t (outW d x a t):=Zz (zu8 hg ht (x.length-a+1) a (by omega) ha t hs)
theorem zqc (h:OutI d x L ord most at_ j S false) (hl:LivE d x n L) (hg:Goes d n) (ht:Topo d.rules n ord) (hj:j<n) (ha:at_≤x.length) (hlv:L at_ (nth ord j)=true):Gz (outL d x (fun a t=>S a t.toNat) at_ (nth ord j:Nat))=outW d x at_ (nth ord j:Nat):=by
 refine (Rv (Wv fun r hr hf hgo=>?_)).symm;obtain⟨_,htt,e1,e2⟩:=hg.r r hr;have hle:=Jg hgo;have h1:=h.no rfl (at_+r.eat.toNat) r.to_.toNat (by omega) (hl.clos _ _ hlv r hr hf hgo) (z3d hg ht hj hr hf);have h2:=Oe hg ht (x:=x) (a:=at_+r.eat.toNat) (t:=r.to_.toNat) (by omega) (by omega);rw[←h1.1,Int.toNat_of_nonneg htt.1] at h2;exact h2
theorem zev (h:OutI d x L ord most at_ j S false) (hl:LivE d x n L) (hg:Goes d n) (ht:Topo d.rules n ord) (hj:j<n) (ha:at_≤x.length) (hlv:L at_ (nth ord j)=true) {M:List (List Int)} (hM:M=outW d x at_ (nth ord j:Nat)):OutI d x L ord most at_ (j+1) (setP S at_ (nth ord j) M) (decide (most<M.length)):=by
 refine⟨fun hm a t hal hlt hp=>?_,fun hm=>?_⟩
 · simp only[decide_eq_false_iff_not,Nat.not_lt] at hm
   simp only[setP];by_cases e:a=at_∧t=nth ord j
   · rw[if_pos e]
     obtain⟨rfl,rfl⟩:=e;exact⟨hM,hm⟩
   · rw[if_neg e]
     rcases Z6 (by rw[Dk ht];exact hj) hp with h1|h1
     · exact h.no rfl a t hal hlt h1
     · exact absurd h1 e
 · simp only[decide_eq_true_eq] at hm
   exact⟨at_,nth ord j,hlv,by rw[←hM];exact hm⟩
theorem zk8 (h:OutI d x L ord most 0 n S many) (hl:LivE d x n L) (hg:Goes d n) (ht:Topo d.rules n ord) (hs:0≤d.start∧d.start<n):many=decide (most<(outW d x 0 d.start).length)∧(many=false→S 0 d.start.toNat=outW d x 0 d.start):=by
 have hst:((d.start.toNat:Nat):Int)=d.start:=Int.toNat_of_nonneg hs.1;have hO:=Oe hg ht (x:=x) (a:=0) (t:=d.start.toNat) (Nat.zero_le _) (by omega);rw[hst] at hO;cases many with
 | false =>
   have h1:=h.no rfl 0 d.start.toNat (Nat.zero_le _) hl.start (.inr ⟨rfl,by rw[List.take_of_length_le (by rw[Dk ht];omega)];exact (ht.all _).2 (by omega)⟩);rw[hst] at h1;have h2:=h1.2;rw[h1.1] at h2;refine⟨?_,fun _=>h1.1⟩;rw[eq_comm,decide_eq_false_iff_not];omega
 | true =>
   obtain⟨a,t,h1,h2⟩:=h.yes rfl;obtain⟨k1,k2,u,hu⟩:=hl.lead a t h1;have:=z6h hu (Oe hg ht k2 k1) hO;refine⟨?_,fun h=>by cases h⟩;rw[eq_comm,decide_eq_true_eq];omega
theorem zk9 (hl:LivE d x n L) (hg:Goes d n) (ht:Topo d.rules n ord) (hs:0≤d.start∧d.start<n) {a t:Nat} (h:L a t=true):(outW d x a t).length≤(outW d x 0 d.start).length:=by
 have hst:((d.start.toNat:Nat):Int)=d.start:=Int.toNat_of_nonneg hs.1;have hO:=Oe hg ht (x:=x) (a:=0) (t:=d.start.toNat) (Nat.zero_le _) (by omega);rw[hst] at hO;obtain⟨k1,k2,u,hu⟩:=hl.lead a t h;exact z6h hu (Oe hg ht k2 k1) hO
end
end Go.Proofs.YtbcjoeadpjfcfaaGreat
set_option maxRecDepth 100000
namespace Go.Proofs.YtbcjoeadpjfcfaaGreat
open Abs
theorem Ji (n:Nat):Ak (List.replicate n AV.nilS)=true:=Bn.2 fun x hx=>by rw[List.eq_of_mem_replicate hx];rfl
end Go.Proofs.YtbcjoeadpjfcfaaGreat
set_option maxRecDepth 100000
namespace Go.Proofs.YtbcjoeadpjfcfaaGreat
open Abs
def Z7 (xs:List Nat):List (List AV):=(List.range xs.length).map fun (k:Nat)=>[AV.int .i64 ((xs.length:Int)-1-(k:Int)),e1 (nth xs (xs.length-1-k))]
theorem Ry (xs:List Nat):(Z7 xs).length=xs.length:=by simp[Z7]
theorem z6p {xs:List Nat} {k:Nat} (h:k<xs.length):(Z7 xs)[k]? = some [AV.int .i64 ((xs.length:Int)-1-k),e1 (nth xs (xs.length-1-k))]:=by
 simp[Z7,h]
theorem zew {xs:List Nat} {k:Nat} {row:List AV} (h:(Z7 xs)[k]? = some row):k<xs.length∧row=[AV.int .i64 ((xs.length:Int)-1-k),e1 (nth xs (xs.length-1-k))]:=by
 have hk:k<xs.length:=by rw[←Ry xs];exact (List.getElem?_eq_some_iff.1 h).1
 rw[z6p hk] at h;exact⟨hk,(Option.some.inj h).symm⟩
theorem z9q (xs:List Nat):∀ r∈Z7 xs,∀ x∈r,Flat x:=fun r hr x hx=>by
 obtain⟨k,_,rfl⟩:=List.mem_map.1 hr;simp only[List.mem_cons,List.not_mem_nil,or_false] at hx;rcases hx with rfl|rfl<;>exact fun S=>rfl
theorem zex (xs:List Nat):∀ r∈Z7 xs,r.length=2:=fun r hr=>by
 obtain⟨k,_,rfl⟩:=List.mem_map.1 hr;rfl
theorem zey (xs:List Nat) (hl:xs.length≤1000000000000):X5 Tryz.prog 134 [.cptr (.lst 1 (xs.map e1))] (Z7 xs):=by
 have pX:Ak (xs.map e1)=true:=Dc (fun _=>rfl) _;refine zcr Gv fun I hP hr=>?_;show TI I _ C2 _ _ _ _;unfold C2;refine G7 (TI_v hP (by rfl) ?_);(with_reducible repeat' (first|(simp(disch:=omega)only[push_cast,↓zz,seval,pX])|refine And.intro ?_ ?_|(first|refine Ab ?_ ?_|refine Aa ?_ ?_)<;>intro hc<;>(try simp only[push_cast] at hc)|omega|intro _));refine (Ih (z1s (fun (t:Nat) s env H=>t≤xs.length∧s=some t∧∀ p∈[(0,AV.yld I.l),(1,AV.cptr (.lst 1 (xs.map e1))),(3,AV.int .i64 ((xs.length:Int)-1-t))],env p.1=p.2) (fun t=>xs.length-t) 0 ?_ ?_):TI I 19 _ _ _ _ _)
 · refine⟨Nat.zero_le _,rfl,?_⟩
   simp only[List.mem_cons,List.not_mem_nil,or_false,forall_eq_or_imp,forall_eq];refine⟨rfl,rfl,?_⟩;show AV.int .i64 ((xs.length:Int)-1)=AV.int .i64 ((xs.length:Int)-1-((0:Nat):Int));simp
 rintro t s env H ⟨ht,rfl,hlv⟩;refine zdg (live:=[(0,AV.yld I.l),(1,AV.cptr (.lst 1 (xs.map e1))),(3,AV.int .i64 ((xs.length:Int)-1-t))]) (fun p hp=>⟨hlv p hp,?_⟩) ?_
 · simp only[List.mem_cons,List.not_mem_nil,or_false] at hp
   rcases hp with rfl|rfl|rfl<;>first|rfl|exact pX
 refine G7 (TI_v hP (by rfl) ?_);(with_reducible repeat' (first|(simp(disch:=omega)only[push_cast,↓zz,seval])|refine And.intro ?_ ?_|(first|refine Ab ?_ ?_|refine Aa ?_ ?_)<;>intro hc<;>(try simp only[push_cast] at hc)|omega|intro _))
 · have htl:t<xs.length:=by omega
   have hrow:=z6p htl
   have aX:(xs.map e1).getD (xs.length-1-t) .any=.int .i64 (nth xs (xs.length-1-t):Nat):=by
     have:xs.length-1-t<xs.length:=by omega
     simp[nth,List.getD,this]
   have hcast:((xs.length:Int)-1-t).toNat=xs.length-1-t:=by omega
   have hnx:(xs.length:Int)-1-t-1=(xs.length:Int)-1-((t+1:Nat):Int):=by push_cast;omega
   rw[show e1 (nth xs (xs.length-1-t))=AV.int .i64 ((nth xs (xs.length-1-t):Nat):Int) from rfl] at hrow;generalize nth xs (xs.length-1-t)=z at *;refine (G7 (Ih (G7 ?_)):TI I 19 _ _ _ _ _);refine z5l (pre:=[_,_,_,_,_,_]) (post:=[_]) rfl rfl ?_;rw[hP,←Ms];(with_reducible repeat' (first|(simp(disch:=omega)only[push_cast,↓zz,seval,pX,aX,hcast])|refine And.intro ?_ ?_|(first|refine Ab ?_ ?_|refine Aa ?_ ?_)<;>intro hc<;>(try simp only[push_cast] at hc)|omega|intro _));refine⟨[AV.int .i64 ((xs.length:Int)-1-t),AV.int .i64 (z:Int)],rfl,?_,by rw[hr];exact hrow,?_,?_⟩
   · intro x hx
     simp only[List.mem_cons,List.not_mem_nil,or_false] at hx;rcases hx with rfl|rfl<;>exact fun S v hv=>hv
   · rw[←Ms]
     (with_reducible repeat' (first|(simp(disch:=omega)only[push_cast,↓zz,seval])|refine And.intro ?_ ?_|(first|refine Ab ?_ ?_|refine Aa ?_ ?_)<;>intro hc<;>(try simp only[push_cast] at hc)|omega|intro _));refine (TI_v hP ?q1 ?_:TI I 19 _ _ _ _ _)
     case q1=>rfl
     (with_reducible repeat' (first|(simp(disch:=omega)only[push_cast,↓zz,seval])|refine And.intro ?_ ?_|(first|refine Ab ?_ ?_|refine Aa ?_ ?_)<;>intro hc<;>(try simp only[push_cast] at hc)|omega|intro _));refine (TI_v hP ?q2 ?_:TI I 19 _ _ _ _ _)
     case q2=>rfl
     (with_reducible repeat' (first|(simp(disch:=omega)only[push_cast,↓zz,seval])|refine And.intro ?_ ?_|(first|refine Ab ?_ ?_|refine Aa ?_ ?_)<;>intro hc<;>(try simp only[push_cast] at hc)|omega|intro _));refine⟨t+1,⟨by omega,rfl,rfl,rfl,?_⟩,by omega⟩;show AV.int .i64 ((xs.length:Int)-1-t-1)=AV.int .i64 ((xs.length:Int)-1-((t+1:Nat):Int));rw[hnx]
   · rw[←Ms]
     (with_reducible repeat' (first|(simp(disch:=omega)only[push_cast,↓zz,seval])|refine And.intro ?_ ?_|(first|refine Ab ?_ ?_|refine Aa ?_ ?_)<;>intro hc<;>(try simp only[push_cast] at hc)|omega|intro _));refine (TI_v hP ?q3 ?_:TI I 19 _ _ _ _ _)
     case q3=>rfl
     (with_reducible repeat' (first|(simp(disch:=omega)only[push_cast,↓zz,seval])|refine And.intro ?_ ?_|(first|refine Ab ?_ ?_|refine Aa ?_ ?_)<;>intro hc<;>(try simp only[push_cast] at hc)|omega|intro _));exact⟨trivial,.inr rfl⟩
 · refine⟨trivial,.inl ?_⟩
   rw[Ry];congr 1;omega
theorem Rz (xs:List Nat) (hl:xs.length≤1000000000000):PC Tryz.prog 102 [.lst 1 (xs.map e1)] (.fn 134 [.cptr (.lst 1 (xs.map e1))]):=by
 have pX:Ak (xs.map e1)=true:=Dc (fun _=>rfl) _;refine A7 Hb ?_;unfold Ew;(with_reducible repeat' (first|(simp(disch:=omega)only[push_cast,↓zz,seval,pX])|refine And.intro ?_ ?_|(first|refine Ab ?_ ?_|refine Aa ?_ ?_)<;>intro hc<;>(try simp only[push_cast] at hc)|omega|intro _))
 all_goals trace_state
end Go.Proofs.YtbcjoeadpjfcfaaGreat
set_option maxRecDepth 100000
namespace Go.Proofs.YtbcjoeadpjfcfaaGreat
open Abs
def Iq {β:Type} [Inhabited β] (fr:β→Int) (l:List β) (k:Nat) (s:Nat):List Nat:=(List.range k).filter fun i=>decide (fr (nth l i)=(s:Int))
section
variable {β:Type} [Inhabited β] {fr:β→Int} {l:List β}
theorem R0 (k s:Nat):(Iq fr l k s).length≤k:=by
 have:=List.length_filter_le (fun i=>decide (fr (nth l i)=(s:Int))) (List.range k);simpa [Iq] using this
theorem Up {k i:Nat} (hi:fr (nth l k)=i):Iq fr l (k+1)=setD (Iq fr l k) i (Iq fr l k i++[k]):=by
 funext s;simp only[Iq,List.range_succ,List.filter_append,List.filter_cons,List.filter_nil,hi,decide_eq_true_eq,setD];by_cases e:s=i
 · subst e;simp
 · rw[if_neg (by omega),if_neg e];simp
end
def fiI (l:List Eu) (s:Nat):List Nat:=Iq (·.from_) l l.length s
theorem zka (l:List Rule):Iq (·.from_) l l.length=ruI l:=rfl
def bgL (d:Desc) (x:List Int) (R F:AV) (n:Nat) (T1 T2:Grp):List Grp:=[⟨1,1,true,[.ptr 1 1 0 0]⟩,⟨11,1,true,[rnB d x R F .nilS .nilS]⟩,T1,T2,⟨6,1,true,[B2 d]⟩]
def bgR (d:Desc) (x:List Int) (n k:Nat) (V:Nat→Nat):List Grp:=bgL d x (.ref 2 1 0 n) (.ref 3 1 0 n) n ⟨1,1,true,fT 5 n V (Iq (·.from_) d.rules k)⟩ ⟨1,1,true,List.replicate n .nilS⟩++fF 1 e1 n V (Iq (·.from_) d.rules k)
def bgF (d:Desc) (x:List Int) (n k:Nat) (V:Nat→Nat):List Grp:=bgL d x (ruV d.rules n) (.ref 3 1 0 n) n ⟨0,2,false,[]⟩ ⟨1,1,true,fT 5 n V (Iq (·.from_) d.finals k)⟩++fF 1 e1 n V (Iq (·.from_) d.finals k)
theorem z3e (d:Desc) (x:List Int) (n k:Nat) (V:Nat→Nat):(bgR d x n k V).length=n+5:=by simp[bgR,bgL,Uk]
theorem z3f (d:Desc) (x:List Int) (n k:Nat) (V:Nat→Nat):(bgF d x n k V).length=n+5:=by simp[bgF,bgL,Uk]
theorem H0 {d:Desc} {x:List Int} {R F:AV} {n m:Nat} {T1 T2:Grp} (hm:5≤m) (hR:ltV m R) (hF:ltV m F) (h1:ltL m T1.xs) (h2:ltL m T2.xs):∀ G∈bgL d x R F n T1 T2,ltL m G.xs:=fun G hG=>by
 have q1:ltV m (Cz d.rules):=Bv _ _ (Az _);have q2:ltV m (Cw d.finals):=Bv _ _ (As _);have q3:ltV m (Ag x):=Bv _ _ (Ay .i32 _);simp only[bgL,List.mem_cons,List.not_mem_nil,or_false] at hG;rcases hG with rfl|rfl|rfl|rfl|rfl
 · exact⟨(show 1<m by omega),trivial⟩
 · exact⟨⟨trivial,trivial,trivial,trivial,q1,q2,q3,hR,hF,trivial,trivial,trivial⟩,trivial⟩
 · exact h1
 · exact h2
 · exact Cc _ _ (by simp[Ak,Hx])
theorem z9r (d:Desc) (x:List Int) (n k:Nat) (V:Nat→Nat):∀ G∈bgR d x n k V,ltL (bgR d x n k V).length G.xs:=fun G hG=>by
 rw[z3e];rcases List.mem_append.1 hG with hG|hG
 · have a1:ltV (n+5) (.ref 2 1 0 n):=show 2<n+5 by omega
   have a2:ltV (n+5) (.ref 3 1 0 n):=show 3<n+5 by omega
   exact H0 (by omega) a1 a2 (zlv (by omega)) (Cc _ _ (Ji n)) G hG
 · exact zlw (fun _=>rfl) G hG
theorem z9s (d:Desc) (x:List Int) (n k:Nat) (V:Nat→Nat):∀ G∈bgF d x n k V,ltL (bgF d x n k V).length G.xs:=fun G hG=>by
 rw[z3f];rcases List.mem_append.1 hG with hG|hG
 · have a1:ltV (n+5) (ruV d.rules n):=Bv _ _ (show Ak _=true from E2 fun _=>rfl)
   have a2:ltV (n+5) (.ref 3 1 0 n):=show 3<n+5 by omega
   exact H0 (T1:=⟨0,2,false,[]⟩) (by omega) a1 a2 trivial (zlv (by omega)) G hG
 · exact zlw (fun _=>rfl) G hG
theorem z6q {d:Desc} {x:List Int} {R F:AV} {n:Nat} {T1 T2:Grp} {Fm:List Grp} (hF:Fm.length=n) (t:Nat) (ht:t=2∨t=3):D1 0 (fKs t 5 n) (bgL d x R F n T1 T2++Fm)=bgL d x R F n (if t=2 then T1.dead else T1) (if t=3 then T2.dead else T2)++Fm.map Grp.dead:=by
 have m0:(0:Nat)∉fKs t 5 n:=K7 (by omega) (by omega);have m1:(1:Nat)∉fKs t 5 n:=K7 (by omega) (by omega);have m4:(4:Nat)∉fKs t 5 n:=K7 (by omega) (by omega)
 have hK:D1 5 (fKs t 5 n) Fm=Fm.map Grp.dead:=zen fun j hj=>by
   rw[Nat.add_comm];exact zel (by omega)
 rw[Z1];have e5:0+(bgL d x R F n T1 T2).length=5:=rfl;rw[e5,hK,bgL,Hk,Hk,Hk,Hk,Hk,z4m,if_neg m0,if_neg m1,if_neg m4];rcases ht with rfl|rfl
 · rw[if_pos (show (0+1+1:Nat)∈fKs 2 5 n by simp[fKs]),if_neg (show (0+1+1+1:Nat)∉fKs 2 5 n from K7 (by omega) (by omega))]
   rfl
 · rw[if_neg (show (0+1+1:Nat)∉fKs 3 5 n from K7 (by omega) (by omega)),if_pos (show (0+1+1+1:Nat)∈fKs 3 5 n by simp[fKs])]
   rfl
theorem z9t {m b:Nat} {env:Env} (d:Desc) (x:List Int) (n:Nat) (V:Nat→Nat):Ent m b env (Abs.hl (bgR d x n d.rules.length V)) env (Abs.hl (bgL d x (ruV d.rules n) (.ref 3 1 0 n) n ⟨0,2,false,[]⟩ ⟨1,1,true,List.replicate n .nilS⟩++(fF 1 e1 n V (ruI d.rules)).map Grp.dead)):=by
 have h1:(Abs.hl (bgR d x n d.rules.length V)).at_ 2=⟨1,1,true,fT 5 n V (ruI d.rules)⟩:=rfl
 have h2:∀ i,i<n→(Abs.hl (bgR d x n d.rules.length V)).at_ (i+5)=gG 1 e1 (V i) (ruI d.rules i):=fun i hi=>by
   rw[bgR,Cy,bgL];simp only[List.cons_append,List.nil_append,List.getD_cons_succ];exact zjv hi
 obtain⟨f1,f2⟩:=zem (w:=1) (e:=e1) (by decide) (fun _=>rfl) h1 h2;refine Rw (g:=1) (w:=11) (v:=1) (d:=2) (ex:=true) (xs:=[rnB d x (.ref 2 1 0 n) (.ref 3 1 0 n) .nilS .nilS]) (ys:=[rnB d x (ruV d.rules n) (.ref 3 1 0 n) .nilS .nilS]) (fKs 2 5 n) (by decide) (by rw[z3e];omega) rfl (K7 (by decide) (by omega)) ?_ ?_
 · refine⟨_,[],rfl,.inr ⟨_,_,rfl,rfl,?_⟩,rfl⟩
   refine⟨_,_,rfl,.inl rfl,_,_,rfl,.inl rfl,_,_,rfl,.inl rfl,_,_,rfl,.inl rfl,_,_,rfl,.inl rfl,_,_,rfl,.inl rfl,_,_,rfl,.inl rfl,_,_,rfl,.inr ⟨f1,f2.symm⟩,_,_,rfl,.inl rfl,_,_,rfl,.inl rfl,_,_,rfl,.inl rfl,rfl⟩
 · rw[bgR,z6q Uk 2 (.inl rfl),zka]
   rfl
theorem z9u {m b:Nat} {env:Env} (d:Desc) (x:List Int) (n:Nat) (V:Nat→Nat):Ent m b env (Abs.hl (bgF d x n d.finals.length V)) env (Abs.hl (bgL d x (ruV d.rules n) (.lst 1 (fD 1 e1 n (fiI d.finals))) n ⟨0,2,false,[]⟩ ⟨0,2,false,[]⟩++(fF 1 e1 n V (fiI d.finals)).map Grp.dead)):=by
 have h1:(Abs.hl (bgF d x n d.finals.length V)).at_ 3=⟨1,1,true,fT 5 n V (fiI d.finals)⟩:=rfl
 have h2:∀ i,i<n→(Abs.hl (bgF d x n d.finals.length V)).at_ (i+5)=gG 1 e1 (V i) (fiI d.finals i):=fun i hi=>by
   rw[bgF,Cy,bgL];simp only[List.cons_append,List.nil_append,List.getD_cons_succ];exact zjv hi
 obtain⟨f1,f2⟩:=zem (w:=1) (e:=e1) (by decide) (fun _=>rfl) h1 h2;refine Rw (g:=1) (w:=11) (v:=1) (d:=2) (ex:=true) (xs:=[rnB d x (ruV d.rules n) (.ref 3 1 0 n) .nilS .nilS]) (ys:=[rnB d x (ruV d.rules n) (.lst 1 (fD 1 e1 n (fiI d.finals))) .nilS .nilS]) (fKs 3 5 n) (by decide) (by rw[z3f];omega) rfl (K7 (by decide) (by omega)) ?_ ?_
 · refine⟨_,[],rfl,.inr ⟨_,_,rfl,rfl,?_⟩,rfl⟩
   refine⟨_,_,rfl,.inl rfl,_,_,rfl,.inl rfl,_,_,rfl,.inl rfl,_,_,rfl,.inl rfl,_,_,rfl,.inl rfl,_,_,rfl,.inl rfl,_,_,rfl,.inl rfl,_,_,rfl,.inl rfl,_,_,rfl,.inr ⟨f1,f2.symm⟩,_,_,rfl,.inl rfl,_,_,rfl,.inl rfl,rfl⟩
 · rw[bgF,z6q Uk 3 (.inr rfl)]
   rfl
theorem zly (d:Desc) (x:List Int) (n k:Nat) (V:Nat→Nat):bgR d x n k V=⟨1,1,true,[.ptr 1 1 0 0]⟩::⟨11,1,true,[rnB d x (.ref 2 1 0 n) (.ref 3 1 0 n) .nilS .nilS]⟩::⟨1,1,true,fT 5 n V (Iq (·.from_) d.rules k)⟩::⟨1,1,true,List.replicate n .nilS⟩::⟨6,1,true,[B2 d]⟩::fF 1 e1 n V (Iq (·.from_) d.rules k):=rfl
theorem zlz (d:Desc) (x:List Int) (n k:Nat) (V:Nat→Nat):bgF d x n k V=⟨1,1,true,[.ptr 1 1 0 0]⟩::⟨11,1,true,[rnB d x (ruV d.rules n) (.ref 3 1 0 n) .nilS .nilS]⟩::⟨0,2,false,[]⟩::⟨1,1,true,fT 5 n V (Iq (·.from_) d.finals k)⟩::⟨6,1,true,[B2 d]⟩::fF 1 e1 n V (Iq (·.from_) d.finals k):=rfl
def fiV (l:List Eu) (n:Nat):AV:=.lst 1 (fD 1 e1 n (fiI l))
theorem zub (n:Nat):List.replicate n (AV.bool false)=spB n fun _=>false:=by
 refine List.ext_getElem (by simp[spB]) fun i h1 h2=>?_;simp[spB]
theorem zkb {H:Ac} {g v:Nat} {l:List Nat} (h:H.at_ g=gG 1 e1 v l):Cp 2 (H.only [g]) (.ref g v 0 l.length)∧frzV 2 (H.only [g]) (.ref g v 0 l.length)=.lst 1 (l.map e1):=by
 have hat:(H.only [g]).at_ g=gG 1 e1 v l:=by
   show (if g∈[g] then H.at_ g else (H.at_ g).dead)=_;rw[if_pos (by simp),h]
 have htl:(((gG 1 e1 v l).xs.drop 0).take l.length)=l.map e1:=by
   rw[List.drop_zero];exact List.take_of_length_le (by simp[gG])
 have hp:Ak (l.map e1)=true:=Dc (fun _=>rfl) _;constructor
 · refine⟨by rw[hat];rfl,by rw[hat];exact Nat.one_pos,by rw[hat];simp[gG],?_⟩
   rw[hat,htl];exact (Gs _ 1 hp).1
 · show AV.lst _ _=_
   rw[hat,htl];congr 1;exact (Gs _ 1 hp).2
def bgS (d:Desc) (x:List Int) (n v:Nat) (dn:Nat→Bool) (ord:List Nat):List Grp:=srtL d x n (fiV d.finals n) v dn ord++[⟨1,1,true,[.ptr 0 1 0 0]⟩,⟨6,1,true,[B2 d]⟩]
theorem z9v (d:Desc) (x:List Int) (n v:Nat) (dn:Nat→Bool) (ord:List Nat):∀ G∈bgS d x n v dn ord,ltL 5 G.xs:=fun G hG=>by
 rcases List.mem_append.1 hG with hG|hG
 · have h1:ltV 5 (Cz d.rules):=Bv _ _ (Az _)
   have h2:ltV 5 (Cw d.finals):=Bv _ _ (As _);have h3:ltV 5 (Ag x):=Bv _ _ (Ay .i32 _);have h4:ltV 5 (ruV d.rules n):=Bv _ _ (E2 fun _=>rfl);have h5:ltV 5 (fiV d.finals n):=Bv _ _ (E2 fun _=>rfl);simp only[srtL,List.mem_cons,List.not_mem_nil,or_false] at hG;rcases hG with rfl|rfl|rfl
   · exact⟨⟨trivial,trivial,trivial,trivial,h1,h2,h3,h4,h5,(show 2<5 by omega),trivial,trivial⟩,trivial⟩
   · exact Cc _ _ (Bn.2 fun y hy=>by obtain⟨i,_,rfl⟩:=List.mem_map.1 hy;rfl)
   · exact Cc _ _ (Dc (fun _=>rfl) _)
 · simp only[List.mem_cons,List.not_mem_nil,or_false] at hG
   rcases hG with rfl|rfl
   · exact⟨(show 0<5 by omega),trivial⟩
   · exact Cc _ _ (by simp[Ak,Hx])
theorem z9w {m b:Nat} {env:Env} (d:Desc) (x:List Int) (n v:Nat) (dn:Nat→Bool) (ord:List Nat):Ent m b env (Abs.hl (bgS d x n v dn ord)) env (Abs.hl [⟨11,1,true,[rnB d x (ruV d.rules n) (fiV d.finals n) (.lst 1 (ord.map e1)) .nilS]⟩,⟨1,1,true,spB n dn⟩,(gG 1 e1 v ord).dead,⟨1,1,true,[.ptr 0 1 0 0]⟩,⟨6,1,true,[B2 d]⟩]):=by
 have h1:(Abs.hl (bgS d x n v dn ord)).at_ 2=gG 1 e1 v ord:=rfl;obtain⟨f1,f2⟩:=zkb h1;refine Rw (g:=0) (w:=11) (v:=1) (d:=2) (ex:=true) (xs:=[rnB d x (ruV d.rules n) (fiV d.finals n) (.ref 2 v 0 ord.length) .nilS]) (ys:=[rnB d x (ruV d.rules n) (fiV d.finals n) (.lst 1 (ord.map e1)) .nilS]) [2] (by decide) (by simp[bgS,srtL]) rfl (by decide) ?_ rfl;refine⟨_,[],rfl,.inr ⟨_,_,rfl,rfl,?_⟩,rfl⟩;exact⟨_,_,rfl,.inl rfl,_,_,rfl,.inl rfl,_,_,rfl,.inl rfl,_,_,rfl,.inl rfl,_,_,rfl,.inl rfl,_,_,rfl,.inl rfl,_,_,rfl,.inl rfl,_,_,rfl,.inl rfl,_,_,rfl,.inl rfl,_,_,rfl,.inr ⟨f1,f2.symm⟩,_,_,rfl,.inl rfl,rfl⟩
theorem zkc {y:AV} {l:List Grp} (d:Nat) (ks:List Nat) (hok:Cp d ((Abs.hl l).only ks) y) {z:AV} (hz:frzV d ((Abs.hl l).only ks) y=z) (hp:z.pure=true):Ent 1 0 (fun _=>y) (Abs.hl l) (fun _=>z) (Abs.hl []):=by
 refine (zco 0 d ks hok).trans ((Zr (H':=Abs.hl ([]++D1 0 ks l)) ?_ ?_).trans ((P8 (Nat.zero_le _) (fun G hG=>by cases hG) fun i hi=>?_).trans (zcn trivial fun i hi=>?_)))
 · simp[Abs.hl,Ac.kill,Gt]
 · intro g hg
   show (D1 0 ks l).getD g default=if g∈ks then (l.getD g default).dead else l.getD g default
   rw[Ll 0 ks l g hg,Nat.zero_add]
 · obtain rfl:i=0:=by omega
   show ltV 0 (if (0:Nat)=0 then frzV d ((Abs.hl l).only ks) y else y);rw[if_pos rfl,hz];exact Bv _ _ hp
 · obtain rfl:i=0:=by omega
   show leS [] (if (0:Nat)=0 then frzV d ((Abs.hl l).only ks) y else y) z;rw[if_pos rfl,hz];exact Lm _ _
def bgV (d:Desc) (x:List Int) (n m:Nat) (ord:List Nat) (at_:Nat) (L:Nat→Nat→Bool):List Grp:=[⟨11,1,true,[rnB d x (ruV d.rules n) (fiV d.finals n) (.lst 1 (ord.map e1)) (.ref 3 1 0 m)]⟩,⟨1,1,true,[.ptr 0 1 0 0]⟩,⟨6,1,true,[B2 d]⟩,⟨1,1,true,lvB n m L⟩,⟨1,1,true,[.int .i64 at_]⟩]
theorem zez (d:Desc) (x:List Int) {n:Nat} (hdn:d.states=n) (hn:n≤1024) (hrl:d.rules.length≤4096) (hfl:d.finals.length≤4096) (hs:0≤d.start∧d.start<n) (hgo:Goes d n) (hcy:¬cycP d.rules n) (hlf:∀ r∈d.finals,0≤r.from_∧r.from_<n) (hxl:x.length≤1024) (h32:∀ v∈x,-2147483648≤v∧v≤2147483647)
   (hgb:∀ r∈d.rules,(r.guards.length≤1000000∧∀ g∈r.guards,g.length≤1000000)∧0≤r.eat∧r.eat≤1000000) :
   Be Tryz.prog 60 [B2 d,Ag x] (Abs.hl []) fun y H'=>H'=Abs.hl []∧∃ ord L,y=C4 d x (ruV d.rules n) (fiV d.finals n) (.lst 1 (ord.map e1)) (.lst 1 (lvB n ((x.length+1) * n) L))∧Topo d.rules n ord∧LivE d x n L:=by
 have pR:=Az d.rules;have pFi:=As d.finals;have pX:Ak (x.map (AV.int .i32))=true:=Ay .i32 _;have pN:=Ji n;have hl:∀ r∈d.rules,0≤r.from_∧r.from_<n:=fun r hr=>(hgo.r r hr).1;have hl2:∀ r∈d.rules,(0≤r.from_∧r.from_<n)∧0≤r.to_∧r.to_<n:=fun r hr=>⟨(hgo.r r hr).1,(hgo.r r hr).2.1⟩;refine J2 (Pg z1b (W_T ?_));unfold Qb;(with_reducible repeat' (first|(simp(disch:=omega)only[push_cast,↓zz,seval,pR,pFi,hdn])|refine And.intro ?_ ?_|(first|refine Ab ?_ ?_|refine Aa ?_ ?_)<;>intro hc<;>(try simp only[push_cast] at hc)|omega|intro _));refine zpc [1,2,3,4] [1,1,11,1] [none,none,none,none,some 1,none,none,some 2,none,some 3,some 4] (by simp) (by decide) ?_;(with_reducible repeat' (first|(simp(disch:=omega)only[push_cast,↓zz,seval,yy,List.mem_cons,List.not_mem_nil,or_false,false_or,not_or,not_false_eq_true,true_or,or_true,pR,pFi,pX,hdn])|refine And.intro ?_ ?_|(first|refine Ab ?_ ?_|refine Aa ?_ ?_)<;>intro hc<;>(try simp only[push_cast] at hc)|omega|intro _))
 refine Ax (Ta (srcs:=[.grp 4,.grp 3,.grp 1,.grp 2,.grp 0]) (live:=[(1,Ag x),(2,.ptr 4 1 0 0),(5,.ptr 0 1 0 0),(29,Cz d.rules),(30,.int .i64 d.rules.length),(31,.int .i64 0)])
   (heap:=bgL d x (.ref 2 1 0 n) (.ref 3 1 0 n) n ⟨1,1,true,List.replicate n .nilS⟩ ⟨1,1,true,List.replicate n .nilS⟩) ?_ (Yl (zek (α:=Nat) (w:=1) (e:=e1) (n:=n) (t:=2) (by decide) (by simp[bgL]) rfl) ?_))
 · unfold bgL rnB
   (with_reducible repeat' (first|(simp(disch:=omega)only[push_cast,↓zz,seval,pR,pFi,pX,hdn,pN])|refine And.intro ?_ ?_|(first|refine Ab ?_ ?_|refine Aa ?_ ?_)<;>intro hc<;>(try simp only[push_cast] at hc)|omega|intro _))
 refine Kv (fun (q:Nat × (Nat→Nat))=>q.1≤d.rules.length) (fun q=>d.rules.length-q.1)
   (fun q=>De [(1,Ag x),(2,.ptr 4 1 0 0),(5,.ptr 0 1 0 0),(29,Cz d.rules),(30,.int .i64 d.rules.length),(31,.int .i64 q.1)]) (fun q=>Abs.hl (bgR d x n q.1 q.2)) (0,fun _=>1) (by simp) Ent.refl ?_
 rintro⟨k,V⟩ hk;simp only at hk ⊢;rcases Nat.lt_or_ge k d.rules.length with hkl|hkl
 · have hr:=hl _ (Au hkl)
   have hsu:=fun i=>Up (fr:=fun (r:Rule)=>r.from_) (l:=d.rules) (k:=k) (i:=i);generalize hre:nth d.rules k=r at *;have hgr:=Ah r.guards;have hot:=Bl r.out;obtain⟨i,hi⟩:∃ i:Nat,r.from_=i:=⟨r.from_.toNat,by omega⟩;have hin:i<n:=by omega
   obtain⟨D,hD⟩:∃ D,D=Iq (fun (r:Rule)=>r.from_) d.rules k:=⟨_,rfl⟩;have hFl:(fF 1 e1 n V D).length=n:=Uk;have hTl:(fT 5 n V D).length=n:=zlr;have gI:∀ G,(fF 1 e1 n V D++[G]).getD i default=gG 1 e1 (V i) (D i):=fun G=>by rw[zlu hFl hin];exact zjv hin
   have gR:∀ G,(fF 1 e1 n V D++[G]).getD n default=G:=fun G=>by rw[O3 hFl];rfl
   have sR:∀ G G',setQ (fF 1 e1 n V D++[G]) n G'=some (fF 1 e1 n V D++[G']):=fun G G'=>by rw[Z0 _ _ hFl];rfl
   have tI:(fT 5 n V D).getD i .any=.ref (i+5) (V i) 0 (D i).length:=zu9 hin;have sI:∀ G G',setQ (fF 1 e1 n V D++[G]) i G'=some ((fF 1 e1 n V D).set i G'++[G]):=fun G G'=>z2y (by omega);have gR2:∀ G G',((fF 1 e1 n V D).set i G'++[G]).getD n default=G:=fun G G'=>by rw[O3 (by rw[List.length_set];exact hFl)];rfl
   have hSB:∀ R G,Cd 5 [i+5] (fF 1 e1 n V D++[R]) ((fF 1 e1 n V D).set i G++[R]):=fun R G=>z6l (by omega) (by simp;omega);have hEx:=zq3 (e:=e1) (D i);have hel:(D i).length≤k:=by rw[hD];exact R0 k i
   have eT:(fT 5 n V D).set i (.ref (i+5) (V i+1) 0 ((D i).length+1))=fT 5 n (setV V i (V i+1)) (setD D i (D i++[k])):=by
     have:=zls (o:=5) (V:=V) (D:=D) (l:=D i++[k]) hin
     rwa [List.length_append] at this
   have eF:(fF 1 e1 n V D).set i ⟨1,V i+1,false,(D i).map e1++[.int .i64 k]⟩=fF 1 e1 n (setV V i (V i+1)) (setD D i (D i++[k])):=by
     have:=zlt (V:=V) (D:=D) (w:=1) (e:=e1) (l:=D i++[k]) (by simp) hin;rw[List.map_append] at this;exact this
   have hsu:=hsu i hi;rw[←hD] at hsu;rw[zly,←hD];unfold rnB;have hni:¬n=i:=by omega
   simp only[gG] at gI;refine W_T ?_;(with_reducible repeat' (first|(simp(disch:=omega)only[push_cast,↓zz,seval,xx,List.mem_cons,List.not_mem_nil,or_false,false_or,not_or,not_false_eq_true,true_or,or_true,pR,pFi,pX,hdn,hre,hi,hgr,hot,hFl,hTl,gI,gR,sR,tI,sI,gR2,hEx,hni])|refine And.intro ?_ ?_|(first|refine Ab ?_ ?_|refine Aa ?_ ?_)<;>intro hc<;>(try simp only[push_cast] at hc)|refine Cm [i+5] ?_|omega|intro _))
   · exact hSB _ _
   refine⟨(k+1,setV V i (V i+1)),Fl (gar:=[⟨5,1,true,[.agg [.int .i64 i,.int .i64 r.to_,Ao r.guards,.int .i64 r.eat,Ea r.out]]⟩]) _ ?_ (Nat.zero_le _) (z9r _ _ _ _ _) ?_,by simp only;omega,by simp only;omega⟩
   · rw[zly,hsu,←eT,←eF]
     unfold rnB;rw[hdn];rfl
   · have hRv:ltV (n+5) (Cz d.rules):=Bv _ _ pR
     have hXv:ltV (n+5) (Ag x):=Bv _ _ pX;rw[z3e];exact⟨rfl,hXv,rfl,(show 4<n+5 by omega),rfl,(show 0<n+5 by omega),rfl,hRv,rfl,trivial,rfl,trivial,trivial⟩
 obtain rfl:k=d.rules.length:=by omega
 have cl1:∀ G∈bgL d x (ruV d.rules n) (.ref 3 1 0 n) n ⟨0,2,false,[]⟩ ⟨1,1,true,List.replicate n .nilS⟩,ltL 5 G.xs:=H0 (by omega) (Bv _ _ (show Ak _=true from E2 fun _=>rfl)) (show 3<5 by omega) trivial (Cc _ _ pN);refine Yl ((z9t d x n V).trans (Fl (l0:=bgL d x (ruV d.rules n) (.ref 3 1 0 n) n ⟨0,2,false,[]⟩ ⟨1,1,true,List.replicate n .nilS⟩) [(1,Ag x),(2,.ptr 4 1 0 0),(5,.ptr 0 1 0 0),(29,Cz d.rules),(30,.int .i64 d.rules.length),(31,.int .i64 d.rules.length)] rfl (Nat.zero_le _) cl1 ?_)) ?_
 · have hRv:ltV 5 (Cz d.rules):=Bv _ _ pR
   have hXv:ltV 5 (Ag x):=Bv _ _ pX;exact⟨rfl,hXv,rfl,(show 4<5 by omega),rfl,(show 0<5 by omega),rfl,hRv,rfl,trivial,rfl,trivial,trivial⟩
 clear cl1 V;unfold bgL rnB;refine W_T ?_;(with_reducible repeat' (first|(simp(disch:=omega)only[push_cast,↓zz,seval,pR,pFi,pX,hdn])|refine And.intro ?_ ?_|(first|refine Ab ?_ ?_|refine Aa ?_ ?_)<;>intro hc<;>(try simp only[push_cast] at hc)|omega|intro _));have cl2:∀ G∈bgL d x (ruV d.rules n) (.ref 3 1 0 n) n ⟨0,2,false,[]⟩ ⟨1,1,true,List.replicate n .nilS⟩,ltL 5 G.xs:=H0 (by omega) (Bv _ _ (show Ak _=true from E2 fun _=>rfl)) (show 3<5 by omega) trivial (Cc _ _ pN);refine Ax (Yl ((Fl (l0:=bgL d x (ruV d.rules n) (.ref 3 1 0 n) n ⟨0,2,false,[]⟩ ⟨1,1,true,List.replicate n .nilS⟩) (gar:=[]) [(1,Ag x),(2,.ptr 4 1 0 0),(5,.ptr 0 1 0 0),(56,Cw d.finals),(57,.int .i64 d.finals.length),(58,.int .i64 0)] ?_ (Nat.zero_le _) cl2 ?_).trans (zek (α:=Nat) (w:=1) (e:=e1) (n:=n) (t:=3) (by decide) (by simp[bgL]) rfl)) ?_)
 · unfold bgL rnB
   rw[hdn];rfl
 · have hFv:ltV 5 (Cw d.finals):=Bv _ _ pFi
   have hXv:ltV 5 (Ag x):=Bv _ _ pX;exact⟨rfl,hXv,rfl,(show 4<5 by omega),rfl,(show 0<5 by omega),rfl,hFv,rfl,trivial,rfl,trivial,trivial⟩
 clear cl2
 refine Kv (fun (q:Nat × (Nat→Nat))=>q.1≤d.finals.length) (fun q=>d.finals.length-q.1)
   (fun q=>De [(1,Ag x),(2,.ptr 4 1 0 0),(5,.ptr 0 1 0 0),(56,Cw d.finals),(57,.int .i64 d.finals.length),(58,.int .i64 q.1)]) (fun q=>Abs.hl (bgF d x n q.1 q.2)) (0,fun _=>1) (by simp) Ent.refl ?_
 rintro⟨k,V⟩ hk;simp only at hk ⊢;rcases Nat.lt_or_ge k d.finals.length with hkl|hkl
 · have hr:=hlf _ (Au hkl)
   have hsu:=fun i=>Up (fr:=fun (r:Eu)=>r.from_) (l:=d.finals) (k:=k) (i:=i);generalize hre:nth d.finals k=r at *;have hgr:=Ah r.guards;have hot:=Bl r.out;obtain⟨i,hi⟩:∃ i:Nat,r.from_=i:=⟨r.from_.toNat,by omega⟩;have hin:i<n:=by omega
   obtain⟨D,hD⟩:∃ D,D=Iq (fun (r:Eu)=>r.from_) d.finals k:=⟨_,rfl⟩;have hFl:(fF 1 e1 n V D).length=n:=Uk;have hTl:(fT 5 n V D).length=n:=zlr;have gI:∀ G,(fF 1 e1 n V D++[G]).getD i default=gG 1 e1 (V i) (D i):=fun G=>by rw[zlu hFl hin];exact zjv hin
   have gR:∀ G,(fF 1 e1 n V D++[G]).getD n default=G:=fun G=>by rw[O3 hFl];rfl
   have sR:∀ G G',setQ (fF 1 e1 n V D++[G]) n G'=some (fF 1 e1 n V D++[G']):=fun G G'=>by rw[Z0 _ _ hFl];rfl
   have tI:(fT 5 n V D).getD i .any=.ref (i+5) (V i) 0 (D i).length:=zu9 hin;have sI:∀ G G',setQ (fF 1 e1 n V D++[G]) i G'=some ((fF 1 e1 n V D).set i G'++[G]):=fun G G'=>z2y (by omega);have gR2:∀ G G',((fF 1 e1 n V D).set i G'++[G]).getD n default=G:=fun G G'=>by rw[O3 (by rw[List.length_set];exact hFl)];rfl
   have hSB:∀ R G,Cd 5 [i+5] (fF 1 e1 n V D++[R]) ((fF 1 e1 n V D).set i G++[R]):=fun R G=>z6l (by omega) (by simp;omega);have hEx:=zq3 (e:=e1) (D i);have hel:(D i).length≤k:=by rw[hD];exact R0 k i
   have eT:(fT 5 n V D).set i (.ref (i+5) (V i+1) 0 ((D i).length+1))=fT 5 n (setV V i (V i+1)) (setD D i (D i++[k])):=by
     have:=zls (o:=5) (V:=V) (D:=D) (l:=D i++[k]) hin
     rwa [List.length_append] at this
   have eF:(fF 1 e1 n V D).set i ⟨1,V i+1,false,(D i).map e1++[.int .i64 k]⟩=fF 1 e1 n (setV V i (V i+1)) (setD D i (D i++[k])):=by
     have:=zlt (V:=V) (D:=D) (w:=1) (e:=e1) (l:=D i++[k]) (by simp) hin;rw[List.map_append] at this;exact this
   have hsu:=hsu i hi;rw[←hD] at hsu;rw[zlz,←hD];unfold rnB;have hni:¬n=i:=by omega
   simp only[gG] at gI;refine W_T ?_;(with_reducible repeat' (first|(simp(disch:=omega)only[push_cast,↓zz,seval,xx,List.mem_cons,List.not_mem_nil,or_false,false_or,not_or,not_false_eq_true,true_or,or_true,pR,pFi,pX,hdn,hre,hi,hgr,hot,hFl,hTl,gI,gR,sR,tI,sI,gR2,hEx,hni])|refine And.intro ?_ ?_|(first|refine Ab ?_ ?_|refine Aa ?_ ?_)<;>intro hc<;>(try simp only[push_cast] at hc)|refine Cm [i+5] ?_|omega|intro _))
   · exact hSB _ _
   refine⟨(k+1,setV V i (V i+1)),Fl (gar:=[⟨3,1,true,[.agg [.int .i64 i,Ao r.guards,Ea r.out]]⟩]) _ ?_ (Nat.zero_le _) (z9s _ _ _ _ _) ?_,by simp only;omega,by simp only;omega⟩
   · rw[zlz,hsu,←eT,←eF]
     unfold rnB;rw[hdn];rfl
   · have hFv:ltV (n+5) (Cw d.finals):=Bv _ _ pFi
     have hXv:ltV (n+5) (Ag x):=Bv _ _ pX;rw[z3f];exact⟨rfl,hXv,rfl,(show 4<n+5 by omega),rfl,(show 0<n+5 by omega),rfl,hFv,rfl,trivial,rfl,trivial,trivial⟩
 obtain rfl:k=d.finals.length:=by omega
 have cl1:∀ G∈bgL d x (ruV d.rules n) (fiV d.finals n) n ⟨0,2,false,[]⟩ ⟨0,2,false,[]⟩,ltL 5 G.xs:=H0 (by omega) (Bv _ _ (show Ak _=true from E2 fun _=>rfl)) (Bv _ _ (show Ak _=true from E2 fun _=>rfl)) trivial trivial;refine Yl ((z9u d x n V).trans (Fl (l0:=bgL d x (ruV d.rules n) (fiV d.finals n) n ⟨0,2,false,[]⟩ ⟨0,2,false,[]⟩) [(1,Ag x),(2,.ptr 4 1 0 0),(5,.ptr 0 1 0 0),(56,Cw d.finals),(57,.int .i64 d.finals.length),(58,.int .i64 d.finals.length)] rfl (Nat.zero_le _) cl1 ?_)) ?_
 · have hFv:ltV 5 (Cw d.finals):=Bv _ _ pFi
   have hXv:ltV 5 (Ag x):=Bv _ _ pX;exact⟨rfl,hXv,rfl,(show 4<5 by omega),rfl,(show 0<5 by omega),rfl,hFv,rfl,trivial,rfl,trivial,trivial⟩
 clear cl1 V;unfold bgL rnB;have pB:∀ on,Ak (spB n on)=true:=fun on=>Bn.2 fun y hy=>by obtain⟨i,_,rfl⟩:=List.mem_map.1 hy;rfl
 have pRU:Ak (fD 1 e1 n (ruI d.rules))=true:=E2 fun _=>rfl;have pFI:Ak (fD 1 e1 n (fiI d.finals))=true:=E2 fun _=>rfl;have pFIv:(fiV d.finals n).pure=true:=pFI;refine W_T ?_;(with_reducible repeat' (first|(simp(disch:=omega)only[push_cast,↓zz,seval,pR,pFi,pX,hdn])|refine And.intro ?_ ?_|(first|refine Ab ?_ ?_|refine Aa ?_ ?_)<;>intro hc<;>(try simp only[push_cast] at hc)|omega|intro _))
 refine Ax (Ta (srcs:=[.grp 1,.grp 5,.virt 1,.grp 0,.grp 4]) (live:=[(1,Ag x),(2,.ptr 4 1 0 0),(5,.ptr 3 1 0 0),(10,.ref 1 1 0 n),(86,.int .i64 n),(87,.int .i64 0)])
   (heap:=bgS d x n 1 (fun _=>false) []) ?_ ?_)
 · unfold bgS srtL rnB ruV fiV gG
   (with_reducible repeat' (first|(simp(disch:=omega)only[push_cast,↓zz,seval,pR,pFi,pX,hdn,pB,zub,pRU,pFI,List.length_nil,List.map_nil])|refine And.intro ?_ ?_|(first|refine Ab ?_ ?_|refine Aa ?_ ?_)<;>intro hc<;>(try simp only[push_cast] at hc)|omega|intro _))
 refine Kv (fun (q:Nat × Nat × (Nat→Bool) × List Nat)=>q.1≤n∧Hold (Uo d.rules n q.1 q.2.2.1 q.2.2.2)) (fun q=>n-q.1)
   (fun q=>De [(1,Ag x),(2,.ptr 4 1 0 0),(5,.ptr 3 1 0 0),(10,.ref 1 1 0 n),(86,.int .i64 n),(87,.int .i64 q.1)]) (fun q=>Abs.hl (bgS d x n q.2.1 q.2.2.1 q.2.2.2)) (0,1,(fun _=>false),[]) ⟨Nat.zero_le _,⟨z3a _ _⟩⟩ Ent.refl ?_
 rintro⟨k,v,dn,ord⟩ ⟨hk,⟨hA⟩⟩;simp only at hk hA ⊢;have hXv:ltV 5 (Ag x):=Bv _ _ pX;rcases Nat.lt_or_ge k n with hkn|hkn
 · have hS:=zk0 d x hn hrl hl2 hcy (fiV d.finals n) pFIv (Jh dn n) k v dn ord (Nat.le_refl _) hkn (z9p hA)
   rw[bgS,srtL];refine W_T ?_;(with_reducible repeat' (first|(simp(disch:=omega)only[push_cast,↓zz,seval])|refine And.intro ?_ ?_|(first|refine Ab ?_ ?_|refine Aa ?_ ?_)<;>intro hc<;>(try simp only[push_cast] at hc)|omega|intro _));refine zeo (l0:=srtL d x n (fiV d.finals n) v dn ord) (extra:=[⟨1,1,true,[.ptr 0 1 0 0]⟩,⟨6,1,true,[B2 d]⟩]) rfl hS ?_ (Ef d x n _ pFIv _ _ _) ?_
   · exact⟨(show 0<3 by omega),trivial,(show 1<3 by omega),trivial⟩
   rintro y H' ⟨v2,dn2,new,rfl,rfl,hpost⟩;refine⟨_,rfl,rfl,trivial,Ef d x n _ pFIv _ _ _,?_⟩;have hA2:=z3b hA hpost;(with_reducible repeat' (first|(simp(disch:=omega)only[push_cast,↓zz,seval])|refine And.intro ?_ ?_|(first|refine Ab ?_ ?_|refine Aa ?_ ?_)<;>intro hc<;>(try simp only[push_cast] at hc)|omega|intro _));refine⟨(k+1,v2,dn2,ord++new),Fl (gar:=[]) _ (List.append_nil _).symm (Nat.zero_le _) (z9v d x n _ _ _) ?_,⟨by omega,⟨hA2⟩⟩,by simp only;omega⟩;exact⟨rfl,hXv,rfl,(show 4<5 by omega),rfl,(show 3<5 by omega),rfl,(show 1<5 by omega),rfl,trivial,rfl,trivial,trivial⟩
 obtain rfl:k=n:=by omega
 have hT:=z3c hA
 refine Yl (z9w d x k v dn ord) (Ta (srcs:=[.grp 0,.grp 3,.grp 4]) (live:=[(1,Ag x),(2,.ptr 2 1 0 0),(5,.ptr 1 1 0 0),(86,.int .i64 k),(87,.int .i64 k)])
   (heap:=[⟨11,1,true,[rnB d x (ruV d.rules k) (fiV d.finals k) (.lst 1 (ord.map e1)) .nilS]⟩,⟨1,1,true,[.ptr 0 1 0 0]⟩,⟨6,1,true,[B2 d]⟩]) ?_ ?_)
 · have pO:Ak (ord.map e1)=true:=Dc (fun _=>rfl) _
   unfold rnB ruV fiV;(with_reducible repeat' (first|(simp(disch:=omega)only[push_cast,↓zz,seval,pR,pFi,pX,hdn,pRU,pFI,pO])|refine And.intro ?_ ?_|(first|refine Ab ?_ ?_|refine Aa ?_ ?_)<;>intro hc<;>(try simp only[push_cast] at hc)|omega|intro _))
 have pO:Ak (ord.map e1)=true:=Dc (fun _=>rfl) _;have hmx:(x.length+1) * k≤1025 * 1024:=Nat.mul_le_mul (by omega) hn;obtain⟨m,hm⟩:∃ m,m=(x.length+1) * k:=⟨_,rfl⟩;have hmi:((x.length:Int)+1) * (k:Int)=(m:Int):=by rw[hm];norm_cast
 rw[←hm] at hmx;obtain⟨s0,hs0⟩:∃ s0:Nat,d.start=s0:=⟨d.start.toNat,by omega⟩
 have hsm:s0<m:=by
   have:=Gi (a:=0) (k:=x.length) (t:=s0) (n:=k) (by omega) (Nat.zero_le _);rw[hm];omega
 have hst:(List.replicate m (AV.bool false)).set s0 (.bool true)=lvB k m (setP (fun _ _=>false) 0 s0 true):=by
   have:=zeq (n:=k) (m:=m) (a:=0) (t:=s0) (L:=fun _ _=>false) (v:=true) (by omega) (by omega);rw[Nat.zero_mul,Nat.zero_add,←zk1] at this;exact this
 have pLv:∀ L,Ak (lvB k m L)=true:=fun L=>O4;unfold rnB;refine W_T ?_;(with_reducible repeat' (first|(simp(disch:=omega)only[push_cast,↓zz,seval,pR,pFi,pX,hdn,hmi,hs0,hst,pLv,List.length_replicate])|refine And.intro ?_ ?_|(first|refine Ab ?_ ?_|refine Aa ?_ ?_)<;>intro hc<;>(try simp only[push_cast] at hc)|omega|intro _));have hstn:d.start.toNat=s0:=by omega
 refine Ax (A8 (fun (q:Nat × (Nat→Nat→Bool))=>q.1≤x.length+1∧Hold (Liv d x k ord q.1 0 q.2)) (fun q=>x.length+1-q.1)
   (fun q=>[(1,Ag x),(2,.ptr 2 1 0 0),(5,.ptr 1 1 0 0),(12,.ptr 4 1 0 0)]) (fun q=>bgV d x k m ord q.1 q.2) (fun env _=>[.grp 0,.grp 1,.grp 2,.grp 3,Bm 1 (env 12)]) (0,setP (fun _ _=>false) 0 d.start.toNat true) ⟨Nat.zero_le _,⟨zk2 hs (Dk hT)⟩⟩ ?_ ?_)
 · unfold bgV rnB ruV fiV
   (with_reducible repeat' (first|(simp(disch:=omega)only[push_cast,↓zz,seval,pR,pFi,pX,hdn,hs0,hstn,pLv,pRU,pFI,pO,Int.toNat_natCast])|refine And.intro ?_ ?_|(first|refine Ab ?_ ?_|refine Aa ?_ ?_)<;>intro hc<;>(try simp only[push_cast] at hc)|omega|intro _))
 rintro⟨at_,L⟩ ⟨ha,⟨hI⟩⟩;simp only at ha hI ⊢;have hol:=Dk hT;rcases Nat.lt_or_ge at_ (x.length+1) with hal|hal
 · have hB:=Rz ord (by omega)
   have hit:=zey ord (by omega);unfold bgV rnB ruV fiV;refine W_T ?_;(with_reducible repeat' (first|(simp(disch:=omega)only[push_cast,↓zz,seval,pR,pFi,pX,hdn,pLv,pRU,pFI,pO])|refine And.intro ?_ ?_|(first|refine Ab ?_ ?_|refine Aa ?_ ?_)<;>intro hc<;>(try simp only[push_cast] at hc)|refine eK hB ?_|refine eQ hB ?_|refine eG hB ?_|((first|refine cK hB ?_|refine cQ hB ?_|refine cG hB ?_);(simp(disch:=omega)only[push_cast,↓zz,seval,pR,pFi,pX,hdn,pLv,pRU,pFI,pO]);(fail_if_success change False))|omega|intro _))
   refine Vh (z4r (σ:=Nat→Nat→Bool) (fun j L=>Hold (Liv d x k ord at_ j L)) [(1,Ag x),(2,.ptr 2 1 0 0),(5,.ptr 1 1 0 0),(12,.ptr 4 1 0 0),(122,.fn 134 [.cptr (.lst 1 (ord.map e1))])] (fun L=>bgV d x k m ord at_ L)
     [.grp 0,.grp 1,.grp 2,.grp 3,.grp 4] 5 L hit ?_ (fun _=>rfl) rfl ?_ rfl rfl (z9q _) (zex _) (by simp) ⟨hI⟩ ?_ ?_)
   · unfold bgV rnB ruV fiV
     (with_reducible repeat' (first|(simp(disch:=omega)only[push_cast,↓zz,seval,pR,pFi,pX,hdn,pLv,pRU,pFI,pO])|refine And.intro ?_ ?_|(first|refine Ab ?_ ?_|refine Aa ?_ ?_)<;>intro hc<;>(try simp only[push_cast] at hc)|omega|intro _))
   · (with_reducible repeat' (first|(simp(disch:=omega)only[push_cast,↓zz,seval,pO])|refine And.intro ?_ ?_|(first|refine Ab ?_ ?_|refine Aa ?_ ?_)<;>intro hc<;>(try simp only[push_cast] at hc)|omega|intro _))
   · rintro j row L hrow ⟨hI⟩
     obtain⟨hj,rfl⟩:=zew hrow;clear hrow hit;have hjk:j<k:=by omega
     obtain⟨s,hse⟩:∃ s,s=nth ord (k-1-j):=⟨_,rfl⟩;have hsn:s<k:=(hT.all _).1 (by rw[hse];exact Au (by omega));rw[hol,←hse,show e1 s=AV.int .i64 ((s:Nat):Int) from rfl];have hat:at_≤x.length:=by omega
     have hpm:=Gi hsn hat;rw[←hm] at hpm;have aL:∀ L,(lvB k m L).getD (at_ * k+s) .any=.bool (L at_ s):=fun L=>zlx hsn hpm;have lL:∀ L,(lvB k m L).length=m:=fun L=>K8;have hmul:(at_:Int) * (k:Int)=((at_ * k:Nat):Int):=by norm_cast
     have hmulb:at_ * k≤1024 * 1024:=Nat.mul_le_mul (by omega) hn
     have hset:∀ L e t,at_+e≤x.length→t<k→(lvB k m L).set ((at_+e) * k+t) (.bool true)=lvB k m (setP L (at_+e) t true)∧(at_+e) * k+t<m:=fun L e t he htk=>by
       have:=Gi htk he;rw[←hm] at this;exact⟨zeq htk this,this⟩
     generalize hpe:at_ * k+s=p at *;generalize at_ * k=an at *;have hpi:(an:Int)+(s:Int)=(p:Int):=by omega
     have aLv:=aL L;have aR:(fD 1 e1 k (ruI d.rules)).getD s .any=.lst 1 ((ruI d.rules s).map e1):=zjw hsn;have aR2:(fD 1 e1 k (ruI d.rules))[s]? = some (.lst 1 ((ruI d.rules s).map e1)):=z6j hsn;have lRU:(fD 1 e1 k (ruI d.rules)).length=k:=z6i;have pRI:Ak ((ruI d.rules s).map e1)=true:=Dc (fun _=>rfl) _;refine W_T ?_;(with_reducible repeat' (first|(simp(disch:=omega)only[push_cast,↓zz,seval])|refine And.intro ?_ ?_|(first|refine Ab ?_ ?_|refine Aa ?_ ?_)<;>intro hc<;>(try simp only[push_cast] at hc)|omega|intro _));unfold bgV rnB ruV fiV;refine W_T ?_;cases hLs:L at_ s with
     | false =>
       rw[hLs] at aLv;(with_reducible repeat' (first|(simp(disch:=omega)only[push_cast,↓zz,seval,pR,pFi,pX,hdn,pLv,lL,pRU,pFI,pO,hmul,hpi,aLv,aR,aR2,lRU,pRI])|refine And.intro ?_ ?_|(first|refine Ab ?_ ?_|refine Aa ?_ ?_)<;>intro hc<;>(try simp only[push_cast] at hc)|omega|intro _));exact⟨L,Bf _ _,⟨zk5 hI hT hjk hse hLs⟩⟩
     | true =>
       rw[hLs] at aLv;(with_reducible repeat' (first|(simp(disch:=omega)only[push_cast,↓zz,seval,pR,pFi,pX,hdn,pLv,lL,pRU,pFI,pO,hmul,hpi,aLv,aR,aR2,lRU,pRI])|refine And.intro ?_ ?_|(first|refine Ab ?_ ?_|refine Aa ?_ ?_)<;>intro hc<;>(try simp only[push_cast] at hc)|omega|intro _))
       refine Ax (A8 (fun (q:Nat × (Nat→Nat→Bool))=>q.1≤(ruI d.rules s).length∧Hold (LivS d x k ord at_ j s q.1 q.2)) (fun q=>(ruI d.rules s).length-q.1)
         (fun q=>[(1,Ag x),(2,.ptr 2 1 0 0),(5,.ptr 1 1 0 0),(12,.ptr 4 1 0 0),(144,.lst 1 ((ruI d.rules s).map e1)),(145,.int .i64 (ruI d.rules s).length),(146,.int .i64 q.1)]) (fun q=>bgV d x k m ord at_ q.2) (fun _ _=>[]) (0,L) ⟨Nat.zero_le _,⟨zer hI hLs⟩⟩ ?_ ?_)
       · unfold bgV rnB ruV fiV
         (with_reducible repeat' (first|(simp(disch:=omega)only[push_cast,↓zz,seval,pR,pFi,pX,hdn,pLv,pRU,pFI,pO,pRI])|refine And.intro ?_ ?_|(first|refine Ab ?_ ?_|refine Aa ?_ ?_)<;>intro hc<;>(try simp only[push_cast] at hc)|omega|intro _))
       rintro⟨i0,L2⟩ ⟨hi0,⟨hI2⟩⟩;simp only at hi0 hI2 ⊢;unfold bgV rnB ruV fiV;have hIl:=z2z d.rules s;rcases Nat.lt_or_ge i0 (ruI d.rules s).length with hil|hil
       · obtain⟨i,hi⟩:∃ i,i=nth (ruI d.rules s) i0:=⟨_,rfl⟩
         have him:i∈ruI d.rules s:=by rw[hi];exact Au hil
         obtain⟨i1,i2⟩:=He.1 him;have aI:((ruI d.rules s).map e1).getD i0 .any=.int .i64 i:=by rw[hi];simp[nth,List.getD,hil]
         have hr:=Au i1;obtain⟨hg1,hg2⟩:=hgb _ hr;obtain⟨_,htt,_,_⟩:=hgo.r _ hr;have hF:=Wp d x (.lst 1 (fD 1 e1 k (ruI d.rules))) (.lst 1 (fD 1 e1 k (fiI d.finals))) (.lst 1 (ord.map e1)) (.lst 1 (lvB k m L2)) (nth d.rules i).guards at_ pRU pFI pO (pLv L2) (by omega) h32 hg1.2 hg1.1 (by omega);simp only[C4,hdn] at hF;have hyes:=fun hg=>zk3 hI2 hgo hT hjk hse hil hg;have hno:=fun hg=>zq8 hI2 (k:=i0) hg;rw[←hi] at hyes hno;have tL:List.take m (lvB k m L2)=lvB k m L2:=List.take_of_length_le (by rw[K8];exact Nat.le_refl _);generalize hre:nth d.rules i=r at *;have hgr:=Ah r.guards;have hot:=Bl r.out;obtain⟨e,he⟩:∃ e:Nat,r.eat=e:=⟨r.eat.toNat,by omega⟩;obtain⟨t,htq⟩:∃ t:Nat,r.to_=t:=⟨r.to_.toNat,by omega⟩;have het:r.eat.toNat=e:=by omega
         have htt2:r.to_.toNat=t:=by omega
         rw[het,htt2] at hyes;cases hb:goB x r.guards at_ with
         | false =>
           rw[hb] at hF;have hno:=hno hb;refine W_T ?_;(with_reducible repeat' (first|(simp(disch:=omega)only[push_cast,↓zz,seval,pR,pFi,pX,hdn,pLv,lL,pRU,pFI,pO,pRI,aI,hre,hgr,hot,tL])|refine And.intro ?_ ?_|(first|refine Ab ?_ ?_|refine Aa ?_ ?_)<;>intro hc<;>(try simp only[push_cast] at hc)|refine eK hF ?_|refine eQ hF ?_|refine eG hF ?_|((first|refine cK hF ?_|refine cQ hF ?_|refine cG hF ?_);(simp(disch:=omega)only[push_cast,↓zz,seval,pR,pFi,pX,hdn,pLv,lL,pRU,pFI,pO,pRI,aI,hre,hgr,hot,tL]);(fail_if_success change False))|omega|intro _));exact⟨(i0+1,L2),⟨by simp,Bf _ _⟩,⟨by omega,⟨hno⟩⟩,by simp only;omega⟩
         | true =>
           rw[hb] at hF;have hyes:=hyes hb;have hle:=Jg hb;have hge:=(hgo.r _ hr).2.2.1;rw[het] at hge;obtain⟨hs1,hs2⟩:=hset L2 e t (by omega) (by omega);have hae:(at_:Int)+(e:Int)=((at_+e:Nat):Int):=by norm_cast
           have hmul2:((at_+e:Nat):Int) * (k:Int)=(((at_+e) * k:Nat):Int):=by norm_cast
           have hmulb2:(at_+e) * k≤1024 * 1024:=Nat.mul_le_mul (by omega) hn;generalize hpe2:(at_+e) * k+t=p2 at *;generalize (at_+e) * k=an2 at *;have hpi2:(an2:Int)+(t:Int)=(p2:Int):=by omega
           generalize hbe:at_+e=b2 at *;refine W_T ?_;(with_reducible repeat' (first|(simp(disch:=omega)only[push_cast,↓zz,seval,pR,pFi,pX,hdn,pLv,lL,pRU,pFI,pO,pRI,aI,hre,hgr,hot,tL,he,htq,hae,hmul2,hpi2,hs1])|refine And.intro ?_ ?_|(first|refine Ab ?_ ?_|refine Aa ?_ ?_)<;>intro hc<;>(try simp only[push_cast] at hc)|refine eK hF ?_|refine eQ hF ?_|refine eG hF ?_|((first|refine cK hF ?_|refine cQ hF ?_|refine cG hF ?_);(simp(disch:=omega)only[push_cast,↓zz,seval,pR,pFi,pX,hdn,pLv,lL,pRU,pFI,pO,pRI,aI,hre,hgr,hot,tL,he,htq,hae,hmul2,hpi2,hs1]);(fail_if_success change False))|omega|intro _));exact⟨(i0+1,setP L2 b2 t true),⟨by simp,Bf _ _⟩,⟨by omega,⟨hyes⟩⟩,by simp only;omega⟩
       · obtain rfl:i0=(ruI d.rules s).length:=by omega
         have hend:=zk4 hI2 hT hjk hse;refine W_T ?_;(with_reducible repeat' (first|(simp(disch:=omega)only[push_cast,↓zz,seval,pR,pFi,pX,hdn,pLv,lL,pRU,pFI,pO,pRI])|refine And.intro ?_ ?_|(first|refine Ab ?_ ?_|refine Aa ?_ ?_)<;>intro hc<;>(try simp only[push_cast] at hc)|omega|intro _));exact⟨L2,Bf _ _,⟨hend⟩⟩
   · rintro L ⟨hI⟩
     rw[Ry,hol] at hI;have hI2:=zq9 hI hT;unfold bgV rnB ruV fiV;(with_reducible repeat' (first|(simp(disch:=omega)only[push_cast,↓zz,seval,pR,pFi,pX,hdn,pLv,pRU,pFI,pO])|refine And.intro ?_ ?_|(first|refine Ab ?_ ?_|refine Aa ?_ ?_)<;>intro hc<;>(try simp only[push_cast] at hc)|omega|intro _));refine⟨(at_+1,L),⟨Bf _ _,by simp⟩,⟨by omega,⟨hI2⟩⟩,by simp only;omega⟩
 · obtain rfl:at_=x.length+1:=by omega
   have hE:=zqa hI;have tL:∀ L,List.take m (lvB k m L)=lvB k m L:=fun L=>List.take_of_length_le (by rw[K8];exact Nat.le_refl _);unfold bgV rnB ruV fiV;refine W_T ?_;(with_reducible repeat' (first|(simp(disch:=omega)only[push_cast,↓zz,seval,pR,pFi,pX,hdn,pLv,pRU,pFI,pO])|refine And.intro ?_ ?_|(first|refine Ab ?_ ?_|refine Aa ?_ ?_)<;>intro hc<;>(try simp only[push_cast] at hc)|omega|intro _));refine⟨_,_,zkc 4 [0,3] (z:=C4 d x (ruV d.rules k) (fiV d.finals k) (.lst 1 (ord.map e1)) (.lst 1 (lvB k m L))) ?_ ?_ ?_,rfl,ord,L,?_,hT,hE⟩
   · (simp(disch:=omega)only[push_cast,↓zz,seval,pR,pFi,pX,pLv,pRU,pFI,pO,K8,tL])
   · (simp(disch:=omega)only[push_cast,↓zz,seval,pR,pFi,pX,pLv,pRU,pFI,pO,K8,tL])
     have e:(k:Int)=d.states:=hdn.symm;rw[e];rfl
   · simp[AV.pure,Ak,pR,pFi,pX,pLv,pRU,pFI,pO,ruV,fiV]
   · rw[hm];rfl
end Go.Proofs.YtbcjoeadpjfcfaaGreat
set_option maxRecDepth 100000
namespace Go.Proofs.YtbcjoeadpjfcfaaGreat
open Abs
def B0:List Int→List Int→Nat
 | [],_=>0
 | _,[]=>0
 | a::l,b::m=>if a=b then B0 l m+1 else 0
def cmpL:List Int→List Int→Int
 | [],[]=>0
 | [],_::_=>-1
 | _::_,[]=>1
 | a::l,b::m=>if a<b then -1 else if b<a then 1 else cmpL l m
theorem Wy:∀ a b:List Int,B0 a b≤a.length∧B0 a b≤b.length
 | [],_=>by simp[B0]
 | _::_,[]=>by simp[B0]
 | a::l,b::m=>by
   have:=Wy l m;simp only[B0];split<;>simp<;>omega
theorem Uq {a b:List Int} {k:Nat} (h1:k<a.length) (h2:k<b.length) (he:nth a k=nth b k):B0 (a.drop k) (b.drop k)=B0 (a.drop (k+1)) (b.drop (k+1))+1:=by
 rw[drop_at h1,drop_at h2,B0,if_pos he]
theorem Ur {a b:List Int} {k:Nat} (h:¬(k<a.length∧k<b.length∧nth a k=nth b k)):B0 (a.drop k) (b.drop k)=0:=by
 by_cases h1:k<a.length
 · by_cases h2:k<b.length
   · rw[drop_at h1,drop_at h2,B0,if_neg fun e=>h ⟨h1,h2,e⟩]
   · rw[List.drop_of_length_le (l:=b) (by omega)]
     cases a.drop k<;>rfl
 · rw[List.drop_of_length_le (l:=a) (by omega)];rfl
theorem R2:∀ a b:List Int,cmpL a b=if B0 a b=a.length∧B0 a b=b.length then 0 else if B0 a b=a.length then -1 else if B0 a b=b.length then 1 else if nth a (B0 a b)<nth b (B0 a b) then -1 else if nth b (B0 a b)<nth a (B0 a b) then 1 else 0
 | [],[]=>rfl
 | [],_::_=>by simp[cmpL,B0]
 | _::_,[]=>by simp[cmpL,B0]
 | a::l,b::m=>by
   by_cases e:a=b
   · subst e
     have h1:B0 (a::l) (a::m)=B0 l m+1:=by rw[B0,if_pos rfl]
     have h2:cmpL (a::l) (a::m)=cmpL l m:=by rw[cmpL,if_neg (Int.lt_irrefl _),if_neg (Int.lt_irrefl _)]
     rw[h1,h2,R2 l m];simp only[List.length_cons,Nat.add_right_cancel_iff,Ln];rfl
   · have h1:B0 (a::l) (b::m)=0:=by rw[B0,if_neg e]
     have n1:¬(0=l.length+1):=by omega
     have n2:¬(0=m.length+1):=by omega
     rw[h1,cmpL];rw[List.length_cons,List.length_cons,if_neg (show ¬(0=l.length+1∧0=m.length+1) from fun h=>n1 h.1),if_neg n1,if_neg n2];by_cases h2:a<b
     · rw[if_pos h2,if_pos (show nth (a::l) 0<nth (b::m) 0 from h2)]
     · have h3:b<a:=by omega
       rw[if_neg h2,if_neg (show ¬nth (a::l) 0<nth (b::m) 0 from h2),if_pos h3,if_pos (show nth (b::m) 0<nth (a::l) 0 from h3)]
theorem z9x (a b:List Int) (hl:a.length≤1000000000):PC Tryz.prog 114 [Ag a,Ag b] (.int .i64 (B0 a b)):=by
 have pa:Ak (a.map (AV.int .i32))=true:=Ay .i32 _;have pb:Ak (b.map (AV.int .i32))=true:=Ay .i32 _;refine A7 Yw ?_;unfold Nx;(with_reducible repeat' (first|(simp(disch:=omega)only[push_cast,↓zz,seval])|refine And.intro ?_ ?_|(first|refine Ab ?_ ?_|refine Aa ?_ ?_)<;>intro hc<;>(try simp only[push_cast] at hc)|omega|intro _))
 refine Ax (A8 (fun (k:Nat)=>k≤a.length∧B0 a b=k+B0 (a.drop k) (b.drop k)) (fun k=>a.length-k)
   (fun k=>[(0,Ag a),(1,Ag b),(5,.int .i64 k)]) (fun s=>[]) (fun env _=>[]) 0 (by simp) ?_ ?_)
 · (with_reducible repeat' (first|(simp(disch:=omega)only[push_cast,↓zz,seval,pa,pb])|refine And.intro ?_ ?_|(first|refine Ab ?_ ?_|refine Aa ?_ ?_)<;>intro hc<;>(try simp only[push_cast] at hc)|omega|intro _))
 rintro k ⟨hk,hr⟩;refine W_T ?_;by_cases h:k<a.length∧k<b.length∧nth a k=nth b k
 · obtain⟨h1,h2,h3⟩:=h
   have hs:=Uq h1 h2 h3;(with_reducible repeat' (first|(simp(disch:=omega)only[push_cast,↓zz,seval,pa,pb,h3])|refine And.intro ?_ ?_|(first|refine Ab ?_ ?_|refine Aa ?_ ?_)<;>intro hc<;>(try simp only[push_cast] at hc)|omega|intro _))
   all_goals
     refine⟨k+1,?_⟩;(with_reducible repeat' (first|(simp(disch:=omega)only[push_cast,↓zz,seval,pa,pb])|refine And.intro ?_ ?_|(first|refine Ab ?_ ?_|refine Aa ?_ ?_)<;>intro hc<;>(try simp only[push_cast] at hc)|omega|intro _))
 · have hs:=Ur h
   rw[hs] at hr;by_cases h1:k<a.length
   · by_cases h2:k<b.length
     · have h3:¬nth a k=nth b k:=fun e=>h ⟨h1,h2,e⟩
       (with_reducible repeat' (first|(simp(disch:=omega)only[push_cast,↓zz,seval,pa,pb,h3])|refine And.intro ?_ ?_|(first|refine Ab ?_ ?_|refine Aa ?_ ?_)<;>intro hc<;>(try simp only[push_cast] at hc)|omega|intro _))
       all_goals first|omega|trace_state
     · (with_reducible repeat' (first|(simp(disch:=omega)only[push_cast,↓zz,seval,pa,pb])|refine And.intro ?_ ?_|(first|refine Ab ?_ ?_|refine Aa ?_ ?_)<;>intro hc<;>(try simp only[push_cast] at hc)|omega|intro _))
       all_goals first|omega|trace_state
   · (with_reducible repeat' (first|(simp(disch:=omega)only[push_cast,↓zz,seval,pa,pb])|refine And.intro ?_ ?_|(first|refine Ab ?_ ?_|refine Aa ?_ ?_)<;>intro hc<;>(try simp only[push_cast] at hc)|omega|intro _))
     all_goals first|omega|trace_state
theorem Z8 (x:Int):PC Tryz.prog 144 [.int .i32 x] (.bool false):=by
 refine A7 Oi ?_;unfold Ir;(with_reducible repeat' (first|(simp(disch:=omega)only[push_cast,↓zz,seval])|refine And.intro ?_ ?_|(first|refine Ab ?_ ?_|refine Aa ?_ ?_)<;>intro hc<;>(try simp only[push_cast] at hc)|omega|intro _))
 all_goals trace_state
theorem zkd (x y:Int):PC Tryz.prog 115 [.int .i32 x,.int .i32 y] (.int .i64 (if x<y then -1 else if y<x then 1 else 0)):=by
 have hx:=Z8 x;have hy:=Z8 y;refine A7 Lx ?_;unfold G6;by_cases h1:x<y
 · rw[if_pos h1]
   (with_reducible repeat' (first|(simp(disch:=omega)only[push_cast,↓zz,seval,h1])|refine And.intro ?_ ?_|(first|refine Ab ?_ ?_|refine Aa ?_ ?_)<;>intro hc<;>(try simp only[push_cast] at hc)|refine eK hx ?_|refine eQ hx ?_|refine eG hx ?_|refine eK hy ?_|refine eQ hy ?_|refine eG hy ?_|((first|refine cK hx ?_|refine cQ hx ?_|refine cG hx ?_|refine cK hy ?_|refine cQ hy ?_|refine cG hy ?_);(simp(disch:=omega)only[push_cast,↓zz,seval,h1]);(fail_if_success change False))|omega|intro _))
 · rw[if_neg h1]
   by_cases h2:y<x
   · rw[if_pos h2]
     (with_reducible repeat' (first|(simp(disch:=omega)only[push_cast,↓zz,seval,h1,h2])|refine And.intro ?_ ?_|(first|refine Ab ?_ ?_|refine Aa ?_ ?_)<;>intro hc<;>(try simp only[push_cast] at hc)|refine eK hx ?_|refine eQ hx ?_|refine eG hx ?_|refine eK hy ?_|refine eQ hy ?_|refine eG hy ?_|((first|refine cK hx ?_|refine cQ hx ?_|refine cG hx ?_|refine cK hy ?_|refine cQ hy ?_|refine cG hy ?_);(simp(disch:=omega)only[push_cast,↓zz,seval,h1,h2]);(fail_if_success change False))|omega|intro _))
   · rw[if_neg h2]
     (with_reducible repeat' (first|(simp(disch:=omega)only[push_cast,↓zz,seval,h1,h2])|refine And.intro ?_ ?_|(first|refine Ab ?_ ?_|refine Aa ?_ ?_)<;>intro hc<;>(try simp only[push_cast] at hc)|refine eK hx ?_|refine eQ hx ?_|refine eG hx ?_|refine eK hy ?_|refine eQ hy ?_|refine eG hy ?_|((first|refine cK hx ?_|refine cQ hx ?_|refine cG hx ?_|refine cK hy ?_|refine cQ hy ?_|refine cG hy ?_);(simp(disch:=omega)only[push_cast,↓zz,seval,h1,h2]);(fail_if_success change False))|omega|intro _))
     all_goals trace_state
theorem Of (a b:List Int) (ha:a.length≤1000000000) (hb:b.length≤1000000000):PC Tryz.prog 77 [Ag a,Ag b] (.int .i64 (cmpL a b)):=by
 have pa:Ak (a.map (AV.int .i32))=true:=Ay .i32 _;have pb:Ak (b.map (AV.int .i32))=true:=Ay .i32 _;have hF:=z9x a b ha;have hfl:=Wy a b;have hC:=zkd (nth a (B0 a b)) (nth b (B0 a b));rw[R2];generalize hf:B0 a b=f at *;refine A7 Sf ?_;unfold J9;by_cases h1:f=a.length
 · by_cases h2:f=b.length
   · rw[if_pos ⟨h1,h2⟩]
     (with_reducible repeat' (first|(simp(disch:=omega)only[push_cast,↓zz,seval,pa,pb])|refine And.intro ?_ ?_|(first|refine Ab ?_ ?_|refine Aa ?_ ?_)<;>intro hc<;>(try simp only[push_cast] at hc)|refine eK hF ?_|refine eQ hF ?_|refine eG hF ?_|((first|refine cK hF ?_|refine cQ hF ?_|refine cG hF ?_);(simp(disch:=omega)only[push_cast,↓zz,seval,pa,pb]);(fail_if_success change False))|omega|intro _))
     all_goals first|omega|trace_state
   · rw[if_neg (fun h=>h2 h.2),if_pos h1]
     (with_reducible repeat' (first|(simp(disch:=omega)only[push_cast,↓zz,seval,pa,pb])|refine And.intro ?_ ?_|(first|refine Ab ?_ ?_|refine Aa ?_ ?_)<;>intro hc<;>(try simp only[push_cast] at hc)|refine eK hF ?_|refine eQ hF ?_|refine eG hF ?_|((first|refine cK hF ?_|refine cQ hF ?_|refine cG hF ?_);(simp(disch:=omega)only[push_cast,↓zz,seval,pa,pb]);(fail_if_success change False))|omega|intro _))
     all_goals first|omega|trace_state
 · rw[if_neg (fun h=>h1 h.1),if_neg h1]
   by_cases h2:f=b.length
   · rw[if_pos h2]
     (with_reducible repeat' (first|(simp(disch:=omega)only[push_cast,↓zz,seval,pa,pb])|refine And.intro ?_ ?_|(first|refine Ab ?_ ?_|refine Aa ?_ ?_)<;>intro hc<;>(try simp only[push_cast] at hc)|refine eK hF ?_|refine eQ hF ?_|refine eG hF ?_|((first|refine cK hF ?_|refine cQ hF ?_|refine cG hF ?_);(simp(disch:=omega)only[push_cast,↓zz,seval,pa,pb]);(fail_if_success change False))|omega|intro _))
     all_goals first|omega|trace_state
   · rw[if_neg h2]
     (with_reducible repeat' (first|(simp(disch:=omega)only[push_cast,↓zz,seval,pa,pb])|refine And.intro ?_ ?_|(first|refine Ab ?_ ?_|refine Aa ?_ ?_)<;>intro hc<;>(try simp only[push_cast] at hc)|refine eK hF ?_|refine eQ hF ?_|refine eG hF ?_|refine eK hC ?_|refine eQ hC ?_|refine eG hC ?_|((first|refine cK hF ?_|refine cQ hF ?_|refine cG hF ?_|refine cK hC ?_|refine cQ hC ?_|refine cG hC ?_);(simp(disch:=omega)only[push_cast,↓zz,seval,pa,pb]);(fail_if_success change False))|omega|intro _))
     all_goals first|omega|trace_state
end Go.Proofs.YtbcjoeadpjfcfaaGreat
set_option maxRecDepth 100000
namespace Go.Proofs.YtbcjoeadpjfcfaaGreat
open Abs
theorem Wz:∀ a b:List Int,cmpL a b=0↔a=b
 | [],[]=>by simp[cmpL]
 | [],_::_=>by simp[cmpL]
 | _::_,[]=>by simp[cmpL]
 | a::l,b::m=>by
   simp only[cmpL,List.cons.injEq];by_cases h1:a<b
   · rw[if_pos h1];constructor
     · intro h;cases h
     · intro h;omega
   · rw[if_neg h1]
     by_cases h2:b<a
     · rw[if_pos h2];constructor
       · intro h;cases h
       · intro h;omega
     · rw[if_neg h2,Wz l m]
       have:a=b:=by omega
       simp[this]
theorem Z9:∀ a b:List Int,cmpL a b<0↔ltW a b=true
 | [],[]=>by simp[cmpL,ltW]
 | [],_::_=>by simp[cmpL,ltW]
 | _::_,[]=>by simp[cmpL,ltW]
 | a::l,b::m=>by
   simp only[cmpL,ltW];by_cases h1:a<b
   · rw[if_pos h1,if_pos h1];simp
   · rw[if_neg h1,if_neg h1]
     by_cases h2:b<a
     · rw[if_pos h2,if_pos h2];simp
     · rw[if_neg h2,if_neg h2];exact Z9 l m
theorem zf0 (a b:List Int) (ha:a.length≤1000000000) (hb:b.length≤1000000000):PC Tryz.prog 109 [Ag a,Ag b] (.bool (decide (a=b))):=by
 have hC:=Of a b ha hb;have hz:decide (cmpL a b=0)=decide (a=b):=decide_eq_decide.2 (Wz a b);refine A7 Vs ?_;unfold Lw;rw[←hz];generalize cmpL a b=c at *;(with_reducible repeat' (first|(simp(disch:=omega)only[push_cast,↓zz,seval])|refine And.intro ?_ ?_|(first|refine Ab ?_ ?_|refine Aa ?_ ?_)<;>intro hc<;>(try simp only[push_cast] at hc)|refine eK hC ?_|refine eQ hC ?_|refine eG hC ?_|((first|refine cK hC ?_|refine cQ hC ?_|refine cG hC ?_);(simp(disch:=omega)only[push_cast,↓zz,seval]);(fail_if_success change False))|omega|intro _))
 all_goals trace_state
def Bt (l:List (List Int)):Nat→List (List Int)
 | 0=>[]
 | k+1=>if 0<k∧nth l k=nth l (k-1) then Bt l k else Bt l k++[nth l k]
theorem R3 {l:List (List Int)}:∀ (k:Nat),k≤l.length→∀ w,w∈Bt l k↔w∈l.take k
 | 0,_,w=>by simp[Bt]
 | k+1,hk,w=>by
   have ih:=R3 (l:=l) k (by omega) w;rw[take_at (by omega),Bt];split
   · rename_i h
     rw[ih,List.mem_append,List.mem_singleton];constructor
     · exact .inl
     · rintro (h1|rfl)
       · exact h1
       · rw[h.2]
         have e:l.take k=l.take (k-1)++[nth l (k-1)]:=by
           have:=take_at (l:=l) (i:=k-1) (by omega)
           rwa [show k-1+1=k by omega] at this
         rw[e];simp
   · rw[List.mem_append,ih,List.mem_append]
theorem z00 {l:List (List Int)} {k:Nat} (hk:k≤l.length) {w:List Int} (h:w∈l.take k):∃ i,i<k∧w=nth l i:=by
 obtain⟨i,hi,rfl⟩:=List.getElem_of_mem h;rw[List.length_take] at hi;refine⟨i,by omega,?_⟩;rw[Fe (by omega),List.getElem_take]
theorem Us {l:List (List Int)} (hs:l.Pairwise fun a b=>ltW b a=false):∀ (k:Nat),k≤l.length→Jf (Bt l k)
 | 0,_=>List.Pairwise.nil
 | k+1,hk=>by
   have ih:=Us hs k (by omega)
   have hle:∀ i j,i<j→j<l.length→ltW (nth l j) (nth l i)=false:=fun i j hij hj=>by
     rw[Fe hj,Fe (by omega)];exact List.pairwise_iff_getElem.1 hs i j (by omega) hj hij
   rw[Bt];split
   · exact ih
   · rename_i hne
     refine List.pairwise_append.2 ⟨ih,List.pairwise_singleton _ _,fun a ha b hb=>?_⟩;rw[List.mem_singleton.1 hb];obtain⟨i,hi,rfl⟩:=z00 (by omega) ((R3 k (by omega) a).1 ha);cases hlt:ltW (nth l i) (nth l k) with
     | true=>rfl
     | false =>
       exfalso;have e:=Hy _ _ hlt (hle i k hi (by omega));refine hne ⟨by omega,?_⟩;by_cases h1:i=k-1
       · rw[←e,h1]
       · have h2:=hle i (k-1) (by omega) (by omega)
         have h3:=hle (k-1) k (by omega) (by omega);rw[←e] at h3 ⊢;exact Hy _ _ h3 h2
theorem z01 (l:List (List Int)):∀ k,(Bt l k).length≤k
 | 0=>by simp[Bt]
 | k+1=>by
   have:=z01 l k;rw[Bt];split
   · omega
   · simp;omega
theorem z9y {l m:List (List Int)} (h:m.Pairwise fun a b=>ltW b a=false) (hp:m.Perm l):Gz l=Bt m m.length:=Wr (Us h _ (Nat.le_refl _)) fun w=>by
 rw[R3 _ (Nat.le_refl _),List.take_length];exact hp.mem_iff
theorem zf1 {α:Type} [Inhabited α] (a b:List α) (k:Nat):nth (a++b) (a.length+k)=nth b k:=by
 simp[nth,List.getD,List.getElem?_append_right]
theorem z6r {α:Type} [Inhabited α] (l:List α) (i k:Nat):nth (l.drop i) k=nth l (i+k):=by
 simp[nth,List.getD]
theorem set_mid {α:Type} (C J D:List α) (h v:α):(C++(h::J)++D).set C.length v=(C++[v])++J++D:=by simp
theorem Mk (ex:Bool) (l:List (List Int)) (hl:l.length≤1000000000) (hw:∀ w∈l,w.length≤1000000000):Be Tryz.prog 108 [.ref 0 1 0 l.length,.fn 109 []] (Abs.hl [⟨1,1,ex,l.map Ag⟩]) fun y H' =>
   y=.ref 0 1 0 (Bt l l.length).length∧∃ z,Ak z=true∧H'=Abs.hl [⟨1,1,ex,(Bt l l.length).map Ag++z⟩]:=by
 have pL:=Aw l;have hc1:=z01 l l.length;refine z4t (b:=1) Fo rfl ?_;unfold Dh;by_cases h2:l.length<2
 · have hce:Bt l l.length=l:=by
     match l,h2 with
     | [],_=>rfl
     | [a],_=>rfl
   (with_reducible repeat' (first|(simp(disch:=omega)only[push_cast,↓zz,seval,pL])|refine And.intro ?_ ?_|(first|refine Ab ?_ ?_|refine Aa ?_ ?_)<;>intro hc<;>(try simp only[push_cast] at hc)|omega|intro _))
   all_goals
     refine X7 [] (.ref 0 1 0 (Bt l l.length).length) [⟨1,1,ex,(Bt l l.length).map Ag++[]⟩] ?_ ⟨rfl,[],rfl,rfl⟩;rw[hce,List.append_nil];(with_reducible repeat' (first|(simp(disch:=omega)only[push_cast,↓zz,seval,pL])|refine And.intro ?_ ?_|(first|refine Ab ?_ ?_|refine Aa ?_ ?_)<;>intro hc<;>(try simp only[push_cast] at hc)|omega|intro _))
 · have hcl:∀ i,(∀ j,1≤j→j<i→nth l j≠nth l (j-1))→i≤l.length→Bt l i=l.take i:=fun i=>by
     induction i with
     | zero=>intro _ _;simp[Bt]
     | succ i ih =>
       intro hj hi;rw[Bt,ih (fun j h1 h2=>hj j h1 (by omega)) (by omega),take_at (by omega)];by_cases h0:0<i
       · rw[if_neg fun h=>hj i (by omega) (by omega) h.2]
       · rw[if_neg fun h=>h0 h.1]
   have hfn:∀ a∈l,∀ b∈l,PC Tryz.prog 109 [Ag a,Ag b] (.bool (decide (a=b))):=fun a ha b hb=>zf0 a b (hw a ha) (hw b hb);(with_reducible repeat' (first|(simp(disch:=omega)only[push_cast,↓zz,seval,pL])|refine And.intro ?_ ?_|(first|refine Ab ?_ ?_|refine Aa ?_ ?_)<;>intro hc<;>(try simp only[push_cast] at hc)|omega|intro _))
   refine Ax (A8 (fun (i:Nat)=>(1≤i∧i≤l.length)∧Hold (∀ j,1≤j→j<i→nth l j≠nth l (j-1))) (fun i=>l.length-i)
     (fun i=>[(0,.ref 0 1 0 l.length),(1,.fn 109 []),(5,.int .i64 i)]) (fun _=>[⟨1,1,ex,l.map Ag⟩]) (fun _ _=>[]) 1 ⟨by omega,⟨fun j h1 h2=>by omega⟩⟩ ?_ ?_)
   · (with_reducible repeat' (first|(simp(disch:=omega)only[push_cast,↓zz,seval,pL])|refine And.intro ?_ ?_|(first|refine Ab ?_ ?_|refine Aa ?_ ?_)<;>intro hc<;>(try simp only[push_cast] at hc)|omega|intro _))
   rintro i ⟨⟨hi1,hi⟩,⟨hno⟩⟩;rcases Nat.lt_or_ge i l.length with hil|hil
   · have m1:nth l i∈l:=Au hil
     have m2:nth l (i-1)∈l:=Au (by omega);have hF:=hfn _ m1 _ m2;have a1:((l.map Ag).getD i .any)=Ag (nth l i):=by simp[nth,List.getD,hil]
     have a2:((l.map Ag).getD (i-1) .any)=Ag (nth l (i-1)):=by
       have:i-1<l.length:=by omega
       simp[nth,List.getD,this]
     have hci:=hcl i hno (by omega);have hi0:((i:Int)-1).toNat=i-1:=by omega
     generalize hu:nth l i=u at *;generalize hv:nth l (i-1)=v at *;have pu:Ak (u.map (AV.int .i32))=true:=Ay .i32 _;have pv:Ak (v.map (AV.int .i32))=true:=Ay .i32 _;refine W_T ?_;by_cases he:u=v
     · rw[decide_eq_true he] at hF
       (with_reducible repeat' (first|(simp(disch:=omega)only[push_cast,↓zz,seval,pL,hu,hv,pu,pv,hi0,a1,a2])|refine And.intro ?_ ?_|(first|refine Ab ?_ ?_|refine Aa ?_ ?_)<;>intro hc<;>(try simp only[push_cast] at hc)|refine eK hF ?_|refine eQ hF ?_|refine eG hF ?_|((first|refine cK hF ?_|refine cQ hF ?_|refine cG hF ?_);(simp(disch:=omega)only[push_cast,↓zz,seval,pL,hu,hv,pu,pv,hi0,a1,a2]);(fail_if_success change False))|omega|intro _));have hst:Bt l (i+1)=l.take i:=by rw[Bt,if_pos ⟨by omega,by rw[hu,hv];exact he⟩,hci]
       have hstep:∀ k,Bt l (i+k+1)=if nth l (i+k)=nth l (i+k-1) then Bt l (i+k) else Bt l (i+k)++[nth l (i+k)]:=fun k=>by
         rw[Bt];by_cases h:nth l (i+k)=nth l (i+k-1)
         · rw[if_pos ⟨by omega,h⟩,if_pos h]
         · rw[if_neg fun hh=>h hh.2,if_neg h]
       clear hno hcl hF a1 a2 pu pv
       refine Ax (A8 (fun (q:Nat × List (List Int))=>(1≤q.1∧i+q.1≤l.length)∧(Bt l (i+q.1)).length+q.2.length=i+q.1-1) (fun q=>l.length-q.1)
         (fun q=>[(0,.ref 0 1 0 l.length),(1,.fn 109 []),(5,.int .i64 (Bt l (i+q.1)).length),(6,.ref 0 1 i (l.length-i)),(7,.int .i64 q.1)])
         (fun q=>[⟨1,1,ex,(Bt l (i+q.1)++q.2++l.drop (i+q.1-1)).map Ag⟩]) (fun _ _=>[]) (1,[]) ⟨by omega,by simp only[hst];simp;omega⟩ ?_ ?_)
       · have hX:Bt l (i+1)++[]++l.drop (i+1-1)=l:=by rw[hst,List.append_nil,Nat.add_sub_cancel,List.take_append_drop]
         have hCl:(Bt l (i+1)).length=i:=by rw[hst,List.length_take];omega
         simp only[hX,hCl];(with_reducible repeat' (first|(simp(disch:=omega)only[push_cast,↓zz,seval,pL])|refine And.intro ?_ ?_|(first|refine Ab ?_ ?_|refine Aa ?_ ?_)<;>intro hc<;>(try simp only[push_cast] at hc)|omega|intro _))
       rintro⟨k,J⟩ ⟨⟨hk1,hk⟩,hJ⟩;simp only at hk1 hk hJ ⊢;have hXl:(Bt l (i+k)++J++l.drop (i+k-1)).length=l.length:=by simp only[List.length_append,List.length_drop];omega
       have hCJ:(Bt l (i+k)++J).length=i+k-1:=by rw[List.length_append];exact hJ
       rcases Nat.lt_or_ge (i+k) l.length with hkl|hkl
       · have n1:nth (Bt l (i+k)++J++l.drop (i+k-1)) (i+k)=nth l (i+k):=by
           have:=zf1 (Bt l (i+k)++J) (l.drop (i+k-1)) 1;rw[hCJ,z6r] at this
           rwa [show i+k-1+1=i+k by omega] at this
         have n2:nth (Bt l (i+k)++J++l.drop (i+k-1)) (i+k-1)=nth l (i+k-1):=by
           have:=zf1 (Bt l (i+k)++J) (l.drop (i+k-1)) 0;rw[hCJ,z6r,Nat.add_zero] at this;exact this
         have m1:nth l (i+k)∈l:=Au hkl;have m2:nth l (i+k-1)∈l:=Au (by omega);have hF:=hfn _ m1 _ m2;have hs:=hstep k
         have hdr:l.drop (i+k-1)=nth l (i+k-1)::l.drop (i+k):=by
           have:=drop_at (l:=l) (i:=i+k-1) (by omega)
           rwa [show i+k-1+1=i+k by omega] at this
         obtain⟨h,J',hJ'⟩:∃ h J',J++[nth l (i+k-1)]=h::J':=by
           cases J with
           | nil=>exact⟨_,[],rfl⟩
           | cons a J=>exact⟨a,J++[_],rfl⟩
         have hJl:J'.length=J.length:=by have:=congrArg List.length hJ';simp at this;omega
         have hXe:Bt l (i+k)++J++l.drop (i+k-1)=Bt l (i+k)++(h::J')++l.drop (i+k):=by
           rw[hdr,←hJ'];simp
         have hset:(Bt l (i+k)++J++l.drop (i+k-1)).set (Bt l (i+k)).length (nth l (i+k))=Bt l (i+k)++[nth l (i+k)]++J'++l.drop (i+k):=by rw[hXe,set_mid]
         have hsame:Bt l (i+k)++J++l.drop (i+k-1)=Bt l (i+k)++(J++[nth l (i+k-1)])++l.drop (i+k):=by rw[hdr];simp
         have pX:=Aw (Bt l (i+k)++J++l.drop (i+k-1));have hmset:((Bt l (i+k)++J++l.drop (i+k-1)).map Ag).set (Bt l (i+k)).length (Ag (nth l (i+k)))=(Bt l (i+k)++[nth l (i+k)]++J'++l.drop (i+k)).map Ag:=by rw[←List.map_set,hset]
         have hidx:(i:Int)+k=((i+k:Nat):Int):=by omega
         have e1':i+(k-1)=i+k-1:=by omega
         have hk0:((k:Int)-1).toNat=k-1:=by omega
         have hcl2:(Bt l (i+k)).length<l.length:=by omega
         generalize hX:Bt l (i+k)++J++l.drop (i+k-1)=X at *;generalize hu2:nth l (i+k)=u2 at *;generalize hv2:nth l (i+k-1)=v2 at *;have pu:Ak (u2.map (AV.int .i32))=true:=Ay .i32 _;have pv:Ak (v2.map (AV.int .i32))=true:=Ay .i32 _;refine W_T ?_;by_cases he2:u2=v2
         · rw[decide_eq_true he2] at hF
           rw[if_pos he2] at hs;(with_reducible repeat' (first|(simp(disch:=omega)only[push_cast,↓zz,seval,pX,hXl,n1,n2,pu,pv,hk0,e1'])|refine And.intro ?_ ?_|(first|refine Ab ?_ ?_|refine Aa ?_ ?_)<;>intro hc<;>(try simp only[push_cast] at hc)|refine eK hF ?_|refine eQ hF ?_|refine eG hF ?_|((first|refine cK hF ?_|refine cQ hF ?_|refine cG hF ?_);(simp(disch:=omega)only[push_cast,↓zz,seval,pX,hXl,n1,n2,pu,pv,hk0,e1']);(fail_if_success change False))|omega|intro _))
           all_goals
             refine⟨(k+1,J++[v2]),?_⟩;have e2:i+(k+1)-1=i+k:=by omega
             have hsm:(Bt l (i+k)).map Ag++(J.map Ag++Ag v2::(l.drop (i+k)).map Ag)=X.map Ag:=by rw[hsame];simp
             simp only[←Nat.add_assoc,hs,e2];(with_reducible repeat' (first|(simp(disch:=omega)only[push_cast,↓zz,seval,pX,hsm])|refine And.intro ?_ ?_|(first|refine Ab ?_ ?_|refine Aa ?_ ?_)<;>intro hc<;>(try simp only[push_cast] at hc)|omega|intro _))
         · rw[decide_eq_false he2] at hF
           rw[if_neg he2] at hs;have pX1:=Aw (Bt l (i+k)++[u2]++J'++l.drop (i+k));(with_reducible repeat' (first|(simp(disch:=omega)only[push_cast,↓zz,seval,pX,hXl,n1,n2,pu,pv,hk0,e1',hmset])|refine And.intro ?_ ?_|(first|refine Ab ?_ ?_|refine Aa ?_ ?_)<;>intro hc<;>(try simp only[push_cast] at hc)|refine eK hF ?_|refine eQ hF ?_|refine eG hF ?_|((first|refine cK hF ?_|refine cQ hF ?_|refine cG hF ?_);(simp(disch:=omega)only[push_cast,↓zz,seval,pX,hXl,n1,n2,pu,pv,hk0,e1',hmset]);(fail_if_success change False))|omega|intro _))
           all_goals
             refine⟨(k+1,J'),?_⟩;have e2:i+(k+1)-1=i+k:=by omega
             simp only[←Nat.add_assoc,hs,e2];(with_reducible repeat' (first|(simp(disch:=omega)only[push_cast,↓zz,seval,pX1,List.length_append,List.length_cons,List.length_nil])|refine And.intro ?_ ?_|(first|refine Ab ?_ ?_|refine Aa ?_ ?_)<;>intro hc<;>(try simp only[push_cast] at hc)|omega|intro _))
       · have hkn:i+k=l.length:=by omega
         rw[hkn] at hXl hCJ hJ ⊢;have hm:(Bt l l.length++J++l.drop (l.length-1)).map Ag=(Bt l l.length).map Ag++(J++l.drop (l.length-1)).map Ag:=by rw[List.append_assoc,List.map_append]
         have hmt:((Bt l l.length++J++l.drop (l.length-1)).map Ag).take (Bt l l.length).length=(Bt l l.length).map Ag:=by rw[hm];exact List.take_left' (by simp)
         have hmd:((Bt l l.length++J++l.drop (l.length-1)).map Ag).drop l.length=[]:=List.drop_of_length_le (by rw[List.length_map,hXl];exact Nat.le_refl _);have pX:=Aw (Bt l l.length++J++l.drop (l.length-1));have pC:=Aw (Bt l l.length);have pN:=Ji (l.length-(Bt l l.length).length);generalize Bt l l.length++J++l.drop (l.length-1)=X at *;generalize Bt l l.length=C at *;have hcn:C.length+(l.length-C.length)=l.length:=by omega
         refine W_T ?_;(with_reducible repeat' (first|(simp(disch:=omega)only[push_cast,↓zz,seval,pX,hXl,hmt,hmd,hcn,List.append_nil])|refine And.intro ?_ ?_|(first|refine Ab ?_ ?_|refine Aa ?_ ?_)<;>intro hc<;>(try simp only[push_cast] at hc)|omega|intro _))
         all_goals
           refine X7 [] (.ref 0 1 0 C.length) [⟨1,1,ex,C.map Ag++List.replicate (l.length-C.length) .nilS⟩] ?_ ⟨rfl,_,pN,rfl⟩;(with_reducible repeat' (first|(simp(disch:=omega)only[push_cast,↓zz,seval,pX,pC,pN])|refine And.intro ?_ ?_|(first|refine Ab ?_ ?_|refine Aa ?_ ?_)<;>intro hc<;>(try simp only[push_cast] at hc)|omega|intro _))
     · rw[decide_eq_false he] at hF
       have hnx:Hold (∀ j,1≤j→j<i+1→nth l j≠nth l (j-1)):=⟨fun j h1 h2=>by
         by_cases e:j=i
         · subst e;rw[hu,hv];exact he
         · exact hno j h1 (by omega)⟩
       clear hno hcl;(with_reducible repeat' (first|(simp(disch:=omega)only[push_cast,↓zz,seval,pL,hu,hv,pu,pv,hi0,a1,a2])|refine And.intro ?_ ?_|(first|refine Ab ?_ ?_|refine Aa ?_ ?_)<;>intro hc<;>(try simp only[push_cast] at hc)|refine eK hF ?_|refine eQ hF ?_|refine eG hF ?_|((first|refine cK hF ?_|refine cQ hF ?_|refine cG hF ?_);(simp(disch:=omega)only[push_cast,↓zz,seval,pL,hu,hv,pu,pv,hi0,a1,a2]);(fail_if_success change False))|omega|intro _))
       all_goals
         refine⟨i+1,?_⟩;(with_reducible repeat' (first|(simp(disch:=omega)only[push_cast,↓zz,seval,pL])|refine And.intro ?_ ?_|(first|refine Ab ?_ ?_|refine Aa ?_ ?_)<;>intro hc<;>(try simp only[push_cast] at hc)|omega|intro _))
         all_goals first|exact⟨by omega,hnx⟩|exact hnx|trace_state
   · obtain rfl:i=l.length:=by omega
     have hce:=hcl l.length hno (Nat.le_refl _);rw[List.take_length] at hce;clear hno hcl;refine W_T ?_;(with_reducible repeat' (first|(simp(disch:=omega)only[push_cast,↓zz,seval,pL])|refine And.intro ?_ ?_|(first|refine Ab ?_ ?_|refine Aa ?_ ?_)<;>intro hc<;>(try simp only[push_cast] at hc)|omega|intro _))
     all_goals
       refine X7 [] (.ref 0 1 0 (Bt l l.length).length) [⟨1,1,ex,(Bt l l.length).map Ag++[]⟩] ?_ ⟨rfl,[],rfl,rfl⟩;rw[hce,List.append_nil];(with_reducible repeat' (first|(simp(disch:=omega)only[push_cast,↓zz,seval,pL])|refine And.intro ?_ ?_|(first|refine Ab ?_ ?_|refine Aa ?_ ?_)<;>intro hc<;>(try simp only[push_cast] at hc)|omega|intro _))
     all_goals trace_state
theorem z3g {l:List Eu} {s i:Nat}:i∈fiI l s↔i<l.length∧(nth l i).from_=s:=by simp[fiI,Iq]
theorem zqd (l:List Eu) (s:Nat):(fiI l s).length≤l.length:=R0 _ _
section
variable (d:Desc) (x:List Int) (S:Nat→Nat→List (List Int)) (at_ s:Nat)
def finW (k:Nat):List (List Int):=((fiI d.finals s).take k).flatMap fun i=>if (nth d.finals i).guards.length+at_=x.length∧goB x (nth d.finals i).guards at_=true then [D3 x (nth d.finals i).out (nth d.finals i).guards at_] else []
def toW (i:Nat):List (List Int):=S (at_+(nth d.rules i).eat.toNat) (nth d.rules i).to_.toNat
def rulW (k:Nat):List (List Int):=((ruI d.rules s).take k).flatMap fun i=>if goB x (nth d.rules i).guards at_=true then (toW d S at_ i).map (D3 x (nth d.rules i).out (nth d.rules i).guards at_++·) else []
def allW:List (List Int):=finW d x at_ s (fiI d.finals s).length++rulW d x S at_ s (ruI d.rules s).length
variable {d x S at_ s} {k:Nat}
theorem zf2:finW d x at_ s 0=[]:=rfl
theorem zf3:rulW d x S at_ s 0=[]:=rfl
theorem zke (hk:k<(fiI d.finals s).length) {f:Eu} (hf:nth d.finals (nth (fiI d.finals s) k)=f) (h:(decide (f.guards.length+at_=x.length)&&goB x f.guards at_)=true):finW d x at_ s (k+1)=finW d x at_ s k++[D3 x f.out f.guards at_]:=by
 simp only[Bool.and_eq_true,decide_eq_true_eq] at h;rw[finW,take_at hk,List.flatMap_append,List.flatMap_singleton,hf,if_pos h];rfl
theorem zqe (hk:k<(fiI d.finals s).length) {f:Eu} (hf:nth d.finals (nth (fiI d.finals s) k)=f) (h:(decide (f.guards.length+at_=x.length)&&goB x f.guards at_)=false):finW d x at_ s (k+1)=finW d x at_ s k:=by
 rw[finW,take_at hk,List.flatMap_append,List.flatMap_singleton,hf,if_neg,List.append_nil]
 · rfl
 rintro⟨h1,h2⟩;rw[h2,decide_eq_true h1] at h;cases h
theorem z6s (hk:k<(ruI d.rules s).length) {r:Rule} (hf:nth d.rules (nth (ruI d.rules s) k)=r) (h:goB x r.guards at_=true):rulW d x S at_ s (k+1)=rulW d x S at_ s k++(S (at_+r.eat.toNat) r.to_.toNat).map (D3 x r.out r.guards at_++·):=by
 rw[rulW,take_at hk,List.flatMap_append,List.flatMap_singleton,hf,if_pos h,toW,hf];rfl
theorem zf4 (hk:k<(ruI d.rules s).length) {r:Rule} (hf:nth d.rules (nth (ruI d.rules s) k)=r) (h:goB x r.guards at_=false):rulW d x S at_ s (k+1)=rulW d x S at_ s k:=by
 rw[rulW,take_at hk,List.flatMap_append,List.flatMap_singleton,hf,if_neg (by rw[h];simp),List.append_nil];rfl
theorem z6t:(finW d x at_ s k).length≤k:=by
 induction k with
 | zero=>simp[finW]
 | succ k ih =>
   rcases Nat.lt_or_ge k (fiI d.finals s).length with h|h
   · rw[finW,take_at h,List.flatMap_append,List.length_append,List.flatMap_singleton]
     rw[finW] at ih;split
     · rw[List.length_singleton];omega
     · rw[List.length_nil];omega
   · rw[finW,List.take_of_length_le (by omega)]
     rw[finW,List.take_of_length_le h] at ih;omega
theorem zkf {w:List Int}:w∈finW d x at_ s (fiI d.finals s).length↔∃ f∈d.finals,f.from_=(s:Nat)∧(f.guards.length+at_=x.length∧goB x f.guards at_=true)∧w=D3 x f.out f.guards at_:=by
 rw[finW,List.take_length,List.mem_flatMap];constructor
 · rintro⟨i,hi,hw⟩
   obtain⟨i1,i2⟩:=z3g.1 hi;split at hw
   · rename_i h
     exact⟨_,Au i1,i2,h,by simpa using hw⟩
   · cases hw
 · rintro⟨f,hf,h1,h2,rfl⟩
   obtain⟨i,hi,rfl⟩:=List.getElem_of_mem hf;have e:nth d.finals i=d.finals[i]:=Fe hi;exact⟨i,z3g.2 ⟨hi,by rw[e];exact h1⟩,by rw[e,if_pos h2];simp⟩
theorem zkg {w:List Int}:w∈rulW d x S at_ s (ruI d.rules s).length↔∃ r∈d.rules,r.from_=(s:Nat)∧goB x r.guards at_=true∧∃ v∈S (at_+r.eat.toNat) r.to_.toNat,w=D3 x r.out r.guards at_++v:=by
 rw[rulW,List.take_length,List.mem_flatMap];constructor
 · rintro⟨i,hi,hw⟩
   obtain⟨i1,i2⟩:=He.1 hi;split at hw
   · rename_i h
     obtain⟨v,hv,rfl⟩:=List.mem_map.1 hw;exact⟨_,Au i1,i2,h,v,hv,rfl⟩
   · cases hw
 · rintro⟨r,hr,h1,h2,v,hv,rfl⟩
   obtain⟨i,hi,rfl⟩:=List.getElem_of_mem hr;have e:nth d.rules i=d.rules[i]:=Fe hi;refine⟨i,He.2 ⟨hi,by rw[e];exact h1⟩,?_⟩;rw[e,if_pos h2,toW,e];exact List.mem_map.2 ⟨v,hv,rfl⟩
theorem zf5:Gz (allW d x S at_ s)=Gz (outL d x (fun a t=>S a t.toNat) at_ (s:Nat)):=by
 refine (Wr (Hz _) fun w=>?_);rw[G0,allW,List.mem_append,zkf,zkg,outL,List.mem_append,List.mem_map,List.mem_flatMap];constructor
 · rintro (⟨f,hf,rfl⟩|⟨r,hr,hw⟩)
   · obtain⟨h1,h2⟩:=List.mem_filter.1 hf
     simp only[Bool.and_eq_true,decide_eq_true_eq] at h2;exact .inl ⟨f,h1,h2.1,h2.2,rfl⟩
   · obtain⟨h1,h2⟩:=List.mem_filter.1 hr
     simp only[Bool.and_eq_true,decide_eq_true_eq] at h2;obtain⟨v,hv,rfl⟩:=List.mem_map.1 hw;exact .inr ⟨r,h1,h2.1,h2.2,v,hv,rfl⟩
 · rintro (⟨f,h1,h2,h3,rfl⟩|⟨r,h1,h2,h3,v,hv,rfl⟩)
   · exact .inl ⟨f,List.mem_filter.2 ⟨h1,by simp[h2,h3.1,h3.2]⟩,rfl⟩
   · exact .inr ⟨r,List.mem_filter.2 ⟨h1,by simp[h2,h3]⟩,List.mem_map.2 ⟨v,hv,rfl⟩⟩
end
def Iz (o:Option (List Int)) (w:List Int):Option (List Int):=match o with
 | none=>some w
 | some m=>if cmpL w m<0 then some w else some m
structure LeastI (C:List (List Int)) (o:Option (List Int)):Prop where
 no:o=none→C=[]
 yes:∀ m,o=some m→m∈C∧∀ c∈C,ltW c m=false
section
variable {d:Desc} {x:List Int} {n:Nat} {ord:List Nat} {L:Nat→Nat→Bool} {at_ j:Nat}
structure LeaI (d:Desc) (x:List Int) (L:Nat→Nat→Bool) (ord:List Nat) (at_ j:Nat) (B:Nat→Nat→Option (List Int)):Prop where
 past:∀ a t,a≤x.length→L a t=true→Past ord at_ j a t→B a t=(outW d x a t).head?
 rest:∀ a t,¬Past ord at_ j a t→B a t=none
variable {B:Nat→Nat→Option (List Int)}
variable {y:List Int} {M:Nat→Nat→Nat→Bool}
end
end Go.Proofs.YtbcjoeadpjfcfaaGreat
set_option maxRecDepth 100000
namespace Go.Proofs.YtbcjoeadpjfcfaaGreat
open Abs
theorem zkh {σ:Type} (d:Desc) (x:List Int) {n:Nat} {ord:List Nat} {L:Nat→Nat→Bool} (RU FI:AV) (hRU:RU.pure=true) (hFI:FI.pure=true) (hdn:d.states=n) (hn:n≤1024) (hx:x.length≤1024) (ht:Topo d.rules n ord)
   (f:Nat) (caps:List AV) (N:Nat) (heap:σ→List Grp) (hN:∀ s,(heap s).length=N) (hcl:∀ s,∀ G∈heap s,ltL N G.xs) (hcaps:ltL N caps)
   (Inv:Nat→Nat→σ→Prop) (s0:σ) (h0:Inv x.length 0 s0)
   (call:∀ a j s,a≤x.length→j<n→Inv a j s→L a (nth ord j)=true→Be Tryz.prog f (.int .i64 a::.int .i64 (nth ord j:Nat)::caps) (Abs.hl (heap s)) fun y H'=>y=.tup []∧∃ s',H'=Abs.hl (heap s')∧Inv a (j+1) s')
   (skip:∀ a j s,a≤x.length→j<n→Inv a j s→L a (nth ord j)=false→Inv a (j+1) s)
   (row:∀ a s,a+1≤x.length→Inv (a+1) n s→Inv a 0 s) :
   Be Tryz.prog 61 [C4 d x RU FI (.lst 1 (ord.map e1)) (.lst 1 (lvB n ((x.length+1) * n) L)),.fn f caps] (Abs.hl (heap s0)) fun y H'=>y=.tup []∧∃ s,H'=Abs.hl (heap s)∧Inv 0 n s:=by
 have pR:=Az d.rules;have pFi:=As d.finals;have pX:Ak (x.map (AV.int .i32))=true:=Ay .i32 _;have pO:Ak (ord.map e1)=true:=Dc (fun _=>rfl) _;have hol:=Dk ht;have lL:(lvB n ((x.length+1) * n) L).length=(x.length+1) * n:=K8;have pL:Ak (lvB n ((x.length+1) * n) L)=true:=O4;have hmx:(x.length+1) * n≤1025 * 1024:=Nat.mul_le_mul (by omega) hn;have pN:(C4 d x RU FI (.lst 1 (ord.map e1)) (.lst 1 (lvB n ((x.length+1) * n) L))).pure=true:=by simp[AV.pure,Ak,pR,pFi,pX,pO,pL,hRU,hFI]
 have aL:∀ a t,a≤x.length→t<n→(lvB n ((x.length+1) * n) L).getD (a * n+t) .any=.bool (L a t):=fun a t ha htn=>zlx htn (Gi htn ha);have pl:∀ a t,a≤x.length→t<n→a * n+t<(x.length+1) * n:=fun a t ha htn=>Gi htn ha;generalize hm:(x.length+1) * n=m at *;generalize hLV:lvB n m L=LV at *;refine J2 (Pg Mz (W_T ?_));unfold Hn;(with_reducible repeat' (first|(simp(disch:=omega)only[push_cast,↓zz,seval,pR,pFi,pX,pO,pL,hRU,hFI])|refine And.intro ?_ ?_|(first|refine Ab ?_ ?_|refine Aa ?_ ?_)<;>intro hc<;>(try simp only[push_cast] at hc)|omega|intro _))
 refine Ax (Kv (fun (q:Nat × σ)=>q.1≤x.length+1∧Hold ((q.1=0→Inv 0 n q.2)∧∀ a,q.1=a+1→Inv a 0 q.2)) (fun q=>q.1)
   (fun q=>De [(0,C4 d x RU FI (.lst 1 (ord.map e1)) (.lst 1 LV)),(1,.fn f caps),(4,.int .i64 ((q.1:Int)-1))]) (fun q=>Abs.hl (heap q.2)) (x.length+1,s0) ⟨Nat.le_refl _,⟨⟨fun h=>(by cases h),fun a h=>?_⟩⟩⟩ ?_ ?_)
 · obtain rfl:x.length=a:=by simpa using h
   exact h0
 · refine Fl (gar:=[]) _ (List.append_nil _).symm (Nat.le_of_eq ((hN _).trans (hN _).symm)) (by rw[hN];exact hcl _) ?_
   rw[hN];refine⟨rfl,trivial,rfl,hcaps,?_,trivial,trivial⟩;show AV.int _ _=_;congr 1;simp only;omega
 rintro⟨k,s⟩ ⟨hk,⟨⟨hI0,hI⟩⟩⟩;simp only at hk hI0 hI ⊢;rcases Nat.eq_zero_or_pos k with rfl|hk0
 · have hI0:=hI0 rfl
   refine W_T ?_;(with_reducible repeat' (first|(simp(disch:=omega)only[push_cast,↓zz,seval,pR,pFi,pX,pO,pL,hRU,hFI])|refine And.intro ?_ ?_|(first|refine Ab ?_ ?_|refine Aa ?_ ?_)<;>intro hc<;>(try simp only[push_cast] at hc)|omega|intro _))
   all_goals exact⟨_,_,Ent.refl,rfl,s,rfl,hI0⟩
 · obtain⟨a,rfl⟩:∃ a,k=a+1:=⟨k-1,by omega⟩
   have hIa:=hI a rfl;clear hI0 hI;have ha:a≤x.length:=by omega
   refine W_T ?_;(with_reducible repeat' (first|(simp(disch:=omega)only[push_cast,↓zz,seval,pR,pFi,pX,pO,pL,hRU,hFI])|refine And.intro ?_ ?_|(first|refine Ab ?_ ?_|refine Aa ?_ ?_)<;>intro hc<;>(try simp only[push_cast] at hc)|omega|intro _))
   refine Ax (Kv (fun (q:Nat × σ)=>q.1≤n∧Hold (Inv a q.1 q.2)) (fun q=>n-q.1)
     (fun q=>De [(0,C4 d x RU FI (.lst 1 (ord.map e1)) (.lst 1 LV)),(1,.fn f caps),(4,.int .i64 a),(19,.lst 1 (ord.map e1)),(20,.int .i64 n),(21,.int .i64 q.1)]) (fun q=>Abs.hl (heap q.2)) (0,s) ⟨Nat.zero_le _,⟨hIa⟩⟩ ?_ ?_)
   · refine Fl (gar:=[]) _ (List.append_nil _).symm (Nat.le_of_eq ((hN _).trans (hN _).symm)) (by rw[hN];exact hcl _) ?_
     rw[hN];have hO:ltV N (.lst 1 (ord.map e1)):=Bv _ _ pO;refine⟨rfl,trivial,rfl,hcaps,?_,trivial,rfl,hO,?_,trivial,rfl,trivial,trivial⟩
     · show AV.int _ _=_
       congr 1;omega
     · show AV.int _ _=_
       congr 1;omega
   rintro⟨j,s1⟩ ⟨hj,⟨hI⟩⟩;simp only at hj hI ⊢;have hO:ltV N (.lst 1 (ord.map e1)):=Bv _ _ pO;rcases Nat.lt_or_ge j n with hjn|hjn
   · have aO:(ord.map e1).getD j .any=.int .i64 (nth ord j:Nat):=by simp[nth,List.getD,hol,hjn]
     have htn:nth ord j<n:=(ht.all _).1 (Au (by omega));have hcall:=call a j s1 ha hjn hI;have hskip:=skip a j s1 ha hjn hI;have aK:=aL a _ ha htn;have hpm:=pl a _ ha htn;generalize nth ord j=t at *;have hmul:((a:Int) * (n:Int))=((a * n:Nat):Int):=by norm_cast
     generalize hpe:a * n+t=p at *;generalize a * n=an at *;have hpi:(an:Int)+(t:Int)=(p:Int):=by omega
     cases hL:L a t with
     | true =>
       rw[hL] at aK;refine W_T ?_;(with_reducible repeat' (first|(simp(disch:=omega)only[push_cast,↓zz,seval,pR,pFi,pX,pO,pL,hRU,hFI,aO,hdn,hmul,hpi,aK])|refine And.intro ?_ ?_|(first|refine Ab ?_ ?_|refine Aa ?_ ?_)<;>intro hc<;>(try simp only[push_cast] at hc)|omega|intro _));refine zeo (extra:=[]) (List.append_nil _).symm (hcall hL) ?_ (by rw[hN];exact hcl _) ?_
       · rw[hN];exact⟨trivial,trivial,hcaps⟩
       rintro y H' ⟨rfl,s2,rfl,hI2⟩;refine⟨_,rfl,by rw[hN,hN],trivial,by rw[hN];exact hcl _,?_⟩;rw[List.append_nil];(with_reducible repeat' (first|(simp(disch:=omega)only[push_cast,↓zz,seval])|refine And.intro ?_ ?_|(first|refine Ab ?_ ?_|refine Aa ?_ ?_)<;>intro hc<;>(try simp only[push_cast] at hc)|omega|intro _));refine⟨(j+1,s2),Fl (gar:=[]) _ (List.append_nil _).symm (Nat.le_of_eq ((hN _).trans (hN _).symm)) (by rw[hN];exact hcl _) ?_,⟨by omega,⟨hI2⟩⟩,by simp only;omega⟩;rw[hN];exact⟨rfl,trivial,rfl,hcaps,rfl,trivial,rfl,hO,rfl,trivial,rfl,trivial,trivial⟩
     | false =>
       rw[hL] at aK;refine W_T ?_;(with_reducible repeat' (first|(simp(disch:=omega)only[push_cast,↓zz,seval,pR,pFi,pX,pO,pL,hRU,hFI,aO,hdn,hmul,hpi,aK])|refine And.intro ?_ ?_|(first|refine Ab ?_ ?_|refine Aa ?_ ?_)<;>intro hc<;>(try simp only[push_cast] at hc)|omega|intro _));refine⟨(j+1,s1),Fl (gar:=[]) _ (List.append_nil _).symm (Nat.le_of_eq ((hN _).trans (hN _).symm)) (by rw[hN];exact hcl _) ?_,⟨by omega,⟨hskip hL⟩⟩,by simp only;omega⟩;rw[hN];exact⟨rfl,trivial,rfl,hcaps,rfl,trivial,rfl,hO,rfl,trivial,rfl,trivial,trivial⟩
   · obtain rfl:j=n:=by omega
     refine W_T ?_;(with_reducible repeat' (first|(simp(disch:=omega)only[push_cast,↓zz,seval,pR,pFi,pX,pO,pL,hRU,hFI])|refine And.intro ?_ ?_|(first|refine Ab ?_ ?_|refine Aa ?_ ?_)<;>intro hc<;>(try simp only[push_cast] at hc)|omega|intro _));refine⟨(a,s1),Fl (gar:=[]) _ (List.append_nil _).symm (Nat.le_of_eq ((hN _).trans (hN _).symm)) (by rw[hN];exact hcl _) ?_,⟨by omega,⟨⟨fun h=>?_,fun a' h=>?_⟩⟩⟩,by simp only;omega⟩
     · rw[hN]
       exact⟨rfl,trivial,rfl,hcaps,rfl,trivial,trivial⟩
     · have h:a=0:=h
       subst h;exact hI
     · have h:a=a'+1:=h
       subst h;exact row a' s1 (by omega) hI
end Go.Proofs.YtbcjoeadpjfcfaaGreat
namespace Go.Proofs
open Go.Shelf
def Tryz.sortWd_ren:Go.Shelf.Ren:=⟨fun|6=>107|15=>139|14=>138|28=>162|29=>163|20=>154|21=>155|22=>156|23=>157|24=>158|25=>159|26=>160|27=>161|46=>176|47=>177|48=>178|49=>179|50=>180|57=>189|n=>n,fun|22=>42|24=>39|25=>130|3=>3|39=>187|0=>0|53=>205|55=>207|4=>4|46=>199|45=>198|50=>32|5=>5|9=>9|66=>216|70=>220|76=>224|77=>84|n=>n,fun|n=>n⟩
theorem Tryz.sortWd:Go.Proofs.SlLaysF.n6 Tryz.prog Tryz.sortWd_ren:={
 mixed:=by kernel_rfl
 f6:=⟨Tryz.f107.name,by decide,Tryz.func107.trans (congrArg some (by kernel_rfl))⟩
 f14:=⟨Tryz.f138.name,by decide,Tryz.func138.trans (congrArg some (by kernel_rfl))⟩
 f15:=Tryz.func139.trans (congrArg some (by kernel_rfl))
 f20:=⟨Tryz.f154.name,by decide,Tryz.func154.trans (congrArg some (by kernel_rfl))⟩
 f21:=⟨Tryz.f155.name,by decide,Tryz.func155.trans (congrArg some (by kernel_rfl))⟩
 f22:=⟨Tryz.f156.name,by decide,Tryz.func156.trans (congrArg some (by kernel_rfl))⟩
 f23:=⟨Tryz.f157.name,by decide,Tryz.func157.trans (congrArg some (by kernel_rfl))⟩
 f24:=⟨Tryz.f158.name,by decide,Tryz.func158.trans (congrArg some (by kernel_rfl))⟩
 f25:=⟨Tryz.f159.name,by decide,Tryz.func159.trans (congrArg some (by kernel_rfl))⟩
 f26:=⟨Tryz.f160.name,by decide,Tryz.func160.trans (congrArg some (by kernel_rfl))⟩
 f27:=⟨Tryz.f161.name,by decide,Tryz.func161.trans (congrArg some (by kernel_rfl))⟩
 f28:=Tryz.func162.trans (congrArg some (by kernel_rfl))
 f29:=Tryz.func163.trans (congrArg some (by kernel_rfl))
 f46:=⟨Tryz.f176.name,by decide,Tryz.func176.trans (congrArg some (by kernel_rfl))⟩
 f47:=Tryz.func177.trans (congrArg some (by kernel_rfl))
 f48:=Tryz.func178.trans (congrArg some (by kernel_rfl))
 f49:=⟨Tryz.f179.name,by decide,Tryz.func179.trans (congrArg some (by kernel_rfl))⟩
 f50:=⟨Tryz.f180.name,by decide,Tryz.func180.trans (congrArg some (by kernel_rfl))⟩
 f57:=⟨Tryz.f189.name,by decide,Tryz.func189.trans (congrArg some (by kernel_rfl))⟩
 t0:=Tryz.underlying0
 a0:=Tryz.isAgg0
 z0:=Tryz.sizeOf0
 v0:=Tryz.zeroValue0
 t3:=Tryz.underlying3
 a3:=Tryz.isAgg3
 z3:=Tryz.sizeOf3
 v3:=Tryz.zeroValue3
 t4:=Tryz.underlying4
 a4:=Tryz.isAgg4
 z4:=Tryz.sizeOf4
 v4:=Tryz.zeroValue4
 t5:=Tryz.underlying5
 a5:=Tryz.isAgg5
 z5:=Tryz.sizeOf5
 v5:=Tryz.zeroValue5
 t9:=Tryz.underlying9
 a9:=Tryz.isAgg9
 z9:=Tryz.sizeOf9
 v9:=Tryz.zeroValue9
 t22:=Tryz.underlying42
 a22:=Tryz.isAgg42
 z22:=Tryz.sizeOf42
 v22:=Tryz.zeroValue42
 a24:=Tryz.isAgg39
 z24:=Tryz.sizeOf39
 t25:=Tryz.underlying130
 a25:=Tryz.isAgg130
 z25:=Tryz.sizeOf130
 v25:=Tryz.zeroValue130
 t39:=Tryz.underlying187
 a39:=Tryz.isAgg187
 z39:=Tryz.sizeOf187
 v39:=Tryz.zeroValue187
 t45:=Tryz.underlying198
 a45:=Tryz.isAgg198
 z45:=Tryz.sizeOf198
 v45:=Tryz.zeroValue198
 t46:=Tryz.underlying199
 a46:=Tryz.isAgg199
 z46:=Tryz.sizeOf199
 v46:=Tryz.zeroValue199
 t50:=Tryz.underlying32
 a50:=Tryz.isAgg32
 z50:=Tryz.sizeOf32
 v50:=Tryz.zeroValue32
 t53:=Tryz.underlying205
 a53:=Tryz.isAgg205
 z53:=Tryz.sizeOf205
 v53:=Tryz.zeroValue205
 t55:=Tryz.underlying207
 a55:=Tryz.isAgg207
 z55:=Tryz.sizeOf207
 v55:=Tryz.zeroValue207
 t66:=Tryz.underlying216
 a66:=Tryz.isAgg216
 z66:=Tryz.sizeOf216
 v66:=Tryz.zeroValue216
 t70:=Tryz.underlying220
 a70:=Tryz.isAgg220
 z70:=Tryz.sizeOf220
 v70:=Tryz.zeroValue220
 t76:=Tryz.underlying224
 a76:=Tryz.isAgg224
 z76:=Tryz.sizeOf224
 v76:=Tryz.zeroValue224
 t77:=Tryz.underlying84
 a77:=Tryz.isAgg84
 z77:=Tryz.sizeOf84
 v77:=Tryz.zeroValue84 }
end Go.Proofs
