/-
  Parts of the proof that the law holds whatever the input; without conditions.
-/
import Derived.Test.YtbcjoeadpjfcfaaGreatEA5
import Derived.Test.YtbcjoeadpjfcfaaGreatEA7
set_option linter.unusedSimpArgs false
set_option linter.unusedVariables false
namespace Go.Proofs.YtbcjoeadpjfcfaaGreat
open Abs
abbrev Jk:AV:=.agg [.int .i64 0,.int .i64 0,.int .i64 0,.int .i64 0,.int .i64 0,.nilS]
theorem zaq (n:Nat) (h0:0<n) (hn:n≤1000000000):Bi Tryz.prog 132 [.nilS,.int .i64 n] (Abs.hl []) fun y H'=>y=.ref 0 1 0 0∧H'=Abs.hl [⟨6,1,false,List.replicate n Jk⟩]:=by
 refine J0 (b:=0) Dc rfl ?_;unfold Cj;have e0:((n:Int)-0).toNat=n:=by omega
 (with_reducible repeat' (first|(simp(disch:=omega)only[push_cast,↓zz,seval,e0])|refine And.intro ?_ ?_|(first|refine Ab ?_ ?_|refine Aa ?_ ?_)<;>intro hc<;>(try simp only[push_cast] at hc)|omega|intro _))
 all_goals trace_state
theorem z42:PC Tryz.prog 132 [.nilS,.int .i64 0] .nilS:=by
 refine A9 Dc ?_;unfold Cj;(with_reducible repeat' (first|(simp(disch:=omega)only[push_cast,↓zz,seval])|refine And.intro ?_ ?_|(first|refine Ab ?_ ?_|refine Aa ?_ ?_)<;>intro hc<;>(try simp only[push_cast] at hc)|omega|intro _))
 all_goals trace_state
theorem Hm (l:List Term):Aw (l.map Bo)=true:=Am l
def Fs (ws:List (List Term)) (k:Nat):List AV:=(ws.take k).flatten.map Bo++List.replicate (ws.flatten.length-(ws.take k).flatten.length) Jk
theorem U0 {α:Type} (ws:List (List α)) {k:Nat} (h:k<ws.length):(ws.take (k+1)).flatten=(ws.take k).flatten++ws[k]:=by
 rw[List.take_succ_eq_append_getElem h,List.flatten_append];simp only[List.flatten_cons,List.flatten_nil,List.append_nil]
theorem Xq {α:Type} (ws:List (List α)) (k:Nat):(ws.take k).flatten.length≤ws.flatten.length:=by
 have:ws.flatten=(ws.take k).flatten++(ws.drop k).flatten:=by rw[←List.flatten_append,List.take_append_drop]
 rw[this];simp
theorem z0t (ws:List (List Term)) (hk:ws.length≤1000000000) (h0:0<ws.flatten.length) (hl:ws.flatten.length≤1000000000):PC Tryz.prog 96 [.lst 1 (ws.map Be)] (Be ws.flatten):=by
 have pW:Aw (ws.map Be)=true:=Bv.2 fun x hx=>by
   obtain⟨l,_,rfl⟩:=List.mem_map.1 hx;exact Hm l
 have aW:∀ k,k<ws.length→(ws.map Be).getD k .any=Be (nth ws k):=fun k hk=>by simp[nth,List.getD,hk]
 have hG:=zaq ws.flatten.length h0 hl;refine A9 C2 ?_;unfold Cc;(with_reducible repeat' (first|(simp(disch:=omega)only[push_cast,↓zz,seval,pW])|refine And.intro ?_ ?_|(first|refine Ab ?_ ?_|refine Aa ?_ ?_)<;>intro hc<;>(try simp only[push_cast] at hc)|omega|intro _))
 refine An (Ap (fun (k:Nat)=>k≤ws.length) (fun k=>ws.length-k)
   (fun k=>[(0,.lst 1 (ws.map Be)),(3,.int .i64 (ws.take k).flatten.length),(9,.lst 1 (ws.map Be)),(10,.int .i64 ws.length),(11,.int .i64 k)]) (fun _=>[]) (fun _ _=>[]) 0 (by simp) ?_ ?_)
 · (with_reducible repeat' (first|(simp(disch:=omega)only[push_cast,↓zz,seval,pW,List.flatten_nil,List.length_nil])|refine And.intro ?_ ?_|(first|refine Ab ?_ ?_|refine Aa ?_ ?_)<;>intro hc<;>(try simp only[push_cast] at hc)|omega|intro _))
 intro k hkw;rcases Nat.lt_or_ge k ws.length with hkl|hkl
 · have hn:nth ws k=ws[k]:=by simp[nth,hkl]
   have hf:=U0 ws hkl;rw[←hn] at hf;have h1:=Xq ws (k+1);have h2:(ws.take (k+1)).flatten.length=(ws.take k).flatten.length+(nth ws k).length:=by rw[hf];simp
   have aK:=aW k hkl;generalize (ws.take k).flatten.length=m at *;refine W_T ?_;(with_reducible repeat' (first|(simp(disch:=omega)only[push_cast,↓zz,seval,pW,aK])|refine And.intro ?_ ?_|(first|refine Ab ?_ ?_|refine Aa ?_ ?_)<;>intro hc<;>(try simp only[push_cast] at hc)|omega|intro _))
   all_goals
     refine⟨k+1,?_⟩;(with_reducible repeat' (first|(simp(disch:=omega)only[push_cast,↓zz,seval,pW,h2])|refine And.intro ?_ ?_|(first|refine Ab ?_ ?_|refine Aa ?_ ?_)<;>intro hc<;>(try simp only[push_cast] at hc)|omega|intro _))
 · obtain rfl:k=ws.length:=by omega
   rw[List.take_of_length_le (Nat.le_refl _)];have hzz:(ws.flatten.length:Int)≠0:=by omega
   refine W_T ?_;(with_reducible repeat' (first|(simp(disch:=omega)only[push_cast,↓zz,seval,pW])|refine And.intro ?_ ?_|(first|refine Ab ?_ ?_|refine Aa ?_ ?_)<;>intro hc<;>(try simp only[push_cast] at hc)|omega|intro _))
   (refine Q5 [] (hG) (by decide) (by simp) (by (simp(disch:=omega)only[push_cast,↓zz,seval])) (by (simp(disch:=omega)only[push_cast,↓zz,seval])) (by (simp(disch:=omega)only[push_cast,↓zz,seval])) (by (simp(disch:=omega)only[push_cast,↓zz,seval,List.mem_cons,List.not_mem_nil,or_false,forall_eq_or_imp,forall_eq,List.forall_mem_nil])) ?_)
   rintro y H' ⟨rfl,rfl⟩;refine⟨_,rfl,by simp,?_⟩;(with_reducible repeat' (first|(simp(disch:=omega)only[push_cast,↓zz,seval,pW])|refine And.intro ?_ ?_|(first|refine Ab ?_ ?_|refine Aa ?_ ?_)<;>intro hc<;>(try simp only[push_cast] at hc)|omega|intro _))
   refine An (Ap (fun (k:Nat)=>k≤ws.length) (fun k=>ws.length-k)
     (fun k=>[(6,.ref 0 1 0 (ws.take k).flatten.length),(25,.lst 1 (ws.map Be)),(26,.int .i64 ws.length),(27,.int .i64 k)]) (fun k=>[⟨6,1,false,Fs ws k⟩]) (fun env _=>[A5 6 (env 6)]) 0 (by simp) ?_ ?_)
   · have r0:Fs ws 0=List.replicate ws.flatten.length Jk:=by simp[Fs]
     have pZ:∀ n,Aw (List.replicate n Jk)=true:=fun n=>Bv.2 fun x hx=>by rw[List.eq_of_mem_replicate hx];rfl
     (with_reducible repeat' (first|(simp(disch:=omega)only[push_cast,↓zz,seval,pW,pZ,r0,List.flatten_nil,List.length_nil])|refine And.intro ?_ ?_|(first|refine Ab ?_ ?_|refine Aa ?_ ?_)<;>intro hc<;>(try simp only[push_cast] at hc)|omega|intro _))
   intro k hkw
   have pL:∀ k,Aw (Fs ws k)=true:=fun k=>by
     rw[Fs,Qf,Hm,Bool.true_and];exact Bv.2 fun x hx=>by rw[List.eq_of_mem_replicate hx];rfl
   have h1:=Xq ws k;have lR:(Fs ws k).length=ws.flatten.length:=by simp only[Fs,List.length_append,List.length_map,List.length_replicate];omega
   rcases Nat.lt_or_ge k ws.length with hkl|hkl
   · have hn:nth ws k=ws[k]:=by simp[nth,hkl]
     have hf:=U0 ws hkl;rw[←hn] at hf;have h1':=Xq ws (k+1);have h2:(ws.take (k+1)).flatten.length=(ws.take k).flatten.length+(nth ws k).length:=by rw[hf];simp
     have aK:=aW k hkl;have pw:=Hm (nth ws k)
     have hR:(Fs ws k).take (ws.take k).flatten.length++(nth ws k).map Bo++(Fs ws k).drop ((ws.take k).flatten.length+(nth ws k).length)=Fs ws (k+1):=by
       have e1:(Fs ws k).take (ws.take k).flatten.length=(ws.take k).flatten.map Bo:=by
         rw[Fs];exact List.take_left' (by rw[List.length_map])
       have e2:(Fs ws k).drop ((ws.take k).flatten.length+(nth ws k).length)=List.replicate (ws.flatten.length-(ws.take (k+1)).flatten.length) Jk:=by
         rw[←List.drop_drop,Fs,List.drop_left' (by rw[List.length_map]),List.drop_replicate,h2];congr 1;omega
       rw[e1,e2,Fs,hf,List.map_append,List.append_assoc]
     rw[List.append_assoc] at hR
     have hQ:(Fs ws k).length≤(ws.take k).flatten.length→Fs ws k++(nth ws k).map Bo=Fs ws (k+1):=fun h=>by
       have h0:nth ws k=[]:=List.eq_nil_of_length_eq_zero (by omega);rw[Fs,Fs,hf,h0,List.append_nil,List.map_nil,List.append_nil]
     have pT:Aw ((Fs ws k).take (ws.take k).flatten.length)=true:=Bv.2 fun x hx=>Bv.1 (pL k) x (List.mem_of_mem_take hx);have pD:Aw ((Fs ws k).drop ((ws.take k).flatten.length+(nth ws k).length))=true:=Bv.2 fun x hx=>Bv.1 (pL k) x (List.mem_of_mem_drop hx);have hpk:=pL k;have hpk1:=pL (k+1);generalize (ws.take k).flatten.length=m at *;generalize hRk:Fs ws k=R at *;generalize hRk1:Fs ws (k+1)=R1 at *;refine W_T ?_;(with_reducible repeat' (first|(simp(disch:=omega)only[push_cast,↓zz,seval,pW,aK,pw,hpk])|refine And.intro ?_ ?_|(first|refine Ab ?_ ?_|refine Aa ?_ ?_)<;>intro hc<;>(try simp only[push_cast] at hc)|omega|intro _))
     all_goals
       refine⟨k+1,?_⟩;(with_reducible repeat' (first|(simp(disch:=omega)only[push_cast,↓zz,seval,pW,h2,hRk1,hpk1,pw,hpk,pT,pD,hR,hQ])|refine And.intro ?_ ?_|(first|refine Ab ?_ ?_|refine Aa ?_ ?_)<;>intro hc<;>(try simp only[push_cast] at hc)|omega|intro _))
   · obtain rfl:k=ws.length:=by omega
     have rE:Fs ws ws.length=ws.flatten.map Bo:=by simp[Fs]
     rw[rE,List.take_length] at *;refine W_T ?_;(with_reducible repeat' (first|(simp(disch:=omega)only[push_cast,↓zz,seval,pW,Hm])|refine And.intro ?_ ?_|(first|refine Ab ?_ ?_|refine Aa ?_ ?_)<;>intro hc<;>(try simp only[push_cast] at hc)|omega|intro _))
     all_goals trace_state
theorem Xr (ws:List (List Term)) (hk:ws.length≤1000000000) (h0:ws.flatten.length=0):PC Tryz.prog 96 [.lst 1 (ws.map Be)] (Be ws.flatten):=by
 have pW:Aw (ws.map Be)=true:=Bv.2 fun x hx=>by
   obtain⟨l,_,rfl⟩:=List.mem_map.1 hx;exact Hm l
 have hE:ws.flatten=[]:=List.eq_nil_of_length_eq_zero h0
 have aW:∀ k,k<ws.length→(ws.map Be).getD k .any=.lst 6 []:=fun k hk=>by
   have:ws[k]=[]:=by
     have:=List.flatten_eq_nil_iff.1 hE _ (List.getElem_mem hk);exact this
   simp[List.getD,hk,this,Be]
 have hG:=z42;rw[hE];refine A9 C2 ?_;unfold Cc;(with_reducible repeat' (first|(simp(disch:=omega)only[push_cast,↓zz,seval,pW])|refine And.intro ?_ ?_|(first|refine Ab ?_ ?_|refine Aa ?_ ?_)<;>intro hc<;>(try simp only[push_cast] at hc)|omega|intro _))
 refine An (Ap (fun (k:Nat)=>k≤ws.length) (fun k=>ws.length-k)
   (fun k=>[(0,.lst 1 (ws.map Be)),(3,.int .i64 0),(9,.lst 1 (ws.map Be)),(10,.int .i64 ws.length),(11,.int .i64 k)]) (fun _=>[]) (fun _ _=>[]) 0 (by simp) ?_ ?_)
 · (with_reducible repeat' (first|(simp(disch:=omega)only[push_cast,↓zz,seval,pW])|refine And.intro ?_ ?_|(first|refine Ab ?_ ?_|refine Aa ?_ ?_)<;>intro hc<;>(try simp only[push_cast] at hc)|omega|intro _))
 intro k hkw;rcases Nat.lt_or_ge k ws.length with hkl|hkl
 · have aK:=aW k hkl
   refine W_T ?_;(with_reducible repeat' (first|(simp(disch:=omega)only[push_cast,↓zz,seval,pW,aK])|refine And.intro ?_ ?_|(first|refine Ab ?_ ?_|refine Aa ?_ ?_)<;>intro hc<;>(try simp only[push_cast] at hc)|omega|intro _))
   all_goals
     refine⟨k+1,?_⟩;(with_reducible repeat' (first|(simp(disch:=omega)only[push_cast,↓zz,seval,pW])|refine And.intro ?_ ?_|(first|refine Ab ?_ ?_|refine Aa ?_ ?_)<;>intro hc<;>(try simp only[push_cast] at hc)|omega|intro _))
 · obtain rfl:k=ws.length:=by omega
   refine W_T ?_;(with_reducible repeat' (first|(simp(disch:=omega)only[push_cast,↓zz,seval,pW])|refine And.intro ?_ ?_|(first|refine Ab ?_ ?_|refine Aa ?_ ?_)<;>intro hc<;>(try simp only[push_cast] at hc)|refine eK hG ?_|refine eQ hG ?_|refine eG hG ?_|((first|refine cK hG ?_|refine cQ hG ?_|refine cG hG ?_);(simp(disch:=omega)only[push_cast,↓zz,seval,pW]);(fail_if_success change False))|omega|intro _))
   refine An (Ap (fun (k:Nat)=>k≤ws.length) (fun k=>ws.length-k)
     (fun k=>[(6,.ref 0 1 0 0),(25,.lst 1 (ws.map Be)),(26,.int .i64 ws.length),(27,.int .i64 k)]) (fun k=>[⟨6,1,false,[]⟩]) (fun env _=>[A5 6 (env 6)]) 0 (by simp) ?_ ?_)
   · (with_reducible repeat' (first|(simp(disch:=omega)only[push_cast,↓zz,seval,pW])|refine And.intro ?_ ?_|(first|refine Ab ?_ ?_|refine Aa ?_ ?_)<;>intro hc<;>(try simp only[push_cast] at hc)|omega|intro _))
   intro k hkw;rcases Nat.lt_or_ge k ws.length with hkl|hkl
   · have aK:=aW k hkl
     refine W_T ?_;(with_reducible repeat' (first|(simp(disch:=omega)only[push_cast,↓zz,seval,pW,aK])|refine And.intro ?_ ?_|(first|refine Ab ?_ ?_|refine Aa ?_ ?_)<;>intro hc<;>(try simp only[push_cast] at hc)|omega|intro _))
     all_goals
       refine⟨k+1,?_⟩;(with_reducible repeat' (first|(simp(disch:=omega)only[push_cast,↓zz,seval,pW])|refine And.intro ?_ ?_|(first|refine Ab ?_ ?_|refine Aa ?_ ?_)<;>intro hc<;>(try simp only[push_cast] at hc)|omega|intro _))
   · obtain rfl:k=ws.length:=by omega
     refine W_T ?_;(with_reducible repeat' (first|(simp(disch:=omega)only[push_cast,↓zz,seval,pW])|refine And.intro ?_ ?_|(first|refine Ab ?_ ?_|refine Aa ?_ ?_)<;>intro hc<;>(try simp only[push_cast] at hc)|omega|intro _))
     all_goals trace_state
theorem U1 (a b:List Term) (hl:a.length+b.length≤1000000000):PC Tryz.prog 96 [.lst 1 [Be a,Be b]] (Be (a++b)):=by
 have e:[a,b].flatten=a++b:=by simp
 have el:[a,b].flatten.length=a.length+b.length:=by rw[e,List.length_append]
 rw[←e];rcases Nat.eq_zero_or_pos [a,b].flatten.length with h|h
 · exact Xr [a,b] (by simp) h
 · exact z0t [a,b] (by simp) h (by omega)
end Go.Proofs.YtbcjoeadpjfcfaaGreat
set_option maxRecDepth 100000
namespace Go.Proofs.YtbcjoeadpjfcfaaGreat
open Abs
abbrev e1 (i:Nat):AV:=.int .i64 i
def wayV (w:Int × List Term):AV:=.agg [.int .i64 w.1,Be w.2]
theorem Gj (w:Int × List Term):(wayV w).pure=true:=by simp[wayV,AV.pure,Aw,Am]
def epsV (l:List Rule) (n:Nat):AV:=.lst 1 (fD 1 e1 n fun i=>epsI l i)
def fnL (d:Desc) (n left:Nat) (V:Nat→Nat) (D:Nat→List (Int × List Term)):List Grp :=
 ⟨9,1,true,[.agg [.int .i64 d.in_,.int .i64 d.out,.int .i64 d.states,.int .i64 d.start,Dv d.rules,Gv d.finals,epsV d.rules n,.ref 1 1 0 n,.int .i64 left]]⟩::⟨1,1,true,fT 2 n V D⟩::fF 2 wayV n V D
theorem Ox (d:Desc) (n left:Nat) (V:Nat→Nat) (D:Nat→List (Int × List Term)):fnL d n left V D=⟨9,1,true,[.agg [.int .i64 d.in_,.int .i64 d.out,.int .i64 d.states,.int .i64 d.start,Dv d.rules,Gv d.finals,epsV d.rules n,.ref 1 1 0 n,.int .i64 left]]⟩::⟨1,1,true,fT 2 n V D⟩::fF 2 wayV n V D:=rfl
theorem D9 (d:Desc) (n left:Nat) (V:Nat→Nat) (D:Nat→List (Int × List Term)):(fnL d n left V D).length=n+2:=by simp[fnL,Ji]
theorem Mw (l:List Rule) (n:Nat):Aw (fD 1 e1 n fun i=>epsI l i)=true:=Jj fun _=>rfl
theorem Eg (d:Desc) (n left:Nat) (V:Nat→Nat) (D:Nat→List (Int × List Term)):∀ G∈fnL d n left V D,ltL (fnL d n left V D).length G.xs:=fun G hG=>by
 rw[D9];simp only[fnL,List.mem_cons] at hG;rcases hG with rfl|rfl|hG
 · have h1:ltV (n+2) (Dv d.rules):=C5 _ _ (Az _)
   have h2:ltV (n+2) (Gv d.finals):=C5 _ _ (Av _);have h3:ltV (n+2) (epsV d.rules n):=C5 _ _ (Mw _ _);exact⟨⟨trivial,trivial,trivial,trivial,h1,h2,h3,(show 1<n+2 by omega),trivial,trivial⟩,trivial⟩
 · exact z7j (by omega)
 · exact z7k Gj G hG
theorem zq2 (l:List Rule) (n:Nat) (s:Int) (out:List Term):0<(wayL l n s out).length:=by
 rw[wayL,List.length_map];exact z7c l n s
def wayK (l:List Rule) (n:Nat) (s:Int) (out:List Term) (k:Nat):List (Int × List Term):=((epsI l s).take k).flatMap fun i=>wayL l n (nth l i).to_ (out++(nth l i).out)
theorem zf8 {l:List Rule} {n:Nat} {s:Int} {out:List Term} {k:Nat} (h:k<(epsI l s).length):wayK l n s out (k+1)=wayK l n s out k++wayL l n (nth l (nth (epsI l s) k)).to_ (out++(nth l (nth (epsI l s) k)).out):=by
 rw[wayK,take_at h,List.flatMap_append];simp[wayK]
theorem zq3 {l:List Rule} {n:Nat} {s:Int} {out:List Term} {k:Nat} (h:k≤(epsI l s).length):∃ r,wayK l n s out (epsI l s).length=wayK l n s out k++r:=by
 have:epsI l s=(epsI l s).take k++(epsI l s).drop k:=(List.take_append_drop k _).symm;refine⟨((epsI l s).drop k).flatMap fun i=>wayL l n (nth l i).to_ (out++(nth l i).out),?_⟩;rw[wayK,List.take_length,wayK,←List.flatMap_append,List.take_append_drop]
theorem zke {l:List Rule} {n:Nat} (hl:∀ r∈l,(0≤r.from_∧r.from_<n)∧0≤r.to_∧r.to_<n) (hc:¬cycP l n) {s:Int} (hs:0≤s) (out:List Term):wayL l n s out=(s,out)::wayK l n s out (epsI l s).length:=by
 rw[zpz hl hc hs,wayK,List.take_length]
theorem zf9 {α:Type} (D:Nat→List α) (i:Nat) (l:List α) (h:l=D i):setD D i l=D:=by
 funext p;simp only[setD];split
 · rename_i e;rw[h,e]
 · rfl
theorem z0u {α:Type} (D:Nat→List α) (i:Nat) (l m:List α):setD (setD D i l) i m=setD D i m:=by
 funext p;simp only[setD];split<;>rfl
theorem z43 {α:Type} (D:Nat→List α) (i:Nat) (l:List α):setD D i l i=l:=by simp[setD]
theorem zkf {α:Type} {a:α} {L M r W:List α} {left l':Nat} (hW:W=a::(L++M++r)) (hl:left=1+L.length+l') (hM:l'<M.length):W.take left=a::(L++M.take l')∧left<W.length:=by
 subst hW;refine⟨?_,by simp;omega⟩;rw[hl,show 1+L.length+l'=L.length+l'+1 by omega,List.take_succ_cons,List.append_assoc,List.take_append,List.take_of_length_le (by omega),Nat.add_sub_cancel_left,List.take_append_of_le_length (by omega)]
theorem zkg (d:Desc) {n:Nat} (hn:n≤1024) (hrl:d.rules.length≤4096) (hl:∀ r∈d.rules,(0≤r.from_∧r.from_<n)∧0≤r.to_∧r.to_<n) (hc:¬cycP d.rules n) (ho:∀ r∈d.rules,r.out.length≤64) :
   ∀ (left:Nat) (root s:Nat) (out:List Term) (V:Nat→Nat) (D:Nat→List (Int × List Term)),left≤4096→root<n→s<n→out.length+64 * left≤64 * 4096→(D root).length+left≤4096 →
   Bi Tryz.prog 90 [.ptr 0 1 0 0,.int .i64 root,.int .i64 s,Be out] (Abs.hl (fnL d n left V D)) fun y H'=>∃ V',y=.bool (decide ((wayL d.rules n s out).length≤left)) ∧
     H'=Abs.hl (fnL d n (left-(wayL d.rules n s out).length) V' (setD D root (D root++(wayL d.rules n s out).take left))):=by
 intro left
 induction left using Nat.strongRecOn with
 | ind left ih =>
 intro root s out V D hlb hroot hs hout hDl;refine zap (z59 Iy (W_T ?_));unfold Fo;have hwp:=zq2 d.rules n s out;have pR:=Az d.rules;have pFi:=Av d.finals;have pO:=Am out;have pE:=Mw d.rules n;have hFl:(fF 2 wayV n V D).length=n:=Ji;rcases Nat.eq_zero_or_pos left with rfl|hpos
 · rw[Ox d n 0 V D]
   generalize hF:fF 2 wayV n V D=F at *;(with_reducible repeat' (first|(simp(disch:=omega)only[push_cast,↓zz,seval,pR,pFi,pO,pE,hFl])|refine And.intro ?_ ?_|(first|refine Ab ?_ ?_|refine Aa ?_ ?_)<;>intro hc<;>(try simp only[push_cast] at hc)|omega|intro _))
   all_goals
     refine⟨_,_,Ent.refl,V,by rw[decide_eq_false (by omega)],?_⟩;rw[zf9 _ _ _ (by simp),Nat.zero_sub,Ox,hF];rfl
 · have hTl:(fT 2 n V D).length=n:=z7e
   have hLl:(fD 1 e1 n fun i=>epsI d.rules i).length=n:=z0o;have aL:(fD 1 e1 n fun i=>epsI d.rules i).getD s .any=.lst 1 ((epsI d.rules s).map e1):=zf6 hs;have aL2:(fD 1 e1 n fun i=>epsI d.rules i)[s]? = some (.lst 1 ((epsI d.rules s).map e1)):=z0q hs;have pI:Aw ((epsI d.rules s).map e1)=true:=Ef (fun _=>rfl) _;have gI:(fF 2 wayV n V D).getD root default=gG 2 wayV (V root) (D root):=z0p hroot;have tI:(fT 2 n V D).getD root .any=.ref (root+2) (V root) 0 (D root).length:=zka hroot;have sI:∀ G,setQ (fF 2 wayV n V D) root G=some ((fF 2 wayV n V D).set root G):=fun G=>z7h (by omega);have hEx:(!(D root).isEmpty||((D root).map wayV).isEmpty)=true:=zkb _
   have eT:(fT 2 n V D).set root (.ref (root+2) (V root+1) 0 ((D root).length+1))=fT 2 n (setV V root (V root+1)) (setD D root (D root++[((s:Int),out)])):=by
     have:=z7f (o:=2) (V:=V) (D:=D) (l:=D root++[((s:Int),out)]) hroot
     rwa [List.length_append] at this
   have eF:(fF 2 wayV n V D).set root ⟨2,V root+1,false,(D root).map wayV++[.agg [.int .i64 s,Be out]]⟩=fF 2 wayV n (setV V root (V root+1)) (setD D root (D root++[((s:Int),out)])):=by
     have:=z7g (V:=V) (D:=D) (w:=2) (e:=wayV) (l:=D root++[((s:Int),out)]) (by simp) hroot;rw[List.map_append] at this;exact this
   have hSB:∀ G,B7 2 [root+2] (fF 2 wayV n V D) ((fF 2 wayV n V D).set root G):=fun G=>H6 (by simp;omega);rw[Ox d n left V D];have hEp:epsV d.rules n=.lst 1 (fD 1 e1 n fun i=>epsI d.rules i):=rfl;have hwa:=zke hl hc (show (0:Int)≤s by omega) out;generalize hLe:fD 1 e1 n (fun i=>epsI d.rules i)=L at *;generalize fF 2 wayV n V D=F at *;generalize fT 2 n V D=TT at *;simp only[gG] at gI;(with_reducible repeat' (first|(simp(disch:=omega)only[push_cast,↓zz,seval,hEp,pR,pFi,pO,pE,hFl])|refine And.intro ?_ ?_|(first|refine Ab ?_ ?_|refine Aa ?_ ?_)<;>intro hc<;>(try simp only[push_cast] at hc)|omega|intro _));refine B8 [root+2] ?_;(with_reducible repeat' (first|(simp(disch:=omega)only[push_cast,↓zz,seval,xx,List.mem_cons,List.not_mem_nil,or_false,false_or,not_or,not_false_eq_true,true_or,or_true,hEp,pR,pFi,pO,pE,hFl,hTl,hLl,aL,aL2,gI,tI,sI,hEx,pI])|refine And.intro ?_ ?_|(first|refine Ab ?_ ?_|refine Aa ?_ ?_)<;>intro hc<;>(try simp only[push_cast] at hc)|omega|intro _))
   · exact hSB _
   have hE1:(epsI d.rules s).length≤4096:=by
     have:=List.length_filter_le (fun i=>Cf (nth d.rules i)&&decide ((nth d.rules i).from_=(s:Int))) (List.range d.rules.length);rw[List.length_range] at this;exact Nat.le_trans this hrl
   refine An (Ng (fun (q:Nat × (Nat→Nat))=>q.1≤(epsI d.rules s).length∧(wayK d.rules n s out q.1).length+1≤left) (fun q=>(epsI d.rules s).length-q.1)
     (fun q=>C8 [(0,.ptr 0 1 0 0),(1,.int .i64 root),(3,Be out),(48,.lst 1 ((epsI d.rules s).map e1)),(49,.int .i64 (epsI d.rules s).length),(50,.int .i64 q.1)])
     (fun q=>Abs.hl (fnL d n (left-1-(wayK d.rules n s out q.1).length) q.2 (setD D root (D root++((s:Int),out)::wayK d.rules n s out q.1)))) (0,setV V root (V root+1)) ⟨by simp,by simp[wayK];omega⟩ ?_ ?_)
   · have e0:wayK d.rules n s out 0=[]:=by simp[wayK]
     have el:((left-1-0:Nat):Int)=(left:Int)-1:=by omega
     refine Gi (gar:=[]) _ ?_ (by rw[D9];simp[hl_n,hFl]) (Eg _ _ _ _ _) ?_
     · simp only[Ox,e0,List.length_nil,el,hEp,List.append_nil,eT,eF]
     · have hO:ltV (n+2) (Be out):=C5 _ _ pO
       rw[D9];exact⟨rfl,(show 0<n+2 by omega),rfl,trivial,rfl,hO,rfl,trivial,rfl,trivial,rfl,trivial,trivial⟩
   clear eT eF sI hSB gI tI hEx;rintro⟨k,V1⟩ ⟨hk,hkl⟩;simp only at hk hkl ⊢;have hO:ltV (n+2) (Be out):=C5 _ _ pO;obtain⟨left',hleft'⟩:∃ left',left'=left-1-(wayK d.rules n s out k).length:=⟨_,rfl⟩;rw[←hleft'];obtain⟨D1,hD1⟩:∃ D1,D1=setD D root (D root++((s:Int),out)::wayK d.rules n s out k):=⟨_,rfl⟩;rw[←hD1];obtain⟨B,hB⟩:∃ B,B=(fnL d n left' V1 D1):=⟨_,rfl⟩;have hBc:=Eg d n left' V1 D1;have hBl:=D9 d n left' V1 D1;rcases Nat.lt_or_ge k (epsI d.rules s).length with hkl2|hkl2
   · obtain⟨i,hi⟩:∃ i,i=nth (epsI d.rules s) k:=⟨_,rfl⟩
     have him:i∈epsI d.rules s:=by rw[hi];exact Ao hkl2
     obtain⟨i1,i2,i3⟩:=F2.1 him;have hws:=zf8 (l:=d.rules) (n:=n) (out:=out) hkl2;rw[←hi] at hws;have aI:((epsI d.rules s).map e1).getD k .any=.int .i64 i:=by rw[hi];simp[nth,List.getD,hkl2]
     have hto:=(hl _ (Ao i1)).2;have hol:=ho _ (Ao i1);obtain⟨r,hr⟩:=zq3 (l:=d.rules) (n:=n) (s:=s) (out:=out) (k:=k+1) (by omega);rw[hr,hws] at hwa;clear hr;generalize hre:nth d.rules i=rr at *;have hgr:=Ad rr.guards;have hot:=Am rr.out;obtain⟨j,hj⟩:∃ j:Nat,rr.to_=j:=⟨rr.to_.toNat,by omega⟩;have hjn:j<n:=by omega
     rw[hj] at hwa hws;have hC:=U1 out rr.out (by omega);have hlt':left'<left:=by omega
     have hIH:=ih left' hlt' root j (out++rr.out) V1 D1 (by omega) hroot hjn (by rw[List.length_append];omega) (by rw[hD1,z43,List.length_append,List.length_cons];omega);have hpO2:=Am (out++rr.out);have hO2:ltV (n+2) (Be (out++rr.out)):=C5 _ _ hpO2;generalize hM:wayL d.rules n j (out++rr.out)=M at *;have hF1:(fF 2 wayV n V1 D1).length=n:=Ji;have gR:∀ G,(fF 2 wayV n V1 D1++[G]).getD n default=G:=fun G=>by rw[H8 hF1];rfl
     have sR:∀ G G',setQ (fF 2 wayV n V1 D1++[G]) n G'=some (fF 2 wayV n V1 D1++[G']):=fun G G'=>by rw[Mv _ _ hF1];rfl
     rw[Ox d n left' V1 D1];refine W_T ?_;(with_reducible repeat' (first|(simp(disch:=omega)only[push_cast,↓zz,seval,hEp,pR,pFi,pO,pI,hLl,aI,hre,hgr,hot,hj,i1,hF1,gR,sR])|refine And.intro ?_ ?_|(first|refine Ab ?_ ?_|refine Aa ?_ ?_)<;>intro hc<;>(try simp only[push_cast] at hc)|refine eK hC ?_|refine eQ hC ?_|refine eG hC ?_|((first|refine cK hC ?_|refine cQ hC ?_|refine cG hC ?_);(simp(disch:=omega)only[push_cast,↓zz,seval,hEp,pR,pFi,pO,pI,hLl,aI,hre,hgr,hot,hj,i1,hF1,gR,sR]);(fail_if_success change False))|omega|intro _));refine zlu (l0:=fnL d n left' V1 D1) (extra:=[_]) (by simp only[Ox,hEp];rfl) hIH ?_ (Eg _ _ _ _ _) ?_
     · rw[D9]
       exact⟨(show 0<n+2 by omega),trivial,trivial,hO2,trivial⟩
     rintro y H' ⟨V2,rfl,rfl⟩;refine⟨_,rfl,by rw[D9,D9],trivial,fun G hG=>?_,?_⟩
     · have:=Eg _ _ _ _ _ G hG
       rw[D9] at this ⊢;exact this
     by_cases hfit:M.length≤left'
     · rw[decide_eq_true hfit]
       have hD2:setD D1 root (D1 root++List.take left' M)=setD D root (D root++((s:Int),out)::wayK d.rules n s out (k+1)):=by
         rw[hD1,z0u,z43,List.take_of_length_le hfit,hws,List.append_assoc,List.cons_append]
       have hL2:left'-M.length=left-1-(wayK d.rules n s out (k+1)).length:=by rw[hws,List.length_append];omega
       have hL3:(wayK d.rules n s out (k+1)).length+1≤left:=by rw[hws,List.length_append];omega
       rw[hD2,hL2];(with_reducible repeat' (first|(simp(disch:=omega)only[push_cast,↓zz,seval])|refine And.intro ?_ ?_|(first|refine Ab ?_ ?_|refine Aa ?_ ?_)<;>intro hc<;>(try simp only[push_cast] at hc)|omega|intro _));refine⟨(k+1,V2),Gi (gar:=[_]) _ rfl (by rw[D9];omega) (Eg _ _ _ _ _) ?_,⟨by omega,hL3⟩,by simp only;omega⟩;rw[D9];exact⟨rfl,(show 0<n+2 by omega),rfl,trivial,rfl,hO,rfl,trivial,rfl,trivial,rfl,trivial,trivial⟩
     · rw[decide_eq_false hfit]
       have hW:wayL d.rules n s out=((s:Int),out)::(wayK d.rules n s out k++M++r):=hwa;obtain⟨c1,c2⟩:=zkf hW (show left=1+(wayK d.rules n s out k).length+left' by omega) (show left'<M.length by omega)
       have hD2:setD D1 root (D1 root++List.take left' M)=setD D root (D root++List.take left (wayL d.rules n s out)):=by
         rw[hD1,z0u,z43,c1,List.append_assoc,List.cons_append]
       have hL2:left'-M.length=left-(wayL d.rules n s out).length:=by omega
       rw[hD2,hL2];(with_reducible repeat' (first|(simp(disch:=omega)only[push_cast,↓zz,seval])|refine And.intro ?_ ?_|(first|refine Ab ?_ ?_|refine Aa ?_ ?_)<;>intro hc<;>(try simp only[push_cast] at hc)|omega|intro _));exact⟨_,_,zkc (gar:=[_]) rfl (by rw[D9];omega) (Eg _ _ _ _ _) trivial,V2,by rw[decide_eq_false (by omega)],rfl⟩
   · obtain rfl:k=(epsI d.rules s).length:=by omega
     have hWl:(wayL d.rules n s out).length=(wayK d.rules n s out (epsI d.rules s).length).length+1:=by rw[hwa,List.length_cons]
     have hD2:D1=setD D root (D root++List.take left (wayL d.rules n s out)):=by
       rw[hD1,List.take_of_length_le (by omega),hwa]
     have hL2:left'=left-(wayL d.rules n s out).length:=by omega
     rw[hD2,hL2];refine W_T ?_;(with_reducible repeat' (first|(simp(disch:=omega)only[push_cast,↓zz,seval,pR,pFi,pO,pI,hLl])|refine And.intro ?_ ?_|(first|refine Ab ?_ ?_|refine Aa ?_ ?_)<;>intro hc<;>(try simp only[push_cast] at hc)|omega|intro _));exact⟨_,_,Ent.refl,V1,by rw[decide_eq_true (by omega)],rfl⟩
end Go.Proofs.YtbcjoeadpjfcfaaGreat
namespace Go.Proofs.YtbcjoeadpjfcfaaGreat.Abs
def Frz1 (d:Nat) (H:Ac) (ks:List Nat) (x y:AV):Prop:=y=x∨(Cn d (H.only ks) x∧y=frzV d (H.only ks) x)
def FrzL (d:Nat) (H:Ac) (ks:List Nat):List AV→List AV→Prop
 | [],ys=>ys=[]
 | x::xs,ys=>∃ y r,ys=y::r∧Frz1 d H ks x y∧FrzL d H ks xs r
def Frz2 (d:Nat) (H:Ac) (ks:List Nat) (x y:AV):Prop:=Frz1 d H ks x y∨∃ cs ds,x=.agg cs∧y=.agg ds∧FrzL d H ks cs ds
def FrzM (d:Nat) (H:Ac) (ks:List Nat):List AV→List AV→Prop
 | [],ys=>ys=[]
 | x::xs,ys=>∃ y r,ys=y::r∧Frz2 d H ks x y∧FrzM d H ks xs r
theorem FrzM.len {d:Nat} {H:Ac} {ks:List Nat}:∀ {xs ys:List AV},FrzM d H ks xs ys→ys.length=xs.length
 | [],_,h=>by rw[show _=[] from h]
 | x::xs,_,⟨y,r,rfl,_,h⟩=>by simp[FrzM.len h]
theorem Frz1.rel {d:Nat} {H:Ac} {ks:List Nat} {S:MS} (hS:SRel S H) {x y:AV} {v:Value} (h:Frz1 d H ks x y) (hv:VRel S x v):VRel (S.kill H ks) y v:=by
 rcases h with rfl|⟨h1,rfl⟩
 · exact VRel.mono (Gn ks hS) _ hv
 · exact Ph ks hS d h1 hv
theorem FrzL.rel {d:Nat} {H:Ac} {ks:List Nat} {S:MS} (hS:SRel S H):∀ {xs ys:List AV} {vs:List Value},FrzL d H ks xs ys→Ae S xs vs→Ae (S.kill H ks) ys vs
 | [],_,_,h,hv=>by rw[show _=[] from h];exact hv
 | x::xs,_,_,⟨y,r,rfl,h1,h2⟩,⟨u,q,rfl,k1,k2⟩=>⟨u,q,rfl,h1.rel hS k1,FrzL.rel hS h2 k2⟩
theorem Frz2.rel {d:Nat} {H:Ac} {ks:List Nat} {S:MS} (hS:SRel S H) {x y:AV} {v:Value} (h:Frz2 d H ks x y) (hv:VRel S x v):VRel (S.kill H ks) y v:=by
 rcases h with h|⟨cs,ds,rfl,rfl,h⟩
 · exact h.rel hS hv
 · obtain⟨vs,rfl,hvs⟩:=hv
   exact⟨vs,rfl,h.rel hS hvs⟩
theorem FrzM.rel {d:Nat} {H:Ac} {ks:List Nat} {S:MS} (hS:SRel S H):∀ {xs ys:List AV} {vs:List Value},FrzM d H ks xs ys→Ae S xs vs→Ae (S.kill H ks) ys vs
 | [],_,_,h,hv=>by rw[show _=[] from h];exact hv
 | x::xs,_,_,⟨y,r,rfl,h1,h2⟩,⟨u,q,rfl,k1,k2⟩=>⟨u,q,rfl,h1.rel hS k1,FrzM.rel hS h2 k2⟩
theorem FrzM.refl {d:Nat} {H:Ac} {ks:List Nat}:∀ (xs:List AV),FrzM d H ks xs xs
 | []=>rfl
 | x::xs=>⟨x,xs,rfl,.inl (.inl rfl),FrzM.refl xs⟩
theorem FrzM.set {d:Nat} {H:Ac} {ks:List Nat} {y:AV}:∀ {xs:List AV} {i:Nat},i<xs.length→Frz2 d H ks (xs.getD i .any) y→FrzM d H ks xs (xs.set i y)
 | [],_,h,_=>by simp at h
 | x::xs,0,_,h=>⟨y,xs,rfl,h,FrzM.refl xs⟩
 | x::xs,i+1,hi,h=>⟨x,_,rfl,.inl (.inl rfl),FrzM.set (by simpa using hi) (by simpa using h)⟩
theorem z0v {n b:Nat} {env:Env} {l l':List Grp} {g w v d:Nat} {ex:Bool} {xs ys:List AV} (ks:List Nat) (hw:0<w) (hlt:g<l.length) (hg:l.getD g default=⟨w,v,ex,xs⟩) (hk:g∉ks)
   (hxy:FrzM d (hl l) ks xs ys) (hl':(Es 0 ks l).set g ⟨w,v,ex,ys⟩=l'):Ent n b env (hl l) env (hl l'):=fun S val hb hS hv=>by
 subst hl';have hS1:=Pg ks hS;have he:=Gn ks hS;refine⟨S.kill (hl l) ks,rfl,he.down hb,?_,fun i hi=>VRel.mono he _ (hv i hi)⟩;have hlk:g<(Es 0 ks l).length:=by rw[Ga];exact hlt
 have hat0:∀ j,j<l.length→((hl l).kill ks).at_ j=(Es 0 ks l).getD j default:=fun j hj=>by
   rw[Lw 0 ks l j hj,Nat.zero_add];rfl
 have hn:(hl ((Es 0 ks l).set g ⟨w,v,ex,ys⟩)).n=((hl l).kill ks).n:=by simp[hl,Ac.kill,Ga]
 have hlen:((hl l).kill ks).n=l.length:=rfl
 have hat:∀ j,j<l.length→(hl ((Es 0 ks l).set g ⟨w,v,ex,ys⟩)).at_ j=if j=g then ⟨w,v,ex,ys⟩ else ((hl l).kill ks).at_ j:=fun j hj=>by
   rw[Ck];by_cases e:j=g
   · subst e;rw[if_pos rfl];exact K7 _ hlk
   · rw[if_neg e,hat0 j hj];exact Fl _ (Ne.symm e)
 have hgk:((hl l).kill ks).at_ g=⟨w,v,ex,xs⟩:=by
   show (if g∈ks then _ else _)=_;rw[if_neg hk,Ck,hg]
 have h1:GRel (S.kill (hl l) ks) ⟨w,v,ex,xs⟩ g:=by have:=hS1.grp g (by rw[hlen];exact hlt);rwa [hgk] at this
 have h0:GRel S ⟨w,v,ex,xs⟩ g:=by have:=hS.grp g hlt;rwa [Ck,hg] at this
 have hly:=hxy.len
 have hG:GRel (S.kill (hl l) ks) ⟨w,v,ex,ys⟩ g:=by
   refine⟨h1.ver,h1.wid,fun _ hc=>?_,fun hh=>by show ys.length≤_;rw[hly];exact h1.len hh,fun hh he=>by show ys.length=_;rw[hly];exact h1.full hh he,fun hh=>by simp only at hh;omega⟩;obtain⟨⟨cells,TT,vs,a1,a2,a3,a4⟩,_⟩:=h0.live hw hc;exact⟨⟨cells,TT,vs,a1,a2,hxy.rel hS a3,a4⟩,(h1.live hw hc).2⟩
 have hhas:∀ j,j<l.length→((hl ((Es 0 ks l).set g ⟨w,v,ex,ys⟩)).at_ j).has ((S.kill (hl l) ks).cap j)→(((hl l).kill ks).at_ j).has ((S.kill (hl l) ks).cap j):=fun j hj h=>by
   rw[hat j hj] at h;by_cases e:j=g
   · subst e;rw[if_pos rfl] at h;rw[hgk];exact h
   · rw[if_neg e] at h;exact h
 refine⟨hS1.n.trans hn.symm,fun j hj=>?_,fun j j' a c hne p q=>hS1.apart j j' (by rwa [hn] at a) (by rwa [hn] at c) hne (hhas j (by rwa [hn] at a) p) (hhas j' (by rwa [hn] at c) q),hS1.im⟩;rw[hn] at hj;rw[hat j hj];by_cases e:j=g
 · subst e;rw[if_pos rfl];exact hG
 · rw[if_neg e];exact hS1.grp j hj
end Go.Proofs.YtbcjoeadpjfcfaaGreat.Abs
namespace Go.Proofs.YtbcjoeadpjfcfaaGreat
open Abs
def fwdE (d:Desc):List (Int × Int):=d.rules.map fun r=>(r.from_,r.to_)
def bwdE (d:Desc):List (Int × Int):=d.rules.map fun r=>(r.to_,r.from_)
def endE (d:Desc):List Int:=d.finals.map (·.from_)
structure Wf (d:Desc):Prop where
 n:∃ n:Nat,d.states=n∧1≤n∧n≤1024
 start:0≤d.start∧d.start<d.states
 rl:d.rules.length≤4096
 fl:d.finals.length≤4096
 r:∀ r∈d.rules,(0≤r.from_∧r.from_<d.states)∧0≤r.to_∧r.to_<d.states
 f:∀ f∈d.finals,0≤f.from_∧f.from_<d.states
theorem zar {d:Desc} (h:Dl d=0):Wf d:=by
 obtain⟨h1,h2,h3⟩:=F4 h;have h4:=zex h1;refine⟨⟨d.states.toNat,by omega,by omega,by omega⟩,h4.2.2.2,h4.2.1,h4.2.2.1,fun r hr=>Xh (h2 r hr),fun f hf=>?_⟩;have:=h3 f hf;simp only[Df,Il,Bool.and_eq_true,decide_eq_true_eq] at this;exact this.1
noncomputable def comeL (d:Desc):List Bool:=zlv d.states.toNat [d.start] (fwdE d)
noncomputable def goL (d:Desc):List Bool:=zlv d.states.toNat (endE d) (bwdE d)
end Go.Proofs.YtbcjoeadpjfcfaaGreat
set_option maxRecDepth 100000
namespace Go.Proofs.YtbcjoeadpjfcfaaGreat
open Abs
def epsK (l:List Rule) (k:Nat) (s:Nat):List Nat:=(List.range k).filter fun i=>Cf (nth l i)&&decide ((nth l i).from_=s)
theorem zkh (l:List Rule) (k s:Nat):(epsK l k s).length≤k:=by
 have:=List.length_filter_le (fun i=>Cf (nth l i)&&decide ((nth l i).from_=s)) (List.range k);simpa [epsK] using this
theorem zki {l:List Rule} {k i:Nat} (he:Cf (nth l k)=true) (hi:(nth l k).from_=i):epsK l (k+1)=setD (epsK l k) i (epsK l k i++[k]):=by
 funext s;simp only[epsK,List.range_succ,List.filter_append,List.filter_cons,List.filter_nil,he,Bool.true_and,hi,decide_eq_true_eq,setD];by_cases e:s=i
 · subst e;simp
 · rw[if_neg (by omega),if_neg e];simp
theorem zq4 {l:List Rule} {k:Nat} (he:Cf (nth l k)=false):epsK l (k+1)=epsK l k:=by
 funext s;simp[epsK,List.range_succ,List.filter_append,he]
def wayD (l:List Rule) (n k:Nat) (s:Nat):List (Int × List Term):=if s<k then wayL l n s [] else []
theorem zfa (l:List Rule) (n:Nat):wayD l n 0=fun _=>[]:=by funext s;simp[wayD]
theorem zfb (l:List Rule) (n k:Nat):setD (wayD l n k) k (wayD l n k k++wayL l n k [])=wayD l n (k+1):=by
 funext s;simp only[setD,wayD];by_cases e:s=k
 · subst e;simp
 · rw[if_neg e]
   by_cases h:s<k
   · rw[if_pos h,if_pos (by omega)]
   · rw[if_neg h,if_neg (by omega)]
theorem zu4 (l:List Rule) (n:Nat):fD 2 wayV n (wayD l n n)=fD 2 wayV n fun s=>wayL l n s []:=by
 simp only[fD];refine List.map_congr_left fun s hs=>?_;have:s<n:=by simpa using hs
 simp[wayD,this]
def fbV (d:Desc) (E Wy:AV) (left:Int):AV:=.agg [.int .i64 d.in_,.int .i64 d.out,.int .i64 d.states,.int .i64 d.start,Dv d.rules,Gv d.finals,E,Wy,.int .i64 left]
def epL (d:Desc) (n k:Nat) (V:Nat→Nat):List Grp :=
 ⟨9,1,true,[fbV d (.ref 2 1 0 n) (.ref 1 1 0 n) 4096]⟩::⟨1,1,true,List.replicate n .nilS⟩::⟨1,1,true,fT 4 n V (epsK d.rules k)⟩::⟨6,1,true,[Bp d]⟩::fF 1 e1 n V (epsK d.rules k)
theorem z0w (d:Desc) (n k:Nat) (V:Nat→Nat):epL d n k V=⟨9,1,true,[fbV d (.ref 2 1 0 n) (.ref 1 1 0 n) 4096]⟩::⟨1,1,true,List.replicate n .nilS⟩::⟨1,1,true,fT 4 n V (epsK d.rules k)⟩::⟨6,1,true,[Bp d]⟩::fF 1 e1 n V (epsK d.rules k):=rfl
theorem Xs (d:Desc) (n k:Nat) (V:Nat→Nat):(epL d n k V).length=n+4:=by simp[epL,Ji]
theorem Hn (n:Nat):Aw (List.replicate n AV.nilS)=true:=Bv.2 fun x hx=>by rw[List.eq_of_mem_replicate hx];rfl
theorem U2 (d:Desc) (n k:Nat) (V:Nat→Nat):∀ G∈epL d n k V,ltL (epL d n k V).length G.xs:=fun G hG=>by
 rw[Xs];simp only[epL,List.mem_cons] at hG;rcases hG with rfl|rfl|rfl|rfl|hG
 · have h1:ltV (n+4) (Dv d.rules):=C5 _ _ (Az _)
   have h2:ltV (n+4) (Gv d.finals):=C5 _ _ (Av _);exact⟨⟨trivial,trivial,trivial,trivial,h1,h2,(show 2<n+4 by omega),(show 1<n+4 by omega),trivial,trivial⟩,trivial⟩
 · exact C9 _ _ (Hn n)
 · exact z7j (by omega)
 · exact C9 _ _ (by simp[Aw,Hh])
 · exact z7k (fun _=>rfl) G hG
theorem zas {m b:Nat} {env:Env} (d:Desc) (n:Nat) (V:Nat→Nat):Ent m b env (Abs.hl (epL d n d.rules.length V)) env (Abs.hl ([⟨9,1,true,[fbV d (epsV d.rules n) (.ref 1 1 0 n) 4096]⟩,⟨1,1,true,List.replicate n .nilS⟩,⟨0,2,false,[]⟩,⟨6,1,true,[Bp d]⟩]++(fF 1 e1 n V (epsK d.rules d.rules.length)).map Grp.dead)):=by
 have h1:(Abs.hl (epL d n d.rules.length V)).at_ 2=⟨1,1,true,fT 4 n V (epsK d.rules d.rules.length)⟩:=rfl
 have h2:∀ i,i<n→(Abs.hl (epL d n d.rules.length V)).at_ (i+4)=gG 1 e1 (V i) (epsK d.rules d.rules.length i):=fun i hi=>by
   rw[z0w,Ck];simp only[List.getD_cons_succ];exact z0p hi
 obtain⟨f1,f2⟩:=z41 (w:=1) (e:=e1) (by decide) (fun _=>rfl) h1 h2;refine z0v (g:=0) (w:=9) (v:=1) (d:=2) (ex:=true) (xs:=[fbV d (.ref 2 1 0 n) (.ref 1 1 0 n) 4096]) (ys:=[fbV d (epsV d.rules n) (.ref 1 1 0 n) 4096]) (fKs 2 4 n) (by decide) (by rw[Xs];omega) rfl (Nt (by decide) (by omega)) ?_ ?_
 · refine⟨_,[],rfl,.inr ⟨_,_,rfl,rfl,?_⟩,rfl⟩
   refine⟨_,_,rfl,.inl rfl,_,_,rfl,.inl rfl,_,_,rfl,.inl rfl,_,_,rfl,.inl rfl,_,_,rfl,.inl rfl,_,_,rfl,.inl rfl,_,_,rfl,.inr ⟨f1,f2.symm⟩,_,_,rfl,.inl rfl,_,_,rfl,.inl rfl,rfl⟩
 · have m0:(0:Nat)∉fKs 2 4 n:=Nt (by decide) (by omega)
   have m1:(1:Nat)∉fKs 2 4 n:=Nt (by decide) (by omega);have m3:(3:Nat)∉fKs 2 4 n:=Nt (by decide) (by omega);have m2:(2:Nat)∈fKs 2 4 n:=by simp[fKs]
   have hF:Es 4 (fKs 2 4 n) (fF 1 e1 n V (epsK d.rules d.rules.length))=(fF 1 e1 n V (epsK d.rules d.rules.length)).map Grp.dead:=z0r fun j hj=>by
     rw[Ji] at hj;rw[Nat.add_comm];exact z40 hj
   rw[z0w,Gb,Gb,Gb,Gb,if_neg m0,if_neg m1,if_pos m2,if_neg m3,hF];rfl
theorem z44 {m b:Nat} {env:Env} (d:Desc) (n left:Nat) (V:Nat→Nat) (D:Nat→List (Int × List Term)):Ent m b env (Abs.hl (fnL d n left V D)) env (Abs.hl ([⟨9,1,true,[fbV d (epsV d.rules n) (.lst 1 (fD 2 wayV n D)) left]⟩,⟨0,2,false,[]⟩]++(fF 2 wayV n V D).map Grp.dead)):=by
 have h1:(Abs.hl (fnL d n left V D)).at_ 1=⟨1,1,true,fT 2 n V D⟩:=rfl
 have h2:∀ i,i<n→(Abs.hl (fnL d n left V D)).at_ (i+2)=gG 2 wayV (V i) (D i):=fun i hi=>by
   rw[Ox,Ck];simp only[List.getD_cons_succ];exact z0p hi
 obtain⟨f1,f2⟩:=z41 (w:=2) (e:=wayV) (by decide) Gj h1 h2;refine z0v (g:=0) (w:=9) (v:=1) (d:=2) (ex:=true) (xs:=[fbV d (epsV d.rules n) (.ref 1 1 0 n) left]) (ys:=[fbV d (epsV d.rules n) (.lst 1 (fD 2 wayV n D)) left]) (fKs 1 2 n) (by decide) (by rw[D9];omega) rfl (Nt (by decide) (by omega)) ?_ ?_
 · refine⟨_,[],rfl,.inr ⟨_,_,rfl,rfl,?_⟩,rfl⟩
   refine⟨_,_,rfl,.inl rfl,_,_,rfl,.inl rfl,_,_,rfl,.inl rfl,_,_,rfl,.inl rfl,_,_,rfl,.inl rfl,_,_,rfl,.inl rfl,_,_,rfl,.inl rfl,_,_,rfl,.inr ⟨f1,f2.symm⟩,_,_,rfl,.inl rfl,rfl⟩
 · have m0:(0:Nat)∉fKs 1 2 n:=Nt (by decide) (by omega)
   have m1:(1:Nat)∈fKs 1 2 n:=by simp[fKs]
   have hF:Es 2 (fKs 1 2 n) (fF 2 wayV n V D)=(fF 2 wayV n V D).map Grp.dead:=z0r fun j hj=>by
     rw[Ji] at hj;rw[Nat.add_comm];exact z40 hj
   rw[Ox,Gb,Gb,if_neg m0,if_pos m1,hF];rfl
theorem z47 {P:Program} {f:Nat} {xs ys:List AV} {l:List Grp} {K:AV→Ac→Prop} (h:Bi P f ys (Abs.hl l) K) (hle:leSL l xs ys):Bi P f xs (Abs.hl l) K:=⟨h.1,fun S cargs hS hx=>h.2 S cargs hS (Iv (.inl hS) _ hle hx)⟩
noncomputable def zfc (d:Desc) (n:Nat):AV:=if cumW d.rules n n≤4096 then .tup [.lst 1 (fD 2 wayV n fun s=>wayL d.rules n s []),.int .i64 0] else .tup [.nilS,.int .i64 4]
theorem z7n (d:Desc) (hf:Gh d) (h:Dl d=0) {n:Nat} (hn:d.states=n) (hcyc:¬cycP d.rules n):PC Tryz.prog 44 [Bp d] (zfc d n):=by
 have hw:=zar h;obtain⟨_,hrules,_⟩:=F4 h;have hC:=Ut d hf;rw[h] at hC;have hnn:1≤n∧n≤1024:=by obtain⟨m,h1,h2,h3⟩:=hw.n;omega
 have hrl:=hw.rl;have hl:∀ r∈d.rules,(0≤r.from_∧r.from_<n)∧0≤r.to_∧r.to_<n:=fun r hr=>by have:=hw.r r hr;rw[hn] at this;exact this
 have pR:=Az d.rules;have pFi:=Av d.finals;refine zkd Ko (W_T ?_);unfold Gy;(with_reducible repeat' (first|(simp(disch:=omega)only[push_cast,↓zz,seval,pR,pFi,hn])|refine And.intro ?_ ?_|(first|refine Ab ?_ ?_|refine Aa ?_ ?_)<;>intro hc<;>(try simp only[push_cast] at hc)|refine eK hC ?_|refine eQ hC ?_|refine eG hC ?_|((first|refine cK hC ?_|refine cQ hC ?_|refine cG hC ?_);(simp(disch:=omega)only[push_cast,↓zz,seval,pR,pFi,hn]);(fail_if_success change False))|omega|intro _));refine zdw [1,2,3] [1,1,9] [none,none,none,some 1,none,none,some 2,none,some 3] (by simp) (by decide) ?_;(with_reducible repeat' (first|(simp(disch:=omega)only[push_cast,↓zz,seval,yy,List.mem_cons,List.not_mem_nil,or_false,false_or,not_or,not_false_eq_true,true_or,or_true,pR,pFi,hn])|refine And.intro ?_ ?_|(first|refine Ab ?_ ?_|refine Aa ?_ ?_)<;>intro hc<;>(try simp only[push_cast] at hc)|omega|intro _))
 refine An (z5i (srcs:=[.grp 3,.grp 2,.grp 1,.grp 0]) (live:=[(1,.ptr 3 1 0 0),(4,.ptr 0 1 0 0),(21,Dv d.rules),(22,.int .i64 d.rules.length),(23,.int .i64 0)])
   (heap:=[⟨9,1,true,[fbV d (.ref 2 1 0 n) (.ref 1 1 0 n) 4096]⟩,⟨1,1,true,List.replicate n .nilS⟩,⟨1,1,true,List.replicate n .nilS⟩,⟨6,1,true,[Bp d]⟩]) ?_ (Rj (Xp (α:=Nat) (w:=1) (e:=e1) (n:=n) (t:=2) (by decide) (by simp) rfl) ?_))
 · have pN:=Hn n
   unfold fbV;(with_reducible repeat' (first|(simp(disch:=omega)only[push_cast,↓zz,seval,pR,pFi,hn,pN])|refine And.intro ?_ ?_|(first|refine Ab ?_ ?_|refine Aa ?_ ?_)<;>intro hc<;>(try simp only[push_cast] at hc)|omega|intro _))
 refine Ng (fun (q:Nat × (Nat→Nat))=>q.1≤d.rules.length) (fun q=>d.rules.length-q.1)
   (fun q=>C8 [(1,.ptr 3 1 0 0),(4,.ptr 0 1 0 0),(21,Dv d.rules),(22,.int .i64 d.rules.length),(23,.int .i64 q.1)]) (fun q=>Abs.hl (epL d n q.1 q.2)) (0,fun _=>1) (by simp) Ent.refl ?_
 rintro⟨k,V⟩ hk;simp only at hk ⊢;rcases Nat.lt_or_ge k d.rules.length with hkl|hkl
 · have hr:=hl _ (Ao hkl)
   have hyes:=fun i=>zki (l:=d.rules) (k:=k) (i:=i);have hno:=zq4 (l:=d.rules) (k:=k);generalize hre:nth d.rules k=r at *;have hgr:=Ad r.guards;have hot:=Am r.out;obtain⟨i,hi⟩:∃ i:Nat,r.from_=i:=⟨r.from_.toNat,by omega⟩;have hin:i<n:=by omega
   have hFl:(fF 1 e1 n V (epsK d.rules k)).length=n:=Ji;have hTl:(fT 4 n V (epsK d.rules k)).length=n:=z7e;have gI:∀ G,(fF 1 e1 n V (epsK d.rules k)++[G]).getD i default=gG 1 e1 (V i) (epsK d.rules k i):=fun G=>by rw[zf7 hFl hin];exact z0p hin
   have gR:∀ G,(fF 1 e1 n V (epsK d.rules k)++[G]).getD n default=G:=fun G=>by rw[H8 hFl];rfl
   have sR:∀ G G',setQ (fF 1 e1 n V (epsK d.rules k)++[G]) n G'=some (fF 1 e1 n V (epsK d.rules k)++[G']):=fun G G'=>by rw[Mv _ _ hFl];rfl
   have tI:(fT 4 n V (epsK d.rules k)).getD i .any=.ref (i+4) (V i) 0 (epsK d.rules k i).length:=zka hin;have sI:∀ G G',setQ (fF 1 e1 n V (epsK d.rules k)++[G]) i G'=some ((fF 1 e1 n V (epsK d.rules k)).set i G'++[G]):=fun G G'=>Xn (by omega);have gR2:∀ G G',((fF 1 e1 n V (epsK d.rules k)).set i G'++[G]).getD n default=G:=fun G G'=>by rw[H8 (by rw[List.length_set];exact hFl)];rfl
   have hSB:∀ R G,B7 4 [i+4] (fF 1 e1 n V (epsK d.rules k)++[R]) ((fF 1 e1 n V (epsK d.rules k)).set i G++[R]):=fun R G=>Xo (by omega) (by simp;omega);have hEx:=zkb (e:=e1) (epsK d.rules k i);have hel:=zkh d.rules k i
   have eT:(fT 4 n V (epsK d.rules k)).set i (.ref (i+4) (V i+1) 0 ((epsK d.rules k i).length+1))=fT 4 n (setV V i (V i+1)) (setD (epsK d.rules k) i (epsK d.rules k i++[k])):=by
     have:=z7f (o:=4) (V:=V) (D:=epsK d.rules k) (l:=epsK d.rules k i++[k]) hin
     rwa [List.length_append] at this
   have eF:(fF 1 e1 n V (epsK d.rules k)).set i ⟨1,V i+1,false,(epsK d.rules k i).map e1++[.int .i64 k]⟩=fF 1 e1 n (setV V i (V i+1)) (setD (epsK d.rules k) i (epsK d.rules k i++[k])):=by
     have:=z7g (V:=V) (D:=epsK d.rules k) (w:=1) (e:=e1) (l:=epsK d.rules k i++[k]) (by simp) hin;rw[List.map_append] at this;exact this
   rw[z0w];unfold fbV;have hni:¬n=i:=by omega
   simp only[gG] at gI;refine W_T ?_;(with_reducible repeat' (first|(simp(disch:=omega)only[push_cast,↓zz,seval,xx,List.mem_cons,List.not_mem_nil,or_false,false_or,not_or,not_false_eq_true,true_or,or_true,pR,pFi,hn,hre,hi,hgr,hot,hFl,hTl,gI,gR,sR,tI,sI,gR2,hEx,hni])|refine And.intro ?_ ?_|(first|refine Ab ?_ ?_|refine Aa ?_ ?_)<;>intro hc<;>(try simp only[push_cast] at hc)|refine B8 [i+4] ?_|omega|intro _))
   · exact hSB _ _
   · have he:Cf r=true:=by simp only[Cf];simpa using ‹(r.guards.length:Int)=0›
     refine⟨(k+1,setV V i (V i+1)),Gi (gar:=[⟨5,1,true,[.agg [.int .i64 i,.int .i64 r.to_,Ak r.guards,.int .i64 r.eat,Be r.out]]⟩]) _ ?_ (Nat.zero_le _) (U2 _ _ _ _) ?_,by simp only;omega,by simp only;omega⟩
     · rw[z0w,hyes i he hi,←eT,←eF]
       unfold fbV;rw[hn];rfl
     · have hRv:ltV (n+4) (Dv d.rules):=C5 _ _ pR
       rw[Xs];exact⟨rfl,(show 3<n+4 by omega),rfl,(show 0<n+4 by omega),rfl,hRv,rfl,trivial,rfl,trivial,trivial⟩
   · have he:Cf r=false:=by simp only[Cf];simpa using ‹¬(r.guards.length:Int)=0›
     refine⟨(k+1,V),Gi (gar:=[⟨5,1,true,[.agg [.int .i64 i,.int .i64 r.to_,Ak r.guards,.int .i64 r.eat,Be r.out]]⟩]) _ ?_ (Nat.zero_le _) (U2 _ _ _ _) ?_,by simp only;omega,by simp only;omega⟩
     · rw[z0w,hno he]
       unfold fbV;rw[hn];rfl
     · have hRv:ltV (n+4) (Dv d.rules):=C5 _ _ pR
       rw[Xs];exact⟨rfl,(show 3<n+4 by omega),rfl,(show 0<n+4 by omega),rfl,hRv,rfl,trivial,rfl,trivial,trivial⟩
 · obtain rfl:k=d.rules.length:=by omega
   refine Rj ((zas d n V).trans (Gi (l0:=[⟨9,1,true,[fbV d (epsV d.rules n) (.ref 1 1 0 n) 4096]⟩,⟨1,1,true,List.replicate n .nilS⟩,⟨0,2,false,[]⟩,⟨6,1,true,[Bp d]⟩]) [(1,.ptr 3 1 0 0),(4,.ptr 0 1 0 0),(21,Dv d.rules),(22,.int .i64 d.rules.length),(23,.int .i64 d.rules.length)] rfl (Nat.zero_le _) ?_ ?_)) ?_
   · intro G hG
     simp only[List.mem_cons,List.not_mem_nil,or_false] at hG;have h1:ltV 4 (Dv d.rules):=C5 _ _ (Az _);have h2:ltV 4 (Gv d.finals):=C5 _ _ (Av _);have h3:ltV 4 (epsV d.rules n):=C5 _ _ (Mw _ _);rcases hG with rfl|rfl|rfl|rfl
     · exact⟨⟨trivial,trivial,trivial,trivial,h1,h2,h3,(show 1<4 by omega),trivial,trivial⟩,trivial⟩
     · exact C9 _ _ (Hn n)
     · trivial
     · exact C9 _ _ (by simp[Aw,Hh])
   · have hRv:ltV 4 (Dv d.rules):=C5 _ _ pR
     exact⟨rfl,(show 3<4 by omega),rfl,(show 0<4 by omega),rfl,hRv,rfl,trivial,rfl,trivial,trivial⟩
   refine W_T ?_;(with_reducible repeat' (first|(simp(disch:=omega)only[push_cast,↓zz,seval,pR,pFi,hn])|refine And.intro ?_ ?_|(first|refine Ab ?_ ?_|refine Aa ?_ ?_)<;>intro hc<;>(try simp only[push_cast] at hc)|omega|intro _));refine An (Rj ((Gi (l0:=[⟨9,1,true,[fbV d (epsV d.rules n) (.ref 1 1 0 n) 4096]⟩,⟨1,1,true,List.replicate n .nilS⟩]) (gar:=[⟨0,2,false,[]⟩,⟨6,1,true,[Bp d]⟩]) [(4,.ptr 0 1 0 0),(52,.int .i64 n),(53,.int .i64 0)] ?_ (Nat.zero_le _) ?_ ?_).trans (Xp (α:=Int × List Term) (w:=2) (e:=wayV) (n:=n) (t:=1) (by decide) (by simp) rfl)) ?_)
   · unfold fbV
     rw[hn];rfl
   · intro G hG
     simp only[List.mem_cons,List.not_mem_nil,or_false] at hG;have h1:ltV 2 (Dv d.rules):=C5 _ _ (Az _);have h2:ltV 2 (Gv d.finals):=C5 _ _ (Av _);have h3:ltV 2 (epsV d.rules n):=C5 _ _ (Mw _ _);rcases hG with rfl|rfl
     · exact⟨⟨trivial,trivial,trivial,trivial,h1,h2,h3,(show 1<2 by omega),trivial,trivial⟩,trivial⟩
     · exact C9 _ _ (Hn n)
   · exact⟨rfl,(show 0<2 by omega),rfl,trivial,rfl,trivial,trivial⟩
   have ho:∀ r∈d.rules,r.out.length≤64:=fun r hr=>by
     have:=hrules r hr;simp only[Ew,Bool.and_eq_true] at this;exact (Jf this.2.2.2.2).1
   refine Ng (fun (q:Nat × (Nat→Nat))=>q.1≤n∧cumW d.rules n q.1≤4096) (fun q=>n-q.1)
     (fun q=>C8 [(4,.ptr 0 1 0 0),(52,.int .i64 n),(53,.int .i64 q.1)]) (fun q=>Abs.hl (fnL d n (4096-cumW d.rules n q.1) q.2 (wayD d.rules n q.1))) (0,fun _=>1) ⟨by simp,by rw[Jg];omega⟩ ?_ ?_
   · rw[zfa,Jg]
     exact Ent.refl
   rintro⟨k,V2⟩ ⟨hk1,hk2⟩;simp only at hk1 hk2 ⊢;rcases Nat.lt_or_ge k n with hkn|hkn
   · have hF:=zkg d (n:=n) (by omega) hrl hl hcyc ho (4096-cumW d.rules n k) k k [] V2 (wayD d.rules n k) (by omega) hkn hkn (by simp;omega) (by rw[show wayD d.rules n k k=[] by simp[wayD]];simp)
     have hWl:(wayL d.rules n k []).length=(D2 d.rules n k).length:=by rw[wayL,List.length_map]
     have hcs:=Hl d.rules n k;have hcm:=Jh d.rules n (show k+1≤n by omega);rw[hWl] at hF;obtain⟨D1,hD1⟩:∃ D1,D1=setD (wayD d.rules n k) k (wayD d.rules n k k++List.take (4096-cumW d.rules n k) (wayL d.rules n k [])):=⟨_,rfl⟩;rw[←hD1] at hF;have hFa:=z47 (xs:=[.ptr 0 1 0 0,.int .i64 k,.int .i64 k,.nilS]) hF ⟨Hv _ _,Hv _ _,Hv _ _,⟨by decide,rfl⟩,rfl⟩;refine W_T ?_;(with_reducible repeat' (first|(simp(disch:=omega)only[push_cast,↓zz,seval])|refine And.intro ?_ ?_|(first|refine Ab ?_ ?_|refine Aa ?_ ?_)<;>intro hc<;>(try simp only[push_cast] at hc)|omega|intro _));refine zlu (extra:=[]) (List.append_nil _).symm hFa ?_ (Eg _ _ _ _ _) ?_
     · rw[D9]
       exact⟨(show 0<n+2 by omega),trivial,trivial,trivial,trivial⟩
     rintro y H' ⟨V3,rfl,rfl⟩;refine⟨_,rfl,by rw[D9,D9],trivial,fun G hG=>?_,?_⟩
     · have:=Eg _ _ _ _ _ G hG
       rw[D9] at this ⊢;exact this
     by_cases hfit:(D2 d.rules n k).length≤4096-cumW d.rules n k
     · rw[decide_eq_true hfit]
       have hD2:D1=wayD d.rules n (k+1):=by rw[hD1,List.take_of_length_le (by omega),zfb]
       have hL2:4096-cumW d.rules n k-(D2 d.rules n k).length=4096-cumW d.rules n (k+1):=by omega
       rw[hD2,hL2];(with_reducible repeat' (first|(simp(disch:=omega)only[push_cast,↓zz,seval])|refine And.intro ?_ ?_|(first|refine Ab ?_ ?_|refine Aa ?_ ?_)<;>intro hc<;>(try simp only[push_cast] at hc)|omega|intro _));refine⟨(k+1,V3),Gi (gar:=[]) _ (List.append_nil _).symm (Nat.zero_le _) (Eg _ _ _ _ _) ?_,⟨by omega,by simp only;omega⟩,by simp only;omega⟩;rw[D9];exact⟨rfl,(show 0<n+2 by omega),rfl,trivial,rfl,trivial,trivial⟩
     · rw[decide_eq_false hfit]
       have:¬cumW d.rules n n≤4096:=by omega
       rw[zfc,if_neg this];(with_reducible repeat' (first|(simp(disch:=omega)only[push_cast,↓zz,seval])|refine And.intro ?_ ?_|(first|refine Ab ?_ ?_|refine Aa ?_ ?_)<;>intro hc<;>(try simp only[push_cast] at hc)|omega|intro _))
   · obtain rfl:k=n:=by omega
     rw[zfc,if_pos hk2];refine Rj (z44 d k (4096-cumW d.rules k k) V2 _) ?_;rw[zu4];unfold fbV;have pW:Aw (fD 2 wayV k fun s=>wayL d.rules k s [])=true:=Jj Gj;refine W_T ?_;(with_reducible repeat' (first|(simp(disch:=omega)only[push_cast,↓zz,seval,pW])|refine And.intro ?_ ?_|(first|refine Ab ?_ ?_|refine Aa ?_ ?_)<;>intro hc<;>(try simp only[push_cast] at hc)|omega|intro _))
     all_goals trace_state
end Go.Proofs.YtbcjoeadpjfcfaaGreat
set_option maxRecDepth 100000
namespace Go.Proofs.YtbcjoeadpjfcfaaGreat
open Abs
theorem R6 (d:Desc) (hf:Gh d) (h:¬Dl d=0):PC Tryz.prog 44 [Bp d] (.tup [.nilS,.int .i64 2]):=by
 have hC:=Ut d hf;have pR:=Az d.rules;have pFi:=Av d.finals;generalize Dl d=c at *;refine A9 Ko ?_;unfold Gy;(with_reducible repeat' (first|(simp(disch:=omega)only[push_cast,↓zz,seval,pR,pFi,h])|refine And.intro ?_ ?_|(first|refine Ab ?_ ?_|refine Aa ?_ ?_)<;>intro hc<;>(try simp only[push_cast] at hc)|refine eK hC ?_|refine eQ hC ?_|refine eG hC ?_|((first|refine cK hC ?_|refine cQ hC ?_|refine cG hC ?_);(simp(disch:=omega)only[push_cast,↓zz,seval,pR,pFi,h]);(fail_if_success change False))|omega|intro _))
 all_goals trace_state
theorem z48 (d:Desc) (hf:Gh d) (h:¬Dl d=0):PC Tryz.prog 17 [Bp d] (.tup [.int .i64 0,.int .i64 2]):=by
 have hF:=R6 d hf h;have pR:=Az d.rules;have pFi:=Av d.finals;refine A9 Kn ?_;unfold Gw;(with_reducible repeat' (first|(simp(disch:=omega)only[push_cast,↓zz,seval,pR,pFi])|refine And.intro ?_ ?_|(first|refine Ab ?_ ?_|refine Aa ?_ ?_)<;>intro hc<;>(try simp only[push_cast] at hc)|refine eK hF ?_|refine eQ hF ?_|refine eG hF ?_|((first|refine cK hF ?_|refine cQ hF ?_|refine cG hF ?_);(simp(disch:=omega)only[push_cast,↓zz,seval,pR,pFi]);(fail_if_success change False))|omega|intro _));refine A8 1 ?_;(with_reducible repeat' (first|(simp(disch:=omega)only[push_cast,↓zz,seval])|refine And.intro ?_ ?_|(first|refine Ab ?_ ?_|refine Aa ?_ ?_)<;>intro hc<;>(try simp only[push_cast] at hc)|omega|intro _))
 all_goals trace_state
theorem z7o (d:Desc) (hf:Gh d) (h:Dl d=0) {n:Nat} (hn:d.states=n) (hcyc:¬cycP d.rules n):PC Tryz.prog 17 [Bp d] (if cumW d.rules n n≤4096 then .tup [.int .i64 (cumW d.rules n n),.int .i64 0] else .tup [.int .i64 0,.int .i64 4]):=by
 have hF:=z7n d hf h hn hcyc;have hnn:1≤n∧n≤1024:=by obtain⟨m,h1,h2,h3⟩:=(zar h).n;omega
 have pR:=Az d.rules;have pFi:=Av d.finals;have pW:Aw (fD 2 wayV n fun s=>wayL d.rules n s [])=true:=Jj Gj;have lW:(fD 2 wayV n fun s=>wayL d.rules n s []).length=n:=z0o;refine A9 Kn ?_;unfold Gw;rw[zfc] at hF;by_cases hfit:cumW d.rules n n≤4096
 · rw[if_pos hfit] at hF ⊢
   (with_reducible repeat' (first|(simp(disch:=omega)only[push_cast,↓zz,seval,pR,pFi,pW,lW])|refine And.intro ?_ ?_|(first|refine Ab ?_ ?_|refine Aa ?_ ?_)<;>intro hc<;>(try simp only[push_cast] at hc)|refine eK hF ?_|refine eQ hF ?_|refine eG hF ?_|((first|refine cK hF ?_|refine cQ hF ?_|refine cG hF ?_);(simp(disch:=omega)only[push_cast,↓zz,seval,pR,pFi,pW,lW]);(fail_if_success change False))|omega|intro _))
   refine An (Ap (fun (k:Nat)=>k≤n) (fun k=>n-k)
     (fun k=>[(5,.int .i64 0),(6,.int .i64 (cumW d.rules n k)),(14,.lst 1 (fD 2 wayV n fun s=>wayL d.rules n s [])),(15,.int .i64 n),(16,.int .i64 k)]) (fun _=>[]) (fun _ _=>[]) 0 (by simp) ?_ ?_)
   · (with_reducible repeat' (first|(simp(disch:=omega)only[push_cast,↓zz,seval,pW,lW,Jg])|refine And.intro ?_ ?_|(first|refine Ab ?_ ?_|refine Aa ?_ ?_)<;>intro hc<;>(try simp only[push_cast] at hc)|omega|intro _))
   intro k hk;rcases Nat.lt_or_ge k n with hkn|hkn
   · have aK:(fD 2 wayV n fun s=>wayL d.rules n s []).getD k .any=.lst 2 ((wayL d.rules n k []).map wayV):=zf6 hkn
     have aK2:(fD 2 wayV n fun s=>wayL d.rules n s [])[k]? = some (.lst 2 ((wayL d.rules n k []).map wayV)):=z0q hkn;have hWl:(wayL d.rules n k []).length=(D2 d.rules n k).length:=by rw[wayL,List.length_map]
     have hcs:=Hl d.rules n k;have hcm:=Jh d.rules n (show k+1≤n by omega);have pWk:Aw ((wayL d.rules n k []).map wayV)=true:=Ef Gj _;generalize fD 2 wayV n (fun s=>wayL d.rules n s [])=L at *;generalize wayL d.rules n k []=Wk at *;refine W_T ?_;(with_reducible repeat' (first|(simp(disch:=omega)only[push_cast,↓zz,seval,pW,lW,aK,aK2,hWl,pWk])|refine And.intro ?_ ?_|(first|refine Ab ?_ ?_|refine Aa ?_ ?_)<;>intro hc<;>(try simp only[push_cast] at hc)|omega|intro _))
     all_goals
       refine⟨k+1,?_⟩;(with_reducible repeat' (first|(simp(disch:=omega)only[push_cast,↓zz,seval,hcs,pW])|refine And.intro ?_ ?_|(first|refine Ab ?_ ?_|refine Aa ?_ ?_)<;>intro hc<;>(try simp only[push_cast] at hc)|omega|intro _))
   · obtain rfl:k=n:=by omega
     refine W_T ?_;(with_reducible repeat' (first|(simp(disch:=omega)only[push_cast,↓zz,seval,pW,lW])|refine And.intro ?_ ?_|(first|refine Ab ?_ ?_|refine Aa ?_ ?_)<;>intro hc<;>(try simp only[push_cast] at hc)|omega|intro _))
 · rw[if_neg hfit] at hF ⊢
   (with_reducible repeat' (first|(simp(disch:=omega)only[push_cast,↓zz,seval,pR,pFi])|refine And.intro ?_ ?_|(first|refine Ab ?_ ?_|refine Aa ?_ ?_)<;>intro hc<;>(try simp only[push_cast] at hc)|refine eK hF ?_|refine eQ hF ?_|refine eG hF ?_|((first|refine cK hF ?_|refine cQ hF ?_|refine cG hF ?_);(simp(disch:=omega)only[push_cast,↓zz,seval,pR,pFi]);(fail_if_success change False))|omega|intro _));refine A8 1 ?_;(with_reducible repeat' (first|(simp(disch:=omega)only[push_cast,↓zz,seval])|refine And.intro ?_ ?_|(first|refine Ab ?_ ?_|refine Aa ?_ ?_)<;>intro hc<;>(try simp only[push_cast] at hc)|omega|intro _))
   all_goals trace_state
theorem U3 (gs:List (List Span)) (hl:gs.length≤1000000) (hg:∀ g∈gs,g.length≤1000000):PC Tryz.prog 51 [Ak gs] (Ak gs):=by
 have hP:=Ad gs;refine A9 O3 ?_;unfold Ig;(with_reducible repeat' (first|(simp(disch:=omega)only[push_cast,↓zz,seval])|refine And.intro ?_ ?_|(first|refine Ab ?_ ?_|refine Aa ?_ ?_)<;>intro hc<;>(try simp only[push_cast] at hc)|omega|intro _))
 refine An (Ap (fun (k:Nat)=>k≤gs.length) (fun k=>gs.length-k)
   (fun k=>[(3,.ref 0 1 0 k),(6,Ak gs),(7,.int .i64 gs.length),(8,.int .i64 k)]) (fun k=>[⟨1,1,false,(gs.take k).map Ag⟩]) (fun env _=>[A5 1 (env 3)]) 0 (by simp) ?_ ?_)
 · (with_reducible repeat' (first|(simp(disch:=omega)only[push_cast,↓zz,seval,hP])|refine And.intro ?_ ?_|(first|refine Ab ?_ ?_|refine Aa ?_ ?_)<;>intro hc<;>(try simp only[push_cast] at hc)|omega|intro _))
 intro k hk;have hpk:=Ad (gs.take k);rcases Nat.lt_or_ge k gs.length with hkl|hkl
 · have hC:=z3r (nth gs k) (by have:=hg _ (Ao hkl);omega)
   have e1:(gs.take (k+1)).map Ag=(gs.take k).map Ag++[Ag (nth gs k)]:=by rw[take_at hkl];simp
   have hlm:((gs.take k).map Ag).length=k:=by simp;omega
   generalize hgl:(gs.take k).map Ag=L at *;refine W_T ?_;(with_reducible repeat' (first|(simp(disch:=omega)only[push_cast,↓zz,seval,hP,hpk,hlm])|refine And.intro ?_ ?_|(first|refine Ab ?_ ?_|refine Aa ?_ ?_)<;>intro hc<;>(try simp only[push_cast] at hc)|refine eK hC ?_|refine eQ hC ?_|refine eG hC ?_|((first|refine cK hC ?_|refine cQ hC ?_|refine cG hC ?_);(simp(disch:=omega)only[push_cast,↓zz,seval,hP,hpk,hlm]);(fail_if_success change False))|omega|intro _))
   all_goals
     refine⟨k+1,?_⟩;(with_reducible repeat' (first|(simp(disch:=omega)only[push_cast,↓zz,seval,e1])|refine And.intro ?_ ?_|(first|refine Ab ?_ ?_|refine Aa ?_ ?_)<;>intro hc<;>(try simp only[push_cast] at hc)|omega|intro _))
 · obtain rfl:k=gs.length:=by omega
   have et:List.take gs.length gs=gs:=List.take_of_length_le (by simp);rw[et] at hpk ⊢;refine W_T ?_;(with_reducible repeat' (first|(simp(disch:=omega)only[push_cast,↓zz,seval,hP,hpk,et])|refine And.intro ?_ ?_|(first|refine Ab ?_ ?_|refine Aa ?_ ?_)<;>intro hc<;>(try simp only[push_cast] at hc)|omega|intro _))
   all_goals trace_state
theorem U4 (w:Int × List Term) (out:List Term) (hl:w.2.length+out.length≤1000000) (hg:∀ t∈w.2++out,t.parts.length≤1000000):PC Tryz.prog 52 [wayV w,Be out] (Be (w.2++out)):=by
 have hC2:=U1 w.2 out (by omega);have pw:=Am w.2;have po:=Am out;obtain⟨l,hle⟩:∃ l,l=w.2++out:=⟨_,rfl⟩;have hT:=Am l;rw[←hle] at hg hC2 ⊢;have hll:l.length≤1000000:=by rw[hle,List.length_append];exact hl
 clear hle;refine A9 O4 ?_;unfold Ih wayV;(with_reducible repeat' (first|(simp(disch:=omega)only[push_cast,↓zz,seval,pw,po,hT])|refine And.intro ?_ ?_|(first|refine Ab ?_ ?_|refine Aa ?_ ?_)<;>intro hc<;>(try simp only[push_cast] at hc)|refine eK hC2 ?_|refine eQ hC2 ?_|refine eG hC2 ?_|((first|refine cK hC2 ?_|refine cQ hC2 ?_|refine cG hC2 ?_);(simp(disch:=omega)only[push_cast,↓zz,seval,pw,po,hT]);(fail_if_success change False))|omega|intro _))
 refine An (Ap (fun (k:Nat)=>k≤l.length) (fun k=>l.length-k)
   (fun k=>[(5,.ref 0 1 0 k),(12,Be l),(13,.int .i64 l.length),(14,.int .i64 k)]) (fun k=>[⟨6,1,false,(l.take k).map Bo⟩]) (fun env _=>[A5 6 (env 5)]) 0 (by simp) ?_ ?_)
 · (with_reducible repeat' (first|(simp(disch:=omega)only[push_cast,↓zz,seval,hT])|refine And.intro ?_ ?_|(first|refine Ab ?_ ?_|refine Aa ?_ ?_)<;>intro hc<;>(try simp only[push_cast] at hc)|omega|intro _))
 intro k hk;have hpk:=Am (l.take k);rcases Nat.lt_or_ge k l.length with hkl|hkl
 · have hgt:=hg _ (Ao hkl)
   have e1:(l.take (k+1)).map Bo=(l.take k).map Bo++[Bo (nth l k)]:=by rw[take_at hkl];simp
   have hlm:((l.take k).map Bo).length=k:=by simp;omega
   generalize hte:nth l k=t at *;have hC:=z2y t.parts (by omega);have hpp:=G7 t.parts;generalize hgl:(l.take k).map Bo=L at *;refine W_T ?_;(with_reducible repeat' (first|(simp(disch:=omega)only[push_cast,↓zz,seval,hT,hpk,hlm,hte,hpp])|refine And.intro ?_ ?_|(first|refine Ab ?_ ?_|refine Aa ?_ ?_)<;>intro hc<;>(try simp only[push_cast] at hc)|refine eK hC ?_|refine eQ hC ?_|refine eG hC ?_|((first|refine cK hC ?_|refine cQ hC ?_|refine cG hC ?_);(simp(disch:=omega)only[push_cast,↓zz,seval,hT,hpk,hlm,hte,hpp]);(fail_if_success change False))|omega|intro _))
   all_goals
     refine⟨k+1,?_⟩;(with_reducible repeat' (first|(simp(disch:=omega)only[push_cast,↓zz,seval,e1])|refine And.intro ?_ ?_|(first|refine Ab ?_ ?_|refine Aa ?_ ?_)<;>intro hc<;>(try simp only[push_cast] at hc)|omega|intro _))
 · obtain rfl:k=l.length:=by omega
   have et:List.take l.length l=l:=List.take_of_length_le (by simp);rw[et] at hpk ⊢;refine W_T ?_;(with_reducible repeat' (first|(simp(disch:=omega)only[push_cast,↓zz,seval,hT,hpk,et])|refine And.intro ?_ ?_|(first|refine Ab ?_ ?_|refine Aa ?_ ?_)<;>intro hc<;>(try simp only[push_cast] at hc)|omega|intro _))
   all_goals trace_state
end Go.Proofs.YtbcjoeadpjfcfaaGreat
set_option maxRecDepth 100000
namespace Go.Proofs.YtbcjoeadpjfcfaaGreat
open Abs
theorem zfd {α:Type} {w:Nat} {e:α→AV} {m b:Nat} {env:Env} {l:List Grp} {t v o n:Nat} {V:Nat→Nat} {D:Nat→List α} (i:Nat) (hw:0<w) (he:∀ x,(e x).pure=true) (hi:env i=.ref t v 0 n) (h1:(Abs.hl l).at_ t=⟨1,v,true,fT o n V D⟩) (h2:∀ i,i<n→(Abs.hl l).at_ (i+o)=gG w e (V i) (D i)) :
   Ent m b env (Abs.hl l) (env.put (some i) (.lst 1 (fD w e n D))) (Abs.hl (Es 0 (fKs t o n) l)):=by
 obtain⟨f1,f2⟩:=z41 hw he h1 h2;rw[←hi] at f1 f2;have:=ze1 (n:=m) (b:=b) i 2 (fKs t o n) f1;rw[f2] at this;refine this.trans (z0h (by simp[Ac.kill,hl_n,Ga]) fun g hg=>?_);rw[Ck,Lw 0 (fKs t o n) l g hg,Nat.zero_add];rfl
theorem H9 (r:Rule):(B6 r).pure=true:=by simp[B6,AV.pure,Aw,Ad,Am]
theorem Ia (r:Cw):(Bl r).pure=true:=by simp[Bl,AV.pure,Aw,Ad,Am]
def ruF (l:List Rule) (s:Nat):List Rule:=l.filter fun r=>!Cf r&&decide (r.from_=(s:Int))
theorem zq5 {l:List Rule} {k i:Nat} (hk:k<l.length) (he:(fun r:Rule=>!Cf r) (nth l k)=true) (hi:(nth l k).from_=i):ruF (l.take (k+1))=setD (ruF (l.take k)) i (ruF (l.take k) i++[nth l k]):=by
 funext s;simp only at he;rw[take_at hk];simp only[ruF,List.filter_append,List.filter_cons,List.filter_nil,he,Bool.true_and,hi,decide_eq_true_eq,setD];by_cases e:s=i
 · subst e;simp
 · rw[if_neg (by omega),if_neg e];simp
theorem zu5 {l:List Rule} {k:Nat} (hk:k<l.length) (he:(fun r:Rule=>!Cf r) (nth l k)=false):ruF (l.take (k+1))=ruF (l.take k):=by
 funext s;simp only at he;rw[take_at hk];simp[ruF,List.filter_append,he]
theorem z49 (l:List Rule) (k s:Nat):(ruF (l.take k) s).length≤k:=by
 have h1:=List.length_filter_le (fun r:Rule=>!Cf r&&decide (r.from_=(s:Int))) (l.take k);rw[List.length_take] at h1;simp only[ruF];omega
theorem zu6 (r:Rule):PC Tryz.prog 48 [B6 r] (.tup [.int .i64 r.from_,.bool ((fun r:Rule=>!Cf r) r)]):=by
 have hgr:=Ad r.guards;have hot:=Am r.out;refine A9 O1 ?_;unfold Ie;have eE:(decide ((0:Int)<r.guards.length))=!Cf r:=by rw[Cf,←decide_not];exact decide_eq_decide.2 (by omega)
 (with_reducible repeat' (first|(simp(disch:=omega)only[push_cast,↓zz,seval,hgr,hot,eE])|refine And.intro ?_ ?_|(first|refine Ab ?_ ?_|refine Aa ?_ ?_)<;>intro hc<;>(try simp only[push_cast] at hc)|omega|intro _))
 all_goals trace_state
def ruFL (l:List Rule) (n k:Nat) (V:Nat→Nat):List Grp:=⟨1,1,true,fT 1 n V (ruF (l.take k))⟩::fF 5 B6 n V (ruF (l.take k))
theorem Xt (l:List Rule) (n k:Nat) (V:Nat→Nat):(ruFL l n k V).length=n+1:=by simp[ruFL,Ji]
theorem R7 (l:List Rule) (n k:Nat) (V:Nat→Nat):∀ G∈ruFL l n k V,ltL (ruFL l n k V).length G.xs:=fun G hG=>by
 rw[Xt];simp only[ruFL,List.mem_cons] at hG;rcases hG with rfl|hG
 · exact z7j (by omega)
 · exact z7k H9 G hG
theorem zq6 (l:List Rule) {n:Nat} (hn:n≤1024) (hll:l.length≤4096) (hl:∀ r∈l,0≤r.from_∧r.from_<n):PC Tryz.prog 47 [.int .i64 n,.lst 5 (l.map B6),.fn 48 []] (.lst 1 (fD 5 B6 n (ruF l))):=by
 have hP:Aw (l.map B6)=true:=Ef H9 l;have pN:=Hn n;refine zkd Gk (W_T ?_);unfold Ek;(with_reducible repeat' (first|(simp(disch:=omega)only[push_cast,↓zz,seval,hP])|refine And.intro ?_ ?_|(first|refine Ab ?_ ?_|refine Aa ?_ ?_)<;>intro hc<;>(try simp only[push_cast] at hc)|omega|intro _));refine An (Rj ((J5 [(2,.fn 48 []),(7,.ref 0 1 0 n),(14,.lst 5 (l.map B6)),(15,.int .i64 l.length),(16,.int .i64 0)] fun p hp=>?_).trans (Xp (α:=Rule) (w:=5) (e:=B6) (n:=n) (t:=0) (by decide) (by simp) rfl)) ?_)
 · simp only[List.mem_cons,List.not_mem_nil,or_false] at hp
   rcases hp with rfl|rfl|rfl|rfl|rfl<;>rfl
 refine Ng (fun (q:Nat × (Nat→Nat))=>q.1≤l.length) (fun q=>l.length-q.1)
   (fun q=>C8 [(2,.fn 48 []),(7,.ref 0 1 0 n),(14,.lst 5 (l.map B6)),(15,.int .i64 l.length),(16,.int .i64 q.1)]) (fun q=>Abs.hl (ruFL l n q.1 q.2)) (0,fun _=>1) (by simp) Ent.refl ?_
 rintro⟨k,V⟩ hk;simp only at hk ⊢;rcases Nat.lt_or_ge k l.length with hkl|hkl
 · have hr:=hl _ (Ao hkl)
   have aK:(l.map B6).getD k .any=B6 (nth l k):=by simp[nth,List.getD,hkl]
   have hyes:=fun i=>zq5 (k:=k) (i:=i) hkl;have hno:=zu5 (k:=k) hkl;have hof:=zu6 (nth l k);have hpr:=H9 (nth l k);generalize hre:nth l k=r at *;have hgr:=Ad r.guards;have hot:=Am r.out;obtain⟨i,hi⟩:∃ i:Nat,r.from_=i:=⟨r.from_.toNat,by omega⟩;have hin:i<n:=by omega
   have hFl:(fF 5 B6 n V (ruF (l.take k))).length=n:=Ji;have hTl:(fT 1 n V (ruF (l.take k))).length=n:=z7e;have gI:∀ G,(fF 5 B6 n V (ruF (l.take k))++[G]).getD i default=gG 5 B6 (V i) (ruF (l.take k) i):=fun G=>by rw[zf7 hFl hin];exact z0p hin
   have gR:∀ G,(fF 5 B6 n V (ruF (l.take k))++[G]).getD n default=G:=fun G=>by rw[H8 hFl];rfl
   have sR:∀ G G',setQ (fF 5 B6 n V (ruF (l.take k))++[G]) n G'=some (fF 5 B6 n V (ruF (l.take k))++[G']):=fun G G'=>by rw[Mv _ _ hFl];rfl
   have tI:(fT 1 n V (ruF (l.take k))).getD i .any=.ref (i+1) (V i) 0 (ruF (l.take k) i).length:=zka hin;have sI:∀ G G',setQ (fF 5 B6 n V (ruF (l.take k))++[G]) i G'=some ((fF 5 B6 n V (ruF (l.take k))).set i G'++[G]):=fun G G'=>Xn (by omega);have gR2:∀ G G',((fF 5 B6 n V (ruF (l.take k))).set i G'++[G]).getD n default=G:=fun G G'=>by rw[H8 (by rw[List.length_set];exact hFl)];rfl
   have hSB:∀ R G,B7 1 [i+1] (fF 5 B6 n V (ruF (l.take k))++[R]) ((fF 5 B6 n V (ruF (l.take k))).set i G++[R]):=fun R G=>Xo (by omega) (by simp;omega);have hEx:=zkb (e:=B6) (ruF (l.take k) i);have hel:=z49 l k i
   have eT:(fT 1 n V (ruF (l.take k))).set i (.ref (i+1) (V i+1) 0 ((ruF (l.take k) i).length+1))=fT 1 n (setV V i (V i+1)) (setD (ruF (l.take k)) i (ruF (l.take k) i++[r])):=by
     have:=z7f (o:=1) (V:=V) (D:=ruF (l.take k)) (l:=ruF (l.take k) i++[r]) hin
     rwa [List.length_append] at this
   have eF:(fF 5 B6 n V (ruF (l.take k))).set i ⟨5,V i+1,false,(ruF (l.take k) i).map B6++[B6 r]⟩=fF 5 B6 n (setV V i (V i+1)) (setD (ruF (l.take k)) i (ruF (l.take k) i++[r])):=by
     have:=z7g (V:=V) (D:=ruF (l.take k)) (w:=5) (e:=B6) (l:=ruF (l.take k) i++[r]) (by simp) hin;rw[List.map_append] at this;exact this
   have hRv:ltV (n+1) (.lst 5 (l.map B6)):=C5 _ _ hP;rw[ruFL];have hni:¬n=i:=by omega
   simp only[gG] at gI;obtain⟨bb,hbb⟩:∃ bb,bb=(fun r:Rule=>!Cf r) r:=⟨_,rfl⟩;rw[←hbb] at hof hyes hno;refine W_T ?_;cases bb with
   | true =>
     (with_reducible repeat' (first|(simp(disch:=omega)only[push_cast,↓zz,seval,xx,List.mem_cons,List.not_mem_nil,or_false,false_or,not_or,not_false_eq_true,true_or,or_true,hP,aK,hre,hi,hgr,hot,hFl,hTl,gI,gR,sR,tI,sI,gR2,hEx,hni])|refine And.intro ?_ ?_|(first|refine Ab ?_ ?_|refine Aa ?_ ?_)<;>intro hc<;>(try simp only[push_cast] at hc)|refine eK hof ?_|refine eQ hof ?_|refine eG hof ?_|refine B8 [i+1] ?_|((first|refine cK hof ?_|refine cQ hof ?_|refine cG hof ?_);(simp(disch:=omega)only[push_cast,↓zz,seval,xx,List.mem_cons,List.not_mem_nil,or_false,false_or,not_or,not_false_eq_true,true_or,or_true,hP,aK,hre,hi,hgr,hot,hFl,hTl,gI,gR,sR,tI,sI,gR2,hEx,hni]);(fail_if_success change False))|omega|intro _))
     · exact hSB _ _
     · refine⟨(k+1,setV V i (V i+1)),Gi (gar:=[⟨5,1,true,[.agg [.int .i64 i,.int .i64 r.to_,Ak r.guards,.int .i64 r.eat,Be r.out]]⟩]) _ ?_ (Nat.zero_le _) (R7 _ _ _ _) ?_,by simp only;omega,by simp only;omega⟩
       · rw[ruFL,hyes i rfl hi,←eT,←eF]
         simp only[B6,hi];rfl
       · rw[Xt]
         exact⟨rfl,trivial,rfl,(show 0<n+1 by omega),rfl,hRv,rfl,trivial,rfl,trivial,trivial⟩
   | false =>
     (with_reducible repeat' (first|(simp(disch:=omega)only[push_cast,↓zz,seval,xx,List.mem_cons,List.not_mem_nil,or_false,false_or,not_or,not_false_eq_true,true_or,or_true,hP,aK,hre,hi,hgr,hot,hFl,hTl,gI,gR,sR,tI,sI,gR2,hEx,hni])|refine And.intro ?_ ?_|(first|refine Ab ?_ ?_|refine Aa ?_ ?_)<;>intro hc<;>(try simp only[push_cast] at hc)|refine eK hof ?_|refine eQ hof ?_|refine eG hof ?_|refine B8 [i+1] ?_|((first|refine cK hof ?_|refine cQ hof ?_|refine cG hof ?_);(simp(disch:=omega)only[push_cast,↓zz,seval,xx,List.mem_cons,List.not_mem_nil,or_false,false_or,not_or,not_false_eq_true,true_or,or_true,hP,aK,hre,hi,hgr,hot,hFl,hTl,gI,gR,sR,tI,sI,gR2,hEx,hni]);(fail_if_success change False))|omega|intro _));refine⟨(k+1,V),Gi (gar:=[⟨5,1,true,[.agg [.int .i64 i,.int .i64 r.to_,Ak r.guards,.int .i64 r.eat,Be r.out]]⟩]) _ ?_ (Nat.zero_le _) (R7 _ _ _ _) ?_,by simp only;omega,by simp only;omega⟩
     · rw[ruFL,hno rfl]
       rfl
     · rw[Xt]
       exact⟨rfl,trivial,rfl,(show 0<n+1 by omega),rfl,hRv,rfl,trivial,rfl,trivial,trivial⟩
 · obtain rfl:k=l.length:=by omega
   have h1:(Abs.hl (ruFL l n l.length V)).at_ 0=⟨1,1,true,fT 1 n V (ruF (l.take l.length))⟩:=rfl
   have h2:∀ i,i<n→(Abs.hl (ruFL l n l.length V)).at_ (i+1)=gG 5 B6 (V i) (ruF (l.take l.length) i):=fun i hi=>by
     rw[ruFL,Ck];simp only[List.getD_cons_succ];exact z0p hi
   refine Rj (zfd 7 (by decide) H9 rfl h1 h2) ?_;rw[List.take_length];have pW:Aw (fD 5 B6 n (ruF l))=true:=Jj H9;refine W_T ?_;(with_reducible repeat' (first|(simp(disch:=omega)only[push_cast,↓zz,seval,hP,pW])|refine And.intro ?_ ?_|(first|refine Ab ?_ ?_|refine Aa ?_ ?_)<;>intro hc<;>(try simp only[push_cast] at hc)|omega|intro _))
def fiF (l:List Cw) (s:Nat):List Cw:=l.filter fun r=>true&&decide (r.from_=(s:Int))
theorem zq7 {l:List Cw} {k i:Nat} (hk:k<l.length) (he:(fun r:Cw=>true) (nth l k)=true) (hi:(nth l k).from_=i):fiF (l.take (k+1))=setD (fiF (l.take k)) i (fiF (l.take k) i++[nth l k]):=by
 funext s;simp only at he;rw[take_at hk];simp only[fiF,List.filter_append,List.filter_cons,List.filter_nil,he,Bool.true_and,hi,decide_eq_true_eq,setD];by_cases e:s=i
 · subst e;simp
 · rw[if_neg (by omega),if_neg e];simp
theorem zu7 {l:List Cw} {k:Nat} (hk:k<l.length) (he:(fun _:Cw=>true) (nth l k)=false):fiF (l.take (k+1))=fiF (l.take k):=by
 cases he
theorem z4a (l:List Cw) (k s:Nat):(fiF (l.take k) s).length≤k:=by
 have h1:=List.length_filter_le (fun r:Cw=>true&&decide (r.from_=(s:Int))) (l.take k);rw[List.length_take] at h1;simp only[fiF];omega
theorem zu8 (r:Cw):PC Tryz.prog 50 [Bl r] (.tup [.int .i64 r.from_,.bool ((fun r:Cw=>true) r)]):=by
 have hgr:=Ad r.guards;have hot:=Am r.out;refine A9 O2 ?_;unfold If;(with_reducible repeat' (first|(simp(disch:=omega)only[push_cast,↓zz,seval,hgr,hot])|refine And.intro ?_ ?_|(first|refine Ab ?_ ?_|refine Aa ?_ ?_)<;>intro hc<;>(try simp only[push_cast] at hc)|omega|intro _))
 all_goals trace_state
def fiFL (l:List Cw) (n k:Nat) (V:Nat→Nat):List Grp:=⟨1,1,true,fT 1 n V (fiF (l.take k))⟩::fF 3 Bl n V (fiF (l.take k))
theorem Xu (l:List Cw) (n k:Nat) (V:Nat→Nat):(fiFL l n k V).length=n+1:=by simp[fiFL,Ji]
theorem R8 (l:List Cw) (n k:Nat) (V:Nat→Nat):∀ G∈fiFL l n k V,ltL (fiFL l n k V).length G.xs:=fun G hG=>by
 rw[Xu];simp only[fiFL,List.mem_cons] at hG;rcases hG with rfl|hG
 · exact z7j (by omega)
 · exact z7k Ia G hG
theorem zq8 (l:List Cw) {n:Nat} (hn:n≤1024) (hll:l.length≤4096) (hl:∀ r∈l,0≤r.from_∧r.from_<n):PC Tryz.prog 49 [.int .i64 n,.lst 3 (l.map Bl),.fn 50 []] (.lst 1 (fD 3 Bl n (fiF l))):=by
 have hP:Aw (l.map Bl)=true:=Ef Ia l;have pN:=Hn n;refine zkd Gd (W_T ?_);unfold D6;(with_reducible repeat' (first|(simp(disch:=omega)only[push_cast,↓zz,seval,hP])|refine And.intro ?_ ?_|(first|refine Ab ?_ ?_|refine Aa ?_ ?_)<;>intro hc<;>(try simp only[push_cast] at hc)|omega|intro _));refine An (Rj ((J5 [(2,.fn 50 []),(7,.ref 0 1 0 n),(14,.lst 3 (l.map Bl)),(15,.int .i64 l.length),(16,.int .i64 0)] fun p hp=>?_).trans (Xp (α:=Cw) (w:=3) (e:=Bl) (n:=n) (t:=0) (by decide) (by simp) rfl)) ?_)
 · simp only[List.mem_cons,List.not_mem_nil,or_false] at hp
   rcases hp with rfl|rfl|rfl|rfl|rfl<;>rfl
 refine Ng (fun (q:Nat × (Nat→Nat))=>q.1≤l.length) (fun q=>l.length-q.1)
   (fun q=>C8 [(2,.fn 50 []),(7,.ref 0 1 0 n),(14,.lst 3 (l.map Bl)),(15,.int .i64 l.length),(16,.int .i64 q.1)]) (fun q=>Abs.hl (fiFL l n q.1 q.2)) (0,fun _=>1) (by simp) Ent.refl ?_
 rintro⟨k,V⟩ hk;simp only at hk ⊢;rcases Nat.lt_or_ge k l.length with hkl|hkl
 · have hr:=hl _ (Ao hkl)
   have aK:(l.map Bl).getD k .any=Bl (nth l k):=by simp[nth,List.getD,hkl]
   have hyes:=fun i=>zq7 (k:=k) (i:=i) hkl;have hno:=zu7 (k:=k) hkl;have hof:=zu8 (nth l k);have hpr:=Ia (nth l k);generalize hre:nth l k=r at *;have hgr:=Ad r.guards;have hot:=Am r.out;obtain⟨i,hi⟩:∃ i:Nat,r.from_=i:=⟨r.from_.toNat,by omega⟩;have hin:i<n:=by omega
   have hFl:(fF 3 Bl n V (fiF (l.take k))).length=n:=Ji;have hTl:(fT 1 n V (fiF (l.take k))).length=n:=z7e;have gI:∀ G,(fF 3 Bl n V (fiF (l.take k))++[G]).getD i default=gG 3 Bl (V i) (fiF (l.take k) i):=fun G=>by rw[zf7 hFl hin];exact z0p hin
   have gR:∀ G,(fF 3 Bl n V (fiF (l.take k))++[G]).getD n default=G:=fun G=>by rw[H8 hFl];rfl
   have sR:∀ G G',setQ (fF 3 Bl n V (fiF (l.take k))++[G]) n G'=some (fF 3 Bl n V (fiF (l.take k))++[G']):=fun G G'=>by rw[Mv _ _ hFl];rfl
   have tI:(fT 1 n V (fiF (l.take k))).getD i .any=.ref (i+1) (V i) 0 (fiF (l.take k) i).length:=zka hin;have sI:∀ G G',setQ (fF 3 Bl n V (fiF (l.take k))++[G]) i G'=some ((fF 3 Bl n V (fiF (l.take k))).set i G'++[G]):=fun G G'=>Xn (by omega);have gR2:∀ G G',((fF 3 Bl n V (fiF (l.take k))).set i G'++[G]).getD n default=G:=fun G G'=>by rw[H8 (by rw[List.length_set];exact hFl)];rfl
   have hSB:∀ R G,B7 1 [i+1] (fF 3 Bl n V (fiF (l.take k))++[R]) ((fF 3 Bl n V (fiF (l.take k))).set i G++[R]):=fun R G=>Xo (by omega) (by simp;omega);have hEx:=zkb (e:=Bl) (fiF (l.take k) i);have hel:=z4a l k i
   have eT:(fT 1 n V (fiF (l.take k))).set i (.ref (i+1) (V i+1) 0 ((fiF (l.take k) i).length+1))=fT 1 n (setV V i (V i+1)) (setD (fiF (l.take k)) i (fiF (l.take k) i++[r])):=by
     have:=z7f (o:=1) (V:=V) (D:=fiF (l.take k)) (l:=fiF (l.take k) i++[r]) hin
     rwa [List.length_append] at this
   have eF:(fF 3 Bl n V (fiF (l.take k))).set i ⟨3,V i+1,false,(fiF (l.take k) i).map Bl++[Bl r]⟩=fF 3 Bl n (setV V i (V i+1)) (setD (fiF (l.take k)) i (fiF (l.take k) i++[r])):=by
     have:=z7g (V:=V) (D:=fiF (l.take k)) (w:=3) (e:=Bl) (l:=fiF (l.take k) i++[r]) (by simp) hin;rw[List.map_append] at this;exact this
   have hRv:ltV (n+1) (.lst 3 (l.map Bl)):=C5 _ _ hP;rw[fiFL];have hni:¬n=i:=by omega
   simp only[gG] at gI;obtain⟨bb,hbb⟩:∃ bb,bb=(fun r:Cw=>true) r:=⟨_,rfl⟩;rw[←hbb] at hof hyes hno;refine W_T ?_;cases bb with
   | true =>
     (with_reducible repeat' (first|(simp(disch:=omega)only[push_cast,↓zz,seval,xx,List.mem_cons,List.not_mem_nil,or_false,false_or,not_or,not_false_eq_true,true_or,or_true,hP,aK,hre,hi,hgr,hot,hFl,hTl,gI,gR,sR,tI,sI,gR2,hEx,hni])|refine And.intro ?_ ?_|(first|refine Ab ?_ ?_|refine Aa ?_ ?_)<;>intro hc<;>(try simp only[push_cast] at hc)|refine eK hof ?_|refine eQ hof ?_|refine eG hof ?_|refine B8 [i+1] ?_|((first|refine cK hof ?_|refine cQ hof ?_|refine cG hof ?_);(simp(disch:=omega)only[push_cast,↓zz,seval,xx,List.mem_cons,List.not_mem_nil,or_false,false_or,not_or,not_false_eq_true,true_or,or_true,hP,aK,hre,hi,hgr,hot,hFl,hTl,gI,gR,sR,tI,sI,gR2,hEx,hni]);(fail_if_success change False))|omega|intro _))
     · exact hSB _ _
     · refine⟨(k+1,setV V i (V i+1)),Gi (gar:=[⟨3,1,true,[.agg [.int .i64 i,Ak r.guards,Be r.out]]⟩]) _ ?_ (Nat.zero_le _) (R8 _ _ _ _) ?_,by simp only;omega,by simp only;omega⟩
       · rw[fiFL,hyes i rfl hi,←eT,←eF]
         simp only[Bl,hi];rfl
       · rw[Xu]
         exact⟨rfl,trivial,rfl,(show 0<n+1 by omega),rfl,hRv,rfl,trivial,rfl,trivial,trivial⟩
   | false =>
     (with_reducible repeat' (first|(simp(disch:=omega)only[push_cast,↓zz,seval,xx,List.mem_cons,List.not_mem_nil,or_false,false_or,not_or,not_false_eq_true,true_or,or_true,hP,aK,hre,hi,hgr,hot,hFl,hTl,gI,gR,sR,tI,sI,gR2,hEx,hni])|refine And.intro ?_ ?_|(first|refine Ab ?_ ?_|refine Aa ?_ ?_)<;>intro hc<;>(try simp only[push_cast] at hc)|refine eK hof ?_|refine eQ hof ?_|refine eG hof ?_|refine B8 [i+1] ?_|((first|refine cK hof ?_|refine cQ hof ?_|refine cG hof ?_);(simp(disch:=omega)only[push_cast,↓zz,seval,xx,List.mem_cons,List.not_mem_nil,or_false,false_or,not_or,not_false_eq_true,true_or,or_true,hP,aK,hre,hi,hgr,hot,hFl,hTl,gI,gR,sR,tI,sI,gR2,hEx,hni]);(fail_if_success change False))|omega|intro _));refine⟨(k+1,V),Gi (gar:=[⟨3,1,true,[.agg [.int .i64 i,Ak r.guards,Be r.out]]⟩]) _ ?_ (Nat.zero_le _) (R8 _ _ _ _) ?_,by simp only;omega,by simp only;omega⟩
     · rw[fiFL,hno rfl]
       rfl
     · rw[Xu]
       exact⟨rfl,trivial,rfl,(show 0<n+1 by omega),rfl,hRv,rfl,trivial,rfl,trivial,trivial⟩
 · obtain rfl:k=l.length:=by omega
   have h1:(Abs.hl (fiFL l n l.length V)).at_ 0=⟨1,1,true,fT 1 n V (fiF (l.take l.length))⟩:=rfl
   have h2:∀ i,i<n→(Abs.hl (fiFL l n l.length V)).at_ (i+1)=gG 3 Bl (V i) (fiF (l.take l.length) i):=fun i hi=>by
     rw[fiFL,Ck];simp only[List.getD_cons_succ];exact z0p hi
   refine Rj (zfd 7 (by decide) Ia rfl h1 h2) ?_;rw[List.take_length];have pW:Aw (fD 3 Bl n (fiF l))=true:=Jj Ia;refine W_T ?_;(with_reducible repeat' (first|(simp(disch:=omega)only[push_cast,↓zz,seval,hP,pW])|refine And.intro ?_ ?_|(first|refine Ab ?_ ?_|refine Aa ?_ ?_)<;>intro hc<;>(try simp only[push_cast] at hc)|omega|intro _))
   all_goals trace_state
def zu9 (l:List Bool) (k:Nat):List Int:=((List.range k).filter fun i=>nth l i).map fun i:Nat=>(i:Int)
noncomputable def zua (d:Desc):List Int:=zu9 (comeL d) d.states.toNat
noncomputable def goesI (d:Desc):List Int:=zu9 (goL d) d.states.toNat
end Go.Proofs.YtbcjoeadpjfcfaaGreat
namespace Go.Proofs.YtbcjoeadpjfcfaaGreat
open Abs
noncomputable def zkj (d:Desc) (i:Nat):Bool:=z7m (fwdE d) [d.start] i&&z7m (bwdE d) (endE d) i
def cntB (u:Nat→Bool) (k:Nat):Nat:=((List.range k).filter u).length
def numB (u:Nat→Bool) (i:Nat):Int:=if u i=true then (cntB u i:Int) else -1
def keepR (u:Nat→Bool) (l:List Rule):List Rule:=(l.filter fun r=>u r.from_.toNat&&u r.to_.toNat).map fun r=>⟨numB u r.from_.toNat,numB u r.to_.toNat,r.guards,r.eat,r.out⟩
def keepF (u:Nat→Bool) (l:List Cw):List Cw:=(l.filter fun f=>u f.from_.toNat).map fun f=>⟨numB u f.from_.toNat,f.guards,f.out⟩
noncomputable def trimV (d:Desc):Desc :=
 if z7m (bwdE d) (endE d) d.start.toNat=false then zu1 d.in_ d.out
 else ⟨d.in_,d.out,cntB (zkj d) d.states.toNat,numB (zkj d) d.start.toNat,keepR (zkj d) d.rules,keepF (zkj d) d.finals⟩
theorem Mx (u:Nat→Bool) (k:Nat):cntB u (k+1)=if u k=true then cntB u k+1 else cntB u k:=by
 simp only[cntB,List.range_succ,List.filter_append,List.length_append,List.filter_cons,List.filter_nil];split<;>simp_all
abbrev Im:AV:=.agg [.int .i64 0,.int .i64 0,.int .i64 0,.int .i64 0,.nilS,.nilS]
end Go.Proofs.YtbcjoeadpjfcfaaGreat
set_option maxRecDepth 100000
set_option linter.unusedSectionVars false
namespace Go.Proofs.YtbcjoeadpjfcfaaGreat
open Abs
section
variable {α β:Type} [Inhabited α]
def accL (W:Nat→List α) (g:Nat→α→List β) (s:Nat):List β:=(List.range s).flatMap fun s=>(W s).flatMap (g s)
def accJ (W:Nat→List α) (g:Nat→α→List β) (s j:Nat):List β:=accL W g s++((W s).take j).flatMap (g s)
variable {W:Nat→List α} {g:Nat→α→List β}
theorem Ho:accL W g 0=[]:=rfl
theorem Jl (s:Nat):accL W g (s+1)=accJ W g s (W s).length:=by
 simp[accL,accJ,List.range_succ,List.flatMap_append]
theorem Ea (s:Nat):accJ W g s 0=accL W g s:=by simp[accJ]
theorem My {s j:Nat} (h:j<(W s).length):accJ W g s (j+1)=accJ W g s j++g s (nth (W s) j):=by
 rw[accJ,accJ,take_at h,List.flatMap_append,List.append_assoc];simp
theorem z0x (s j:Nat):(accJ W g s j).length≤(accL W g (s+1)).length:=by
 rw[Jl,accJ,accJ];have:W s=(W s).take j++(W s).drop j:=(List.take_append_drop j _).symm;rw[List.take_length,List.length_append,List.length_append]
 have h2:((W s).flatMap (g s)).length=(((W s).take j).flatMap (g s)).length+(((W s).drop j).flatMap (g s)).length:=by
   rw[←List.length_append,←List.flatMap_append,List.take_append_drop]
 omega
theorem zfe {s n:Nat} (h:s≤n):(accL W g s).length≤(accL W g n).length:=by
 induction h with
 | refl=>exact Nat.le_refl _
 | step _ ih =>
   rename_i m _;have:=z0x (W:=W) (g:=g) m 0;rw[Ea] at this;exact Nat.le_trans ih this
theorem Pq {s n:Nat} (j:Nat) (h:s<n):(accJ W g s j).length≤(accL W g n).length:=Nat.le_trans (z0x s j) (zfe h)
end
def frR (d:Desc) (s:Nat) (w:Int × List Term):List Rule:=(ruF d.rules w.1.toNat).map fun r=>⟨s,r.to_,r.guards,r.eat,w.2++r.out⟩
def frF (d:Desc) (s:Nat) (w:Int × List Term):List Cw:=(fiF d.finals w.1.toNat).map fun f=>⟨s,f.guards,w.2++f.out⟩
def Eh (d:Desc) (n:Nat):Desc:=⟨d.in_,d.out,d.states,d.start,accL (fun s:Nat=>wayL d.rules n s []) (frR d) n,accL (fun s:Nat=>wayL d.rules n s []) (frF d) n⟩
noncomputable def E9 (d:Desc) (n:Nat):Bool:=decide (cumW d.rules n n≤4096)&&(decide ((Eh d n).rules.length≤4096∧(Eh d n).finals.length≤4096)&&decide (S7 (Eh d n)≤64))
theorem Xv {l:List Rule} (ho:∀ r∈l,r.out.length≤64):∀ {s:Int} {p:List Nat},okP l s p→(outP l p).length≤64 * p.length
 | s,[],_=>by simp[outP]
 | s,i::p,h=>by
   have h1:=ho _ (Ao (F2.1 h.1).1);have h2:=Xv ho (s:=(nth l i).to_) (p:=p) h.2;simp only[outP,List.flatMap_cons,List.length_append,List.length_cons] at *;omega
theorem z7p {l:List Rule} {B:Nat} (hB:∀ r∈l,∀ t∈r.out,t.parts.length≤B):∀ {s:Int} {p:List Nat},okP l s p→∀ t∈outP l p,t.parts.length≤B
 | s,[],_,t,ht=>by simp[outP] at ht
 | s,i::p,h,t,ht=>by
   simp only[outP,List.flatMap_cons,List.mem_append] at ht;rcases ht with ht|ht
   · exact hB _ (Ao (F2.1 h.1).1) t ht
   · exact z7p hB (s:=(nth l i).to_) (p:=p) h.2 t ht
structure zq9 (n:Nat) (w:Int × List Term):Prop where
 e:0≤w.1∧w.1<n
 l:w.2.length≤70000
 p:∀ t∈w.2,t.parts.length≤4
theorem zlw {d:Desc} {n:Nat} (hn:n≤1024) (hl:∀ r∈d.rules,(0≤r.from_∧r.from_<n)∧0≤r.to_∧r.to_<n) (hcyc:¬cycP d.rules n) (ho:∀ r∈d.rules,r.out.length≤64) (hB:∀ r∈d.rules,∀ t∈r.out,t.parts.length≤4) {s:Nat} (hs:s<n) {w:Int × List Term} (h:w∈wayL d.rules n s []):zq9 n w:=by
 obtain⟨p,hp,rfl⟩:=List.mem_map.1 h;obtain⟨h1,h2⟩:=Xl hl hcyc (show (0:Int)≤s by omega) hp;have h3:=Xv ho h2;refine⟨Xm hl (by omega) h2,?_,?_⟩
 · simp only[List.nil_append];omega
 · simp only[List.nil_append];exact z7p hB h2
theorem z4b (d:Desc) (hf:Gh d) (h:¬Dl d=0):PC Tryz.prog 20 [Bp d] (.tup [Im,.int .i64 2]):=by
 have hF:=R6 d hf h;have pR:=Az d.rules;have pFi:=Av d.finals;refine A9 Gx ?_;unfold Fg;(with_reducible repeat' (first|(simp(disch:=omega)only[push_cast,↓zz,seval,pR,pFi])|refine And.intro ?_ ?_|(first|refine Ab ?_ ?_|refine Aa ?_ ?_)<;>intro hc<;>(try simp only[push_cast] at hc)|refine eK hF ?_|refine eQ hF ?_|refine eG hF ?_|((first|refine cK hF ?_|refine cQ hF ?_|refine cG hF ?_);(simp(disch:=omega)only[push_cast,↓zz,seval,pR,pFi]);(fail_if_success change False))|omega|intro _))
 all_goals trace_state
theorem z4c {l:List Rule} {s:Nat} {r:Rule} (h:r∈ruF l s):r∈l:=(List.mem_filter.1 h).1
theorem zff {l:List Cw} {s:Nat} {r:Cw} (h:r∈fiF l s):r∈l:=(List.mem_filter.1 h).1
theorem Fi {d:Desc} {r:Rule} (h:Ew d r=true):r.out.length≤64∧(∀ t∈r.out,t.parts.length≤4)∧r.guards.length≤4∧∀ g∈r.guards,g.length≤64:=by
 simp only[Ew,Bool.and_eq_true] at h;obtain⟨h1,h2⟩:=Jf h.2.2.2.2;obtain⟨h3,h4⟩:=Fq h.2.2.1;exact⟨h1,h2,h3,h4⟩
theorem Mz {d:Desc} {r:Cw} (h:Df d r=true):r.out.length≤64∧(∀ t∈r.out,t.parts.length≤4)∧r.guards.length≤4∧∀ g∈r.guards,g.length≤64:=by
 simp only[Df,Bool.and_eq_true] at h;obtain⟨h1,h2⟩:=Jf h.2.2;obtain⟨h3,h4⟩:=Fq h.2.1;exact⟨h1,h2,h3,h4⟩
theorem Xw {α β:Type} {W:Nat→List α} {g:Nat→α→List β} {s:Nat} {x:β} (h:x∈accL W g s):∃ i,i<s∧∃ w∈W i,x∈g i w:=by
 simp only[accL,List.mem_flatMap,List.mem_range] at h;obtain⟨i,h1,w,h2,h3⟩:=h;exact⟨i,h1,w,h2,h3⟩
def Ib (s:Nat) (w:Int × List Term) (r:Rule):Rule:=⟨s,r.to_,r.guards,r.eat,w.2++r.out⟩
def Jm (s:Nat) (w:Int × List Term) (r:Cw):Cw:=⟨s,r.guards,w.2++r.out⟩
theorem z7q (d:Desc) (s:Nat) (w:Int × List Term):frR d s w=(ruF d.rules w.1.toNat).map (Ib s w):=rfl
theorem zfg (d:Desc) (s:Nat) (w:Int × List Term):frF d s w=(fiF d.finals w.1.toNat).map (Jm s w):=rfl
theorem z7r (d:Desc) (hf:Gh d) (h:Dl d=0) {n:Nat} (hn:d.states=n) (hcyc:¬cycP d.rules n):PC Tryz.prog 20 [Bp d] (if E9 d n=true then .tup [Bp (Eh d n),.int .i64 0] else .tup [Im,.int .i64 4]):=by
 have hF:=z7n d hf h hn hcyc;have hw:=zar h;obtain⟨_,hrules,hfinals⟩:=F4 h;have hnn:1≤n∧n≤1024:=by obtain⟨m,h1,h2,h3⟩:=hw.n;omega
 have hrl:=hw.rl;have hfl:=hw.fl;have hl:∀ r∈d.rules,(0≤r.from_∧r.from_<n)∧0≤r.to_∧r.to_<n:=fun r hr=>by have:=hw.r r hr;rw[hn] at this;exact this
 have hlf:∀ r∈d.finals,0≤r.from_∧r.from_<n:=fun r hr=>by have:=hw.f r hr;rw[hn] at this;exact this
 have pR:=Az d.rules;have pFi:=Av d.finals;rw[zfc] at hF;by_cases hfit:cumW d.rules n n≤4096
 rotate_left
 · have:¬E9 d n=true:=by simp[E9,hfit]
   rw[if_neg hfit] at hF;rw[if_neg this];refine A9 Gx ?_;unfold Fg;(with_reducible repeat' (first|(simp(disch:=omega)only[push_cast,↓zz,seval,pR,pFi])|refine And.intro ?_ ?_|(first|refine Ab ?_ ?_|refine Aa ?_ ?_)<;>intro hc<;>(try simp only[push_cast] at hc)|refine eK hF ?_|refine eQ hF ?_|refine eG hF ?_|((first|refine cK hF ?_|refine cQ hF ?_|refine cG hF ?_);(simp(disch:=omega)only[push_cast,↓zz,seval,pR,pFi]);(fail_if_success change False))|omega|intro _))
 rw[if_pos hfit] at hF;have hgR:=zq6 d.rules (n:=n) hnn.2 hrl fun r hr=>(hl r hr).1;have hgF:=zq8 d.finals (n:=n) hnn.2 hfl hlf;have pRU:Aw (fD 5 B6 n (ruF d.rules))=true:=Jj H9;have pFI:Aw (fD 3 Bl n (fiF d.finals))=true:=Jj Ia;have pWA:Aw (fD 2 wayV n fun s=>wayL d.rules n s [])=true:=Jj Gj;have lRU:(fD 5 B6 n (ruF d.rules)).length=n:=z0o;have lFI:(fD 3 Bl n (fiF d.finals)).length=n:=z0o;have lWA:(fD 2 wayV n fun s=>wayL d.rules n s []).length=n:=z0o;have aRU:∀ i,i<n→(fD 5 B6 n (ruF d.rules)).getD i .any=.lst 5 ((ruF d.rules i).map B6):=fun i hi=>zf6 hi;have aFI:∀ i,i<n→(fD 3 Bl n (fiF d.finals)).getD i .any=.lst 3 ((fiF d.finals i).map Bl):=fun i hi=>zf6 hi;have aWA:∀ i,i<n→(fD 2 wayV n fun s=>wayL d.rules n s []).getD i .any=.lst 2 ((wayL d.rules n i []).map wayV):=fun i hi=>zf6 hi;have aRU2:∀ i,i<n→(fD 5 B6 n (ruF d.rules))[i]? = some (.lst 5 ((ruF d.rules i).map B6)):=fun i hi=>z0q hi;have aFI2:∀ i,i<n→(fD 3 Bl n (fiF d.finals))[i]? = some (.lst 3 ((fiF d.finals i).map Bl)):=fun i hi=>z0q hi;have aWA2:∀ i,i<n→(fD 2 wayV n fun s=>wayL d.rules n s [])[i]? = some (.lst 2 ((wayL d.rules n i []).map wayV)):=fun i hi=>z0q hi;have hRn:∀ s j,s<n→(accJ (fun s:Nat=>wayL d.rules n s []) (frR d) s j).length≤(Eh d n).rules.length:=fun s j hs=>Pq j hs;have hFn:∀ s j,s<n→(accJ (fun s:Nat=>wayL d.rules n s []) (frF d) s j).length≤(Eh d n).finals.length:=fun s j hs=>Pq j hs;have hwo:∀ s,s<n→∀ w∈wayL d.rules n s [],zq9 n w:=fun s hs w hw'=>zlw hnn.2 hl hcyc (fun r hr=>(Fi (hrules r hr)).1) (fun r hr=>(Fi (hrules r hr)).2.1) hs hw'
 have hWc:∀ s,s<n→(wayL d.rules n s []).length≤4096:=fun s hs=>by
   have h1:=Hl d.rules n s;have h2:=Jh d.rules n (show s+1≤n by omega);have h3:(wayL d.rules n s []).length=(D2 d.rules n s).length:=by rw[wayL,List.length_map]
   omega
 have hRu:∀ s,(ruF d.rules s).length≤4096:=fun s=>by have:=z49 d.rules d.rules.length s;rw[List.take_length] at this;omega
 have hFu:∀ s,(fiF d.finals s).length≤4096:=fun s=>by have:=z4a d.finals d.finals.length s;rw[List.take_length] at this;omega
 refine A9 Gx ?_;unfold Fg;generalize fD 5 B6 n (ruF d.rules)=RU at *;generalize fD 3 Bl n (fiF d.finals)=FI at *;generalize fD 2 wayV n (fun s=>wayL d.rules n s [])=WA at *;(with_reducible repeat' (first|(simp(disch:=omega)only[push_cast,↓zz,seval,pR,pFi,hn,pRU,pFI,pWA,lWA])|refine And.intro ?_ ?_|(first|refine Ab ?_ ?_|refine Aa ?_ ?_)<;>intro hc<;>(try simp only[push_cast] at hc)|refine eK hF ?_|refine eQ hF ?_|refine eG hF ?_|refine eK hgR ?_|refine eQ hgR ?_|refine eG hgR ?_|refine eK hgF ?_|refine eQ hgF ?_|refine eG hgF ?_|((first|refine cK hF ?_|refine cQ hF ?_|refine cG hF ?_|refine cK hgR ?_|refine cQ hgR ?_|refine cG hgR ?_|refine cK hgF ?_|refine cQ hgF ?_|refine cG hgF ?_);(simp(disch:=omega)only[push_cast,↓zz,seval,pR,pFi,hn,pRU,pFI,pWA,lWA]);(fail_if_success change False))|omega|intro _));have hrm:E9 d n=true↔((Eh d n).rules.length≤4096∧(Eh d n).finals.length≤4096)∧S7 (Eh d n)≤64:=by simp[E9,hfit]
 obtain⟨W,hW⟩:∃ W,W=fun s:Nat=>wayL d.rules n s []:=⟨_,rfl⟩;rw[←hW] at hRn hFn;have hWs:∀ s:Nat,wayL d.rules n s []=W s:=fun s=>by rw[hW]
 simp only[hWs] at aWA aWA2 hwo hWc
 refine An (Ap (fun (s:Nat)=>s≤n∧(accL W (frR d) s).length≤4096∧(accL W (frF d) s).length≤4096) (fun s=>n-s)
   (fun s=>[(2,.ptr 0 1 0 0),(6,.lst 1 RU),(7,.lst 1 FI),(8,.ptr 1 1 0 0),(45,.lst 1 WA),(46,.int .i64 n),(47,.int .i64 s)])
   (fun s=>[⟨6,1,true,[Im]⟩,⟨6,1,true,[.agg [.int .i64 d.in_,.int .i64 d.out,.int .i64 n,.int .i64 d.start,.ref 2 1 0 (accL W (frR d) s).length,.ref 3 1 0 (accL W (frF d) s).length]]⟩,⟨5,1,false,(accL W (frR d) s).map B6⟩,⟨3,1,false,(accL W (frF d) s).map Bl⟩])
   (fun env H=>[A5 6 (env 2),A5 6 (env 8),A5 5 (cellAt H (env 8) 4),A5 3 (cellAt H (env 8) 5)]) 0 ⟨by simp,by simp[Ho],by simp[Ho]⟩ ?_ ?_)
 · have e0:accL W (frR d) 0=[]:=rfl
   have e1:accL W (frF d) 0=[]:=rfl;(with_reducible repeat' (first|(simp(disch:=omega)only[push_cast,↓zz,seval,pR,pFi,pRU,pFI,pWA,e0,e1])|refine And.intro ?_ ?_|(first|refine Ab ?_ ?_|refine Aa ?_ ?_)<;>intro hc<;>(try simp only[push_cast] at hc)|omega|intro _))
 rintro s ⟨hs,hsR,hsF⟩;have pAR:=Az (accL W (frR d) s);have pAF:=Av (accL W (frF d) s);rcases Nat.lt_or_ge s n with hsn|hsn
 · have aS:=aWA s hsn
   have aS2:=aWA2 s hsn;have hwS:=hwo s hsn;have hWl:=hWc s hsn;have pWs:Aw ((W s).map wayV)=true:=Ef Gj _;have hL1:(accL W (frR d) s).map B6=(accL W (frR d) s).map B6:=rfl;refine W_T ?_;(with_reducible repeat' (first|(simp(disch:=omega)only[push_cast,↓zz,seval,pRU,pFI,pWA,lWA,aS,aS2,pWs])|refine And.intro ?_ ?_|(first|refine Ab ?_ ?_|refine Aa ?_ ?_)<;>intro hc<;>(try simp only[push_cast] at hc)|omega|intro _))
   refine An (Ap (fun (j:Nat)=>j≤(W s).length∧(accJ W (frR d) s j).length≤4096∧(accJ W (frF d) s j).length≤4096) (fun j=>(W s).length-j)
     (fun j=>[(2,.ptr 0 1 0 0),(6,.lst 1 RU),(7,.lst 1 FI),(8,.ptr 1 1 0 0),(9,.int .i64 s),(45,.lst 1 WA),(46,.int .i64 n),(47,.int .i64 s),(52,.lst 2 ((W s).map wayV)),(53,.int .i64 (W s).length),(54,.int .i64 j)])
     (fun j=>[⟨6,1,true,[Im]⟩,⟨6,1,true,[.agg [.int .i64 d.in_,.int .i64 d.out,.int .i64 n,.int .i64 d.start,.ref 2 1 0 (accJ W (frR d) s j).length,.ref 3 1 0 (accJ W (frF d) s j).length]]⟩,⟨5,1,false,(accJ W (frR d) s j).map B6⟩,⟨3,1,false,(accJ W (frF d) s j).map Bl⟩])
     (fun env H=>[A5 6 (env 2),A5 6 (env 8),A5 5 (cellAt H (env 8) 4),A5 3 (cellAt H (env 8) 5)]) 0 ⟨by simp,by rw[Ea];exact hsR,by rw[Ea];exact hsF⟩ ?_ ?_)
   · have e0:=Ea (W:=W) (g:=frR d) s
     have e1:=Ea (W:=W) (g:=frF d) s;(with_reducible repeat' (first|(simp(disch:=omega)only[push_cast,↓zz,seval,pRU,pFI,pWA,e0,e1,pAR,pAF,pWs])|refine And.intro ?_ ?_|(first|refine Ab ?_ ?_|refine Aa ?_ ?_)<;>intro hc<;>(try simp only[push_cast] at hc)|omega|intro _))
   rintro j ⟨hj,hjR,hjF⟩;have pJR:=Az (accJ W (frR d) s j);have pJF:=Av (accJ W (frF d) s j);rcases Nat.lt_or_ge j (W s).length with hjl|hjl
   · have aJ:((W s).map wayV).getD j .any=wayV (nth (W s) j):=by simp[nth,List.getD,hjl]
     have hwj:=hwS _ (Ao hjl);have hsR:=My (g:=frR d) hjl;have hsF:=My (g:=frF d) hjl;have hsRn:=hRn s (j+1) hsn;have hsFn:=hFn s (j+1) hsn;generalize hwe:nth (W s) j=w at *;obtain⟨w1,w2⟩:=w;obtain⟨⟨he1,he2⟩,hwl,hwp⟩:=hwj;simp only at he1 he2 hwl hwp;obtain⟨e,rfl⟩:∃ e:Nat,w1=e:=⟨w1.toNat,by omega⟩;have hen:e<n:=by omega
     have pw2:=Am w2;have aRe:=aRU e hen;have aFe:=aFI e hen;have aRe2:=aRU2 e hen;have aFe2:=aFI2 e hen;have lRe:=hRu e;have lFe:=hFu e;rw[z7q,Int.toNat_natCast] at hsR;rw[zfg,Int.toNat_natCast] at hsF;have hRm:∀ r∈ruF d.rules e,Ew d r=true:=fun r hr=>hrules r (z4c hr);have hFm:∀ r∈fiF d.finals e,Df d r=true:=fun r hr=>hfinals r (zff hr);generalize ruF d.rules e=LR at *;generalize fiF d.finals e=LF at *;have pLR:Aw (LR.map B6)=true:=Ef H9 _;have pLF:Aw (LF.map Bl)=true:=Ef Ia _;generalize hAR:accJ W (frR d) s j=AR at *;generalize hAF:accJ W (frF d) s j=AF at *;unfold wayV at aJ;refine W_T ?_;(with_reducible repeat' (first|(simp(disch:=omega)only[push_cast,↓zz,seval,pRU,pFI,pWA,pWs,hwe,wayV,pw2,aRe,aRe2,pLR,lRU,lFI])|refine And.intro ?_ ?_|(first|refine Ab ?_ ?_|refine Aa ?_ ?_)<;>intro hc<;>(try simp only[push_cast] at hc)|omega|intro _));obtain⟨SR,hSR⟩:∃ SR:Nat→List Rule,SR=fun k=>AR++(LR.take k).map (Ib s ((e:Int),w2)):=⟨_,rfl⟩;have sR0:SR 0=AR:=by rw[hSR];simp
     have sRs:∀ k,k<LR.length→SR (k+1)=SR k++[Ib s ((e:Int),w2) (nth LR k)]:=fun k hk=>by rw[hSR];simp only;rw[take_at hk];simp
     have sRl:∀ k,k≤LR.length→(SR k).length=AR.length+k:=fun k hk=>by rw[hSR];simp;omega
     have sRe:SR LR.length=accJ W (frR d) s (j+1):=by rw[hSR];simp only;rw[List.take_length,←hsR]
     obtain⟨SF,hSF⟩:∃ SF:Nat→List Cw,SF=fun k=>AF++(LF.take k).map (Jm s ((e:Int),w2)):=⟨_,rfl⟩;have sF0:SF 0=AF:=by rw[hSF];simp
     have sFs:∀ k,k<LF.length→SF (k+1)=SF k++[Jm s ((e:Int),w2) (nth LF k)]:=fun k hk=>by rw[hSF];simp only;rw[take_at hk];simp
     have sFl:∀ k,k≤LF.length→(SF k).length=AF.length+k:=fun k hk=>by rw[hSF];simp;omega
     have sFe:SF LF.length=accJ W (frF d) s (j+1):=by rw[hSF];simp only;rw[List.take_length,←hsF]
     clear hSR hSF
     refine An (Ap (fun (k:Nat)=>k≤LR.length) (fun k=>LR.length-k)
       (fun k=>[(2,.ptr 0 1 0 0),(6,.lst 1 RU),(7,.lst 1 FI),(8,.ptr 1 1 0 0),(9,.int .i64 s),(12,.cptr (.agg [.int .i64 e,Be w2])),(45,.lst 1 WA),(46,.int .i64 n),(47,.int .i64 s),(52,.lst 2 ((W s).map wayV)),(53,.int .i64 (W s).length),(54,.int .i64 j),(62,.lst 5 (LR.map B6)),(63,.int .i64 LR.length),(64,.int .i64 k)])
       (fun k=>[⟨6,1,true,[Im]⟩,⟨6,1,true,[.agg [.int .i64 d.in_,.int .i64 d.out,.int .i64 n,.int .i64 d.start,.ref 2 1 0 (SR k).length,.ref 3 1 0 AF.length]]⟩,⟨5,1,false,(SR k).map B6⟩,⟨3,1,false,AF.map Bl⟩])
       (fun env H=>[A5 6 (env 2),A5 6 (env 8),A5 5 (cellAt H (env 8) 4),A5 3 (cellAt H (env 8) 5)]) 0 (by simp) ?_ ?_)
     · (with_reducible repeat' (first|(simp(disch:=omega)only[push_cast,↓zz,seval,pRU,pFI,pWA,pWs,pw2,pLR,pJR,pJF,sR0])|refine And.intro ?_ ?_|(first|refine Ab ?_ ?_|refine Aa ?_ ?_)<;>intro hc<;>(try simp only[push_cast] at hc)|omega|intro _))
     intro k hk;have hlk:=sRl k hk;have pK:=Az (SR k);rcases Nat.lt_or_ge k LR.length with hkl|hkl
     · have hr:=hRm _ (Ao hkl)
       have e1:=sRs k hkl;have hlk1:=sRl (k+1) hkl;have pK1:=Az (SR (k+1));generalize hre:nth LR k=r at *;obtain⟨o1,o2,o3,o4⟩:=Fi hr;have hgr:=Ad r.guards;have hot:=Am r.out;have hG:=U3 r.guards (by omega) (fun g hg=>by have:=o4 g hg;omega)
       have hB:=U4 ((e:Int),w2) r.out (by simp only;omega) (fun t ht=>by
         rcases List.mem_append.1 ht with h|h
         · have:=hwp t h;omega
         · have:=o2 t h;omega)
       unfold wayV at hB;simp only at hB;have pB:=Am (w2++r.out);have eM:(SR (k+1)).map B6=(SR k).map B6++[.agg [.int .i64 s,.int .i64 r.to_,Ak r.guards,.int .i64 r.eat,Be (w2++r.out)]]:=by rw[e1,List.map_append];rfl
       generalize w2++r.out=TL at *;have pTO:Aw (TL.map Bo)=true:=pB;refine W_T ?_;(with_reducible repeat' (first|(simp(disch:=omega)only[push_cast,↓zz,seval,pRU,pFI,pWA,pWs,pw2,pLR,pJF,hre,hgr,hot,hlk,pK,pTO])|refine And.intro ?_ ?_|(first|refine Ab ?_ ?_|refine Aa ?_ ?_)<;>intro hc<;>(try simp only[push_cast] at hc)|refine eK hG ?_|refine eQ hG ?_|refine eG hG ?_|refine eK hB ?_|refine eQ hB ?_|refine eG hB ?_|((first|refine cK hG ?_|refine cQ hG ?_|refine cG hG ?_|refine cK hB ?_|refine cQ hB ?_|refine cG hB ?_);(simp(disch:=omega)only[push_cast,↓zz,seval,pRU,pFI,pWA,pWs,pw2,pLR,pJF,hre,hgr,hot,hlk,pK,pTO]);(fail_if_success change False))|omega|intro _))
       all_goals
         refine⟨k+1,?_⟩;(with_reducible repeat' (first|(simp(disch:=omega)only[push_cast,↓zz,seval,eM,hlk1,pRU,pFI,pWA,pWs,pw2,pLR,pJF,pK,hgr,pTO])|refine And.intro ?_ ?_|(first|refine Ab ?_ ?_|refine Aa ?_ ?_)<;>intro hc<;>(try simp only[push_cast] at hc)|omega|intro _))
     · obtain rfl:k=LR.length:=by omega
       rw[sRe] at hlk pK ⊢;refine W_T ?_;(with_reducible repeat' (first|(simp(disch:=omega)only[push_cast,↓zz,seval,pRU,pFI,pWA,pWs,pw2,aFe,aFe2,pLF,lFI])|refine And.intro ?_ ?_|(first|refine Ab ?_ ?_|refine Aa ?_ ?_)<;>intro hc<;>(try simp only[push_cast] at hc)|omega|intro _));generalize hAR1:accJ W (frR d) s (j+1)=AR1 at *
       refine An (Ap (fun (k:Nat)=>k≤LF.length) (fun k=>LF.length-k)
         (fun k=>[(2,.ptr 0 1 0 0),(6,.lst 1 RU),(7,.lst 1 FI),(8,.ptr 1 1 0 0),(9,.int .i64 s),(12,.cptr (.agg [.int .i64 e,Be w2])),(45,.lst 1 WA),(46,.int .i64 n),(47,.int .i64 s),(52,.lst 2 ((W s).map wayV)),(53,.int .i64 (W s).length),(54,.int .i64 j),(91,.lst 3 (LF.map Bl)),(92,.int .i64 LF.length),(93,.int .i64 k)])
         (fun k=>[⟨6,1,true,[Im]⟩,⟨6,1,true,[.agg [.int .i64 d.in_,.int .i64 d.out,.int .i64 n,.int .i64 d.start,.ref 2 1 0 AR1.length,.ref 3 1 0 (SF k).length]]⟩,⟨5,1,false,AR1.map B6⟩,⟨3,1,false,(SF k).map Bl⟩])
         (fun env H=>[A5 6 (env 2),A5 6 (env 8),A5 5 (cellAt H (env 8) 4),A5 3 (cellAt H (env 8) 5)]) 0 (by simp) ?_ ?_)
       · (with_reducible repeat' (first|(simp(disch:=omega)only[push_cast,↓zz,seval,pRU,pFI,pWA,pWs,pw2,pLF,pK,pJF,sF0])|refine And.intro ?_ ?_|(first|refine Ab ?_ ?_|refine Aa ?_ ?_)<;>intro hc<;>(try simp only[push_cast] at hc)|omega|intro _))
       intro k hk;have hlkF:=sFl k hk;have pKF:=Av (SF k);rcases Nat.lt_or_ge k LF.length with hkl|hkl
       · have hr:=hFm _ (Ao hkl)
         have e1:=sFs k hkl;have hlk1:=sFl (k+1) hkl;have pK1:=Av (SF (k+1));generalize hre:nth LF k=r at *;obtain⟨o1,o2,o3,o4⟩:=Mz hr;have hgr:=Ad r.guards;have hot:=Am r.out;have hG:=U3 r.guards (by omega) (fun g hg=>by have:=o4 g hg;omega)
         have hB:=U4 ((e:Int),w2) r.out (by simp only;omega) (fun t ht=>by
           rcases List.mem_append.1 ht with h|h
           · have:=hwp t h;omega
           · have:=o2 t h;omega)
         unfold wayV at hB;simp only at hB;have pB:=Am (w2++r.out);have eM:(SF (k+1)).map Bl=(SF k).map Bl++[.agg [.int .i64 s,Ak r.guards,Be (w2++r.out)]]:=by rw[e1,List.map_append];rfl
         generalize w2++r.out=TL at *;have pTO:Aw (TL.map Bo)=true:=pB;refine W_T ?_;(with_reducible repeat' (first|(simp(disch:=omega)only[push_cast,↓zz,seval,pRU,pFI,pWA,pWs,pw2,pLF,pK,hre,hgr,hot,hlkF,pKF,pTO])|refine And.intro ?_ ?_|(first|refine Ab ?_ ?_|refine Aa ?_ ?_)<;>intro hc<;>(try simp only[push_cast] at hc)|refine eK hG ?_|refine eQ hG ?_|refine eG hG ?_|refine eK hB ?_|refine eQ hB ?_|refine eG hB ?_|((first|refine cK hG ?_|refine cQ hG ?_|refine cG hG ?_|refine cK hB ?_|refine cQ hB ?_|refine cG hB ?_);(simp(disch:=omega)only[push_cast,↓zz,seval,pRU,pFI,pWA,pWs,pw2,pLF,pK,hre,hgr,hot,hlkF,pKF,pTO]);(fail_if_success change False))|omega|intro _))
         all_goals
           refine⟨k+1,?_⟩;(with_reducible repeat' (first|(simp(disch:=omega)only[push_cast,↓zz,seval,eM,hlk1,pRU,pFI,pWA,pWs,pw2,pLF,pK,pKF,hgr,pTO])|refine And.intro ?_ ?_|(first|refine Ab ?_ ?_|refine Aa ?_ ?_)<;>intro hc<;>(try simp only[push_cast] at hc)|omega|intro _))
       · obtain rfl:k=LF.length:=by omega
         rw[sFe] at hlkF pKF ⊢;refine W_T ?_;by_cases hbig:AR1.length≤4096∧(accJ W (frF d) s (j+1)).length≤4096
         · generalize hAF1:accJ W (frF d) s (j+1)=AF1 at *
           (with_reducible repeat' (first|(simp(disch:=omega)only[push_cast,↓zz,seval,pRU,pFI,pWA,pWs,pw2,pK,pKF])|refine And.intro ?_ ?_|(first|refine Ab ?_ ?_|refine Aa ?_ ?_)<;>intro hc<;>(try simp only[push_cast] at hc)|omega|intro _))
           all_goals
             refine⟨j+1,?_⟩;(with_reducible repeat' (first|(simp(disch:=omega)only[push_cast,↓zz,seval,pRU,pFI,pWA,pWs,pw2,pK,pKF,hAR1,hAF1])|refine And.intro ?_ ?_|(first|refine Ab ?_ ?_|refine Aa ?_ ?_)<;>intro hc<;>(try simp only[push_cast] at hc)|omega|intro _))
         · have:¬E9 d n=true:=by rw[hrm];omega
           rw[if_neg this];generalize hAF1:accJ W (frF d) s (j+1)=AF1 at *;(with_reducible repeat' (first|(simp(disch:=omega)only[push_cast,↓zz,seval,pRU,pFI,pWA,pWs,pw2,pK,pKF])|refine And.intro ?_ ?_|(first|refine Ab ?_ ?_|refine Aa ?_ ?_)<;>intro hc<;>(try simp only[push_cast] at hc)|omega|intro _))
   · obtain rfl:j=(W s).length:=by omega
     have sR1:=Jl (W:=W) (g:=frR d) s;have sF1:=Jl (W:=W) (g:=frF d) s;rw[←sR1] at hjR pJR ⊢;rw[←sF1] at hjF pJF ⊢;refine W_T ?_;(with_reducible repeat' (first|(simp(disch:=omega)only[push_cast,↓zz,seval,pRU,pFI,pWA,pWs,pJR,pJF])|refine And.intro ?_ ?_|(first|refine Ab ?_ ?_|refine Aa ?_ ?_)<;>intro hc<;>(try simp only[push_cast] at hc)|omega|intro _))
     all_goals
       refine⟨s+1,?_⟩;(with_reducible repeat' (first|(simp(disch:=omega)only[push_cast,↓zz,seval,pRU,pFI,pWA,pWs,pJR,pJF])|refine And.intro ?_ ?_|(first|refine Ab ?_ ?_|refine Aa ?_ ?_)<;>intro hc<;>(try simp only[push_cast] at hc)|omega|intro _))
 · obtain rfl:s=n:=by omega
   refine W_T ?_;have hfd:Eh d s=⟨d.in_,d.out,d.states,d.start,accL W (frR d) s,accL W (frF d) s⟩:=by rw[Eh,hW]
   have hlen:PC Tryz.prog 53 [Bp (Eh d s)] (.int .i64 (S7 (Eh d s))):=by
     rw[hfd];refine z0j _ (by simp only;omega) (by simp only;omega) fun r hr=>?_;obtain⟨i,hi,w,hw1,hr1⟩:=Xw hr;have hwk:=hwo i hi w hw1;rw[z7q] at hr1;obtain⟨r0,hr0,rfl⟩:=List.mem_map.1 hr1;obtain⟨o1,o2,o3,o4⟩:=Fi (hrules r0 (z4c hr0));have:=hwk.l;simp only[Ib,List.length_append];omega
   rw[hfd,hn] at hlen hrm;simp only at hrm;generalize hLV:S7 ⟨d.in_,d.out,(s:Int),d.start,accL W (frR d) s,accL W (frF d) s⟩=LV at *;have hdV:Bp (Eh d s)=Bp ⟨d.in_,d.out,(s:Int),d.start,accL W (frR d) s,accL W (frF d) s⟩:=by rw[hfd,hn]
   rw[hdV];by_cases h64:64<LV
   · rw[if_neg (by rw[hrm];omega)]
     (with_reducible repeat' (first|(simp(disch:=omega)only[push_cast,↓zz,seval,pRU,pFI,pWA,lWA,pAR,pAF])|refine And.intro ?_ ?_|(first|refine Ab ?_ ?_|refine Aa ?_ ?_)<;>intro hc<;>(try simp only[push_cast] at hc)|refine eK hlen ?_|refine eQ hlen ?_|refine eG hlen ?_|((first|refine cK hlen ?_|refine cQ hlen ?_|refine cG hlen ?_);(simp(disch:=omega)only[push_cast,↓zz,seval,pRU,pFI,pWA,lWA,pAR,pAF]);(fail_if_success change False))|omega|intro _))
   · rw[if_pos (by rw[hrm];omega)]
     (with_reducible repeat' (first|(simp(disch:=omega)only[push_cast,↓zz,seval,pRU,pFI,pWA,lWA,pAR,pAF])|refine And.intro ?_ ?_|(first|refine Ab ?_ ?_|refine Aa ?_ ?_)<;>intro hc<;>(try simp only[push_cast] at hc)|refine eK hlen ?_|refine eQ hlen ?_|refine eG hlen ?_|((first|refine cK hlen ?_|refine cQ hlen ?_|refine cG hlen ?_);(simp(disch:=omega)only[push_cast,↓zz,seval,pRU,pFI,pWA,lWA,pAR,pAF]);(fail_if_success change False))|omega|intro _))
     all_goals trace_state
theorem zfh (v:Nat) (l:List Int) (x:Int) (hr:Bt l) (hl:l.length≤1000000000000) {K:AV→Ac→Prop} (p:Nat) (hp:Place l x p p)
   (hyes:p<l.length→nth l p=x→K (.ref 0 v 0 l.length) (Abs.hl [⟨1,v,false,l.map intV⟩]))
   (hno:(p<l.length→nth l p≠x)→K (.ref 0 (v+1) 0 (l.length+1)) (Abs.hl [⟨1,v+1,false,(l.take p++x::l.drop p).map intV⟩])) :
   Bi Tryz.prog 173 [.ref 0 v 0 l.length,.int .i64 x] (Abs.hl [⟨1,v,false,l.map intV⟩]) K:=by
 refine J0 (b:=1) z2l rfl ?_;unfold Qv;(with_reducible repeat' (first|(simp(disch:=omega)only[push_cast,↓zz,seval])|refine And.intro ?_ ?_|(first|refine Ab ?_ ?_|refine Aa ?_ ?_)<;>intro hc<;>(try simp only[push_cast] at hc)|omega|intro _))
 refine An (Ap (fun (s:Nat × Nat)=>Place l x s.1 s.2) (fun s=>s.2-s.1) (fun s=>[(0,.ref 0 v 0 l.length),(1,.int .i64 x),(5,.int .i64 s.1),(6,.int .i64 s.2)])
   (fun _=>[⟨1,v,false,l.map intV⟩]) (fun _ _=>[]) (0,l.length) ⟨by simp,by simp,by simp,by intro j h1 h2;simp at h1;omega⟩ ?_ ?_)
 · (with_reducible repeat' (first|(simp(disch:=omega)only[push_cast,↓zz,seval])|refine And.intro ?_ ?_|(first|refine Ab ?_ ?_|refine Aa ?_ ?_)<;>intro hc<;>(try simp only[push_cast] at hc)|omega|intro _))
 rintro⟨lo,hi⟩ hpl;have hle:=hpl.le;have htop:=hpl.top;simp only at hle htop;rcases Nat.lt_or_ge lo hi with hlh|hlh
 · obtain⟨s1,s2⟩:=Uk hr hpl hlh
   have hm:(lo+hi) / 2<l.length:=by omega
   have hw:IntKind.i64.wrap (((lo:Int)+(hi:Int)).tdiv 2)=(((lo+hi) / 2:Nat):Int):=by
     rw[Int.tdiv_eq_ediv_of_nonneg (by omega),show ((lo:Int)+hi) / 2=(((lo+hi) / 2:Nat):Int) by omega];exact IntWalk.i64_in _ (by omega)
   refine W_T ?_;(with_reducible repeat' (first|(simp(disch:=omega)only[push_cast,↓zz,seval,hw])|refine And.intro ?_ ?_|(first|refine Ab ?_ ?_|refine Aa ?_ ?_)<;>intro hc<;>(try simp only[push_cast] at hc)|omega|intro _))
   all_goals rw[show (((lo:Int)+hi) / 2).toNat=(lo+hi) / 2 by omega] at hc
   · exact⟨((lo+hi) / 2+1,hi),⟨by simp only;omega,rfl⟩,s1 hc,by simp only;omega⟩
   · exact⟨(lo,(lo+hi) / 2),⟨rfl,by simp only;omega⟩,s2 hc,by simp only;omega⟩
 · have hlp:lo=p∧hi=p:=by
     have e:lo=hi:=by omega
     subst e;rcases Nat.lt_trichotomy lo p with h|h|h
     · have:=hp.lt lo h;have:=hpl.ge lo (Nat.le_refl _) (by have:=hp.top;omega);omega
     · exact⟨h,h⟩
     · have:=hpl.lt p h;have:=hp.ge p (Nat.le_refl _) (by omega);omega
   obtain⟨rfl,rfl⟩:=hlp;refine W_T ?_;(with_reducible repeat' (first|(simp(disch:=omega)only[push_cast,↓zz,seval])|refine And.intro ?_ ?_|(first|refine Ab ?_ ?_|refine Aa ?_ ?_)<;>intro hc<;>(try simp only[push_cast] at hc)|omega|intro _))
   · exact hyes (by omega) hc
   all_goals
     have hn:=hno (by first|exact fun _=>hc|exact fun h=>absurd h (by omega))
     refine An (Ap (fun (s:Nat × Int)=>hi≤s.1∧s.1≤l.length) (fun s=>s.1) (fun s=>[(0,.ref 0 (v+1) 0 (l.length+1)),(1,.int .i64 x),(5,.int .i64 hi),(8,.int .i64 s.1)])
       (fun s=>[⟨1,v+1,false,(gapL l s.1 s.2).map intV⟩]) (fun _ _=>[]) (l.length,0) ⟨by simp only;omega,by simp⟩ ?_ ?_)
     · (with_reducible repeat' (first|(simp(disch:=omega)only[push_cast,↓zz,seval,z6q])|refine And.intro ?_ ?_|(first|refine Ab ?_ ?_|refine Aa ?_ ?_)<;>intro hc<;>(try simp only[push_cast] at hc)|omega|intro _))
     rintro⟨i,y⟩ ⟨h1,h2⟩;simp only at h1 h2;have hgl:=z6p (y:=y) h2;refine W_T ?_;rcases Nat.lt_or_ge hi i with hlt|hge
     · obtain⟨i,rfl⟩:∃ k,i=k+1:=⟨i-1,by omega⟩
       have hs:=Pk (y:=y) (z:=nth l i) h2;have ha:=zed (y:=y) (show i<l.length by omega);rw[z05 (by omega)] at hs;(with_reducible repeat' (first|(simp(disch:=omega)only[push_cast,↓zz,seval,hgl,hs,ha,Fe])|refine And.intro ?_ ?_|(first|refine Ab ?_ ?_|refine Aa ?_ ?_)<;>intro hc<;>(try simp only[push_cast] at hc)|omega|intro _))
       all_goals exact⟨(i,nth l i),⟨rfl,A7 _ _⟩,⟨by simp only;omega,by simp only;omega⟩,by simp only;omega⟩
     · obtain rfl:i=hi:=by omega
       have hs:=Pk (y:=y) (z:=x) h2;(with_reducible repeat' (first|(simp(disch:=omega)only[push_cast,↓zz,seval,hgl,hs])|refine And.intro ?_ ?_|(first|refine Ab ?_ ?_|refine Aa ?_ ?_)<;>intro hc<;>(try simp only[push_cast] at hc)|omega|intro _));exact hn
theorem z0y (v:Nat) (l:List Int) (x:Int) (hr:Bt l) (hl:l.length≤1000000000000) :
   Bi Tryz.prog 173 [.ref 0 v 0 l.length,.int .i64 x] (Abs.hl [⟨1,v,false,l.map intV⟩]) fun y H'=>∃ v',y=.ref 0 v' 0 (putI l x).length∧H'=Abs.hl [⟨1,v',false,(putI l x).map intV⟩]:=by
 obtain⟨e1,e2⟩:=W5 l x;refine zfh v l x hr hl (lowI l x) (Hf hr x) (fun h1 h2=>?_) (fun h=>?_)
 · rw[putI,if_pos ((W6 hr x).2 ⟨h1,h2⟩)]
   exact⟨v,rfl,rfl⟩
 · rw[putI,if_neg (fun hx=>by obtain⟨h1,h2⟩:=(W6 hr x).1 hx;exact h h1 h2),←e1,←e2]
   refine⟨v+1,?_,rfl⟩;congr 1;have:=(Hf hr x).top;simp;omega
theorem U5:∀ {a b:List Int},Bt a→Bt b→(∀ x,x∈a↔x∈b)→a=b
 | [],[],_,_,_=>rfl
 | [],y::b,_,_,h=>absurd ((h y).2 (by simp)) (by simp)
 | x::a,[],_,_,h=>absurd ((h x).1 (by simp)) (by simp)
 | x::a,y::b,ha,hb,h=>by
   obtain⟨a1,a2⟩:=List.pairwise_cons.1 ha;obtain⟨b1,b2⟩:=List.pairwise_cons.1 hb;have hx:=(h x).1 (by simp);have hy:=(h y).2 (by simp)
   have e:x=y:=by
     rcases List.mem_cons.1 hx with e|hx
     · exact e
     · rcases List.mem_cons.1 hy with e|hy
       · exact e.symm
       · have:=b1 x hx;have:=a1 y hy;omega
   subst e;rw[U5 a2 b2 fun z=>?_];have hz:=h z;simp only[List.mem_cons] at hz;constructor
   · intro hm
     rcases hz.1 (.inr hm) with e|hm'
     · have:=a1 z hm;omega
     · exact hm'
   · intro hm
     rcases hz.2 (.inr hm) with e|hm'
     · have:=b1 z hm;omega
     · exact hm'
theorem Ke:∀ (m l:List Int),Bt l→Bt (m.foldl putI l)∧(m.foldl putI l).length≤l.length+m.length∧∀ v,v∈m.foldl putI l↔v∈l∨v∈m
 | [],l,h=>⟨h,by simp,fun v=>by simp⟩
 | x::m,l,h=>by
   obtain⟨i1,i2,i3⟩:=Ke m (putI l x) (Gg h x)
   have hl:(putI l x).length≤l.length+1:=by
     unfold putI;split
     · omega
     · have:=congrArg List.length (List.takeWhile_append_dropWhile (p:=fun y=>decide (y<x)) (l:=l))
       simp only[List.length_append,List.length_cons] at this ⊢;omega
   refine⟨i1,by simp only[List.foldl_cons,List.length_cons];omega,fun v=>?_⟩;rw[List.foldl_cons,i3,W4,List.mem_cons];constructor
   · rintro ((h|h)|h)
     · exact .inr (.inl h)
     · exact .inl h
     · exact .inr (.inr h)
   · rintro (h|h|h)
     · exact .inl (.inr h)
     · exact .inl (.inl h)
     · exact .inr h
def Gq (out:List Span) (x:Int):List Span:=addS out ⟨x,x⟩
def Kz (l:List Int):List Span:=l.foldl Gq []
theorem U6 (l:List Int):∀ out:List Span,(l.foldl Gq out).length≤out.length+l.length:=by
 induction l with
 | nil=>intro out;simp
 | cons x l ih =>
   intro out;have:=ih (Gq out x);have h2:=zjd out ⟨x,x⟩;simp only[List.foldl_cons,List.length_cons,Gq] at *;omega
theorem z4d (l:List Int) (hl:l.length≤1000000000) (hb:∀ x∈l,-1099511627776≤x∧x≤1099511627776):PC Tryz.prog 175 [E6 l] (Ag (Kz l)):=by
 have hP:Aw (l.map (AV.int .i64))=true:=E3 .i64 l;refine A9 Wi ?_;unfold Me;(with_reducible repeat' (first|(simp(disch:=omega)only[push_cast,↓zz,seval])|refine And.intro ?_ ?_|(first|refine Ab ?_ ?_|refine Aa ?_ ?_)<;>intro hc<;>(try simp only[push_cast] at hc)|omega|intro _))
 refine An (Ap (fun (k:Nat)=>k≤l.length) (fun k=>l.length-k)
   (fun k=>[(0,E6 l),(3,.ref 0 1 0 ((l.take k).foldl Gq []).length),(4,.int .i64 k)]) (fun k=>[⟨2,1,false,((l.take k).foldl Gq []).map Bw⟩]) (fun env _=>[A5 2 (env 3)]) 0 (by simp) ?_ ?_)
 · (with_reducible repeat' (first|(simp(disch:=omega)only[push_cast,↓zz,seval,hP,List.foldl_nil,List.length_nil])|refine And.intro ?_ ?_|(first|refine Ab ?_ ?_|refine Aa ?_ ?_)<;>intro hc<;>(try simp only[push_cast] at hc)|omega|intro _))
 intro k hk;have hlen:=U6 (l.take k) [];simp only[List.length_nil,List.length_take] at hlen;rcases Nat.lt_or_ge k l.length with hkl|hkl
 · have hxb:=hb _ (Ao hkl)
   have hst:(l.take (k+1)).foldl Gq []=addS ((l.take k).foldl Gq []) ⟨nth l k,nth l k⟩:=by rw[take_at hkl,List.foldl_append];rfl
   generalize hxe:nth l k=x at *;generalize hoe:(l.take k).foldl Gq []=out at *;have hwn:IntKind.i64.wrap (x-1)=x-1:=IntWalk.i64_in _ (by omega);rcases Dw out with rfl|⟨mm,z,hout⟩
   · rw[F0] at hst
     refine W_T ?_;(with_reducible repeat' (first|(simp(disch:=omega)only[push_cast,↓zz,seval,hP,hxe,hwn])|refine And.intro ?_ ?_|(first|refine Ab ?_ ?_|refine Aa ?_ ?_)<;>intro hc<;>(try simp only[push_cast] at hc)|omega|intro _))
     all_goals
       refine⟨k+1,?_⟩;(with_reducible repeat' (first|(simp(disch:=omega)only[push_cast,↓zz,seval,hst])|refine And.intro ?_ ?_|(first|refine Ab ?_ ?_|refine Aa ?_ ?_)<;>intro hc<;>(try simp only[push_cast] at hc)|omega|intro _))
   · have l1:out.length=mm.length+1:=by rw[hout];simp
     have l2:nth out mm.length=z:=by rw[hout];exact W8
     have l3:IntKind.i64.wrap (mm.length:Int)=mm.length:=IntWalk.i64_in _ (by omega);have l4:(out.map Bw).set mm.length (.agg [.int .i64 z.lo,.int .i64 x])=(mm++[(⟨z.lo,x⟩:Span)]).map Bw:=by rw[hout];exact Ja (f:=Bw) (z:=⟨z.lo,x⟩)
     have hadd:addS out ⟨x,x⟩=if z.hi=x-1 then mm++[⟨z.lo,x⟩] else out++[⟨x,x⟩]:=by rw[hout,Hg]
     rw[hadd] at hst;clear hadd hout;refine W_T ?_;(with_reducible repeat' (first|(simp(disch:=omega)only[push_cast,↓zz,seval,hP,hxe,hwn,l1,l2,l3,l4])|refine And.intro ?_ ?_|(first|refine Ab ?_ ?_|refine Aa ?_ ?_)<;>intro hc<;>(try simp only[push_cast] at hc)|omega|intro _))
     · rw[if_pos (by assumption)] at hst
       refine⟨k+1,?_⟩;(with_reducible repeat' (first|(simp(disch:=omega)only[push_cast,↓zz,seval,hst])|refine And.intro ?_ ?_|(first|refine Ab ?_ ?_|refine Aa ?_ ?_)<;>intro hc<;>(try simp only[push_cast] at hc)|omega|intro _))
     · rw[if_neg (by assumption)] at hst
       refine⟨k+1,?_⟩;(with_reducible repeat' (first|(simp(disch:=omega)only[push_cast,↓zz,seval,hst,l1])|refine And.intro ?_ ?_|(first|refine Ab ?_ ?_|refine Aa ?_ ?_)<;>intro hc<;>(try simp only[push_cast] at hc)|omega|intro _))
 · have et:l.take k=l:=List.take_of_length_le hkl
   have hke:k=l.length:=by omega
   rw[et] at hlen ⊢;have hsl:l.foldl Gq []=Kz l:=rfl;rw[hsl] at hlen ⊢;have hpp:=Co (Kz l);refine W_T ?_;(with_reducible repeat' (first|(simp(disch:=omega)only[push_cast,↓zz,seval,hP,hke,hpp])|refine And.intro ?_ ?_|(first|refine Ab ?_ ?_|refine Aa ?_ ?_)<;>intro hc<;>(try simp only[push_cast] at hc)|omega|intro _))
   all_goals trace_state
def prs (a b:List Int):List Int:=a.flatMap fun x=>b.map (x+·)
def bigB (v:Int):Bool:=decide (1114111<v)
def R9 (a b:List Int):Option (List Int):=if (prs a b).any bigB then none else some ((prs a b).foldl putI [])
abbrev optL (o:Option (List Int)):AV:=.tup [E6 (o.getD []),.bool o.isSome]
theorem Sa {a b:List Int} {v:Int}:v∈prs a b↔∃ x∈a,∃ y∈b,x+y=v:=by simp[prs]
theorem z7s {a b:List Int} {k:Nat} (h:k<a.length):prs (a.take (k+1)) b=prs (a.take k) b++b.map (nth a k+·):=by rw[prs,take_at h];simp[prs]
theorem zqa (a b:List Int):(prs a b).length=a.length * b.length:=by
 induction a with
 | nil=>simp[prs]
 | cons x a ih =>
   have:prs (x::a) b=b.map (x+·)++prs a b:=rfl;rw[this,List.length_append,List.length_map,ih,List.length_cons,Nat.add_mul];omega
theorem z7t {a b:List Int} {i k:Nat} (hi:i<a.length) (hk:k<b.length) (h:1114111<nth a i+nth b k):R9 a b=none:=by
 rw[R9,if_pos];rw[List.any_eq_true];exact⟨_,Sa.2 ⟨_,Ao hi,_,Ao hk,rfl⟩,by simpa [bigB] using h⟩
theorem z7u {a b:List Int} (h:∀ v∈prs a b,v≤1114111):R9 a b=some ((prs a b).foldl putI []):=by
 rw[R9,if_neg];simp only[List.any_eq_true,not_exists,not_and,bigB,decide_eq_true_eq];intro v hv;have:=h v hv;omega
def Fa (m:List Int) (k:Nat):List Int:=((List.range k).filter fun (t:Nat)=>decide ((t:Int)-1114111∈m)).map fun (t:Nat)=>(t:Int)-1114111
theorem z4e (m:List Int) (k:Nat):Fa m (k+1)=if (k:Int)-1114111∈m then Fa m k++[(k:Int)-1114111] else Fa m k:=by
 rw[Fa,List.range_succ,List.filter_append,List.map_append];split
 · rename_i h;simp[Fa,h]
 · rename_i h;simp[Fa,h]
theorem zat (m:List Int) (k:Nat):(Fa m k).length≤k:=by
 have:=List.length_filter_le (fun t:Nat=>decide ((t:Int)-1114111∈m)) (List.range k);simpa [Fa] using this
theorem zau {m:List Int} {k:Nat} {v:Int}:v∈Fa m k↔(-1114111≤v∧v<(k:Int)-1114111)∧v∈m:=by
 simp only[Fa,List.mem_map,List.mem_filter,List.mem_range,decide_eq_true_eq];constructor
 · rintro⟨t,⟨h1,h2⟩,rfl⟩
   exact⟨by omega,h2⟩
 · rintro⟨h1,h2⟩
   exact⟨(v+1114111).toNat,⟨by omega,by rw[show (((v+1114111).toNat:Nat):Int)-1114111=v by omega];exact h2⟩,by omega⟩
theorem Xx (m:List Int) (k:Nat):Bt (Fa m k):=by
 rw[Bt,Fa,List.pairwise_map];exact ((List.pairwise_lt_range).filter _).imp fun h=>by omega
theorem zav (a b:List Int) (hla:a.length≤3000000) (hlb:b.length≤3000000) (ha:∀ x∈a,-1114111≤x∧x≤1099511627776) (hb:∀ x∈b,0≤x∧x≤1099511627776) :
   PC Tryz.prog 174 [E6 a,E6 b] (optL (R9 a b)):=by
 have pa:Aw (a.map (AV.int .i64))=true:=E3 .i64 a;have pb:Aw (b.map (AV.int .i64))=true:=E3 .i64 b;have hmul:((a.length * b.length:Nat):Int)=(a.length:Int) * b.length:=by push_cast
 have hml:a.length * b.length≤3000000 * 3000000:=Nat.mul_le_mul hla hlb;have hw:IntKind.i64.wrap ((a.length:Int) * b.length)=(a.length:Int) * b.length:=IntWalk.i64_in _ (by omega);refine A9 Zp ?_;unfold Om;generalize hN:(2228223:Int)=N;(with_reducible repeat' (first|(simp(disch:=omega)only[push_cast,↓zz,seval,hw])|refine And.intro ?_ ?_|(first|refine Ab ?_ ?_|refine Aa ?_ ?_)<;>intro hc<;>(try simp only[push_cast] at hc)|omega|intro _))
 · have h4:a.length * b.length≤4000:=by
     rw[←hmul] at hc;omega
   refine An (Ap (fun (s:Nat × List Int)=>s.1≤a.length∧s.2=(prs (a.take s.1) b).foldl putI []∧∀ v∈prs (a.take s.1) b,v≤1114111) (fun s=>a.length-s.1)
     (fun s=>[(0,E6 a),(1,E6 b),(6,.ref 0 1 0 s.2.length),(7,.int .i64 s.1)]) (fun s=>[⟨1,1,false,s.2.map (AV.int .i64)⟩]) (fun env _=>[A5 1 (env 6)]) (0,[]) ⟨by simp,rfl,by simp[prs]⟩ ?_ ?_)
   · (with_reducible repeat' (first|(simp(disch:=omega)only[push_cast,↓zz,seval,pa,pb])|refine And.intro ?_ ?_|(first|refine Ab ?_ ?_|refine Aa ?_ ?_)<;>intro hc<;>(try simp only[push_cast] at hc)|omega|intro _))
   rintro⟨i,out⟩ ⟨i1,i2,i3⟩;simp only at i1 i2 i3;rcases Nat.lt_or_ge i a.length with hi|hi
   · have hx:=ha _ (Ao hi)
     have hsn:=z7s (b:=b) hi;refine W_T ?_;(with_reducible repeat' (first|(simp(disch:=omega)only[push_cast,↓zz,seval,pa,pb])|refine And.intro ?_ ?_|(first|refine Ab ?_ ?_|refine Aa ?_ ?_)<;>intro hc<;>(try simp only[push_cast] at hc)|omega|intro _))
     refine An (Ap (fun (s:Nat × List Int)=>s.1≤b.length∧s.2=(prs (a.take i) b++(b.take s.1).map (nth a i+·)).foldl putI []∧∀ v∈prs (a.take i) b++(b.take s.1).map (nth a i+·),v≤1114111) (fun s=>b.length-s.1)
       (fun s=>[(0,E6 a),(1,E6 b),(6,.ref 0 1 0 s.2.length),(7,.int .i64 i),(8,.int .i64 s.1)]) (fun s=>[⟨1,1,false,s.2.map (AV.int .i64)⟩]) (fun env _=>[A5 1 (env 6)]) (0,out) ⟨by simp,by simpa using i2,by simpa using i3⟩ ?_ ?_)
     · (with_reducible repeat' (first|(simp(disch:=omega)only[push_cast,↓zz,seval,pa,pb])|refine And.intro ?_ ?_|(first|refine Ab ?_ ?_|refine Aa ?_ ?_)<;>intro hc<;>(try simp only[push_cast] at hc)|omega|intro _))
     rintro⟨k,o⟩ ⟨k1,k2,k3⟩;simp only at k1 k2 k3;rcases Nat.lt_or_ge k b.length with hk|hk
     · have hy:=hb _ (Ao hk)
       have hno:=fun h=>z7t hi hk h;have hst:(b.take (k+1)).map (nth a i+·)=(b.take k).map (nth a i+·)++[nth a i+nth b k]:=by rw[take_at hk];simp
       obtain⟨f1,f2,_⟩:=Ke (prs (a.take i) b++(b.take k).map (nth a i+·)) [] (by simp[Bt]);rw[←k2] at f1 f2
       have hol:o.length≤10000000000:=by
         have h1:=zqa (a.take i) b;have h2:(a.take i).length * b.length≤a.length * b.length:=Nat.mul_le_mul_right _ (by simp;omega);simp only[List.length_append,List.length_map,List.length_nil,List.length_take] at f2 h1 h2;omega
       generalize hxe:nth a i=x at *;generalize hye:nth b k=y at *;have hws:IntKind.i64.wrap (x+y)=x+y:=IntWalk.i64_in _ (by omega);refine W_T ?_;(with_reducible repeat' (first|(simp(disch:=omega)only[push_cast,↓zz,seval,pa,pb,hxe,hye,hws])|refine And.intro ?_ ?_|(first|refine Ab ?_ ?_|refine Aa ?_ ?_)<;>intro hc<;>(try simp only[push_cast] at hc)|omega|intro _))
       · rw[hno (by assumption)]
         (repeat' (first|(simp(disch:=omega)only[push_cast,↓zz,seval,Bq])|omega|(with_reducible refine And.intro ?_ ?_)))
       · (refine Q5 [0] (z0y 1 o (x+y) f1 (by omega)) (by decide) (by simp) (by (simp(disch:=omega)only[push_cast,↓zz,seval])) (by (simp(disch:=omega)only[push_cast,↓zz,seval])) (by (simp(disch:=omega)only[push_cast,↓zz,seval])) (by (simp(disch:=omega)only[push_cast,↓zz,seval,List.mem_cons,List.not_mem_nil,or_false,forall_eq_or_imp,forall_eq,List.forall_mem_nil])) ?_)
         rintro y' H' ⟨v',rfl,rfl⟩;refine⟨_,rfl,by simp,?_⟩;(with_reducible repeat' (first|(simp(disch:=omega)only[push_cast,↓zz,seval])|refine And.intro ?_ ?_|(first|refine Ab ?_ ?_|refine Aa ?_ ?_)<;>intro hc<;>(try simp only[push_cast] at hc)|omega|intro _));have hm:prs (a.take i) b++((b.take k).map (x+·)++[x+y])=(prs (a.take i) b++(b.take k).map (x+·))++[x+y]:=by rw[List.append_assoc]
         refine⟨(k+1,putI o (x+y)),⟨⟨rfl,by push_cast⟩,A7 _ _⟩,⟨by simp only;omega,?_,?_⟩,by simp only;omega⟩
         · rw[hst,hm,List.foldl_append,←k2];rfl
         · rw[hst,hm]
           intro v hv;rcases List.mem_append.1 hv with hv|hv
           · exact k3 v hv
           · simp only[List.mem_singleton] at hv;omega
     · have hkb:b.take k=b:=List.take_of_length_le hk
       rw[hkb,←hsn] at k2 k3;refine W_T ?_;(with_reducible repeat' (first|(simp(disch:=omega)only[push_cast,↓zz,seval,pa,pb])|refine And.intro ?_ ?_|(first|refine Ab ?_ ?_|refine Aa ?_ ?_)<;>intro hc<;>(try simp only[push_cast] at hc)|omega|intro _))
       all_goals exact⟨(i+1,o),⟨⟨rfl,by push_cast⟩,A7 _ _⟩,⟨by simp only;omega,k2,k3⟩,by simp only;omega⟩
   · have hia:a.take i=a:=List.take_of_length_le hi
     rw[hia] at i2 i3;have hres:=z7u i3;rw[←i2] at hres;rw[hres];refine W_T ?_;(with_reducible repeat' (first|(simp(disch:=omega)only[push_cast,↓zz,seval,pa,pb])|refine And.intro ?_ ?_|(first|refine Ab ?_ ?_|refine Aa ?_ ?_)<;>intro hc<;>(try simp only[push_cast] at hc)|omega|intro _))
     all_goals (simp only[optL,Option.getD_some,Option.isSome_some];(repeat' (first|(simp(disch:=omega)only[push_cast,↓zz,seval,Bq])|omega|(with_reducible refine And.intro ?_ ?_))))
 · obtain⟨n,hn⟩:∃ n:Nat,N=n:=⟨N.toNat,by omega⟩
   subst hn
   have pB:∀ f,Aw (famB n f)=true:=fun f=>Bv.2 fun x hx=>by
     obtain⟨i,_,rfl⟩:=List.mem_map.1 hx;rfl
   have lB:∀ f,(famB n f).length=n:=fun f=>by simp[famB]
   have aB:∀ f i,i<n→(famB n f).getD i .any=.bool (f i):=fun f i hi=>Cg hi;have rB:=z7a n
   refine An (Ap (fun (i:Nat)=>i≤a.length∧∀ v∈prs (a.take i) b,v≤1114111) (fun i=>a.length-i)
     (fun i=>[(0,E6 a),(1,E6 b),(9,.ref 0 1 0 n),(10,.int .i64 i)]) (fun i=>[⟨1,1,true,famB n fun t=>decide ((t:Int)-1114111∈prs (a.take i) b)⟩]) (fun env _=>[A5 1 (env 9)]) 0 ⟨by simp,by simp[prs]⟩ ?_ ?_)
   · have e0:(famB n fun t=>decide ((t:Int)-1114111∈prs [] b))=famB n fun _=>false:=F1 fun t _=>by simp[prs]
     (with_reducible repeat' (first|(simp(disch:=omega)only[push_cast,↓zz,seval,pa,pb,rB,pB,lB,e0,Int.toNat_natCast])|refine And.intro ?_ ?_|(first|refine Ab ?_ ?_|refine Aa ?_ ?_)<;>intro hc<;>(try simp only[push_cast] at hc)|omega|intro _))
     all_goals
       show leSL _ (famB n fun _=>false) (famB n fun t=>decide ((t:Int)-1114111∈prs [] b));rw[e0];exact A7 _ _
   rintro i ⟨i1,i3⟩;rcases Nat.lt_or_ge i a.length with hi|hi
   · have hx:=ha _ (Ao hi)
     have hsn:=z7s (b:=b) hi;refine W_T ?_;(with_reducible repeat' (first|(simp(disch:=omega)only[push_cast,↓zz,seval,pa,pb,pB,lB])|refine And.intro ?_ ?_|(first|refine Ab ?_ ?_|refine Aa ?_ ?_)<;>intro hc<;>(try simp only[push_cast] at hc)|omega|intro _))
     refine An (Ap (fun (k:Nat)=>k≤b.length∧∀ v∈prs (a.take i) b++(b.take k).map (nth a i+·),v≤1114111) (fun k=>b.length-k)
       (fun k=>[(0,E6 a),(1,E6 b),(9,.ref 0 1 0 n),(10,.int .i64 i),(11,.int .i64 k)]) (fun k=>[⟨1,1,true,famB n fun t=>decide ((t:Int)-1114111∈prs (a.take i) b++(b.take k).map (nth a i+·))⟩]) (fun env _=>[A5 1 (env 9)]) 0 ⟨by simp,by simpa using i3⟩ ?_ ?_)
     · have e0:(famB n fun t=>decide ((t:Int)-1114111∈prs (a.take i) b++[]))=famB n fun t=>decide ((t:Int)-1114111∈prs (a.take i) b):=by rw[List.append_nil]
       (with_reducible repeat' (first|(simp(disch:=omega)only[push_cast,↓zz,seval,pa,pb,pB,lB,e0,List.take_zero,List.map_nil])|refine And.intro ?_ ?_|(first|refine Ab ?_ ?_|refine Aa ?_ ?_)<;>intro hc<;>(try simp only[push_cast] at hc)|omega|intro _))
     rintro k ⟨k1,k3⟩;rcases Nat.lt_or_ge k b.length with hk|hk
     · have hy:=hb _ (Ao hk)
       have hno:=fun h=>z7t hi hk h;have hst:(b.take (k+1)).map (nth a i+·)=(b.take k).map (nth a i+·)++[nth a i+nth b k]:=by rw[take_at hk];simp
       generalize hxe:nth a i=x at *;generalize hye:nth b k=y at *;have hws:IntKind.i64.wrap (x+y)=x+y:=IntWalk.i64_in _ (by omega);have hws2:IntKind.i64.wrap (x+y+1114111)=x+y+1114111:=IntWalk.i64_in _ (by omega);by_cases hbg:1114111<x+y
       · rw[hno hbg]
         refine W_T ?_;(with_reducible repeat' (first|(simp(disch:=omega)only[push_cast,↓zz,seval,pa,pb,pB,lB,hxe,hye,hws])|refine And.intro ?_ ?_|(first|refine Ab ?_ ?_|refine Aa ?_ ?_)<;>intro hc<;>(try simp only[push_cast] at hc)|omega|intro _))
         all_goals (repeat' (first|(simp(disch:=omega)only[push_cast,↓zz,seval,Bq])|omega|(with_reducible refine And.intro ?_ ?_)))
       · obtain⟨t,ht⟩:∃ t:Nat,x+y+1114111=t:=⟨(x+y+1114111).toNat,by omega⟩
         have htn:t<n:=by omega
         have hset:=Xj (f:=fun t=>decide ((t:Int)-1114111∈prs (a.take i) b++(b.take k).map (x+·))) (x:=true) htn
         have he:(famB n fun j=>if j=t then true else decide ((j:Int)-1114111∈prs (a.take i) b++(b.take k).map (x+·)))=famB n fun j=>decide ((j:Int)-1114111∈prs (a.take i) b++(b.take (k+1)).map (x+·)):=F1 fun j _=>by
           rw[hst,←List.append_assoc];by_cases h:j=t
           · subst h
             rw[if_pos rfl,eq_comm,decide_eq_true_eq,List.mem_append];exact .inr (by simp;omega)
           · rw[if_neg h,decide_eq_decide,List.mem_append (s:=prs (a.take i) b++(b.take k).map (x+·))]
             simp only[List.mem_singleton];exact⟨.inl,fun hh=>hh.elim id fun hh=>absurd hh (by omega)⟩
         rw[he] at hset;refine W_T ?_;(with_reducible repeat' (first|(simp(disch:=omega)only[push_cast,↓zz,seval,pa,pb,pB,lB,hxe,hye,hws,hws2,ht,hset])|refine And.intro ?_ ?_|(first|refine Ab ?_ ?_|refine Aa ?_ ?_)<;>intro hc<;>(try simp only[push_cast] at hc)|omega|intro _))
         all_goals
           refine⟨k+1,?_⟩;(with_reducible repeat' (first|(simp(disch:=omega)only[push_cast,↓zz,seval])|refine And.intro ?_ ?_|(first|refine Ab ?_ ?_|refine Aa ?_ ?_)<;>intro hc<;>(try simp only[push_cast] at hc)|omega|intro _))
         all_goals
           rename_i v hv;rw[hst,←List.append_assoc] at hv;rcases List.mem_append.1 hv with hv|hv
           · exact k3 v hv
           · simp only[List.mem_singleton] at hv;omega
     · have hkb:b.take k=b:=List.take_of_length_le hk
       rw[hkb,←hsn] at k3;rw[hkb,←hsn];refine W_T ?_;(with_reducible repeat' (first|(simp(disch:=omega)only[push_cast,↓zz,seval,pa,pb,pB,lB])|refine And.intro ?_ ?_|(first|refine Ab ?_ ?_|refine Aa ?_ ?_)<;>intro hc<;>(try simp only[push_cast] at hc)|omega|intro _))
       all_goals
         refine⟨i+1,?_⟩;(with_reducible repeat' (first|(simp(disch:=omega)only[push_cast,↓zz,seval])|refine And.intro ?_ ?_|(first|refine Ab ?_ ?_|refine Aa ?_ ?_)<;>intro hc<;>(try simp only[push_cast] at hc)|omega|intro _))
       all_goals exact k3
   · have hia:a.take i=a:=List.take_of_length_le hi
     rw[hia] at i3;have hres:=z7u i3
     have hmem:∀ v,v∈prs a b→-1114111≤v∧v≤1114111:=fun v hv=>by
       obtain⟨x,hx,y,hy,rfl⟩:=Sa.1 hv;have h1:=ha x hx;have h2:=hb y hy;have h3:=i3 _ hv;omega
     rw[hia];refine W_T ?_;(with_reducible repeat' (first|(simp(disch:=omega)only[push_cast,↓zz,seval,pa,pb,pB,lB])|refine And.intro ?_ ?_|(first|refine Ab ?_ ?_|refine Aa ?_ ?_)<;>intro hc<;>(try simp only[push_cast] at hc)|omega|intro _));have lG:∀ k,k≤n→(Fa (prs a b) k).length≤k:=fun k _=>zat _ k
     refine An (Ap (fun (k:Nat)=>k≤n) (fun k=>n-k)
       (fun k=>[(9,.ref 0 1 0 n),(12,.ref 1 1 0 (Fa (prs a b) k).length),(13,.int .i64 k)]) (fun k=>[⟨1,1,true,famB n fun t=>decide ((t:Int)-1114111∈prs a b)⟩,⟨1,1,false,(Fa (prs a b) k).map (AV.int .i64)⟩]) (fun env _=>[A5 1 (env 9),A5 1 (env 12)]) 0 (by simp) ?_ ?_)
     · have e0:Fa (prs a b) 0=[]:=rfl
       (with_reducible repeat' (first|(simp(disch:=omega)only[push_cast,↓zz,seval,pB,lB,e0])|refine And.intro ?_ ?_|(first|refine Ab ?_ ?_|refine Aa ?_ ?_)<;>intro hc<;>(try simp only[push_cast] at hc)|omega|intro _))
     intro k hk;have hlk:=lG k hk;rcases Nat.lt_or_ge k n with hkn|hkn
     · have aK:=aB (fun t=>decide ((t:Int)-1114111∈prs a b)) k hkn
       have hst:=z4e (prs a b) k;have hwk:IntKind.i64.wrap ((k:Int)-1114111)=(k:Int)-1114111:=IntWalk.i64_in _ (by omega);by_cases hm:(k:Int)-1114111∈prs a b
       · rw[if_pos hm] at hst
         rw[decide_eq_true hm] at aK;refine W_T ?_;(with_reducible repeat' (first|(simp(disch:=omega)only[push_cast,↓zz,seval,pB,lB,aK,hwk])|refine And.intro ?_ ?_|(first|refine Ab ?_ ?_|refine Aa ?_ ?_)<;>intro hc<;>(try simp only[push_cast] at hc)|omega|intro _))
         all_goals
           refine⟨k+1,?_⟩;(with_reducible repeat' (first|(simp(disch:=omega)only[push_cast,↓zz,seval,hst])|refine And.intro ?_ ?_|(first|refine Ab ?_ ?_|refine Aa ?_ ?_)<;>intro hc<;>(try simp only[push_cast] at hc)|omega|intro _))
       · rw[if_neg hm] at hst
         rw[decide_eq_false hm] at aK;refine W_T ?_;(with_reducible repeat' (first|(simp(disch:=omega)only[push_cast,↓zz,seval,pB,lB,aK,hwk])|refine And.intro ?_ ?_|(first|refine Ab ?_ ?_|refine Aa ?_ ?_)<;>intro hc<;>(try simp only[push_cast] at hc)|omega|intro _))
         all_goals
           refine⟨k+1,?_⟩;(with_reducible repeat' (first|(simp(disch:=omega)only[push_cast,↓zz,seval,hst])|refine And.intro ?_ ?_|(first|refine Ab ?_ ?_|refine Aa ?_ ?_)<;>intro hc<;>(try simp only[push_cast] at hc)|omega|intro _))
     · have hke:k=n:=by omega
       subst hke
       have heq:Fa (prs a b) k=(prs a b).foldl putI []:=by
         obtain⟨f1,_,f3⟩:=Ke (prs a b) [] (by simp[Bt]);refine U5 (Xx _ _) f1 fun v=>?_;rw[zau,f3];simp only[List.not_mem_nil,false_or];constructor
         · exact fun h=>h.2
         · intro h
           have:=hmem v h;exact⟨by omega,h⟩
       have hpo:Aw ((Fa (prs a b) k).map (AV.int .i64))=true:=E3 .i64 _;rw[heq] at hpo hlk ⊢;rw[hres];refine W_T ?_;(with_reducible repeat' (first|(simp(disch:=omega)only[push_cast,↓zz,seval,pB,lB,hpo])|refine And.intro ?_ ?_|(first|refine Ab ?_ ?_|refine Aa ?_ ?_)<;>intro hc<;>(try simp only[push_cast] at hc)|omega|intro _))
       all_goals (simp only[optL,Option.getD_some,Option.isSome_some];(repeat' (first|(simp(disch:=omega)only[push_cast,↓zz,seval,Bq])|omega|(with_reducible refine And.intro ?_ ?_))))
theorem Oy (s:Int):PC Tryz.prog 130 [.int .i64 s] (Ag (domL s)):=by
 refine A9 Sy ?_;unfold Ku;(with_reducible repeat' (first|(simp(disch:=omega)only[push_cast,↓zz,seval])|refine And.intro ?_ ?_|(first|refine Ab ?_ ?_|refine Aa ?_ ?_)<;>intro hc<;>(try simp only[push_cast] at hc)|omega|intro _))
 all_goals (simp only[domL, *];rfl)
theorem zaw (l:List Span) (d:Int) (hl:l.length≤10000000000):PC Tryz.prog 172 [Ag l,.int .i64 d] (Ag (Dx l d)):=by
 have hN:=J8 l hl;have hz:(d < -2147483648∨2147483648<d)→Dx l d=[]:=fun h=>by rw[Dx,if_pos h]
 refine A9 Zo ?_;unfold Ol;by_cases hb:d < -2147483648∨2147483648<d
 · rw[hz hb]
   (with_reducible repeat' (first|(simp(disch:=omega)only[push_cast,↓zz,seval])|refine And.intro ?_ ?_|(first|refine Ab ?_ ?_|refine Aa ?_ ?_)<;>intro hc<;>(try simp only[push_cast] at hc)|omega|intro _))
   all_goals first
     | (exfalso;omega)
     | ((repeat' (first|(simp(disch:=omega)only[push_cast,↓zz,seval,Bq])|omega|(with_reducible refine And.intro ?_ ?_)));done)
 have hbd:=C4 l;have hmv:Dx l d=Ar ((Ar l).map (Dz d)):=by rw[Dx,if_neg hb]
 have hnl:(Ar l).length≤10000000000:=Nat.le_trans (Dd l) hl;have hM:=J8 ((Ar l).map (Dz d)) (by simpa using hnl);rw[hmv];generalize Ar l=m at *;obtain⟨g,g0,gs,ge,gl⟩:=zf5 ([]:List Span) m (Dz d);(with_reducible repeat' (first|(simp(disch:=omega)only[push_cast,↓zz,seval])|refine And.intro ?_ ?_|(first|refine Ab ?_ ?_|refine Aa ?_ ?_)<;>intro hc<;>(try simp only[push_cast] at hc)|refine eK hN ?_|refine eQ hN ?_|refine eG hN ?_|((first|refine cK hN ?_|refine cQ hN ?_|refine cG hN ?_);(simp(disch:=omega)only[push_cast,↓zz,seval]);(fail_if_success change False))|omega|intro _));refine An (Ap (fun (k:Nat)=>k≤m.length) (fun k=>m.length-k) (fun k=>[(1,.int .i64 d),(5,Ag m),(6,.ref 0 1 0 (g k).length),(7,.int .i64 k)]) (fun k=>[⟨2,1,false,(g k).map Bw⟩]) (fun env _=>[A5 2 (env 6)]) 0 (by simp) ?_ ?_)
 · (with_reducible repeat' (first|(simp(disch:=omega)only[push_cast,↓zz,seval,g0])|refine And.intro ?_ ?_|(first|refine Ab ?_ ?_|refine Aa ?_ ?_)<;>intro hc<;>(try simp only[push_cast] at hc)|omega|intro _))
 intro k hk;have gk:=gl k;simp only[List.length_nil] at gk;have hgp:=Co (g k);have hpm:=Co m;rcases Nat.lt_or_ge k m.length with hkm|hkm
 · have hx:=hbd _ (Ao hkm)
   have e1:=gs k hkm;generalize hxe:nth m k=x at *;have w1:IntKind.i64.wrap (x.lo+d)=x.lo+d:=IntWalk.i64_in _ (by omega);have w2:IntKind.i64.wrap (x.hi+d)=x.hi+d:=IntWalk.i64_in _ (by omega);refine W_T ?_;(with_reducible repeat' (first|(simp(disch:=omega)only[push_cast,↓zz,seval,hpm,hxe,w1,w2])|refine And.intro ?_ ?_|(first|refine Ab ?_ ?_|refine Aa ?_ ?_)<;>intro hc<;>(try simp only[push_cast] at hc)|omega|intro _))
   all_goals
     refine⟨k+1,?_⟩;(with_reducible repeat' (first|(simp(disch:=omega)only[push_cast,↓zz,seval,e1,Dz])|refine And.intro ?_ ?_|(first|refine Ab ?_ ?_|refine Aa ?_ ?_)<;>intro hc<;>(try simp only[push_cast] at hc)|omega|intro _))
 · obtain rfl:k=m.length:=by omega
   have hge:g m.length=m.map (Dz d):=by rw[ge];simp
   rw[hge] at *;have et:List.take m.length (m.map (Dz d))=m.map (Dz d):=List.take_of_length_le (by simp);refine W_T ?_;(with_reducible repeat' (first|(simp(disch:=omega)only[push_cast,↓zz,seval,hpm,hgp,et])|refine And.intro ?_ ?_|(first|refine Ab ?_ ?_|refine Aa ?_ ?_)<;>intro hc<;>(try simp only[push_cast] at hc)|refine eK hM ?_|refine eQ hM ?_|refine eG hM ?_|((first|refine cK hM ?_|refine cQ hM ?_|refine cG hM ?_);(simp(disch:=omega)only[push_cast,↓zz,seval,hpm,hgp,et]);(fail_if_success change False))|omega|intro _))
def inG (g:List Span) (k:Nat):List Int:=((List.range k).filter fun (x:Nat)=>hasI g (x:Int)).map fun (x:Nat)=>(x:Int)
theorem z7v (g:List Span) (k:Nat):inG g (k+1)=if hasI g (k:Int) then inG g k++[(k:Int)] else inG g k:=by
 rw[inG,List.range_succ,List.filter_append,List.map_append];split
 · rename_i h;simp[inG,h]
 · rename_i h;simp[inG,h]
theorem zqb (g:List Span) (k:Nat):(inG g k).length≤k:=by
 have:=List.length_filter_le (fun (x:Nat)=>hasI g (x:Int)) (List.range k);simpa [inG] using this
theorem zfi {g:List Span} {k:Nat} {v:Int}:v∈inG g k↔(0≤v∧v<k)∧hasI g v=true:=by
 simp only[inG,List.mem_map,List.mem_filter,List.mem_range];constructor
 · rintro⟨t,⟨h1,h2⟩,rfl⟩
   exact⟨by omega,h2⟩
 · rintro⟨h1,h2⟩
   exact⟨v.toNat,⟨by omega,by rw[show ((v.toNat:Nat):Int)=v by omega];exact h2⟩,by omega⟩
def ownL (ps:List Part) (a:Int) (g:List Span) (k:Nat):List Int:=((inG g k).map (totV (atL ps a))).foldl putI []
def Km (ps:List Part) (a:Int) (g:List Span) (k:Nat):Bool:=decide (inG g k≠[])&&decide (atL ps a≠[])
def topI (i:Int):Nat:=if i=1 then 256 else 0
def nowR (t:Term) (i:Int):List (List Span)→Nat→List Int→Option (List Int)
 | [],_,now=>some now
 | g::gs,k,now=>if Km t.parts k g (topI i) then (R9 now (ownL t.parts k g (topI i))).bind (nowR t i gs (k+1)) else nowR t i gs (k+1) now
def En (t:Term) (i:Int) (gs:List (List Span)):List Span × Bool :=
 if i=2∧t.parts.length=1 then
   (Dx (Ar (nth gs (nth t.parts 0).at_.toNat)) t.sum,decide (0≤(nth (Dx (Ar (nth gs (nth t.parts 0).at_.toNat)) t.sum) 0).lo)&&decide ((nth (Dx (Ar (nth gs (nth t.parts 0).at_.toNat)) t.sum) ((Dx (Ar (nth gs (nth t.parts 0).at_.toNat)) t.sum).length-1)).hi≤1114111))
 else match nowR t i gs 0 [t.sum] with
   | none=>([],false)
   | some now=>(Kz now,decide (0≤nth now 0)&&decide (nth now (now.length-1)≤1114111))
structure GOk (i:Int) (gs:List (List Span)):Prop where
 len:gs.length≤4
 short:∀ g∈gs,g.length≤64
 some:∀ g∈gs,∃ v,memL g v
 dom:∀ g∈gs,∀ v,memL g v→O8 i v=true
theorem zkk {ps:List Part} {a:Int} {k:Nat} (h:k<ps.length):atL (ps.take (k+1)) a=if (nth ps k).at_=a then atL (ps.take k) a++[nth ps k] else atL (ps.take k) a:=by
 rw[take_at h,atL,atL,List.filter_append];split
 · rename_i h;simp[h]
 · rename_i h;simp[h]
theorem U7:∀ {l:List Int} {a b:Int},Bt l→(∀ x∈l,a≤x∧x≤b)→a≤b+1→(l.length:Int)≤b-a+1
 | [],a,b,_,_,h=>by simp;omega
 | x::l,a,b,hr,hm,h=>by
   obtain⟨r1,r2⟩:=List.pairwise_cons.1 hr;have hx:=hm x (by simp);have:=U7 (a:=x+1) (b:=b) r2 (fun y hy=>by have:=r1 y hy;have:=hm y (by simp[hy]);omega) (by omega)
   push_cast [List.length_cons]
   omega
structure z4f (now:List Int):Prop where
 ris:Bt now
 bd:∀ x∈now,-1114111≤x∧x≤1114111
 pos:0<now.length
theorem z4f.len {now:List Int} (h:z4f now):now.length≤2228223:=by
 have:=U7 h.ris h.bd (by omega);omega
theorem zfj {a b m:List Int} (ha:z4f a) (hb:∀ x∈b,0≤x) (hp:0<b.length) (h:R9 a b=some m):z4f m∧∀ v,v∈m↔∃ x∈a,∃ y∈b,x+y=v:=by
 rw[R9] at h;split at h
 · cases h
 · rename_i hn
   injection h with h
   subst h;obtain⟨f1,f2,f3⟩:=Ke (prs a b) [] (by simp[Bt]);have hmem:∀ v,v∈(prs a b).foldl putI []↔∃ x∈a,∃ y∈b,x+y=v:=fun v=>by rw[f3,←Sa];simp
   refine⟨⟨f1,fun v hv=>?_,?_⟩,hmem⟩
   · obtain⟨x,hx,y,hy,rfl⟩:=(hmem v).1 hv
     have h1:=ha.bd x hx;have h2:=hb y hy;have h3:¬1114111<x+y:=fun h=>hn (List.any_eq_true.2 ⟨x+y,Sa.2 ⟨x,hx,y,hy,rfl⟩,by simpa [bigB] using h⟩);omega
   · refine List.length_pos_iff.2 fun h0=>?_
     have h1:=(hmem (nth a 0+nth b 0)).2 ⟨_,Ao ha.pos,_,Ao hp,rfl⟩;rw[h0] at h1;cases h1
theorem zfk {ps:List Part} {a:Int} {g:List Span} {k:Nat} (hk:k≤256) (hl:ps.length≤4) (hb:∀ p∈ps,C6 p=true) :
   Bt (ownL ps a g k)∧(ownL ps a g k).length≤256∧(∀ v,v∈ownL ps a g k↔∃ x∈inG g k,totV (atL ps a) x=v)∧∀ v∈ownL ps a g k,0≤v∧v≤264241152:=by
 obtain⟨f1,f2,f3⟩:=Ke ((inG g k).map (totV (atL ps a))) [] (by simp[Bt]);have hlen:=zqb g k;simp only[List.length_nil,List.length_map] at f2;have hmem:∀ v,v∈ownL ps a g k↔∃ x∈inG g k,totV (atL ps a) x=v:=fun v=>by rw[ownL,f3];simp
 refine⟨f1,by rw[ownL];omega,hmem,fun v hv=>?_⟩;obtain⟨x,hx,rfl⟩:=(hmem v).1 hv;have hx2:=(zfi.1 hx).1;have hal:(atL ps a).length≤4:=Nat.le_trans (List.length_filter_le _ _) hl;have:=Jc (x:=x) (by omega) (l:=atL ps a) (fun p hp=>hb p (List.mem_filter.1 hp).1);have h2:((atL ps a).length:Int) * 66060288≤4 * 66060288:=Int.mul_le_mul_of_nonneg_right (by omega) (by omega);omega
theorem zfl {ps:List Part} {a:Int} {g:List Span} {k:Nat} (hs:Km ps a g k=true):0<(ownL ps a g k).length:=by
 simp only[Km,Bool.and_eq_true,decide_eq_true_eq] at hs;obtain⟨f1,f2,f3⟩:=Ke ((inG g k).map (totV (atL ps a))) [] (by simp[Bt]);obtain⟨x,hx⟩:=List.exists_mem_of_ne_nil _ hs.1;exact List.length_pos_of_mem ((f3 _).2 (.inr (List.mem_map_of_mem hx)))
theorem zkl {ps:List Part} {a:Int} {g:List Span} {k:Nat}:ownL ps a g (k+1)=if hasI g (k:Int) then putI (ownL ps a g k) (totV (atL ps a) k) else ownL ps a g k:=by
 rw[ownL,z7v];split
 · rw[List.map_append,List.foldl_append];rfl
 · rfl
theorem zfm {ps:List Part} {a:Int} {g:List Span} {k:Nat}:Km ps a g (k+1)=if hasI g (k:Int) then decide (atL ps a≠[]) else Km ps a g k:=by
 rw[Km,z7v];split
 · simp
 · rfl
theorem z4g (t:Term) (i o:Int) (gs:List (List Span)) (hr:Ep t i o gs.length=true) (hG:GOk i gs) :
   PC Tryz.prog 151 [Bo t,.int .i64 i,Ak gs] (.tup [Ag (En t i gs).1,.bool (En t i gs).2]):=by
 have hP:=Ad gs;obtain⟨hn,hp⟩:=Ey hr;have hnum:=hn;simp only[B4,Bool.and_eq_true,decide_eq_true_eq] at hnum;have hl4:=hnum.2.2;have hsm:=Fh hnum.1.1.2;have hrp:∀ p∈t.parts,Dk p gs.length=true:=fun p h=>List.all_eq_true.1 hp p h;have hbp:∀ p∈t.parts,C6 p=true:=fun p h=>by have:=hrp p h;simp only[Dk,Bool.and_eq_true] at this;exact this.2
 have hgl:=hG.len;refine A9 Wg ?_;unfold Mc;by_cases hone:i=2∧t.parts.length=1
 · have hpp:=hrp _ (Ao (l:=t.parts) (i:=0) (by omega))
   have hpa:=Ai hpp;have hI:En t i gs=_:=if_pos hone;generalize hpe:nth t.parts 0=p at *;obtain⟨a,ha⟩:∃ a:Nat,p.at_=a:=⟨p.at_.toNat,by omega⟩;have hag:a<gs.length:=by omega
   rw[ha,Int.toNat_natCast] at hI;have hgm:=Ao hag;have hN:=J8 (nth gs a) (by have:=hG.short _ hgm;omega);have hM:=zaw (Ar (nth gs a)) t.sum (by have:=hG.short _ hgm;have:=Dd (nth gs a);omega)
   have hpos:0<(Dx (Ar (nth gs a)) t.sum).length:=by
     obtain⟨v,hv⟩:=hG.some _ hgm;have hv2:=Pp (hG.dom _ hgm v hv);have h1:memL (Ar (nth gs a)) v:=((Aq (nth gs a)).2 v).2 ⟨hv,by omega⟩;have h2:memL (Dx (Ar (nth gs a)) t.sum) (v+t.sum):=(Xb (by omega)).2 ⟨⟨by rw[show v+t.sum-t.sum=v by omega];exact h1,by omega⟩,by omega⟩;exact List.length_pos_iff.2 (Lj h2)
   have hle:(Dx (Ar (nth gs a)) t.sum).length≤2147483649:=by
     rw[Dx,if_neg (by omega)];exact H5 _
   rw[hI];generalize Dx (Ar (nth gs a)) t.sum=l at *;obtain⟨m,hm⟩:∃ m,l.length=m+1:=⟨l.length-1,by omega⟩;have hw:IntKind.i64.wrap (m:Int)=m:=IntWalk.i64_in _ (by omega);obtain⟨h2,h1⟩:=hone;subst h2;clear hI;rw[hm,Nat.add_sub_cancel];(with_reducible repeat' (first|(simp(disch:=omega)only[push_cast,↓zz,seval,hP,hpe,ha,h1,hm,hw])|refine And.intro ?_ ?_|(first|refine Ab ?_ ?_|refine Aa ?_ ?_)<;>intro hc<;>(try simp only[push_cast] at hc)|refine eK hN ?_|refine eQ hN ?_|refine eG hN ?_|refine eK hM ?_|refine eQ hM ?_|refine eG hM ?_|((first|refine cK hN ?_|refine cQ hN ?_|refine cG hN ?_|refine cK hM ?_|refine cQ hM ?_|refine cG hM ?_);(simp(disch:=omega)only[push_cast,↓zz,seval,hP,hpe,ha,h1,hm,hw]);(fail_if_success change False))|omega|intro _))
   all_goals first
     | (rw[decide_eq_true (p:=0≤(nth l 0).lo) (by assumption),Bool.true_and];(repeat' (first|(simp(disch:=omega)only[push_cast,↓zz,seval,Bq])|omega|(with_reducible refine And.intro ?_ ?_)));done)
     | (rw[decide_eq_false (p:=0≤(nth l 0).lo) (by assumption),Bool.false_and];(repeat' (first|(simp(disch:=omega)only[push_cast,↓zz,seval,Bq])|omega|(with_reducible refine And.intro ?_ ?_)));done)
     | trace_state
 have hI:En t i gs=match nowR t i gs 0 [t.sum] with
   | none=>([],false)
   | some now=>(Kz now,decide (0≤nth now 0)&&decide (nth now (now.length-1)≤1114111)):=if_neg hone
 have hst:z4f [t.sum]:=⟨by simp[Bt],by simp;omega,by simp⟩;(with_reducible repeat' (first|(simp(disch:=omega)only[push_cast,↓zz,seval,hP])|refine And.intro ?_ ?_|(first|refine Ab ?_ ?_|refine Aa ?_ ?_)<;>intro hc<;>(try simp only[push_cast] at hc)|omega|intro _))
 all_goals first
   | (exfalso;omega)
   | skip
 all_goals
   refine An (Ap (fun (s:Nat × List Int)=>s.1≤gs.length∧z4f s.2∧nowR t i gs 0 [t.sum]=nowR t i (gs.drop s.1) s.1 s.2) (fun s=>gs.length-s.1)
     (fun s=>[(1,.int .i64 i),(2,Ak gs),(3,.ptr 0 1 0 0),(9,E6 s.2),(10,.int .i64 s.1)]) (fun s=>[⟨6,1,true,[Bo t]⟩]) (fun env _=>[A5 1 (env 3)]) (0,[t.sum]) ⟨by simp,hst,rfl⟩ ?_ ?_)
   · (with_reducible repeat' (first|(simp(disch:=omega)only[push_cast,↓zz,seval,hP])|refine And.intro ?_ ?_|(first|refine Ab ?_ ?_|refine Aa ?_ ?_)<;>intro hc<;>(try simp only[push_cast] at hc)|omega|intro _))
   rintro⟨k,now⟩ ⟨k1,kn,k2⟩;simp only at k1 kn k2;have hnl:=kn.len;have pN:Aw (now.map (AV.int .i64))=true:=E3 .i64 now;rcases Nat.lt_or_ge k gs.length with hk|hk
   · rw[drop_at hk,nowR] at k2
     have hgs:=hG.short _ (Ao hk);generalize hge:nth gs k=g at *;refine W_T ?_;(with_reducible repeat' (first|(simp(disch:=omega)only[push_cast,↓zz,seval,hP,hge])|refine And.intro ?_ ?_|(first|refine Ab ?_ ?_|refine Aa ?_ ?_)<;>intro hc<;>(try simp only[push_cast] at hc)|omega|intro _))
     refine An (Ap (fun (x:Nat)=>x≤topI i) (fun x=>topI i-x)
       (fun x=>[(1,.int .i64 i),(2,Ak gs),(3,.ptr 0 1 0 0),(9,E6 now),(10,.int .i64 k),(11,.ref 1 1 0 (ownL t.parts k g x).length),(12,.bool (Km t.parts k g x)),(13,.int .i64 x)])
       (fun x=>[⟨6,1,true,[Bo t]⟩,⟨1,1,false,(ownL t.parts k g x).map (AV.int .i64)⟩]) (fun env _=>[A5 1 (env 3),A5 1 (env 11)]) 0 (by simp) ?_ ?_)
     · have e0:ownL t.parts k g 0=[]:=rfl
       have s0:Km t.parts k g 0=false:=rfl;(with_reducible repeat' (first|(simp(disch:=omega)only[push_cast,↓zz,seval,hP,pN,e0,s0])|refine And.intro ?_ ?_|(first|refine Ab ?_ ?_|refine Aa ?_ ?_)<;>intro hc<;>(try simp only[push_cast] at hc)|omega|intro _))
     intro x hx;rcases Nat.lt_or_ge x (topI i) with hxt|hxt
     · have hi:i=1∧x<256:=by
         unfold topI at hxt;split at hxt
         · exact⟨by assumption,hxt⟩
         · omega
       have hie:(i=1)=True:=eq_true hi.1;have hH:=Rq g x (by omega);have hos:=zkl (ps:=t.parts) (a:=k) (g:=g) (k:=x);have hss:=zfm (ps:=t.parts) (a:=k) (g:=g) (k:=x);obtain⟨o1,o2,_,o4⟩:=zfk (a:=(k:Int)) (g:=g) (k:=x) (by omega) hl4 hbp;have hsa:Km t.parts k g x=true→decide (atL t.parts k≠[])=true:=fun h=>by rw[Km,Bool.and_eq_true] at h;exact h.2
       generalize ownL t.parts k g x=own at *;generalize Km t.parts k g x=sm at *;cases hh:hasI g (x:Int) with
       | false =>
         rw[hh] at hH;rw[hh,if_neg (by simp)] at hos hss;refine W_T ?_;(with_reducible repeat' (first|(simp(disch:=omega)only[push_cast,↓zz,seval,hP,hge,hie])|refine And.intro ?_ ?_|(first|refine Ab ?_ ?_|refine Aa ?_ ?_)<;>intro hc<;>(try simp only[push_cast] at hc)|refine eK hH ?_|refine eQ hH ?_|refine eG hH ?_|((first|refine cK hH ?_|refine cQ hH ?_|refine cG hH ?_);(simp(disch:=omega)only[push_cast,↓zz,seval,hP,hge,hie]);(fail_if_success change False))|omega|intro _))
         all_goals
           refine⟨x+1,?_⟩;(with_reducible repeat' (first|(simp(disch:=omega)only[push_cast,↓zz,seval,hos,hss])|refine And.intro ?_ ?_|(first|refine Ab ?_ ?_|refine Aa ?_ ?_)<;>intro hc<;>(try simp only[push_cast] at hc)|omega|intro _))
       | true =>
         rw[hh] at hH;rw[hh,if_pos rfl] at hos hss;refine W_T ?_;(with_reducible repeat' (first|(simp(disch:=omega)only[push_cast,↓zz,seval,hP,hge,hie])|refine And.intro ?_ ?_|(first|refine Ab ?_ ?_|refine Aa ?_ ?_)<;>intro hc<;>(try simp only[push_cast] at hc)|refine eK hH ?_|refine eQ hH ?_|refine eG hH ?_|((first|refine cK hH ?_|refine cQ hH ?_|refine cG hH ?_);(simp(disch:=omega)only[push_cast,↓zz,seval,hP,hge,hie]);(fail_if_success change False))|omega|intro _))
         all_goals
           refine An (Ap (fun (j:Nat)=>j≤t.parts.length) (fun j=>t.parts.length-j)
             (fun j=>[(1,.int .i64 i),(2,Ak gs),(3,.ptr 0 1 0 0),(9,E6 now),(10,.int .i64 k),(11,.ref 1 1 0 own.length),(12,.bool (sm||decide (atL (t.parts.take j) k≠[]))),(13,.int .i64 x),(14,.int .i64 (totV (atL (t.parts.take j) k) x)),(15,.int .i64 j)])
             (fun j=>[⟨6,1,true,[Bo t]⟩,⟨1,1,false,own.map (AV.int .i64)⟩]) (fun env _=>[A5 1 (env 3),A5 1 (env 11)]) 0 (by simp) ?_ ?_)
           · have e0:atL [] (k:Int)=[]:=rfl
             (with_reducible repeat' (first|(simp(disch:=omega)only[push_cast,↓zz,seval,hP,pN,e0,Xc,ne_eq,not_true_eq_false,decide_false,Bool.or_false])|refine And.intro ?_ ?_|(first|refine Ab ?_ ?_|refine Aa ?_ ?_)<;>intro hc<;>(try simp only[push_cast] at hc)|omega|intro _))
           intro j hj;have hbj:=Jc (x:=(x:Int)) (by omega) (l:=atL (t.parts.take j) k) (fun p hp=>hbp p (List.mem_of_mem_take (List.mem_filter.1 hp).1));have hlj:(atL (t.parts.take j) k).length≤4:=Nat.le_trans (List.length_filter_le _ _) (by simp;omega);have hmj:((atL (t.parts.take j) k).length:Int) * 66060288≤4 * 66060288:=Int.mul_le_mul_of_nonneg_right (by omega) (by omega);rcases Nat.lt_or_ge j t.parts.length with hjp|hjp
           · have hat:=zkk (a:=(k:Int)) hjp
             have hpb:=hbp _ (Ao hjp);have hV:=z2w (nth t.parts j) x;have hvs:=Ez hpb (x:=(x:Int)) (by omega);rw[z2v hpb (by omega)] at hV;have hpp:=G7 t.parts;generalize hpe:nth t.parts j=p at *;generalize atL (t.parts.take j) k=A at *;have hT:=z0f A p x;have hw:IntKind.i64.wrap (totV A x+valP p x)=totV A x+valP p x:=IntWalk.i64_in _ (by omega);by_cases ha:p.at_=k
             · rw[if_pos ha] at hat
               have hne:decide (¬(A++[p]=[]))=true:=by simp
               refine W_T ?_;(with_reducible repeat' (first|(simp(disch:=omega)only[push_cast,↓zz,seval,hP,hpp,hpe,ha,hw])|refine And.intro ?_ ?_|(first|refine Ab ?_ ?_|refine Aa ?_ ?_)<;>intro hc<;>(try simp only[push_cast] at hc)|refine eK hV ?_|refine eQ hV ?_|refine eG hV ?_|((first|refine cK hV ?_|refine cQ hV ?_|refine cG hV ?_);(simp(disch:=omega)only[push_cast,↓zz,seval,hP,hpp,hpe,ha,hw]);(fail_if_success change False))|omega|intro _))
               all_goals
                 refine⟨j+1,?_⟩;(with_reducible repeat' (first|(simp(disch:=omega)only[push_cast,↓zz,seval,hat,hT,hne,Bool.or_true])|refine And.intro ?_ ?_|(first|refine Ab ?_ ?_|refine Aa ?_ ?_)<;>intro hc<;>(try simp only[push_cast] at hc)|omega|intro _))
             · rw[if_neg ha] at hat
               refine W_T ?_;(with_reducible repeat' (first|(simp(disch:=omega)only[push_cast,↓zz,seval,hP,hpp,hpe])|refine And.intro ?_ ?_|(first|refine Ab ?_ ?_|refine Aa ?_ ?_)<;>intro hc<;>(try simp only[push_cast] at hc)|omega|intro _))
               all_goals
                 refine⟨j+1,?_⟩;(with_reducible repeat' (first|(simp(disch:=omega)only[push_cast,↓zz,seval,hat])|refine And.intro ?_ ?_|(first|refine Ab ?_ ?_|refine Aa ?_ ?_)<;>intro hc<;>(try simp only[push_cast] at hc)|omega|intro _))
           · have hjt:t.parts.take j=t.parts:=List.take_of_length_le hjp
             rw[hjt] at *
             have hsm2:(sm||decide (atL t.parts k≠[]))=Km t.parts k g (x+1):=by
               rw[hss];cases sm with
               | false=>rfl
               | true=>rw[hsa rfl];rfl
             refine W_T ?_;(with_reducible repeat' (first|(simp(disch:=omega)only[push_cast,↓zz,seval,hP])|refine And.intro ?_ ?_|(first|refine Ab ?_ ?_|refine Aa ?_ ?_)<;>intro hc<;>(try simp only[push_cast] at hc)|omega|intro _))
             (refine Q5 [1] (z0y 1 own (totV (atL t.parts k) x) o1 (by omega)) (by decide) (by simp) (by (simp(disch:=omega)only[push_cast,↓zz,seval])) (by (simp(disch:=omega)only[push_cast,↓zz,seval])) (by (simp(disch:=omega)only[push_cast,↓zz,seval])) (by (simp(disch:=omega)only[push_cast,↓zz,seval,List.mem_cons,List.not_mem_nil,or_false,forall_eq_or_imp,forall_eq,List.forall_mem_nil])) ?_)
             rintro y' H' ⟨v',rfl,rfl⟩;refine⟨_,rfl,by simp,?_⟩;(with_reducible repeat' (first|(simp(disch:=omega)only[push_cast,↓zz,seval])|refine And.intro ?_ ?_|(first|refine Ab ?_ ?_|refine Aa ?_ ?_)<;>intro hc<;>(try simp only[push_cast] at hc)|omega|intro _));refine⟨x+1,?_⟩;(with_reducible repeat' (first|(simp(disch:=omega)only[push_cast,↓zz,seval,hos,hss,hsm2])|refine And.intro ?_ ?_|(first|refine Ab ?_ ?_|refine Aa ?_ ?_)<;>intro hc<;>(try simp only[push_cast] at hc)|omega|intro _))
     · have hxe:x=topI i:=by omega
       subst hxe
       have ht:((i=1)=True∧((topI i:Int)<256)=False)∨((i=1)=False∧((topI i:Int)<256)=True):=by
         unfold topI;split
         · exact .inl ⟨eq_true (by assumption),by simp⟩
         · exact .inr ⟨eq_false (by assumption),by simp⟩
       obtain⟨o1,o2,_,o4⟩:=zfk (a:=(k:Int)) (g:=g) (k:=topI i) (by unfold topI;split<;>omega) hl4 hbp;have op:=zfl (ps:=t.parts) (a:=k) (g:=g) (k:=topI i);generalize ownL t.parts k g (topI i)=own at *;generalize Km t.parts k g (topI i)=sm at *;generalize topI i=n at *;have hS:=zav now own (by omega) (by omega) (fun x hx=>by have:=kn.bd x hx;omega) (fun x hx=>by have:=o4 x hx;omega);have pO:Aw (own.map (AV.int .i64))=true:=E3 .i64 own;have eO:List.take own.length (own.map (AV.int .i64))=own.map (AV.int .i64):=List.take_of_length_le (by simp);refine W_T ?_;cases sm with
       | false =>
         rw[if_neg (by simp)] at k2;rcases ht with⟨hi,hn2⟩|⟨hi,hn2⟩
         all_goals
           (with_reducible repeat' (first|(simp(disch:=omega)only[push_cast,↓zz,seval,hP,hge,hi,hn2])|refine And.intro ?_ ?_|(first|refine Ab ?_ ?_|refine Aa ?_ ?_)<;>intro hc<;>(try simp only[push_cast] at hc)|omega|intro _))
         all_goals
           refine⟨(k+1,now),⟨rfl,by push_cast⟩,⟨by simp only;omega,kn,k2⟩,by simp only;omega⟩
       | true =>
         rw[if_pos rfl] at k2;have hop:=op rfl;cases hv:R9 now own with
         | none =>
           rw[hv] at hS k2;rw[hI,k2];rcases ht with⟨hi,hn2⟩|⟨hi,hn2⟩
           all_goals
             (with_reducible repeat' (first|(simp(disch:=omega)only[push_cast,↓zz,seval,hP,hge,hi,hn2,pN,pO,eO,Option.bind_none])|refine And.intro ?_ ?_|(first|refine Ab ?_ ?_|refine Aa ?_ ?_)<;>intro hc<;>(try simp only[push_cast] at hc)|refine eK hS ?_|refine eQ hS ?_|refine eG hS ?_|((first|refine cK hS ?_|refine cQ hS ?_|refine cG hS ?_);(simp(disch:=omega)only[push_cast,↓zz,seval,hP,hge,hi,hn2,pN,pO,eO,Option.bind_none]);(fail_if_success change False))|omega|intro _))
           all_goals (repeat' (first|(simp(disch:=omega)only[push_cast,↓zz,seval,Bq])|omega|(with_reducible refine And.intro ?_ ?_)))
         | some m =>
           rw[hv,Option.bind_some] at k2;rw[hv] at hS;obtain⟨m1,_⟩:=zfj kn (fun y hy=>(o4 y hy).1) hop hv;have pM:Aw (m.map (AV.int .i64))=true:=E3 .i64 m;simp only[optL,Option.getD_some,Option.isSome_some] at hS;rcases ht with⟨hi,hn2⟩|⟨hi,hn2⟩
           all_goals
             (with_reducible repeat' (first|(simp(disch:=omega)only[push_cast,↓zz,seval,hP,hge,hi,hn2,pN,pO,eO,pM])|refine And.intro ?_ ?_|(first|refine Ab ?_ ?_|refine Aa ?_ ?_)<;>intro hc<;>(try simp only[push_cast] at hc)|refine eK hS ?_|refine eQ hS ?_|refine eG hS ?_|((first|refine cK hS ?_|refine cQ hS ?_|refine cG hS ?_);(simp(disch:=omega)only[push_cast,↓zz,seval,hP,hge,hi,hn2,pN,pO,eO,pM]);(fail_if_success change False))|omega|intro _))
           all_goals
             refine⟨(k+1,m),⟨rfl,by push_cast⟩,⟨by simp only;omega,m1,k2⟩,by simp only;omega⟩
   · rw[List.drop_of_length_le hk,nowR] at k2
     rw[hI,k2];have hS:=z4d now (by omega) (fun x hx=>by have:=kn.bd x hx;omega);obtain⟨m,hm⟩:∃ m,now.length=m+1:=⟨now.length-1,by have:=kn.pos;omega⟩;have hw:IntKind.i64.wrap (m:Int)=m:=IntWalk.i64_in _ (by omega);simp only;rw[hm,Nat.add_sub_cancel];refine W_T ?_;(with_reducible repeat' (first|(simp(disch:=omega)only[push_cast,↓zz,seval,hP,pN,hm,hw])|refine And.intro ?_ ?_|(first|refine Ab ?_ ?_|refine Aa ?_ ?_)<;>intro hc<;>(try simp only[push_cast] at hc)|refine eK hS ?_|refine eQ hS ?_|refine eG hS ?_|((first|refine cK hS ?_|refine cQ hS ?_|refine cG hS ?_);(simp(disch:=omega)only[push_cast,↓zz,seval,hP,pN,hm,hw]);(fail_if_success change False))|omega|intro _))
     all_goals first
       | (rw[decide_eq_true (p:=0≤nth now 0) (by assumption),Bool.true_and];(repeat' (first|(simp(disch:=omega)only[push_cast,↓zz,seval,Bq])|omega|(with_reducible refine And.intro ?_ ?_)));done)
       | (rw[decide_eq_false (p:=0≤nth now 0) (by assumption),Bool.false_and];(repeat' (first|(simp(disch:=omega)only[push_cast,↓zz,seval,Bq])|omega|(with_reducible refine And.intro ?_ ?_)));done)
       | trace_state
theorem z0z {l:List Int} (h:Bt l) {i j:Nat} (hij:i≤j) (hj:j<l.length):nth l i≤nth l j:=by
 rcases Nat.lt_or_ge i j with hlt|hge
 · have:=List.pairwise_iff_getElem.1 h i j (by omega) hj hlt
   simp only[nth,List.getD_eq_getElem?_getD,List.getElem?_eq_getElem hj,List.getElem?_eq_getElem (show i<l.length by omega),Option.getD_some];omega
 · rw[show i=j by omega];exact Int.le_refl _
theorem zlx {α:Type} [Inhabited α] {l:List α} {x:α} (h:x∈l):∃ i,i<l.length∧nth l i=x:=by
 obtain⟨i,hi,rfl⟩:=List.getElem_of_mem h;exact⟨i,hi,by simp[nth,hi]⟩
theorem zax {l:List Int} (h:Bt l) (hp:0<l.length) {m M:Int}:(m≤nth l 0∧nth l (l.length-1)≤M)↔∀ v∈l,m≤v∧v≤M:=by
 constructor
 · rintro⟨h1,h2⟩ v hv
   obtain⟨i,hi,rfl⟩:=zlx hv;have a1:=z0z h (Nat.zero_le i) hi;have a2:=z0z h (show i≤l.length-1 by omega) (by omega);omega
 · intro ha
   have a1:=ha _ (Ao hp);have a2:=ha _ (Ao (show l.length-1<l.length by omega));exact⟨a1.1,a2.2⟩
theorem z7w {l:List Span} (h:Plain l) {i j:Nat} (hij:i≤j) (hj:j<l.length):(nth l i).lo≤(nth l j).lo∧(nth l i).hi≤(nth l j).hi:=by
 rcases Nat.lt_or_ge i j with hlt|hge
 · have h1:=List.pairwise_iff_getElem.1 h.2 i j (by omega) hj hlt
   have h2:=h.1 _ (Ao hj);have h3:=h.1 _ (Ao (show i<l.length by omega));simp only[nth,List.getD_eq_getElem?_getD,List.getElem?_eq_getElem hj,List.getElem?_eq_getElem (show i<l.length by omega),Option.getD_some] at h2 h3 ⊢;omega
 · rw[show i=j by omega];exact⟨Int.le_refl _,Int.le_refl _⟩
theorem zfn {l:List Span} (h:Plain l) (hp:0<l.length) {m M:Int}:(m≤(nth l 0).lo∧(nth l (l.length-1)).hi≤M)↔∀ v,memL l v→m≤v∧v≤M:=by
 constructor
 · rintro⟨h1,h2⟩ v ⟨s,hs,hv⟩
   obtain⟨i,hi,rfl⟩:=zlx hs;have a1:=z7w h (Nat.zero_le i) hi;have a2:=z7w h (show i≤l.length-1 by omega) (by omega);omega
 · intro ha
   have l1:=h.1 _ (Ao hp);have l2:=h.1 _ (Ao (show l.length-1<l.length by omega));have a1:=ha (nth l 0).lo ⟨_,Ao hp,Int.le_refl _,l1⟩;have a2:=ha (nth l (l.length-1)).hi ⟨_,Ao (by omega),l2,Int.le_refl _⟩;exact⟨a1.1,a2.2⟩
theorem U8:∀ (l:List Int) (out:List Span),Bt l→Plain out→(∀ x∈l,z3d out x)→Plain (l.foldl Gq out)∧∀ v,memL (l.foldl Gq out) v↔memL out v∨v∈l
 | [],out,_,h,_=>⟨h,fun v=>by simp⟩
 | x::l,out,hr,h,ha=>by
   obtain⟨r1,r2⟩:=List.pairwise_cons.1 hr;obtain⟨p1,p2,p3⟩:=Un h (x:=⟨x,x⟩) (Int.le_refl _) (ha x (by simp));obtain⟨i1,i2⟩:=U8 l (Gq out x) r2 p1 fun y hy=>Uo p2 (by have:=r1 y hy;simp only;omega);refine⟨i1,fun v=>?_⟩;rw[List.foldl_cons,i2,List.mem_cons];have:=p3 v;simp only at this;rw[Gq,this];constructor
   · rintro ((h|h)|h)
     · exact .inl h
     · exact .inr (.inl (by omega))
     · exact .inr (.inr h)
   · rintro (h|rfl|h)
     · exact .inl (.inl h)
     · exact .inl (.inr ⟨Int.le_refl _,Int.le_refl _⟩)
     · exact .inr h
theorem z4h {l:List Int} (h:Bt l):Plain (Kz l)∧∀ v,memL (Kz l) v↔v∈l:=by
 obtain⟨h1,h2⟩:=U8 l [] h ⟨by simp,by simp⟩ (fun x _ s hs=>by cases hs);exact⟨h1,fun v=>by rw[Kz,h2];simp[memL]⟩
def begW (l:List Part) (k:Nat) (w:List Int):Int:=Nq l ((List.range k).map fun (a:Nat)=>(a:Int)) w
theorem Hp (l:List Part) (k:Nat) (w:List Int):begW l (k+1) w=begW l k w+totV (atL l k) (nth w k):=by
 simp[begW,Nq,List.range_succ,List.map_append,List.sum_append]
theorem zfo (l:List Part) (w:List Int):begW l 0 w=0:=rfl
theorem z7x {l:List Part} {n:Nat} {w:List Int} (h:∀ p∈l,0≤p.at_∧p.at_<n):begW l n w=totW w l:=by
 refine Kc w l _ ?_ fun p hp=>?_
 · exact List.pairwise_map.2 (List.nodup_range.imp fun h e=>h (by omega))
 · have:=h p hp
   exact List.mem_map.2 ⟨p.at_.toNat,by simp;omega,by omega⟩
theorem z7y {l:List Part} {w:List Int} {k:Nat} {x:Int} (hk:k<w.length):∀ {j:Nat},j≤k→begW l j (w.set k x)=begW l j w
 | 0,_=>rfl
 | j+1,h=>by
   rw[Hp,Hp,z7y hk (j:=j) (by omega),Nr hk,if_neg (by omega)]
theorem zqc {l:List Part} {x:Int} (hx:0≤x∧x≤2097151) (hb:∀ p∈l,C6 p=true) (a:Int):0≤totV (atL l a) x:=(Jc hx (l:=atL l a) fun p hp=>hb p (List.mem_filter.1 hp).1).1
theorem z1a {l:List Part} {w:List Int} {k n:Nat} (hb:∀ p∈l,C6 p=true) (hw:∀ a,a<n→0≤nth w a∧nth w a≤1114111):∀ d,k+d≤n→begW l k w≤begW l (k+d) w
 | 0,_=>Int.le_refl _
 | d+1,h=>by
   have h1:=z1a hb hw d (k:=k) (by omega);have h2:=hw (k+d) (by omega);have h3:=zqc (x:=nth w (k+d)) (by omega) hb ((k+d:Nat):Int);have h4:begW l (k+(d+1)) w=begW l (k+d) w+totV (atL l ((k+d:Nat):Int)) (nth w (k+d)):=Hp l (k+d) w;omega
theorem M0 {g:List Span} {v:Int} {i:Int} (hd:∀ v,memL g v→O8 i v=true):memL (symI g) v↔memL g v:=by
 rw[(Jb g).2 v];constructor
 · exact fun h=>h.2
 · exact fun h=>⟨Pp (hd v h),h⟩
structure TOk (t:Term) (i:Int) (gs:List (List Span)):Prop where
 parts:∀ p∈t.parts,Dk p gs.length=true
 four:t.parts.length≤4
 sm:-1114111≤t.sum∧t.sum≤1114111
 sort:i=1∨(i=2∧t.parts.length≤1∧∀ p∈t.parts,Fw p=true)
theorem TOk.bits {t:Term} {i:Int} {gs:List (List Span)} (h:TOk t i gs):∀ p∈t.parts,C6 p=true:=fun p hp=>by
 have:=h.parts p hp;simp only[Dk,Bool.and_eq_true] at this;exact this.2
theorem TOk.at {t:Term} {i:Int} {gs:List (List Span)} (h:TOk t i gs):∀ p∈t.parts,0≤p.at_∧p.at_<gs.length:=fun p hp=>Ai (h.parts p hp)
theorem zly {t:Term} {i o:Int} {gs:List (List Span)} (hr:Ep t i o gs.length=true):TOk t i gs:=by
 obtain⟨hn,hp⟩:=Ey hr;simp only[B4,Bool.and_eq_true,decide_eq_true_eq] at hn;refine⟨fun p h=>List.all_eq_true.1 hp p h,hn.2.2,Fh hn.1.1.2,?_⟩;simp only[Ep,Cx,Zx,Bool.and_eq_true,Bool.or_eq_true,decide_eq_true_eq,List.all_eq_true] at hr;obtain⟨⟨⟨⟨⟨h1,_⟩,_⟩,h2⟩,h3⟩,_⟩:=hr;rcases h1 with h1|h1
 · exact .inl h1
 · refine .inr ⟨h1,?_,fun p hp=>?_⟩
   · rcases h3 with h3|h3
     · exact absurd h1 h3
     · exact h3
   · rcases (h2 p hp).2 with h|h
     · exact absurd h1 h
     · exact h
def PS (t:Term) (gs:List (List Span)) (k:Nat) (now:List Int):Prop:=z4f now∧∀ v,v∈now↔∃ w,Win (gs.map symI) w∧t.sum+begW t.parts k w=v
theorem zfp {gs:List (List Span)} {w:List Int} (h:Win (gs.map symI) w):w.length=gs.length:=by have:=h.1;simpa using this
theorem zfq {gs:List (List Span)} {w:List Int} {k:Nat} (h:Win (gs.map symI) w) (hk:k<gs.length):memL (symI (nth gs k)) (nth w k):=by
 have:=h.2 k (by simpa using hk);have e:nth (gs.map symI) k=symI (nth gs k):=by simp[nth,hk]
 rwa [e] at this
theorem zfr {gs:List (List Span)} {w:List Int} (h:Win (gs.map symI) w) {k:Nat} (hk:k<gs.length):0≤nth w k∧nth w k≤1114111:=(((Jb _).2 _).1 (zfq h hk)).1
theorem zfs {gs:List (List Span)} {w:List Int} {k:Nat} {x:Int} (h:Win (gs.map symI) w) (hk:k<gs.length) (hx:memL (symI (nth gs k)) x):Win (gs.map symI) (w.set k x) :=
 zf2 h (by simpa using hk) (by have e:nth (gs.map symI) k=symI (nth gs k):=(by simp[nth,hk]);rwa [e])
theorem zub {i:Int} {gs:List (List Span)} (hG:GOk i gs):∃ w,Win (gs.map symI) w:=by
 refine z78.1 (List.all_eq_true.2 fun g hg=>?_);rw[List.take_length] at hg;obtain⟨v,hv⟩:=hG.some g hg;have h1:=(M0 (hG.dom g hg)).2 hv;have:=List.length_pos_iff.2 (Lj h1);rw[decide_eq_true_eq];omega
theorem Sb {t:Term} {i:Int} {gs:List (List Span)} (hT:TOk t i gs) (hG:GOk i gs) (h1:¬(i=2∧t.parts.length=1)):∀ (rest:List (List Span)) (k:Nat) (now:List Int),gs.drop k=rest→k≤gs.length→PS t gs k now →
   match nowR t i rest k now with
   | none=>∃ w,Win (gs.map symI) w∧1114111<t.sum+totW w t.parts
   | some m=>PS t gs gs.length m
 | [],k,now,hd,hk,hp=>by
   have:k=gs.length:=by
     have:=congrArg List.length hd;simp at this;omega
   subst this;exact hp
 | g::rest,k,now,hd,hk,hp=>by
   have hkl:k<gs.length:=by
     rcases Nat.lt_or_ge k gs.length with h|h
     · exact h
     · rw[List.drop_of_length_le h] at hd;cases hd
   rw[drop_at hkl] at hd;injection hd with hg hd
   subst hg;have hgm:=Ao hkl
   have hin:i=1→∀ x,x∈inG (nth gs k) 256↔memL (symI (nth gs k)) x:=fun hi x=>by
     rw[zfi,M0 (hG.dom _ hgm)];constructor
     · rintro⟨hx,hh⟩
       exact (zf4 (by omega)).1 hh
     · intro hm
       have hb:=hG.dom _ hgm x hm;rw[hi] at hb;simp only[O8,decide_eq_true_eq] at hb;exact⟨by omega,(zf4 (by omega)).2 hm⟩
   rw[nowR];cases hs:Km t.parts k (nth gs k) (topI i) with
   | false =>
     rw[if_neg (by simp)]
     have hnil:atL t.parts k=[]:=by
       rcases hT.sort with hi|⟨hi,hl,_⟩
       · rw[hi] at hs
         simp only[Km,Bool.and_eq_false_iff,decide_eq_false_iff_not,Decidable.not_not] at hs;rcases hs with hs|hs
         · exfalso
           obtain⟨v,hv⟩:=hG.some _ hgm;have:=(hin hi v).2 ((M0 (hG.dom _ hgm)).2 hv);rw[show topI 1=256 from rfl] at hs;rw[hs] at this;cases this
         · exact hs
       · have:t.parts=[]:=List.eq_nil_of_length_eq_zero (by omega)
         rw[this];rfl
     refine Sb hT hG h1 rest (k+1) now hd (by omega) ⟨hp.1,fun v=>?_⟩;rw[hp.2];have e:∀ w,begW t.parts (k+1) w=begW t.parts k w:=fun w=>by rw[Hp,hnil,Xc,Int.add_zero]
     simp only[e]
   | true =>
     rw[if_pos rfl]
     have hi:i=1:=by
       rcases hT.sort with hi|⟨hi,_,_⟩
       · exact hi
       · exfalso
         subst hi;simp[Km,topI,inG] at hs
     have e256:topI i=256:=by rw[hi];rfl
     rw[e256] at hs ⊢;have hop:=zfl hs;obtain⟨o1,o2,o3,o4⟩:=zfk (a:=(k:Int)) (g:=nth gs k) (k:=256) (Nat.le_refl _) hT.four hT.bits
     have hstep:∀ w,Win (gs.map symI) w→∀ y,y∈ownL t.parts k (nth gs k) 256→∃ w',Win (gs.map symI) w'∧begW t.parts (k+1) w'=begW t.parts k w+y:=fun w hw y hy=>by
       obtain⟨x,hx,rfl⟩:=(o3 y).1 hy;refine⟨w.set k x,zfs hw hkl ((hin hi x).1 hx),?_⟩;have hlw:=zfp hw;rw[Hp,z7y (by omega) (Nat.le_refl k),Nr (by omega),if_pos rfl]
     cases hv:R9 now (ownL t.parts k (nth gs k) 256) with
     | none =>
       simp only[Option.bind_none];rw[R9] at hv;split at hv
       · rename_i hb
         obtain⟨v,hv1,hv2⟩:=List.any_eq_true.1 hb;obtain⟨x,hx,y,hy,rfl⟩:=Sa.1 hv1;obtain⟨w,hw,rfl⟩:=(hp.2 x).1 hx;obtain⟨w',hw',e'⟩:=hstep w hw y hy;refine⟨w',hw',?_⟩;have hm:=z1a (k:=k+1) hT.bits (fun a ha=>zfr hw' ha) (gs.length-(k+1)) (by omega);rw[show k+1+(gs.length-(k+1))=gs.length by omega,z7x hT.at] at hm;simp only[bigB,decide_eq_true_eq] at hv2;omega
       · cases hv
     | some m =>
       simp only[Option.bind_some];obtain⟨m1,m2⟩:=zfj hp.1 (fun y hy=>(o4 y hy).1) hop hv;refine Sb hT hG h1 rest (k+1) m hd (by omega) ⟨m1,fun v=>?_⟩;rw[m2];constructor
       · rintro⟨x,hx,y,hy,rfl⟩
         obtain⟨w,hw,rfl⟩:=(hp.2 x).1 hx;obtain⟨w',hw',e'⟩:=hstep w hw y hy;exact⟨w',hw',by omega⟩
       · rintro⟨w,hw,rfl⟩
         exact⟨_,(hp.2 _).2 ⟨w,hw,rfl⟩,_,(o3 _).2 ⟨nth w k,(hin hi _).2 (zfq hw hkl),rfl⟩,by rw[Hp];omega⟩
theorem U9 {t:Term} {i:Int} {gs:List (List Span)} (hT:TOk t i gs) (hG:GOk i gs) :
   ((En t i gs).2=true↔∀ w,Win (gs.map symI) w→0≤t.sum+totW w t.parts∧t.sum+totW w t.parts≤1114111) ∧
   ((En t i gs).2=true→Plain (En t i gs).1∧(En t i gs).1.length≤2147483649∧∀ v,memL (En t i gs).1 v↔∃ w,Win (gs.map symI) w∧t.sum+totW w t.parts=v):=by
 have hall:∀ w,begW t.parts gs.length w=totW w t.parts:=fun w=>z7x hT.at;obtain⟨w0,hw0⟩:=zub hG;have hsm:=hT.sm;by_cases h1:i=2∧t.parts.length=1
 · obtain⟨p,hp⟩:∃ p,t.parts=[p]:=List.length_eq_one_iff.1 h1.2
   have hpm:p∈t.parts:=by rw[hp];simp
   have hpa:=hT.at p hpm
   have hpw:Fw p=true:=by
     rcases hT.sort with h|h
     · omega
     · exact h.2.2 p hpm
   obtain⟨a,ha⟩:∃ a:Nat,p.at_=a:=⟨p.at_.toNat,by omega⟩;have hag:a<gs.length:=by omega
   have hgm:=Ao hag
   have hI:En t i gs=(Dx (Ar (nth gs a)) t.sum,decide (0≤(nth (Dx (Ar (nth gs a)) t.sum) 0).lo)&&decide ((nth (Dx (Ar (nth gs a)) t.sum) ((Dx (Ar (nth gs a)) t.sum).length-1)).hi≤1114111)):=by
     rw[En,if_pos h1,show (nth t.parts 0)=p by rw[hp];rfl,ha,Int.toNat_natCast]
   have htot:∀ w,Win (gs.map symI) w→totW w t.parts=nth w a:=fun w hw=>by
     have hx:=zfr hw hag;rw[hp];simp only[totW,List.map_cons,List.map_nil,List.sum_cons,List.sum_nil,Int.add_zero,ha,Int.toNat_natCast];simp only[Fw,decide_eq_true_eq] at hpw;rw[valP,hpw.1,hpw.2.1,hpw.2.2];simp;omega
   have hmem:∀ v,memL (Dx (Ar (nth gs a)) t.sum) v↔∃ w,Win (gs.map symI) w∧t.sum+totW w t.parts=v:=fun v=>by
     rw[Xb (by omega),(Aq (nth gs a)).2];constructor
     · rintro⟨⟨⟨h,_⟩,_⟩,_⟩
       have hs:=(M0 (hG.dom _ hgm)).2 h;have hw:=zfs hw0 hag hs;refine⟨_,hw,?_⟩;rw[htot _ hw,Nr (by rw[zfp hw0];exact hag),if_pos rfl];omega
     · rintro⟨w,hw,rfl⟩
       rw[htot w hw];have hx:=zfr hw hag;have hs:=(M0 (hG.dom _ hgm)).1 (zfq hw hag);exact⟨⟨⟨by rw[show t.sum+nth w a-t.sum=nth w a by omega];exact hs,by omega⟩,by omega⟩,by omega⟩
   have hpl:Plain (Dx (Ar (nth gs a)) t.sum):=by
     rw[Dx,if_neg (by omega)];exact (Aq _).1
   have hle:(Dx (Ar (nth gs a)) t.sum).length≤2147483649:=by
     rw[Dx,if_neg (by omega)];exact H5 _
   have hpos:0<(Dx (Ar (nth gs a)) t.sum).length:=List.length_pos_iff.2 (Lj ((hmem _).2 ⟨w0,hw0,rfl⟩));rw[hI];generalize Dx (Ar (nth gs a)) t.sum=l at *;refine⟨?_,fun _=>⟨hpl,hle,hmem⟩⟩;simp only;rw[Bool.and_eq_true,decide_eq_true_eq,decide_eq_true_eq,zfn hpl hpos];constructor
   · exact fun h w hw=>h _ ((hmem _).2 ⟨w,hw,rfl⟩)
   · intro h v hv
     obtain⟨w,hw,rfl⟩:=(hmem v).1 hv;exact h w hw
 · have hst:PS t gs 0 [t.sum]:=⟨⟨by simp[Bt],by simp;omega,by simp⟩,fun v=>by
     simp only[zfo,Int.add_zero,List.mem_singleton]
     exact⟨fun h=>⟨w0,hw0,h.symm⟩,fun⟨_,_,h⟩=>h.symm⟩⟩
   have hN:=Sb hT hG h1 gs 0 [t.sum] rfl (by omega) hst
   have hI:En t i gs=match nowR t i gs 0 [t.sum] with
     | none=>([],false)
     | some now=>(Kz now,decide (0≤nth now 0)&&decide (nth now (now.length-1)≤1114111)):=if_neg h1
   cases hv:nowR t i gs 0 [t.sum] with
   | none =>
     rw[hv] at hN hI;simp only at hN hI;rw[hI];obtain⟨w,hw,hb⟩:=hN;refine⟨⟨fun h=>(by cases h),fun h=>?_⟩,fun h=>(by cases h)⟩;have:=h w hw;omega
   | some now =>
     rw[hv] at hN hI;simp only at hN hI;rw[hI];obtain⟨n1,n2⟩:=hN;obtain⟨s1,s2⟩:=z4h n1.ris;have hsl:=U6 now [];have hnl:=n1.len;simp only[List.length_nil] at hsl;refine⟨?_,fun _=>⟨s1,by simp only[Kz];omega,fun v=>?_⟩⟩
     · simp only
       rw[Bool.and_eq_true,decide_eq_true_eq,decide_eq_true_eq,zax n1.ris n1.pos];constructor
       · intro h w hw
         have:=h _ ((n2 _).2 ⟨w,hw,rfl⟩);rw[hall] at this;exact this
       · intro h v hv
         obtain⟨w,hw,rfl⟩:=(n2 v).1 hv;rw[hall];exact h w hw
     · rw[s2,n2]
       simp only[hall]
def okQ (t:Term) (q:Int):Bool:=decide (0≤t.base+q % 2 ^ t.take.toNat * 2 ^ t.up.toNat∧t.base+q % 2 ^ t.take.toNat * 2 ^ t.up.toNat≤255)
def rowQ (t:Term) (a:Int) (n:Nat):Bool:=(List.range n).all fun k=>okQ t (a+(k:Nat))
def Xy (t:Term) (s:Span):Bool:=rowQ t (s.lo / 2 ^ t.drop.toNat) (s.hi / 2 ^ t.drop.toNat-s.lo / 2 ^ t.drop.toNat+1).toNat
def zft (t:Term) (i o:Int) (gs:List (List Span)):Bool :=
 Ep t i o gs.length&&((En t i gs).2&&(if o=2 then decide (Eq (En t i gs).1 (domL o)=[]) else (En t i gs).1.all (Xy t)))
theorem Sc {t:Term} {a:Int} {n:Nat}:rowQ t a n=true↔∀ k:Nat,k<n→okQ t (a+k)=true:=by
 simp[rowQ,List.all_eq_true]
theorem zay {t:Term} {a:Int} {n k:Nat} (h:k<n) (hb:okQ t (a+k)=false):rowQ t a n=false:=by
 rw[rowQ,List.all_eq_false];exact⟨k,by simpa using h,by simp[hb]⟩
theorem zfu {t:Term} {a:Int} {n m:Nat} (hm:(m:Int)=2 ^ t.take.toNat) (h:∀ k:Nat,k<m→okQ t (a+k)=true):rowQ t a n=true:=by
 refine Sc.2 fun k _=>?_
 have hp:0<m:=by
   have:(0:Int)<2 ^ t.take.toNat:=Int.pow_pos (by decide);omega
 have h1:=h (k % m) (Nat.mod_lt _ hp)
 have e:(a+(k:Nat)) % 2 ^ t.take.toNat=(a+((k % m:Nat):Nat)) % 2 ^ t.take.toNat:=by
   rw[←hm];have:=Nat.div_add_mod k m;rw[show (a+(k:Int))=a+((k % m:Nat):Int)+(m:Int) * ((k / m:Nat):Int) by rw[←Int.natCast_mul];omega,Int.add_mul_emod_self_left]
 rw[okQ,e]
 rwa [okQ] at h1
theorem zqd {t:Term} {a:Int} {m:Nat} (hm:(m:Int)=2 ^ t.take.toNat) (hb:300<m) (hup:t.up=0∨t.take≤6) (ht:1≤t.take∧t.take≤21) (h1:okQ t a=true) (h2:okQ t (a+256)=true):False:=by
 have hu:t.up=0:=by
   rcases hup with h|h
   · exact h
   · exfalso
     have:(2:Nat) ^ t.take.toNat≤2 ^ 6:=Nat.pow_le_pow_right (by decide) (by omega);have e:((2 ^ t.take.toNat:Nat):Int)=2 ^ t.take.toNat:=by simp
     omega
 have h9:512≤m:=by
   rcases Nat.lt_or_ge t.take.toNat 9 with h|h
   · have:(2:Nat) ^ t.take.toNat≤2 ^ 8:=Nat.pow_le_pow_right (by decide) (by omega)
     have e:((2 ^ t.take.toNat:Nat):Int)=2 ^ t.take.toNat:=by simp
     omega
   · have:(2:Nat) ^ 9≤2 ^ t.take.toNat:=Nat.pow_le_pow_right (by decide) h
     have e:((2 ^ t.take.toNat:Nat):Int)=2 ^ t.take.toNat:=by simp
     omega
 simp only[okQ,decide_eq_true_eq,hu,←hm] at h1 h2;simp only[show (0:Int).toNat=0 from rfl,Int.pow_zero,Int.mul_one] at h1 h2;have b1:=Int.emod_nonneg a (show (m:Int)≠0 by omega);have b2:=Int.emod_lt_of_pos a (show (0:Int)<m by omega);have b3:=Int.emod_nonneg (a+256) (show (m:Int)≠0 by omega);have e1:=Int.emod_add_mul_ediv a m;have e2:=Int.emod_add_mul_ediv (a+256) m;generalize a % (m:Int)=r1 at *;generalize (a+256) % (m:Int)=r2 at *;generalize a / (m:Int)=q1 at *;generalize (a+256) / (m:Int)=q2 at *;have e3:r2-r1-256=(m:Int) * (q1-q2):=by rw[Int.mul_sub];omega
 rcases Int.lt_trichotomy (q1-q2) 0 with h|h|h
 · have:=Int.mul_le_mul_of_nonneg_left (show q1-q2 ≤ -1 by omega) (show (0:Int)≤m by omega)
   omega
 · rw[h] at e3;omega
 · have:=Int.mul_le_mul_of_nonneg_left (show 1≤q1-q2 by omega) (show (0:Int)≤m by omega)
   omega
theorem zkm {t:Term} {l:List Span} {k:Nat} (h:k<l.length):(l.drop k).all (Xy t)=(Xy t (nth l k)&&(l.drop (k+1)).all (Xy t)):=by rw[drop_at h,List.all_cons]
set_option maxHeartbeats 4000000 in
theorem zaz (t:Term) (i o:Int) (gs:List (List Span)) (ht:t.parts.length<1000000000000) (hG:GOk i gs) :
   PC Tryz.prog 131 [Bo t,.int .i64 i,.int .i64 o,Ak gs] (.bool (zft t i o gs)):=by
 have hP:=Ad gs;have hR:=zdf t i o gs.length ht;refine A9 Zf ?_;unfold Ob;cases hr:Ep t i o gs.length with
 | false =>
   rw[hr] at hR;rw[zft,hr,Bool.false_and];(with_reducible repeat' (first|(simp(disch:=omega)only[push_cast,↓zz,seval,hP])|refine And.intro ?_ ?_|(first|refine Ab ?_ ?_|refine Aa ?_ ?_)<;>intro hc<;>(try simp only[push_cast] at hc)|refine eK hR ?_|refine eQ hR ?_|refine eG hR ?_|((first|refine cK hR ?_|refine cQ hR ?_|refine cG hR ?_);(simp(disch:=omega)only[push_cast,↓zz,seval,hP]);(fail_if_success change False))|omega|intro _))
 | true =>
 rw[hr] at hR;have hI:=z4g t i o gs hr hG;obtain⟨s1,s2⟩:=U9 (zly hr) hG
 have hout:C6 t.outer=true:=by
   have hn:=(Ey hr).1;simp only[B4,Bool.and_eq_true] at hn;exact hn.1.2
 have hbase:B3 t.base=true:=by
   have hn:=(Ey hr).1;simp only[B4,Bool.and_eq_true] at hn;exact hn.1.1.1
 have hbm:=Fh hbase;rw[Dt] at hout;simp only at hout;rw[zft,hr,Bool.true_and];cases hok:(En t i gs).2 with
 | false =>
   rw[hok] at hI;rw[Bool.false_and];(with_reducible repeat' (first|(simp(disch:=omega)only[push_cast,↓zz,seval,hP])|refine And.intro ?_ ?_|(first|refine Ab ?_ ?_|refine Aa ?_ ?_)<;>intro hc<;>(try simp only[push_cast] at hc)|refine eK hR ?_|refine eQ hR ?_|refine eG hR ?_|refine eK hI ?_|refine eQ hI ?_|refine eG hI ?_|((first|refine cK hR ?_|refine cQ hR ?_|refine cG hR ?_|refine cK hI ?_|refine cQ hI ?_|refine cG hI ?_);(simp(disch:=omega)only[push_cast,↓zz,seval,hP]);(fail_if_success change False))|omega|intro _))
 | true =>
 obtain⟨p1,p2,p3⟩:=s2 hok
 have hrng:∀ v,memL (En t i gs).1 v→0≤v∧v≤1114111:=fun v hv=>by
   obtain⟨w,hw,rfl⟩:=(p3 v).1 hv;exact s1.1 hok w hw
 rw[hok] at hI;rw[Bool.true_and];clear s1 s2 p3;generalize (En t i gs).1=l at *;have hpl:=Co l;by_cases ho:o=2
 · subst ho
   have hD:=Oy 2;have hM:=Nn l (domL 2) 2 (by omega) (by have:=Xf 2;omega);rw[Up] at hM;rw[if_pos rfl]
   have hlen:decide (((Eq l (domL 2)).length:Int)=0)=decide (Eq l (domL 2)=[]):=by
     rw[decide_eq_decide];constructor
     · exact fun h=>List.eq_nil_of_length_eq_zero (by omega)
     · intro h;rw[h];rfl
   (with_reducible repeat' (first|(simp(disch:=omega)only[push_cast,↓zz,seval,hP,hpl])|refine And.intro ?_ ?_|(first|refine Ab ?_ ?_|refine Aa ?_ ?_)<;>intro hc<;>(try simp only[push_cast] at hc)|refine eK hR ?_|refine eQ hR ?_|refine eG hR ?_|refine eK hI ?_|refine eQ hI ?_|refine eG hI ?_|refine eK hD ?_|refine eQ hD ?_|refine eG hD ?_|refine eK hM ?_|refine eQ hM ?_|refine eG hM ?_|((first|refine cK hR ?_|refine cQ hR ?_|refine cG hR ?_|refine cK hI ?_|refine cQ hI ?_|refine cG hI ?_|refine cK hD ?_|refine cQ hD ?_|refine cG hD ?_|refine cK hM ?_|refine cQ hM ?_|refine cG hM ?_);(simp(disch:=omega)only[push_cast,↓zz,seval,hP,hpl]);(fail_if_success change False))|omega|intro _))
 · rw[if_neg ho]
   have hT1:=Hy t.drop (by omega);have hT2:=Hy t.take (by omega);have hT3:=Hy t.up (by omega);have pd:=Hd t.drop.toNat (by omega);have pt:=Hd t.take.toNat (by omega);have pu:=Hd t.up.toNat (by omega);have hoq:∀ q,okQ t q=decide (0≤t.base+q % 2 ^ t.take.toNat * 2 ^ t.up.toNat∧t.base+q % 2 ^ t.take.toNat * 2 ^ t.up.toNat≤255):=fun _=>rfl;have hsq:∀ s,Xy t s=rowQ t (s.lo / 2 ^ t.drop.toNat) (s.hi / 2 ^ t.drop.toNat-s.lo / 2 ^ t.drop.toNat+1).toNat:=fun _=>rfl;obtain⟨m,hm⟩:∃ m:Nat,(m:Int)=2 ^ t.take.toNat:=⟨2 ^ t.take.toNat,by simp⟩;have hround:=fun a n=>zfu (t:=t) (a:=a) (n:=n) hm;have hfar:=fun a hb=>zqd (t:=t) (a:=a) hm hb (by omega) (by omega);generalize (2:Int) ^ t.take.toNat=P at *;subst hm;generalize (2:Int) ^ t.drop.toNat=D at *;generalize (2:Int) ^ t.up.toNat=U at *;(with_reducible repeat' (first|(simp(disch:=omega)only[push_cast,↓zz,seval,hP,hpl])|refine And.intro ?_ ?_|(first|refine Ab ?_ ?_|refine Aa ?_ ?_)<;>intro hc<;>(try simp only[push_cast] at hc)|refine eK hR ?_|refine eQ hR ?_|refine eG hR ?_|refine eK hI ?_|refine eQ hI ?_|refine eG hI ?_|refine eK hT1 ?_|refine eQ hT1 ?_|refine eG hT1 ?_|refine eK hT2 ?_|refine eQ hT2 ?_|refine eG hT2 ?_|refine eK hT3 ?_|refine eQ hT3 ?_|refine eG hT3 ?_|((first|refine cK hR ?_|refine cQ hR ?_|refine cG hR ?_|refine cK hI ?_|refine cQ hI ?_|refine cG hI ?_|refine cK hT1 ?_|refine cQ hT1 ?_|refine cG hT1 ?_|refine cK hT2 ?_|refine cQ hT2 ?_|refine cG hT2 ?_|refine cK hT3 ?_|refine cQ hT3 ?_|refine cG hT3 ?_);(simp(disch:=omega)only[push_cast,↓zz,seval,hP,hpl]);(fail_if_success change False))|omega|intro _))
   refine An (Ap (fun (k:Nat)=>k≤l.length∧l.all (Xy t)=(l.drop k).all (Xy t)) (fun k=>l.length-k)
     (fun k=>[(4,.ptr 0 1 0 0),(9,Ag l),(11,.int .i64 D),(12,.int .i64 m),(13,.int .i64 U),(14,.int .i64 k)]) (fun k=>[⟨6,1,true,[Bo t]⟩]) (fun env _=>[A5 1 (env 4)]) 0 ⟨by simp,rfl⟩ ?_ ?_)
   · (with_reducible repeat' (first|(simp(disch:=omega)only[push_cast,↓zz,seval,hP,hpl])|refine And.intro ?_ ?_|(first|refine Ab ?_ ?_|refine Aa ?_ ?_)<;>intro hc<;>(try simp only[push_cast] at hc)|omega|intro _))
   rintro k ⟨k1,k2⟩;rcases Nat.lt_or_ge k l.length with hk|hk
   · rw[zkm hk] at k2
     have hs1:=p1.1 _ (Ao hk);have hs2:=hrng (nth l k).lo ⟨_,Ao hk,Int.le_refl _,hs1⟩;have hs3:=hrng (nth l k).hi ⟨_,Ao hk,hs1,Int.le_refl _⟩;generalize hse:nth l k=s at *;rw[hsq] at k2;have q1:s.lo.tdiv D=s.lo / D:=Int.tdiv_eq_ediv_of_nonneg hs2.1;have q2:s.hi.tdiv D=s.hi / D:=Int.tdiv_eq_ediv_of_nonneg hs3.1;have b1:0≤s.lo / D:=Int.ediv_nonneg hs2.1 (by omega);have b2:s.hi / D≤s.hi:=Int.ediv_le_self _ hs3.1;have b3:s.lo / D≤s.hi / D:=Int.ediv_le_ediv (by omega) hs1;have w1:IntKind.i64.wrap (s.lo / D)=s.lo / D:=IntWalk.i64_in _ (by omega);have w2:IntKind.i64.wrap (s.hi / D)=s.hi / D:=IntWalk.i64_in _ (by omega);generalize s.lo / D=a at *;generalize s.hi / D=b at *;refine W_T ?_;(with_reducible repeat' (first|(simp(disch:=omega)only[push_cast,↓zz,seval,hP,hpl,hse,q1,q2,w1,w2])|refine And.intro ?_ ?_|(first|refine Ab ?_ ?_|refine Aa ?_ ?_)<;>intro hc<;>(try simp only[push_cast] at hc)|omega|intro _))
     refine An (Ap (fun (n:Nat)=>n≤(b-a+1).toNat∧∀ j:Nat,j<n→okQ t (a+j)=true) (fun n=>(b-a+1).toNat-n)
       (fun n=>[(4,.ptr 0 1 0 0),(9,Ag l),(11,.int .i64 D),(12,.int .i64 m),(13,.int .i64 U),(14,.int .i64 k),(15,.int .i64 a),(16,.int .i64 b),(17,.int .i64 (a+n))]) (fun n=>[⟨6,1,true,[Bo t]⟩]) (fun env _=>[A5 1 (env 4)]) 0 ⟨by simp,fun j hj=>by omega⟩ ?_ ?_)
     · (with_reducible repeat' (first|(simp(disch:=omega)only[push_cast,↓zz,seval,hP,hpl])|refine And.intro ?_ ?_|(first|refine Ab ?_ ?_|refine Aa ?_ ?_)<;>intro hc<;>(try simp only[push_cast] at hc)|omega|intro _))
     rintro n ⟨n1,n2⟩;rcases Nat.lt_or_ge n (b-a+1).toNat with hn|hn
     · have r0:0≤(a+n) % (m:Int):=Int.emod_nonneg _ (by omega)
       have r1:(a+n) % (m:Int)<m:=Int.emod_lt_of_pos _ (by omega);have hrm:(a+n).tmod m=(a+n) % (m:Int):=Int.tmod_eq_emod_of_nonneg (by omega);have hoqn:=hoq (a+n);generalize (a+(n:Int)) % (m:Int)=r at *;have v0:0≤r * U:=Int.mul_nonneg r0 (by omega);have v1:r * U≤2097152 * 2097152:=Int.mul_le_mul (by omega) (by omega) (by omega) (by omega);have w3:IntKind.i64.wrap r=r:=IntWalk.i64_in _ (by omega);have w4:IntKind.i64.wrap (r * U)=r * U:=IntWalk.i64_in _ (by omega);obtain⟨v,hv⟩:∃ v,r * U=v:=⟨_,rfl⟩;rw[hv] at v0 v1 w4 hoqn;have w5:IntKind.i64.wrap (t.base+v)=t.base+v:=IntWalk.i64_in _ (by omega);by_cases hf:300<n∧300<m
       · have f1:=n2 0 (by omega)
         have f2:=n2 256 (by omega);exact absurd (hfar a hf.2 (by simpa using f1) (by simpa using f2)) (by simp)
       refine W_T ?_;by_cases hbr:m<n
       · have hrow:=hround a (b-a+1).toNat fun j hj=>n2 j (by omega)
         rw[hrow,Bool.true_and] at k2;(with_reducible repeat' (first|(simp(disch:=omega)only[push_cast,↓zz,seval,hP,hpl])|refine And.intro ?_ ?_|(first|refine Ab ?_ ?_|refine Aa ?_ ?_)<;>intro hc<;>(try simp only[push_cast] at hc)|omega|intro _))
         all_goals first
           | exact⟨k+1,by push_cast,⟨by omega,k2⟩,by omega⟩
           | trace_state
       · cases hb:okQ t (a+n) with
         | false =>
           rw[hb] at hoqn;have hno:=of_decide_eq_false hoqn.symm;rw[zay hn hb,Bool.false_and] at k2;(with_reducible repeat' (first|(simp(disch:=omega)only[push_cast,↓zz,seval,hP,hpl,hrm,hv,w3,w4,w5,k2])|refine And.intro ?_ ?_|(first|refine Ab ?_ ?_|refine Aa ?_ ?_)<;>intro hc<;>(try simp only[push_cast] at hc)|omega|intro _))
         | true =>
           rw[hb] at hoqn;have hyes:=of_decide_eq_true hoqn.symm
           have nx:∀ j:Nat,j<n+1→okQ t (a+j)=true:=fun j hj=>by
             rcases Nat.lt_or_ge j n with h|h
             · exact n2 j h
             · rw[show j=n by omega];exact hb
           (with_reducible repeat' (first|(simp(disch:=omega)only[push_cast,↓zz,seval,hP,hpl,hrm,hv,w3,w4,w5])|refine And.intro ?_ ?_|(first|refine Ab ?_ ?_|refine Aa ?_ ?_)<;>intro hc<;>(try simp only[push_cast] at hc)|omega|intro _))
           all_goals first
             | exact⟨n+1,by push_cast;omega,⟨by omega,nx⟩,by omega⟩
             | trace_state
     · have hrow:rowQ t a (b-a+1).toNat=true:=Sc.2 fun j hj=>n2 j (by omega)
       rw[hrow,Bool.true_and] at k2;refine W_T ?_;(with_reducible repeat' (first|(simp(disch:=omega)only[push_cast,↓zz,seval,hP,hpl])|refine And.intro ?_ ?_|(first|refine Ab ?_ ?_|refine Aa ?_ ?_)<;>intro hc<;>(try simp only[push_cast] at hc)|omega|intro _))
       all_goals first
         | exact⟨k+1,by push_cast,⟨by omega,k2⟩,by omega⟩
         | trace_state
   · rw[List.drop_of_length_le hk,List.all_nil] at k2
     refine W_T ?_;(with_reducible repeat' (first|(simp(disch:=omega)only[push_cast,↓zz,seval,hP,hpl,k2])|refine And.intro ?_ ?_|(first|refine Ab ?_ ?_|refine Aa ?_ ?_)<;>intro hc<;>(try simp only[push_cast] at hc)|omega|intro _))
     all_goals trace_state
theorem Va {t:Term} {s:Span} (hs:s.lo≤s.hi):Xy t s=true↔∀ v,s.lo≤v→v≤s.hi→okQ t (v / 2 ^ t.drop.toNat)=true:=by
 have hD:(0:Int)<2 ^ t.drop.toNat:=Int.pow_pos (by decide);rw[Xy,Sc];generalize (2:Int) ^ t.drop.toNat=D at *;have hq:=fun q=>zey (lo:=s.lo) (hi:=s.hi) (q:=q) hD hs;have hle:s.lo / D≤s.hi / D:=Int.ediv_le_ediv hD hs;constructor
 · intro h v h1 h2
   have b1:s.lo / D≤v / D:=Int.ediv_le_ediv hD h1;have b2:v / D≤s.hi / D:=Int.ediv_le_ediv hD h2;have:=h (v / D-s.lo / D).toNat (by omega)
   rwa [show s.lo / D+(((v / D-s.lo / D).toNat:Nat):Int)=v / D by omega] at this
 · intro h k hk
   obtain⟨x,x1,x2,x3⟩:=(hq (s.lo / D+k)).2 ⟨by omega,by omega⟩;rw[←x3];exact h x x1 x2
theorem z7z {t:Term} {i o:Int} {n:Int} {w:List Int} {x:Int} (hr:Ep t i o n=true) (hx:0≤x∧x≤1114111) (hv:I7 t w=some (t.base+valP t.outer x)) :
   fitW t o w=true↔(if o=2 then O8 o x else okQ t (x / 2 ^ t.drop.toNat))=true:=by
 rw[fitW,hv];simp only;simp only[Ep,Zx,Ov,Bool.and_eq_true,Bool.or_eq_true,decide_eq_true_eq] at hr;obtain⟨⟨⟨⟨⟨_,h1⟩,_⟩,_⟩,_⟩,h2⟩:=hr;by_cases ho:o=2
 · rw[if_pos ho]
   obtain⟨b1,b2,b3,b4⟩:t.base=0∧t.drop=0∧t.take=21∧t.up=0:=by
     rcases h2 with h2|h2
     · exact absurd ho h2
     · exact h2
   have e:t.base+valP t.outer x=x:=by
     simp only[valP,Term.outer,b1,b2,b3,b4];simp;omega
   rw[e,Bool.and_eq_true,decide_eq_true_eq];exact⟨fun h=>h.2,fun h=>⟨hx,h⟩⟩
 · rw[if_neg ho]
   have ho1:o=1:=by omega
   have e:okQ t (x / 2 ^ t.drop.toNat)=decide (0≤t.base+valP t.outer x∧t.base+valP t.outer x≤255):=rfl;rw[e,ho1,Bool.and_eq_true,decide_eq_true_eq,decide_eq_true_eq,O8,decide_eq_true_eq];omega
theorem zfv {t:Term} {i o:Int} {gs:List (List Span)} (hG:GOk i gs):zft t i o gs=O7 t i o gs:=by
 rw[Bool.eq_iff_iff,z0l hG.len,zft,Bool.and_eq_true,Bool.and_eq_true];refine and_congr_right fun hr=>?_;obtain⟨hn,hp⟩:=Ey hr;have hS:=J9 hp hG.len;have hT:=zly hr;obtain⟨s1,s2⟩:=U9 hT hG;have hval:=fun w hw=>Hj (w:=w) hS hn hw;constructor
 · rintro⟨hok,hres⟩ w hw
   have hrng:=s1.1 hok w hw;obtain⟨p1,p2,p3⟩:=s2 hok;have hm:=(p3 _).2 ⟨w,hw,rfl⟩;rw[z7z hr hrng (by rw[hval w hw,if_pos hrng])];generalize (En t i gs).1=l at *
   have hbl:∀ v,memL l v→-1073741824≤v∧v≤1073741824:=fun v hv=>by
     obtain⟨w,hw,rfl⟩:=(p3 v).1 hv;have:=s1.1 hok w hw;omega
   by_cases ho:o=2
   · rw[if_pos ho] at hres ⊢
     rw[decide_eq_true_eq] at hres;exact Lk.1 ((Hk hbl p1.1).1 hres _ hm)
   · rw[if_neg ho] at hres ⊢
     obtain⟨s,hs,hs2⟩:=hm;exact (Va (p1.1 s hs)).1 (List.all_eq_true.1 hres s hs) _ hs2.1 hs2.2
 · intro h
   have hok:(En t i gs).2=true:=s1.2 fun w hw=>by
     have:=h w hw;rw[fitW,hval w hw] at this;split at this
     · rename_i v hv
       split at hv
       · assumption
       · cases hv
     · cases this
   refine⟨hok,?_⟩;obtain⟨p1,p2,p3⟩:=s2 hok
   have hfw:∀ v,memL (En t i gs).1 v→(if o=2 then O8 o v else okQ t (v / 2 ^ t.drop.toNat))=true:=fun v hv=>by
     obtain⟨w,hw,rfl⟩:=(p3 v).1 hv;have hrng:=s1.1 hok w hw;exact (z7z hr hrng (by rw[hval w hw,if_pos hrng])).1 (h w hw)
   have hbl:∀ v,memL (En t i gs).1 v→-1073741824≤v∧v≤1073741824:=fun v hv=>by
     obtain⟨w,hw,rfl⟩:=(p3 v).1 hv;have:=s1.1 hok w hw;omega
   by_cases ho:o=2
   · rw[if_pos ho,decide_eq_true_eq,Hk hbl p1.1]
     intro v hv;have:=hfw v hv;rw[if_pos ho] at this;exact Lk.2 this
   · rw[if_neg ho,List.all_eq_true]
     intro s hs;rw[Va (p1.1 s hs)];intro v h1 h2;have:=hfw v ⟨s,hs,h1,h2⟩
     rwa [if_neg ho] at this
theorem Vb:∀ {l:List Span} {last:Int},Ky last l=true↔(∀ s∈l,s.lo≤s.hi∧-1073741824≤s.lo∧s.hi≤1073741824∧last+1<s.lo)∧l.Pairwise fun s t=>s.hi+1<t.lo
 | [],last=>by simp[Ky]
 | s::l,last=>by
   rw[Ky,Bool.and_eq_true,decide_eq_true_eq,Vb (l:=l),List.pairwise_cons];constructor
   · rintro⟨h1,h2,h3⟩
     refine⟨fun t ht=>?_,fun t ht=>(h2 t ht).2.2.2,h3⟩;rcases List.mem_cons.1 ht with rfl|ht
     · exact h1
     · have:=h2 t ht
       omega
   · rintro⟨h1,h2,h3⟩
     exact⟨h1 s (by simp),fun t ht=>⟨(h1 t (by simp[ht])).1,(h1 t (by simp[ht])).2.1,(h1 t (by simp[ht])).2.2.1,h2 t ht⟩,h3⟩
theorem zb0 {g:List Span}:Rw g=true↔g=Ar g:=by
 rw[Rw,Vb];constructor
 · rintro⟨h1,h2⟩
   exact (Ms ⟨fun s hs=>(h1 s hs).1,h2⟩ fun s hs=>⟨(h1 s hs).2.1,(h1 s hs).2.2.1⟩).symm
 · intro h
   have hp:=(Aq g).1;have hb:=C4 g;rw[←h] at hp hb;exact⟨fun s hs=>by have:=hb s hs;omega,hp.2⟩
def z80 (i:Int) (g:List Span):Bool:=decide (g.length≠0)&&(decide (g.length≤64)&&(decide (g=Ar g)&&decide (Eq g (domL i)=[])))
theorem Vd (i:Int) (g:List Span):z80 i g=Jd i g:=by
 have hc:decide (g=Ar g)=Rw g:=by rw[Bool.eq_iff_iff,decide_eq_true_eq,zb0]
 have h1:decide (g.length≠0)=!decide ((g.length:Int)=0):=by
   rw[Bool.eq_iff_iff,Bool.not_eq_true',decide_eq_true_eq,decide_eq_false_iff_not];omega
 have h2:decide (g.length≤64)=decide ((g.length:Int)≤64):=by rw[decide_eq_decide];omega
 rw[z80,Jd,hc,h1,h2]
theorem Sd {i:Int} {gs:List (List Span)} (h:Cy i gs=true):GOk i gs:=by
 obtain⟨h1,h2⟩:=Fq h;simp only[Cy,Bool.and_eq_true,List.all_eq_true] at h
 have hg:∀ g∈gs,g.length≠0∧g=Ar g∧Eq g (domL i)=[]:=fun g hm=>by
   have:=h.2 g hm;rw[←Vd] at this;simp only[z80,Bool.and_eq_true,decide_eq_true_eq] at this;exact⟨this.1,this.2.2.1,this.2.2.2⟩
 refine⟨h1,h2,fun g hm=>?_,fun g hm v hv=>?_⟩
 · obtain⟨g1,g2,g3⟩:=hg g hm
   obtain⟨s,hs⟩:=List.exists_mem_of_length_pos (show 0<g.length by omega);have hf:=(Aq g).1.1;rw[←g2] at hf;exact⟨s.lo,s,hs,Int.le_refl _,hf s hs⟩
 · obtain⟨g1,g2,g3⟩:=hg g hm
   have hb:=C4 g;have hf:=(Aq g).1.1;rw[←g2] at hb hf;have hbl:∀ v,memL g v→-1073741824≤v∧v≤1073741824:=fun v ⟨s,hs,hv⟩=>by have:=hb s hs;omega
   exact Lk.1 ((Hk hbl hf).1 g3 v hv)
end Go.Proofs.YtbcjoeadpjfcfaaGreat
