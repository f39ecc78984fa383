/-
  A call that knows some of the groups only, among others: these stay as they are.
  What a call leaves, without what is of no use any more.
  Functions that hand on rows: their code, carried out between the rounds.
  Contracts of layers 2, 3: sorts; parts.
  Contracts of layer 4: terms.
  Contracts of layer 4: values; terms put together and bound.
  Contracts of layer 4: terms put together and bound.
  Contracts of layer 4: the document's terms put together, and bound; terms alike.
  Contracts of layer 4: terms bound; terms alike.
  Plain laws of layer 4: what terms put together, and bound, tell.
  What comes in, as the program's data.
  Contracts of layer 4's statements: the document's examples; rightness, values.
  Contracts of layer 4's statements: terms put together, and bound.
  A loop of few rounds, walked round by round.
  Families of groups: what is known, weakened step by step; loops over it.
  Epsilon rules: states whose ways come to an end, taken one by one.
  Ways of epsilon rules that are longer than there are states go round.
-/
import Derived.LoopNIn
import Derived.Test.YticodgjinajkpaaDM4
import Derived.Test.YticodgjinajkpaaDM3
import Derived.Test.YticodgjinajkpaaDM2
set_option linter.unusedSimpArgs false
set_option linter.unusedVariables false
namespace Go.Proofs.Yticodgjinajkpaa.Abs
mutual
def ren (σ:Nat→Nat):AV→AV
 | .any=>.any
 | .bool b=>.bool b
 | .int k n=>.int k n
 | .str s=>.str s
 | .nilS=>.nilS
 | .nul=>.nul
 | .emp=>.emp
 | .lst w xs=>.lst w xs
 | .full w xs=>.full w xs
 | .map g v=>.map (σ g) v
 | .ref g v o n=>.ref (σ g) v o n
 | .cptr x=>.cptr x
 | .ptr g v i o=>.ptr (σ g) v i o
 | .nilP=>.nilP
 | .agg cs=>.agg (renL σ cs)
 | .tup cs=>.tup (renL σ cs)
 | .fn f cs=>.fn f (renL σ cs)
 | .nilF=>.nilF
 | .yld l=>.yld l
def renL (σ:Nat→Nat):List AV→List AV
 | []=>[]
 | x :: xs=>ren σ x :: renL σ xs
end
mutual
def ltV (m:Nat):AV→Prop
 | .map g _|.ref g _ _ _|.ptr g _ _ _=>g < m
 | .agg cs|.tup cs|.fn _ cs=>ltL m cs
 | .any|.bool _|.int ..|.str _|.nilS|.nul|.emp|.lst ..|.full ..|.cptr _|.nilP|.nilF|.yld _=>True
def ltL (m:Nat):List AV→Prop
 | []=>True
 | x :: xs=>ltV m x∧ltL m xs
end
def renG (σ:Nat→Nat) (G:Grp):Grp:=⟨G.w,G.ver,G.exact,renL σ G.xs⟩
mutual
theorem y28 {A B:MS} {σ:Nat→Nat} (hw:B.w=A.w) (hi:∀ b,A.im b→B.im b) (hg:∀ g,g < A.n→σ g < B.n∧B.cur (σ g)=A.cur g∧B.place (σ g)=A.place g∧B.cap (σ g)=A.cap g∧B.wid (σ g)=A.wid g):∀ (x:AV) {v:Value},VRel A x v→VRel B (ren σ x) v
 | .any,_,_=>trivial
 | .bool _,_,h=>h
 | .int _ _,_,h=>h
 | .str _,_,h=>h
 | .nilS,_,h=>h
 | .nul,_,h=>h
 | .emp,_,h=>h
 | .nilP,_,h=>h
 | .nilF,_,h=>h
 | .yld _,_,h=>h
 | .lst wd xs,v,h=>by
   obtain ⟨hp,h0,a,cap,vs,hv,hc,hl,hr⟩:=h
   refine ⟨hp,h0,a,cap,vs,hv,hc,z04.of_pure hw hi hp hl,fun hne=>?_⟩
   obtain ⟨b,o,ha,hb,hrow⟩:=hr hne
   exact ⟨b,o,ha,hi b hb,by rw [hw];exact hrow⟩
 | .full wd xs,v,h=>by
   obtain ⟨hp,h0,a,vs,hv,hc,hl,hr⟩:=h
   refine ⟨hp,h0,a,vs,hv,hc,z04.of_pure hw hi hp hl,fun hne=>?_⟩
   obtain ⟨b,o,ha,hb,hrow⟩:=hr hne
   exact ⟨b,o,ha,hi b hb,by rw [hw];exact hrow⟩
 | .cptr x,v,h=>by
   obtain ⟨hp,b,o,u,hv,hb,hx,hl⟩:=h
   exact ⟨hp,b,o,u,hv,hi b hb,VRel.of_pure hw hi hp hx,by rw [hw];exact hl⟩
 | .map g vn,v,h=>by
   obtain ⟨hs,hgn,hc,hv⟩:=h
   obtain ⟨k1,k2,k3,k4,k5⟩:=hg g hgn
   exact ⟨hs,k1,by rw [k2];exact hc,fun h'=>by rw [k3];exact hv (by rw [← k2];exact h')⟩
 | .ref g vn off len,v,h=>by
   obtain ⟨hs,hgn,hc,hv⟩:=h
   obtain ⟨k1,k2,k3,k4,k5⟩:=hg g hgn
   exact ⟨hs,k1,by rw [k2];exact hc,fun h'=>by rw [k3,k4,k5];exact hv (by rw [← k2];exact h')⟩
 | .ptr g vn i o,v,h=>by
   obtain ⟨hs,hgn,hc,hv⟩:=h
   obtain ⟨k1,k2,k3,k4,k5⟩:=hg g hgn
   exact ⟨hs,k1,by rw [k2];exact hc,fun h'=>by rw [k3,k5];exact hv (by rw [← k2];exact h')⟩
 | .agg cs,v,h=>by obtain ⟨vs,hv,h⟩:=h;exact ⟨vs,hv,zap hw hi hg cs h⟩
 | .tup cs,v,h=>by obtain ⟨vs,hv,h⟩:=h;exact ⟨vs,hv,zap hw hi hg cs h⟩
 | .fn f cs,v,h=>by obtain ⟨vs,hv,h⟩:=h;exact ⟨vs,hv,zap hw hi hg cs h⟩
theorem zap {A B:MS} {σ:Nat→Nat} (hw:B.w=A.w) (hi:∀ b,A.im b→B.im b) (hg:∀ g,g < A.n→σ g < B.n∧B.cur (σ g)=A.cur g∧B.place (σ g)=A.place g∧B.cap (σ g)=A.cap g∧B.wid (σ g)=A.wid g):∀ (xs:List AV) {vs:List Value},z04 A xs vs→z04 B (renL σ xs) vs
 | [],_,h=>h
 | x :: xs,_,h=>by
   obtain ⟨v,r,hv,h1,h2⟩:=h
   exact ⟨v,r,hv,y28 hw hi hg x h1,zap hw hi hg xs h2⟩
end
mutual
theorem zp9 {A B:MS} {σ:Nat→Nat} {m:Nat} (hw:A.w=B.w) (hi:∀ b,B.im b→A.im b) (hg:∀ g,g < m→g < A.n∧B.cur (σ g)=A.cur g∧B.place (σ g)=A.place g∧B.cap (σ g)=A.cap g∧B.wid (σ g)=A.wid g):∀ (x:AV) {v:Value},ltV m x→VRel B (ren σ x) v→VRel A x v
 | .any,_,_,_=>trivial
 | .bool _,_,_,h=>h
 | .int _ _,_,_,h=>h
 | .str _,_,_,h=>h
 | .nilS,_,_,h=>h
 | .nul,_,_,h=>h
 | .emp,_,_,h=>h
 | .nilP,_,_,h=>h
 | .nilF,_,_,h=>h
 | .yld _,_,_,h=>h
 | .lst wd xs,v,_,h=>by
   obtain ⟨hp,h0,a,cap,vs,hv,hc,hl,hr⟩:=h
   refine ⟨hp,h0,a,cap,vs,hv,hc,z04.of_pure hw hi hp hl,fun hne=>?_⟩
   obtain ⟨b,o,ha,hb,hrow⟩:=hr hne
   exact ⟨b,o,ha,hi b hb,by rw [hw];exact hrow⟩
 | .full wd xs,v,_,h=>by
   obtain ⟨hp,h0,a,vs,hv,hc,hl,hr⟩:=h
   refine ⟨hp,h0,a,vs,hv,hc,z04.of_pure hw hi hp hl,fun hne=>?_⟩
   obtain ⟨b,o,ha,hb,hrow⟩:=hr hne
   exact ⟨b,o,ha,hi b hb,by rw [hw];exact hrow⟩
 | .cptr x,v,_,h=>by
   obtain ⟨hp,b,o,u,hv,hb,hx,hl⟩:=h
   exact ⟨hp,b,o,u,hv,hi b hb,VRel.of_pure hw hi hp hx,by rw [hw];exact hl⟩
 | .map g vn,v,hm,h=>by
   obtain ⟨hs,hgn,hc,hv⟩:=h
   obtain ⟨k1,k2,k3,k4,k5⟩:=hg g hm
   exact ⟨hs,k1,by rw [← k2];exact hc,fun h'=>by rw [← k3];exact hv (by rw [k2];exact h')⟩
 | .ref g vn off len,v,hm,h=>by
   obtain ⟨hs,hgn,hc,hv⟩:=h
   obtain ⟨k1,k2,k3,k4,k5⟩:=hg g hm
   exact ⟨hs,k1,by rw [← k2];exact hc,fun h'=>by rw [← k3,← k4,← k5];exact hv (by rw [k2];exact h')⟩
 | .ptr g vn i o,v,hm,h=>by
   obtain ⟨hs,hgn,hc,hv⟩:=h
   obtain ⟨k1,k2,k3,k4,k5⟩:=hg g hm
   exact ⟨hs,k1,by rw [← k2];exact hc,fun h'=>by rw [← k3,← k5];exact hv (by rw [k2];exact h')⟩
 | .agg cs,v,hm,h=>by obtain ⟨vs,hv,h⟩:=h;exact ⟨vs,hv,z4z hw hi hg cs hm h⟩
 | .tup cs,v,hm,h=>by obtain ⟨vs,hv,h⟩:=h;exact ⟨vs,hv,z4z hw hi hg cs hm h⟩
 | .fn f cs,v,hm,h=>by obtain ⟨vs,hv,h⟩:=h;exact ⟨vs,hv,z4z hw hi hg cs hm h⟩
theorem z4z {A B:MS} {σ:Nat→Nat} {m:Nat} (hw:A.w=B.w) (hi:∀ b,B.im b→A.im b) (hg:∀ g,g < m→g < A.n∧B.cur (σ g)=A.cur g∧B.place (σ g)=A.place g∧B.cap (σ g)=A.cap g∧B.wid (σ g)=A.wid g):∀ (xs:List AV) {vs:List Value},ltL m xs→z04 B (renL σ xs) vs→z04 A xs vs
 | [],_,_,h=>h
 | x :: xs,_,hm,h=>by
   obtain ⟨v,r,hv,h1,h2⟩:=h
   exact ⟨v,r,hv,zp9 hw hi hg x hm.1 h1,z4z hw hi hg xs hm.2 h2⟩
end
theorem za1 {σ:Nat→Nat}:∀ xs:List AV,(renL σ xs).length=xs.length
 | []=>rfl
 | x :: xs=>by simp [renL,za1 xs]
def sg (ks:List Nat) (N i:Nat):Nat:=if i < ks.length then ks.getD i 0 else N + (i - ks.length)
def iv (ks:List Nat) (N g:Nat):Nat:=if g < N then ks.idxOf g else ks.length + (g - N)
def setG:List Nat→List Grp→List Grp→List Grp
 | [],r,l=>l ++ r
 | _ :: _,[],l=>l
 | k :: ks,G :: r,l=>setG ks r (l.set k G)
theorem zpa:∀ {ks:List Nat} {r l:List Grp},ks.length ≤ r.length→(setG ks r l).length=l.length + (r.length - ks.length)
 | [],r,l,_=>by simp [setG]
 | k :: ks,[],l,h=>by simp at h
 | k :: ks,G :: r,l,h=>by
   rw [setG,zpa (by simpa using h)]
   simp
theorem zaq:∀ {ks:List Nat} {r l:List Grp} {g:Nat},g < l.length→g ∉ ks→(setG ks r l).getD g default=l.getD g default
 | [],r,l,g,hg,_=>by simp [setG,List.getD,List.getElem?_append_left hg]
 | k :: ks,[],l,g,_,_=>rfl
 | k :: ks,G :: r,l,g,hg,hk=>by
   simp only [List.mem_cons,not_or] at hk
   rw [setG,zaq (by simpa using hg) hk.2]
   simp [List.getD,List.getElem?_set_ne (fun h=>hk.1 h.symm)]
theorem zvs:∀ {ks:List Nat} {r l:List Grp} {i:Nat},ks.Nodup→(∀ k ∈ ks,k < l.length)→i < r.length→(setG ks r l).getD (sg ks l.length i) default=r.getD i default
 | [],r,l,i,_,_,hi=>by
   simp only [setG,sg,List.length_nil,Nat.not_lt_zero,if_false,Nat.sub_zero,List.getD]
   rw [List.getElem?_append_right (by omega),Nat.add_sub_cancel_left]
 | k :: ks,[],l,i,_,_,hi=>by simp at hi
 | k :: ks,G :: r,l,0,hn,hk,_=>by
   rw [List.nodup_cons] at hn
   have h1:k < l.length:=hk k (by simp)
   have e:sg (k :: ks) l.length 0=k:=by simp [sg]
   rw [e,setG,zaq (by simpa using h1) hn.1]
   simp [List.getD,List.getElem?_set_self h1]
 | k :: ks,G :: r,l,i + 1,hn,hk,hi=>by
   rw [List.nodup_cons] at hn
   have e:sg (k :: ks) l.length (i + 1)=sg ks (l.set k G).length i:=by simp [sg]
   rw [e,setG,zvs hn.2 (fun k' h'=>by simpa using hk k' (by simp [h'])) (by simpa using hi)]
   simp
theorem sg_lt {ks:List Nat} {N i n:Nat} (hk:∀ k ∈ ks,k < N) (hi:i < n) (hm:ks.length ≤ n):sg ks N i < N + (n - ks.length):=by
 unfold sg
 split
 · rename_i h
   have:ks.getD i 0 ∈ ks:=by rw [List.getD_eq_getElem?_getD,List.getElem?_eq_getElem h];exact List.getElem_mem h
   have:=hk _ this
   omega
 · omega
theorem y5t {ks:List Nat} {N i:Nat} (hn:ks.Nodup) (hk:∀ k ∈ ks,k < N):iv ks N (sg ks N i)=i:=by
 unfold sg
 split
 · rename_i h
   have hmem:ks.getD i 0 ∈ ks:=by rw [List.getD_eq_getElem?_getD,List.getElem?_eq_getElem h];exact List.getElem_mem h
   rw [iv,if_pos (hk _ hmem),List.getD_eq_getElem?_getD,List.getElem?_eq_getElem h]
   exact hn.idxOf_getElem i h
 · rw [iv,if_neg (by omega)];omega
theorem zvt {ks:List Nat} {N g:Nat} (hg:g ∈ ks):∃ i,i < ks.length∧sg ks N i=g:=by
 obtain ⟨i,hi,he⟩:=List.getElem_of_mem hg
 exact ⟨i,hi,by rw [sg,if_pos hi,List.getD_eq_getElem?_getD,List.getElem?_eq_getElem hi];exact he⟩
theorem y0c {ks:List Nat} {N g n:Nat} (hm:ks.length ≤ n) (hg:g < N + (n - ks.length)) (h:¬ (g < N∧g ∉ ks)):∃ i,i < n∧sg ks N i=g:=by
 by_cases hgN:g < N
 · have hmem:g ∈ ks:=by
     by_cases hh:g ∈ ks
     · exact hh
     · exact absurd ⟨hgN,hh⟩ h
   obtain ⟨i,hi,he⟩:=zvt (N:=N) hmem
   exact ⟨i,by omega,he⟩
 · exact ⟨ks.length + (g - N),by omega,by rw [sg,if_neg (by omega)];omega⟩
theorem zc0 {σ:Nat→Nat} {l:List Grp} {i:Nat} (h:i < l.length):(l.map (renG σ)).getD i default=renG σ (l.getD i default):=by
 simp [List.getD,List.getElem?_eq_getElem h]
theorem zkz {P:Program} {f:Nat} {xs0 xs:List AV} {l0 l:List Grp} {K0 K:AV→z02→Prop} (ks:List Nat) (h:z0z P f xs0 (hl l0) K0) (hxs:renL (sg ks l.length) xs0=xs)
   (hl0:l0.map (renG (sg ks l.length))=ks.map (fun k=>l.getD k default)) (hn:ks.Nodup) (hk:∀ k ∈ ks,k < l.length) (hlt:ltL ks.length xs0) (hltG:∀ G ∈ l0,ltL ks.length G.xs)
   (hK:∀ y H',K0 y H'→∃ l',H'=hl l'∧ks.length ≤ l'.length∧K (ren (sg ks l.length) y) (hl (setG ks (l'.map (renG (sg ks l.length))) l))):z0z P f xs (hl l) K:=by
 refine ⟨h.1,fun S cargs hS hx=>?_⟩
 have hm:l0.length=ks.length:=by simpa using congrArg List.length hl0
 have hSn:S.n=l.length:=hS.n
 have hinj:∀ i j,sg ks l.length i=sg ks l.length j→i=j:=fun i j e=>by rw [← y5t (i:=i) hn hk,e,y5t hn hk]
 have hin:∀ i,i < ks.length→sg ks l.length i < l.length∧sg ks l.length i ∈ ks:=fun i hi=>by
   have e:sg ks l.length i=ks[i]:=by rw [sg,if_pos hi,List.getD_eq_getElem?_getD,List.getElem?_eq_getElem hi];rfl
   rw [e]
   exact ⟨hk _ (List.getElem_mem hi),List.getElem_mem hi⟩
 have hat:∀ i,i < ks.length→l.getD (sg ks l.length i) default=renG (sg ks l.length) (l0.getD i default):=fun i hi=>by
   rw [← zc0 (by omega),hl0,sg,if_pos hi]
   simp [List.getD,List.getElem?_eq_getElem hi]
 have hG:∀ i,i < ks.length→GRel S (renG (sg ks l.length) (l0.getD i default)) (sg ks l.length i):=fun i hi=>by
   have:=hS.grp (sg ks l.length i) (hin i hi).1
   rwa [z37,hat i hi] at this
 obtain ⟨O,hO⟩:∃ O:Nat→Prop,∀ b,O b ↔ ∃ g,g < l.length∧g ∉ ks∧(l.getD g default).has (S.cap g)∧S.place g=b:=⟨_,fun _=>Iff.rfl⟩
 have hOfree:∀ b,O b→¬ (S.im b ∨ S.keep b):=fun b hb=>by
   obtain ⟨g,h1,h2,h3,rfl⟩:=(hO b).1 hb
   exact (hS.grp g h1).has_ni (by rw [z37];exact h3)
 obtain ⟨S0,hS0d⟩:∃ S0:MS,S0={ S with keep:=fun b=>S.keep b ∨ O b,n:=ks.length,place:=fun i=>S.place (sg ks l.length i),cur:=fun i=>S.cur (sg ks l.length i),cap:=fun i=>S.cap (sg ks l.length i),wid:=fun i=>S.wid (sg ks l.length i) }:=⟨_,rfl⟩
 have hdn:∀ g,g < ks.length→g < S0.n∧S.cur (sg ks l.length g)=S0.cur g∧S.place (sg ks l.length g)=S0.place g∧S.cap (sg ks l.length g)=S0.cap g∧S.wid (sg ks l.length g)=S0.wid g:=fun g hg=>by
   subst hS0d;exact ⟨hg,rfl,rfl,rfl,rfl⟩
 have hw0:S0.w=S.w:=by subst hS0d;rfl
 have hi0:∀ b,S.im b→S0.im b:=fun b hb=>by subst hS0d;exact hb
 have hrel0:SRel S0 (hl l0):=by
   refine ⟨by subst hS0d;exact hm.symm,fun i hi=>?_,fun i j hi hj hne h1 h2=>?_,fun b hb=>?_⟩
   · have hi':i < ks.length:=by rw [← hm];exact hi
     have hg:=hG i hi'
     have hmem:l0.getD i default ∈ l0:=by rw [List.getD_eq_getElem?_getD,List.getElem?_eq_getElem (show i < l0.length from hi)];exact List.getElem_mem _
     have hlg:=hltG _ hmem
     rw [z37]
     have hnO:(l0.getD i default).has (S.cap (sg ks l.length i))→¬ O (S.place (sg ks l.length i)):=fun hh ho=>by
       obtain ⟨g,a1,a2,a3,a4⟩:=(hO _).1 ho
       exact hS.apart g (sg ks l.length i) a1 (hin i hi').1 (fun e=>a2 (e ▸ (hin i hi').2)) (by rw [z37];exact a3) (by rw [z37,hat i hi'];exact hh) a4
     refine ⟨by subst hS0d;exact hg.ver,by subst hS0d;exact hg.wid,fun hw hc=>?_,fun hw=>by have:=hg.len hw;subst hS0d;simpa [renG,za1] using this,fun hw he=>by have:=hg.full hw he;subst hS0d;simpa [renG,za1] using this,fun hw he=>?_⟩
     · have hc':0 < S.cap (sg ks l.length i):=by subst hS0d;exact hc
       obtain ⟨⟨cells,T,vs,b1,b2,b3,b4⟩,ni⟩:=hg.live hw hc'
       refine ⟨⟨cells,T,vs,by subst hS0d;exact b1,by subst hS0d;exact b2,z4z hw0 hi0 hdn _ hlg b3,b4⟩,fun hh=>?_⟩
       have hno:=hnO (.inl ⟨hw,hc'⟩)
       subst hS0d
       exact hh.elim (fun hh=>ni (.inl hh)) (fun hh=>hh.elim (fun hh=>ni (.inr hh)) hno)
     · obtain ⟨⟨es,clock,b1,b2⟩,ni⟩:=hg.mlive hw he
       refine ⟨⟨es,clock,by subst hS0d;exact b1,z4z hw0 hi0 hdn _ hlg b2⟩,fun hh=>?_⟩
       have hno:=hnO (.inr ⟨hw,he⟩)
       subst hS0d
       exact hh.elim (fun hh=>ni (.inl hh)) (fun hh=>hh.elim (fun hh=>ni (.inr hh)) hno)
   · have hi':i < ks.length:=by rw [← hm];exact hi
     have hj':j < ks.length:=by rw [← hm];exact hj
     rw [z37] at h1 h2
     have:=hS.apart (sg ks l.length i) (sg ks l.length j) (hin i hi').1 (hin j hj').1 (fun e=>hne (hinj _ _ e)) (by rw [z37,hat i hi'];subst hS0d;exact h1) (by rw [z37,hat j hj'];subst hS0d;exact h2)
     subst hS0d
     exact this
   · subst hS0d
     rcases hb with hb|hb|hb
     · exact hS.im b (.inl hb)
     · exact hS.im b (.inr hb)
     · obtain ⟨g,a1,a2,a3,rfl⟩:=(hO _).1 hb
       exact (hS.grp g a1).has_lt (by rw [z37];exact a3)
 have hx0:z04 S0 xs0 cargs:=z4z hw0 hi0 hdn xs0 hlt (by rw [hxs];exact hx)
 have hsz:S0.w.heap=S.w.heap:=by rw [hw0]
 have hcall:=h.2 S0 cargs hrel0 hx0
 rw [hw0] at hcall
 refine hcall.mono fun e w' hh=>?_
 obtain ⟨v,S1,y,H',he,hw1,ev,hS1,hv,hk0⟩:=hh
 obtain ⟨l',rfl,hml,hK'⟩:=hK y H' hk0
 have hn1:S1.n=l'.length:=hS1.n
 have hnot:∀ i,¬ (sg ks l.length i < l.length∧sg ks l.length i ∉ ks):=fun i hh=>by
   by_cases hi:i < ks.length
   · exact hh.2 (hin i hi).2
   · have:sg ks l.length i=l.length + (i - ks.length):=by rw [sg,if_neg hi]
     omega
 obtain ⟨S',hS'd⟩:∃ S':MS,S'={ w:=S1.w,im:=S1.im,keep:=fun b=>S1.keep b∧¬ O b,n:=l.length + (l'.length - ks.length),place:=fun g=>if g < l.length∧g ∉ ks then S.place g else S1.place (iv ks l.length g),cur:=fun g=>if g < l.length∧g ∉ ks then S.cur g else S1.cur (iv ks l.length g),cap:=fun g=>if g < l.length∧g ∉ ks then S.cap g else S1.cap (iv ks l.length g),wid:=fun g=>if g < l.length∧g ∉ ks then S.wid g else S1.wid (iv ks l.length g),base:=S1.base }:=⟨_,rfl⟩
 have hoth:∀ g,g < l.length→g ∉ ks→S'.place g=S.place g∧S'.cur g=S.cur g∧S'.cap g=S.cap g∧S'.wid g=S.wid g:=fun g h1 h2=>by
   subst hS'd
   exact ⟨if_pos ⟨h1,h2⟩,if_pos ⟨h1,h2⟩,if_pos ⟨h1,h2⟩,if_pos ⟨h1,h2⟩⟩
 have hour:∀ i,S'.place (sg ks l.length i)=S1.place i∧S'.cur (sg ks l.length i)=S1.cur i∧S'.cap (sg ks l.length i)=S1.cap i∧S'.wid (sg ks l.length i)=S1.wid i:=fun i=>by
   subst hS'd
   refine ⟨?_,?_,?_,?_⟩<;>simp only [if_neg (hnot i),y5t hn hk]
 have hn':S'.n=l.length + (l'.length - ks.length):=by subst hS'd;rfl
 have hwS':S'.w=S1.w:=by subst hS'd;rfl
 have hup:∀ g,g < S1.n→sg ks l.length g < S'.n∧S'.cur (sg ks l.length g)=S1.cur g∧S'.place (sg ks l.length g)=S1.place g∧S'.cap (sg ks l.length g)=S1.cap g∧S'.wid (sg ks l.length g)=S1.wid g:=fun g hg=>by
   obtain ⟨a1,a2,a3,a4⟩:=hour g
   exact ⟨by rw [hn'];exact sg_lt hk (by omega) hml,a2,a1,a3,a4⟩
 have hiS':∀ b,S1.im b→S'.im b:=fun b hb=>by subst hS'd;exact hb
 have hkS0:∀ b,O b→S0.keep b:=fun b hb=>by subst hS0d;exact .inr hb
 have hn0:S0.n=ks.length:=by subst hS0d;rfl
 have hevo:Evo S S':=by
   refine ⟨?_,?_,?_,?_,?_,fun b hb=>?_,fun b hb=>?_,fun b hb=>?_,fun b hb=>?_,?_,fun g hg=>?_,fun g hg he=>?_⟩
   · have:=ev.base;subst hS'd;subst hS0d;exact this
   · have:=ev.os;rw [hw0] at this;rw [hwS'];exact this
   · have:=ev.tape;rw [hw0] at this;rw [hwS'];exact this
   · have:=ev.output;rw [hw0] at this;rw [hwS'];exact this
   · have:=ev.size;rw [hw0] at this;rw [hwS'];exact this
   · have:=ev.kept b (by subst hS0d;exact hb.imp id .inl);rw [hw0] at this;rw [hwS'];exact this
   · exact hiS' b (ev.im b (hi0 b hb))
   · have h1:=ev.keep b (by subst hS0d;exact .inl hb)
     subst hS'd
     exact ⟨h1,fun ho=>hOfree b ho (.inr hb)⟩
   · have h1:=ev.fresh b (by subst hS'd;exact hb)
     subst hS0d
     exact h1.imp id fun hh h2=>hh (.inl h2)
   · rw [hn',hSn];omega
   · rw [hSn] at hg
     by_cases hmem:g ∈ ks
     · obtain ⟨i,hi,rfl⟩:=zvt (N:=l.length) hmem
       rw [(hour i).2.1]
       have:=ev.cur i (by rw [hn0];exact hi)
       subst hS0d
       exact this
     · rw [(hoth g hg hmem).2.1];exact Nat.le_refl _
   · rw [hSn] at hg
     by_cases hmem:g ∈ ks
     · obtain ⟨i,hi,rfl⟩:=zvt (N:=l.length) hmem
       obtain ⟨a1,a2,a3,a4⟩:=hour i
       rw [a1,a3,a4]
       rw [a2] at he
       have:=ev.same i (by rw [hn0];exact hi) (by subst hS0d;exact he)
       subst hS0d
       exact this
     · obtain ⟨a1,a2,a3,a4⟩:=hoth g hg hmem
       exact ⟨a1,a3,a4⟩
 have hlen:(setG ks (l'.map (renG (sg ks l.length))) l).length=l.length + (l'.length - ks.length):=by rw [zpa (by simpa using hml)];simp
 have hatO:∀ g,g < l.length→g ∉ ks→(setG ks (l'.map (renG (sg ks l.length))) l).getD g default=l.getD g default:=fun g h1 h2=>zaq h1 h2
 have hatI:∀ i,i < l'.length→(setG ks (l'.map (renG (sg ks l.length))) l).getD (sg ks l.length i) default=renG (sg ks l.length) (l'.getD i default):=fun i hi=>by
   rw [zvs hn hk (by simpa using hi),zc0 hi]
 have hrel':SRel S' (hl (setG ks (l'.map (renG (sg ks l.length))) l)):=by
   have hcov:∀ g,g < (setG ks (l'.map (renG (sg ks l.length))) l).length→(g < l.length∧g ∉ ks) ∨ ∃ i,i < l'.length∧sg ks l.length i=g:=fun g hg=>by
     by_cases hh:g < l.length∧g ∉ ks
     · exact .inl hh
     · exact .inr (y0c hml (by rw [← hlen];exact hg) hh)
   have hfree1:∀ i,i < l'.length→(l'.getD i default).has (S1.cap i)→¬ S1.keep (S1.place i):=fun i hi hh hkk=>(hS1.grp i hi).has_ni (by rw [z37];exact hh) (.inr hkk)
   refine ⟨by rw [hn'];exact hlen.symm,fun g hg=>?_,fun g g' hg hg' hne h1 h2=>?_,fun b hb=>?_⟩
   · rcases hcov g hg with ⟨h1,h2⟩|⟨i,hi,rfl⟩
     · have hr:=hS.grp g h1
       obtain ⟨a1,a2,a3,a4⟩:=hoth g h1 h2
       rw [z37] at hr ⊢
       rw [hatO g h1 h2]
       have hblk:(l.getD g default).has (S.cap g)→S'.w.heap[S.place g]? = S.w.heap[S.place g]? := fun hh=>by
         have:=ev.kept (S.place g) (.inr (hkS0 _ ((hO _).2 ⟨g,h1,h2,hh,rfl⟩)))
         rw [hw0] at this;rw [hwS'];exact this
       have hnik:(l.getD g default).has (S.cap g)→¬ (S'.im (S.place g) ∨ S'.keep (S.place g)):=fun hh hik=>by
         have ho:O (S.place g):=(hO _).2 ⟨g,h1,h2,hh,rfl⟩
         rcases hik with hik|hik
         · rcases ev.fresh (S.place g) (by subst hS'd;exact hik) with h3|h3
           · exact hOfree _ ho (.inl (by subst hS0d;exact h3))
           · exact h3 (hkS0 _ ho)
         · subst hS'd;exact hik.2 ho
       refine ⟨by rw [a2];exact hr.ver,by rw [a4];exact hr.wid,fun hw hc=>?_,fun hw=>by rw [a3];exact hr.len hw,fun hw he=>by rw [a3];exact hr.full hw he,fun hw he=>?_⟩
       · rw [a3] at hc
         obtain ⟨⟨cells,T,vs,b1,b2,b3,b4⟩,ni⟩:=hr.live hw hc
         rw [a1,a3]
         exact ⟨⟨cells,T,vs,by rw [hblk (.inl ⟨hw,hc⟩)];exact b1,b2,b3.mono hevo,b4⟩,hnik (.inl ⟨hw,hc⟩)⟩
       · obtain ⟨⟨es,clock,b1,b2⟩,ni⟩:=hr.mlive hw he
         rw [a1]
         exact ⟨⟨es,clock,by rw [hblk (.inr ⟨hw,he⟩)];exact b1,b2.mono hevo⟩,hnik (.inr ⟨hw,he⟩)⟩
     · have hr:=hS1.grp i hi
       obtain ⟨a1,a2,a3,a4⟩:=hour i
       rw [z37] at hr ⊢
       rw [hatI i hi]
       have hnik:¬ (S1.im (S1.place i) ∨ S1.keep (S1.place i))→¬ (S'.im (S1.place i) ∨ S'.keep (S1.place i)):=fun hh hik=>by
         subst hS'd
         exact hh (hik.imp id fun h3=>h3.1)
       refine ⟨by rw [a2];exact hr.ver,by rw [a4];exact hr.wid,fun hw hc=>?_,fun hw=>by rw [a3];have:=hr.len hw;simpa [renG,za1] using this,fun hw he=>by rw [a3];have:=hr.full hw he;simpa [renG,za1] using this,fun hw he=>?_⟩
       · rw [a3] at hc
         obtain ⟨⟨cells,T,vs,b1,b2,b3,b4⟩,ni⟩:=hr.live hw hc
         rw [a1,a3]
         exact ⟨⟨cells,T,vs,by rw [hwS'];exact b1,b2,zap hwS' hiS' hup _ b3,b4⟩,hnik ni⟩
       · obtain ⟨⟨es,clock,b1,b2⟩,ni⟩:=hr.mlive hw he
         rw [a1]
         exact ⟨⟨es,clock,by rw [hwS'];exact b1,zap hwS' hiS' hup _ b2⟩,hnik ni⟩
   · have hmix:∀ g i,g < l.length→g ∉ ks→i < l'.length→(l.getD g default).has (S.cap g)→(l'.getD i default).has (S1.cap i)→S.place g ≠ S1.place i:=fun g i b1 b2 b3 b4 b5 e=>by
       have h3:=ev.keep _ (hkS0 _ ((hO _).2 ⟨g,b1,b2,b4,rfl⟩))
       rw [e] at h3
       exact hfree1 i b3 b5 h3
     rw [z37] at h1 h2
     rcases hcov g hg with ⟨c1,c2⟩|⟨i,hi,rfl⟩<;>rcases hcov g' hg' with ⟨d1,d2⟩|⟨j,hj,rfl⟩
     · rw [hatO g c1 c2,(hoth g c1 c2).2.2.1] at h1
       rw [hatO g' d1 d2,(hoth g' d1 d2).2.2.1] at h2
       rw [(hoth g c1 c2).1,(hoth g' d1 d2).1]
       exact hS.apart g g' c1 d1 hne (by rw [z37];exact h1) (by rw [z37];exact h2)
     · rw [hatO g c1 c2,(hoth g c1 c2).2.2.1] at h1
       rw [hatI j hj,(hour j).2.2.1] at h2
       rw [(hoth g c1 c2).1,(hour j).1]
       exact hmix g j c1 c2 hj h1 h2
     · rw [hatI i hi,(hour i).2.2.1] at h1
       rw [hatO g' d1 d2,(hoth g' d1 d2).2.2.1] at h2
       rw [(hoth g' d1 d2).1,(hour i).1]
       exact fun e=>hmix g' i d1 d2 hi h2 h1 e.symm
     · rw [hatI i hi,(hour i).2.2.1] at h1
       rw [hatI j hj,(hour j).2.2.1] at h2
       rw [(hour i).1,(hour j).1]
       exact hS1.apart i j hi hj (fun e=>hne (by rw [e])) (by rw [z37];exact h1) (by rw [z37];exact h2)
   · rw [hwS']
     refine hS1.im b ?_
     subst hS'd
     exact hb.imp id fun h3=>h3.1
 exact ⟨v,S',_,_,he,by rw [hwS'];exact hw1,hevo,hrel',y28 hwS' hiS' hup y hv,hK'⟩
mutual
theorem y0d (σ:Nat→Nat):∀ (x:AV),x.pure=true→ren σ x=x
 | .any,_=>rfl
 | .bool _,_=>rfl
 | .int _ _,_=>rfl
 | .str _,_=>rfl
 | .nilS,_=>rfl
 | .nul,_=>rfl
 | .emp,_=>rfl
 | .lst _ _,_=>rfl
 | .full _ _,_=>rfl
 | .cptr _,_=>rfl
 | .nilP,_=>rfl
 | .nilF,_=>rfl
 | .yld _,_=>rfl
 | .map _ _,h=>by cases h
 | .ref _ _ _ _,h=>by cases h
 | .ptr _ _ _ _,h=>by cases h
 | .agg cs,h=>by rw [ren,z7d σ cs h]
 | .tup cs,h=>by rw [ren,z7d σ cs h]
 | .fn f cs,h=>by rw [ren,z7d σ cs h]
theorem z7d (σ:Nat→Nat):∀ (xs:List AV),z0o xs=true→renL σ xs=xs
 | [],_=>rfl
 | x :: xs,h=>by
   simp only [z0o,Bool.and_eq_true] at h
   rw [renL,y0d σ x h.1,z7d σ xs h.2]
end
mutual
theorem zvu (m:Nat):∀ (x:AV),x.pure=true→ltV m x
 | .any,_=>trivial
 | .bool _,_=>trivial
 | .int _ _,_=>trivial
 | .str _,_=>trivial
 | .nilS,_=>trivial
 | .nul,_=>trivial
 | .emp,_=>trivial
 | .lst _ _,_=>trivial
 | .full _ _,_=>trivial
 | .cptr _,_=>trivial
 | .nilP,_=>trivial
 | .nilF,_=>trivial
 | .yld _,_=>trivial
 | .map _ _,h=>by cases h
 | .ref _ _ _ _,h=>by cases h
 | .ptr _ _ _ _,h=>by cases h
 | .agg cs,h=>z4w m cs h
 | .tup cs,h=>z4w m cs h
 | .fn f cs,h=>z4w m cs h
theorem z4w (m:Nat):∀ (xs:List AV),z0o xs=true→ltL m xs
 | [],_=>trivial
 | x :: xs,h=>by
   simp only [z0o,Bool.and_eq_true] at h
   exact ⟨zvu m x h.1,z4w m xs h.2⟩
end
def renM (σ:Nat→Nat) (xs:List AV):List AV:=renL σ xs
def ltM (m:Nat) (xs:List AV):Prop:=ltL m xs
section
variable {ks:List Nat} {N i m g k v o n w f:Nat} {x:AV} {xs cs:List AV} {e:Bool} {G:Grp} {r l:List Grp}
theorem y5u:renL (sg ks N) xs=bif z0o xs then xs else renM (sg ks N) xs:=by
 cases h:z0o xs
 · rfl
 · exact z7d _ xs h
theorem y9h:ltL m xs=ifB (z0o xs) (ltM m xs):=propext ⟨fun h=>.inr h,fun h=>h.elim (z4w m xs) id⟩
theorem y0e:renM (sg ks N) []=[]:=rfl
theorem zvv:renM (sg ks N) (x :: xs)=ren (sg ks N) x :: renM (sg ks N) xs:=rfl
theorem y5v:ltM m []=True:=rfl
theorem y0f:ltM m (x :: xs)=(ltV m x∧ltM m xs):=rfl
theorem y9i:ren (sg ks N) .any=.any:=rfl
theorem y5w {b:Bool}:ren (sg ks N) (.bool b)=.bool b:=rfl
theorem y9j {q:IntKind} {z:Int}:ren (sg ks N) (.int q z)=.int q z:=rfl
theorem y9k {s:List UInt8}:ren (sg ks N) (.str s)=.str s:=rfl
theorem y5x:ren (sg ks N) .nilS=.nilS:=rfl
theorem y9l:ren (sg ks N) .nul=.nul:=rfl
theorem y9m:ren (sg ks N) .emp=.emp:=rfl
theorem y5y:ren (sg ks N) .nilP=.nilP:=rfl
theorem y5z:ren (sg ks N) .nilF=.nilF:=rfl
theorem y9n:ren (sg ks N) (.lst w xs)=.lst w xs:=rfl
theorem y60:ren (sg ks N) (.full w xs)=.full w xs:=rfl
theorem y61:ren (sg ks N) (.cptr x)=.cptr x:=rfl
theorem y9o:ren (sg ks N) (.ref g v o n)=.ref (sg ks N g) v o n:=rfl
theorem y9p:ren (sg ks N) (.ptr g v i o)=.ptr (sg ks N g) v i o:=rfl
theorem y9q:ren (sg ks N) (.map g v)=.map (sg ks N g) v:=rfl
theorem y9r:ren (sg ks N) (.agg cs)=.agg (renL (sg ks N) cs):=rfl
theorem y9s:ren (sg ks N) (.tup cs)=.tup (renL (sg ks N) cs):=rfl
theorem re_fn:ren (sg ks N) (.fn f cs)=.fn f (renL (sg ks N) cs):=rfl
theorem y9t:ltV m .any=True:=rfl
theorem y62 {b:Bool}:ltV m (.bool b)=True:=rfl
theorem y9u {q:IntKind} {z:Int}:ltV m (.int q z)=True:=rfl
theorem y9v {s:List UInt8}:ltV m (.str s)=True:=rfl
theorem y63:ltV m .nilS=True:=rfl
theorem y9w:ltV m .nul=True:=rfl
theorem y9x:ltV m .emp=True:=rfl
theorem y64:ltV m .nilP=True:=rfl
theorem y65:ltV m .nilF=True:=rfl
theorem y9y:ltV m (.lst w xs)=True:=rfl
theorem y66:ltV m (.full w xs)=True:=rfl
theorem y67:ltV m (.cptr x)=True:=rfl
theorem y9z:ltV m (.ref g v o n)=(g < m):=rfl
theorem ya0:ltV m (.ptr g v i o)=(g < m):=rfl
theorem ya1:ltV m (.map g v)=(g < m):=rfl
theorem ya2:ltV m (.agg cs)=ltL m cs:=rfl
theorem ya3:ltV m (.tup cs)=ltL m cs:=rfl
theorem lv_fn:ltV m (.fn f cs)=ltL m cs:=rfl
theorem sg_eq:sg ks N i=if i < ks.length then ks.getD i 0 else N + (i - ks.length):=rfl
theorem reG {σ:Nat→Nat}:renG σ ⟨w,v,e,xs⟩=⟨w,v,e,renL σ xs⟩:=rfl
theorem ya4:setG [] r l=l ++ r:=rfl
theorem y68:setG (k :: ks) (G :: r) l=setG ks r (l.set k G):=rfl
end
attribute [push_cast] y5u y9h y0e zvv y5v y0f y9i y5w y9j y9k y5x y9l y9m y5y y5z y9n y60 y61 y9o y9p y9q y9r y9s re_fn
attribute [push_cast] y9t y62 y9u y9v y63 y9w y9x y64 y65 y9y y66 y67 y9z ya0 ya1 ya2 ya3 lv_fn sg_eq reG ya4 y68 List.set_cons_zero List.set_cons_succ List.getD_cons_zero List.getD_cons_succ
theorem znb {P:Program} {f:Nat} {xs0 xs:List AV} {l0 l:List Grp} {K0 K:AV→z02→Prop} (ks:List Nat) (h:z0z P f xs0 (hl l0) K0) (hn:ks.Nodup) (hk:∀ k ∈ ks,k < l.length) (hxs:renL (sg ks l.length) xs0=xs)
   (hl0:l0.map (renG (sg ks l.length))=ks.map (fun k=>l.getD k default)) (hlt:ltL ks.length xs0) (hltG:∀ G ∈ l0,ltL ks.length G.xs)
   (hK:∀ y H',K0 y H'→∃ l',H'=hl l'∧ks.length ≤ l'.length∧@nx (ren (sg ks l.length) y) (hl (setG ks (l'.map (renG (sg ks l.length))) l)) ⟨K⟩):@zjy P f xs (hl l) ⟨K⟩ :=
 zkz ks h hxs hl0 hn hk hlt hltG hK
section
variable {P:Program} {n b:Nat} {env:Env} {H:z02}
theorem zg6 {S:MS} {l2:List Grp} {H1:z02} {ks:List Nat} {val:Nat→Value} (hS:SRel S (hl l2)) (hF:∀ i,VRel S (rnV b H1 ks 6 (env i)) (val i)):∀ {live:List (Nat × AV)},zb6 l2 H1 b ks env live→∀ i,VRel S (z3w live i) (val i)
 | [],_,i=>trivial
 | (t,y) :: r,h,i=>by
   show VRel S (if i=t then y else z3w r i) _
   split
   · rename_i hit
     subst hit
     exact zk3 (.inl hS) _ h.1 (hF i)
   · exact zg6 hS hF h.2 i
theorem zid:∀ (ws:List Nat) {S:MS} {l:List Grp} {val:Nat→Value},(∀ w ∈ ws,0 < w)→SRel S (hl l)→(∀ i,VRel S (env i) (val i))→∃ S',S'.w=S.w∧Evo S S'∧SRel S' (hl (l ++ ws.map z8g))∧∀ i,VRel S' (env i) (val i)
 | [],S,l,val,_,hS,hF=>⟨S,rfl,.refl S,by simpa using hS,hF⟩
 | w :: ws,S,l,val,hw,hS,hF=>by
   have h1:=hS.virt w (hw w (by simp))
   rw [z3r] at h1
   obtain ⟨S',e1,e2,e3,e4⟩:=zid ws (S:=S.virt w) (l:=l ++ [z8g w]) (fun w' h'=>hw w' (by simp [h'])) h1 (fun j=>VRel.mono (Evo.virt _) _ (hF j))
   exact ⟨S',e1,(Evo.virt _).trans e2,by simpa using e3,e4⟩
theorem y0g {srcs:List Src} {live:List (Nat × AV)} {heap:List Grp} {S:MS} {val:Nat→Value} (hh:Head b env H srcs live heap) (hbS:b ≤ S.n) (hS:SRel S H) (hF:∀ i,VRel S (env i) (val i)) :
   ∃ S',S'.w=S.w∧BEvo b S S'∧SRel S' (hl heap)∧∀ i,VRel S' (z3w live i) (val i):=by
 obtain ⟨hb,hh⟩:=hh
 have hgn:H.groups.length=H.n:=by simp [z02.groups]
 have hS1:SRel S (hl H.groups):=hS.congr hgn (fun g hg=>by
   show H.groups.getD g default=_
   simp [z02.groups,List.getD,hg])
 obtain ⟨S2,e1,e2,e3,e4⟩:=zid (z4b H.n srcs).2 (z7z hh.1) hS1 hF
 replace hh:=hh.2
 generalize hl1:H.groups ++ (z4b H.n srcs).2.map z8g=l1 at *
 obtain ⟨h1,h2,h3,h4⟩:=hh
 have hb1:b ≤ l1.length:=by rw [← hl1,List.length_append];omega
 have hbS2:b ≤ S2.n:=Nat.le_trans hbS e2.n
 obtain ⟨k1,k2⟩:=zd3 (ks:=(z4b H.n srcs).1) hb1
 have hev:=z7x (ks:=(z4b H.n srcs).1) e3 hbS2
 have hrel:=(zak (ks:=(z4b H.n srcs).1) 6 e3 hb1 (fun k hk=>zcg h1 k hk) (z6o h2)).congr k1 k2
 exact ⟨S2.repack b (hl l1) (z4b H.n srcs).1,e1,(e2.down hbS).trans hev,z7y hrel h4,zg6 hrel (fun j=>zrm e3 6 (e4 j)) h3⟩
def Drop (b:Nat) (y:AV) (H:z02) [K:HK]:Prop:=∃ srcs y' heap,Head b (z3w [(0,y)]) H srcs [(0,y')] heap∧K.f y' (hl heap)
theorem y29 {y:AV} {K:AV→z02→Prop} (srcs:List Src) (y':AV) (heap:List Grp) (h1:Head b (z3w [(0,y)]) H srcs [(0,y')] heap) (h2:K y' (hl heap)):@Drop b y H ⟨K⟩:=⟨srcs,y',heap,h1,h2⟩
theorem zdw {f:Nat} {xs:List AV} {l:List Grp} {K:AV→z02→Prop} (h:z0z P f xs (hl l) (fun y H'=>@Drop l.length y H' ⟨K⟩)):z0z P f xs (hl l) K :=
 ⟨h.1,fun S cargs hS hx=>(h.2 S cargs hS hx).mono fun e w' hh=>by
   obtain ⟨v,S1,y,H',he,hw,ev,hS1,hv,srcs,y',heap,h1,h2⟩:=hh
   have hn:S.n=l.length:=hS.n
   obtain ⟨S2,q1,q2,q3,q4⟩:=y0g (S:=S1) (val:=fun i=>if i=0 then v else undef) h1 (by rw [← hn];exact ev.n) hS1 (fun i=>by
     show VRel S1 (if i=0 then y else .any) _
     split
     · exact hv
     · trivial)
   have hb:=(ev.down (b:=l.length) (by omega)).trans q2
   exact ⟨v,S2,y',_,he,q1.trans hw,⟨hb.base,hb.os,hb.tape,hb.output,hb.size,hb.kept,hb.im,hb.keep,hb.fresh,by rw [hn];exact hb.n,fun g hg=>hb.cur g (by omega),fun g hg=>hb.same g (by omega)⟩,q3,q4 0,h2⟩⟩
theorem y0h {f m np b:Nat} {xs:List AV} {l:List Grp} {K:AV→z02→Prop} {res:List ARes} {B:AC} (hf:z0g P f xs.length=some ⟨m,np,res,B⟩) (hb:b=l.length) (h:W P m b B (entry xs) (hl l) (Ret P res fun y H'=>@Drop b y H' ⟨K⟩)):z0z P f xs (hl l) K:=by
 subst hb
 exact zdw (ztu hf (W_T h))
end
theorem y0i (env:Env):setL env [] []=env:=rfl
theorem zvw (env:Env) (p:Nat) (ps:List Nat) (x:AV) (r:List AV):setL env (p :: ps) (x :: r)=setL (env.put (some p) x) ps r:=rfl
attribute [push_cast] y0i zvw
section
variable {P:Program} {n b:Nat} {S:MS} {H:z02}
theorem put_defers (a:Act) (d:Option Nat) (v:Value):(a.put d v).defers=a.defers:=by cases d<;>rfl
theorem ya5 (hS:SRel S H) {env:Env} {a:Act} (hF:FRel S n env a) {o:Oper} {q:AOp} {ops:Array Oper} (h:z1d P n ops o=some q) {K:AV→z02→Prop} (hst:z05 P q.k H (q.vals env) K)
   {N:Act→World→Prop} {Q:Exit→Act→World→Prop} (hN:∀ S' H' x a',Evo S S'→SRel S' H'→FRel S' n (env.put q.dst x) a'→a'.defers=a.defers→K x H'→N a' S'.w) (r:Option Nat) (m:Nat):o.wpIn (fen r) m P a S.w N Q:=by
 obtain ⟨h1,h2,h3,h4,_⟩:=z0u h
 have hargs:=z9d hF h2
 have hsem:o.semAt (fen r).round a.eval=execOp a.eval o:=Oper.semAt_eq _ _ _ fun c hc=>by rw [hc] at h1;cases h1
 rcases zfl hS o h1 (ρ:=a.eval) hargs hst with ⟨v,S',x,H',hr,e,hS',hv,hK⟩|⟨f,cargs,hr,hc⟩
 · have hN':=fun v' (hv':VRel S' x v')=>hN S' H' x (a.put o.dst v') e hS' (by rw [h3];exact (hF.mono e).put h4 hv') (put_defers _ _ _) hK
   refine ⟨fun _ _=>trivial,?_⟩
   rw [hsem]
   rcases hr with hr|⟨hr,rfl⟩<;>rw [hr]
   · exact hN' v hv
   · exact hN' undef hv
 · refine ⟨fun _ _=>trivial,?_⟩
   rw [hsem,hr,Oper.uponIn_enter]
   refine ⟨fun h=>(by cases h),zct (hc.mono fun e w' hh=>?_)⟩
   obtain ⟨v,S',x,H',rfl,rfl,ev,hS',hv,hK⟩:=hh
   exact hN S' H' x (a.put o.dst v) ev hS' (by rw [h3];exact (hF.mono ev).put h4 hv) (put_defers _ _ _) hK
theorem z64 {ops:Array Oper} {Q:Exit→Act→World→Prop} {rd:Option Nat} {m:Nat} (tl:List Nat):∀ (l:List Oper) (l':List AOp) (k:Nat),(∀ j,j < l.length→l[j]? = ops[k + j]?)→l.mapM (z1d P n ops)=some l'→∀ {S:MS} {H:z02} {env:Env} {a:Act} {K:Env→z02→Prop},
   SRel S H→FRel S n env a→runK P l' env H K→(∀ S' H' env' a',Evo S S'→SRel S' H'→FRel S' n env' a'→a'.defers=a.defers→K env' H'→wpOpsIn (fen rd) m P ops Q tl a' S'.w)→wpOpsIn (fen rd) m P ops Q (List.range' k l.length ++ tl) a S.w
 | [],l',k,_,hm,S,H,env,a,K,hS,hF,hr,hQ=>by
   simp at hm
   subst hm
   exact hQ S H env a (.refl S) hS hF rfl hr
 | o :: l,l',k,hl,hm,S,H,env,a,K,hS,hF,hr,hQ=>by
   rw [List.mapM_cons] at hm
   simp only [Option.bind_eq_bind,Option.bind_eq_some_iff,Option.pure_def,Option.some.injEq] at hm
   obtain ⟨q,hq,r,hrr,rfl⟩:=hm
   have h0:ops[k]? = some o:=by simpa using (hl 0 (by simp)).symm
   have hl':∀ j,j < l.length→l[j]? = ops[k + 1 + j]? := fun j hj=>by have:=hl (j + 1) (by simp;omega);simpa [Nat.add_assoc,Nat.add_comm 1 j] using this
   have hg:=zcs hq hF hr
   rw [show List.range' k (o :: l).length ++ tl=k :: (List.range' (k + 1) l.length ++ tl) from rfl]
   simp only [wpOpsIn,h0]
   cases hw:Region.wanted o (yielded ops a.tmps)
   · rw [hw] at hg
     simp only [Bool.false_eq_true,if_false] at hg ⊢
     obtain ⟨_,_,h3,h4,_⟩:=z0u hq
     exact ⟨fun _ _=>trivial,z64 tl l r (k + 1) hl' hrr hS (by rw [h3];exact hF.put h4 z6y) hg (fun S' H' env' a' e hS' hF' hd=>hQ S' H' env' a' e hS' hF' (hd.trans (put_defers _ _ _)))⟩
   · rw [hw] at hg
     simp only [if_true] at hg ⊢
     refine ya5 hS hF hq hg (fun S' H' x a' e hS' hF' hd hK=>?_) rd m
     exact z64 tl l r (k + 1) hl' hrr hS' hF' hK (fun S2 H2 env2 a2 e2 hS2 hF2 hd2 hK2=>hQ S2 H2 env2 a2 (e.trans e2) hS2 hF2 (hd2.trans hd) hK2)
end
structure Itr where
 P:Program
 l:Nat
 m:Nat
 rows:List (List AV)
 S0:MS
 J:Nat→(Nat→Prop)→World→Prop
 Jx:Nat→(Nat→Prop)→World→Prop
 cJ:Clo J
 cx:Clo Jx
 fact:∀ k O W,J k O W ∨ Jx k O W→(∀ b,S0.im b→¬ O b∧W.heap[b]? = S0.w.heap[b]?)∧(W.os=S0.w.os∧W.tape=S0.w.tape∧W.output=S0.w.output)∧S0.w.heap.size ≤ W.heap.size∧∀ b,O b→S0.w.heap.size ≤ b∧b < W.heap.size
 round:∀ k row O W,rows[k]? = some row→J k O W→YieldAt Fence.wide m P l (encI row) W fun e W'=>W.heap.size ≤ W'.heap.size∧(∀ b,O b→W'.heap[b]? = W.heap[b]?)∧(e=.returned (.bool true)∧J (k + 1) O W' ∨ e=.returned (.bool false)∧Jx (k + 1) O W')
namespace Itr
def at_ (I:Itr):Option Nat→(Nat→Prop)→World→Prop
 | some k,O,W=>I.J k O W
 | none,O,W=>∃ k,I.Jx k O W
structure Now (I:Itr) (s:Option Nat) (X:Nat→Prop) (S:MS) (H:z02):Prop where
 rel:SRel S H
 base:S.base ≤ S.w.heap.size
 keep:∀ b,X b→S.keep b
 im:∀ b,I.S0.im b→S.im b
 apart:∀ b,S.im b→I.S0.im b ∨ ¬ X b
 st:I.at_ s (fun b=>b < S.w.heap.size∧¬ X b∧¬ I.S0.im b) S.w
theorem Now.on {I:Itr} {s:Option Nat} {X:Nat→Prop} {S S':MS} {H H':z02} (h:I.Now s X S H) (e:Evo S S') (hr:SRel S' H'):I.Now s X S' H':=by
 have hX:∀ b,X b→b < S.w.heap.size:=fun b hb=>h.rel.im b (.inr (h.keep b hb))
 have hi0:∀ b,I.S0.im b→b < S.w.heap.size:=fun b hb=>h.rel.im b (.inl (h.im b hb))
 refine ⟨hr,by rw [e.base];exact Nat.le_trans h.base e.size,fun b hb=>e.keep b (h.keep b hb),fun b hb=>e.im b (h.im b hb),fun b hb=>?_,?_⟩
 · rcases e.fresh b hb with hh|hh
   · exact h.apart b hh
   · exact .inr fun hx=>hh (h.keep b hx)
 · have ho:(fun b=>b < S'.w.heap.size∧¬ X b∧¬ I.S0.im b)=fun b=>(b < S.w.heap.size∧¬ X b∧¬ I.S0.im b) ∨ (S.w.heap.size ≤ b∧b < S'.w.heap.size):=by
     funext b
     refine propext ⟨fun ⟨h1,h2,h3⟩=>?_,fun hh=>?_⟩
     · rcases Nat.lt_or_ge b S.w.heap.size with hl|hl
       · exact .inl ⟨hl,h2,h3⟩
       · exact .inr ⟨hl,h1⟩
     · rcases hh with ⟨h1,h2,h3⟩|⟨h1,h2⟩
       · exact ⟨Nat.lt_of_lt_of_le h1 e.size,h2,h3⟩
       · exact ⟨h2,fun hx=>by have:=hX b hx;omega,fun hx=>by have:=hi0 b hx;omega⟩
   rw [ho]
   have hk:∀ b,b < S.w.heap.size→¬ (b < S.w.heap.size∧¬ X b∧¬ I.S0.im b)→S'.w.heap[b]? = S.w.heap[b]? := fun b hb hn=>by
     by_cases hx:X b
     · exact e.kept b (.inr (h.keep b hx))
     · by_cases hi:I.S0.im b
       · exact e.kept b (.inl (h.im b hi))
       · exact absurd ⟨hb,hx,hi⟩ hn
   cases s with
   | some k=>exact I.cJ k _ _ _ h.st e.os e.tape e.output e.size hk
   | none=>obtain ⟨k,hj⟩:=h.st;exact ⟨k,I.cx k _ _ _ hj e.os e.tape e.output e.size hk⟩
theorem Now.round {I:Itr} {k:Nat} {X:Nat→Prop} {S:MS} {H:z02} (h:I.Now (some k) X S H) {W':World} {s':Option Nat} (hsz:S.w.heap.size ≤ W'.heap.size) (ho:∀ b,b < S.w.heap.size∧¬ X b∧¬ I.S0.im b→W'.heap[b]? = S.w.heap[b]?)
   (hi:∀ b,I.S0.im b→W'.heap[b]? = S.w.heap[b]?) (hst:I.at_ s' (fun b=>b < S.w.heap.size∧¬ X b∧¬ I.S0.im b) W') :
   ∃ S',S'.w=W'∧I.Now s' (fun b=>X b ∨ (S.w.heap.size ≤ b∧b < W'.heap.size)) S' H∧Evi S S':=by
 obtain ⟨S',hd⟩:∃ S':MS,S'={ S with w:=W',keep:=fun b=>S.keep b ∨ (S.w.heap.size ≤ b∧b < W'.heap.size) }:=⟨_,rfl⟩
 have hX:∀ b,X b→b < S.w.heap.size:=fun b hb=>h.rel.im b (.inr (h.keep b hb))
 have him:∀ b,S.im b→b < S.w.heap.size:=fun b hb=>h.rel.im b (.inl hb)
 have hi0:∀ b,I.S0.im b→b < S.w.heap.size:=fun b hb=>him b (h.im b hb)
 have hw:∀ b,S.im b→W'.heap[b]? = S.w.heap[b]? := fun b hb=>by
   by_cases h0:I.S0.im b
   · exact hi b h0
   · exact ho b ⟨him b hb,(h.apart b hb).resolve_left h0,h0⟩
 refine ⟨S',by rw [hd],⟨?_,?_,?_,?_,?_,?_⟩,?_⟩
 · subst hd
   exact h.rel.turn2 hw rfl rfl rfl rfl rfl rfl (fun b hb=>hb.imp id And.left) (fun b hb=>hb.elim (fun hh=>Nat.lt_of_lt_of_le (h.rel.im b (.inr hh)) hsz) And.right)
     (fun b hb hl=>ho b ⟨hl,fun hx=>hb (.inr (h.keep b hx)),fun hx=>hb (.inl (h.im b hx))⟩) hsz
 · subst hd;exact Nat.le_trans h.base hsz
 · subst hd;exact fun b hb=>hb.imp (h.keep b) id
 · subst hd;exact h.im
 · subst hd
   intro b hb
   rcases h.apart b hb with hh|hh
   · exact .inl hh
   · exact .inr fun hx=>hx.elim hh fun hx=>by have:=him b hb;omega
 · subst hd
   have e:(fun b=>b < W'.heap.size∧¬ (X b ∨ (S.w.heap.size ≤ b∧b < W'.heap.size))∧¬ I.S0.im b)=fun b=>b < S.w.heap.size∧¬ X b∧¬ I.S0.im b:=by
     funext b
     refine propext ⟨fun ⟨h1,h2,h3⟩=>⟨?_,fun hx=>h2 (.inl hx),h3⟩,fun ⟨h1,h2,h3⟩=>⟨by omega,fun hx=>hx.elim h2 (fun hh=>by omega),h3⟩⟩
     rcases Nat.lt_or_ge b S.w.heap.size with hl|hl
     · exact hl
     · exact absurd (.inr ⟨hl,h1⟩) h2
   show I.at_ s' _ W'
   rw [e]
   exact hst
 · subst hd
   exact Evi.of hw rfl rfl rfl rfl rfl rfl
end Itr
def za2 (I:Itr) (n:Nat) (Q:Option Nat→Ex→Env→z02→Prop) (e:Exit) (a:Act) (w:World):Prop :=
 ∃ S' env H' x s X,S'.w=w∧I.Now s X S' H'∧FRel S' n env a∧a.defers=[]∧e=Ex.up x∧Q s x env H'
def TI (I:Itr) (n:Nat) (c:AC) (s:Option Nat) (env:Env) (H:z02) (Q:Option Nat→Ex→Env→z02→Prop):Prop :=
 ∀ code,z2t I.P n code=some c→∀ S a X,I.Now s X S H→FRel S n env a→a.defers=[]→code.wpIn (fen none) (I.m + 1) I.P (za2 I n Q) a S.w
section
variable {I:Itr} {n:Nat} {s:Option Nat} {env:Env} {H:z02} {Q:Option Nat→Ex→Env→z02→Prop}
theorem y0j {F:Fence} {mm:Nat} {c:Code} {a:Act} {w:World} (h:c.wpIn F mm I.P (za2 I n Q) a w):(Code.scope c).wpIn F mm I.P (za2 I n Q) a w:=by
 refine z5g (wpIn_mono h fun e a w hh=>?_)
 obtain ⟨S2,env,H',y,s,X,h1,h2,h3,h4,h5,h6⟩:=hh
 subst h5
 cases y<;>exact ⟨S2,env,H',_,s,X,h1,h2,h3,h4,rfl,h6⟩
theorem zie {c:AC} (h:∀ code,z2t I.P n code=some c→(∀ d,code ≠ .scope d)→∀ S a X,I.Now s X S H→FRel S n env a→a.defers=[]→code.wpIn (fen none) (I.m + 1) I.P (za2 I n Q) a S.w):TI I n c s env H Q:=by
 intro code
 induction code with
 | scope d ih=>exact fun hc S a X hN hF hd=>y0j (ih (by simpa [z2t] using hc) S a X hN hF hd)
 | skip=>exact fun hc=>h _ hc (by simp)
 | region=>exact fun hc=>h _ hc (by simp)
 | seq=>exact fun hc=>h _ hc (by simp)
 | cond=>exact fun hc=>h _ hc (by simp)
 | block=>exact fun hc=>h _ hc (by simp)
 | loop=>exact fun hc=>h _ hc (by simp)
 | rangeFunc=>exact fun hc=>h _ hc (by simp)
 | exit=>exact fun hc=>h _ hc (by simp)
 | label=>exact fun hc=>h _ hc (by simp)
 | goto=>exact fun hc=>h _ hc (by simp)
 | ret=>exact fun hc=>h _ hc (by simp)
 | refuse=>exact fun hc=>h _ hc (by simp)
theorem y69 (h:Q s .normal env H):TI I n .skip s env H Q:=zie fun code hc hs S a X hN hF hd=>by
 have hA:za2 I n Q .normal a S.w:=⟨S,env,H,.normal,s,X,rfl,hN,hF,hd,rfl,h⟩
 cases code<;>simp only [z2t,reduceCtorEq,Option.some.injEq] at hc
 case skip=>exact wpIn_skip hA
 case label=>exact wpIn_label hA
 case region=>exact absurd hc z1v
 case seq=>split at hc<;>cases hc
 case cond=>split at hc<;>cases hc
 case block=>obtain ⟨_,_,h⟩:=Option.map_eq_some_iff.1 hc;cases h
 case loop=>obtain ⟨_,_,h⟩:=Option.map_eq_some_iff.1 hc;cases h
 case rangeFunc=>split at hc<;>cases hc
 case scope d=>exact absurd rfl (hs d)
theorem y6a {id:Nat} (h:Q s (.exit id) env H):TI I n (.exit id) s env H Q:=zie fun code hc hs S a X hN hF hd=>by
 cases code<;>simp only [z2t,reduceCtorEq,Option.some.injEq] at hc
 case exit k=>cases hc;exact wpIn_exit ⟨S,env,H,.exit id,s,X,rfl,hN,hF,hd,rfl,h⟩
 case region=>exact absurd hc z1v
 case seq=>split at hc<;>cases hc
 case cond=>split at hc<;>cases hc
 case block=>obtain ⟨_,_,h⟩:=Option.map_eq_some_iff.1 hc;cases h
 case loop=>obtain ⟨_,_,h⟩:=Option.map_eq_some_iff.1 hc;cases h
 case rangeFunc=>split at hc<;>cases hc
 case scope d=>exact absurd rfl (hs d)
theorem ya6 (h:Q s .ret env H):TI I n .ret s env H Q:=zie fun code hc hs S a X hN hF hd=>by
 cases code<;>simp only [z2t,reduceCtorEq,Option.some.injEq] at hc
 case ret=>exact wpIn_ret ⟨S,env,H,.ret,s,X,rfl,hN,hF,hd,rfl,h⟩
 case region=>exact absurd hc z1v
 case seq=>split at hc<;>cases hc
 case cond=>split at hc<;>cases hc
 case block=>obtain ⟨_,_,h⟩:=Option.map_eq_some_iff.1 hc;cases h
 case loop=>obtain ⟨_,_,h⟩:=Option.map_eq_some_iff.1 hc;cases h
 case rangeFunc=>split at hc<;>cases hc
 case scope d=>exact absurd rfl (hs d)
def Ex.thenI (K:Option Nat→Env→z02→Prop) (Q:Option Nat→Ex→Env→z02→Prop):Option Nat→Ex→Env→z02→Prop
 | s,.normal,env,H=>K s env H
 | s,x,env,H=>Q s x env H
theorem z8n {x y:AC} (h:TI I n x s env H (Ex.thenI (fun s' env' H'=>TI I n y s' env' H' Q) Q)):TI I n (.seq x y) s env H Q:=zie fun code hc hs S a X hN hF hd=>by
 cases code<;>simp only [z2t,reduceCtorEq,Option.some.injEq] at hc
 case seq c d =>
   split at hc
   · rename_i x' y' hx hy
     cases hc
     refine wpIn_seq (wpIn_mono (h c hx S a X hN hF hd) fun e a' w' hh=>?_)
     obtain ⟨S2,env2,H2,z,s2,X2,rfl,hN2,hF2,hd2,rfl,hq⟩:=hh
     cases z with
     | normal=>exact hq d hy S2 a' X2 hN2 hF2 hd2
     | exit id=>exact ⟨S2,env2,H2,.exit id,s2,X2,rfl,hN2,hF2,hd2,rfl,hq⟩
     | ret=>exact ⟨S2,env2,H2,.ret,s2,X2,rfl,hN2,hF2,hd2,rfl,hq⟩
   · cases hc
 case region=>exact absurd hc z1v
 case cond=>split at hc<;>cases hc
 case block=>obtain ⟨_,_,h⟩:=Option.map_eq_some_iff.1 hc;cases h
 case loop=>obtain ⟨_,_,h⟩:=Option.map_eq_some_iff.1 hc;cases h
 case rangeFunc=>split at hc<;>cases hc
 case scope d=>exact absurd rfl (hs d)
theorem y6b {c:AArg} {x y:AC} {q:Bool} (hc:c.eval env=.bool q) (ht:q=true→TI I n x s env H Q) (hf:q=false→TI I n y s env H Q):TI I n (.cond c x y) s env H Q:=zie fun code hcc hs S a X hN hF hd=>by
 cases code<;>simp only [z2t,reduceCtorEq,Option.some.injEq] at hcc
 case cond z p q' =>
   split at hcc
   · rename_i z' p2 q2 hz hp hq
     cases hcc
     have hv:=zhl hF hz
     rw [hc] at hv
     exact wpIn_cond_split (t:=q) hv (fun hbb=>ht hbb p hp S a X hN hF hd) (fun hbb=>hf hbb q' hq S a X hN hF hd)
   · cases hcc
 case region=>exact absurd hcc z1v
 case seq=>split at hcc<;>cases hcc
 case block=>obtain ⟨_,_,h⟩:=Option.map_eq_some_iff.1 hcc;cases h
 case loop=>obtain ⟨_,_,h⟩:=Option.map_eq_some_iff.1 hcc;cases h
 case rangeFunc=>split at hcc<;>cases hcc
 case scope d=>exact absurd rfl (hs d)
def Ex.inBlockI (id:Nat) (Q:Option Nat→Ex→Env→z02→Prop):Option Nat→Ex→Env→z02→Prop
 | s,.exit k,env,H=>if k=id then Q s .normal env H else Q s (.exit k) env H
 | s,x,env,H=>Q s x env H
theorem za3 {id:Nat} {c:AC} (h:TI I n c s env H (Ex.inBlockI id Q)):TI I n (.block id c) s env H Q:=zie fun code hc hs S a X hN hF hd=>by
 cases code<;>simp only [z2t,reduceCtorEq,Option.some.injEq] at hc
 case block k d =>
   obtain ⟨x,hx,hh⟩:=Option.map_eq_some_iff.1 hc
   cases hh
   refine wpIn_block (wpIn_mono (h d hx S a X hN hF hd) fun e a' w' hh=>?_)
   obtain ⟨S2,env2,H2,z,s2,X2,h1,hN2,hF2,hd2,rfl,hq⟩:=hh
   cases z with
   | normal=>exact ⟨S2,env2,H2,.normal,s2,X2,h1,hN2,hF2,hd2,rfl,hq⟩
   | exit j =>
     simp only [Ex.up,Exit.inBlock]
     simp only [Ex.inBlockI] at hq
     split
     · rename_i hj;rw [if_pos hj] at hq;exact ⟨S2,env2,H2,.normal,s2,X2,h1,hN2,hF2,hd2,rfl,hq⟩
     · rename_i hj;rw [if_neg hj] at hq;exact ⟨S2,env2,H2,.exit j,s2,X2,h1,hN2,hF2,hd2,rfl,hq⟩
   | ret=>exact ⟨S2,env2,H2,.ret,s2,X2,h1,hN2,hF2,hd2,rfl,hq⟩
 case region=>exact absurd hc z1v
 case seq=>split at hc<;>cases hc
 case cond=>split at hc<;>cases hc
 case loop=>obtain ⟨_,_,h⟩:=Option.map_eq_some_iff.1 hc;cases h
 case rangeFunc=>split at hc<;>cases hc
 case scope d=>exact absurd rfl (hs d)
theorem zvx {σ:Type} (Inv:σ→Option Nat→Env→z02→Prop) (μ:σ→Nat) {c:AC} (s0:σ) (h0:Inv s0 s env H)
   (round:∀ t s env H,Inv t s env H→TI I n c s env H (Ex.thenI (fun s' env' H'=>∃ t',Inv t' s' env' H'∧μ t' < μ t) Q)):TI I n (.loop c) s env H Q:=zie fun code hc hs S a X hN hF hd=>by
 cases code<;>simp only [z2t,reduceCtorEq,Option.some.injEq] at hc
 case loop d =>
   obtain ⟨x,hx,hh⟩:=Option.map_eq_some_iff.1 hc
   cases hh
   refine wpIn_loop_ghost (fun k a w=>∃ S' t s env H X,S'.w=w∧I.Now s X S' H∧FRel S' n env a∧a.defers=[]∧Inv t s env H∧μ t=k) (μ s0) ⟨S,s0,s,env,H,X,rfl,hN,hF,hd,h0,rfl⟩ ?_
   rintro k a w ⟨S1,t,s1,env1,H1,X1,rfl,hN1,hF1,hd1,hI,rfl⟩
   refine wpIn_mono (round t s1 env1 H1 hI d hx S1 a X1 hN1 hF1 hd1) fun e a' w' hh=>?_
   obtain ⟨S2,env2,H2,z,s2,X2,rfl,hN2,hF2,hd2,rfl,hq⟩:=hh
   cases z with
   | normal =>
     obtain ⟨t',h1,h2⟩:=hq
     exact ⟨μ t',h2,S2,t',s2,env2,H2,X2,rfl,hN2,hF2,hd2,h1,rfl⟩
   | exit id=>exact ⟨S2,env2,H2,.exit id,s2,X2,rfl,hN2,hF2,hd2,rfl,hq⟩
   | ret=>exact ⟨S2,env2,H2,.ret,s2,X2,rfl,hN2,hF2,hd2,rfl,hq⟩
 case region=>exact absurd hc z1v
 case seq=>split at hc<;>cases hc
 case cond=>split at hc<;>cases hc
 case block=>obtain ⟨_,_,h⟩:=Option.map_eq_some_iff.1 hc;cases h
 case rangeFunc=>split at hc<;>cases hc
 case scope d=>exact absurd rfl (hs d)
theorem ya7 {ops:List AOp} (h:runK I.P ops env H fun env' H'=>Q s .normal env' H'):TI I n (.reg ops) s env H Q:=zie fun code hc hs S a X hN hF hd=>by
 cases code<;>simp only [z2t,reduceCtorEq,Option.some.injEq] at hc
 case region id l draw =>
   split at hc
   · rename_i r hr
     obtain ⟨hd',rfl⟩:=z8u hc
     subst hd'
     refine wpIn_region ?_
     have:=z64 (ops:=l) (rd:=none) (m:=I.m + 1) (Q:=za2 I n Q) [] l.toList ops 0 (by simp) hr hN.rel hF h (fun S' H' env' a' e hS' hF' hdd hK=>⟨S',env',H',.normal,s,X,rfl,hN.on e hS',hF',hdd.trans hd,rfl,hK⟩)
     rw [List.range_eq_range']
     simpa using this
   · cases hc
 case seq=>split at hc<;>cases hc
 case cond=>split at hc<;>cases hc
 case block=>obtain ⟨_,_,h⟩:=Option.map_eq_some_iff.1 hc;cases h
 case loop=>obtain ⟨_,_,h⟩:=Option.map_eq_some_iff.1 hc;cases h
 case rangeFunc=>split at hc<;>cases hc
 case scope d=>exact absurd rfl (hs d)
theorem zg7 {α β:Type} {f:α→Option β}:∀ (p:List β) {l:List α} {y:β} {q:List β},l.mapM f=some (p ++ y :: q)→∃ l1 o l2,l=l1 ++ o :: l2∧l1.mapM f=some p∧f o=some y∧l2.mapM f=some q
 | [],l,y,q,h=>by
   cases l with
   | nil=>simp at h
   | cons o l =>
     rw [List.mapM_cons] at h
     simp only [Option.bind_eq_bind,Option.bind_eq_some_iff,Option.pure_def,Option.some.injEq,List.nil_append,List.cons.injEq] at h
     obtain ⟨y',hy,r,hr,rfl,rfl⟩:=h
     exact ⟨[],o,l,rfl,rfl,hy,hr⟩
 | z :: p,l,y,q,h=>by
   cases l with
   | nil=>simp at h
   | cons o l =>
     rw [List.mapM_cons] at h
     simp only [Option.bind_eq_bind,Option.bind_eq_some_iff,Option.pure_def,Option.some.injEq,List.cons_append,List.cons.injEq] at h
     obtain ⟨z',hz,r,hr,rfl,rfl⟩:=h
     obtain ⟨l1,o',l2,rfl,h1,h2,h3⟩:=zg7 p hr
     exact ⟨o :: l1,o',l2,rfl,by rw [List.mapM_cons,hz,h1];rfl,h2,h3⟩
theorem zs2 {P:Program} {op:Op} (h:z4o P op=some .call):∃ g args argTypes,op=.call { callee:=.value g,args,argTypes }:=by
 cases op
 case call c =>
   obtain ⟨callee,args,argTypes⟩:=c
   cases callee<;>simp only [z4o,z4a,reduceCtorEq] at h
   case value g=>exact ⟨g,args,argTypes,rfl⟩
   case builtin b =>
     repeat' split at h
     all_goals first
       | (cases h;done)
       | (simp at h;done)
 all_goals simp only [z4o,reduceCtorEq] at h
 all_goals repeat' split at h
 all_goals first
   | contradiction
   | (cases h;done)
   | (obtain ⟨⟨_,_⟩,_,h⟩:=Option.map_eq_some_iff.1 h;cases h;done)
   | (obtain ⟨_,_,h⟩:=Option.map_eq_some_iff.1 h;cases h;done)
   | (simp at h;done)
def ya8 (x:AV):Prop:=∀ S v,VRel S x v→v=valOf x
theorem zg8 {S:MS}:∀ {xs:List AV} {vs:List Value},(∀ x ∈ xs,ya8 x)→z04 S xs vs→vs=xs.map valOf
 | [],vs,_,h=>h
 | x :: xs,vs,hf,⟨v,r,hv,h1,h2⟩=>by
   rw [hv,hf x (by simp) S v h1,zg8 (fun y hy=>hf y (by simp [hy])) h2]
   rfl
theorem y0k {pre post:List AOp} {y:AOp} {k:Nat} (hk:y.k=.call) (hg:y.guard=none)
   (h:runK I.P pre env H fun env1 H1=>∃ row,y.vals env1=.yld I.l :: row∧(∀ x ∈ row,ya8 x)∧I.rows[k]? = some row ∧
     runK I.P post (env1.put y.dst (.bool true)) H1 (fun env2 H2=>Q (some (k + 1)) .normal env2 H2)∧runK I.P post (env1.put y.dst (.bool false)) H1 (fun env2 H2=>Q none .normal env2 H2)) :
   TI I n (.reg (pre ++ y :: post)) (some k) env H Q:=zie fun code hc hs S a X hN hF hd=>by
 cases code<;>simp only [z2t,reduceCtorEq,Option.some.injEq] at hc
 case region id l draw =>
   split at hc
   · rename_i r hr
     obtain ⟨hd',hrr⟩:=z8u hc
     subst hrr
     subst hd'
     refine wpIn_region ?_
     obtain ⟨l1,o,l2,hl,h1,h2,h3⟩:=zg7 pre hr
     have hsz:l.size=l1.length + (l2.length + 1):=by rw [← Array.length_toList,hl];simp
     rw [List.range_eq_range',hsz,List.range'_append_1 |>.symm]
     have hat:∀ j:Nat,l[j]? = (l1 ++ o :: l2)[j]? := fun j=>by rw [← hl,Array.getElem?_toList]
     refine z64 (ops:=l) (rd:=none) (m:=I.m + 1) (Q:=za2 I n Q) _ l1 pre 0 (fun j hj=>by rw [Nat.zero_add,hat,List.getElem?_append_left hj]) h1 hN.rel hF h (fun S1 H1 env1 a1 e1 hS1 hF1 hd1 hK=>?_)
     obtain ⟨row,hv,hfx,hrow,ht,hff⟩:=hK
     have hN1:=hN.on e1 hS1
     have ho:l[l1.length]? = some o:=by rw [hat];simp
     rw [show List.range' (0 + l1.length) (l2.length + 1)=l1.length :: List.range' (l1.length + 1) l2.length from by rw [Nat.zero_add];rfl]
     simp only [wpOpsIn,ho]
     obtain ⟨c1,c2,c3,c4,c5⟩:=z0u h2
     have hw:Region.wanted o (yielded l a1.tmps)=true:=by
       rcases c5 with ⟨g1,_⟩|⟨j,want,d,g1,g2,_⟩
       · simp [Region.wanted,g1]
       · rw [hg] at g2;cases g2
     rw [hw]
     simp only [if_true]
     have hargs:=z9d hF1 c2
     rw [show y.args.map (·.eval env1)=y.vals env1 from rfl,hv] at hargs
     rw [hk] at c1
     obtain ⟨g,args,argTypes,hop⟩:=zs2 c1
     obtain ⟨fn,tm,asg,bd,hy,hR⟩:=I.round k row _ _ hrow hN1.st
     have hrun:(o.semAt (fen none).round a1.eval).run I.P S1.w=.ok (.round I.l fn tm asg bd) S1.w:=by
       rw [show (fen none).round=none from rfl,Oper.semAt_none]
       rw [hop] at hargs
       have hargs':z04 S1 (.yld I.l :: row) (a1.eval g :: args.toList.map a1.eval):=by simpa [Op.operands,Call.operands] using hargs
       obtain ⟨v,vs,hvv,hv1,hv2⟩:=hargs'
       cases hvv
       have hvs:=zg8 hfx hv2
       have hv1':a1.eval g=.func (.yield I.l) #[] #[]:=hv1
       have e:args.map a1.eval=encI row:=by apply Array.ext';simp [hvs]
       have hex:execOp a1.eval o=(do let d ← Deferred.ofValue (a1.eval g) (args.map a1.eval);invoke d.target d.args:Sem Next):=by
         cases o
         simp only at hop
         subst hop
         rfl
       rw [hex,e,hv1']
       simp only [Deferred.ofValue,Sem.run_bind,Sem.run_pure,Result.andThen_ok,invoke]
       simpa using hy
     refine ⟨fun _ _=>trivial,?_⟩
     rw [hrun,Oper.uponIn_round]
     refine ⟨fun h=>(by cases h),?_⟩
     refine RoundIn.mono (F:=fen none) (n:=I.m) hR fun e W' hh=>?_
     obtain ⟨hsz',ho',hcase⟩:=hh
     have hf0:=(I.fact k _ _ (.inl hN1.st)).1
     have hdef:a1.defers=[]:=hd1.trans hd
     have hgo:∀ (bv:Bool) (s':Option Nat),I.at_ s' (fun b=>b < S1.w.heap.size∧¬ X b∧¬ I.S0.im b) W'→(∀ b,I.S0.im b→W'.heap[b]? = I.S0.w.heap[b]?) →
         runK I.P post (env1.put y.dst (.bool bv)) H1 (fun env2 H2=>Q s' .normal env2 H2)→wpOpsIn (fen none) (I.m + 1) I.P l (za2 I n Q) (List.range' (l1.length + 1) l2.length) (a1.put o.dst (.bool bv)) W':=fun bv s' hst him hrk=>by
       obtain ⟨S2,hw2,hN2,ev2⟩:=hN1.round hsz' ho' (fun b hb=>(him b hb).trans ((hf0 b hb).2).symm) hst
       have hF2:FRel S2 n env1 a1:=⟨hF1.size,by rw [hdef];exact Marks.nil hN2.base,fun i hi=>VRel.moni ev2 _ (hF1.val i hi)⟩
       have hF3:=hF2.put (dst:=y.dst) (by rw [c3];exact c4) (x:=.bool bv) (v:=.bool bv) rfl
       rw [c3] at hF3
       rw [c3] at hrk
       rw [← hw2]
       have:=z64 (ops:=l) (rd:=none) (m:=I.m + 1) (Q:=za2 I n Q) [] l2 post (l1.length + 1) (fun j hj=>by rw [hat,List.getElem?_append_right (by omega),show l1.length + 1 + j - l1.length=j + 1 from by omega];rfl) h3 hN2.rel hF3 hrk
         (fun S' H' env' a' e hS' hF' hdd hK=>⟨S',env',H',.normal,s',_,rfl,hN2.on e hS',hF',hdd.trans ((put_defers _ _ _).trans hdef),rfl,hK⟩)
       simpa using this
     rcases hcase with ⟨rfl,hj⟩|⟨rfl,hj⟩
     · exact hgo true (some (k + 1)) hj (fun b hb=>((I.fact _ _ _ (.inl hj)).1 b hb).2) ht
     · exact hgo false none ⟨_,hj⟩ (fun b hb=>((I.fact _ _ _ (.inr hj)).1 b hb).2) hff
   · cases hc
 case seq=>split at hc<;>cases hc
 case cond=>split at hc<;>cases hc
 case block=>obtain ⟨_,_,h⟩:=Option.map_eq_some_iff.1 hc;cases h
 case loop=>obtain ⟨_,_,h⟩:=Option.map_eq_some_iff.1 hc;cases h
 case rangeFunc=>split at hc<;>cases hc
 case scope d=>exact absurd rfl (hs d)
theorem y6c {P:Program} {gf:Nat} {caps:List AV} {rows:List (List AV)} {fn:AFn} (hf:z0g P gf (caps.length + 1)=some fn)
   (h:∀ I:Itr,I.P=P→I.rows=rows→TI I fn.n fn.body (some 0) (entry (.yld I.l :: caps)) z02.nil (fun s x env H=>Ret P fn.res (fun _ _=>True) x env H∧(s=some rows.length ∨ s=none))):zp6 P gf caps rows:=by
 refine ⟨enters_of hf,fun m l S0 lb J Jx hS0 hx0 cJ cx hj fact round=>?_⟩
 obtain ⟨F,c,hF,hb,hn,hc,hr,hnp,_⟩:=z8v hf
 obtain ⟨S,hSd⟩:∃ S:MS,S={ S0 with base:=S0.w.heap.size,keep:=fun b=>b < S0.w.heap.size∧¬ S0.im b }:=⟨_,rfl⟩
 have ev0:Evi S0 S:=by subst hSd;exact Evi.of (fun _ _=>rfl) rfl rfl rfl rfl rfl rfl
 have hw0:S.w=S0.w:=by rw [hSd]
 have hS:SRel S z02.nil:=by
   subst hSd
   exact ⟨hS0.n,fun g hg=>absurd hg (Nat.not_lt_zero _),fun g _ hg=>absurd hg (Nat.not_lt_zero _),fun b hb=>hb.elim (fun h=>hS0.im b (.inl h)) And.left⟩
 have hx:z04 S caps lb:=z04.moni ev0 _ hx0
 have hlen:=hx.length
 let I:Itr:=⟨P,l,m,rows,S0,J,Jx,cJ,cx,fact,round⟩
 have hN:I.Now (some 0) (fun b=>b < S0.w.heap.size∧¬ S0.im b) S z02.nil:=by
   refine ⟨hS,by rw [hSd];exact Nat.le_refl _,fun b hb=>by rw [hSd];exact hb,fun b hb=>by rw [hSd];exact hb,fun b hb=>.inl (by rw [hSd] at hb;exact hb),?_⟩
   have e:(fun b=>b < S.w.heap.size∧¬ (b < S0.w.heap.size∧¬ S0.im b)∧¬ I.S0.im b)=fun _=>False:=by
     funext b
     refine propext ⟨fun ⟨h1,h2,h3⟩=>h2 ⟨by rw [hw0] at h1;exact h1,h3⟩,False.elim⟩
   rw [e,hw0]
   exact hj
 refine callsIn_of_wp_marks (F:=Fence.wide) (n:=m + 1) hF hb trivial ?_
 have hfr:FRel S fn.n (entry (.yld l :: caps)) { tmps:=(#[Value.func (.yield l) #[] #[]] ++ lb.toArray) ++ Array.replicate (F.ntmps - (#[Value.func (.yield l) #[] #[]] ++ lb.toArray).size) undef,defers:=[] }:=by
   have hx':z04 S (.yld l :: caps) (.func (.yield l) #[] #[] :: lb):=⟨_,_,rfl,rfl,hx⟩
   refine ⟨by simp;omega,Marks.nil hN.base,fun i hi=>?_⟩
   by_cases hlt:i < (AV.yld l :: caps).length
   · obtain ⟨v,hv,hr⟩:=hx'.get (List.getElem?_eq_getElem hlt)
     have e1:entry (.yld l :: caps) i=(AV.yld l :: caps)[i]:=by simp [entry,List.getD,List.getElem?_eq_getElem hlt]
     have e2:((#[Value.func (.yield l) #[] #[]] ++ lb.toArray) ++ Array.replicate (F.ntmps - (#[Value.func (.yield l) #[] #[]] ++ lb.toArray).size) undef).getD i undef=v:=by
       have hsz:i < (#[Value.func (.yield l) #[] #[]] ++ lb.toArray).size:=by simp at hlt ⊢;omega
       rw [Array.getD_eq_getD_getElem?,Array.getElem?_append_left hsz]
       have:(#[Value.func (.yield l) #[] #[]] ++ lb.toArray)[i]? = (Value.func (.yield l) #[] #[] :: lb)[i]? := by simp
       rw [this,hv];rfl
     rw [e1,e2]
     exact hr
   · have e1:entry (.yld l :: caps) i=.any:=by simp [entry,List.getD,List.getElem?_eq_none (Nat.le_of_not_lt hlt)]
     rw [e1]
     trivial
 rw [← hw0]
 refine wpIn_mono (h I rfl rfl c hc S _ _ hN hfr rfl) fun e a w' hh=>?_
 obtain ⟨S2,env2,H2,z,s2,X2,rfl,hN2,hF2,hd2,rfl,⟨hq,hres⟩,hst⟩:=hh
 have fin:LeavesInM Fence.wide (m + 1) P F a.tmps (fun e W'=>(∃ v,e=.returned v)∧((∃ O,J rows.length O W') ∨ ∃ k O,Jx k O W')) a.defers .returning S2.w:=by
   rw [hd2]
   refine z72 [] S2.w List.nodup_nil (fun D hd=>by cases hd) ?_
   obtain ⟨vs,ys,h1,h2,h3⟩:=z7w hN2.rel hF2 hr hres
   refine ⟨if h:vs.toArray.size=1 then vs.toArray[0] else .tuple vs.toArray,?_,⟨_,rfl⟩,?_⟩
   · have e:results F a.tmps=(do let vs ← F.results.mapM (zfv a.tmps);pure (if h:vs.size=1 then vs[0] else .tuple vs)):=by
       unfold results
       congr
     rw [e,Array.mapM_eq_mapM_toList]
     show Sem.run P _ S2.w=_
     simp only [Sem.run_bind,Sem.run_map,h1,Result.andThen_ok,Sem.run_pure]
     rfl
   · have:=hN2.st
     rcases hst with rfl|rfl
     · exact .inl ⟨_,this⟩
     · obtain ⟨k,hk⟩:=this;exact .inr ⟨k,_,hk⟩
 cases z with
 | normal=>exact fin
 | exit id=>exact hq.elim
 | ret=>exact fin
end
end Go.Proofs.Yticodgjinajkpaa.Abs
namespace Go.Proofs.Yticodgjinajkpaa
open Abs
def domL (s:Int):List Span:=if s=1 then [⟨0,255⟩] else if s=2 then [⟨0,55295⟩,⟨57344,1114111⟩] else []
theorem z5c (a:Int):PC Try.prog 58 [.int .i64 a] (z1t ⟨a,0,21,0⟩):=by
 refine z0s zkk ?_
 unfold zbk
 (repeat' (first|(simp (disch:=omega) only [push_cast,↓zz,seval])|(with_reducible first|refine And.intro ?_ ?_|(first|refine z01 ?_ ?_|refine z00 ?_ ?_)<;>intro hc<;>(try simp only [push_cast] at hc))|omega|with_reducible intro _))
def z2p (p:Part):Bool:=decide (0 ≤ p.drop∧p.drop < 21∧1 ≤ p.take∧p.take ≤ 21∧0 ≤ p.up∧p.up < 21∧(p.up=0 ∨ p.take ≤ 6))
theorem z65 (p:Part):PC Try.prog 99 [z1t p] (.bool (z2p p)):=by
 refine z0s zn4 ?_
 unfold zdp
 (repeat' (first|(simp (disch:=omega) only [push_cast,↓zz,seval])|(with_reducible first|refine And.intro ?_ ?_|(first|refine z01 ?_ ?_|refine z00 ?_ ?_)<;>intro hc<;>(try simp only [push_cast] at hc))|omega|with_reducible intro _))
 all_goals (unfold z2p;first|(refine zjz ?_;omega)|(refine zk0 ?_;omega)|(refine zaj ?_;omega))
theorem z81 (p:Part):PC Try.prog 104 [z1t p] (.bool (z2p p)):=by
 refine z0s zkw ?_
 unfold zbx
 (repeat' (first|(simp (disch:=omega) only [push_cast,↓zz,seval])|(with_reducible first|refine And.intro ?_ ?_|(first|refine z01 ?_ ?_|refine z00 ?_ ?_)<;>intro hc<;>(try simp only [push_cast] at hc))|omega|with_reducible intro _))
 all_goals (unfold z2p;first|(refine zjz ?_;omega)|(refine zk0 ?_;omega)|(refine zaj ?_;omega))
def z2w (p:Part) (n:Int):Bool:=decide (0 ≤ p.at_∧p.at_ < n) && z2p p
theorem z82 (p:Part) (n:Int):PC Try.prog 78 [z1t p,.int .i64 n] (.bool (z2w p n)):=by
 refine z0s zkp ?_
 unfold zbp
 (repeat' (first|(simp (disch:=omega) only [push_cast,↓zz,seval])|(with_reducible first|refine And.intro ?_ ?_|(first|refine z01 ?_ ?_|refine z00 ?_ ?_)<;>intro hc<;>(try simp only [push_cast] at hc))|(have q_:=z65 p;(with_reducible first|refine eK q_ ?_|refine eQ q_ ?_|refine eG q_ ?_);clear q_)|(have q_:=z65 p;(with_reducible first|refine cK q_ ?_|refine cQ q_ ?_|refine cG q_ ?_);clear q_;(simp (disch:=omega) only [push_cast,↓zz,seval]);(fail_if_success (with_reducible change False)))|omega|with_reducible intro _))
 all_goals (simp [z2w, *]<;>omega)
theorem zdx (p:Part) (n:Int):PC Try.prog 86 [z1t p,.int .i64 n] (.bool (z2w p n)):=by
 refine z0s zi4 ?_
 unfold z9t
 (repeat' (first|(simp (disch:=omega) only [push_cast,↓zz,seval])|(with_reducible first|refine And.intro ?_ ?_|(first|refine z01 ?_ ?_|refine z00 ?_ ?_)<;>intro hc<;>(try simp only [push_cast] at hc))|(have q_:=z81 p;(with_reducible first|refine eK q_ ?_|refine eQ q_ ?_|refine eG q_ ?_);clear q_)|(have q_:=z81 p;(with_reducible first|refine cK q_ ?_|refine cQ q_ ?_|refine cG q_ ?_);clear q_;(simp (disch:=omega) only [push_cast,↓zz,seval]);(fail_if_success (with_reducible change False)))|omega|with_reducible intro _))
 all_goals (simp [z2w, *]<;>omega)
theorem ya9 (i:Nat) (h:i ≤ 40):(1:Int) ≤ 2 ^ i∧(2:Int) ^ i ≤ 1099511627776 :=
 ⟨Int.pow_pos (by decide),by have:=Nat.pow_le_pow_right (n:=2) (by decide) h;have e:((2 ^ i:Nat):Int)=2 ^ i:=(by simp);rw [← e];omega⟩
theorem z6q (n:Int) (h:0 ≤ n∧n ≤ 40):PC Try.prog 73 [.int .i64 n] (.int .i64 (2 ^ n.toNat)):=by
 refine z0s zmx ?_
 unfold zdh
 (repeat' (first|(simp (disch:=omega) only [push_cast,↓zz,seval])|(with_reducible first|refine And.intro ?_ ?_|(first|refine z01 ?_ ?_|refine z00 ?_ ?_)<;>intro hc<;>(try simp only [push_cast] at hc))|omega|with_reducible intro _))
 refine z0i (z0j (fun (i:Nat)=>(i:Int) ≤ n) (fun i=>n.toNat - i) (fun i=>[(0,.int .i64 n),(3,.int .i64 (2 ^ i)),(4,.int .i64 i)]) (fun _=>[]) (fun _ _=>[]) 0 (by omega) ?_ ?_)
 · (repeat' (first|(simp (disch:=omega) only [push_cast,↓zz,seval])|(with_reducible first|refine And.intro ?_ ?_|(first|refine z01 ?_ ?_|refine z00 ?_ ?_)<;>intro hc<;>(try simp only [push_cast] at hc))|omega|with_reducible intro _))
 intro i hi
 refine W_T ?_
 have hp:=ya9 (i + 1)
 rw [Int.pow_succ] at hp
 (repeat' (first|(simp (disch:=omega) only [push_cast,↓zz,seval])|(with_reducible first|refine And.intro ?_ ?_|(first|refine z01 ?_ ?_|refine z00 ?_ ?_)<;>intro hc<;>(try simp only [push_cast] at hc))|omega|with_reducible intro _))
 · refine ⟨i + 1,?_⟩
   have hp:=hp (by omega)
   (repeat' (first|(simp (disch:=omega) only [push_cast,↓zz,seval,Int.pow_succ])|(with_reducible first|refine And.intro ?_ ?_|(first|refine z01 ?_ ?_|refine z00 ?_ ?_)<;>intro hc<;>(try simp only [push_cast] at hc))|omega|with_reducible intro _))
 · obtain rfl:n=i:=by omega
   rfl
def valP (p:Part) (x:Int):Int:=x / 2 ^ p.drop.toNat % 2 ^ p.take.toNat * 2 ^ p.up.toNat
def valB (p:Part) (x:Int):Bool:=z2p p && decide (0 ≤ x∧x ≤ 2097151)
def val1 (p:Part) (x:Int):Int:=if valB p x then valP p x else 0
abbrev valV (p:Part) (x:Int):AV:=.tup [.int .i64 (val1 p x),.bool (valB p x)]
theorem z3g {p:Part}:z2p p=true ↔ (0 ≤ p.drop∧p.drop < 21∧1 ≤ p.take∧p.take ≤ 21∧0 ≤ p.up∧p.up < 21∧(p.up=0 ∨ p.take ≤ 6)):=by simp [z2p]
theorem z67 (d:Nat) (h:d ≤ 21):(1:Int) ≤ 2 ^ d∧(2:Int) ^ d ≤ 2097152 :=
 ⟨Int.pow_pos (by decide),by have:=Nat.pow_le_pow_right (n:=2) (by decide) h;have e:((2 ^ d:Nat):Int)=2 ^ d:=(by simp);rw [← e];omega⟩
theorem y0l {p:Part} {x:Int} (hb:z2p p=true) (hx:0 ≤ x∧x ≤ 2097151) :
   IntKind.i64.wrap (z8c .and .i64 (x.fdiv (2 ^ min p.drop.toNat IntKind.i64.bits)) (IntKind.i64.wrap (IntKind.i64.wrap (1 * 2 ^ min p.take.toNat IntKind.i64.bits) - 1)) * 2 ^ min p.up.toNat IntKind.i64.bits)=valP p x:=by
 rw [z3g] at hb
 have e1:min p.drop.toNat IntKind.i64.bits=p.drop.toNat:=Nat.min_eq_left (by show _ ≤ 64;omega)
 have e2:min p.take.toNat IntKind.i64.bits=p.take.toNat:=Nat.min_eq_left (by show _ ≤ 64;omega)
 have e3:min p.up.toNat IntKind.i64.bits=p.up.toNat:=Nat.min_eq_left (by show _ ≤ 64;omega)
 rw [e1,e2,e3]
 have hd:=z67 p.drop.toNat (by omega)
 have ht:=z67 p.take.toNat (by omega)
 have hu:=z67 p.up.toNat (by omega)
 rw [Int.one_mul,IntWalk.i64_in (2 ^ p.take.toNat) (by omega),IntWalk.i64_in (2 ^ p.take.toNat - 1) (by omega),zu2 _ _ (by omega)]
 have q0:0 ≤ x / 2 ^ p.drop.toNat:=Int.ediv_nonneg hx.1 (by omega)
 have q1:x / 2 ^ p.drop.toNat ≤ x:=Int.ediv_le_self _ hx.1
 have m0:=Int.emod_nonneg (x / 2 ^ p.drop.toNat) (b:=2 ^ p.take.toNat) (by omega)
 have m1:=Int.emod_lt_of_pos (x / 2 ^ p.drop.toNat) (b:=2 ^ p.take.toNat) (by omega)
 rw [zu3 p.take.toNat ⟨q0,by show _ < (2:Int) ^ 64;omega⟩ (by show _ ≤ 64;omega) (IntWalk.i64_in _ (by omega))]
 refine IntWalk.i64_in _ ?_
 have:x / 2 ^ p.drop.toNat % 2 ^ p.take.toNat * 2 ^ p.up.toNat ≤ 2097152 * 2097152:=Int.mul_le_mul (by omega) (by omega) (by omega) (by omega)
 have:0 ≤ x / 2 ^ p.drop.toNat % 2 ^ p.take.toNat * 2 ^ p.up.toNat:=Int.mul_nonneg (by omega) (by omega)
 omega
theorem zar {p:Part} {x:Int} (hb:z2p p=true) (hx:0 ≤ x∧x ≤ 2097151):valB p x=true∧val1 p x=valP p x:=by
 have:valB p x=true:=by simp only [valB,hb,Bool.true_and,decide_eq_true_eq];exact hx
 exact ⟨this,by rw [val1,this];rfl⟩
theorem yaa {p:Part} {x:Int} (h:z2p p=false ∨ x < 0 ∨ 2097151 < x):valB p x=false∧val1 p x=0:=by
 have:valB p x=false:=by
   simp only [valB,Bool.and_eq_false_iff,decide_eq_false_iff_not]
   rcases h with h|h
   · exact .inl h
   · exact .inr (by omega)
 exact ⟨this,by rw [val1,this];rfl⟩
theorem y6d {p:Part} {x:Int} (hb:z2p p=true) (hx:0 ≤ x∧x ≤ 2097151):IntKind.i64.wrap ((IntKind.i64.wrap (x.tdiv (2 ^ p.drop.toNat))).tmod (2 ^ p.take.toNat) * 2 ^ p.up.toNat)=valP p x:=by
 rw [z3g] at hb
 have hd:=z67 p.drop.toNat (by omega)
 have ht:=z67 p.take.toNat (by omega)
 have hu:=z67 p.up.toNat (by omega)
 have q0:0 ≤ x / 2 ^ p.drop.toNat:=Int.ediv_nonneg hx.1 (by omega)
 have q1:x / 2 ^ p.drop.toNat ≤ x:=Int.ediv_le_self _ hx.1
 have m0:=Int.emod_nonneg (x / 2 ^ p.drop.toNat) (b:=2 ^ p.take.toNat) (by omega)
 have m1:=Int.emod_lt_of_pos (x / 2 ^ p.drop.toNat) (b:=2 ^ p.take.toNat) (by omega)
 rw [IntWalk.i64_quo _ _ (by omega),IntWalk.rem_in _ _ q0]
 refine IntWalk.i64_in _ ?_
 have:x / 2 ^ p.drop.toNat % 2 ^ p.take.toNat * 2 ^ p.up.toNat ≤ 2097152 * 2097152:=Int.mul_le_mul (by omega) (by omega) (by omega) (by omega)
 have:0 ≤ x / 2 ^ p.drop.toNat % 2 ^ p.take.toNat * 2 ^ p.up.toNat:=Int.mul_nonneg (by omega) (by omega)
 omega
theorem zif {p:Part} {x:Int} (h:z2p p=false ∨ x < 0 ∨ 2097151 < x):valV p x=.tup [.int .i64 0,.bool false]:=by
 obtain ⟨h1,h2⟩:=yaa h
 simp only [valV,h1,h2]
theorem znc {p:Part} {x:Int} (hb:z2p p=true) (hx:0 ≤ x∧x ≤ 2097151):valV p x=.tup [.int .i64 (valP p x),.bool true]:=by
 obtain ⟨h1,h2⟩:=zar hb hx
 simp only [valV,h1,h2]
theorem zs3 (p:Part) (x:Int):PC Try.prog 124 [z1t p,.int .i64 x] (valV p x):=by
 refine z0s zky ?_
 unfold zbz
 (repeat' (first|(simp (disch:=omega) only [push_cast,↓zz,seval])|(with_reducible first|refine And.intro ?_ ?_|(first|refine z01 ?_ ?_|refine z00 ?_ ?_)<;>intro hc<;>(try simp only [push_cast] at hc))|(have q_:=z65 p;(with_reducible first|refine eK q_ ?_|refine eQ q_ ?_|refine eG q_ ?_);clear q_)|(have q_:=z65 p;(with_reducible first|refine cK q_ ?_|refine cQ q_ ?_|refine cG q_ ?_);clear q_;(simp (disch:=omega) only [push_cast,↓zz,seval]);(fail_if_success (with_reducible change False)))|omega|with_reducible intro _))
 all_goals first|(have hb:=z3g.1 ‹z2p p=true›;omega)|(rw [zif (.inl ‹_›)];(repeat' (first|(simp (disch:=omega) only [push_cast,↓zz,seval,z1e])|omega|(with_reducible refine And.intro ?_ ?_)));done)|(rw [zif (.inr (by omega))];(repeat' (first|(simp (disch:=omega) only [push_cast,↓zz,seval,z1e])|omega|(with_reducible refine And.intro ?_ ?_)));done)|(rw [znc ‹_› (by omega)];(repeat' (first|(simp (disch:=omega) only [push_cast,↓zz,seval,z1e])|omega|(with_reducible refine And.intro ?_ ?_)));exact y0l ‹_› (by omega))
theorem znd (p:Part) (x:Int):PC Try.prog 90 [z1t p,.int .i64 x] (valV p x):=by
 refine z0s zi6 ?_
 unfold z9v
 (repeat' (first|(simp (disch:=omega) only [push_cast,↓zz,seval])|(with_reducible first|refine And.intro ?_ ?_|(first|refine z01 ?_ ?_|refine z00 ?_ ?_)<;>intro hc<;>(try simp only [push_cast] at hc))|(have q_:=z81 p;(with_reducible first|refine eK q_ ?_|refine eQ q_ ?_|refine eG q_ ?_);clear q_)|(have q_:=z6q p.drop (by have hb:=z3g.1 ‹z2p p=true›;omega);(with_reducible first|refine eK q_ ?_|refine eQ q_ ?_|refine eG q_ ?_);clear q_)|(have q_:=z6q p.take (by have hb:=z3g.1 ‹z2p p=true›;omega);(with_reducible first|refine eK q_ ?_|refine eQ q_ ?_|refine eG q_ ?_);clear q_)|(have q_:=z6q p.up (by have hb:=z3g.1 ‹z2p p=true›;omega);(with_reducible first|refine eK q_ ?_|refine eQ q_ ?_|refine eG q_ ?_);clear q_)|(have q_:=z81 p;(with_reducible first|refine cK q_ ?_|refine cQ q_ ?_|refine cG q_ ?_);clear q_;(simp (disch:=omega) only [push_cast,↓zz,seval]);(fail_if_success (with_reducible change False)))|(have q_:=z6q p.drop (by have hb:=z3g.1 ‹z2p p=true›;omega);(with_reducible first|refine cK q_ ?_|refine cQ q_ ?_|refine cG q_ ?_);clear q_;(simp (disch:=omega) only [push_cast,↓zz,seval]);(fail_if_success (with_reducible change False)))|(have q_:=z6q p.take (by have hb:=z3g.1 ‹z2p p=true›;omega);(with_reducible first|refine cK q_ ?_|refine cQ q_ ?_|refine cG q_ ?_);clear q_;(simp (disch:=omega) only [push_cast,↓zz,seval]);(fail_if_success (with_reducible change False)))|(have q_:=z6q p.up (by have hb:=z3g.1 ‹z2p p=true›;omega);(with_reducible first|refine cK q_ ?_|refine cQ q_ ?_|refine cG q_ ?_);clear q_;(simp (disch:=omega) only [push_cast,↓zz,seval]);(fail_if_success (with_reducible change False)))|omega|with_reducible intro _))
 all_goals first|(rw [zif (.inl ‹_›)];(repeat' (first|(simp (disch:=omega) only [push_cast,↓zz,seval,z1e])|omega|(with_reducible refine And.intro ?_ ?_)));done)|(rw [zif (.inr (by omega))];(repeat' (first|(simp (disch:=omega) only [push_cast,↓zz,seval,z1e])|omega|(with_reducible refine And.intro ?_ ?_)));done)|(have hp:=z67 p.drop.toNat (by have hb:=z3g.1 ‹z2p p=true›;omega);omega)|(have hp:=z67 p.take.toNat (by have hb:=z3g.1 ‹z2p p=true›;omega);omega)|(rw [znc ‹_› (by omega)];(repeat' (first|(simp (disch:=omega) only [push_cast,↓zz,seval,z1e])|omega|(with_reducible refine And.intro ?_ ?_)));exact y6d ‹_› (by omega))
theorem z3h (s:Int):PC Try.prog 37 [.int .i64 s] (z03 (domL s)):=by
 refine z0s zhz ?_
 unfold z9o
 (repeat' (first|(simp (disch:=omega) only [push_cast,↓zz,seval])|(with_reducible first|refine And.intro ?_ ?_|(first|refine z01 ?_ ?_|refine z00 ?_ ?_)<;>intro hc<;>(try simp only [push_cast] at hc))|omega|with_reducible intro _))
 all_goals (simp only [domL, *];rfl)
abbrev Term.outer (t:Term):Part:=⟨0,t.drop,t.take,t.up⟩
theorem z68 (t:Term):PC Try.prog 83 [z1n t] (z1t t.outer):=by
 refine z0s zks ?_
 unfold zbt
 (repeat' (first|(simp (disch:=omega) only [push_cast,↓zz,seval])|(with_reducible first|refine And.intro ?_ ?_|(first|refine z01 ?_ ?_|refine z00 ?_ ?_)<;>intro hc<;>(try simp only [push_cast] at hc))|omega|with_reducible intro _))
theorem za4 (t:Term):PC Try.prog 105 [z1n t] (z1t t.outer):=by
 refine z0s zia ?_
 unfold z9z
 (repeat' (first|(simp (disch:=omega) only [push_cast,↓zz,seval])|(with_reducible first|refine And.intro ?_ ?_|(first|refine z01 ?_ ?_|refine z00 ?_ ?_)<;>intro hc<;>(try simp only [push_cast] at hc))|omega|with_reducible intro _))
def zc1 (t:Term):Bool:=decide (t.base=0∧t.drop=0∧t.take=21∧t.up=0)
def z52 (p:Part):Bool:=decide (p.drop=0∧p.take=21∧p.up=0)
theorem zig (p:Part):PC Try.prog 87 [z1t p] (.bool (z52 p)):=by
 refine z0s zn2 ?_
 unfold zdn
 (repeat' (first|(simp (disch:=omega) only [push_cast,↓zz,seval])|(with_reducible first|refine And.intro ?_ ?_|(first|refine z01 ?_ ?_|refine z00 ?_ ?_)<;>intro hc<;>(try simp only [push_cast] at hc))|omega|with_reducible intro _))
 all_goals (unfold z52;first|(refine zjz ?_;omega)|(refine zk0 ?_;omega)|(refine zaj ?_;omega))
theorem zl0 (t:Term):PC Try.prog 88 [z1n t] (.bool (zc1 t)):=by
 refine z0s zi5 ?_
 unfold z9u
 (repeat' (first|(simp (disch:=omega) only [push_cast,↓zz,seval])|(with_reducible first|refine And.intro ?_ ?_|(first|refine z01 ?_ ?_|refine z00 ?_ ?_)<;>intro hc<;>(try simp only [push_cast] at hc))|(have q_:=za4 t;(with_reducible first|refine eK q_ ?_|refine eQ q_ ?_|refine eG q_ ?_);clear q_)|(have q_:=zig t.outer;(with_reducible first|refine eK q_ ?_|refine eQ q_ ?_|refine eG q_ ?_);clear q_)|(have q_:=za4 t;(with_reducible first|refine cK q_ ?_|refine cQ q_ ?_|refine cG q_ ?_);clear q_;(simp (disch:=omega) only [push_cast,↓zz,seval]);(fail_if_success (with_reducible change False)))|(have q_:=zig t.outer;(with_reducible first|refine cK q_ ?_|refine cQ q_ ?_|refine cG q_ ?_);clear q_;(simp (disch:=omega) only [push_cast,↓zz,seval]);(fail_if_success (with_reducible change False)))|omega|with_reducible intro _))
 all_goals (simp [zc1,z52,Term.outer, *])
theorem zg9 (t:Term):PC Try.prog 79 [z1n t] (.bool (zc1 t)):=by
 refine z0s zkq ?_
 unfold zbq
 (repeat' (first|(simp (disch:=omega) only [push_cast,↓zz,seval])|(with_reducible first|refine And.intro ?_ ?_|(first|refine z01 ?_ ?_|refine z00 ?_ ?_)<;>intro hc<;>(try simp only [push_cast] at hc))|(have q_:=z68 t;(with_reducible first|refine eK q_ ?_|refine eQ q_ ?_|refine eG q_ ?_);clear q_)|(have q_:=z5c 0;(with_reducible first|refine eK q_ ?_|refine eQ q_ ?_|refine eG q_ ?_);clear q_)|(have q_:=z68 t;(with_reducible first|refine cK q_ ?_|refine cQ q_ ?_|refine cG q_ ?_);clear q_;(simp (disch:=omega) only [push_cast,↓zz,seval]);(fail_if_success (with_reducible change False)))|(have q_:=z5c 0;(with_reducible first|refine cK q_ ?_|refine cQ q_ ?_|refine cG q_ ?_);clear q_;(simp (disch:=omega) only [push_cast,↓zz,seval]);(fail_if_success (with_reducible change False)))|omega|with_reducible intro _))
 all_goals (simp [zc1,z52,Term.outer, *])
def z1m (x:Int):Bool:=decide (-1114111 ≤ x∧x ≤ 1114111)
theorem z83 (x:Int):PC Try.prog 97 [.int .i64 x] (.bool (z1m x)):=by
 refine z0s zkv ?_
 unfold zbw
 (repeat' (first|(simp (disch:=omega) only [push_cast,↓zz,seval])|(with_reducible first|refine And.intro ?_ ?_|(first|refine z01 ?_ ?_|refine z00 ?_ ?_)<;>intro hc<;>(try simp only [push_cast] at hc))|omega|with_reducible intro _))
 all_goals (unfold z1m;first|(refine zjz ?_;omega)|(refine zk0 ?_;omega)|(refine zaj ?_;omega))
theorem za5 (x:Int):PC Try.prog 103 [.int .i64 x] (.bool (z1m x)):=by
 refine z0s zi9 ?_
 unfold z9y
 (repeat' (first|(simp (disch:=omega) only [push_cast,↓zz,seval])|(with_reducible first|refine And.intro ?_ ?_|(first|refine z01 ?_ ?_|refine z00 ?_ ?_)<;>intro hc<;>(try simp only [push_cast] at hc))|omega|with_reducible intro _))
 all_goals (unfold z1m;first|(refine zjz ?_;omega)|(refine zk0 ?_;omega)|(refine zaj ?_;omega))
def z7e:List Part→Bool
 | p :: q :: l=>decide (p.up < q.up) && z7e (q :: l)
 | _=>true
theorem za6:∀ {l:List Part} {i:Nat},i + 1 < l.length→z7e (l.drop i)=(decide ((nth l i).up < (nth l (i + 1)).up) && z7e (l.drop (i + 1)))
 | [],i,h=>by simp at h
 | [p],i,h=>by simp at h
 | p :: q :: l,0,_=>rfl
 | p :: q :: l,i + 1,h=>by
   exact za6 (l:=q :: l) (i:=i) (by simpa using h)
theorem zl1 {l:List Part} {i:Nat} (h:l.length ≤ i + 1):z7e (l.drop i)=true:=by
 match hl:l.drop i with
 | []=>rfl
 | [p]=>rfl
 | p :: q :: r=>have:=congrArg List.length hl;simp at this;omega
theorem zdy (l:List Part) (hl:l.length < 1000000000000):PC Try.prog 98 [z0t l] (.bool (z7e l && decide (l.length ≤ 4))):=by
 refine z0s zi8 ?_
 unfold z9x
 (repeat' (first|(simp (disch:=omega) only [push_cast,↓zz,seval])|(with_reducible first|refine And.intro ?_ ?_|(first|refine z01 ?_ ?_|refine z00 ?_ ?_)<;>intro hc<;>(try simp only [push_cast] at hc))|omega|with_reducible intro _))
 refine z0i (z0j (fun (i:Nat)=>i ≤ l.length∧z7e l=z7e (l.drop (i - 1))) (fun i=>l.length - i) (fun i=>[(0,z0t l),(5,z0t l),(6,.int .i64 l.length),(7,.int .i64 i)]) (fun _=>[]) (fun _ _=>[]) 0 (by simp) ?_ ?_)
 · (repeat' (first|(simp (disch:=omega) only [push_cast,↓zz,seval])|(with_reducible first|refine And.intro ?_ ?_|(first|refine z01 ?_ ?_|refine z00 ?_ ?_)<;>intro hc<;>(try simp only [push_cast] at hc))|omega|with_reducible intro _))
 rintro i ⟨hi,hr⟩
 refine W_T ?_
 (repeat' (first|(simp (disch:=omega) only [push_cast,↓zz,seval])|(with_reducible first|refine And.intro ?_ ?_|(first|refine z01 ?_ ?_|refine z00 ?_ ?_)<;>intro hc<;>(try simp only [push_cast] at hc))|omega|with_reducible intro _))
 · rename_i h1 h2
   rw [hr,za6 (i:=i - 1) (by omega),show i - 1 + 1=i by omega]
   have:¬ (nth l (i - 1)).up < (nth l i).up:=by omega
   simp [this]
 · refine ⟨i + 1,?_⟩
   (repeat' (first|(simp (disch:=omega) only [push_cast,↓zz,seval])|(with_reducible first|refine And.intro ?_ ?_|(first|refine z01 ?_ ?_|refine z00 ?_ ?_)<;>intro hc<;>(try simp only [push_cast] at hc))|omega|with_reducible intro _))
   rw [hr,za6 (i:=i - 1) (by omega),show i - 1 + 1=i by omega]
   have:(nth l (i - 1)).up < (nth l i).up:=by omega
   simp [this]
 · refine ⟨i + 1,?_⟩
   (repeat' (first|(simp (disch:=omega) only [push_cast,↓zz,seval])|(with_reducible first|refine And.intro ?_ ?_|(first|refine z01 ?_ ?_|refine z00 ?_ ?_)<;>intro hc<;>(try simp only [push_cast] at hc))|omega|with_reducible intro _))
   obtain rfl:i=0:=by omega
   exact hr
 · rw [hr,zl1 (i:=i - 1) (by omega),Bool.true_and]
   exact zaj (by omega)
def z1p (t:Term):Bool:=z1m t.base && z1m t.sum && z2p t.outer && (z7e t.parts && decide (t.parts.length ≤ 4))
theorem zne (t:Term):z2w t.outer 1=z2p t.outer:=by simp [z2w]
theorem zdz (t:Term):PC Try.prog 78 [z1t t.outer,.int .i64 1] (.bool (z2p t.outer)):=by rw [← zne];exact z82 t.outer 1
theorem z7f (t:Term) (hl:t.parts.length < 1000000000000):PC Try.prog 77 [z1n t] (.bool (z1p t)):=by
 refine z0s zfc ?_
 unfold z8l
 (repeat' (first|(simp (disch:=omega) only [push_cast,↓zz,seval])|(with_reducible first|refine And.intro ?_ ?_|(first|refine z01 ?_ ?_|refine z00 ?_ ?_)<;>intro hc<;>(try simp only [push_cast] at hc))|(have q_:=z83 t.base;(with_reducible first|refine eK q_ ?_|refine eQ q_ ?_|refine eG q_ ?_);clear q_)|(have q_:=z83 t.sum;(with_reducible first|refine eK q_ ?_|refine eQ q_ ?_|refine eG q_ ?_);clear q_)|(have q_:=z68 t;(with_reducible first|refine eK q_ ?_|refine eQ q_ ?_|refine eG q_ ?_);clear q_)|(have q_:=zdz t;(with_reducible first|refine eK q_ ?_|refine eQ q_ ?_|refine eG q_ ?_);clear q_)|(have q_:=zdy t.parts hl;(with_reducible first|refine eK q_ ?_|refine eQ q_ ?_|refine eG q_ ?_);clear q_)|(have q_:=z83 t.base;(with_reducible first|refine cK q_ ?_|refine cQ q_ ?_|refine cG q_ ?_);clear q_;(simp (disch:=omega) only [push_cast,↓zz,seval]);(fail_if_success (with_reducible change False)))|(have q_:=z83 t.sum;(with_reducible first|refine cK q_ ?_|refine cQ q_ ?_|refine cG q_ ?_);clear q_;(simp (disch:=omega) only [push_cast,↓zz,seval]);(fail_if_success (with_reducible change False)))|(have q_:=z68 t;(with_reducible first|refine cK q_ ?_|refine cQ q_ ?_|refine cG q_ ?_);clear q_;(simp (disch:=omega) only [push_cast,↓zz,seval]);(fail_if_success (with_reducible change False)))|(have q_:=zdz t;(with_reducible first|refine cK q_ ?_|refine cQ q_ ?_|refine cG q_ ?_);clear q_;(simp (disch:=omega) only [push_cast,↓zz,seval]);(fail_if_success (with_reducible change False)))|(have q_:=zdy t.parts hl;(with_reducible first|refine cK q_ ?_|refine cQ q_ ?_|refine cG q_ ?_);clear q_;(simp (disch:=omega) only [push_cast,↓zz,seval]);(fail_if_success (with_reducible change False)))|omega|with_reducible intro _))
 all_goals (simp [z1p, *])
theorem ze0 (t:Term) (hl:t.parts.length < 1000000000000):PC Try.prog 85 [z1n t] (.bool (z1p t)):=by
 refine z0s zdm ?_
 unfold z7a
 (repeat' (first|(simp (disch:=omega) only [push_cast,↓zz,seval])|(with_reducible first|refine And.intro ?_ ?_|(first|refine z01 ?_ ?_|refine z00 ?_ ?_)<;>intro hc<;>(try simp only [push_cast] at hc))|(have q_:=za5 t.base;(with_reducible first|refine eK q_ ?_|refine eQ q_ ?_|refine eG q_ ?_);clear q_)|(have q_:=za5 t.sum;(with_reducible first|refine eK q_ ?_|refine eQ q_ ?_|refine eG q_ ?_);clear q_)|(have q_:=za4 t;(with_reducible first|refine eK q_ ?_|refine eQ q_ ?_|refine eG q_ ?_);clear q_)|(have q_:=z81 t.outer;(with_reducible first|refine eK q_ ?_|refine eQ q_ ?_|refine eG q_ ?_);clear q_)|(have q_:=za5 t.base;(with_reducible first|refine cK q_ ?_|refine cQ q_ ?_|refine cG q_ ?_);clear q_;(simp (disch:=omega) only [push_cast,↓zz,seval]);(fail_if_success (with_reducible change False)))|(have q_:=za5 t.sum;(with_reducible first|refine cK q_ ?_|refine cQ q_ ?_|refine cG q_ ?_);clear q_;(simp (disch:=omega) only [push_cast,↓zz,seval]);(fail_if_success (with_reducible change False)))|(have q_:=za4 t;(with_reducible first|refine cK q_ ?_|refine cQ q_ ?_|refine cG q_ ?_);clear q_;(simp (disch:=omega) only [push_cast,↓zz,seval]);(fail_if_success (with_reducible change False)))|(have q_:=z81 t.outer;(with_reducible first|refine cK q_ ?_|refine cQ q_ ?_|refine cG q_ ?_);clear q_;(simp (disch:=omega) only [push_cast,↓zz,seval]);(fail_if_success (with_reducible change False)))|omega|with_reducible intro _))
 · have:¬ t.parts.length ≤ 4:=by omega
   simp [z1p,this]
 · have hn:z1p t=z7e t.parts:=by
     have:t.parts.length ≤ 4:=by omega
     simp [z1p, *]
   rw [hn]
   refine z0i (z0j (fun (i:Nat)=>i ≤ t.parts.length∧z7e t.parts=z7e (t.parts.drop i)) (fun i=>t.parts.length - i) (fun i=>[(1,.ptr 0 1 0 0),(3,.int .i64 (i + 1))]) (fun _=>[⟨6,1,true,[z1n t]⟩]) (fun env _=>[z0p 0 (env 1)]) 0 (by simp) ?_ ?_)
   · (repeat' (first|(simp (disch:=omega) only [push_cast,↓zz,seval])|(with_reducible first|refine And.intro ?_ ?_|(first|refine z01 ?_ ?_|refine z00 ?_ ?_)<;>intro hc<;>(try simp only [push_cast] at hc))|omega|with_reducible intro _))
   rintro i ⟨hi,hr⟩
   refine W_T ?_
   (repeat' (first|(simp (disch:=omega) only [push_cast,↓zz,seval])|(with_reducible first|refine And.intro ?_ ?_|(first|refine z01 ?_ ?_|refine z00 ?_ ?_)<;>intro hc<;>(try simp only [push_cast] at hc))|omega|with_reducible intro _))
   · rw [hr,za6 (i:=i) (by omega)]
     have:¬ (nth t.parts i).up < (nth t.parts (i + 1)).up:=by omega
     simp [this]
   · refine ⟨i + 1,?_⟩
     (repeat' (first|(simp (disch:=omega) only [push_cast,↓zz,seval])|(with_reducible first|refine And.intro ?_ ?_|(first|refine z01 ?_ ?_|refine z00 ?_ ?_)<;>intro hc<;>(try simp only [push_cast] at hc))|omega|with_reducible intro _))
     rw [hr,za6 (i:=i) (by omega)]
     have:(nth t.parts i).up < (nth t.parts (i + 1)).up:=by omega
     simp [this]
   · rw [hr,zl1 (i:=i) (by omega)]
 all_goals (simp [z1p, *])
def zl2 (s:Int):Bool:=decide (s=1 ∨ s=2)
def z2q (i n:Int) (l:List Part):Bool:=l.all fun p=>z2w p n && (decide (i ≠ 2) || z52 p)
def z4g (t:Term) (i o n:Int):Bool:=zl2 i && zl2 o && z1p t && z2q i n t.parts && (decide (i ≠ 2) || decide (t.parts.length ≤ 1)) && (decide (o ≠ 2) || zc1 t)
theorem zih (s:Int):decide (((domL s).length:Int)=0)=!zl2 s:=by
 unfold domL zl2
 split
 · subst_vars;decide
 · split
   · subst_vars;decide
   · simp [*]
theorem y2a (l:List Part):(l.length ≤ 1)=((l.length:Int) ≤ 1):=by simp only [eq_iff_iff];omega
theorem zs4 (t:Term) (i o n:Int) (hl:t.parts.length < 1000000000000):PC Try.prog 67 [z1n t,.int .i64 i,.int .i64 o,.int .i64 n] (.bool (z4g t i o n)):=by
 refine z0s zkn ?_
 unfold zbn
 (repeat' (first|(simp (disch:=omega) only [push_cast,↓zz,seval,zih])|(with_reducible first|refine And.intro ?_ ?_|(first|refine z01 ?_ ?_|refine z00 ?_ ?_)<;>intro hc<;>(try simp only [push_cast] at hc))|(have q_:=z3h i;(with_reducible first|refine eK q_ ?_|refine eQ q_ ?_|refine eG q_ ?_);clear q_)|(have q_:=z3h o;(with_reducible first|refine eK q_ ?_|refine eQ q_ ?_|refine eG q_ ?_);clear q_)|(have q_:=z7f t hl;(with_reducible first|refine eK q_ ?_|refine eQ q_ ?_|refine eG q_ ?_);clear q_)|(have q_:=z3h i;(with_reducible first|refine cK q_ ?_|refine cQ q_ ?_|refine cG q_ ?_);clear q_;(simp (disch:=omega) only [push_cast,↓zz,seval,zih]);(fail_if_success (with_reducible change False)))|(have q_:=z3h o;(with_reducible first|refine cK q_ ?_|refine cQ q_ ?_|refine cG q_ ?_);clear q_;(simp (disch:=omega) only [push_cast,↓zz,seval,zih]);(fail_if_success (with_reducible change False)))|(have q_:=z7f t hl;(with_reducible first|refine cK q_ ?_|refine cQ q_ ?_|refine cG q_ ?_);clear q_;(simp (disch:=omega) only [push_cast,↓zz,seval,zih]);(fail_if_success (with_reducible change False)))|omega|with_reducible intro _))
 · simp [z4g, *]
 · have hn:z4g t i o n=(z2q i n t.parts && (decide (i ≠ 2) || decide ((t.parts.length:Int) ≤ 1)) && (decide (o ≠ 2) || zc1 t)):=by simp [z4g,y2a, *]
   rw [hn]
   refine z0i (z0j (fun (k:Nat)=>k ≤ t.parts.length∧z2q i n t.parts=z2q i n (t.parts.drop k)) (fun k=>t.parts.length - k) (fun k=>[(1,.int .i64 i),(2,.int .i64 o),(3,.int .i64 n),(4,.ptr 0 1 0 0),(27,z0t t.parts),(28,.int .i64 t.parts.length),(29,.int .i64 k)]) (fun _=>[⟨6,1,true,[z1n t]⟩]) (fun env _=>[z0p 0 (env 4)]) 0 (by simp) ?_ ?_)
   · (repeat' (first|(simp (disch:=omega) only [push_cast,↓zz,seval])|(with_reducible first|refine And.intro ?_ ?_|(first|refine z01 ?_ ?_|refine z00 ?_ ?_)<;>intro hc<;>(try simp only [push_cast] at hc))|omega|with_reducible intro _))
   rintro k ⟨hi,hr⟩
   refine W_T ?_
   (repeat' (first|(simp (disch:=omega) only [push_cast,↓zz,seval])|(with_reducible first|refine And.intro ?_ ?_|(first|refine z01 ?_ ?_|refine z00 ?_ ?_)<;>intro hc<;>(try simp only [push_cast] at hc))|(have q_:=z82 (nth t.parts k) n;(with_reducible first|refine eK q_ ?_|refine eQ q_ ?_|refine eG q_ ?_);clear q_)|(have q_:=z5c (nth t.parts k).at_;(with_reducible first|refine eK q_ ?_|refine eQ q_ ?_|refine eG q_ ?_);clear q_)|(have q_:=zg9 t;(with_reducible first|refine eK q_ ?_|refine eQ q_ ?_|refine eG q_ ?_);clear q_)|(have q_:=z82 (nth t.parts k) n;(with_reducible first|refine cK q_ ?_|refine cQ q_ ?_|refine cG q_ ?_);clear q_;(simp (disch:=omega) only [push_cast,↓zz,seval]);(fail_if_success (with_reducible change False)))|(have q_:=z5c (nth t.parts k).at_;(with_reducible first|refine cK q_ ?_|refine cQ q_ ?_|refine cG q_ ?_);clear q_;(simp (disch:=omega) only [push_cast,↓zz,seval]);(fail_if_success (with_reducible change False)))|(have q_:=zg9 t;(with_reducible first|refine cK q_ ?_|refine cQ q_ ?_|refine cG q_ ?_);clear q_;(simp (disch:=omega) only [push_cast,↓zz,seval]);(fail_if_success (with_reducible change False)))|omega|with_reducible intro _))
   all_goals (first|(refine ⟨k + 1,?_⟩;(repeat' (first|(simp (disch:=omega) only [push_cast,↓zz,seval])|(with_reducible first|refine And.intro ?_ ?_|(first|refine z01 ?_ ?_|refine z00 ?_ ?_)<;>intro hc<;>(try simp only [push_cast] at hc))|omega|with_reducible intro _));(try (first|(rw [hr,drop_at (by omega)];simp [z2q,z52, *];done)|(rw [hr,List.drop_of_length_le (by omega)];simp [z2q,z52, *];done)|(simp [z2q,z52, *];done)));done)|(first|(rw [hr,drop_at (by omega)];simp [z2q,z52, *];done)|(rw [hr,List.drop_of_length_le (by omega)];simp [z2q,z52, *];done)|(simp [z2q,z52, *];done)))
 all_goals (simp [z4g, *])
theorem zvy (t:Term) (i o n:Int) (hl:t.parts.length < 1000000000000):PC Try.prog 71 [z1n t,.int .i64 i,.int .i64 o,.int .i64 n] (.bool (z4g t i o n)):=by
 refine z0s zi2 ?_
 unfold z9r
 (repeat' (first|(simp (disch:=omega) only [push_cast,↓zz,seval])|(with_reducible first|refine And.intro ?_ ?_|(first|refine z01 ?_ ?_|refine z00 ?_ ?_)<;>intro hc<;>(try simp only [push_cast] at hc))|(have q_:=ze0 t hl;(with_reducible first|refine eK q_ ?_|refine eQ q_ ?_|refine eG q_ ?_);clear q_)|(have q_:=ze0 t hl;(with_reducible first|refine cK q_ ?_|refine cQ q_ ?_|refine cG q_ ?_);clear q_;(simp (disch:=omega) only [push_cast,↓zz,seval]);(fail_if_success (with_reducible change False)))|omega|with_reducible intro _))
 all_goals first
   | (simp [z4g,zl2, *];done)
   | ((have hn:z4g t i o n=(z2q i n t.parts && (decide (i ≠ 2) || decide ((t.parts.length:Int) ≤ 1)) && (decide (o ≠ 2) || zc1 t)):=by simp [z4g,zl2,y2a, *])
      rw [hn]
      refine z0i (z0j (fun (k:Nat)=>k ≤ t.parts.length∧z2q i n t.parts=z2q i n (t.parts.drop k)∧(i=2→k ≤ 1)) (fun k=>t.parts.length - k) (fun k=>[(1,.int .i64 i),(2,.int .i64 o),(3,.int .i64 n),(4,.ptr 0 1 0 0),(9,.int .i64 k)]) (fun _=>[⟨6,1,true,[z1n t]⟩]) (fun env _=>[z0p 0 (env 4)]) 0 (by simp) ?_ ?_)
      · (repeat' (first|(simp (disch:=omega) only [push_cast,↓zz,seval])|(with_reducible first|refine And.intro ?_ ?_|(first|refine z01 ?_ ?_|refine z00 ?_ ?_)<;>intro hc<;>(try simp only [push_cast] at hc))|omega|with_reducible intro _))
      rintro k ⟨hi,hr,hk⟩
      refine W_T ?_
      (repeat' (first|(simp (disch:=omega) only [push_cast,↓zz,seval])|(with_reducible first|refine And.intro ?_ ?_|(first|refine z01 ?_ ?_|refine z00 ?_ ?_)<;>intro hc<;>(try simp only [push_cast] at hc))|(have q_:=zdx (nth t.parts k) n;(with_reducible first|refine eK q_ ?_|refine eQ q_ ?_|refine eG q_ ?_);clear q_)|(have q_:=zig (nth t.parts k);(with_reducible first|refine eK q_ ?_|refine eQ q_ ?_|refine eG q_ ?_);clear q_)|(have q_:=zl0 t;(with_reducible first|refine eK q_ ?_|refine eQ q_ ?_|refine eG q_ ?_);clear q_)|(have q_:=zdx (nth t.parts k) n;(with_reducible first|refine cK q_ ?_|refine cQ q_ ?_|refine cG q_ ?_);clear q_;(simp (disch:=omega) only [push_cast,↓zz,seval]);(fail_if_success (with_reducible change False)))|(have q_:=zig (nth t.parts k);(with_reducible first|refine cK q_ ?_|refine cQ q_ ?_|refine cG q_ ?_);clear q_;(simp (disch:=omega) only [push_cast,↓zz,seval]);(fail_if_success (with_reducible change False)))|(have q_:=zl0 t;(with_reducible first|refine cK q_ ?_|refine cQ q_ ?_|refine cG q_ ?_);clear q_;(simp (disch:=omega) only [push_cast,↓zz,seval]);(fail_if_success (with_reducible change False)))|omega|with_reducible intro _))
      all_goals first
        | (first|(refine ⟨k + 1,?_⟩;(repeat' (first|(simp (disch:=omega) only [push_cast,↓zz,seval])|(with_reducible first|refine And.intro ?_ ?_|(first|refine z01 ?_ ?_|refine z00 ?_ ?_)<;>intro hc<;>(try simp only [push_cast] at hc))|omega|with_reducible intro _));(try (first|(rw [hr,drop_at (by omega)];simp [z2q, *];done)|(rw [hr,List.drop_of_length_le (by omega)];simp [z2q, *];done)|(simp [z2q, *];done)));done)|(first|(rw [hr,drop_at (by omega)];simp [z2q, *];done)|(rw [hr,List.drop_of_length_le (by omega)];simp [z2q, *];done)|(simp [z2q, *];done)))
        | ((have h2:¬ (t.parts.length:Int) ≤ 1:=by omega);simp [h2, *];done)
        | (rw [hr,List.drop_of_length_le (by omega)];(have h2:i=2→(t.parts.length:Int) ≤ 1:=by omega);by_cases h3:i=2<;>simp [z2q, *];done)
        )
theorem znf (l:List Part) (hl:l.length ≤ 1000000000000):PC Try.prog 65 [z0t l] (z0t l):=by
 by_cases h0:l=[]
 · subst h0
   refine y25 ?_ ?_
   · refine z0s z1z ?_
     unfold z1j
     (repeat' (first|(simp (disch:=omega) only [push_cast,↓zz,seval])|(with_reducible first|refine And.intro ?_ ?_|(first|refine z01 ?_ ?_|refine z00 ?_ ?_)<;>intro hc<;>(try simp only [push_cast] at hc))|omega|with_reducible intro _))
   · refine z0s z1z ?_
     unfold z1j
     (repeat' (first|(simp (disch:=omega) only [push_cast,↓zz,seval])|(with_reducible first|refine And.intro ?_ ?_|(first|refine z01 ?_ ?_|refine z00 ?_ ?_)<;>intro hc<;>(try simp only [push_cast] at hc))|omega|with_reducible intro _))
 · refine z0s z1z ?_
   unfold z1j
   (repeat' (first|(simp (disch:=omega) only [push_cast,↓zz,seval,h0])|(with_reducible first|refine And.intro ?_ ?_|(first|refine z01 ?_ ?_|refine z00 ?_ ?_)<;>intro hc<;>(try simp only [push_cast] at hc))|omega|with_reducible intro _))
theorem zvz (a x:Int):PC Try.prog 38 [.int .i64 a,.int .i64 x] (z1n ⟨0,0,21,0,x,[⟨a,0,21,0⟩]⟩):=by
 refine z0s zmu ?_
 unfold zdd
 (repeat' (first|(simp (disch:=omega) only [push_cast,↓zz,seval])|(with_reducible first|refine And.intro ?_ ?_|(first|refine z01 ?_ ?_|refine z00 ?_ ?_)<;>intro hc<;>(try simp only [push_cast] at hc))|(have q_:=z5c a;(with_reducible first|refine eK q_ ?_|refine eQ q_ ?_|refine eG q_ ?_);clear q_)|(have q_:=z5c a;(with_reducible first|refine cK q_ ?_|refine cQ q_ ?_|refine cG q_ ?_);clear q_;(simp (disch:=omega) only [push_cast,↓zz,seval]);(fail_if_success (with_reducible change False)))|omega|with_reducible intro _))
 all_goals trace_state
def sumP (w:List Int):List Part→Int→Option Int
 | [],a=>some a
 | p :: l,a=>if z2w p w.length then sumP w l (IntKind.i64.wrap (a + val1 p (nth w p.at_.toNat))) else none
def symB (x:Int):Bool:=decide (0 ≤ x∧x ≤ 1114111)
def z6x (t:Term) (w:List Int):Option Int :=
 if w.all symB then
   match sumP w t.parts t.sum with
   | some x=>if valB t.outer x && decide (x ≤ 1114111) then some (IntKind.i64.wrap (t.base + valP t.outer x)) else none
   | none=>none
 else none
theorem z08 {p:Part} {n:Int} (h:z2w p n=true):0 ≤ p.at_∧p.at_ < n:=by
 simp only [z2w,Bool.and_eq_true,decide_eq_true_eq] at h
 exact h.1
theorem zw0 {x:Int}:z1m x=true ↔ -1114111 ≤ x∧x ≤ 1114111:=by simp [z1m]
theorem z49 {x:Int} (h:z1m x=true):-1114111 ≤ x∧x ≤ 1114111:=zw0.1 h
end Go.Proofs.Yticodgjinajkpaa
namespace Go.Proofs.Yticodgjinajkpaa
open Abs
theorem zga {l m:List Part} {k:Nat} (h1:k < l.length) (h2:k < m.length):decide (l.drop k=m.drop k)=(decide (nth l k=nth m k) && decide (l.drop (k + 1)=m.drop (k + 1))):=by
 rw [drop_at h1,drop_at h2]
 simp
theorem zng (p q:Part):(decide (p.at_=q.at_) && (decide (p.drop=q.drop) && (decide (p.take=q.take) && decide (p.up=q.up))))=decide (p=q):=by
 cases p;cases q;simp
theorem zpb (a b:Term) (hl:a.parts.length ≤ 1000000000000):PC Try.prog 59 [z1n a,z1n b] (.bool (decide (a=b))):=by
 refine z0s zkl ?_
 unfold zbl
 (repeat' (first|(simp (disch:=omega) only [push_cast,↓zz,seval])|(with_reducible first|refine And.intro ?_ ?_|(first|refine z01 ?_ ?_|refine z00 ?_ ?_)<;>intro hc<;>(try simp only [push_cast] at hc))|omega|with_reducible intro _))
 all_goals first
   | (have:a ≠ b:=by intro h;subst h;first|omega|simp_all
      simp [this];done)
   | skip
 have hab:decide (a=b)=decide (a.parts=b.parts):=by cases a;cases b;simp_all
 rw [hab]
 refine z0i (z0j (fun (k:Nat)=>k ≤ a.parts.length∧decide (a.parts=b.parts)=decide (a.parts.drop k=b.parts.drop k)) (fun k=>a.parts.length - k)
   (fun k=>[(2,.ptr 0 1 0 0),(3,.ptr 1 1 0 0),(5,.int .i64 k)])
   (fun s=>[⟨6,1,true,[z1n a]⟩,⟨6,1,true,[z1n b]⟩])
   (fun env _=>[z0p 0 (env 2),z0p 0 (env 3)]) 0 (by simp) ?_ ?_)
 · (repeat' (first|(simp (disch:=omega) only [push_cast,↓zz,seval])|(with_reducible first|refine And.intro ?_ ?_|(first|refine z01 ?_ ?_|refine z00 ?_ ?_)<;>intro hc<;>(try simp only [push_cast] at hc))|omega|with_reducible intro _))
 rintro k ⟨hk,hr⟩
 refine W_T ?_
 (repeat' (first|(simp (disch:=omega) only [push_cast,↓zz,seval,zng])|(with_reducible first|refine And.intro ?_ ?_|(first|refine z01 ?_ ?_|refine z00 ?_ ?_)<;>intro hc<;>(try simp only [push_cast] at hc))|omega|with_reducible intro _))
 · rw [hr,zga (by omega) (by omega)];simp [*]
 · refine ⟨k + 1,?_⟩
   (repeat' (first|(simp (disch:=omega) only [push_cast,↓zz,seval])|(with_reducible first|refine And.intro ?_ ?_|(first|refine z01 ?_ ?_|refine z00 ?_ ?_)<;>intro hc<;>(try simp only [push_cast] at hc))|omega|with_reducible intro _))
   rw [hr,zga (by omega) (by omega)];simp [*]
 · rw [hr,List.drop_of_length_le (by omega),List.drop_of_length_le (by omega)];simp
abbrev wr (n:Int):Int:=IntKind.i64.wrap n
theorem zw1 (n:Int):wr n=(n + 9223372036854775808) % 18446744073709551616 - 9223372036854775808:=by
 show IntKind.i64.wrap n=_
 rw [IntWalk.i64_left]
 unfold RowKit.wrap64
 rfl
theorem y6e {n:Int} (h:-9223372036854775808 ≤ n∧n ≤ 9223372036854775807):wr n=n:=by rw [zw1];omega
theorem wr_wr (a b:Int):wr (wr a + b)=wr (a + b):=by rw [zw1,zw1 a,zw1 (a + b)];omega
theorem wr_bd (a:Int):-9223372036854775808 ≤ wr a∧wr a ≤ 9223372036854775807:=by rw [zw1];omega
def totP (w:List Int):List Part→Int
 | []=>0
 | p :: l=>val1 p (nth w p.at_.toNat) + totP w l
def zas (w:List Int) (l:List Part):Bool:=l.all fun p=>z2w p w.length
theorem zw2 (w:List Int):∀ (l:List Part) (a:Int),wr a=a→sumP w l a=if zas w l then some (wr (a + totP w l)) else none
 | [],a,h=>by simp [sumP,zas,totP,h]
 | p :: l,a,h=>by
   rw [sumP]
   cases hp:z2w p w.length
   · simp [zas,hp]
   · have ih:=zw2 w l (wr (a + val1 p (nth w p.at_.toNat))) (by rw [y6e (wr_bd _)])
     rw [if_pos rfl]
     have e:wr (wr (a + val1 p (nth w p.at_.toNat)) + totP w l)=wr (a + totP w (p :: l)):=by rw [wr_wr,totP];congr 1;omega
     rw [e] at ih
     simp only [zas,List.all_cons,hp,Bool.true_and] at ih ⊢
     exact ih
theorem zw3 {p:Part} {x:Int} (h:z52 p=true) (hx:0 ≤ x∧x ≤ 2097151):z2p p=true∧valB p x=true∧valP p x=x:=by
 simp only [z52,decide_eq_true_eq] at h
 obtain ⟨h1,h2,h3⟩:=h
 have hb:z2p p=true:=by simp [z2p,h1,h2,h3]
 refine ⟨hb,(zar hb hx).1,?_⟩
 rw [valP,h1,h2,h3]
 show x / 2 ^ 0 % 2 ^ 21 * 2 ^ 0=x
 omega
end Go.Proofs.Yticodgjinajkpaa
namespace Go.Proofs.Yticodgjinajkpaa
open Abs Go.RowKit
end Go.Proofs.Yticodgjinajkpaa
namespace Go.Proofs.Yticodgjinajkpaa
open Abs
theorem y0m {o:Option Int} (h:o.isSome=true):o=some (o.getD 0):=by cases o<;>simp_all
end Go.Proofs.Yticodgjinajkpaa
namespace Go.Proofs.Yticodgjinajkpaa.Abs
section
variable {P:Program} {n b:Nat} {Q:Ex→Env→z02→Prop}
def ze1 (P:Program) (n b:Nat) (c:AC) (Q:Ex→Env→z02→Prop):Nat→Env→z02→Prop
 | 0,_,_=>False
 | m + 1,env,H=>T P n b c env H (Ex.then (ze1 P n b c Q m) Q)
theorem zl3 {c:AC} {d:Code} (hd:z2t P n d=some c) {rd:Option Nat} {mm:Nat} (hrd:c.free=true ∨ rd=none) {S0:MS}:∀ (m:Nat) (env:Env) (H:z02) (S:MS) (a:Act),BEvo b S0 S→SRel S H→FRel S n env a→ze1 P n b c Q m env H →
   Code.roundsIn (fen rd) mm P d (After S0 n b Q) m a S.w
 | 0,_,_,_,_,_,_,_,h=>h.elim
 | m + 1,env,H,S,a,e0,hS,hF,h=>by
   rw [Code.roundsIn]
   refine wpIn_mono (h rd mm hrd d hd S a e0.n hS hF) fun e a' w' hh=>?_
   obtain ⟨S2,env2,H2,z,rfl,e2,hS2,hF2,rfl,hq⟩:=hh
   cases z with
   | normal=>exact zl3 hd hrd m env2 H2 S2 a' (e0.trans e2) hS2 hF2 hq
   | exit id=>exact ⟨S2,env2,H2,.exit id,rfl,e0.trans e2,hS2,hF2,rfl,hq⟩
   | ret=>exact ⟨S2,env2,H2,.ret,rfl,e0.trans e2,hS2,hF2,rfl,hq⟩
theorem zpc {c:AC} {env:Env} {H:z02} (m:Nat) (h:ze1 P n b c Q m env H):T P n b (.loop c) env H Q:=T_of fun rd mm hrd code hc hs S a hb hS hF=>by
 cases code<;>simp only [z2t,reduceCtorEq,Option.some.injEq] at hc
 case loop d =>
   obtain ⟨x,hx,hh⟩:=Option.map_eq_some_iff.1 hc
   cases hh
   exact wpIn_loop_rounds m (zl3 hx hrd m env H S a (.refl hb) hS hF h)
 case region=>exact absurd hc z1v
 case seq=>split at hc<;>cases hc
 case cond=>split at hc<;>cases hc
 case block=>obtain ⟨_,_,h⟩:=Option.map_eq_some_iff.1 hc;cases h
 case rangeFunc=>split at hc<;>cases hc
 case scope d=>exact absurd rfl (hs d)
theorem z0q {c:AC} {env:Env} {H:z02} (m:Nat) (h:W P n b c env H (Ex.then (ze1 P n b c Q m) Q)):@z8f ⟨T P n b (.loop c) env H Q⟩:=zpc (m + 1) (W_T h)
theorem z0x {c:AC} {env:Env} {H:z02} (m:Nat) (srcs:Env→List Src) (live:List (Nat × AV)) (heap:List Grp) (he:Head b env H (srcs env) live heap) (h:W P n b c (z3w live) (hl heap) (Ex.then (ze1 P n b c Q m) Q)):@z8f ⟨T P n b (.loop c) env H Q⟩:=zuy he (zpc (m + 1) (W_T h))
theorem z0a {c:AC} {env:Env} {H:z02} {m:Nat} (h:W P n b c env H (Ex.then (ze1 P n b c Q m) Q)):ze1 P n b c Q (m + 1) env H:=W_T h
end
theorem zpd {S:MS}:∀ {xs ys:List AV} {vs:List Value},z04 S (xs ++ ys) vs→∃ v1 v2,vs=v1 ++ v2∧z04 S xs v1
 | [],ys,vs,h=>⟨[],vs,rfl,rfl⟩
 | x :: xs,ys,vs,h=>by
   obtain ⟨v,r,rfl,h1,h2⟩:=h
   obtain ⟨v1,v2,rfl,h3⟩:=zpd (xs:=xs) (ys:=ys) h2
   exact ⟨v :: v1,v2,rfl,v,v1,rfl,h1,h3⟩
theorem zs5 {S:MS} {w v:Nat} {ex:Bool} {xs ys:List AV} (hw:0 < w) (hS:SRel S (hl [⟨w,v,ex,xs ++ ys⟩])):SRel S (hl [⟨w,v,false,xs⟩]):=by
 have h0:GRel S ⟨w,v,ex,xs ++ ys⟩ 0:=hS.grp 0 (by show 0 < 1;omega)
 have hg:GRel S ⟨w,v,false,xs⟩ 0:=by
   refine ⟨h0.ver,h0.wid,fun _ hc=>?_,fun _=>?_,fun _ h=>(by cases h),fun h=>?_⟩
   · obtain ⟨⟨cells,TT,vs,a1,a2,a3,a4⟩,a5⟩:=h0.live hw hc
     obtain ⟨v1,v2,rfl,h1⟩:=zpd a3
     refine ⟨⟨cells,TT,v1,a1,a2,h1,fun i u hu=>a4 i u ?_⟩,a5⟩
     obtain ⟨hl1,_⟩:=List.getElem?_eq_some_iff.1 hu
     rw [List.getElem?_append_left hl1];exact hu
   · have:=h0.len hw
     simp only [List.length_append] at this
     show xs.length ≤ _
     omega
   · simp only at h;omega
 refine ⟨hS.n,fun g hg'=>?_,fun g g' a c hne=>?_,hS.im⟩
 · have hz:g < 1:=hg'
   obtain rfl:g=0:=by omega
   exact hg
 · have a':g < 1:=a
   have c':g' < 1:=c
   omega
theorem zl4 {P:Program} {f:Nat} {args:List AV} {H:z02} {w v:Nat} {ex:Bool} {xs:List AV} {y0:AV} (hw:0 < w) (h:z0z P f args H fun y H'=>∃ ys,y=y0∧H'=hl [⟨w,v,ex,xs ++ ys⟩]):z0z P f args H fun y H'=>y=y0∧H'=hl [⟨w,v,false,xs⟩] :=
 ⟨h.1,fun S cargs hS hx=>(h.2 S cargs hS hx).mono fun e w' hh=>by
   obtain ⟨v,S1,y,H',he,hw',ev,hS1,hv,ys,rfl,rfl⟩:=hh
   exact ⟨v,S1,_,_,he,hw',ev,zs5 hw hS1,hv,rfl,rfl⟩⟩
theorem y6f {P:Program} {f:Nat} {xs ys:List AV} {l:List Grp} {K:AV→z02→Prop} (h1:okA 4 ((hl l).only (z1l xs)) xs) (h2:leSL [] (frA 4 ((hl l).only (z1l xs)) xs) ys) (h3:@zjy P f ys (hl (z9i 0 (z1l xs) l)) ⟨K⟩):@zjy P f xs (hl l) ⟨K⟩ :=
 zfw 4 (z1l xs) (z8y h1) (z5z (z6n h2) h3)
def z2b (i:Nat) (ks:List Nat):List Grp→List Grp→Prop
 | [],_=>True
 | _ :: _,[]=>False
 | G :: l,G' :: l'=>(i ∈ ks ∨ G=G')∧z2b (i + 1) ks l l'
theorem z2b.of {ks:List Nat}:∀ {i:Nat} {l l':List Grp},z2b i ks l l'→l.length ≤ l'.length∧∀ g,i + g ∉ ks→g < l.length→l'.getD g default=l.getD g default
 | _,[],_,_=>⟨by simp,fun g _ h=>absurd h (by simp)⟩
 | _,_ :: _,[],h=>h.elim
 | i,G :: l,G' :: l',h=>by
   obtain ⟨h1,h2⟩:=z2b.of h.2
   refine ⟨by simpa using h1,fun g hg hl=>?_⟩
   cases g with
   | zero =>
     rcases h.1 with h3|h3
     · exact absurd h3 hg
     · simp [h3]
   | succ g =>
     have:=h2 g (by rwa [show i + 1 + g=i + (g + 1) by omega]) (by simpa using hl)
     simpa using this
def effB (ks:List Nat):AK→List Grp→List Grp→Prop
 | .app ..,l,l'=>z2b 0 ks l l'
 | .mkMap,l,l'=>z2b 0 ks l l'
 | .mapSet,l,l'=>z2b 0 ks l l'
 | _,_,_=>True
theorem zw4 {ks:List Nat} {k:AK} {l l':List Grp} (h:effB ks k l l') (h2:k.eff=some 2):l.length ≤ l'.length∧∀ g,g ∉ ks→g < l.length→l'.getD g default=l.getD g default:=by
 have key:z2b 0 ks l l':=by cases k<;>first|exact h|(simp [AK.eff] at h2)
 obtain ⟨a,c⟩:=key.of
 exact ⟨a,fun g hg=>c g (by simpa using hg)⟩
def xk (P:Program) (ks:List Nat):List Bool→List AOp→Env→List Grp→(Env→List Grp→Prop)→Prop
 | _,[],env,l,K=>K env l
 | fl,⟨dst,args,none,k⟩ :: r,env,l,K=>(fl.headD false=true→z0w (· ∉ ks) (args.map (·.eval env)))∧@opG P k l (args.map (·.eval env)) ⟨fun x l'=>effB ks k l l'∧xk P ks fl.tail r (env.put dst x) l' K⟩
 | fl,⟨dst,args,some (d,want),k⟩ :: r,env,l,K=>@z40 (env d) want
     ⟨(fl.headD false=true→z0w (· ∉ ks) (args.map (·.eval (env.put (some d) (.bool want)))))∧@opG P k l (args.map (·.eval (env.put (some d) (.bool want)))) ⟨fun x l'=>effB ks k l l'∧xk P ks fl.tail r ((env.put (some d) (.bool want)).put dst x) l' K⟩⟩
     ⟨xk P ks fl.tail r ((env.put (some d) (.bool (!want))).put dst (.tup [])) l K⟩ ⟨xk P ks fl.tail r (env.put dst (.tup [])) l K⟩
theorem ze2 (P:Program) (ks:List Nat):∀ (L:List AOp) (fl:List Bool) (env:Env) (l:List Grp) {K:Env→List Grp→Prop},xk P ks fl L env l K→runX P ks fl L env l K
 | [],_,_,_,_,h=>h
 | ⟨dst,args,none,k⟩ :: r,fl,env,l,K,h=>by
   obtain ⟨h0,h'⟩:=h
   have:=zai h'
   simp only [runX,z5f,AOp.vals,if_true]
   split at this
   · rename_i he
     rw [if_pos he]
     obtain ⟨x,h1,h2⟩:=this
     exact ⟨h0,x,h1,ze2 P ks r _ _ _ h2.2⟩
   · rename_i he
     rw [if_neg he]
     obtain ⟨x,l',b1,b2,b3⟩:=this
     exact ⟨x,l',b1,b2,zw4 b3.1,h0,ze2 P ks r _ _ _ b3.2⟩
 | ⟨dst,args,some (d,want),k⟩ :: r,fl,env,l,K,h=>by
   have h':z5e (env d) want ((fl.headD false=true→z0w (· ∉ ks) (args.map (·.eval (env.put (some d) (.bool want)))))∧@opG P k l (args.map (·.eval (env.put (some d) (.bool want)))) ⟨fun x l'=>effB ks k l l'∧xk P ks fl.tail r ((env.put (some d) (.bool want)).put dst x) l' K⟩)
     (xk P ks fl.tail r ((env.put (some d) (.bool (!want))).put dst (.tup [])) l K) (xk P ks fl.tail r (env.put dst (.tup [])) l K):=h
   simp only [runX,z5f,AOp.vals,if_true,Bool.false_eq_true,if_false]
   refine z8w (fun h1=>?_) (fun h1=>ze2 P ks r _ _ _ h1) (fun h1=>ze2 P ks r _ _ _ h1) h'
   obtain ⟨h0,h1⟩:=h1
   have:=zai h1
   split at this
   · rename_i he
     obtain ⟨x,h1,h2⟩:=this
     rw [if_pos he]
     exact ⟨h0,x,h1,ze2 P ks r _ _ _ h2.2⟩
   · rename_i he
     rw [if_neg he]
     obtain ⟨x,l',b1,b2,b3⟩:=this
     exact ⟨x,l',b1,b2,zw4 b3.1,h0,ze2 P ks r _ _ _ b3.2⟩
section
variable {P:Program} {n b:Nat} {Q:Ex→Env→z02→Prop} {ks:List Nat} {env:Env} {l:List Grp} {K:Env→List Grp→Prop} {fl:List Bool} {r:List AOp} {dst:Option Nat} {args:List AArg} {k:AK}
theorem z2i {L:List AOp} (ks:List Nat) (h:xk P ks fl L env l fun env' l'=>Q .normal env' (hl l')):@z8f ⟨T P n b (.grx fl L) env (hl l) Q⟩:=T_grx ks (ze2 P ks L fl env l h)
theorem z5n {x:AV} {w:Bool} {p p2 q s:HP} (h:p.p=p2.p):@z40 x w p q s=@z40 x w p2 q s:=by cases p;cases p2;cases h;rfl
theorem xk1:xk P ks fl [] env l K=K env l:=by cases fl<;>rfl
theorem xk2:xk P ks (false :: fl) (⟨dst,args,none,k⟩ :: r) env l K=@opG P k l (args.map (·.eval env)) ⟨fun x l'=>effB ks k l l'∧xk P ks fl r (env.put dst x) l' K⟩:=propext ⟨fun h=>h.2,fun h=>⟨fun h0=>(by cases h0),h⟩⟩
theorem xk3:xk P ks (true :: fl) (⟨dst,args,none,k⟩ :: r) env l K=(z0w (· ∉ ks) (args.map (·.eval env))∧@opG P k l (args.map (·.eval env)) ⟨fun x l'=>effB ks k l l'∧xk P ks fl r (env.put dst x) l' K⟩):=propext ⟨fun h=>⟨h.1 rfl,h.2⟩,fun h=>⟨fun _=>h.1,h.2⟩⟩
theorem xk4 {d:Nat} {want:Bool}:xk P ks (false :: fl) (⟨dst,args,some (d,want),k⟩ :: r) env l K=@z40 (env d) want
     ⟨@opG P k l (args.map (·.eval (env.put (some d) (.bool want)))) ⟨fun x l'=>effB ks k l l'∧xk P ks fl r ((env.put (some d) (.bool want)).put dst x) l' K⟩⟩
     ⟨xk P ks fl r ((env.put (some d) (.bool (!want))).put dst (.tup [])) l K⟩ ⟨xk P ks fl r (env.put dst (.tup [])) l K⟩:=z5n (propext ⟨fun h=>h.2,fun h=>⟨fun h0=>(by cases h0),h⟩⟩)
theorem xk5 {d:Nat} {want:Bool}:xk P ks (true :: fl) (⟨dst,args,some (d,want),k⟩ :: r) env l K=@z40 (env d) want
     ⟨z0w (· ∉ ks) (args.map (·.eval (env.put (some d) (.bool want))))∧@opG P k l (args.map (·.eval (env.put (some d) (.bool want)))) ⟨fun x l'=>effB ks k l l'∧xk P ks fl r ((env.put (some d) (.bool want)).put dst x) l' K⟩⟩
     ⟨xk P ks fl r ((env.put (some d) (.bool (!want))).put dst (.tup [])) l K⟩ ⟨xk P ks fl r (env.put dst (.tup [])) l K⟩:=z5n (propext ⟨fun h=>⟨h.1 rfl,h.2⟩,fun h=>⟨fun _=>h.1,h.2⟩⟩)
variable {l2:List Grp}
theorem xk6 {w s:Nat} {z:AV}:effB ks (.app w s z) l l2=z2b 0 ks l l2:=rfl
theorem xk7:effB ks .mapSet l l2=z2b 0 ks l l2:=rfl
theorem xk8:effB ks .mkMap l l2=z2b 0 ks l l2:=rfl
theorem yab  : effB ks (.mv ) l l2=True:=rfl
theorem zw5  : effB ks (.pick ) l l2=True:=rfl
theorem zpe {a0:AV} {a1:Nat}:effB ks (.alloc a0 a1) l l2=True:=rfl
theorem y2b  : effB ks (.box ) l l2=True:=rfl
theorem zpf {a0:List AV} {a1:List (Nat × Nat)} {a2:List Nat}:effB ks (.build a0 a1 a2) l l2=True:=rfl
theorem zl5 {a0:Nat} {a1:Nat} {a2:AV} {a3:List Nat}:effB ks (.bslice a0 a1 a2 a3) l l2=True:=rfl
theorem zw6 {a0:Bool} {a1:Nat}:effB ks (.load a0 a1) l l2=True:=rfl
theorem zpg {a0:Nat}:effB ks (.store a0) l l2=True:=rfl
theorem ze3  : effB ks (.nilCheck ) l l2=True:=rfl
theorem y2c {a0:BinOp}:effB ks (.bin a0) l l2=True:=rfl
theorem y2d {a0:Bool}:effB ks (.eqb a0) l l2=True:=rfl
theorem y2e {a0:Bool} {a1:List Nat}:effB ks (.eqs a0 a1) l l2=True:=rfl
theorem y2f {a0:Bool}:effB ks (.eqn a0) l l2=True:=rfl
theorem yac {a0:UnOp}:effB ks (.un a0) l l2=True:=rfl
theorem zw7 {a0:IntKind}:effB ks (.conv a0) l l2=True:=rfl
theorem zph  : effB ks (.toStr ) l l2=True:=rfl
theorem zpi {a0:Nat} {a1:Bool} {a2:Bool} {a3:Bool}:effB ks (.slice a0 a1 a2 a3) l l2=True:=rfl
theorem zpj {a0:Bool} {a1:Nat} {a2:Nat}:effB ks (.faddr a0 a1 a2) l l2=True:=rfl
theorem zpk {a0:Bool} {a1:Nat} {a2:Nat}:effB ks (.field a0 a1 a2) l l2=True:=rfl
theorem zpl {a0:Nat}:effB ks (.iaddr a0) l l2=True:=rfl
theorem zl6 {a0:Nat} {a1:Nat} {a2:Bool}:effB ks (.iaddrA a0 a1 a2) l l2=True:=rfl
theorem zpm {a0:Nat} {a1:Nat} {a2:Bool}:effB ks (.index a0 a1 a2) l l2=True:=rfl
theorem ze4  : effB ks (.indexStr ) l l2=True:=rfl
theorem zgb {a0:Nat}:effB ks (.extract a0) l l2=True:=rfl
theorem y2g {a0:Bool}:effB ks (.len a0) l l2=True:=rfl
theorem y2h  : effB ks (.max ) l l2=True:=rfl
theorem y2i  : effB ks (.min ) l l2=True:=rfl
theorem zgc {a0:Nat} {a1:Nat} {a2:AV}:effB ks (.mkSlice a0 a1 a2) l l2=True:=rfl
theorem zl7 {a0:Nat}:effB ks (.mkFunc a0) l l2=True:=rfl
theorem zl8 {a0:AV}:effB ks (.mapGet a0) l l2=True:=rfl
theorem zw8  : effB ks (.call ) l l2=True:=rfl
theorem sb1 {i:Nat}:z2b i ks [] l=True:=rfl
theorem sb2 {i:Nat} {G G2:Grp}:z2b i ks (G :: l) (G2 :: l2)=((i ∈ ks ∨ G=G2)∧z2b (i + 1) ks l l2):=rfl
end
theorem xx:type_of% (And.intro @xk1 <| And.intro @xk2 <| And.intro @xk3 <| And.intro @xk4 <| And.intro @xk5 <| And.intro @xk6 <| And.intro @xk7 <| And.intro @xk8 <| And.intro @yab <| And.intro @zw5 <| And.intro @zpe <| And.intro @y2b <| And.intro @zpf <| And.intro @zl5 <| And.intro @zw6 <| And.intro @zpg <| And.intro @ze3 <| And.intro @y2c <| And.intro @y2d <| And.intro @y2e <| And.intro @y2f <| And.intro @yac <| And.intro @zw7 <| And.intro @zph <| And.intro @zpi <| And.intro @zpj <| And.intro @zpk <| And.intro @zpl <| And.intro @zl6 <| And.intro @zpm <| And.intro @ze4 <| And.intro @zgb <| And.intro @y2g <| And.intro @y2h <| And.intro @y2i <| And.intro @zgc <| And.intro @zl7 <| And.intro @zl8 <| And.intro @zw8 <| And.intro @sb1 <| @sb2):=And.intro @xk1 <| And.intro @xk2 <| And.intro @xk3 <| And.intro @xk4 <| And.intro @xk5 <| And.intro @xk6 <| And.intro @xk7 <| And.intro @xk8 <| And.intro @yab <| And.intro @zw5 <| And.intro @zpe <| And.intro @y2b <| And.intro @zpf <| And.intro @zl5 <| And.intro @zw6 <| And.intro @zpg <| And.intro @ze3 <| And.intro @y2c <| And.intro @y2d <| And.intro @y2e <| And.intro @y2f <| And.intro @yac <| And.intro @zw7 <| And.intro @zph <| And.intro @zpi <| And.intro @zpj <| And.intro @zpk <| And.intro @zpl <| And.intro @zl6 <| And.intro @zpm <| And.intro @ze4 <| And.intro @zgb <| And.intro @y2g <| And.intro @y2h <| And.intro @y2i <| And.intro @zgc <| And.intro @zl7 <| And.intro @zl8 <| And.intro @zw8 <| And.intro @sb1 <| @sb2
theorem y0n {P:Program} {l:List Grp} {xs:List AV} {K:AV→List Grp→Prop}:@opG P .mapSet l xs ⟨K⟩=@opK P .mapSet (hl l) xs ⟨fun x H'=>∀ l',H'=hl l'→K x l'⟩:=(zrw rfl rfl).trans (by simp only [AK.appOk,zhb,true_and])
attribute [push_cast] y04 y0n
def effY (ks:List Nat):AK→List Grp→List Grp→Prop
 | .app ..,l,l'=>z2b 0 ks l l'
 | .mkMap,l,l'=>z2b 0 ks l l'
 | .mapSet,l,l'=>z2b 0 ks l l'
 | .store _,l,l'=>z2b 0 ks l l'∧l'.length=l.length
 | _,_,_=>True
theorem zii {ks:List Nat} {k:AK} {l l':List Grp} (h:effY ks k l l'):((k.eff=some 1 ∨ k.eff=some 2)→l.length ≤ l'.length∧∀ g,g ∉ ks→g < l.length→l'.getD g default=l.getD g default)∧(k.eff=some 1→l'.length=l.length):=by
 have key:(k.eff=some 1 ∨ k.eff=some 2)→z2b 0 ks l l':=fun h2=>by cases k<;>first|exact h|exact h.1|(simp [AK.eff] at h2)
 refine ⟨fun h2=>?_,fun h2=>by cases k<;>first|exact h.2|(simp [AK.eff] at h2)⟩
 obtain ⟨a,c⟩:=(key h2).of
 exact ⟨a,fun g hg=>c g (by simpa using hg)⟩
def gsOk:List (Option Nat)→List AOp→Bool
 | _,[]=>true
 | gs,o :: r=>(match gs.headD none with|some _=>o.guard.isNone && o.args.isEmpty|none=>!o.k.laid) && gsOk gs.tail r
def xy (P:Program) (ks:List Nat):List (Option Nat)→List Bool→List AOp→Env→List Grp→(Env→List Grp→Prop)→Prop
 | _,_,[],env,l,K=>K env l
 | gs,fl,⟨dst,args,none,k⟩ :: r,env,l,K=>match gs.headD none with
   | some g=>(match k with
     | .alloc z w=>g < l.length∧(hl l).at_ g=⟨w,1,true,[]⟩∧g ∈ ks∧∀ l',(hl l).set g ⟨w,2,true,[z]⟩=hl l'→xy P ks gs.tail fl.tail r (env.put dst (.ptr g 2 0 0)) l' K
     | _=>False)
   | none=>(fl.headD false=true→z0w (· ∉ ks) (args.map (·.eval env)))∧@opG P k l (args.map (·.eval env)) ⟨fun x l'=>effY ks k l l'∧xy P ks gs.tail fl.tail r (env.put dst x) l' K⟩
 | gs,fl,⟨dst,args,some (d,want),k⟩ :: r,env,l,K=>@z40 (env d) want
     ⟨(fl.headD false=true→z0w (· ∉ ks) (args.map (·.eval (env.put (some d) (.bool want)))))∧@opG P k l (args.map (·.eval (env.put (some d) (.bool want)))) ⟨fun x l'=>effY ks k l l'∧xy P ks gs.tail fl.tail r ((env.put (some d) (.bool want)).put dst x) l' K⟩⟩
     ⟨xy P ks gs.tail fl.tail r ((env.put (some d) (.bool (!want))).put dst (.tup [])) l K⟩ ⟨xy P ks gs.tail fl.tail r (env.put dst (.tup [])) l K⟩
theorem zc2 (P:Program) (ks:List Nat):∀ (L:List AOp) (gs:List (Option Nat)) (fl:List Bool) (env:Env) (l:List Grp) {K:Env→List Grp→Prop},gsOk gs L=true→xy P ks gs fl L env l K→runY P ks fl L env l K
 | [],_,_,_,_,_,_,h=>by simpa only [xy,runY] using h
 | ⟨dst,args,none,k⟩ :: r,gs,fl,env,l,K,hg,h=>by
   simp only [gsOk,Bool.and_eq_true] at hg
   simp only [xy] at h
   simp only [runY,z5f,AOp.vals,if_true]
   cases hh:gs.headD none with
   | some g =>
     rw [hh] at h hg
     cases k<;>first|exact h.elim|skip
     rename_i z w
     obtain ⟨h1,h2,h3,h4⟩:=h
     have ha:args=[]:=by
       cases args with
       | nil=>rfl
       | cons _ _=>simp at hg
     subst ha
     rw [if_pos (show AK.laid (.alloc z w)=true from rfl)]
     exact ⟨_,_,⟨rfl,z,w,g,rfl,h1,h2,h3,rfl,rfl⟩,zc2 P ks r _ _ _ _ hg.2 (h4 _ (z5m _ _ _ h1))⟩
   | none =>
     rw [hh] at h hg
     have hl:k.laid=false:=by simpa using hg.1
     rw [if_neg (by rw [hl];simp)]
     obtain ⟨h0,h'⟩:=h
     have:=zai h'
     split at this
     · rename_i he
       rw [if_pos he]
       obtain ⟨x,h1,h2⟩:=this
       exact ⟨h0,x,h1,zc2 P ks r _ _ _ _ hg.2 h2.2⟩
     · rename_i he
       rw [if_neg he]
       obtain ⟨x,l',b1,b2,b3⟩:=this
       exact ⟨x,l',b1,b2,(zii b3.1).1,(zii b3.1).2,h0,zc2 P ks r _ _ _ _ hg.2 b3.2⟩
 | ⟨dst,args,some (d,want),k⟩ :: r,gs,fl,env,l,K,hg,h=>by
   simp only [gsOk,Bool.and_eq_true] at hg
   have hl:k.laid=false:=by
     cases hh:gs.headD none with
     | some g=>rw [hh] at hg;simp at hg
     | none=>rw [hh] at hg;simpa using hg.1
   have h':z5e (env d) want ((fl.headD false=true→z0w (· ∉ ks) (args.map (·.eval (env.put (some d) (.bool want)))))∧@opG P k l (args.map (·.eval (env.put (some d) (.bool want)))) ⟨fun x l'=>effY ks k l l'∧xy P ks gs.tail fl.tail r ((env.put (some d) (.bool want)).put dst x) l' K⟩)
     (xy P ks gs.tail fl.tail r ((env.put (some d) (.bool (!want))).put dst (.tup [])) l K) (xy P ks gs.tail fl.tail r (env.put dst (.tup [])) l K):=h
   simp only [runY,z5f,AOp.vals,if_true,Bool.false_eq_true,if_false]
   refine z8w (fun h1=>?_) (fun h1=>zc2 P ks r _ _ _ _ hg.2 h1) (fun h1=>zc2 P ks r _ _ _ _ hg.2 h1) h'
   rw [if_neg (by rw [hl];simp)]
   obtain ⟨h0,h1⟩:=h1
   have:=zai h1
   split at this
   · rename_i he
     obtain ⟨x,h1,h2⟩:=this
     rw [if_pos he]
     exact ⟨h0,x,h1,zc2 P ks r _ _ _ _ hg.2 h2.2⟩
   · rename_i he
     rw [if_neg he]
     obtain ⟨x,l',b1,b2,b3⟩:=this
     exact ⟨x,l',b1,b2,(zii b3.1).1,(zii b3.1).2,h0,zc2 P ks r _ _ _ _ hg.2 b3.2⟩
section
variable {P:Program} {n b:Nat} {Q:Ex→Env→z02→Prop} {ks:List Nat} {gs:List (Option Nat)} {g:Nat} {env:Env} {l:List Grp} {K:Env→List Grp→Prop} {f:Bool} {fl:List Bool} {r:List AOp} {dst:Option Nat} {args:List AArg} {k:AK}
theorem y6g {L:List AOp} (ks:List Nat) (ws:List Nat) (gs:List (Option Nat)) (hw:∀ w ∈ ws,0 < w) (hg:gsOk gs L=true) (h:xy P ks gs fl L env (l ++ ws.map z8g) fun env' l'=>Q .normal env' (hl l')):@z8f ⟨T P n b (.gry fl L) env (hl l) Q⟩:=zmk ws hw (y7j ks (zc2 P ks L gs fl env _ hg h))
theorem xy1:xy P ks gs fl [] env l K=K env l:=by simp only [xy]
theorem xy2:xy P ks (none :: gs) (false :: fl) (⟨dst,args,none,k⟩ :: r) env l K=@opG P k l (args.map (·.eval env)) ⟨fun x l'=>effY ks k l l'∧xy P ks gs fl r (env.put dst x) l' K⟩:=by simp only [xy];exact propext ⟨fun h=>h.2,fun h=>⟨fun h0=>(by cases h0),h⟩⟩
theorem xy3:xy P ks (none :: gs) (true :: fl) (⟨dst,args,none,k⟩ :: r) env l K=(z0w (· ∉ ks) (args.map (·.eval env))∧@opG P k l (args.map (·.eval env)) ⟨fun x l'=>effY ks k l l'∧xy P ks gs fl r (env.put dst x) l' K⟩):=by simp only [xy];exact propext ⟨fun h=>⟨h.1 rfl,h.2⟩,fun h=>⟨fun _=>h.1,h.2⟩⟩
theorem xy4 {d:Nat} {want:Bool}:xy P ks (none :: gs) (false :: fl) (⟨dst,args,some (d,want),k⟩ :: r) env l K=@z40 (env d) want
     ⟨@opG P k l (args.map (·.eval (env.put (some d) (.bool want)))) ⟨fun x l'=>effY ks k l l'∧xy P ks gs fl r ((env.put (some d) (.bool want)).put dst x) l' K⟩⟩
     ⟨xy P ks gs fl r ((env.put (some d) (.bool (!want))).put dst (.tup [])) l K⟩ ⟨xy P ks gs fl r (env.put dst (.tup [])) l K⟩:=by simp only [xy];exact z5n (propext ⟨fun h=>h.2,fun h=>⟨fun h0=>(by cases h0),h⟩⟩)
theorem xy5 {d:Nat} {want:Bool}:xy P ks (none :: gs) (true :: fl) (⟨dst,args,some (d,want),k⟩ :: r) env l K=@z40 (env d) want
     ⟨z0w (· ∉ ks) (args.map (·.eval (env.put (some d) (.bool want))))∧@opG P k l (args.map (·.eval (env.put (some d) (.bool want)))) ⟨fun x l'=>effY ks k l l'∧xy P ks gs fl r ((env.put (some d) (.bool want)).put dst x) l' K⟩⟩
     ⟨xy P ks gs fl r ((env.put (some d) (.bool (!want))).put dst (.tup [])) l K⟩ ⟨xy P ks gs fl r (env.put dst (.tup [])) l K⟩:=by simp only [xy];exact z5n (propext ⟨fun h=>⟨h.1 rfl,h.2⟩,fun h=>⟨fun _=>h.1,h.2⟩⟩)
theorem xy6 {z:AV} {w:Nat}:xy P ks (some g :: gs) (f :: fl) (⟨dst,args,none,.alloc z w⟩ :: r) env l K=(g < l.length∧(hl l).at_ g=⟨w,1,true,[]⟩∧g ∈ ks∧∀ l',(hl l).set g ⟨w,2,true,[z]⟩=hl l'→xy P ks gs fl r (env.put dst (.ptr g 2 0 0)) l' K):=by simp only [xy];rfl
theorem xy7:xy P ks [] fl (⟨dst,args,none,k⟩ :: r) env l K=xy P ks [none] fl (⟨dst,args,none,k⟩ :: r) env l K:=by simp only [xy];rfl
theorem xy8 {d:Nat} {want:Bool}:xy P ks [] fl (⟨dst,args,some (d,want),k⟩ :: r) env l K=xy P ks [none] fl (⟨dst,args,some (d,want),k⟩ :: r) env l K:=by simp only [xy];rfl
variable {l2:List Grp}
theorem y2j {w s:Nat} {z:AV}:effY ks (.app w s z) l l2=z2b 0 ks l l2:=rfl
theorem zl9:effY ks .mapSet l l2=z2b 0 ks l l2:=rfl
theorem zpn:effY ks .mkMap l l2=z2b 0 ks l l2:=rfl
theorem zpo {s:Nat}:effY ks (.store s) l l2=(z2b 0 ks l l2∧l2.length=l.length):=rfl
theorem yad  : effY ks (.mv ) l l2=True:=rfl
theorem zw9  : effY ks (.pick ) l l2=True:=rfl
theorem zpp {a0:AV} {a1:Nat}:effY ks (.alloc a0 a1) l l2=True:=rfl
theorem y2k  : effY ks (.box ) l l2=True:=rfl
theorem zpq {a0:List AV} {a1:List (Nat × Nat)} {a2:List Nat}:effY ks (.build a0 a1 a2) l l2=True:=rfl
theorem zla {a0:Nat} {a1:Nat} {a2:AV} {a3:List Nat}:effY ks (.bslice a0 a1 a2 a3) l l2=True:=rfl
theorem zwa {a0:Bool} {a1:Nat}:effY ks (.load a0 a1) l l2=True:=rfl
theorem ze5  : effY ks (.nilCheck ) l l2=True:=rfl
theorem y2l {a0:BinOp}:effY ks (.bin a0) l l2=True:=rfl
theorem y2m {a0:Bool}:effY ks (.eqb a0) l l2=True:=rfl
theorem y2n {a0:Bool} {a1:List Nat}:effY ks (.eqs a0 a1) l l2=True:=rfl
theorem y2o {a0:Bool}:effY ks (.eqn a0) l l2=True:=rfl
theorem yae {a0:UnOp}:effY ks (.un a0) l l2=True:=rfl
theorem zwb {a0:IntKind}:effY ks (.conv a0) l l2=True:=rfl
theorem zpr  : effY ks (.toStr ) l l2=True:=rfl
theorem zps {a0:Nat} {a1:Bool} {a2:Bool} {a3:Bool}:effY ks (.slice a0 a1 a2 a3) l l2=True:=rfl
theorem zpt {a0:Bool} {a1:Nat} {a2:Nat}:effY ks (.faddr a0 a1 a2) l l2=True:=rfl
theorem zpu {a0:Bool} {a1:Nat} {a2:Nat}:effY ks (.field a0 a1 a2) l l2=True:=rfl
theorem zpv {a0:Nat}:effY ks (.iaddr a0) l l2=True:=rfl
theorem zlb {a0:Nat} {a1:Nat} {a2:Bool}:effY ks (.iaddrA a0 a1 a2) l l2=True:=rfl
theorem zpw {a0:Nat} {a1:Nat} {a2:Bool}:effY ks (.index a0 a1 a2) l l2=True:=rfl
theorem ze6  : effY ks (.indexStr ) l l2=True:=rfl
theorem zgd {a0:Nat}:effY ks (.extract a0) l l2=True:=rfl
theorem y2p {a0:Bool}:effY ks (.len a0) l l2=True:=rfl
theorem y2q  : effY ks (.max ) l l2=True:=rfl
theorem y2r  : effY ks (.min ) l l2=True:=rfl
theorem zge {a0:Nat} {a1:Nat} {a2:AV}:effY ks (.mkSlice a0 a1 a2) l l2=True:=rfl
theorem zlc {a0:Nat}:effY ks (.mkFunc a0) l l2=True:=rfl
theorem zld {a0:AV}:effY ks (.mapGet a0) l l2=True:=rfl
theorem zwc  : effY ks (.call ) l l2=True:=rfl
end
theorem yy:type_of% (And.intro @xy1 <| And.intro @xy2 <| And.intro @xy3 <| And.intro @xy4 <| And.intro @xy5 <| And.intro @xy6 <| And.intro @xy7 <| And.intro @xy8 <| And.intro @y2j <| And.intro @zl9 <| And.intro @zpn <| And.intro @zpo <| And.intro @yad <| And.intro @zw9 <| And.intro @zpp <| And.intro @y2k <| And.intro @zpq <| And.intro @zla <| And.intro @zwa <| And.intro @ze5 <| And.intro @y2l <| And.intro @y2m <| And.intro @y2n <| And.intro @y2o <| And.intro @yae <| And.intro @zwb <| And.intro @zpr <| And.intro @zps <| And.intro @zpt <| And.intro @zpu <| And.intro @zpv <| And.intro @zlb <| And.intro @zpw <| And.intro @ze6 <| And.intro @zgd <| And.intro @y2p <| And.intro @y2q <| And.intro @y2r <| And.intro @zge <| And.intro @zlc <| And.intro @zld <| And.intro @zwc <| And.intro @sb1 <| @sb2):=And.intro @xy1 <| And.intro @xy2 <| And.intro @xy3 <| And.intro @xy4 <| And.intro @xy5 <| And.intro @xy6 <| And.intro @xy7 <| And.intro @xy8 <| And.intro @y2j <| And.intro @zl9 <| And.intro @zpn <| And.intro @zpo <| And.intro @yad <| And.intro @zw9 <| And.intro @zpp <| And.intro @y2k <| And.intro @zpq <| And.intro @zla <| And.intro @zwa <| And.intro @ze5 <| And.intro @y2l <| And.intro @y2m <| And.intro @y2n <| And.intro @y2o <| And.intro @yae <| And.intro @zwb <| And.intro @zpr <| And.intro @zps <| And.intro @zpt <| And.intro @zpu <| And.intro @zpv <| And.intro @zlb <| And.intro @zpw <| And.intro @ze6 <| And.intro @zgd <| And.intro @y2p <| And.intro @y2q <| And.intro @y2r <| And.intro @zge <| And.intro @zlc <| And.intro @zld <| And.intro @zwc <| And.intro @sb1 <| @sb2
def Ent (n b:Nat) (env:Env) (H:z02) (env':Env) (H':z02):Prop:=∀ (S:MS) (val:Nat→Value),b ≤ S.n→SRel S H→(∀ i,i < n→VRel S (env i) (val i)) →
 ∃ S',S'.w=S.w∧BEvo b S S'∧SRel S' H'∧∀ i,i < n→VRel S' (env' i) (val i)
section
variable {P:Program} {n b:Nat} {env env':Env} {H H':z02} {Q:Ex→Env→z02→Prop}
theorem Ent.refl:Ent n b env H env H:=fun S val hb hS hv=>⟨S,rfl,.refl hb,hS,hv⟩
theorem Ent.trans {env2:Env} {H2:z02} (h1:Ent n b env H env' H') (h2:Ent n b env' H' env2 H2):Ent n b env H env2 H2:=fun S val hb hS hv=>by
 obtain ⟨S1,a1,a2,a3,a4⟩:=h1 S val hb hS hv
 obtain ⟨S2,c1,c2,c3,c4⟩:=h2 S1 val a2.n a3 a4
 exact ⟨S2,c1.trans a1,a2.trans c2,c3,c4⟩
theorem yaf {c:AC} (he:Ent n b env H env' H') (h:T P n b c env' H' Q):T P n b c env H Q:=by
 intro rd mm hrd code hc S a hbS hS hF
 obtain ⟨S',hw,hev,hS',hv⟩:=he S (fun i=>a.tmps.getD i undef) hbS hS hF.val
 have:=h rd mm hrd code hc S' a hev.n hS' ⟨hF.size,hF.defers.of hev.base hev.size hev.keep hev.fresh (fun b hb=>hev.kept b (.inr hb)),hv⟩
 rw [hw] at this
 exact wpIn_mono this fun e a w hh=>hh.trans hev
theorem y6h {σ:Type} (Fact:σ→Prop) (μ:σ→Nat) (envs:σ→Env) (heap:σ→z02) {c:AC} (s0:σ) (h0:Fact s0) (he:Ent n b env H (envs s0) (heap s0))
   (round:∀ s,Fact s→T P n b c (envs s) (heap s) (Ex.then (fun env' H'=>∃ s',Ent n b env' H' (envs s') (heap s')∧Fact s'∧μ s' < μ s) Q)):T P n b (.loop c) env H Q:=by
 refine y22 (fun s env H=>Fact s∧Ent n b env H (envs s) (heap s)) μ s0 ⟨h0,he⟩ fun s env H hI=>?_
 refine yaf hI.2 (T.mono (round s hI.1) fun x env' H' hh=>?_)
 cases x with
 | normal=>obtain ⟨s',k1,k2,k3⟩:=hh;exact ⟨s',⟨k2,k1⟩,k3⟩
 | exit id=>exact hh
 | ret=>exact hh
theorem zij (live:List (Nat × AV)) (h:∀ p ∈ live,env p.1=p.2):Ent n b env H (z3w live) H:=fun S val hb hS hv=>by
 refine ⟨S,rfl,.refl hb,hS,fun i hi=>?_⟩
 have key:∀ (l:List (Nat × AV)),(∀ p ∈ l,env p.1=p.2)→VRel S (z3w l i) (val i):=fun l=>by
   induction l with
   | nil=>exact fun _=>trivial
   | cons p l ih =>
     intro hp
     obtain ⟨t,y⟩:=p
     show VRel S (if i=t then y else z3w l i) _
     split
     · rename_i hit
       subst hit
       have e:env i=y:=hp (i,y) (by simp)
       rw [← e]
       exact hv i hi
     · exact ih fun p hp'=>hp p (by simp [hp'])
 exact key live h
mutual
theorem zpx:∀ x:AV,ren (fun g=>g) x=x
 | .any|.bool _|.int _ _|.str _|.nilS|.nul|.emp|.nilP|.nilF|.yld _|.lst _ _|.full _ _|.cptr _|.map _ _|.ref _ _ _ _|.ptr _ _ _ _=>rfl
 | .agg cs=>by rw [ren,z7g cs]
 | .tup cs=>by rw [ren,z7g cs]
 | .fn f cs=>by rw [ren,z7g cs]
theorem z7g:∀ xs:List AV,renL (fun g=>g) xs=xs
 | []=>rfl
 | x :: xs=>by rw [renL,zpx x,z7g xs]
end
theorem zwd {l gar:List Grp} (hb:b ≤ l.length) (hcl:∀ G ∈ l,ltL l.length G.xs) (hlive:∀ i,i < n→ltV l.length (env i)):Ent n b env (hl (l ++ gar)) env (hl l):=fun S val hbS hS hv=>by
 have hn:S.n=l.length + gar.length:=by rw [← List.length_append];exact hS.n
 have hat:∀ g,g < l.length→(hl (l ++ gar)).at_ g=(hl l).at_ g:=fun g hg=>by
   rw [z37,z37];simp [List.getD,List.getElem?_append_left hg]
 let S':MS:={ S with n:=l.length }
 have hdown:∀ (x:AV) {v:Value},ltV l.length x→VRel S x v→VRel S' x v:=fun x v hx h=>by
   rw [← zpx x] at h
   exact zp9 (A:=S') (B:=S) (σ:=fun g=>g) (m:=l.length) rfl (fun b hb=>hb) (fun g hg=>⟨hg,rfl,rfl,rfl,rfl⟩) x hx h
 have hdownL:∀ (xs:List AV) {vs:List Value},ltL l.length xs→z04 S xs vs→z04 S' xs vs:=fun xs vs hx h=>by
   rw [← z7g xs] at h
   exact z4z (A:=S') (B:=S) (σ:=fun g=>g) (m:=l.length) rfl (fun b hb=>hb) (fun g hg=>⟨hg,rfl,rfl,rfl,rfl⟩) xs hx h
 refine ⟨S',rfl,⟨rfl,rfl,rfl,rfl,Nat.le_refl _,fun _ _=>rfl,fun _ h=>h,fun _ h=>h,fun _ h=>.inl h,hb,fun _ _=>Nat.le_refl _,fun _ _ _=>⟨rfl,rfl,rfl⟩⟩,⟨rfl,fun g hg=>?_,fun g g' hg hg' hne hw hw'=>?_,hS.im⟩,fun i hi=>hdown _ (hlive i hi) (hv i hi)⟩
 · have hg':g < l.length:=hg
   have hG:=hS.grp g (by show g < (l ++ gar).length;rw [List.length_append];omega)
   rw [hat g hg'] at hG
   have hm:(hl l).at_ g ∈ l:=by rw [z37,List.getD_eq_getElem?_getD,List.getElem?_eq_getElem hg'];exact List.getElem_mem _
   have hc:=hcl _ hm
   refine ⟨hG.ver,hG.wid,fun hw hcap=>?_,hG.len,hG.full,fun hw he=>?_⟩
   · obtain ⟨⟨cells,TT,vs,a1,a2,a3,a4⟩,a5⟩:=hG.live hw hcap
     exact ⟨⟨cells,TT,vs,a1,a2,hdownL _ hc a3,a4⟩,a5⟩
   · obtain ⟨⟨es,clock,a1,a2⟩,a5⟩:=hG.mlive hw he
     exact ⟨⟨es,clock,a1,hdownL _ hc a2⟩,a5⟩
 · have hg1:g < l.length:=hg
   have hg2:g' < l.length:=hg'
   rw [← hat g hg1] at hw
   rw [← hat g' hg2] at hw'
   exact hS.apart g g' (by show g < (l ++ gar).length;rw [List.length_append];omega) (by show g' < (l ++ gar).length;rw [List.length_append];omega) hne hw hw'
theorem y0o {l:List Grp} (ws:List Nat) (hw:∀ w ∈ ws,0 < w):Ent n b env (hl l) env (hl (l ++ ws.map z8g)):=fun S val hbS hS hv=>by
 obtain ⟨S',e1,e2,e3,e4⟩:=zid ws (env:=fun i=>if i < n then env i else .any) (val:=val) hw hS (fun i=>by
   show VRel S (if i < n then env i else .any) _
   split
   · exact hv i (by assumption)
   · trivial)
 refine ⟨S',e1,e2.down hbS,e3,fun i hi=>?_⟩
 have:=e4 i
 simp only [if_pos hi] at this
 exact this
theorem yag {l l':List Grp} (h:z74 l l l') (hv:∀ i,i < n→leS l (env i) (env' i)):Ent n b env (hl l) env' (hl l'):=fun S val hbS hS hval =>
 ⟨S,rfl,.refl hbS,z7y hS h,fun i hi=>zk3 (.inl hS) _ (hv i hi) (hval i hi)⟩
theorem y6i (i d:Nat) (ks:List Nat) (hok:z2m d (H.only ks) (env i)):Ent n b env H (env.put (some i) (frzV d (H.only ks) (env i))) (H.kill ks):=fun S val hbS hS hv=>by
 refine ⟨S.kill H ks,rfl,(z9h ks hS).down hbS,zoy ks hS,fun j hj=>?_⟩
 show VRel _ (if j=i then _ else _) _
 split
 · rename_i hji
   subst hji
   exact zoz ks hS d hok (hv j hj)
 · exact VRel.mono (z9h ks hS) _ (hv j hj)
theorem y6j {c:AC} (he:Ent n b env H env' H') (h:@z8f ⟨T P n b c env' H' Q⟩):@z8f ⟨T P n b c env H Q⟩:=yaf he h
end
end Go.Proofs.Yticodgjinajkpaa.Abs
namespace Go.Proofs.Yticodgjinajkpaa
open Abs
def z3y (r:Rule):Bool:=decide ((r.guards.length:Int)=0)
def toD (l:List Rule) (i:Nat):List Int:=(l.filter fun r=>z3y r && decide (r.from_=i)).map (·.to_)
def inD (l:List Rule) (j:Nat):Int:=((l.filter fun r=>z3y r && decide (r.to_=j)).length:Int)
def cntE (l:List Rule) (P:List Int) (j:Nat):Int:=((l.filter fun r=>z3y r && (decide (r.to_=j) && !decide (r.from_ ∈ P))).length:Int)
theorem zik (l:List Rule) (j:Nat):cntE l [] j=inD l j:=by simp [cntE,inD]
theorem y6k (l:List Rule) (P:List Int) (j:Nat):0 ≤ cntE l P j:=by simp only [cntE];omega
theorem y6l (l:List Rule) (P:List Int) (j:Nat):cntE l P j ≤ cntE l [] j:=by
 simp only [cntE]
 have:(l.filter fun r=>z3y r && (decide (r.to_=j) && !decide (r.from_ ∈ P))).length ≤ (l.filter fun r=>z3y r && (decide (r.to_=j) && !decide (r.from_ ∈ ([]:List Int)))).length:=by
   induction l with
   | nil=>simp
   | cons r l ih =>
     simp only [List.filter_cons]
     cases z3y r<;>cases decide (r.to_=(j:Int))<;>cases decide (r.from_ ∈ P)<;>simp at ih ⊢<;>omega
 omega
theorem zil {s j:Nat} {P:List Int} (hs:(s:Int) ∉ P):∀ l:List Rule,cntE l (P ++ [(s:Int)]) j + ((toD l s).count (j:Int):Int)=cntE l P j
 | []=>by simp [cntE,toD]
 | r :: l=>by
   have ih:=zil (j:=j) hs l
   simp only [cntE,toD,List.filter_cons] at ih ⊢
   cases he:z3y r
   · simpa using ih
   · simp only [Bool.true_and]
     by_cases ht:r.to_=j
     · by_cases hf:r.from_=s
       · have h1:r.from_ ∈ P ++ [(s:Int)]:=by simp [hf]
         have h2:r.from_ ∉ P:=by rw [hf];exact hs
         simp only [ht,hf] at h1 h2 ⊢
         simp only [decide_true,h1,h2,decide_false,Bool.not_true,Bool.not_false,Bool.and_false,Bool.and_true,if_true,Bool.false_eq_true,if_false,List.length_cons,List.map_cons,List.count_cons_self,ht]
         push_cast
         omega
       · have h1:(r.from_ ∈ P ++ [(s:Int)]) ↔ r.from_ ∈ P:=by simp [hf]
         by_cases h2:r.from_ ∈ P
         · simp only [ht,hf,h1,h2,decide_true,decide_false,Bool.not_true,Bool.and_false,Bool.false_eq_true,if_false]
           exact ih
         · simp only [ht,hf,h1,h2,decide_true,decide_false,Bool.not_false,Bool.and_true,if_true,Bool.false_eq_true,if_false,List.length_cons]
           push_cast
           omega
     · by_cases hf:r.from_=s
       · simp only [ht,hf,decide_false,decide_true,Bool.false_and,Bool.false_eq_true,if_false,if_true,List.map_cons]
         rw [List.count_cons_of_ne ht]
         exact ih
       · simp only [ht,hf,decide_false,Bool.false_and,Bool.false_eq_true,if_false]
         exact ih
theorem z84:∀ {a b:List Int},a.Nodup→(∀ x ∈ a,x ∈ b)→a.length ≤ b.length
 | [],b,_,_=>Nat.zero_le _
 | x :: a,b,hn,h=>by
   obtain ⟨h1,h2⟩:=List.nodup_cons.1 hn
   have hx:=h x (by simp)
   have:=z84 (a:=a) (b:=b.erase x) h2 fun y hy=>(List.mem_erase_of_ne (fun (e:y=x)=>h1 (by rw [← e];exact hy))).2 (h y (by simp [hy]))
   rw [List.length_erase_of_mem hx] at this
   have:=List.length_pos_of_mem hx
   simp only [List.length_cons]
   omega
def idsN (n:Nat):List Int:=(List.range n).map fun (i:Nat)=>(i:Int)
theorem zwe (n:Nat):(idsN n).Nodup:=by
 rw [idsN,List.nodup_iff_pairwise_ne,List.pairwise_map]
 exact (List.nodup_iff_pairwise_ne.1 (List.nodup_range)).imp fun h e=>h (by omega)
theorem zim {n:Nat} {x:Int}:x ∈ idsN n ↔ 0 ≤ x∧x < n:=by
 simp only [idsN,List.mem_map,List.mem_range]
 constructor
 · rintro ⟨i,hi,rfl⟩;omega
 · rintro ⟨h1,h2⟩;exact ⟨x.toNat,by omega,by omega⟩
def y2s (l:List Rule) (n:Nat) (C:Int→Prop):Prop:=∀ j,C j→(0 ≤ j∧j < n)∧∃ r ∈ l,z3y r=true∧r.to_=j∧C r.from_
def cycP (l:List Rule) (n:Nat):Prop:=∃ C,y2s l n C∧∃ j,C j
structure KInv (l:List Rule) (n:Nat) (D:List Int) (I:Nat→Int):Prop where
 nodup:D.Nodup
 range:∀ x ∈ D,0 ≤ x∧x < n
 zero:∀ j,j < n→((j:Int) ∈ D ↔ I j=0)
 apart:∀ C,y2s l n C→∀ x ∈ D,¬ C x
theorem KInv.len {l:List Rule} {n:Nat} {D:List Int} {I:Nat→Int} (h:KInv l n D I):D.length ≤ n:=by
 have:=z84 h.nodup fun x hx=>zim.2 (h.range x hx)
 simpa [idsN] using this
def z92 (f:Nat→Int) (k:Nat):List Int:=((List.range k).filter fun j=>decide (f j=0)).map fun (j:Nat)=>(j:Int)
theorem zs6 (f:Nat→Int) (k:Nat):z92 f (k + 1)=if f k=0 then z92 f k ++ [(k:Int)] else z92 f k:=by
 rw [z92,List.range_succ,List.filter_append,List.map_append]
 split
 · rename_i h;simp [z92,h]
 · rename_i h;simp [z92,h]
theorem zwf (f:Nat→Int) (k:Nat):(z92 f k).length ≤ k:=by
 have:=List.length_filter_le (fun j=>decide (f j=0)) (List.range k)
 simpa [z92] using this
theorem y6m {l:List Rule} {r:Rule} {j:Nat} (hr:r ∈ l) (he:z3y r=true) (ht:r.to_=j):0 < inD l j:=by
 have:0 < (l.filter fun r=>z3y r && decide (r.to_=j)).length:=List.length_pos_of_mem (List.mem_filter.2 ⟨hr,by simp [he,ht]⟩)
 simp only [inD];omega
theorem y0p {l:List Rule} {P:List Int} {r:Rule} {j:Nat} (hr:r ∈ l) (he:z3y r=true) (ht:r.to_=j) (hf:r.from_ ∉ P):0 < cntE l P j:=by
 have:0 < (l.filter fun r=>z3y r && (decide (r.to_=j) && !decide (r.from_ ∈ P))).length:=List.length_pos_of_mem (List.mem_filter.2 ⟨hr,by simp [he,ht,hf]⟩)
 simp only [cntE];omega
theorem zs7 (l:List Rule) (n:Nat):KInv l n (z92 (inD l) n) (cntE l []) where
 nodup:=by
   rw [z92,List.nodup_iff_pairwise_ne,List.pairwise_map]
   exact ((List.nodup_iff_pairwise_ne.1 (List.nodup_range)).filter _).imp fun h e=>h (by omega)
 range x hx:=by
   obtain ⟨i,hi,rfl⟩:=List.mem_map.1 hx
   have:=(List.mem_filter.1 hi).1
   simp at this
   omega
 zero j hj:=by
   rw [zik]
   simp only [z92,List.mem_map,List.mem_filter,List.mem_range,decide_eq_true_eq]
   constructor
   · rintro ⟨i,⟨h1,h2⟩,e⟩
     obtain rfl:i=j:=by omega
     exact h2
   · intro h;exact ⟨j,⟨hj,h⟩,rfl⟩
 apart C hC x hx hCx:=by
   obtain ⟨i,hi,rfl⟩:=List.mem_map.1 hx
   have h0:=(List.mem_filter.1 hi).2
   simp only [decide_eq_true_eq] at h0
   obtain ⟨_,r,hr,he,ht,_⟩:=hC _ hCx
   have:=y6m hr he ht
   omega
def z4i (l:List Rule) (P:List Int) (s m:Nat) (j:Nat):Int:=cntE l P j - (((toD l s).take m).count (j:Int):Int)
theorem zgf (l:List Rule) (P:List Int) (s:Nat):z4i l P s 0=cntE l P:=by funext j;simp [z4i]
theorem zwg {l:List Rule} {P:List Int} {s:Nat} (hs:(s:Int) ∉ P):z4i l P s (toD l s).length=cntE l (P ++ [(s:Int)]):=by
 funext j
 have:=zil (j:=j) hs l
 rw [z4i,List.take_length]
 omega
theorem zpy {l:List Rule} {P:List Int} {s m j:Nat} (hs:(s:Int) ∉ P):cntE l (P ++ [(s:Int)]) j ≤ z4i l P s m j:=by
 have h1:=zil (j:=j) hs l
 have h2:=(List.take_sublist m (toD l s)).count_le (j:Int)
 rw [z4i]
 omega
theorem zat {l:List Rule} {P:List Int} {s m t:Nat} (hm:m < (toD l s).length) (ht:nth (toD l s) m=t):z4i l P s (m + 1)=fun j=>if j=t then z4i l P s m t - 1 else z4i l P s m j:=by
 funext j
 rw [z4i,take_at hm,List.count_append,ht]
 by_cases e:j=t
 · subst e;simp [z4i];omega
 · have h0:List.count (j:Int) [(t:Int)]=0:=List.count_eq_zero.2 (by simp;omega)
   rw [if_neg e,h0,z4i];omega
theorem zle {l:List Rule} {P:List Int} {s m t:Nat} (hs:(s:Int) ∉ P) (hm:m < (toD l s).length) (ht:nth (toD l s) m=t):0 < z4i l P s m t:=by
 have h1:=zpy (l:=l) (m:=m + 1) (j:=t) hs
 have h2:=y6k l (P ++ [(s:Int)]) t
 rw [zat hm ht] at h1
 simp only [if_true] at h1
 omega
theorem zwh {l:List Rule} {n:Nat} {P td:List Int} {s m t:Nat} (hs:(s:Int) ∉ P) (hm:m < (toD l s).length) (ht:nth (toD l s) m=t) (htn:t < n) (h:KInv l n (P ++ [(s:Int)] ++ td) (z4i l P s m)) :
   KInv l n (P ++ [(s:Int)] ++ if z4i l P s m t - 1=0 then td ++ [(t:Int)] else td) (z4i l P s (m + 1)):=by
 have hp:=zle hs hm ht
 have hno:(t:Int) ∉ P ++ [(s:Int)] ++ td:=fun hh=>by
   have:=(h.zero t htn).1 hh
   omega
 have hst:=zat (P:=P) hm ht
 split
 · rename_i h0
   rw [← List.append_assoc]
   refine ⟨List.nodup_append.2 ⟨h.nodup,by simp,fun a ha b hb=>?_⟩,fun x hx=>?_,fun j hj=>?_,fun C hC x hx hCx=>?_⟩
   · simp only [List.mem_singleton] at hb
     subst hb
     exact fun e=>hno (e ▸ ha)
   · rcases List.mem_append.1 hx with hx|hx
     · exact h.range x hx
     · simp only [List.mem_singleton] at hx;omega
   · rw [hst,List.mem_append,List.mem_singleton]
     by_cases e:j=t
     · subst e;simp [h0]
     · simp only [if_neg e]
       rw [← h.zero j hj]
       exact ⟨fun hh=>hh.elim id fun hh=>absurd hh (by omega),.inl⟩
   · rcases List.mem_append.1 hx with hx|hx
     · exact h.apart C hC x hx hCx
     · simp only [List.mem_singleton] at hx
       subst hx
       obtain ⟨_,r,hr,he,hrt,hrf⟩:=hC _ hCx
       have hf:r.from_ ∉ P ++ [(s:Int)]:=fun hh=>h.apart C hC _ (List.mem_append.2 (.inl hh)) hrf
       have h1:=y0p hr he hrt hf
       have h2:=zpy (l:=l) (m:=m + 1) (j:=t) hs
       rw [hst] at h2
       simp only [if_true] at h2
       omega
 · rename_i h0
   refine ⟨h.nodup,h.range,fun j hj=>?_,h.apart⟩
   rw [hst]
   by_cases e:j=t
   · subst e;simp only [if_true];exact ⟨fun hh=>absurd hh hno,fun hh=>absurd hh h0⟩
   · simp only [if_neg e];exact h.zero j hj
theorem zwi {l:List Rule} {n:Nat} {P:List Int} (hl:∀ r ∈ l,0 ≤ r.from_∧r.from_ < n) (h:KInv l n P (cntE l P)):P.length < n ↔ cycP l n:=by
 constructor
 · intro hlt
   refine ⟨fun j=>(0 ≤ j∧j < n)∧j ∉ P,fun j hj=>⟨hj.1,?_⟩,?_⟩
   · have h0:cntE l P j.toNat ≠ 0:=fun h0=>hj.2 (by
       have:=(h.zero j.toNat (by omega)).2 h0
       rwa [show ((j.toNat:Nat):Int)=j by omega] at this)
     have:0 < (l.filter fun r=>z3y r && (decide (r.to_=(j.toNat:Nat)) && !decide (r.from_ ∈ P))).length:=by
       simp only [cntE] at h0;omega
     obtain ⟨r,hr⟩:=List.exists_mem_of_length_pos this
     obtain ⟨h1,h2⟩:=List.mem_filter.1 hr
     simp only [Bool.and_eq_true,decide_eq_true_eq,Bool.not_eq_true',decide_eq_false_iff_not] at h2
     exact ⟨r,h1,h2.1,by rw [h2.2.1];omega,hl r h1,h2.2.2⟩
   · refine Classical.byContradiction fun hno=>?_
     have:=z84 (zwe n) fun x hx=>Classical.byContradiction fun hp=>hno ⟨x,zim.1 hx,hp⟩
     simp [idsN] at this
     omega
 · rintro ⟨C,hC,j,hj⟩
   have hr:=(hC j hj).1
   have hjP:j ∉ P:=fun hh=>h.apart C hC j hh hj
   have:=z84 (a:=j :: P) (b:=idsN n) (List.nodup_cons.2 ⟨hjP,h.nodup⟩) fun x hx=>by
     rcases List.mem_cons.1 hx with rfl|hx
     · exact zim.2 hr
     · exact zim.2 (h.range x hx)
   simp [idsN] at this
   omega
def onF (l:List Rule) (on:Nat→Bool) (j:Nat):Bool:=l.any fun r=>z3y r && (on r.from_.toNat && decide (r.to_=j))
def onK (l:List Rule):Nat→Nat→Bool
 | 0=>fun _=>true
 | k + 1=>onF l (onK l k)
def zau (l:List Rule) (on:Nat→Bool):Bool:=l.any fun r=>z3y r && on r.from_.toNat
def cycR (l:List Rule) (n:Nat):Bool:=(List.range (n + 1)).all fun k=>zau l (onK l k)
theorem y0q {l:List Rule} {p q:Nat→Bool} (h:∀ j,p j=true→q j=true) (j:Nat):onF l p j=true→onF l q j=true:=by
 simp only [onF,List.any_eq_true,Bool.and_eq_true,decide_eq_true_eq]
 rintro ⟨r,hr,h1,h2,h3⟩
 exact ⟨r,hr,h1,h _ h2,h3⟩
theorem zpz (l:List Rule):∀ (k j:Nat),onK l (k + 1) j=true→onK l k j=true
 | 0,j,_=>rfl
 | k + 1,j,h=>y0q (fun j=>zpz l k j) j h
theorem filter_lt {p q:Nat→Bool} (h:∀ j,p j=true→q j=true):∀ {l:List Nat} {x:Nat},x ∈ l→q x=true→p x=false→(l.filter p).length < (l.filter q).length
 | [],_,hx,_,_=>by cases hx
 | y :: l,x,hx,hq,hp=>by
   have hle:∀ l:List Nat,(l.filter p).length ≤ (l.filter q).length:=fun l=>by
     induction l with
     | nil=>simp
     | cons a l ih =>
       simp only [List.filter_cons]
       have:=h a
       cases hpa:p a<;>cases hqa:q a<;>simp_all<;>omega
   simp only [List.filter_cons]
   rcases List.mem_cons.1 hx with rfl|hx
   · have:=hle l
     simp only [hp,hq,Bool.false_eq_true,if_false,if_true,List.length_cons]
     omega
   · have ih:=filter_lt h hx hq hp
     have:=h y
     cases hpa:p y<;>cases hqa:q y<;>simp_all<;>omega
theorem y0r {l:List Rule} {n:Nat} (hl:∀ r ∈ l,(0 ≤ r.from_∧r.from_ < n)∧0 ≤ r.to_∧r.to_ < n):cycR l n=true ↔ cycP l n:=by
 rw [cycR,List.all_eq_true]
 constructor
 · intro h
   have hex:∃ k,k ≤ n∧∀ j,j < n→onK l k j=true→onK l (k + 1) j=true:=by
     refine Classical.byContradiction fun hno=>?_
     have hstep:∀ k,k ≤ n→∃ j,j < n∧onK l k j=true∧onK l (k + 1) j=false:=fun k hk=>Classical.byContradiction fun hc=>hno ⟨k,hk,fun j hj h1=>by
       cases h2:onK l (k + 1) j
       · exact absurd ⟨j,hj,h1,h2⟩ hc
       · rfl⟩
     have key:∀ k,k ≤ n + 1→((List.range n).filter (onK l k)).length + k ≤ n:=fun k=>by
       induction k with
       | zero =>
         intro _
         have:=List.length_filter_le (onK l 0) (List.range n)
         simpa using this
       | succ k ih =>
         intro hk
         obtain ⟨j,hj,h1,h2⟩:=hstep k (by omega)
         have:=filter_lt (fun j=>zpz l k j) (List.mem_range.2 hj) h1 h2
         have:=ih (by omega)
         omega
     have:=key (n + 1) (Nat.le_refl _)
     omega
   obtain ⟨k,hk,hs⟩:=hex
   refine ⟨fun j=>0 ≤ j∧j < n∧onK l k j.toNat=true,fun j hj=>⟨⟨hj.1,hj.2.1⟩,?_⟩,?_⟩
   · have h1:=hs j.toNat (by omega) hj.2.2
     simp only [onK,onF,List.any_eq_true,Bool.and_eq_true,decide_eq_true_eq] at h1
     obtain ⟨r,hr,he,hf,ht⟩:=h1
     have hb:=hl r hr
     exact ⟨r,hr,he,by omega,by omega,by omega,hf⟩
   · have h1:=h k (by simp;omega)
     simp only [zau,List.any_eq_true,Bool.and_eq_true] at h1
     obtain ⟨r,hr,_,hf⟩:=h1
     have hb:=hl r hr
     exact ⟨r.from_,by omega,by omega,hf⟩
 · rintro ⟨C,hC,j,hj⟩ k _
   have key:∀ k i,C i→onK l k i.toNat=true:=fun k=>by
     induction k with
     | zero=>exact fun _ _=>rfl
     | succ k ih =>
       intro i hi
       obtain ⟨h1,r,hr,he,ht,hf⟩:=hC i hi
       simp only [onK,onF,List.any_eq_true,Bool.and_eq_true,decide_eq_true_eq]
       exact ⟨r,hr,he,ih _ hf,by omega⟩
   obtain ⟨_,r,hr,he,_,hf⟩:=hC j hj
   simp only [zau,List.any_eq_true,Bool.and_eq_true]
   exact ⟨r,hr,he,key k _ hf⟩
end Go.Proofs.Yticodgjinajkpaa
