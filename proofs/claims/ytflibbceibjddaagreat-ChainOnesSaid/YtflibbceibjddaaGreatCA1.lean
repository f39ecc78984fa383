/-
  Parts of the proof that the law holds whatever the input; without conditions.
-/
import Derived.WalkKit
import Derived.Still
import Derived.Laws.Cover4
import Derived.StillTail
import Derived.MapKept
import Derived.MapFrom
set_option linter.unusedSimpArgs false
set_option linter.unusedVariables false
set_option linter.unusedSectionVars false
namespace Go.Proofs.YtflibbceibjddaaGreat.Abs
theorem om{p:Prop}(h:p:=by omega):p:=h
theorem oc{p:Prop}(h:p:=by simp):p:=h
theorem ox{p:Prop}(h:p:=by decide):p:=h
theorem oy:True:=trivial
abbrev Aa:=@And.intro
abbrev B8:=@Array.all_eq_true_iff_forall_mem
abbrev F3:=@Array.ext'
abbrev Eo:=@Array.getD_eq_getD_getElem?
abbrev B2:=@Array.getElem?_append_left
abbrev D7:=@Array.getElem?_eq_getElem
abbrev CF:=@Array.getElem?_eq_none
abbrev AU:=@Array.getElem?_eq_some_iff
abbrev Ev:=@Array.getElem?_mapIdx
abbrev C2:=@Array.getElem?_modify
abbrev D2:=@Array.getElem?_toList
abbrev De:=@Array.getElem_mem
abbrev EF:=@Array.mapM_eq_mapM_toList
abbrev CP:=@Array.setIfInBounds_comm
abbrev Fu:=@Array.size_append
abbrev Ci:=@Array.size_modify
abbrev CU:=@Array.toList_extract
abbrev Ac:=@Bool.and_eq_true
abbrev E8:=@Bool.and_false
abbrev Gy:=@Bool.and_true
abbrev Ep:=@Bool.eq_iff_iff
abbrev B4:=@Bool.false_and
abbrev A8:=@Bool.false_eq_true
abbrev Cj:=@Bool.not_eq_true'
abbrev Gf:=@Bool.not_false
abbrev Gz:=@Bool.not_true
abbrev EV:=@Bool.or_eq_true
abbrev Hu:=@Bool.or_false
abbrev Bj:=@Bool.true_and
abbrev B5:=@Classical.byContradiction
abbrev Cg:=@Int.ediv_le_ediv
abbrev GK:=@Int.ediv_nonneg
abbrev BF:=@Int.emod_lt_of_pos
abbrev BR:=@Int.emod_nonneg
abbrev DT:=@Int.eq_ofNat_of_zero_le
abbrev AE:=@Int.le_refl
abbrev Ee:=@Int.lt_or_le
abbrev EG:=@Int.mul_comm
abbrev Ew:=@Int.mul_ediv_add_emod
abbrev Fv:=@Int.mul_le_mul
abbrev CQ:=@Int.mul_le_mul_of_nonneg_left
abbrev CN:=@Int.mul_le_mul_of_nonneg_right
abbrev DU:=@Int.mul_nonneg
abbrev E1:=@Int.pow_pos
abbrev BS:=@Int.toNat_of_nonneg
abbrev F4:=@List.Pairwise.sublist
abbrev AP:=@List.all_eq_true
abbrev Ct:=@List.any_eq_true
abbrev A3:=@List.append_assoc
abbrev Ax:=@List.append_nil
abbrev EW:=@List.cons.injEq
abbrev Fw:=@List.drop_drop
abbrev CK:=@List.drop_eq_getElem_cons
abbrev Fi:=@List.drop_eq_nil_of_le
abbrev Ao:=@List.drop_of_length_le
abbrev BH:=@List.drop_zero
abbrev Az:=@List.eq_nil_of_length_eq_zero
abbrev Ca:=@List.eq_of_mem_replicate
abbrev BL:=@List.ext_getElem
abbrev BZ:=@List.filter_append
abbrev BV:=@List.filter_cons
abbrev Do:=@List.flatMap_append
abbrev BI:=@List.flatMap_cons
abbrev Dr:=@List.flatMap_singleton
abbrev E2:=@List.foldl_append
abbrev BG:=@List.forall_mem_nil
abbrev BK:=@List.getD_cons_succ
abbrev Ak:=@List.getD_eq_getElem?_getD
abbrev A9:=@List.getElem?_append_left
abbrev AG:=@List.getElem?_append_right
abbrev Cf:=@List.getElem?_drop
abbrev Ar:=@List.getElem?_eq_getElem
abbrev BE:=@List.getElem?_eq_none
abbrev Bh:=@List.getElem?_eq_some_iff
abbrev Df:=@List.getElem?_map
abbrev E9:=@List.getElem?_of_mem
abbrev CW:=@List.getElem?_set_ne
abbrev Fj:=@List.getElem?_set_self
abbrev Cq:=@List.getElem?_take
abbrev Ey:=@List.getElem?_toArray
abbrev Dt:=@List.getElem_map
abbrev BM:=@List.getElem_mem
abbrev Bw:=@List.getElem_of_mem
abbrev D1:=@List.getElem_range
abbrev Ai:=@List.length_append
abbrev Bg:=@List.length_filter_le
abbrev Au:=@List.length_map
abbrev Cz:=@List.length_pos_iff
abbrev Ej:=@List.length_pos_of_mem
abbrev C0:=@List.length_range
abbrev C3:=@List.length_set
abbrev Bb:=@List.length_take
abbrev Cb:=@List.mapM_cons
abbrev Aw:=@List.map_append
abbrev A6:=@List.map_congr_left
abbrev AD:=@List.map_cons
abbrev Hf:=@List.map_eq_nil_iff
abbrev DV:=@List.map_id
abbrev BP:=@List.map_map
abbrev AX:=@List.map_nil
abbrev Ek:=@List.map_replicate
abbrev Av:=@List.mem_append
abbrev DG:=@List.mem_append_left
abbrev Ez:=@List.mem_append_right
abbrev Af:=@List.mem_cons
abbrev AW:=@List.mem_filter
abbrev EK:=@List.mem_flatMap
abbrev Al:=@List.mem_map
abbrev CX:=@List.mem_of_getElem?
abbrev Bc:=@List.mem_of_mem_drop
abbrev Be:=@List.mem_of_mem_take
abbrev AF:=@List.mem_range
abbrev Am:=@List.mem_singleton
abbrev Dg:=@List.nodup_append
abbrev Cc:=@List.nodup_cons
abbrev Dy:=@List.nodup_iff_pairwise_ne
abbrev Cm:=@List.nodup_nil
abbrev EL:=@List.nodup_range
abbrev An:=@List.not_mem_nil
abbrev DI:=@List.pairwise_append
abbrev AH:=@List.pairwise_cons
abbrev D8:=@List.pairwise_iff_getElem
abbrev DJ:=@List.pairwise_map
abbrev EX:=@List.pairwise_singleton
abbrev FE:=@List.range_eq_range'
abbrev Dh:=@List.range_succ
abbrev FF:=@List.set_append_left
abbrev F5:=@List.set_append_right
abbrev BN:=@List.size_toArray
abbrev CG:=@List.takeWhile_append_dropWhile
abbrev D3:=@List.take_append_drop
abbrev CR:=@List.take_append_of_le_length
abbrev DF:=@List.take_left'
abbrev As:=@List.take_length
abbrev Ay:=@List.take_of_length_le
abbrev Gi:=@List.take_sublist
abbrev Bu:=@Nat.add_assoc
abbrev BX:=@Nat.add_comm
abbrev AS:=@Nat.add_mul
abbrev GL:=@Nat.div_add_mod
abbrev EM:=@Nat.le_add_right
abbrev Ef:=@Nat.le_of_eq
abbrev G9:=@Nat.le_of_not_lt
abbrev Ab:=@Nat.le_refl
abbrev EY:=@Nat.le_succ
abbrev Bl:=@Nat.le_trans
abbrev Cl:=@Nat.lt_irrefl
abbrev AO:=@Nat.lt_of_lt_of_le
abbrev Aj:=@Nat.lt_or_ge
abbrev Gj:=@Nat.lt_trichotomy
abbrev Dj:=@Nat.min_eq_left
abbrev FC:=@Nat.mod_eq_of_lt
abbrev D9:=@Nat.mul_comm
abbrev CS:=@Nat.mul_le_mul
abbrev Bf:=@Nat.mul_le_mul_right
abbrev AZ:=@Nat.not_lt_zero
abbrev FG:=@Nat.one_mul
abbrev C8:=@Nat.pow_le_pow_right
abbrev AY:=@Nat.zero_add
abbrev Ap:=@Nat.zero_le
abbrev Ft:=@Nat.zero_mul
abbrev Du:=@Ne.symm
abbrev BA:=@Option.bind_eq_some_iff
abbrev EH:=@Option.isNone_iff_eq_none
abbrev Ag:=@Option.map_eq_some_iff
abbrev A5:=@Option.some.inj
abbrev Aq:=@Option.some.injEq
abbrev GV:=@and_true
abbrev Ck:=@beq_iff_eq
abbrev Bt:=@congrArg
abbrev Dv:=@decide_eq_decide
abbrev By:=@decide_eq_false
abbrev BB:=@decide_eq_false_iff_not
abbrev Bv:=@decide_eq_true
abbrev Ah:=@decide_eq_true_eq
abbrev C7:=@decide_false
abbrev DW:=@decide_true
abbrev Er:=@eq_true
abbrev BC:=@false_or
abbrev Cr:=@forall_eq
abbrev B6:=@forall_eq_or_imp
abbrev Bq:=@if_false
abbrev Ad:=@if_neg
abbrev Ae:=@if_pos
abbrev Br:=@if_true
abbrev AT:=@not_false_eq_true
abbrev Ch:=@not_or
abbrev A7:=@or_false
abbrev Cn:=@or_true
abbrev Dz:=@true_and
abbrev Co:=@true_or
inductive AV where
 |any
 |bool (b:Bool)
 |int (k:IntKind) (n:Int)
 |str (s:List UInt8)
 |nilS
 |nul
 |emp
 |lst (w:Nat) (xs:List AV)
 |full (w:Nat) (xs:List AV)
 |map (g v:Nat)
 |ref (g v off len:Nat)
 |cptr (x:AV)
 |ptr (g v i o:Nat)
 |nilP
 |agg (cs:List AV)
 |tup (vs:List AV)
 |fn (f:Nat) (caps:List AV)
 |nilF
 |yld (l:Nat)
 deriving Inhabited
structure MS where
 w:World
 im:Nat->Prop
 keep:Nat->Prop
 n:Nat
 place:Nat->Nat
 cur:Nat->Nat
 cap:Nat->Nat
 wid:Nat->Nat
 base:Nat
def Laid(w:World)(b o wd:Nat)(v:Value):Prop:=v.cells.size=wd/\(∀c∈v.cells,c.oneCell'=true)/\∀j,j<wd->w.cell? ⟨b,o+j,none⟩=v.cells[j]?
mutual
def AV.pure:AV->Bool
 |.ref ..|.ptr ..|.map ..=>false
 |.agg cs|.tup cs|.fn _ cs=>AJ cs
 |.lst _ xs|.full _ xs=>AJ xs
 |.cptr x=>x.pure
 |.any|.bool _|.int ..|.str _|.nilS|.nul|.emp|.nilP|.nilF|.yld _=>true
def AJ:List AV->Bool
 |[]=>true
 |x::xs=>x.pure&&AJ xs
end
def OC(w:World)(b o wd:Nat)(vs:List Value):Prop:=∀i v,vs[i]? = some v->Laid w b (o+i * wd) wd v
mutual
def VRel(S:MS):AV->Value->Prop
 |.any,_=>True
 |.bool b,v=>v=.bool b
 |.int k n,v=>v=.int k n
 |.str s,v=>v=.string ⟨s.toArray⟩
 |.nilS,v=>v=.slice none 0 0
 |.nul,v=>∃a,v=.slice a 0 0
 |.emp,v=>∃a cap,v=.slice (some a) 0 cap
 |.lst wd xs,v=>AJ xs=true/\0<wd/\∃a cap vs,v=.slice a xs.length cap/\(xs.length<=cap/\(a=none->cap=0))/\AB S xs vs /\
  (xs≠[]->∃b o,a=some ⟨b,o,none⟩/\S.im b/\OC S.w b o wd vs)
 |.full wd xs,v=>AJ xs=true/\0<wd/\∃a vs,v=.slice a xs.length xs.length/\(a=none->xs.length=0)/\AB S xs vs /\
  (xs≠[]->∃b o,a=some ⟨b,o,none⟩/\S.im b/\OC S.w b o wd vs)
 |.map g vn,v=>(∃a,v=.map (some a))/\g<S.n/\vn<=S.cur g/\(S.cur g=vn->v=.map (some (S.place g)))
 |.ref g vn off len,v=>(∃a c,v=.slice a len c/\(a=none->len=0))/\g<S.n/\vn<=S.cur g/\(S.cur g=vn->∃a cap',v=.slice a len cap' /\
  ((a=some ⟨S.place g,off * S.wid g,none⟩/\cap'=S.cap g-off/\off+len<=S.cap g)\/(len=0/\cap'=0/\S.cap g<=off)))
 |.cptr x,v=>x.pure=true/\∃b o u,v=.pointer (some ⟨b,o,none⟩)/\S.im b/\VRel S x u/\Laid S.w b o u.cells.size u
 |.ptr g vn i o,v=>(∃a,v=.pointer (some a))/\g<S.n/\vn<=S.cur g/\(S.cur g=vn->v=.pointer (some ⟨S.place g,i * S.wid g+o,none⟩))
 |.nilP,v=>v=.pointer none
 |.agg cs,v=>∃vs:List Value,v=.agg vs.toArray/\AB S cs vs
 |.tup cs,v=>∃vs:List Value,v=.tuple vs.toArray/\AB S cs vs
 |.fn f cs,v=>∃vs:List Value,v=.func (.func f) #[] vs.toArray/\AB S cs vs
 |.nilF,v=>v=.nilFunc
 |.yld l,v=>v=.func (.yield l) #[] #[]
def AB(S:MS):List AV->List Value->Prop
 |[],vs=>vs=[]
 |x::xs,vs=>∃v r,vs=v::r/\VRel S x v/\AB S xs r
end
def Hg(cells:Array Value)(wd:Nat)(vs:List Value):Prop :=
 ∀i v,vs[i]? = some v->v.cells.size=wd/\(∀c∈v.cells,c.oneCell'=true)/\∀j,j<wd->cells[i * wd+j]? = v.cells[j]?
structure Grp where
 w:Nat
 ver:Nat
 exact:Bool
 xs:List AV
 deriving Inhabited
structure A4 where
 n:Nat
 at_:Nat->Grp
 deriving Inhabited
def A4.nil:A4:=⟨0,λ_=>default⟩
def hput(f:Nat->Grp)(g:Nat)(G:Grp):Nat->Grp:=λj=>if j=g then G else f j
def A4.push(H:A4)(G:Grp):A4:=⟨H.n+1,hput H.at_ H.n G⟩
def A4.set(H:A4)(g:Nat)(G:Grp):A4:=⟨H.n,hput H.at_ g G⟩
def z75(es:Array MapEntry):List Value:=es.toList.flatMap λe=>[e.key,e.val]
def IsM:Obj->Prop
 |.map es clock=>clock=es.size/\∀(i:Nat)(e:MapEntry),es[i]? = some e->e.born=i/\∃n,e.key=.int .i64 n
 |.mapIter (some _) _ _ _=>True
 |_=>False
def UQ:Obj->List Value
 |.map es _=>z75 es
 |.mapIter m since seen last=>.map m::.int .i64 since::.int .i64 last::seen.toList.map λ(b:Nat)=>Value.int .i64 b
 |_=>[]
def Grp.has(G:Grp)(c:Nat):Prop:=(0<G.w/\0<c)\/(G.w=0/\G.exact=true)
structure GRel(S:MS)(G:Grp)(g:Nat):Prop where
 ver:S.cur g=G.ver
 wid:S.wid g=G.w
 live:0<G.w->0<S.cap g->(∃cells T vs,S.w.heap[S.place g]? = some (.cells cells T (0,0))/\cells.size=S.cap g * G.w/\AB S G.xs vs/\Hg cells G.w vs) /\
  ¬(S.im (S.place g)\/S.keep (S.place g))
 len:0<G.w->G.xs.length<=S.cap g
 full:0<G.w->G.exact=true->G.xs.length=S.cap g
 mlive:G.w=0->G.exact=true->(∃o,S.w.heap[S.place g]? = some o/\IsM o/\AB S G.xs (UQ o))/\¬(S.im (S.place g)\/S.keep (S.place g))
structure SRel(S:MS)(H:A4):Prop where
 n:S.n=H.n
 grp:∀g,g<H.n->GRel S (H.at_ g) g
 apart:∀g g',g<H.n->g'<H.n->g≠g'->(H.at_ g).has (S.cap g)->(H.at_ g').has (S.cap g')->S.place g≠S.place g'
 im:∀b,S.im b\/S.keep b->b<S.w.heap.size
def LB(w' w:World):Prop:=w'.tape=w.tape/\w.drawn<=w'.drawn
theorem LB.trans{a b c:World}(h:LB c b)(k:LB b a):LB c a:=⟨h.1.trans k.1,Bl k.2 h.2⟩
structure Evo(S S':MS):Prop where
 base:S'.base=S.base
 os:S'.w.os=S.w.os
 tape:LB S'.w S.w
 output:S'.w.output=S.w.output
 size:S.w.heap.size<=S'.w.heap.size
 kept:∀b,S.im b\/S.keep b->S'.w.heap[b]? = S.w.heap[b]?
 im:∀b,S.im b->S'.im b
 keep:∀b,S.keep b->S'.keep b
 fresh:∀b,S'.im b->S.im b\/¬S.keep b
 n:S.n<=S'.n
 cur:∀g,g<S.n->S.cur g<=S'.cur g
 same:∀g,g<S.n->S'.cur g=S.cur g->S'.place g=S.place g/\S'.cap g=S.cap g/\S'.wid g=S.wid g
theorem Evo.block{S S':MS}(e:Evo S S')(b:Nat)(h:S.im b):S'.w.heap[b]? = S.w.heap[b]? := e.kept b (.inl h)
theorem Evo.refl(S:MS):Evo S S:=⟨rfl,rfl,⟨rfl,Ab _⟩,rfl,Ab _,λ_ _=>rfl,λ_ h=>h,λ_ h=>h,λ_ h=>.inl h,Ab _,λ_ _=>Ab _,λ_ _ _=>⟨rfl,rfl,rfl⟩⟩
theorem Evo.trans{A B C:MS}(h:Evo A B)(k:Evo B C):Evo A C where
 base:=k.base.trans h.base
 os:=k.os.trans h.os
 tape:=k.tape.trans h.tape
 output:=k.output.trans h.output
 size:=Bl h.size k.size
 kept b hb:=(k.kept b (hb.imp (h.im b) (h.keep b))).trans (h.kept b hb)
 im b hb:=k.im b (h.im b hb)
 keep b hb:=k.keep b (h.keep b hb)
 fresh b hb:=(k.fresh b hb).elim (h.fresh b) (λhn=>.inr λhk=>hn (h.keep b hk))
 n:=Bl h.n k.n
 cur g hg:=Bl (h.cur g hg) (k.cur g (AO hg h.n))
 same g hg e:=by
  have h1:=h.cur g hg;have h2:=k.cur g (AO hg h.n);have e1:B.cur g=A.cur g:=om
  have e2:C.cur g=B.cur g:=om
  obtain⟨p1,p2,p3⟩:=h.same g hg e1;obtain⟨q1,q2,q3⟩:=k.same g (AO hg h.n) e2;exact⟨q1.trans p1,q2.trans p2,q3.trans p3⟩
theorem Laid.mono{w w':World}{b o wd:Nat}{v:Value}(hb:w'.heap[b]? = w.heap[b]?)(h:Laid w b o wd v):Laid w' b o wd v :=
 ⟨h.1,h.2.1,λj hj=>by rw[World.cell?_of_block (w:=w) hb];exact h.2.2 j hj⟩
theorem OC.mono{w w':World}{b o wd:Nat}{vs:List Value}(hb:w'.heap[b]? = w.heap[b]?)(h:OC w b o wd vs):OC w' b o wd vs :=
 λi v hv=>(h i v hv).mono hb
structure Evi(S S':MS):Prop where
 block:∀b,S.im b->S'.w.heap[b]? = S.w.heap[b]?
 im:∀b,S.im b->S'.im b
 n:S.n<=S'.n
 cur:∀g,g<S.n->S.cur g<=S'.cur g
 same:∀g,g<S.n->S'.cur g=S.cur g->S'.place g=S.place g/\S'.cap g=S.cap g/\S'.wid g=S.wid g
theorem Evo.evi{S S':MS}(e:Evo S S'):Evi S S':=⟨e.block,e.im,e.n,e.cur,e.same⟩
mutual
theorem VRel.moni{S S':MS}(e:Evi S S'):∀(x:AV){v:Value},VRel S x v->VRel S' x v
 |.any,_,_=>trivial
 |.bool _,_,h=>h
 |.int _ _,_,h=>h
 |.str _,_,h=>h
 |.nilS,_,h=>h
 |.nul,_,h=>h
 |.emp,_,h=>h
 |.nilP,_,h=>h
 |.nilF,_,h=>h
 |.yld _,_,h=>h
 |.lst wd xs,v,h=>by
  obtain⟨hp,hw,a,cap,vs,hv,hc,hl,hr⟩:=h;exact⟨hp,hw,a,cap,vs,hv,hc,AB.moni e xs hl,λhne=>let ⟨b,o,ha,hi,hrow⟩:=hr hne;⟨b,o,ha,e.im b hi,hrow.mono (e.block b hi)⟩⟩
 |.ref g vn off len,v,h=>by
  obtain⟨hs,hg,hc,hv⟩:=h;refine⟨hs,AO hg e.n,Bl hc (e.cur g hg),λh'=>?_⟩;have:=e.cur g hg;have ec:S'.cur g=S.cur g:=om
  obtain⟨p1,p2,p3⟩:=e.same g hg ec;rw[p1,p2,p3];exact hv om
 |.full wd xs,v,h=>by
  obtain⟨hp,hw,a,vs,hv,hc,hl,hr⟩:=h;exact⟨hp,hw,a,vs,hv,hc,AB.moni e xs hl,λhne=>let ⟨b,o,ha,hi,hrow⟩:=hr hne;⟨b,o,ha,e.im b hi,hrow.mono (e.block b hi)⟩⟩
 |.map g vn,v,h=>by
  obtain⟨hs,hg,hc,hv⟩:=h;refine⟨hs,AO hg e.n,Bl hc (e.cur g hg),λh'=>?_⟩;have:=e.cur g hg;have ec:S'.cur g=S.cur g:=om
  obtain⟨p1,p2,p3⟩:=e.same g hg ec;rw[p1];exact hv om
 |.cptr x,v,h=>by
  obtain⟨hp,b,o,u,hv,hi,hx,hl⟩:=h;exact⟨hp,b,o,u,hv,e.im b hi,VRel.moni e x hx,hl.mono (e.block b hi)⟩
 |.ptr g vn i o,v,h=>by
  obtain⟨hs,hg,hc,hv⟩:=h;refine⟨hs,AO hg e.n,Bl hc (e.cur g hg),λh'=>?_⟩;have:=e.cur g hg;have ec:S'.cur g=S.cur g:=om
  obtain⟨p1,p2,p3⟩:=e.same g hg ec;rw[p1,p3];exact hv om
 |.agg cs,v,h=>by
  obtain⟨vs,hv,h⟩:=h;exact⟨vs,hv,AB.moni e cs h⟩
 |.tup cs,v,h=>by
  obtain⟨vs,hv,h⟩:=h;exact⟨vs,hv,AB.moni e cs h⟩
 |.fn f cs,v,h=>by
  obtain⟨vs,hv,h⟩:=h;exact⟨vs,hv,AB.moni e cs h⟩
theorem AB.moni{S S':MS}(e:Evi S S'):∀(xs:List AV){vs:List Value},AB S xs vs->AB S' xs vs
 |[],_,h=>h
 |x::xs,vs,h=>by
  obtain⟨v,r,hv,h1,h2⟩:=h;exact⟨v,r,hv,VRel.moni e x h1,AB.moni e xs h2⟩
end
theorem VRel.mono{S S':MS}(e:Evo S S')(x:AV){v:Value}(h:VRel S x v):VRel S' x v:=VRel.moni e.evi x h
theorem AB.mono{S S':MS}(e:Evo S S')(xs:List AV){vs:List Value}(h:AB S xs vs):AB S' xs vs:=AB.moni e.evi xs h
theorem Mp{S:MS}{w:Nat}{xs:List AV}{v:Value}(h:VRel S (.full w xs) v):VRel S (.lst w xs) v:=by
 obtain⟨hp,hw,a,vs,hv,hc,hl,hr⟩:=h;exact⟨hp,hw,a,_,vs,hv,⟨Ab _,hc⟩,hl,hr⟩
theorem Hg.row{w:World}{b:Nat}{cells:Array Value}{T:TypeId}{fz:Nat × Nat}{wd:Nat}{vs:List Value}(hb:w.heap[b]? = some (.cells cells T fz))(h:Hg cells wd vs):OC w b 0 wd vs :=
 λi v hv=>by
  obtain⟨h1,h2,h3⟩:=h i v hv;refine⟨h1,h2,λj hj=>?_⟩;rw[<-h3 j hj];simp[World.cell?,hb]
theorem AB.length{S:MS}:∀{xs:List AV}{vs:List Value},AB S xs vs->vs.length=xs.length
 |[],_,h=>by rw[show _=[] from h];rfl
 |_::_,_,⟨_,_,hv,_,h2⟩=>by rw[hv];simp[AB.length h2]
theorem AB.get{S:MS}:∀{xs:List AV}{vs:List Value},AB S xs vs->∀{i:Nat}{x:AV},xs[i]? = some x->∃v,vs[i]? = some v/\VRel S x v
 |[],_,_,i,x,hx=>by simp at hx
 |y::ys,vs,⟨v,r,hv,h1,h2⟩,i,x,hx=>by
  subst hv;cases i with
  |zero=>simp at hx;subst hx;exact⟨v,rfl,h1⟩
  |succ i=>simp at hx;simpa using AB.get h2 hx
theorem AB.append{S:MS}:∀{xs ys:List AV}{vs us:List Value},AB S xs vs->AB S ys us->AB S (xs++ys) (vs++us)
 |[],_,_,_,h,k=>by rw[show _=[] from h];simpa using k
 |_::_,_,_,_,⟨v,r,hv,h1,h2⟩,k=>by subst hv;exact⟨v,r++_,rfl,h1,AB.append h2 k⟩
theorem AB.of_get{S:MS}:∀{xs:List AV}{vs:List Value},vs.length=xs.length->(∀(i:Nat)(x:AV)(v:Value),xs[i]? = some x->vs[i]? = some v->VRel S x v)->AB S xs vs
 |[],vs,hl,_=>by show vs=[];simpa using hl
 |x::xs,[],hl,_=>by simp at hl
 |x::xs,v::vs,hl,h=>⟨v,vs,rfl,h 0 x v rfl rfl,AB.of_get (by simpa using hl) (λi y u hy hu=>h (i+1) y u (by simpa using hy) (by simpa using hu))⟩
theorem AB.take{S:MS}{xs:List AV}{vs:List Value}(h:AB S xs vs)(n:Nat):AB S (xs.take n) (vs.take n) :=
 AB.of_get (by simp[h.length]) λi x v hx hv=>by
  rw[Cq] at hx hv;split at hx
  ·rename_i hi
   rw[Ae hi] at hv;obtain⟨u,hu,hr⟩:=h.get hx;rw[hu] at hv;cases hv;exact hr
  ·cases hx
theorem AB.drop{S:MS}{xs:List AV}{vs:List Value}(h:AB S xs vs)(n:Nat):AB S (xs.drop n) (vs.drop n) :=
 AB.of_get (by simp[h.length]) λi x v hx hv=>by
  rw[Cf] at hx hv;obtain⟨u,hu,hr⟩:=h.get hx;rw[hu] at hv;cases hv;exact hr
theorem AB.set{S:MS}{xs:List AV}{vs:List Value}(h:AB S xs vs){i:Nat}{x:AV}{v:Value}(hx:VRel S x v):AB S (xs.set i x) (vs.set i v) :=
 AB.of_get (by simp[h.length]) λj y u hy hu=>by
  by_cases hij:i=j
  ·subst hij
   rw[List.getElem?_set] at hy hu;simp only[Br] at hy hu;split at hy
   ·cases hy
    split at hu
    ·cases hu;exact hx
    ·cases hu
   ·cases hy
  ·rw[CW hij] at hy hu
   obtain⟨u',hu',hr⟩:=h.get hy;rw[hu'] at hu;cases hu;exact hr
theorem AB.one{S:MS}{x:AV}{v:Value}(h:VRel S x v):AB S [x] [v]:=⟨v,[],rfl,h,rfl⟩
theorem AB.cons_inv{S:MS}{x:AV}{xs:List AV}{v:Value}{vs:List Value}(h:AB S (x::xs) (v::vs)):VRel S x v/\AB S xs vs:=by
 obtain⟨u,r,hv,h1,h2⟩:=h;cases hv;exact⟨h1,h2⟩
def AV.cells:AV->List AV
 |.agg cs=>cs
 |x=>[x]
def AV.isAny:AV->Bool
 |.any=>true
 |_=>false
theorem VRel.cells{S:MS}{x:AV}{v:Value}(hx:x.isAny=false)(h:VRel S x v):AB S x.cells v.cells.toList:=by
 cases x with
 |any=>cases hx
 |agg cs=>obtain⟨vs,rfl,h⟩:=h;simpa [Value.cells,AV.cells] using h
 |bool b=>rw[show v=_ from h];exact .one rfl
 |int k n=>rw[show v=_ from h];exact .one rfl
 |str s=>rw[show v=_ from h];exact .one rfl
 |nilS=>rw[show v=_ from h];exact .one rfl
 |nilP=>rw[show v=_ from h];exact .one rfl
 |nilF=>rw[show v=_ from h];exact .one rfl
 |yld l=>rw[show v=_ from h];exact .one rfl
 |nul=>have h':=h;obtain⟨a,rfl⟩:=h;exact .one h'
 |emp=>have h':=h;obtain⟨a,cap,rfl⟩:=h;exact .one h'
 |lst wd xs=>have h':=h;obtain⟨_,_,a,cap,vs,rfl,_⟩:=h;exact .one h'
 |full wd xs=>have h':=h;obtain⟨_,_,a,vs,rfl,_⟩:=h;exact .one h'
 |map g vn=>have h':=h;obtain⟨⟨a,rfl⟩,_⟩:=h;exact .one h'
 |cptr x=>have h':=h;obtain⟨_,b,o,u,rfl,_⟩:=h;exact .one h'
 |tup cs=>have h':=h;obtain⟨vs,rfl,_⟩:=h;exact .one h'
 |fn f cs=>have h':=h;obtain⟨vs,rfl,_⟩:=h;exact .one h'
 |ref g vn off len=>have h':=h;obtain⟨⟨a,c,rfl,_⟩,_⟩:=h;exact .one h'
 |ptr g vn i o=>have h':=h;obtain⟨⟨a,rfl⟩,_⟩:=h;exact .one h'
def fput{α:Type}(f:Nat->α)(i:Nat)(y:α):Nat->α:=λj=>if j=i then y else f j
theorem AM{α:Type}(f:Nat->α)(i:Nat)(y:α):fput f i y i=y:=by simp[fput]
theorem EZ{α:Type}(f:Nat->α){i j:Nat}(y:α)(h:j≠i):fput f i y j=f j:=by simp[fput,h]
def MS.grow(S:MS)(o:Obj)(ver cap wid:Nat):MS :=
 { w:=S.w.alloc o,im:=S.im,keep:=S.keep,n:=S.n+1,place:=fput S.place S.n S.w.heap.size,cur:=fput S.cur S.n ver,cap:=fput S.cap S.n cap,wid:=fput S.wid S.n wid,base:=S.base }
theorem heap_alloc_lt(w:World)(o:Obj)(k:Nat)(h:k<w.heap.size):(w.alloc o).heap[k]? = w.heap[k]? := by
 show (w.heap.push o)[k]? = _;rw[Array.getElem?_push,Ad om]
theorem heap_alloc_new(w:World)(o:Obj):(w.alloc o).heap[w.heap.size]? = some o:=by
 show (w.heap.push o)[w.heap.size]? = _;simp
theorem size_alloc(w:World)(o:Obj):(w.alloc o).heap.size=w.heap.size+1:=by
 show (w.heap.push o).size=_;simp
theorem Evo.grow{S:MS}(him:∀b,S.im b\/S.keep b->b<S.w.heap.size)(o:Obj)(ver cap wid:Nat):Evo S (S.grow o ver cap wid) where
 base:=rfl
 os:=rfl
 tape:=⟨rfl,Ab _⟩
 output:=rfl
 size:=by show _<=(S.w.alloc o).heap.size;rw[size_alloc];omega
 kept b hb:=heap_alloc_lt _ _ _ (him b hb)
 im _ h:=h
 keep _ h:=h
 fresh _ h:=.inl h
 n:=EY _
 cur g hg:=by show _<=fput _ _ _ _;rw[EZ _ _ om];exact Ab _
 same g hg _:=⟨EZ _ _ om,EZ _ _ om,EZ _ _ om⟩
theorem A4.push_old(H:A4)(G:Grp){g:Nat}(h:g<H.n):(H.push G).at_ g=H.at_ g:=by
 show (if g=H.n then G else H.at_ g)=_;rw[Ad om]
theorem A4.push_new(H:A4)(G:Grp):(H.push G).at_ H.n=G:=by
 show (if H.n=H.n then G else _)=_;rw[Ae rfl]
theorem GRel.mono{S S':MS}(e:Evo S S'){G:Grp}{g:Nat}(hg:g<S.n)(h:GRel S G g)(hc:S'.cur g=S.cur g)(hb:0<G.w->0<S.cap g->S'.w.heap[S.place g]? = S.w.heap[S.place g]?)(hi:0<G.w->0<S.cap g->¬(S'.im (S.place g)\/S'.keep (S.place g)))
 (hmb:G.w=0->G.exact=true->S'.w.heap[S.place g]? = S.w.heap[S.place g]? /\ ¬(S'.im (S.place g)\/S'.keep (S.place g))):GRel S' G g:=by
 obtain⟨p1,p2,p3⟩:=e.same g hg hc;refine⟨hc.trans h.ver,p3.trans h.wid,λhw hc=>?_,λhw=>by rw[p2];exact h.len hw,λhw he=>by rw[p2];exact h.full hw he,λhw he=>?_⟩
 rotate_left
 ·obtain⟨⟨o,h1,a0,h2⟩,_⟩:=h.mlive hw he
  obtain⟨q1,q2⟩:=hmb hw he;rw[p1];exact⟨⟨o,q1.trans h1,a0,AB.mono e _ h2⟩,q2⟩
 rw[p2] at hc;obtain⟨⟨cells,T,vs,h1,h2,h3,h4⟩,_⟩:=h.live hw hc;rw[p1,p2];exact⟨⟨cells,T,vs,(hb hw hc).trans h1,h2,AB.mono e _ h3,h4⟩,hi hw hc⟩
theorem GRel.lt{S:MS}{G:Grp}{g:Nat}(h:GRel S G g)(hw:0<G.w)(hc:0<S.cap g):S.place g<S.w.heap.size:=by
 obtain⟨⟨cells,T,vs,h1,_⟩,_⟩:=h.live hw hc;exact (AU.1 h1).1
theorem GRel.mlt{S:MS}{G:Grp}{g:Nat}(h:GRel S G g)(hw:G.w=0)(he:G.exact=true):S.place g<S.w.heap.size:=by
 obtain⟨⟨o,h1,a0,_⟩,_⟩:=h.mlive hw he;exact (AU.1 h1).1
theorem GRel.has_lt{S:MS}{G:Grp}{g:Nat}(h:GRel S G g)(hh:G.has (S.cap g)):S.place g<S.w.heap.size:=by
 rcases hh with⟨h1,h2⟩|⟨h1,h2⟩
 ·exact h.lt h1 h2
 ·exact h.mlt h1 h2
theorem GRel.has_ni{S:MS}{G:Grp}{g:Nat}(h:GRel S G g)(hh:G.has (S.cap g)):¬(S.im (S.place g)\/S.keep (S.place g)):=by
 rcases hh with⟨h1,h2⟩|⟨h1,h2⟩
 ·exact (h.live h1 h2).2
 ·exact (h.mlive h1 h2).2
theorem GRel.mono'{S S':MS}(e:Evo S S'){G:Grp}{g:Nat}(hg:g<S.n)(h:GRel S G g)(hc:S'.cur g=S.cur g)(hb:G.has (S.cap g)->S'.w.heap[S.place g]? = S.w.heap[S.place g]?)(hi:G.has (S.cap g)->¬(S'.im (S.place g)\/S'.keep (S.place g))):GRel S' G g :=
 h.mono e hg hc (λhw hc=>hb (.inl ⟨hw,hc⟩)) (λhw hc=>hi (.inl ⟨hw,hc⟩)) (λhw he=>⟨hb (.inr ⟨hw,he⟩),hi (.inr ⟨hw,he⟩)⟩)
theorem SRel.grow{S:MS}{H:A4}(h:SRel S H)(cells:Array Value)(T:TypeId)(G:Grp)(cap:Nat)(hc:cells.size=cap * G.w)
 {vs:List Value} (hv:AB S G.xs vs) (hf:Hg cells G.w vs)
 (hx:G.xs.length<=cap) (he:G.exact=true->G.xs.length=cap) (hw0:0<G.w):SRel (S.grow (.cells cells T) G.ver cap G.w) (H.push G) where
 n:=by show S.n+1=H.n+1;rw[h.n]
 grp g hg:=by
  have e:=Evo.grow h.im (.cells cells T) G.ver cap G.w;by_cases hgn:g=H.n
  ·subst hgn
   rw[A4.push_new];refine⟨?_,?_,λ_ _=>⟨⟨cells,T,vs,?_,?_,AB.mono e _ hv,hf⟩,?_⟩,λ_=>?_,λ_=>?_,λh0=>by omega⟩
   ·show fput _ _ _ _=_;rw[<-h.n,AM]
   ·show fput _ _ _ _=_;rw[<-h.n,AM]
   ·show (S.w.alloc _).heap[fput _ _ _ _]? = _;rw[<-h.n,AM];exact heap_alloc_new _ _
   ·show _=fput _ _ _ _ * _;rw[<-h.n,AM];exact hc
   ·show ¬(S.im (fput _ _ _ _)\/S.keep (fput _ _ _ _));rw[<-h.n,AM];intro hh;have:=h.im _ hh;omega
   ·show _<=fput _ _ _ _;rw[<-h.n,AM];exact hx
   ·intro hh;show _=fput _ _ _ _;rw[<-h.n,AM];exact he hh
  ·have hg':g<H.n:=by have:g<H.n+1:=hg;omega
   rw[A4.push_old _ _ hg'];have hr:=h.grp g hg';refine hr.mono' e (by rw[h.n];exact hg') ?_ (λhh=>heap_alloc_lt _ _ _ (hr.has_lt hh)) (λhh=>?_)
   ·show fput _ _ _ _=_;rw[EZ _ _ (by rw[h.n];omega)]
   ·exact hr.has_ni hh
 apart g g' hg hg' hne hw1 hw2:=by
  have key:∀k,k<H.n+1->((H.push G).at_ k).has (fput S.cap S.n cap k)->(k=H.n/\fput S.place S.n S.w.heap.size k=S.w.heap.size)\/(k<H.n/\fput S.place S.n S.w.heap.size k=S.place k/\S.place k<S.w.heap.size/\(H.at_ k).has (S.cap k)):=by
   intro k hk hwk;by_cases hkn:k=H.n
   ·left;refine⟨hkn,?_⟩;rw[hkn,<-h.n,AM]
   ·right
    have hk':k<H.n:=om
    rw[A4.push_old _ _ hk'] at hwk;rw[EZ _ _ (by rw[h.n];omega)] at hwk;exact⟨hk',EZ _ _ (by rw[h.n];omega),(h.grp k hk').has_lt hwk,hwk⟩
  show fput _ _ _ _≠fput _ _ _ _;rcases key g hg hw1 with⟨a1,a2⟩|⟨a1,a2,a3,a4⟩<;>rcases key g' hg' hw2 with⟨b1,b2⟩|⟨b1,b2,b3,b4⟩
  ·omega
  ·rw[a2,b2];omega
  ·rw[a2,b2];omega
  ·rw[a2,b2];exact h.apart g g' a1 b1 hne a4 b4
 im b hb:=by show b<(S.w.alloc _).heap.size;rw[size_alloc];have:=h.im b hb;omega
theorem Evo.drew(S:MS):Evo S { S with w:=S.w.drew }:=⟨rfl,rfl,⟨rfl,EY _⟩,rfl,Ab _,λ_ _=>rfl,λ_ h=>h,λ_ h=>h,λ_ h=>.inl h,Ab _,λ_ _=>Ab _,λ_ _ _=>⟨rfl,rfl,rfl⟩⟩
theorem SRel.drew{S:MS}{H:A4}(h:SRel S H):SRel { S with w:=S.w.drew } H :=
 ⟨h.n,λg hg=>(h.grp g hg).mono' (Evo.drew S) (by rw[h.n];exact hg) rfl (λ_=>rfl) (λhh=>(h.grp g hg).has_ni hh),h.apart,h.im⟩
def MS.virt(S:MS)(wid:Nat):MS:={ S with n:=S.n+1,cur:=fput S.cur S.n 1,cap:=fput S.cap S.n 0,wid:=fput S.wid S.n wid }
theorem Evo.virt{S:MS}(wid:Nat):Evo S (S.virt wid):=⟨rfl,rfl,⟨rfl,Ab _⟩,rfl,Ab _,λ_ _=>rfl,λ_ h=>h,λ_ h=>h,λ_ h=>.inl h,EY _,
 λg hg=>by show _<=fput _ _ _ _;rw[EZ _ _ om];exact Ab _,λg hg _=>⟨rfl,EZ _ _ om,EZ _ _ om⟩⟩
theorem SRel.virt{S:MS}{H:A4}(h:SRel S H)(wid:Nat)(hw0:0<wid):SRel (S.virt wid) (H.push ⟨wid,1,true,[]⟩) where
 n:=by show S.n+1=H.n+1;rw[h.n]
 grp g hg:=by
  by_cases hgn:g=H.n
  ·subst hgn
   rw[A4.push_new];have hc:(S.virt wid).cap H.n=0:=by show fput _ _ _ _=_;rw[<-h.n,AM]
   exact⟨by show fput _ _ _ _=_;rw[<-h.n,AM],by show fput _ _ _ _=_;rw[<-h.n,AM],λ_ h0=>by rw[hc] at h0;omega,λ_=>by rw[hc];exact Ab 0,λ_ _=>by rw[hc];rfl,λh0=>by have h0:wid=0:=h0;omega⟩
  ·have hg':g<H.n:=by have:g<H.n+1:=hg;omega
   rw[A4.push_old _ _ hg'];have hr:=h.grp g hg';exact hr.mono' (Evo.virt wid) (by rw[h.n];exact hg') (EZ _ _ (by rw[h.n];omega)) (λ_=>rfl) (λhh=>hr.has_ni hh)
 apart g g' hg hg' hne hw1 hw2:=by
  have key:∀k,k<H.n+1->((H.push ⟨wid,1,true,[]⟩).at_ k).has (fput S.cap S.n 0 k)->k<H.n/\(H.at_ k).has (S.cap k):=by
   intro k hk hwk;by_cases hkn:k=H.n
   ·rw[hkn,A4.push_new,<-h.n,AM] at hwk
    rcases hwk with⟨_,h2⟩|⟨h1,_⟩
    ·omega
    ·have h1:wid=0:=h1;omega
   ·have hk':k<H.n:=om
    rw[A4.push_old _ _ hk',EZ _ _ (by rw[h.n];omega)] at hwk;exact⟨hk',hwk⟩
  obtain⟨a1,a2⟩:=key g hg hw1;obtain⟨b1,b2⟩:=key g' hg' hw2;exact h.apart g g' a1 b1 hne a2 b2
 im:=h.im
def MS.moved(S:MS)(w':World)(g b' ver cap wid:Nat):MS :=
 { w:=w',im:=S.im,keep:=S.keep,n:=S.n,place:=fput S.place g b',cur:=fput S.cur g ver,cap:=fput S.cap g cap,wid:=fput S.wid g wid,base:=S.base }
theorem SRel.moved{S:MS}{H:A4}(h:SRel S H){g:Nat}(hg:g<H.n)(hl:0<(H.at_ g).w)(w':World)(b' cap':Nat)(G':Grp)
 (h1:w'.os=S.w.os) (h2:LB w' S.w) (h3:w'.output=S.w.output) (h4:S.w.heap.size<=w'.heap.size) (h5:∀b,¬(0<S.cap g/\b=S.place g)->b<S.w.heap.size->w'.heap[b]? = S.w.heap[b]?)
 (hb:(0<S.cap g/\b'=S.place g)\/S.w.heap.size<=b'\/cap'=0)
 (hm:0<cap'->∃cells T vs,w'.heap[b']? = some (.cells cells T (0,0))/\cells.size=cap' * G'.w/\AB S G'.xs vs/\Hg cells G'.w vs) (hx:G'.xs.length<=cap') (he:G'.exact=true->G'.xs.length=cap')
 (hw0:0<G'.w) (hver:S.cur g<=G'.ver) (hsame:G'.ver=S.cur g->b'=S.place g/\cap'=S.cap g/\G'.w=S.wid g) :
 Evo S (S.moved w' g b' G'.ver cap' G'.w)/\SRel (S.moved w' g b' G'.ver cap' G'.w) (H.set g G'):=by
 have hr:=h.grp g hg;have hni:0<S.cap g->¬(S.im (S.place g)\/S.keep (S.place g)):=λhc=>(hr.live hl hc).2;have hlt:0<S.cap g->S.place g<S.w.heap.size:=hr.lt hl
 have e:Evo S (S.moved w' g b' G'.ver cap' G'.w):=by
  refine⟨rfl,h1,h2,h3,h4,λb hb=>h5 b (λhh=>hni hh.1 (hh.2 ▸ hb)) (h.im b hb),λ_ hh=>hh,λ_ hh=>hh,λ_ hh=>.inl hh,Ab _,λk hk=>?_,λk hk hh=>?_⟩
  ·show _<=fput _ _ _ _
   by_cases hkg:k=g
   ·subst hkg;rw[AM];exact hver
   ·rw[EZ _ _ hkg];exact Ab _
  ·show fput _ _ _ _=_/\fput _ _ _ _=_/\fput _ _ _ _=_
   change fput _ _ _ _=_ at hh;by_cases hkg:k=g
   ·subst hkg
    rw[AM] at hh;rw[AM,AM,AM];exact hsame hh
   ·rw[EZ _ _ hkg,EZ _ _ hkg,EZ _ _ hkg];exact⟨rfl,rfl,rfl⟩
 have hni':0<cap'->¬(S.im b'\/S.keep b'):=by
  intro hc;rcases hb with hb|hb|hb
  ·rw[hb.2];exact hni hb.1
  ·intro hh;have:=h.im _ hh;omega
  ·omega
 refine⟨e,h.n,λk hk=>?_,λk k' hk hk' hne hw1 hw2=>?_,λb hb=>?_⟩
 ·by_cases hkg:k=g
  ·subst hkg
   have:(H.set k G').at_ k=G':=by show (if _ then _ else _)=_;rw[Ae rfl]
   rw[this];have hcap:(S.moved w' k b' G'.ver cap' G'.w).cap k=cap':=by show fput _ _ _ _=_;rw[AM]
   refine⟨?_,?_,λ_ hc=>?_,λ_=>?_,λ_=>?_,λh0=>by omega⟩
   ·show fput _ _ _ _=_;rw[AM]
   ·show fput _ _ _ _=_;rw[AM]
   ·rw[hcap] at hc
    obtain⟨cells,T,vs,m1,m2,m3,m4⟩:=hm hc;refine⟨⟨cells,T,vs,?_,?_,AB.mono e _ m3,m4⟩,?_⟩
    ·show w'.heap[fput _ _ _ _]? = _;rw[AM];exact m1
    ·rw[hcap];exact m2
    ·show ¬(S.im (fput _ _ _ _)\/S.keep (fput _ _ _ _));rw[AM];exact hni' hc
   ·rw[hcap];exact hx
   ·intro hh;rw[hcap];exact he hh
  ·have:(H.set g G').at_ k=H.at_ k:=by show (if _ then _ else _)=_;rw[Ad hkg]
   rw[this];have hrk:=h.grp k hk;refine hrk.mono' e (by rw[h.n];exact hk) ?_ (λhq=>h5 _ (λhh=>h.apart k g hk hg hkg hq (.inl ⟨hl,hh.1⟩) hh.2) (hrk.has_lt hq)) (λhq=>hrk.has_ni hq);show fput _ _ _ _=_;rw[EZ _ _ hkg]
 ·have hk0:k<H.n:=hk
  have hk0':k'<H.n:=hk';have hat:∀j,j≠g->(H.set g G').at_ j=H.at_ j:=λj hj=>by show (if _ then _ else _)=_;rw[Ad hj]
  have hcap:∀j,(S.moved w' g b' G'.ver cap' G'.w).cap j=if j=g then cap' else S.cap j:=λj=>rfl
  show fput _ _ _ _≠fput _ _ _ _;rw[hcap] at hw1 hw2;have hgs:(H.set g G').at_ g=G':=by show (if _ then _ else _)=_;rw[Ae rfl]
  by_cases hkg:k=g
  ·subst hkg
   have hk'g:k'≠k:=Du hne;rw[hat k' hk'g,Ad hk'g] at hw2;rw[hgs,Ae rfl] at hw1
   have hc1:0<cap':=by
    rcases hw1 with⟨_,hh⟩|⟨hh,_⟩
    ·exact hh
    ·omega
   rw[AM,EZ _ _ hk'g];have h6:=(h.grp k' hk0').has_lt hw2;rcases hb with hb|hb|hb
   ·rw[hb.2];exact Du (h.apart k' k hk0' hg hk'g hw2 (.inl ⟨hl,hb.1⟩))
   ·omega
   ·omega
  ·rw[hat k hkg,Ad hkg] at hw1
   rw[EZ _ _ hkg];have h6:=(h.grp k hk0).has_lt hw1;by_cases hk'g:k'=g
   ·subst hk'g
    rw[hgs,Ae rfl] at hw2
    have hc2:0<cap':=by
     rcases hw2 with⟨_,hh⟩|⟨hh,_⟩
     ·exact hh
     ·omega
    rw[AM];rcases hb with hb|hb|hb
    ·rw[hb.2];exact h.apart k k' hk0 hg hkg hw1 (.inl ⟨hl,hb.1⟩)
    ·omega
    ·omega
   ·rw[hat k' hk'g,Ad hk'g] at hw2
    rw[EZ _ _ hk'g];exact h.apart k k' hk0 hk0' hne hw1 hw2
 ·show b<w'.heap.size
  have:=h.im b hb;omega
abbrev Env:=Nat->AV
inductive AArg where
 |slot (t:Nat)
 |const (x:AV)
def AArg.eval(env:Env):AArg->AV
 |.slot t=>env t
 |.const x=>x
inductive AK where
 |mv
 |pick
 |alloc (zero:AV) (w:Nat)
 |box
 |build (zero:List AV) (places:List (Nat × Nat)) (idx:List Nat)
 |bslice (w len:Nat) (zero:AV) (idx:List Nat)
 |load (a:Bool) (s:Nat)
 |store (s:Nat)
 |nilCheck
 |bin (op:BinOp)
 |eqb (neg:Bool)
 |eqs (neg:Bool) (ks:List Nat)
 |eqn (neg:Bool)
 |un (op:UnOp)
 |conv (k:IntKind)
 |toStr
 |runStr
 |slice (w:Nat) (lo hi mx:Bool)
 |faddr (a:Bool) (off s:Nat)
 |field (a:Bool) (off s:Nat)
 |iaddr (w:Nat)
 |iaddrA (n w:Nat) (a:Bool)
 |index (n w:Nat) (a:Bool)
 |indexStr
 |extract (i:Nat)
 |len (str:Bool)
 |app (w bytes:Nat) (zero:AV)
 |max
 |min
 |mkSlice (w bytes:Nat) (zero:AV)
 |mkFunc (f:Nat)
 |mkMap
 |mapGet (zero:AV)
 |mapSet
 |call
 |cap
 |appZ (w bytes:Nat) (zero:AV)
 |clr (w:Nat) (zero:AV)
 |lenM
 |rangeM
 |nextM
 |entryM
 |no
def zdu:Value->Option AV
 |.bool b=>some (.bool b)
 |.int k n=>some (.int k n)
 |.string s=>some (.str s.data.toList)
 |.map none=>some .any
 |.slice none 0 0=>some .nilS
 |.pointer none=>some .nilP
 |.nilFunc=>some .nilF
 |_=>none
def zdv:List Value->Option (List AV)
 |[]=>some []
 |v::vs=>match zdu v,zdv vs with
  |some x,some xs=>some (x::xs)
  |_,_=>none
def avOf:Value->Option AV
 |.agg cs=>(zdv cs.toList).map .agg
 |v=>zdu v
def Enters(P:Program)(f:Nat):Prop:=∀cargs w,(callFunc f cargs).run P w=.ok (.enter f cargs) w
def B9(P:Program)(f:Nat)(xs:List AV)(H:A4)(K:AV->A4->Prop):Prop :=
 Enters P f/\∀(S:MS)(cargs:List Value),SRel S H->AB S xs cargs ->
  Calls P f cargs.toArray S.w λe w'=>∃v S' x H',e=.returned v/\S'.w=w'/\Evo S S'/\SRel S' H'/\VRel S' x v/\K x H'
theorem B9.mono{P:Program}{f:Nat}{xs:List AV}{H:A4}{K K':AV->A4->Prop}(h:B9 P f xs H K)(hk:∀x H',K x H'->K' x H'):B9 P f xs H K' :=
 ⟨h.1,λS cargs hS hx=>(h.2 S cargs hS hx).mono λ_ _ ⟨v,S',x,H',h1,h2,h3,h4,h5,h6⟩=>⟨v,S',x,H',h1,h2,h3,h4,h5,hk _ _ h6⟩⟩
def Dp(a:Bool)(off s:Nat)(x:AV):AV:=if a then .agg ((x.cells.drop off).take s) else x.cells.getD off .any
def LC(w o s:Nat)(e x:AV):AV:=if s=w then x else .agg (e.cells.take o++x.cells++e.cells.drop (o+s))
def AV.one:AV->Bool
 |.any|.agg _|.tup _=>false
 |_=>true
def GB:List AV->Bool
 |[]=>true
 |x::xs=>x.one&&GB xs
def eq1:Nat->AV->AV->Option Bool
 |1,.int k a,.int k' b=>if k=k' then some (decide (a=b)) else none
 |0,.bool a,.bool b=>some (a == b)
 |2,.str a,.str b=>some (decide (a=b))
 |_,_,_=>none
def eqL:List Nat->List AV->List AV->Option Bool
 |[],[],[]=>some true
 |k::ks,x::xs,y::ys=>match eq1 k x y,eqL ks xs ys with
  |some a,some b=>some (a&&b)
  |_,_=>none
 |_,_,_=>none
def JF(op:BinOp)(k:IntKind)(a b:Int):Int :=
 match op with
 |.and=>k.wrap (BitVec.ofInt k.bits a &&& BitVec.ofInt k.bits b).toNat
 |.or=>k.wrap (BitVec.ofInt k.bits a ||| BitVec.ofInt k.bits b).toNat
 |.xor=>k.wrap (BitVec.ofInt k.bits a ^^^ BitVec.ofInt k.bits b).toNat
 |_=>k.wrap (BitVec.ofInt k.bits a &&& ~~~BitVec.ofInt k.bits b).toNat
def binI(op:BinOp)(k:IntKind)(a b:Int)(K:AV->Prop):Prop :=
 match op with
 |.add=>K (.int k (k.wrap (a+b)))
 |.sub=>K (.int k (k.wrap (a-b)))
 |.mul=>K (.int k (k.wrap (a * b)))
 |.quo=>b≠0/\K (.int k (k.wrap (a.tdiv b)))
 |.rem=>b≠0/\K (.int k (a.tmod b))
 |.and=>K (.int k (JF .and k a b))
 |.or=>K (.int k (JF .or k a b))
 |.xor=>K (.int k (JF .xor k a b))
 |.andNot=>K (.int k (JF .andNot k a b))
 |.eql=>K (.bool (decide (a=b)))
 |.neq=>K (.bool (!decide (a=b)))
 |.lss=>K (.bool (decide (a<b)))
 |.leq=>K (.bool (decide (a<=b)))
 |.gtr=>K (.bool (decide (b<a)))
 |.geq=>K (.bool (decide (b<=a)))
 |.shl|.shr=>False
def Hv(H:A4):AV->Option (List AV)
 |.nilS|.nul|.emp=>some []
 |.lst _ xs|.full _ xs=>some xs
 |.ref g _ off len=>some (((H.at_ g).xs.drop off).take len)
 |.str s=>some (s.map λb=>.int .u8 b.toNat)
 |_=>none
def Hw(H:A4)(w:Nat):AV->Prop
 |.nilS|.nul|.emp=>True
 |.str _=>w=1
 |.lst w' _|.full w' _=>w'=w
 |.ref g v off len=>(H.at_ g).ver=v/\(H.at_ g).w=w/\off+len<=(H.at_ g).xs.length
 |_=>False
def To(places:List (Nat × Nat)):List Nat->List AV->List AV->Option (List AV)
 |[],[],cs=>some cs
 |i::is,x::xs,cs=>match places[i]? with
  |some (off,s)=>if x.cells.length=s/\GB x.cells=true/\off+s<=cs.length then To places is xs (cs.take off++x.cells++cs.drop (off+s)) else none
  |none=>none
 |_,_,_=>none
def Gk:List Nat->List AV->List AV->List AV
 |i::is,x::xs,es=>Gk is xs (es.set i x)
 |_,_,es=>es
def Ji(w len:Nat):List Nat->List AV->Prop
 |[],[]=>True
 |i::is,x::xs=>i<len/\x.cells.length=w/\GB x.cells=true/\Ji w len is xs
 |_,_=>False
def HE(w:Nat)(x:AV)(lo hi mx:Option Int)(H:A4)(K:AV->Prop):Prop :=
 match mx,x with
 |some m,x=>m=0/\hi=some 0/\(lo=none\/lo=some 0)/\(match x with|.nilS=>K .nilS|.nul|.lst ..|.full ..|.ref ..=>K .nul|_=>False)
 |none,.nilS=>(lo=none\/lo=some 0)/\(hi=none\/hi=some 0)/\K .nilS
 |none,.nul=>(lo=none\/lo=some 0)/\(hi=none\/hi=some 0)/\K .nul
 |none,.lst w' xs=>w'=w/\0<=lo.getD 0/\lo.getD 0<=hi.getD xs.length/\hi.getD xs.length<=xs.length/\K (.lst w' ((xs.take (hi.getD xs.length).toNat).drop (lo.getD 0).toNat))
 |none,.full w' xs=>w'=w/\0<=lo.getD 0/\lo.getD 0<=hi.getD xs.length/\hi.getD xs.length<=xs.length/\K (.lst w' ((xs.take (hi.getD xs.length).toNat).drop (lo.getD 0).toNat))
 |none,.ref g v off len=>(H.at_ g).ver=v/\(H.at_ g).w=w/\0<w/\0<=lo.getD 0/\lo.getD 0<=hi.getD len/\(hi.getD len<=len\/(H.at_ g).exact=true/\off+hi.getD len<=(H.at_ g).xs.length) /\
  K (.ref g v (off+(lo.getD 0).toNat) ((hi.getD len).toNat-(lo.getD 0).toNat))
 |_,_=>False
def optA:Bool->List AV->Option (Option Int × List AV)
 |true,.int _ n::l=>some (some n,l)
 |false,l=>some (none,l)
 |_,_=>none
def maxF(k:IntKind)(a:Int):List AV->Option AV
 |[]=>some (.int k a)
 |.int k' b::r=>if k=k' then maxF k (Max.max a b) r else none
 |_=>none
def kvL:List AV->Prop
 |[]=>True
 |.int _ _::_::r=>kvL r
 |_=>False
def itX(g v n:Nat)(ids:List Nat):List AV:=.map g v::.int .i64 (n / 2:Nat)::.int .i64 (n / 2:Nat)::ids.map λ(i:Nat)=>.int .i64 i
def OE(H:A4)(g v:Nat):Prop:=(H.at_ g).ver=v/\(H.at_ g).w=0/\(H.at_ g).exact=true/\kvL (H.at_ g).xs
def HR(z:AV)(n:Int):List AV->Option AV
 |[]=>some z
 |.int .i64 m::y::r=>if m=n then some y else HR z n r
 |_=>none
def setM(n:Int)(x:AV):List AV->Option (List AV)
 |[]=>some [.int .i64 n,x]
 |.int .i64 m::y::r=>if m=n then some (.int .i64 m::x::r) else (setM n x r).map λr'=>.int .i64 m::y::r'
 |_=>none
def LD(w bytes:Nat)(s:AV)(news:List AV)(H:A4)(K:AV->A4->Prop):Prop :=
 match s with
 |.nilS|.nul=>news.length * bytes<=140737488355328/\K (.ref H.n 1 0 news.length) (H.push ⟨w,1,news.isEmpty,news⟩)
 |.full w' xs=>w'=w/\(news.length=0->K (.full w' xs) H)/\(0<news.length->(xs.length+news.length) * bytes<=140737488355328/\K (.ref H.n 1 0 (xs.length+news.length)) (H.push ⟨w,1,false,xs++news⟩))
 |.ref g v off len =>
  (H.at_ g).ver=v/\(H.at_ g).w=w/\(len+news.length) * bytes<=140737488355328/\off+len<=(H.at_ g).xs.length /\
  (match (!(H.at_ g).exact||(H.at_ g).xs.isEmpty) with
   |false =>
    (off+len+news.length<=(H.at_ g).xs.length->K (.ref g v off (len+news.length)) (H.set g ⟨w,v,true,(H.at_ g).xs.take (off+len)++news++(H.at_ g).xs.drop (off+len+news.length)⟩)) /\
    ((H.at_ g).xs.length<off+len+news.length->K (.ref H.n 1 0 (len+news.length)) (H.push ⟨w,1,false,((H.at_ g).xs.drop off).take len++news⟩))
   |true=>(off=0\/off+len=(H.at_ g).xs.length)/\(off+len=(H.at_ g).xs.length->K (.ref g (v+1) off (len+news.length)) (H.set g ⟨w,v+1,(H.at_ g).exact&&news.isEmpty,(H.at_ g).xs++news⟩)) /\
    (off+len<(H.at_ g).xs.length->off+len+news.length<=(H.at_ g).xs.length/\K (.ref g v off (len+news.length)) (H.set g ⟨w,v,(H.at_ g).exact,(H.at_ g).xs.take (off+len)++news++(H.at_ g).xs.drop (off+len+news.length)⟩)) /\
    (off≠0->K (.ref g (v+1) 0 (len+news.length)) (H.set g ⟨w,v+1,(H.at_ g).exact&&news.isEmpty,(H.at_ g).xs.drop off++news⟩)))
 |_=>False
def offA:List AV->Prop
 |.ref _ _ off _::_=>off=0
 |_=>True
def Tp:AK->List AV->Prop
 |.app ..,xs=>offA xs
 |_,_=>True
def optK{α:Type}(o:Option α)(f:α->Prop):Prop:=match o with
 |some x=>f x
 |none=>False
theorem C1{α:Type}{o:Option α}{f:α->Prop}(h:optK o f):∃x,o=some x/\f x:=by
 cases o with
 |none=>exact h.elim
 |some x=>exact⟨x,rfl,h⟩
def LG(zs:List Int):List UInt8:=(runesBytes zs).data.toList
def AI(P:Program):AK->A4->List AV->(AV->A4->Prop)->Prop
 |.mv,H,[x],K=>K x H
 |.pick,H,[.bool c,a,b],K=>K (bif c then a else b) H
 |.alloc z w,H,[],K=>K (.ptr H.n 1 0 0) (H.push ⟨w,1,true,[z]⟩)
 |.box,H,[x],K=>GB x.cells=true/\0<x.cells.length/\K (.ptr H.n 1 0 0) (H.push ⟨x.cells.length,1,true,[x]⟩)
 |.build z places idx,H,xs,K=>optK (To places idx xs z) λcs=>K (.agg cs) H
 |.bslice w len z idx,H,xs,K=>Ji w len idx xs/\K (.ref H.n 1 0 len) (H.push ⟨w,1,true,Gk idx xs (List.replicate len z)⟩)
 |.load a s,H,[.cptr x],K=>x.isAny=false/\x.cells.length=s/\(a=false->s=1)/\K (Dp a 0 s x) H
 |.load a s,H,[.ptr g v i o],K=>(H.at_ g).ver=v/\i<(H.at_ g).xs.length/\((H.at_ g).xs.getD i .any).isAny=false/\((H.at_ g).xs.getD i .any).cells.length=(H.at_ g).w/\0<s/\o+s<=(H.at_ g).w /\
  (a=false->s=1)/\K (Dp a o s ((H.at_ g).xs.getD i .any)) H
 |.store s,H,[.ptr g v i o,x],K=>(H.at_ g).ver=v/\i<(H.at_ g).xs.length/\0<s/\o+s<=(H.at_ g).w/\x.cells.length=s/\GB x.cells=true /\
  (s=(H.at_ g).w\/((H.at_ g).xs.getD i .any).isAny=false/\((H.at_ g).xs.getD i .any).cells.length=(H.at_ g).w) /\
  K .any (H.set g ⟨(H.at_ g).w,v,(H.at_ g).exact,(H.at_ g).xs.set i (LC (H.at_ g).w o s ((H.at_ g).xs.getD i .any) x)⟩)
 |.nilCheck,H,[x],K=>match x with
  |.cptr _|.ptr ..|.fn ..=>K x H
  |_=>False
 |.bin op,H,[.int k a,.int k' b],K=>match op with
  |.shl=>0<=b/\K (.int k (k.wrap (a * 2 ^ (Min.min b.toNat k.bits)))) H
  |.shr=>0<=b/\K (.int k (a.fdiv (2 ^ (Min.min b.toNat k.bits)))) H
  |op=>k=k'/\binI op k a b λx=>K x H
 |.bin op,H,[.str a,.str b],K=>match op with
  |.eql=>K (.bool (decide (a=b))) H
  |.neq=>K (.bool (!decide (a=b))) H
  |_=>False
 |.eqb neg,H,[.bool a,.bool b],K=>K (.bool (if neg then !(a == b) else a == b)) H
 |.eqs neg ks,H,[.agg as,.agg bs],K=>optK (eqL ks as bs) λb=>K (.bool (if neg then !b else b)) H
 |.eqn neg,H,[x,.nilS],K=>match x with
  |.nilS=>K (.bool (!neg)) H
  |.emp=>K (.bool neg) H
  |.lst _ xs|.full _ xs=>xs≠[]/\K (.bool neg) H
  |.ref _ _ _ len=>0<len/\K (.bool neg) H
  |_=>False
 |.un op,H,[x],K=>match op,x with
  |.not,.bool b=>K (.bool (!b)) H
  |.neg,.int k n=>K (.int k (k.wrap (0-n))) H
  |_,_=>False
 |.conv k,H,[.int _ n],K=>K (.int k (k.wrap n)) H
 |.runStr,H,[x],K=>Hw H 1 x/\(match x with|.str _=>False|_=>True)/\∃zs:List Int,Hv H x=some (zs.map (AV.int .i32))/\K (.str (LG zs)) H
 |.toStr,H,[x],K=>Hw H 1 x/\(match x with|.str _=>False|_=>True)/\∃bs:List UInt8,Hv H x=some (bs.map λb=>.int .u8 b.toNat)/\K (.str bs) H
 |.slice w lo hi mx,H,x::l,K =>
  optK (optA lo l) λp=>optK (optA hi p.2) λq=>optK (optA mx q.2) λr=>r.2=[]/\HE w x p.1 q.1 r.1 H λy=>K y H
 |.faddr a off s,H,[.cptr x],K=>x.isAny=false/\off+s<=x.cells.length/\(a=false->s=1)/\0<s/\K (.cptr (Dp a off s x)) H
 |.faddr _ off _,H,[.ptr g v i o],K=>(H.at_ g).ver=v/\K (.ptr g v i (o+off)) H
 |.field a off s,H,[.agg cs],K=>off+s<=cs.length/\(a=false->s=1)/\K (Dp a off s (.agg cs)) H
 |.iaddr w,H,[.lst w' xs,.int _ i],K=>w'=w/\0<=i/\i<xs.length/\K (.cptr (xs.getD i.toNat .any)) H
 |.iaddr w,H,[.full w' xs,.int _ i],K=>w'=w/\0<=i/\i<xs.length/\K (.cptr (xs.getD i.toNat .any)) H
 |.iaddr w,H,[.ref g v off len,.int _ i],K=>(H.at_ g).ver=v/\(H.at_ g).w=w/\0<=i/\i<len/\K (.ptr g v (off+i.toNat) 0) H
 |.iaddrA n w _,H,[.ptr g v i o,.int _ j],K=>(H.at_ g).ver=v/\0<=j/\j<n/\K (.ptr g v i (o+j.toNat * w)) H
 |.iaddrA n w a,H,[.cptr x,.int _ j],K=>x.isAny=false/\0<=j/\j<n/\n * w<=x.cells.length/\(a=false->w=1)/\0<w/\K (.cptr (Dp a (j.toNat * w) w x)) H
 |.index n w a,H,[.agg cs,.int _ j],K=>0<=j/\j<n/\n * w<=cs.length/\(a=false->w=1)/\K (Dp a (j.toNat * w) w (.agg cs)) H
 |.indexStr,H,[.str s,.int _ j],K=>0<=j/\j<s.length/\K (.int .u8 (s.getD j.toNat 0).toNat) H
 |.extract i,H,[.tup vs],K=>i<vs.length/\K (vs.getD i .any) H
 |.len false,H,[x],K=>match x with
  |.nilS|.nul|.emp=>K (.int .i64 0) H
  |.lst _ xs|.full _ xs=>K (.int .i64 xs.length) H
  |.ref _ _ _ len=>K (.int .i64 len) H
  |_=>False
 |.len true,H,[.str s],K=>K (.int .i64 s.length) H
 |.app w bytes _,H,[s,x],K=>Hw H w x/\optK (Hv H x) λnews=>LD w bytes s news H K
 |.max,H,.int k a::r,K=>optK (maxF k a r) λy=>K y H
 |.min,H,[.int k a,.int k' b],K=>k=k'/\K (.int k (Min.min a b)) H
 |.mkSlice w bytes z,H,[.int _ l,.int _ c],K=>0<=l/\l<=c/\c * bytes<=140737488355328/\K (.ref H.n 1 0 l.toNat) (H.push ⟨w,1,true,List.replicate c.toNat z⟩)
 |.mkFunc f,H,xs,K=>K (.fn f xs) H
 |.mkMap,H,[],K=>K (.map H.n 1) (H.push ⟨0,1,true,[]⟩)
 |.mapGet z,H,[.map g v,.int k n],K=>k=.i64/\(H.at_ g).ver=v/\(H.at_ g).w=0/\(H.at_ g).exact=true/\optK (HR z n (H.at_ g).xs) λy=>K y H
 |.mapSet,H,[.map g v,.int k n,x],K=>k=.i64/\(H.at_ g).ver=v/\(H.at_ g).w=0/\(H.at_ g).exact=true/\optK (setM n x (H.at_ g).xs) λys=>K .any (H.set g ⟨0,v,true,ys⟩)
 |.call,H,.fn f caps::xs,K=>B9 P f (xs++caps) H K
 |.cap,H,[.nilS],K=>K (.int .i64 0) H
 |.appZ w bytes z,H,[.nilS,.int _ n],K=>0<n/\n * bytes<=140737488355328/\K (.ref H.n 1 0 n.toNat) (H.push ⟨w,1,false,List.replicate n.toNat z⟩)
 |.clr w z,H,[.ref g v off len],K=>(H.at_ g).ver=v/\(H.at_ g).w=w/\off+len<=(H.at_ g).xs.length/\K (.tup []) (H.set g ⟨w,v,(H.at_ g).exact,(H.at_ g).xs.take off++List.replicate len z++(H.at_ g).xs.drop (off+len)⟩)
 |.lenM,H,[.map g v],K=>OE H g v/\K (.int .i64 ((H.at_ g).xs.length / 2:Nat)) H
 |.rangeM,H,[.map g v],K=>OE H g v/\K (.ptr H.n 1 0 0) (H.push ⟨0,1,true,itX g v (H.at_ g).xs.length []⟩)
 |.nextM,H,[.ptr h hv i o],K=>i=0/\o=0/\(H.at_ h).ver=hv/\(H.at_ h).w=0/\(H.at_ h).exact=true/\∃g v ids,(H.at_ h).xs=itX g v (H.at_ g).xs.length ids/\OE H g v /\
  (∀j,2 * j<(H.at_ g).xs.length->j∉ids->K (.tup [.bool true,(H.at_ g).xs.getD (2 * j) .any,(H.at_ g).xs.getD (2 * j+1) .any]) (H.set h ⟨0,hv,true,itX g v (H.at_ g).xs.length (ids++[j])⟩)) /\
  ((∀j,2 * j<(H.at_ g).xs.length->j∈ids)->K (.tup [.bool false]) H)
 |.entryM,H,[.ptr h hv i o],K=>i=0/\o=0/\(H.at_ h).ver=hv/\(H.at_ h).w=0/\(H.at_ h).exact=true/\∃g v ids j,(H.at_ h).xs=itX g v (H.at_ g).xs.length (ids++[j])/\OE H g v/\2 * j<(H.at_ g).xs.length /\
  K (.tup [(H.at_ g).xs.getD (2 * j) .any,(H.at_ g).xs.getD (2 * j+1) .any]) H
 |_,_,_,_=>False
def R7:TypeDesc->Bool
 |.struct _|.array _ _=>true
 |_=>false
def FR(P:Program)(t:TypeId):Option (Bool × Nat) :=
 match P.info? t,P.underlying t with
 |some i,some d=>if 0<i.size&&(R7 d||i.size == 1) then some (R7 d,i.size) else none
 |_,_=>none
def Zx:TypeDesc->Option Nat
 |.bool=>some 0
 |.int _=>some 1
 |.string=>some 2
 |_=>none
def Hx(P:Program):Nat->List Field->Option (List Nat)
 |_,[]=>some []
 | i, f :: fs => if f.offset == i && f.name != "_" then
  match (P.underlying f.type).bind Zx,Hx P (i+1) fs with
  |some k,some ks=>some (k::ks)
  |_,_=>none
  else none
def FS(P:Program)(b:Builtin)(ts:Array TypeId):Option AK :=
 match b with
 |.len=>match ts[0]? with
  |some t=>match P.underlying t with
   |some (.slice _)=>some (.len false)
   |some .string=>some (.len true)
   |some (.map _ _)=>if ts=#[t] then some .lenM else none
   |_=>none
  |none=>none
 |.cap=>match ts[0]? with
  |some t=>match P.underlying t with
   |some (.slice _)=>some .cap
   |_=>none
  |none=>none
 |.max=>some .max
 |.min=>some .min
 |.append=>match ts[0]?,ts[1]? with
  |some t,some u=>if ts=#[t,u] then
   match P.underlying t,P.underlying u with
   |some (.slice e),some (.slice _)|some (.slice e),some .string=>match P.info? e with
    |some i=>match i.zero with
     |some z=>match avOf z with
      |some x=>if 0<i.size&&0<i.bytes&&z.cells.size == i.size then some (.app i.size i.bytes x) else none
      |none=>none
     |none=>none
    |none=>none
   |some (.slice e),some (.int _)=>match P.info? e with
    |some i=>match i.zero with
     |some z=>match avOf z with
      |some x=>if 0<i.size&&0<i.bytes&&z.cells.size == i.size&&z.cells.all (·.oneCell') then some (.appZ i.size i.bytes x) else none
      |none=>none
     |none=>none
    |none=>none
   |_,_=>none
   else none
  |_,_=>none
 |.clear=>match ts[0]? with
  |some t=>match P.underlying t with
   |some (.slice e)=>match P.info? e with
    |some i=>match i.zero with
     |some z=>match avOf z with
      |some x=>if 0<i.size&&z.cells.size == i.size&&z.cells.all (·.oneCell') then some (.clr i.size x) else none
      |none=>none
     |none=>none
    |none=>none
   |_=>none
  |none=>none
 |_=>none
def Zy:Value->Bool
 |.agg _=>true
 |_=>false
def placesOf(P:Program):List Field->Option (List (Nat × Nat))
 |[]=>some []
 |f::fs=>match P.info? f.type,placesOf P fs with
  |some j,some l=>some ((f.offset,j.size)::l)
  |_,_=>none
def Fx(P:Program)(op:Op):Option AK :=
 match op with
 |.move _|.assign _=>some .mv
 |.pick ..=>some .pick
 |.alloc t=>match P.info? t with
  |some i=>match i.zero with
   |some z=>match avOf z with
    |some x=>if 0<z.cells.size&&z.cells.all (·.oneCell') then some (.alloc x z.cells.size) else none
    |none=>none
   |none=>none
  |none=>none
 |.box _ _=>some .box
 |.build t ps=>match P.underlying t,P.info? t with
  |some (.struct fs),some i=>match i.zero with
   |some z=>match avOf z with
    |some x=>match placesOf P fs.toList with
     |some places=>if z.cells.size == x.cells.length&&Zy z then some (.build x.cells places (ps.toList.map (·.1))) else none
     |none=>none
    |none=>none
   |none=>none
  |some (.array n e),some i=>match i.zero with
   |some z=>match avOf z with
    |some x=>match P.info? e with
     |some j=>if z.cells.size == x.cells.length&&Zy z then some (.build x.cells ((List.range n).map λq=>(q * j.size,j.size)) (ps.toList.map (·.1))) else none
     |none=>none
    |none=>none
   |none=>none
  |_,_=>none
 |.buildSlice t len ps=>match P.underlying t with
  |some (.slice e)=>match P.info? e with
   |some i=>match i.zero with
    |some z=>match avOf z with
     |some x=>if 0<i.size&&z.cells.size == i.size&&z.cells.all (·.oneCell')&&decide (len * i.size<=2 ^ 24) then some (.bslice i.size len x (ps.toList.map (·.1))) else none
     |none=>none
    |none=>none
   |none=>none
  |_=>none
 |.load t _=>(FR P t).map λ(a,s)=>.load a s
 |.store t _ _=>(FR P t).map λ(_,s)=>.store s
 |.nilCheck _=>some .nilCheck
 |.binOp op t _ _ _ =>
  if op == .eql||op == .neq then
   match P.underlying t with
   |some .bool=>some (.eqb (op == .neq))
   |some (.int _)|some .string=>some (.bin op)
   |some (.struct fs)=>if !P.stoodInHeld t&&!P.eqGuardType P.depth t then (Hx P 0 fs.toList).map (.eqs (op == .neq)) else none
   |some (.slice _)=>some (.eqn (op == .neq))
   |_=>none
  else some (.bin op)
 |.unOp op _ _=>some (.un op)
 |.convert src dst _=>match P.underlying src,P.underlying dst with
  |some (.int _),some (.int k)=>some (.conv k)
  |some (.slice e),some .string=>match P.underlying e with
   |some (.int .u8)=>some .toStr
   |some (.int .i32)=>some .runStr
   |_=>none
  |_,_=>none
 |.slice t _ lo hi mx=>match P.underlying t with
  |some (.slice e)=>match P.info? e with
   |some i=>if 0<i.size then some (.slice i.size lo.isSome hi.isSome mx.isSome) else none
   |none=>none
  |_=>none
 |.fieldAddr t _ f=>match P.underlying t with
  |some (.struct fs)=>match fs[f]? with
   |some fl=>(FR P fl.type).map λ(a,s)=>.faddr a fl.offset s
   |none=>none
  |_=>none
 |.field t _ f=>match P.underlying t with
  |some (.struct fs)=>match fs[f]? with
   |some fl=>(FR P fl.type).map λ(a,s)=>.field a fl.offset s
   |none=>none
  |_=>none
 |.indexAddr t _ _=>match P.underlying t with
  |some (.slice e)=>match P.info? e with
   |some i=>if 0<i.size then some (.iaddr i.size) else none
   |none=>none
  |some (.array n e)=>if n<=1 then none else (FR P e).map λ(a,s)=>.iaddrA n s a
  |_=>none
 |.index t _ _=>match P.underlying t with
  |some (.array n e)=>(FR P e).map λ(a,s)=>.index n s a
  |some .string=>some .indexStr
  |_=>none
 |.extract _ i=>some (.extract i)
 |.makeSlice t _ _=>match P.underlying t with
  |some (.slice e)=>match P.info? e with
   |some i=>match i.zero with
    |some z=>match avOf z with
     |some x=>if 0<i.size&&0<i.bytes&&z.cells.size == i.size&&z.cells.all (·.oneCell') then some (.mkSlice i.size i.bytes x) else none
     |none=>none
    |none=>none
   |none=>none
  |_=>none
 |.makeFunc fn first _=>match fn with
  |.func f=>if first.isEmpty then some (.mkFunc f) else none
  |_=>none
 |.makeMap _ none=>some .mkMap
 |.lookup t _ _ false=>match P.underlying t with
  |some (.map k e)=>match P.underlying k,P.info? e with
   |some (.int .i64),some i=>match i.zero with
    |some z=>(avOf z).map .mapGet
    |none=>none
   |_,_=>none
  |_=>none
 |.range t _=>match P.underlying t with
  |some (.map _ _)=>some .rangeM
  |_=>none
 |.next _ s=>if s then none else some .nextM
 |.entry _=>some .entryM
 |.mapUpdate t _ _ _=>match P.underlying t with
  |some (.map k _)=>match P.underlying k with
   |some (.int .i64)=>some .mapSet
   |_=>none
  |_=>none
 |.call c=>match c.callee with
  |.value _=>some .call
  |.builtin b=>FS P b c.argTypes
  |_=>none
 |_=>none
def Dk(P:Program)(op:Op):Option AK:=some ((Fx P op).getD .no)
theorem JG{P:Program}{op:Op}{k:AK}(h:Dk P op=some k)(hk:k≠.no):Fx P op=some k:=by
 unfold Dk at h;cases h0:Fx P op with
 |none=>rw[h0] at h;cases h;exact absurd rfl hk
 |some k'=>rw[h0] at h;cases h;rfl
def IY(n:Nat):Operand->Option AArg
 |.tmp t=>if t<n then some (.slot t) else none
 |.const v=>(avOf v).map .const
 |.func f=>some (.const (.fn f []))
 |.global _=>none
structure AOp where
 dst:Option Nat
 args:List AArg
 guard:Option (Nat × Bool)
 k:AK
def CL(P:Program)(n:Nat)(ops:Array Oper)(o:Oper):Option AOp :=
 match Dk P o.op,o.op.operands.toList.mapM (IY n) with
 |some k,some args =>
  if o.dst.all (·<n) then
   match o.guard with
   |none=>some ⟨o.dst,args,none,k⟩
   |some (j,want)=>match (ops[j]?).bind (·.dst) with
    |some d=>if d<n then some ⟨o.dst,args,some (d,want),k⟩ else none
    |none=>none
  else none
 |_,_=>none
inductive AC where
 |skip
 |reg (ops:List AOp)
 |dreg (ops:List AOp)
 |dtl (pre post:List AOp)
 |greg (ops:List AOp)
 |grx (fl:List Bool) (ops:List AOp)
 |gry (fl:List Bool) (ops:List AOp)
 |seq (a b:AC)
 |cond (c:AArg) (a b:AC)
 |block (id:Nat) (c:AC)
 |loop (c:AC)
 |rng (f:AArg) (ps:List Nat) (assign body:AC)
 |exit (id:Nat)
 |ret
def AC.free:AC->Bool
 |.seq a b=>a.free&&b.free
 |.cond _ a b=>a.free&&b.free
 |.block _ c=>c.free
 |.loop c=>c.free
 |.rng ..=>false
 |_=>true
def AK.calm:AK->Bool
 |.alloc ..|.box|.store _|.app ..|.mkSlice ..|.mkMap|.mapSet|.clr ..|.lenM|.rangeM|.nextM|.entryM=>false
 |_=>true
def LH:List AOp->Nat
 |[]=>0
 |o::l=>match o.k with
  |.call=>0
  |_=>LH l+1
def Tq(l:List AOp):Nat:=l.length-1-LH l.reverse
def Tr:List AOp->Nat
 |[]=>0
 |o::l=>if o.k.calm then Tr l+1 else 0
def AK.reads:AK->Bool
 |.load ..|.toStr|.runStr|.mapGet _=>true
 |_=>false
def AK.eff:AK->Option Nat
 |.alloc ..|.box|.mkSlice ..=>some 0
 |.store _=>some 1
 |.app ..=>some 2
 |.mkMap|.mapSet=>some 2
 |.lenM|.rangeM|.nextM|.entryM=>some 3
 |_=>none
def AK.blind:AK->Bool
 |.mv|.pick|.build ..|.bslice ..|.bin _|.eqb _|.eqs ..|.eqn _|.un _|.conv _|.field ..|.index ..|.indexStr|.extract _|.len _|.cap|.max|.min|.mkFunc _|.nilCheck|.call=>true
 |_=>false
def Lq(q e:AK):Bool:=match e.eff with
 |some 0=>q.eff.isNone
 |some 1=>q.eff.isNone&&!q.reads
 |some _=>q.eff.isNone&&q.blind
 |none=>true
def AK.appOk:AK->Bool
 |.app w _ _=>decide (0<w)
 |.lenM|.rangeM|.nextM|.entryM=>false
 |_=>true
def X7(md:Region.Mode)(ops:Array Oper)(L:List AOp)(i j:Nat):Bool :=
 match L[i]?,L[j]? with
 |some qi,some qj=>qi.k.eff.isNone&&(qj.k.eff.isNone||Lq qi.k qj.k)||Region.waitsFor md ops j i
 |_,_=>true
def UR(md:Region.Mode)(ops:Array Oper)(L:List AOp):Bool:=L.all (·.k.appOk)&&(List.range ops.size).all λj=>(List.range j).all λi=>X7 md ops L i j
def flagB(md:Region.Mode)(ops:Array Oper)(L:List AOp)(i:Nat):Bool:=match L[i]? with
 |some qi=>qi.k.eff.isNone&&(List.range ops.size).any λj=>decide (i<j)&&(match L[j]? with|some qj=>qj.k.eff == some 2&&!Lq qi.k qj.k&&!Region.waitsFor md ops j i|none=>false)
 |none=>false
def Pq(md:Region.Mode)(ops:Array Oper)(L:List AOp):List Bool:=(List.range ops.size).map (flagB md ops L)
def zqs(md:Region.Mode)(ops:Array Oper)(L:List AOp)(i j:Nat):Bool :=
 match L[i]?,L[j]? with
 |some qi,some qj=>qi.k.eff.isNone&&(qj.k.eff.isNone||Lq qi.k qj.k||(Pq md ops L).getD i false&&qj.k.eff == some 2)||Region.waitsFor md ops j i
 |_,_=>true
def Zz(md:Region.Mode)(ops:Array Oper)(L:List AOp):Bool:=(List.range ops.size).all λj=>(List.range j).all λi=>zqs md ops L i j
def AK.laid:AK->Bool
 |.alloc ..|.box|.mkSlice ..=>true
 |_=>false
def AK.solo:AK->Bool
 |.mv|.build ..=>true
 |_=>false
def AK.grows:AK->Bool
 |.app ..=>true
 |_=>false
def flagY(md:Region.Mode)(ops:Array Oper)(L:List AOp)(i:Nat):Bool:=match L[i]? with
 |some qi=>qi.k.eff.isNone&&!qi.k.solo&&(List.range ops.size).any λj=>match L[j]? with
  |some qj=>decide (i<j)&&!Region.waitsFor md ops j i&&(qj.k.laid||qj.k.eff == some 2&&!Lq qi.k qj.k)||decide (j<i)&&!Region.waitsFor md ops i j&&(qj.k.laid||qj.k.grows)
  |none=>false
 |none=>false
def zqt(md:Region.Mode)(ops:Array Oper)(L:List AOp)(i:Nat):Bool:=match L[i]? with
 |some qi=>qi.k.reads&&(List.range ops.size).any λj=>match L[j]? with
  |some qj=>qj.k.eff == some 1&&(decide (i<j)&&!Region.waitsFor md ops j i||decide (j<i)&&!Region.waitsFor md ops i j)
  |none=>false
 |none=>false
def JX(md:Region.Mode)(ops:Array Oper)(L:List AOp):List Bool:=(List.range ops.size).flatMap λi=>[flagY md ops L i,zqt md ops L i]
def zl9(md:Region.Mode)(ops:Array Oper)(L:List AOp)(i j:Nat):Bool :=
 match L[i]?,L[j]? with
 |some qi,some qj=>Region.waitsFor md ops j i||(qi.k.laid&&qj.k.laid)
  || qi.k.eff.isNone&&(qj.k.eff.isNone||Lq qi.k qj.k&&!qj.k.laid||((JX md ops L).getD (2 * i) false||qi.k.solo)&&(qj.k.laid||qj.k.eff == some 2)||qj.k.eff == some 1&&(!qi.k.reads||(JX md ops L).getD (2 * i+1) false))
  || qi.k.laid&&qj.k.eff.isNone&&((JX md ops L).getD (2 * j) false||qj.k.solo)
  || qi.k.eff == some 1&&qj.k.eff.isNone&&(!qj.k.reads||(JX md ops L).getD (2 * j+1) false)
  || qi.k.grows&&qj.k.eff.isNone&&(JX md ops L).getD (2 * j) false
 |_,_=>true
def Z0(md:Region.Mode)(ops:Array Oper)(L:List AOp):Bool:=(List.range ops.size).all λj=>(List.range j).all λi=>zl9 md ops L i j
def Iz(P:Program)(ops:Array Oper)(draw:Bool)(l:List AOp):Option AC :=
 if draw then
  (if P.follows .mixedOrders then
   (if l.all (·.k.calm) then
    (if decide (LH l<l.length)&&Region.lexTailB .any ops (LH l) then some (.dtl (l.take (LH l)) (l.drop (LH l)))
     else if decide (LH l<Tq l)&&Region.lexTailB .any ops (Tq l) then some (.dtl (l.take (Tq l)) (l.drop (Tq l)))
     else if Region.lexB .any ops then some (.dreg l) else none)
    else if Region.lexTailB .any ops (Tr l) then some (.dtl (l.take (Tr l)) (l.drop (Tr l)))
    else if Region.lexB .any ops&&UR .any ops l then some (.greg l)
    else if Region.lexB .any ops&&Zz .any ops l then some (.grx (Pq .any ops l) l)
    else if Region.lexB .any ops&&Z0 .any ops l then some (.gry (JX .any ops l) l) else none)
   else none)
 else some (.reg l)
def Fy(P:Program)(n:Nat):Code->Option AC
 |.skip=>some .skip
 |.label _=>some .skip
 |.region _ ops draw =>
  match ops.toList.mapM (CL P n ops) with
  |some l=>Iz P ops draw l
  |none=>none
 |.seq a b=>match Fy P n a,Fy P n b with
  |some x,some y=>some (.seq x y)
  |_,_=>none
 |.cond c a b=>match IY n c,Fy P n a,Fy P n b with
  |some z,some x,some y=>some (.cond z x y)
  |_,_,_=>none
 |.block id c=>(Fy P n c).map (.block id)
 |.loop c=>(Fy P n c).map .loop
 |.rangeFunc f ps a c=>match IY n f,Fy P n a,Fy P n c with
  |some z,some x,some y=>some (.rng z ps.toList x y)
  |_,_,_=>none
 |.scope c=>Fy P n c
 |.exit id=>some (.exit id)
 |.ret=>some .ret
 |_=>none
inductive ARes where
 |slot (t:Nat)
 |cell (t:Nat) (a:Bool) (s:Nat)
structure AFn where
 n:Nat
 np:Nat
 res:List ARes
 body:AC
def LI(P:Program)(n:Nat):ResultVar->Option ARes
 |.tmp t=>if t<n then some (.slot t) else none
 |.cell t ty=>if t<n then (FR P ty).map λ(a,s)=>.cell t a s else none
def Bm(P:Program)(f:Nat)(np:Nat):Option AFn :=
 match P.funcs[f]? with
 |some fn=>match fn.body with
  |some c=>match Fy P fn.ntmps c,fn.results.toList.mapM (LI P fn.ntmps) with
   | some b, some r => if np ≤ fn.ntmps && fn.name != "runtime.NumGoroutine" then some ⟨fn.ntmps, np, r, b⟩ else none
   |_,_=>none
  |none=>none
 |none=>none
def OpOk(P:Program)(S:MS)(r:Result Next)(K:AV->A4->Prop):Prop :=
 (∃v S' x H',(r=.ok (.value v) S'.w\/(r=.ok .skip S'.w/\v=undef))/\Evo S S'/\SRel S' H'/\VRel S' x v/\K x H') \/
 (∃f cargs,r=.ok (.enter f cargs) S.w/\Calls P f cargs S.w λe w'=>∃v S' x H',e=.returned v/\S'.w=w'/\Evo S S'/\SRel S' H'/\VRel S' x v/\K x H')
theorem B1{P:Program}{S:MS}{H:A4}{r:Result Next}{K:AV->A4->Prop}{v:Value}{x:AV}(hr:r=.ok (.value v) S.w)(hS:SRel S H)(hv:VRel S x v)(hK:K x H):OpOk P S r K :=
 .inl ⟨v,S,x,H,.inl hr,.refl S,hS,hv,hK⟩
section
variable {P:Program}{S:MS}{H:A4}{ρ:Operand->Value}{K:AV->A4->Prop}
theorem AB.inv1{x:AV}{v:Value}(h:AB S [x] [v]):VRel S x v:=h.cons_inv.1
theorem AB.inv2{x y:AV}{u v:Value}(h:AB S [x,y] [u,v]):VRel S x u/\VRel S y v:=⟨h.cons_inv.1,h.cons_inv.2.cons_inv.1⟩
theorem AB.len1{xs:List AV}{v:Value}(h:AB S xs [v]):∃x,xs=[x]/\VRel S x v:=by
 match xs,h with
 |[x],h=>exact⟨x,rfl,h.inv1⟩
 |[],h=>simp[AB] at h
 |_::_::_,h=>have:=h.length;simp at this
theorem AB.len2{xs:List AV}{u v:Value}(h:AB S xs [u,v]):∃x y,xs=[x,y]/\VRel S x u/\VRel S y v:=by
 match xs,h with
 |[x,y],h=>exact⟨x,y,rfl,h.inv2⟩
 |[],h=>have:=h.length;simp at this
 |[_],h=>have:=h.length;simp at this
 |_::_::_::_,h=>have:=h.length;simp at this
theorem AB.len3{xs:List AV}{u v z:Value}(h:AB S xs [u,v,z]):∃x y t,xs=[x,y,t]/\VRel S x u/\VRel S y v/\VRel S t z:=by
 match xs,h with
 |[x,y,t],h=>exact⟨x,y,t,rfl,h.cons_inv.1,h.cons_inv.2.inv2⟩
 |[],h=>have:=h.length;simp at this
 |[_],h=>have:=h.length;simp at this
 |[_,_],h=>have:=h.length;simp at this
 |_::_::_::_::_,h=>have:=h.length;simp at this
theorem s_mv(hS:SRel S H){v:Value}{xs:List AV}(hx:AB S xs [v])(h:AI P .mv H xs K):OpOk P S ((pure (.value v):Sem Next).run P S.w) K:=by
 obtain⟨x,rfl,hv⟩:=hx.len1;exact B1 rfl hS hv h
theorem zqu(hS:SRel S H){c a b:Value}{xs:List AV}(hx:AB S xs [c,a,b])(h:AI P .pick H xs K):
 OpOk P S ((do pure (Next.value (if <-asBool c then a else b)):Sem Next).run P S.w) K:=by
 obtain⟨x,y,t,rfl,hc,ha,hb⟩:=hx.len3;cases x<;>simp only[AI] at h<;>try exact h.elim
 rename_i q;obtain rfl:c=.bool q:=hc;cases q
 ·exact B1 (by simp[asBool]) hS hb h
 ·exact B1 (by simp[asBool]) hS ha h
theorem X8(a b:Int):(a == b)=decide (a=b):=by rw[Ep];simp
theorem zdw(op:BinOp)(t:TypeId)(k k':IntKind)(a b:Int)(x y:Operand){K:AV->Prop}(hk:k=k')(h:binI op k a b K):
 ∃(z:AV) (v:Value),VRel S z v/\K z/\(do eqGuard op t x y (.int k a) (.int k' b);binOp op t (.int k a) (.int k' b):Sem Value).run P S.w=.ok v S.w:=by
 subst hk;cases op<;>simp only[binI] at h
 case quo=>exact⟨.int k _,.int k _,rfl,h.2,by simp[eqGuard,binOp,Op.intDiv,h.1]⟩
 case rem=>exact⟨.int k _,.int k _,rfl,h.2,by simp[eqGuard,binOp,Op.intDiv,h.1]⟩
 case eql=>exact⟨.bool _,.bool _,rfl,h,by simp[eqGuard,binOp,Op.intCmp,X8]⟩
 case neq=>exact⟨.bool _,.bool _,rfl,h,by simp[eqGuard,binOp,Op.intCmp,bne,X8]⟩
 case lss=>exact⟨.bool _,.bool _,rfl,h,by simp[eqGuard,binOp,Op.intCmp]⟩
 case leq=>exact⟨.bool _,.bool _,rfl,h,by simp[eqGuard,binOp,Op.intCmp]⟩
 case gtr=>exact⟨.bool _,.bool _,rfl,h,by simp[eqGuard,binOp,Op.intCmp]⟩
 case geq=>exact⟨.bool _,.bool _,rfl,h,by simp[eqGuard,binOp,Op.intCmp]⟩
 case add=>exact⟨.int k _,.int k _,rfl,h,by simp[eqGuard,binOp,Op.intArith]⟩
 case sub=>exact⟨.int k _,.int k _,rfl,h,by simp[eqGuard,binOp,Op.intArith]⟩
 case mul=>exact⟨.int k _,.int k _,rfl,h,by simp[eqGuard,binOp,Op.intArith]⟩
 case and=>exact⟨.int k _,.int k _,rfl,h,by simp[eqGuard,binOp,Op.intBits,JF]⟩
 case or=>exact⟨.int k _,.int k _,rfl,h,by simp[eqGuard,binOp,Op.intBits,JF]⟩
 case xor=>exact⟨.int k _,.int k _,rfl,h,by simp[eqGuard,binOp,Op.intBits,JF]⟩
 case andNot=>exact⟨.int k _,.int k _,rfl,h,by simp[eqGuard,binOp,Op.intBits,JF]⟩
theorem KO(s:List UInt8):(⟨s.toArray⟩:ByteArray).toList=s:=by
 rw[ByteArray.toList_eq]
theorem X9(a b:List UInt8):(a == b)=decide (a=b):=by rw[Ep];simp
theorem zla(hS:SRel S H)(op:BinOp)(t:TypeId){u v:Value}(x y:Operand){xs:List AV}(hx:AB S xs [u,v])(h:AI P (.bin op) H xs K):
 OpOk P S ((do pure (Next.value (<-(do eqGuard op t x y u v;binOp op t u v:Sem Value))):Sem Next).run P S.w) K:=by
 obtain⟨p,q,rfl,hp,hq⟩:=hx.len2;cases p<;>cases q<;>simp only[AI] at h<;>try exact h.elim
 ·rename_i k a k' b
  obtain rfl:u=.int k a:=hp;obtain rfl:v=.int k' b:=hq;by_cases h1:op=.shl
  ·subst h1
   have h':0<=b/\K (.int k (k.wrap (a * 2 ^ (Min.min b.toNat k.bits)))) H:=h;exact B1 (x:=.int k _) (by simp[eqGuard,binOp,Op.shift,Int.not_lt.2 h'.1]) hS rfl h'.2
  ·by_cases h2:op=.shr
   ·subst h2
    have h':0<=b/\K (.int k (a.fdiv (2 ^ (Min.min b.toNat k.bits)))) H:=h;exact B1 (x:=.int k _) (by simp[eqGuard,binOp,Op.shift,Int.not_lt.2 h'.1]) hS rfl h'.2
   ·have h':k=k'/\binI op k a b λx=>K x H:=by cases op<;>first|exact h|exact absurd rfl h1|exact absurd rfl h2
    obtain⟨_,v,h3,h4,h5⟩:=zdw (P:=P) (S:=S) op t k k' a b x y h'.1 h'.2;exact B1 (by simp only[Sem.run_bind,h5,Result.andThen_ok,Sem.run_pure]) hS h3 h4
 ·rename_i a b
  obtain rfl:u=.string ⟨a.toArray⟩:=hp;obtain rfl:v=.string ⟨b.toArray⟩:=hq;cases op<;>first|exact h.elim|skip
  ·exact B1 (x:=.bool _) (v:=.bool (decide (a=b))) (by simp[eqGuard,binOp,Op.stringOp,KO,X9]) hS rfl h
  ·exact B1 (x:=.bool _) (v:=.bool (!decide (a=b))) (by simp[eqGuard,binOp,Op.stringOp,KO,X9]) hS rfl h
theorem s_eqb(hS:SRel S H)(neg:Bool)(t:TypeId)(ht:P.underlying t=some .bool){u v:Value}(x y:Operand){xs:List AV}(hx:AB S xs [u,v])(h:AI P (.eqb neg) H xs K):
 OpOk P S ((do pure (Next.value (<-(do eqGuard (if neg then .neq else .eql) t x y u v;binOp (if neg then .neq else .eql) t u v:Sem Value))):Sem Next).run P S.w) K:=by
 obtain⟨p,q,rfl,hp,hq⟩:=hx.len2;cases p<;>cases q<;>simp only[AI] at h<;>try exact h.elim
 rename_i a b;obtain rfl:u=.bool a:=hp;obtain rfl:v=.bool b:=hq;have e:(Op.equal t (.bool a) (.bool b)).run P S.w=.ok (a == b) S.w:=run_equalIn_bool' S.w 9999 t a b ht;cases neg
 ·exact B1 (x:=.bool _) (by simp[eqGuard,binOp,e]) hS rfl h
 ·exact B1 (x:=.bool _) (by simp[eqGuard,binOp,e]) hS rfl h
theorem zlb{d:Nat}{t:TypeId}{dd:TypeDesc}{k:Nat}(ht:P.underlying t=some dd)(hp:Zx dd=some k){x y:AV}{u v:Value}{b:Bool}(hx:VRel S x u)(hy:VRel S y v)(h:eq1 k x y=some b):
 (Op.equalIn (d+1) t u v).run P S.w=.ok b S.w:=by
 cases dd<;>simp only[Zx,Aq,reduceCtorEq] at hp
 all_goals subst hp
 all_goals cases x<;>cases y<;>simp only[eq1] at h<;>first|(cases h;done)|skip
 ·rename_i a c
  obtain rfl:u=.bool a:=hx;obtain rfl:v=.bool c:=hy;rw[run_equalIn_bool' (P:=P) S.w d t a c ht,A5 h]
 ·rename_i k0 k a k' c
  obtain rfl:u=.int k a:=hx;obtain rfl:v=.int k' c:=hy;split at h
  ·rename_i hk
   subst hk;rw[run_equalIn_int (P:=P) S.w d t k _ a c ht,X8,A5 h]
  ·cases h
 ·rename_i a c
  obtain rfl:u=.string ⟨a.toArray⟩:=hx;obtain rfl:v=.string ⟨c.toArray⟩:=hy;rw[run_equalIn_string (P:=P) S.w d t _ _ ht,KO,KO,X9,A5 h]
theorem z78{d:Nat}:∀{fs:List Field}{i:Nat}{ks:List Nat}{xs ys:List AV}{us vs:List Value}{b:Bool}(pre pre':List Value),Hx P i fs=some ks->AB S xs us->AB S ys vs ->
 eqL ks xs ys=some b->pre.length=i->pre'.length=i->(Op.eqFields (d+1) (pre++us).toArray (pre'++vs).toArray fs).run P S.w=.ok b S.w
 |[],i,ks,xs,ys,us,vs,b,pre,pre',hf,hx,hy,h,_,_=>by
  simp only[Hx,Aq] at hf;subst hf;cases xs<;>cases ys<;>simp only[eqL,Aq,reduceCtorEq] at h;subst h;simp[Op.eqFields]
 |f::fs,i,ks,xs,ys,us,vs,b,pre,pre',hf,hx,hy,h,hp,hp'=>by
  simp only[Hx] at hf;split at hf
  ·rename_i hc
   simp only[Ac,Ck,bne_iff_ne,ne_eq] at hc;split at hf
   ·rename_i k ks' hk hks
    cases hf;cases xs with
    |nil=>simp[eqL] at h
    |cons x xs =>
     cases ys with
     |nil=>simp[eqL] at h
     |cons y ys =>
      obtain⟨u,us',rfl,hu,hus⟩:=hx;obtain⟨v,vs',rfl,hv,hvs⟩:=hy;simp only[eqL] at h;split at h
      ·rename_i b1 b2 h1 h2
       cases h;obtain⟨dd,hd,hpd⟩:=BA.1 hk;have hn:R7 dd=false:=by cases dd<;>simp[Zx] at hpd<;>rfl
       have part1:∀(p:List Value)(z:Value)(zs:List Value),p.length=i->(part f.type (p++z::zs).toArray f.offset).run P S.w=.ok z S.w:=by
        intro p z zs hpl
        have hag:(isAgg f.type).run P S.w=.ok false S.w:=by
         simp only[isAgg,Sem.run_bind,run_underlying hd,Result.andThen_ok];cases dd<;>simp[R7] at hn<;>rfl
        simp only[part,Sem.run_bind,hag,Result.andThen_ok];rw[hc.1,<-hpl];simp
       have ih:=z78 (d:=d) (pre++[u]) (pre'++[v]) hks hus hvs h2 (by simp[hp]) (by simp[hp']);simp only[A3,List.singleton_append] at ih;simp only[Op.eqFields,hc.2,AT,Br,ne_eq,Sem.run_bind,part1 pre u us' hp,part1 pre' v vs' hp',Result.andThen_ok,zlb (P:=P) (d:=d) hd hpd hu hv h1];cases b1
       ·simp
       ·simpa using ih
      ·cases h
   ·cases hf
  ·cases hf
theorem s_eqs(hS:SRel S H)(neg:Bool)(ks:List Nat)(t:TypeId){fs:Array Field}(ht:P.underlying t=some (.struct fs))(hf:Hx P 0 fs.toList=some ks)(h1:P.stoodInHeld t=false)(h2:P.eqGuardType P.depth t=false)
 {u v:Value} (x y:Operand) {xs:List AV} (hx:AB S xs [u,v]) (h:AI P (.eqs neg ks) H xs K) :
 OpOk P S ((do pure (Next.value (<-(do eqGuard (if neg then .neq else .eql) t x y u v;binOp (if neg then .neq else .eql) t u v:Sem Value))):Sem Next).run P S.w) K:=by
 obtain⟨p,q,rfl,hp,hq⟩:=hx.len2;cases p<;>cases q<;>simp only[AI] at h<;>try exact h.elim
 rename_i as bs;obtain⟨us,rfl,hu⟩:=hp;obtain⟨vs,rfl,hv⟩:=hq
 ·obtain⟨b,hb,h⟩:=C1 h
  have ht':P.underlying t=some (.struct (P.fieldsOf t)):=by simp[Program.fieldsOf,ht]
  have e:(Op.equalIn 10000 t (.agg us.toArray) (.agg vs.toArray)).run P S.w=.ok b S.w:=by
   rw[run_equalIn_agg S.w 9999 t us.toArray vs.toArray ht' h1];have:(P.fieldsOf t)=fs:=by simp[Program.fieldsOf,ht]
   rw[this];exact z78 (d:=9998) [] [] hf hu hv hb rfl rfl
  have g:∀op,(eqGuard op t x y (.agg us.toArray) (.agg vs.toArray)).run P S.w=.ok () S.w:=λop=>run_eqGuard_agg S.w op t x y _ _ h2;cases neg
  ·exact B1 (x:=.bool _) (by simp only[Sem.run_bind,A8,Bq,g,Result.andThen_ok,run_eql_struct,e];rfl) hS rfl h
  ·exact B1 (x:=.bool _) (by simp only[Sem.run_bind,Br,g,Result.andThen_ok,run_neq_struct,e];rfl) hS rfl h
theorem s_eqn(hS:SRel S H)(neg:Bool)(t:TypeId){e:TypeId}(ht:P.underlying t=some (.slice e)){u v:Value}(x y:Operand){xs:List AV}(hx:AB S xs [u,v])(h:AI P (.eqn neg) H xs K):
 OpOk P S ((do pure (Next.value (<-(do eqGuard (if neg then .neq else .eql) t x y u v;binOp (if neg then .neq else .eql) t u v:Sem Value))):Sem Next).run P S.w) K:=by
 obtain⟨p,q,rfl,hp,hq⟩:=hx.len2
 have key0:∀(d:Nat)(a:Option Addr)(n c:Nat),(Op.equalIn (d+1) t (.slice a n c) (.slice none 0 0)).run P S.w=.ok a.isNone S.w:=by
  intro d a n c;cases a<;>simp[Op.equalIn,run_underlying ht]
 have key:∀(a:Option Addr)(n c:Nat),(Op.equal t (.slice a n c) (.slice none 0 0)).run P S.w=.ok a.isNone S.w:=key0 9999
 have fin:∀(a:Option Addr)(n c:Nat)(b:Bool),u=.slice a n c->v=.slice none 0 0->a.isNone=b->K (.bool (if neg then !b else b)) H->OpOk P S ((do pure (Next.value (<-(do eqGuard (if neg then .neq else .eql) t x y u v;binOp (if neg then .neq else .eql) t u v:Sem Value))):Sem Next).run P S.w) K:=by
  intro a n c b hu hv hb hK;subst hu hv hb;cases neg
  ·exact B1 (x:=.bool _) (by simp[eqGuard,binOp,key]) hS rfl hK
  ·exact B1 (x:=.bool _) (by simp[eqGuard,binOp,key]) hS rfl hK
 cases q<;>simp only[AI] at h<;>try exact h.elim
 cases p<;>simp only at h<;>try exact h.elim
 ·exact fin none 0 0 true hp hq rfl (by cases neg<;>exact h)
 ·obtain⟨a,cap,hp⟩:=hp
  exact fin _ _ _ false hp hq rfl (by cases neg<;>exact h)
 ·obtain⟨_,_,a,cap,vs,hp,_,_,hr⟩:=hp
  obtain⟨b,o,ha,_⟩:=hr h.1;exact fin _ _ _ false hp hq (by rw[ha];rfl) (by cases neg<;>exact h.2)
 ·obtain⟨_,_,a,vs,hp,_,_,hr⟩:=hp
  obtain⟨b,o,ha,_⟩:=hr h.1;exact fin _ _ _ false hp hq (by rw[ha];rfl) (by cases neg<;>exact h.2)
 ·obtain⟨⟨a,c,hp,ha⟩,_⟩:=hp
  have:a.isNone=false:=by
   cases a with
   |none=>have:=ha rfl;have:=h.1;omega
   |some _=>rfl
  exact fin _ _ _ false hp hq this (by cases neg<;>exact h.2)
theorem s_un(hS:SRel S H)(op:UnOp){v:Value}{xs:List AV}(hx:AB S xs [v])(h:AI P (.un op) H xs K):
 OpOk P S ((do pure (Next.value (<-Op.unary op v)):Sem Next).run P S.w) K:=by
 obtain⟨x,rfl,hv⟩:=hx.len1;cases op<;>cases x<;>simp only[AI] at h<;>try exact h.elim
 ·rename_i k n
  obtain rfl:v=.int k n:=hv;exact B1 (x:=.int k _) (by simp[Op.unary,Op.intArith]) hS rfl h
 ·rename_i b
  obtain rfl:v=.bool b:=hv;exact B1 (x:=.bool _) (by simp[Op.unary]) hS rfl h
theorem zqv(hS:SRel S H)(src dst:TypeId){k k0:IntKind}(hs:P.underlying src=some (.int k0))(hd:P.underlying dst=some (.int k)){v:Value}{xs:List AV}(hx:AB S xs [v])(h:AI P (.conv k) H xs K):
 OpOk P S ((do pure (Next.value (<-convert src dst v)):Sem Next).run P S.w) K:=by
 obtain⟨x,rfl,hv⟩:=hx.len1;cases x<;>simp only[AI] at h<;>try exact h.elim
 rename_i k1 n;obtain rfl:v=.int k1 n:=hv;exact B1 (x:=.int k _) (by simp[convert,run_underlying hs,run_underlying hd,Conv.intToInt]) hS rfl h
theorem s_len(hS:SRel S H)(t ty:TypeId)(cs:Array Bool)(ts:Array TypeId){e:TypeId}(h0:ts[0]? = some t)(ht:P.underlying t=some (.slice e)){v:Value}{xs:List AV}(hx:AB S xs [v])(h:AI P (.len false) H xs K):
 OpOk P S ((builtin .len ts ty cs #[v]).run P S.w) K:=by
 obtain⟨x,rfl,hv⟩:=hx.len1;cases x<;>simp only[AI] at h<;>try exact h.elim
 ·obtain rfl:v=.slice none 0 0:=hv
  exact B1 (x:=.int .i64 _) (v:=.int .i64 _) (by simp[builtin,Builtin.len_,h0,run_underlying ht,goInt]) hS rfl h
 ·obtain⟨a,rfl⟩:=hv
  exact B1 (x:=.int .i64 _) (v:=.int .i64 _) (by simp[builtin,Builtin.len_,h0,run_underlying ht,goInt]) hS rfl h
 ·obtain⟨a,cap,rfl⟩:=hv
  exact B1 (x:=.int .i64 _) (v:=.int .i64 _) (by simp[builtin,Builtin.len_,h0,run_underlying ht,goInt]) hS rfl h
 ·obtain⟨_,_,a,cap,vs,rfl,_⟩:=hv
  exact B1 (x:=.int .i64 _) (v:=.int .i64 _) (by simp[builtin,Builtin.len_,h0,run_underlying ht,goInt]) hS rfl h
 ·obtain⟨_,_,a,vs,rfl,_⟩:=hv
  exact B1 (x:=.int .i64 _) (v:=.int .i64 _) (by simp[builtin,Builtin.len_,h0,run_underlying ht,goInt]) hS rfl h
 ·obtain⟨⟨a,c,rfl,_⟩,_⟩:=hv
  exact B1 (x:=.int .i64 _) (v:=.int .i64 _) (by simp[builtin,Builtin.len_,h0,run_underlying ht,goInt]) hS rfl h
theorem s_cap(hS:SRel S H)(t ty:TypeId)(cs:Array Bool)(ts:Array TypeId){e:TypeId}(h0:ts[0]? = some t)(ht:P.underlying t=some (.slice e)){v:Value}{xs:List AV}(hx:AB S xs [v])(h:AI P .cap H xs K):
 OpOk P S ((builtin .cap ts ty cs #[v]).run P S.w) K:=by
 obtain⟨x,rfl,hv⟩:=hx.len1;cases x<;>simp only[AI] at h<;>try exact h.elim
 obtain rfl:v=.slice none 0 0:=hv;exact B1 (x:=.int .i64 _) (v:=.int .i64 _) (by simp[builtin,Builtin.cap_,h0,run_underlying ht,goInt]) hS rfl h
theorem zdx(s:List UInt8):(⟨s.toArray⟩:ByteArray).size=s.length:=rfl
theorem zqw(hS:SRel S H)(t ty:TypeId)(cs:Array Bool)(ts:Array TypeId)(h0:ts[0]? = some t)(ht:P.underlying t=some .string){v:Value}{xs:List AV}(hx:AB S xs [v])(h:AI P (.len true) H xs K):
 OpOk P S ((builtin .len ts ty cs #[v]).run P S.w) K:=by
 obtain⟨x,rfl,hv⟩:=hx.len1;cases x<;>simp only[AI] at h<;>try exact h.elim
 obtain rfl:v=.string _:=hv;exact B1 (x:=.int .i64 _) (v:=.int .i64 _) (by simp[builtin,Builtin.len_,h0,run_underlying ht,goInt,zdx]) hS rfl h
end
def JH(a:Bool)(off s:Nat)(u:Value):Value:=if a then .agg (u.cells.extract off (off+s)) else u.cells.getD off undef
theorem cells_one{v:Value}(h:v.oneCell'=true):v.cells=#[v]:=by cases v<;>first|rfl|simp[Value.oneCell'] at h
section
variable {P:Program}{S:MS}{H:A4}{ρ:Operand->Value}{K:AV->A4->Prop}
theorem VRel.part{x:AV}{u:Value}(hx:x.isAny=false)(h:VRel S x u){a:Bool}{off s:Nat}(hle:off+s<=x.cells.length)(hs:0<s):VRel S (Dp a off s x) (JH a off s u):=by
 have hc:=h.cells hx;cases a
 ·simp only[Dp,JH,A8,Bq]
  have hlt:off<x.cells.length:=om
  obtain⟨v,hv,hr⟩:=hc.get (Ar hlt);rw[List.getD,Ar hlt];have:u.cells[off]? = some v:=by rw[<-hv];simp
  simp only[Eo,this,Option.getD_some];exact hr
 ·simp only[Dp,JH,Br]
  refine⟨(u.cells.extract off (off+s)).toList,rfl,?_⟩;have:=(hc.drop off).take s;have e:(u.cells.extract off (off+s)).toList=(u.cells.toList.drop off).take s:=oc
  rw[e];exact this
theorem Laid.part{w:World}{b o wd:Nat}{u:Value}(h:Laid w b o wd u){a:Bool}{off s:Nat}(hle:off+s<=wd)(hs:0<s)(ha:a=false->s=1):Laid w b (o+off) s (JH a off s u):=by
 obtain⟨h1,h2,h3⟩:=h;cases a
 ·have hs1:=ha rfl
  subst hs1;have hlt:off<u.cells.size:=om
  have hone:=h2 u.cells[off] (De hlt);have he:JH false off 1 u=u.cells[off]:=by simp[JH,hlt]
  rw[he];refine⟨by rw[cells_one hone];rfl,λc hc=>?_,λj hj=>?_⟩
  ·rw[cells_one hone] at hc;simp at hc;rw[hc];exact hone
  ·have:j=0:=om
   subst this;rw[cells_one hone];simpa [hlt] using h3 off om
 ·have he:(JH true off s u).cells=u.cells.extract off (off+s):=by simp[JH,Value.cells]
  refine⟨by rw[he,Array.size_extract];omega,λc hc=>?_,λj hj=>?_⟩
  ·rw[he] at hc
   obtain⟨i,hi,rfl⟩:=Array.getElem_of_mem hc;rw[Array.getElem_extract];exact h2 _ (De _)
  ·rw[he,Bu,h3 (off+j) om,Array.getElem?_extract]
   rw[Ae om]
theorem OO:∀{cs:List AV}{i:Nat},AJ cs=true->(cs.getD i .any).pure=true
 |[],i,_=>by simp[AV.pure]
 |c::cs,0,h=>by simp only[AJ,Ac] at h;simpa using h.1
 |c::cs,i+1,h=>by simp only[AJ,Ac] at h;simpa using OO (i:=i) h.2
theorem KP:∀{cs:List AV}{n:Nat},AJ cs=true->AJ (cs.drop n)=true
 |[],n,_=>by simp[AJ]
 |c::cs,0,h=>h
 |c::cs,n+1,h=>by simp only[AJ,Ac] at h;simpa using KP (n:=n) h.2
theorem KQ:∀{cs:List AV}{n:Nat},AJ cs=true->AJ (cs.take n)=true
 |[],n,_=>by simp[AJ]
 |c::cs,0,h=>by simp[AJ]
 |c::cs,n+1,h=>by simp only[AJ,Ac] at h;simpa [AJ,h.1] using KQ (n:=n) h.2
theorem AV.pure_cells{x:AV}(h:x.pure=true):AJ x.cells=true:=by
 cases x<;>simp_all [AV.cells,AV.pure,AJ]
theorem US{x:AV}(h:x.pure=true)(a:Bool)(off s:Nat):(Dp a off s x).pure=true:=by
 cases a
 ·exact OO (AV.pure_cells h)
 ·exact KQ (KP (AV.pure_cells h))
theorem FN{t:TypeId}{a:Bool}{s:Nat}(h:FR P t=some (a,s)):∃i d,P.info? t=some i/\P.underlying t=some d/\R7 d=a/\i.size=s/\0<s/\(a=false->s=1):=by
 unfold FR at h;split at h
 ·rename_i i d hi hd
  split at h
  ·rename_i hc
   simp only[Ac,Ah,EV,Ck] at hc;cases h;exact⟨i,d,hi,hd,rfl,rfl,hc.1,λhe=>hc.2.resolve_left (by simp[he])⟩
  ·cases h
 ·cases h
theorem UT{t:TypeId}{d:TypeDesc}(hd:P.underlying t=some d)(w:World):(isAgg t).run P w=.ok (R7 d) w:=by
 simp only[isAgg,Sem.run_bind,run_underlying hd,Result.andThen_ok];cases d<;>rfl
theorem CH{t:TypeId}{i:TypeInfo}(hi:P.info? t=some i)(w:World):(sizeOf t).run P w=.ok i.size w:=by
 simp[sizeOf,typeInfo,hi]
theorem addr_add(b o n:Nat):(⟨b,o,none⟩:Addr).add n=⟨b,o+n,none⟩:=by
 unfold Addr.add;split
 ·rename_i h;subst h;rfl
 ·rfl
theorem Mr{w:World}{b o wd:Nat}{u:Value}(h:Laid w b o wd u):(loadCells ⟨b,o,none⟩ wd).run P w=.ok u.cells w:=by
 have:=run_loadCells_list (P:=P) w ⟨b,o,none⟩ u.cells.toList (λj v hv=>by
  have hj:j<wd:=by
   rw[<-h.1];have:=(Bh.1 hv).1;simpa using this
  rw[addr_add,h.2.2 j hj]
  simpa using hv)
 simp only[Array.length_toList,Array.toArray_toList] at this;rw[<-h.1];exact this
theorem Mt{t:TypeId}{a:Bool}{s:Nat}(ht:FR P t=some (a,s)){w:World}{b o wd off:Nat}{u:Value}(h:Laid w b o wd u)(hle:off+s<=wd):
 (loadVar t ⟨b,o+off,none⟩).run P w=.ok (JH a off s u) w:=by
 obtain⟨i,d,hi,hd,ha,hsz,h0,h1⟩:=FN ht;have hp:=h.part (a:=a) hle h0 h1;simp only[loadVar,Sem.run_bind,UT hd,ha,Result.andThen_ok];cases a
 ·have hs1:=h1 rfl
  subst hs1;obtain⟨p1,p2,p3⟩:=hp;have hlt:off<u.cells.size:=by have:=h.1;omega
  have hone:=h.2.1 u.cells[off] (De hlt);have he:JH false off 1 u=u.cells[off]:=by simp[JH,hlt]
  have:=p3 0 om;rw[he,cells_one hone] at this;simp only[Nat.add_zero] at this;rw[he];simp[this]
 ·simp only[Br,Sem.run_bind,CH hi,hsz,Result.andThen_ok,Mr hp]
  have:(JH true off s u).cells=u.cells.extract off (off+s):=by simp[JH,Value.cells]
  simp only[this,Sem.run_pure];simp[JH]
theorem GRel.elem{G:Grp}{g:Nat}(h:GRel S G g)(hw:0<G.w){i:Nat}(hi:i<G.xs.length):∃u,VRel S (G.xs.getD i .any) u/\Laid S.w (S.place g) (i * G.w) G.w u:=by
 have hlen:=h.len hw;obtain⟨⟨cells,T,vs,h1,h2,h3,h4⟩,_⟩:=h.live hw om;obtain⟨u,hu,hr⟩:=h3.get (Ar hi);refine⟨u,by rw[List.getD,Ar hi];exact hr,?_⟩;have:=h4.row h1 i u hu;simpa using this
theorem z3g(hS:SRel S H){v:Value}{xs:List AV}(hx:AB S xs [v])(h:AI P .nilCheck H xs K)(x:Operand)(o:Oper)(ho:o.op=.nilCheck x)(hv:ρ x=v):OpOk P S ((execOp ρ o).run P S.w) K:=by
 obtain⟨y,rfl,hr⟩:=hx.len1;obtain⟨dst,op,ty,pos,after,gd⟩:=o;subst ho;cases y<;>simp only[AI] at h<;>try exact h.elim
 ·obtain⟨_,b,o,u,hv',hi,hx',hl⟩:=hr
  have hr':VRel S (.cptr _) v:=⟨‹_›,b,o,u,hv',hi,hx',hl⟩;exact B1 (by simp[execOp,hv,hv']) hS (hv' ▸ hr') h
 ·have hr':=hr
  obtain⟨⟨a,ha⟩,_⟩:=hr;exact B1 (by simp[execOp,hv,ha]) hS (ha ▸ hr') h
 ·have hr':=hr
  obtain⟨vs,ha,_⟩:=hr;exact B1 (by simp[execOp,hv,ha]) hS (ha ▸ hr') h
theorem SRel.live_of{g:Nat}(hS:SRel S H)(hg:g<S.n):GRel S (H.at_ g) g:=hS.grp g (by rw[<-hS.n];exact hg)
theorem Z1(hS:SRel S H)(t:TypeId){a:Bool}{s:Nat}(ht:FR P t=some (a,s)){v:Value}{y:AV}(hr:VRel S y v)(h:AI P (.load a s) H [y] K):
 ∃ad u z,v=.pointer (some ad)/\(loadVar t ad).run P S.w=.ok u S.w/\VRel S z u/\K z H:=by
 obtain⟨_,_,_,_,_,_,h0,hs1⟩:=FN ht;cases y<;>simp only[AI] at h<;>try exact h.elim
 ·rename_i x
  obtain⟨h1,h2,h3,hK⟩:=h;obtain⟨hp,b,o,u,rfl,hi,hx,hl⟩:=hr;have hle:0+s<=u.cells.size:=by have:=(hx.cells h1).length;simp at this;omega
  have:=Mt (P:=P) ht hl hle;simp only[Nat.add_zero] at this;exact⟨_,_,_,rfl,this,hx.part h1 om h0,hK⟩
 ·rename_i g vn i o
  obtain⟨h1,h2,h3,h4,h5,h6,h7,hK⟩:=h;obtain⟨_,hg,hc,hp⟩:=hr;have hG:=hS.live_of hg;obtain rfl:v=_:=hp (by rw[hG.ver,h1]);obtain⟨u,hu,hl⟩:=hG.elem om h2;have:=Mt (P:=P) ht hl (off:=o) h6;rw[hG.wid];exact⟨_,_,_,rfl,this,hu.part h3 om h0,hK⟩
theorem zqx(hS:SRel S H)(t:TypeId){a:Bool}{s:Nat}(ht:FR P t=some (a,s)){v:Value}{xs:List AV}(hx:AB S xs [v])(h:AI P (.load a s) H xs K):
 OpOk P S ((do pure (Next.value (<-Instr.loadAt t v)):Sem Next).run P S.w) K:=by
 obtain⟨y,rfl,hr⟩:=hx.len1;obtain⟨ad,u,z,rfl,hrun,hz,hK⟩:=Z1 hS t ht hr h;exact B1 (by simp[Instr.loadAt,Instr.sureAddr,hrun]) hS hz hK
theorem zlc(hS:SRel S H)(t:TypeId)(f:Nat){fs:Array Field}{fl:Field}(ht:P.underlying t=some (.struct fs))(hf:fs[f]? = some fl){a:Bool}{s:Nat}(hs:FR P fl.type=some (a,s))
 {v:Value} {xs:List AV} (hx:AB S xs [v]) (h:AI P (.faddr a fl.offset s) H xs K) :
 OpOk P S ((do pure (Next.value (<-Instr.fieldAt t v f)):Sem Next).run P S.w) K:=by
 obtain⟨y,rfl,hr⟩:=hx.len1;obtain⟨i,d,hi,_,_,hsz,h0,hs1⟩:=FN hs
 have run:∀b o,(Instr.fieldAt t (.pointer (some ⟨b,o,none⟩)) f).run P S.w=.ok (.pointer (some ⟨b,o+fl.offset,none⟩)) S.w:=by
  intro b o;have:¬i.size=0:=om
  simp[Instr.fieldAt,run_underlying ht,hf,Instr.sureAddr,fieldPlace,CH hi,this,addr_add]
 cases y<;>simp only[AI] at h<;>try exact h.elim
 ·rename_i x
  obtain⟨h1,h2,h3,h4,hK⟩:=h;obtain⟨hp,b,o,u,rfl,him,hx,hl⟩:=hr;have hle:fl.offset+s<=u.cells.size:=by have:=(hx.cells h1).length;simp at this;omega
  have hl':=hl.part (a:=a) hle h0 hs1;refine B1 (by simp[run b o];rfl) hS ?_ hK;exact⟨US hp _ _ _,b,o+fl.offset,JH a fl.offset s u,rfl,him,hx.part h1 h2 h0,by rw[hl'.1];exact hl'⟩
 ·rename_i g vn i o
  obtain⟨h1,hK⟩:=h;obtain⟨_,hg,hc,hp⟩:=hr;have hG:=hS.live_of hg;have e:S.cur g=vn:=by rw[hG.ver,h1]
  obtain rfl:v=_:=hp e;refine B1 (by simp[run];rfl) hS ?_ hK;exact⟨⟨_,rfl⟩,hg,hc,λ_=>by rw[Bu]⟩
theorem Z2{t:TypeId}{a:Bool}{s off:Nat}(hs:FR P t=some (a,s)){cs:Array Value}(hle:off+s<=cs.size):(part t cs off).run P S.w=.ok (JH a off s (.agg cs)) S.w:=by
 obtain⟨i,d,hi,hd,ha,hsz,h0,hs1⟩:=FN hs;simp only[part,Sem.run_bind,UT hd,Result.andThen_ok,ha];cases a
 ·have hlt:off<cs.size:=om
  simp[JH,Value.cells,hlt]
 ·simp[CH hi,hsz,JH,Value.cells]
theorem z79{cs:List AV}{vs:List Value}(h:AB S cs vs):vs.toArray.size=cs.length:=by simp[h.length]
theorem zld(hS:SRel S H)(t:TypeId)(f:Nat){fs:Array Field}{fl:Field}(ht:P.underlying t=some (.struct fs))(hf:fs[f]? = some fl){a:Bool}{s:Nat}(hs:FR P fl.type=some (a,s))
 {v:Value} {xs:List AV} (hx:AB S xs [v]) (h:AI P (.field a fl.offset s) H xs K) :
 OpOk P S ((do pure (Next.value (<-Instr.field t v f)):Sem Next).run P S.w) K:=by
 obtain⟨y,rfl,hr⟩:=hx.len1;obtain⟨_,_,_,_,_,_,h0,hs1⟩:=FN hs;cases y<;>simp only[AI] at h<;>try exact h.elim
 rename_i cs;obtain⟨h1,h2,hK⟩:=h;have hr':=hr;obtain⟨vs,rfl,hvs⟩:=hr;exact B1 (by simp[Instr.field,run_underlying ht,hf,asAgg,Z2 (S:=S) hs (cs:=vs.toArray) (off:=fl.offset) (by rw[z79 hvs];exact h1)]) hS (hr'.part rfl h1 h0) hK
theorem zle(hS:SRel S H)(t e:TypeId){n:Nat}(ht:P.underlying t=some (.array n e)){a:Bool}{s:Nat}(hs:FR P e=some (a,s))
 {v ix:Value} {xs:List AV} (hx:AB S xs [v,ix]) (h:AI P (.index n s a) H xs K) :
 OpOk P S ((do pure (Next.value (<-Instr.index t v ix)):Sem Next).run P S.w) K:=by
 obtain⟨y,z,rfl,hr,hz⟩:=hx.len2;obtain⟨i,_,hi,_,_,hsz,h0,hs1⟩:=FN hs;cases y<;>cases z<;>simp only[AI] at h<;>try exact h.elim
 rename_i cs k j;obtain⟨h1,h2,h3,h4,hK⟩:=h;obtain rfl:ix=.int k j:=hz;have hr':=hr;obtain⟨vs,rfl,hvs⟩:=hr
 have hle:j.toNat * s+s<=cs.length:=by
  have:(j.toNat+1) * s<=n * s:=Bf _ om;rw[AS,FG] at this;omega
 exact B1 (by simp[Instr.index,asIntOf,run_underlying ht,h1,h2,CH hi,hsz,Z2 (S:=S) hs (cs:=vs.toArray) (off:=j.toNat * s) (by rw[z79 hvs];exact hle)]) hS (hr'.part rfl hle h0) hK
theorem z3h(hS:SRel S H)(t:TypeId)(ht:P.underlying t=some .string){v ix:Value}{xs:List AV}(hx:AB S xs [v,ix])(h:AI P .indexStr H xs K):
 OpOk P S ((do pure (Next.value (<-Instr.index t v ix)):Sem Next).run P S.w) K:=by
 obtain⟨y,z,rfl,hr,hz⟩:=hx.len2;cases y<;>cases z<;>simp only[AI] at h<;>try exact h.elim
 rename_i s k j;obtain⟨h1,h2,hK⟩:=h;obtain rfl:ix=.int k j:=hz;obtain rfl:v=.string ⟨s.toArray⟩:=hr;have hlt:j.toNat<s.length:=om
 have e:(⟨s.toArray⟩:ByteArray)[j.toNat]? = some (s.getD j.toNat 0):=by
  show (if h:j.toNat<(⟨s.toArray⟩:ByteArray).size then some _ else none)=_;rw[dif_pos (by rw[zdx];exact hlt)];simp[List.getD,Ar hlt];rfl
 exact B1 (x:=.int .u8 _) (by simp[Instr.index,asIntOf,run_underlying ht,h1,e]) hS rfl hK
theorem z7a(hS:SRel S H)(i:Nat){v:Value}{xs:List AV}(hx:AB S xs [v])(h:AI P (.extract i) H xs K):
 OpOk P S ((do pure (Next.value (<-Instr.extract v i)):Sem Next).run P S.w) K:=by
 obtain⟨y,rfl,hr⟩:=hx.len1;cases y<;>simp only[AI] at h<;>try exact h.elim
 rename_i vs;obtain⟨us,rfl,hvs⟩:=hr;obtain⟨u,hu,hr⟩:=hvs.get (Ar h.1);refine B1 (v:=u) (x:=vs.getD i .any) (by simp[Instr.extract,hu]) hS ?_ h.2;rw[List.getD,Ar h.1];exact hr
theorem z7b(k:IntKind){w:World}:∀{r:List AV}{vs:List Value}{a:Int}{y:AV},maxF k a r=some y->AB S r vs->∃m,y=.int k m/\(vs.foldlM Builtin.max2 (.int k a):Sem Value).run P w=.ok (.int k m) w
 |[],vs,a,y,h,hx=>by
  have hv:vs=[]:=hx;subst hv;simp only[maxF,Aq] at h;exact⟨a,h.symm,rfl⟩
 |x::r,vs,a,y,h,hx=>by
  obtain⟨u,vs',rfl,hu,hr⟩:=hx;cases x<;>try (simp only[maxF,reduceCtorEq] at h;done)
  rename_i k' b;simp only[maxF] at h;split at h
  ·rename_i hk
   subst hk;obtain rfl:u=.int k b:=hu;obtain⟨m,h1,h2⟩:=z7b k (w:=w) h hr;refine⟨m,h1,?_⟩;simp only[List.foldlM_cons,Builtin.max2,Sem.run_bind,Sem.run_pure,Result.andThen_ok];rw[<-h2];congr 3;rw[Int.max_def];split<;>split<;>first|rfl|(congr 1;omega)
  ·cases h
theorem s_max(hS:SRel S H)(ts:Array TypeId)(ty:TypeId)(cs:Array Bool){vs:Array Value}{xs:List AV}(hx:AB S xs vs.toList)(h:AI P .max H xs K):
 OpOk P S ((builtin .max ts ty cs vs).run P S.w) K:=by
 match xs,h with
 |[],h=>exact h.elim
 |x::r,h =>
  cases x<;>simp only[AI] at h<;>try exact h.elim
  rename_i k a;obtain⟨y,h1,h2⟩:=C1 h;obtain⟨u,vs',hv,hu,hr⟩:=hx;obtain rfl:u=.int k a:=hu;obtain⟨m,rfl,h3⟩:=z7b (P:=P) k (w:=S.w) h1 hr;refine B1 (v:=.int k m) (x:=.int k m) ?_ hS rfl h2;simp only[builtin,Builtin.max_,hv,Sem.run_bind,h3,Result.andThen_ok,Sem.run_pure]
theorem s_min(hS:SRel S H)(ts:Array TypeId)(ty:TypeId)(cs:Array Bool){u v:Value}{xs:List AV}(hx:AB S xs [u,v])(h:AI P .min H xs K):
 OpOk P S ((builtin .min ts ty cs #[u,v]).run P S.w) K:=by
 obtain⟨x,y,rfl,hu,hv⟩:=hx.len2;cases x<;>cases y<;>simp only[AI] at h<;>try exact h.elim
 rename_i k a k' b;obtain rfl:u=.int k a:=hu;obtain rfl:v=.int k' b:=hv;refine B1 (v:=.int k (min a b)) (x:=.int k _) ?_ hS rfl h.2;simp only[builtin,Builtin.min_,List.foldlM_cons,List.foldlM_nil,Builtin.min2,Sem.run_bind,Sem.run_pure,Result.andThen_ok];congr 3;rw[Int.min_def];split<;>split<;>omega
theorem zlf(hS:SRel S H)(t e:TypeId){i:TypeInfo}(ht:P.underlying t=some (.slice e))(hi:P.info? e=some i)(h0:0<i.size)
 {v ix:Value} {xs:List AV} (hx:AB S xs [v,ix]) (h:AI P (.iaddr i.size) H xs K) :
 OpOk P S ((do pure (Next.value (<-Instr.indexAt t v ix)):Sem Next).run P S.w) K:=by
 obtain⟨y,z,rfl,hr,hz⟩:=hx.len2
 have run:∀b o (len cap:Nat) k (j:Int),0<=j->j<len->(Instr.indexAt t (.slice (some ⟨b,o,none⟩) len cap) (.int k j)).run P S.w=.ok (.pointer (some ⟨b,o+j.toNat * i.size,none⟩)) S.w:=by
  intro b o len cap k j h1 h2;simp[Instr.indexAt,asIntOf,run_underlying ht,h1,h2,CH hi,addr_add]
 cases y<;>cases z<;>simp only[AI] at h<;>try exact h.elim
 ·rename_i w' xs k j
  obtain⟨h1,h2,h3,hK⟩:=h;subst h1;obtain rfl:ix=.int k j:=hz;obtain⟨hp,hw,a,cap,vs,rfl,hcap,hvs,hr⟩:=hr;have hlt:j.toNat<xs.length:=om
  obtain⟨b,o,rfl,him,hrow⟩:=hr (λhh=>by rw[hh] at hlt;simp at hlt);obtain⟨u,hu,hru⟩:=hvs.get (Ar hlt);have hl:=hrow _ _ hu;refine B1 (by simp[run b o xs.length cap k j h2 om];rfl) hS ?_ hK;refine⟨OO hp,b,_,u,rfl,him,?_,by rw[hl.1];exact hl⟩;rw[List.getD,Ar hlt];exact hru
 ·rename_i w' xs k j
  obtain⟨h1,h2,h3,hK⟩:=h;subst h1;obtain rfl:ix=.int k j:=hz;obtain⟨hp,hw,a,cap,vs,rfl,hcap,hvs,hr⟩:=Mp hr;have hlt:j.toNat<xs.length:=om
  obtain⟨b,o,rfl,him,hrow⟩:=hr (λhh=>by rw[hh] at hlt;simp at hlt);obtain⟨u,hu,hru⟩:=hvs.get (Ar hlt);have hl:=hrow _ _ hu;refine B1 (by simp[run b o xs.length cap k j h2 om];rfl) hS ?_ hK;refine⟨OO hp,b,_,u,rfl,him,?_,by rw[hl.1];exact hl⟩;rw[List.getD,Ar hlt];exact hru
 ·rename_i g vn off len k j
  obtain⟨h1,h2,h3,h4,hK⟩:=h;obtain rfl:ix=.int k j:=hz;obtain⟨_,hg,hc,hp⟩:=hr;have hG:=hS.live_of hg;have ec:S.cur g=vn:=by rw[hG.ver,h1]
  obtain⟨a,cap',rfl,hcase⟩:=hp ec;rcases hcase with⟨rfl,hcap,hle⟩|⟨hl,_⟩
  ·refine B1 (by simp[run _ _ len cap' k j h3 om];rfl) hS ?_ hK
   refine⟨⟨_,rfl⟩,hg,hc,λ_=>?_⟩;rw[hG.wid,h2,AS,Nat.add_zero]
  ·omega
theorem zdy(hS:SRel S H)(t e:TypeId){n:Nat}(ht:P.underlying t=some (.array n e)){a:Bool}{s:Nat}(hs:FR P e=some (a,s))(hn:¬n<=1)
 {v ix:Value} {xs:List AV} (hx:AB S xs [v,ix]) (h:AI P (.iaddrA n s a) H xs K) :
 OpOk P S ((do pure (Next.value (<-Instr.indexAt t v ix)):Sem Next).run P S.w) K:=by
 obtain⟨y,z,rfl,hr,hz⟩:=hx.len2;obtain⟨i,_,hi,_,_,hsz,h0,hs1⟩:=FN hs
 have run:∀b o k (j:Int),0<=j->j<n->(Instr.indexAt t (.pointer (some ⟨b,o,none⟩)) (.int k j)).run P S.w=.ok (.pointer (some ⟨b,o+j.toNat * s,none⟩)) S.w:=by
  intro b o k j h1 h2;simp[Instr.indexAt,asIntOf,run_underlying ht,h1,h2,CH hi,addr_add,Instr.sureAddr,hsz]
 cases y<;>cases z<;>simp only[AI] at h<;>try exact h.elim
 ·rename_i x k j
  obtain⟨h1,h2,h3,h4,h5,h6,hK⟩:=h;obtain rfl:ix=.int k j:=hz;obtain⟨hp,b,o,u,rfl,him,hx,hl⟩:=hr
  have hle:j.toNat * s+s<=x.cells.length:=by
   have:(j.toNat+1) * s<=n * s:=Bf _ om;rw[AS,FG] at this;omega
  have hle':j.toNat * s+s<=u.cells.size:=by have:=(hx.cells h1).length;simp at this;omega
  have hl':=hl.part (a:=a) hle' h0 hs1;refine B1 (by simp[run b o k j h2 h3];rfl) hS ?_ hK;exact⟨US hp _ _ _,b,o+j.toNat * s,JH a _ s u,rfl,him,hx.part h1 hle h0,by rw[hl'.1];exact hl'⟩
 ·rename_i g vn q o k j
  obtain⟨h1,h2,h3,hK⟩:=h;obtain rfl:ix=.int k j:=hz;obtain⟨_,hg,hc,hp⟩:=hr;have hG:=hS.live_of hg;obtain rfl:v=_:=hp (by rw[hG.ver,h1]);refine B1 (by simp[run _ _ k j h2 h3];rfl) hS ?_ hK;exact⟨⟨_,rfl⟩,hg,hc,λ_=>by rw[Bu]⟩
end
section
variable {P:Program}{S:MS}{H:A4}{ρ:Operand->Value}{K:AV->A4->Prop}
theorem zdz(hS:SRel S H)(f:Nat){vs:List Value}{xs:List AV}(hx:AB S xs vs)(h:AI P (.mkFunc f) H xs K):
 OpOk P S ((do pure (Next.value (<-Instr.makeFunc (.func f) #[] vs.toArray)):Sem Next).run P S.w) K :=
 B1 (x:=.fn f xs) (by simp[Instr.makeFunc]) hS ⟨vs,rfl,hx⟩ h
theorem zqy(hS:SRel S H){v:Value}{vs:List Value}{xs:List AV}(hx:AB S xs (v::vs))(h:AI P .call H xs K):
 OpOk P S ((do let d <-Deferred.ofValue v vs.toArray;invoke d.target d.args:Sem Next).run P S.w) K:=by
 match xs,hx with
 |[],hx=>have:=hx.length;simp at this
 |y::ys,hx =>
  obtain⟨hy,hys⟩:=hx.cons_inv;cases y<;>simp only[AI] at h<;>try exact h.elim
  rename_i f caps;obtain⟨us,rfl,hus⟩:=hy;obtain⟨he,hc⟩:=h;refine .inr ⟨f,(vs++us).toArray,?_,hc S _ hS (hys.append hus)⟩;have:=he (vs++us).toArray S.w;simp only[Deferred.ofValue,Sem.run_bind,Sem.run_pure,Result.andThen_ok,invoke];simpa using this
theorem JI{k:IntKind}{i:Int}{y:Nat}{code:BoundsCode}(h0:0<=i)(h1:i<=y)(w:World):(Instr.sliceBound (.int k i) y code).run P w=.ok i.toNat w:=by
 simp[Instr.sliceBound,asIntOf,h0,h1]
def IZ(o:Option Value)(x:Option Int):Prop :=
 match o,x with
 |none,none=>True
 |some v,some n=>∃k,v=.int k n
 |_,_=>False
theorem z3i{lo hi:Option Value}{a b:Option Int}(hl:IZ lo a)(hh:IZ hi b){len cap:Nat}(h1:0<=a.getD 0)(h2:a.getD 0<=b.getD len)(h3:b.getD len<=cap)(w:World):
 (Instr.sliceBounds true len cap lo hi none).run P w=.ok ((a.getD 0).toNat,(b.getD len).toNat,cap) w:=by
 cases lo<;>cases a<;>simp only[IZ] at hl<;>try exact hl.elim
 all_goals cases hi<;>cases b<;>simp only[IZ] at hh<;>try exact hh.elim
 ·simp[Instr.sliceBounds]
 ·obtain⟨k,rfl⟩:=hh
  simp only[Option.getD_none,Option.getD_some] at *;simp[Instr.sliceBounds,JI (P:=P) (k:=k) h2 h3]
 ·obtain⟨k,rfl⟩:=hl
  simp only[Option.getD_none,Option.getD_some] at *;simp[Instr.sliceBounds,JI (P:=P) (k:=k) h1 h2]
 ·obtain⟨k,rfl⟩:=hl
  obtain⟨k',rfl⟩:=hh;simp only[Option.getD_some] at *;rename_i x y;have e:((y.toNat:Nat):Int)=y:=om
  simp[Instr.sliceBounds,JI (P:=P) (k:=k') (i:=y) om h3,JI (P:=P) (k:=k) (i:=x) (y:=y.toNat) h1 om]
theorem Mu{t e:TypeId}{i:TypeInfo}(ht:P.underlying t=some (.slice e))(hi:P.info? e=some i){lo hh:Option Value}{a b:Option Int}(hl:IZ lo a)(hb:IZ hh b)(base:Option Addr){len cap:Nat}
 (h1:0<=a.getD 0) (h2:a.getD 0<=b.getD len) (h3:b.getD len<=cap) (w:World) :
 (Instr.sliceAt t (.slice base len cap) lo hh none).run P w=.ok (.slice (if cap=(a.getD 0).toNat then base else base.map (·.add ((a.getD 0).toNat * i.size))) ((b.getD len).toNat-(a.getD 0).toNat) (cap-(a.getD 0).toNat)) w:=by
 simp[Instr.sliceAt,Instr.slice,run_underlying ht,z3i (P:=P) hl hb h1 h2 h3,CH hi]
theorem ze0(hS:SRel S H){t e:TypeId}{i:TypeInfo}(ht:P.underlying t=some (.slice e))(hi:P.info? e=some i)(h0:0<i.size){lo hh mx:Option Value}{a b c:Option Int}(hl:IZ lo a)(hb:IZ hh b)(hm:IZ mx c)
 {v:Value} {x:AV} (hx:VRel S x v) (h:HE i.size x a b c H λy=>K y H) :
 OpOk P S ((do pure (Next.value (<-Instr.sliceAt t v lo hh mx)):Sem Next).run P S.w) K:=by
 cases c with
 |some m =>
  simp only[HE] at h;obtain⟨hm0,hb0,ha0,h⟩:=h;subst hm0 hb0;cases mx with
  |none=>exact hm.elim
  |some mv =>
   obtain⟨km,rfl⟩:=hm;cases hh with
   |none=>exact hb.elim
   |some hv =>
    obtain⟨kh,rfl⟩:=hb
    have run:∀(base:Option Addr)(len cap:Nat),(Instr.sliceAt t (.slice base len cap) lo (some (.int kh 0)) (some (.int km 0))).run P S.w=.ok (.slice base 0 0) S.w:=by
     intro base len cap;have b1:(Instr.sliceBound (.int km 0) cap .slice3Acap).run P S.w=.ok 0 S.w:=JI (P:=P) om om S.w;have b2:(Instr.sliceBound (.int kh 0) 0 .slice3B).run P S.w=.ok 0 S.w:=JI (P:=P) om om S.w;rcases ha0 with rfl|rfl
     ·cases lo with
      |some _=>exact hl.elim
      |none=>simp[Instr.sliceAt,Instr.slice,run_underlying ht,Instr.sliceBounds,b1,b2,CH hi]
     ·cases lo with
      |none=>exact hl.elim
      |some lv =>
       obtain⟨kl,rfl⟩:=hl;have b3:(Instr.sliceBound (.int kl 0) 0 .slice3C).run P S.w=.ok 0 S.w:=JI (P:=P) om om S.w;simp[Instr.sliceAt,Instr.slice,run_underlying ht,Instr.sliceBounds,b1,b2,b3,CH hi]
    cases x<;>simp only at h<;>try exact h.elim
    ·obtain rfl:v=.slice none 0 0:=hx
     exact B1 (x:=.nilS) (by simp[run]) hS rfl h
    ·obtain⟨ad,rfl⟩:=hx
     exact B1 (x:=.nul) (by simp[run];rfl) hS ⟨_,rfl⟩ h
    ·obtain⟨_,_,_,_,_,rfl,_⟩:=hx
     exact B1 (x:=.nul) (by simp[run];rfl) hS ⟨_,rfl⟩ h
    ·obtain⟨_,_,_,_,_,rfl,_⟩:=Mp hx
     exact B1 (x:=.nul) (by simp[run];rfl) hS ⟨_,rfl⟩ h
    ·obtain⟨⟨ad,c,rfl,_⟩,_⟩:=hx
     exact B1 (x:=.nul) (by simp[run];rfl) hS ⟨_,rfl⟩ h
 |none =>
  cases mx with
  |some _=>exact hm.elim
  |none =>
   cases x<;>simp only[HE] at h<;>try exact h.elim
   ·obtain⟨ha,hbb,h⟩:=h
    obtain rfl:v=.slice none 0 0:=hx;have e1:a.getD 0=0:=by rcases ha with rfl|rfl<;>rfl
    have e2:b.getD ((0:Nat):Int)=0:=by rcases hbb with rfl|rfl<;>rfl
    have:=Mu (P:=P) ht hi hl hb none (len:=0) (cap:=0) om om om S.w;rw[e1,e2] at this;exact B1 (x:=.nilS) (by simp[this]) hS rfl h
   ·obtain⟨ha,hbb,h⟩:=h
    obtain⟨ad,rfl⟩:=hx;have e1:a.getD 0=0:=by rcases ha with rfl|rfl<;>rfl
    have e2:b.getD ((0:Nat):Int)=0:=by rcases hbb with rfl|rfl<;>rfl
    have:=Mu (P:=P) ht hi hl hb ad (len:=0) (cap:=0) om om om S.w;rw[e1,e2] at this;exact B1 (x:=.nul) (by simp[this];rfl) hS ⟨_,rfl⟩ h
   ·rename_i w' xs
    obtain⟨h1,h2,h3,h4,h⟩:=h;subst h1;obtain⟨hp,hw,ad,cap,vs,rfl,hcap,hvs,hrow⟩:=hx;have run:=Mu (P:=P) ht hi hl hb ad (len:=xs.length) (cap:=cap) h2 h3 om S.w;generalize ea:(a.getD 0).toNat=A at *;generalize eb:(b.getD (xs.length:Int)).toNat=B at *;have hAB:A<=B:=om
    have hB:B<=xs.length:=om
    have hlen:((xs.take B).drop A).length=B-A:=by simp;omega
    refine B1 (by simp[run];rfl) hS ?_ h;refine⟨KP (KQ hp),hw,?_⟩;by_cases hc:cap=A
    ·have:(xs.take B).drop A=[]:=Az om
     exact⟨ad,cap-A,[],by rw[hlen];simp[hc],⟨om,λhn=>by have:=hcap.2 hn;omega⟩,by rw[this];rfl,λhne=>absurd this hne⟩
    ·refine⟨ad.map (·.add (A * i.size)),cap-A,(vs.take B).drop A,by rw[hlen];simp[hc],⟨om,λhn=>by have:=hcap.2 (by cases ad<;>simp_all);omega⟩,(hvs.take B).drop A,λhne=>?_⟩
     obtain⟨bb,o,rfl,him,hrow⟩:=hrow (λhh=>by rw[hh] at hne;simp at hne);refine⟨bb,o+A * i.size,Bt some (addr_add _ _ _),him,λj v hv=>?_⟩;rw[Cf,Cq] at hv;split at hv
     ·have:=hrow _ _ hv
      rw[AS] at this;rw[Bu];exact this
     ·cases hv
   ·rename_i w' xs
    obtain⟨h1,h2,h3,h4,h⟩:=h;subst h1;obtain⟨hp,hw,ad,cap,vs,rfl,hcap,hvs,hrow⟩:=Mp hx;have run:=Mu (P:=P) ht hi hl hb ad (len:=xs.length) (cap:=cap) h2 h3 om S.w;generalize ea:(a.getD 0).toNat=A at *;generalize eb:(b.getD (xs.length:Int)).toNat=B at *;have hAB:A<=B:=om
    have hB:B<=xs.length:=om
    have hlen:((xs.take B).drop A).length=B-A:=by simp;omega
    refine B1 (by simp[run];rfl) hS ?_ h;refine⟨KP (KQ hp),hw,?_⟩;by_cases hc:cap=A
    ·have:(xs.take B).drop A=[]:=Az om
     exact⟨ad,cap-A,[],by rw[hlen];simp[hc],⟨om,λhn=>by have:=hcap.2 hn;omega⟩,by rw[this];rfl,λhne=>absurd this hne⟩
    ·refine⟨ad.map (·.add (A * i.size)),cap-A,(vs.take B).drop A,by rw[hlen];simp[hc],⟨om,λhn=>by have:=hcap.2 (by cases ad<;>simp_all);omega⟩,(hvs.take B).drop A,λhne=>?_⟩
     obtain⟨bb,o,rfl,him,hrow⟩:=hrow (λhh=>by rw[hh] at hne;simp at hne);refine⟨bb,o+A * i.size,Bt some (addr_add _ _ _),him,λj v hv=>?_⟩;rw[Cf,Cq] at hv;split at hv
     ·have:=hrow _ _ hv
      rw[AS] at this;rw[Bu];exact this
     ·cases hv
   ·rename_i g vn off len
    obtain⟨h1,h2,h3,h4,h5,h6,h⟩:=h;obtain⟨_,hg,hcv,hpos⟩:=hx;have hG:=hS.live_of hg;have ec:S.cur g=vn:=by rw[hG.ver,h1]
    obtain⟨ad,cap',rfl,hcase⟩:=hpos ec
    have hcap:b.getD (len:Int)<=cap':=by
     rcases hcase with⟨_,hc,hle⟩|⟨hl0,hc,hle⟩
     ·rcases h6 with h6|⟨h6,h7⟩
      ·omega
      ·have:=hG.full om h6;omega
     ·rcases h6 with h6|⟨h6,h7⟩
      ·omega
      ·have:=hG.full om h6;omega
    have run:=Mu (P:=P) ht hi hl hb ad (len:=len) (cap:=cap') h4 h5 hcap S.w;refine B1 (v:=.slice (if cap'=(a.getD 0).toNat then ad else ad.map (·.add ((a.getD 0).toNat * i.size))) ((b.getD len).toNat-(a.getD 0).toNat) (cap'-(a.getD 0).toNat)) (by simp only[Sem.run_bind,run,Result.andThen_ok,Sem.run_pure]) hS ?_ h
    generalize ea:(a.getD 0).toNat=A at *;generalize eb:(b.getD (len:Int)).toNat=B at *;have hAB:A<=B:=om
    have hB:B<=cap':=om
    refine⟨?_,hg,hcv,λ_=>?_⟩
    ·refine⟨_,_,rfl,λhn=>?_⟩
     rcases hcase with⟨rfl,hc,hle⟩|⟨hl0,hc,hle⟩
     ·split at hn<;>cases hn
     ·omega
    ·rcases hcase with⟨rfl,hc,hle⟩|⟨hl0,hc,hle⟩
     ·by_cases hcA:cap'=A
      ·exact⟨_,_,by rw[Ae hcA],.inr ⟨om,om,om⟩⟩
      ·refine⟨_,_,by rw[Ad hcA],.inl ⟨?_,om,om⟩⟩
       show some ((Addr.mk _ _ none).add _)=_;rw[addr_add,hG.wid,h2,AS]
     ·have:cap'=A:=om
      exact⟨_,_,by rw[Ae this],.inr ⟨om,om,om⟩⟩
theorem Ts{b:Bool}{xs:List AV}{a:Option Int}{l:List AV}(h:optA b xs=some (a,l)){ov:Option Value}{vs:List Value}(hb:b=ov.isSome)(hx:AB S xs (ov.toList++vs)):IZ ov a/\AB S l vs:=by
 cases ov with
 |none =>
  subst hb;simp only[Option.isSome_none,optA,Aq,Prod.mk.injEq] at h;obtain⟨rfl,rfl⟩:=h;exact⟨oy,by simpa using hx⟩
 |some v =>
  subst hb
  match xs,hx,h with
  |[],hx,h=>simp[optA] at h
  |x::xs,hx,h =>
   obtain⟨h1,h2⟩:=(show AB S (x::xs) (v::vs) by simpa using hx).cons_inv;cases x<;>simp only[Option.isSome_some,optA,Aq,Prod.mk.injEq,reduceCtorEq] at h;obtain⟨rfl,rfl⟩:=h;exact⟨⟨_,h1⟩,h2⟩
theorem zlg(hS:SRel S H){t e:TypeId}{i:TypeInfo}(ht:P.underlying t=some (.slice e))(hi:P.info? e=some i)(h0:0<i.size){v:Value}{lo hh mx:Option Value}
 {xs:List AV} (hx:AB S xs (v::(lo.toList++(hh.toList++(mx.toList++[]))))) (h:AI P (.slice i.size lo.isSome hh.isSome mx.isSome) H xs K) :
 OpOk P S ((do pure (Next.value (<-Instr.sliceAt t v lo hh mx)):Sem Next).run P S.w) K:=by
 match xs,hx with
 |[],hx=>have:=hx.length;simp at this
 |x::l,hx =>
  obtain⟨hxv,hl⟩:=hx.cons_inv;simp only[AI] at h;obtain⟨⟨a,l1⟩,ha,h⟩:=C1 h;obtain⟨⟨b,l2⟩,hb,h⟩:=C1 h;obtain⟨⟨c,l3⟩,hc,hl3,h⟩:=C1 h;obtain⟨b1,r1⟩:=Ts ha rfl hl;obtain⟨b2,r2⟩:=Ts hb rfl r1;obtain⟨b3,_⟩:=Ts hc rfl r2;exact ze0 hS ht hi h0 b1 b2 b3 hxv h
theorem Nl(hS:SRel S H){w:Nat}(hw:0<w){x:AV}{v:Value}(hx:VRel S x v)(hok:Hw H w x)(hstr:∀s,x≠.str s){es:List AV}(he:Hv H x=some es):
 ∃a cap vs,v=.slice a es.length cap/\AB S es vs/\(es≠[]->∃b o,a=some ⟨b,o,none⟩/\OC S.w b o w vs):=by
 cases x<;>simp only[Hv,Aq,reduceCtorEq] at he<;>simp only[Hw] at hok
 ·exact absurd rfl (hstr _)
 ·subst he
  obtain rfl:v=.slice none 0 0:=hx;exact⟨none,0,[],rfl,rfl,λh=>absurd rfl h⟩
 ·subst he
  obtain⟨a,rfl⟩:=hx;exact⟨a,0,[],rfl,rfl,λh=>absurd rfl h⟩
 ·subst he
  obtain⟨a,cap,rfl⟩:=hx;exact⟨some a,cap,[],rfl,rfl,λh=>absurd rfl h⟩
 ·subst he
  subst hok;obtain⟨_,_,a,cap,vs,rfl,_,hvs,hrow⟩:=hx;exact⟨_,cap,vs,rfl,hvs,λhne=>let ⟨b,o,ha,_,hr⟩:=hrow hne;⟨b,o,ha,hr⟩⟩
 ·subst he
  subst hok;obtain⟨_,_,a,cap,vs,rfl,_,hvs,hrow⟩:=Mp hx;exact⟨_,cap,vs,rfl,hvs,λhne=>let ⟨b,o,ha,_,hr⟩:=hrow hne;⟨b,o,ha,hr⟩⟩
 ·rename_i g vn off len
  obtain⟨h1,h2,h3⟩:=hok;obtain⟨_,hg,hc,hp⟩:=hx;have hG:=hS.live_of hg;obtain⟨a,cap',rfl,hcase⟩:=hp (by rw[hG.ver,h1]);have hlen:es.length=len:=by rw[<-he];simp;omega
  by_cases hc0:S.cap g=0
  ·have h4:=hG.len om
   have he0:es=[]:=Az om;exact⟨a,cap',[],by rw[hlen],by rw[he0];rfl,λhne=>absurd he0 hne⟩
  obtain⟨⟨cells,T,us,hb,hcs,hus,hf⟩,h6⟩:=hG.live om om;refine⟨a,cap',(us.drop off).take len,by rw[hlen],by rw[<-he];exact (hus.drop off).take len,λhne=>?_⟩;rcases hcase with⟨rfl,_,_⟩|⟨hl0,_,_⟩
  ·refine⟨_,_,rfl,λj u hu=>?_⟩
   rw[Cq] at hu;split at hu
   ·rw[Cf] at hu
    have:=hf.row hb (off+j) u hu;rw[h2,AY,AS] at this;rw[hG.wid,h2];exact this
   ·cases hu
  ·exact absurd (Az om) hne
def flat(vs:List Value):List Value:=vs.flatMap (·.cells.toList)
theorem flat_get{w:Nat}:∀{vs:List Value},(∀v∈vs,v.cells.size=w)->(flat vs).length=vs.length * w/\∀i v,vs[i]? = some v->∀j,j<w->(flat vs)[i * w+j]? = v.cells[j]?
 |[],_=>⟨by simp[flat],λi v hv=>by simp at hv⟩
 |v::vs,h=>by
  obtain⟨ih1,ih2⟩:=flat_get (w:=w) (vs:=vs) (λu hu=>h u (by simp[hu]));have hv:v.cells.toList.length=w:=by rw[<-h v oc];simp
  have e:flat (v::vs)=v.cells.toList++flat vs:=by simp[flat]
  refine⟨by rw[e,Ai,hv,ih1,List.length_cons,AS];omega,λi u hu j hj=>?_⟩;rw[e];cases i with
  |zero =>
   simp only[List.getElem?_cons_zero,Aq] at hu;subst hu;rw[A9 om];simp
  |succ i =>
   simp only[List.getElem?_cons_succ] at hu;rw[AG (by rw[hv,AS];omega),<-ih2 i u hu j hj,hv];congr 1;rw[AS];omega
theorem Tt{w:Nat}(hw:0<w){vs:List Value}(h:∀v∈vs,v.cells.size=w){k:Nat}{c:Value}(hc:(flat vs)[k]? = some c):∃v,vs[k / w]? = some v/\v.cells[k % w]? = some c:=by
 obtain⟨h1,h2⟩:=flat_get h;have hk:k<vs.length * w:=by rw[<-h1];exact (Bh.1 hc).1
 have hlt:k / w<vs.length:=Nat.div_lt_of_lt_mul (by rw[D9];exact hk);refine⟨vs[k / w],Ar hlt,?_⟩;rw[<-h2 (k / w) _ (Ar hlt) (k % w) (Nat.mod_lt _ hw),<-hc];congr 1;rw[D9];exact GL k w
theorem OC.sizes{w:World}{b o wd:Nat}{vs:List Value}(h:OC w b o wd vs):∀v∈vs,v.cells.size=wd:=λv hv=>by
 obtain⟨i,hi⟩:=E9 hv;exact (h i v hi).1
theorem OC.cell{w:World}{b o wd:Nat}{vs:List Value}(hw:0<wd)(h:OC w b o wd vs){k:Nat}{c:Value}(hc:(flat vs)[k]? = some c):w.cell? ((⟨b,o,none⟩:Addr).add k)=some c/\c.oneCell'=true:=by
 obtain⟨v,hv,hcc⟩:=Tt hw h.sizes hc;obtain⟨h1,h2,h3⟩:=h _ _ hv;have:=h3 (k % wd) (Nat.mod_lt _ hw);rw[hcc] at this;refine⟨?_,?_⟩
 ·rw[addr_add,<-this]
  congr 2;rw[Bu,D9,GL]
 ·have hm:c∈v.cells:=by
   obtain⟨hh,he⟩:=AU.1 hcc;exact he ▸ De hh
  exact h2 c hm
theorem zlh(hS:SRel S H)(src dst e:TypeId)(hs:P.underlying src=some (.slice e))(hd:P.underlying dst=some .string)(he:P.underlying e=some (.int .u8)){v:Value}{xs:List AV}(hx:AB S xs [v])(h:AI P .toStr H xs K):
 OpOk P S ((do pure (Next.value (<-convert src dst v)):Sem Next).run P S.w) K:=by
 obtain⟨x,rfl,hv⟩:=hx.len1;simp only[AI] at h;obtain⟨hok,hns,bs,hbs,hK⟩:=h;obtain⟨a,cap,vs,rfl,hvs,hrow⟩:=Nl hS om hv hok (λs hs=>by subst hs;exact hns) hbs
 have conv:∀(bs:List UInt8)(vs:List Value),AB S (bs.map λb=>AV.int .u8 b.toNat) vs->vs=bs.map λb=>Value.int .u8 b.toNat:=by
  intro bs
  induction bs with
  |nil=>exact λvs h=>h
  |cons b bs ih=>intro vs h;obtain⟨u,r,rfl,h1,h2⟩:=h;rw[show u=_ from h1,ih r h2];rfl
 have hvs':=conv bs vs hvs
 subst hvs';cases a with
 |none =>
  have:bs=[]:=by
   cases bs with
   |nil=>rfl
   |cons b bs=>obtain⟨_,_,hh,_⟩:=hrow oc;cases hh
  subst this;exact B1 (x:=.str []) (by simp only[Sem.run_bind,run_convert_bytes_nil S.w src e hs he _ _ dst hd,Result.andThen_ok,Sem.run_pure];rfl) hS rfl hK
 |some ad =>
  have run:=run_convert_bytes_back (P:=P) S.w src dst e ad cap bs hs he hd (λj hj=>by
   obtain⟨b,o,hh,hr⟩:=hrow (by intro h0;have:=Hf.1 h0;subst this;simp at hj);cases hh;have:=(hr j (.int .u8 (bs[j].toNat:Int)) (by simp[hj])).2.2 0 om;rw[addr_add]
   simpa [Value.cells] using this)
  refine B1 (x:=.str bs) (v:=.string ⟨bs.toArray⟩) ?_ hS rfl hK;simp only[Au,Sem.run_bind,run,Result.andThen_ok,Sem.run_pure]
theorem ze1(hS:SRel S H)(src dst e:TypeId)(hs:P.underlying src=some (.slice e))(hd:P.underlying dst=some .string)(he:P.underlying e=some (.int .i32)){v:Value}{xs:List AV}(hx:AB S xs [v])(h:AI P .runStr H xs K):
 OpOk P S ((do pure (Next.value (<-convert src dst v)):Sem Next).run P S.w) K:=by
 obtain⟨x,rfl,hv⟩:=hx.len1;simp only[AI] at h;obtain⟨hok,hns,zs,hbs,hK⟩:=h;obtain⟨a,cap,vs,rfl,hvs,hrow⟩:=Nl hS om hv hok (λs hs=>by subst hs;exact hns) hbs
 have conv:∀(zs:List Int)(vs:List Value),AB S (zs.map (AV.int .i32)) vs->vs=zs.map (Value.int .i32):=by
  intro zs
  induction zs with
  |nil=>exact λvs h=>h
  |cons b zs ih=>intro vs h;obtain⟨u,r,rfl,h1,h2⟩:=h;rw[show u=_ from h1,ih r h2];rfl
 have hvs':=conv zs vs hvs
 subst hvs';cases a with
 |none =>
  have:zs=[]:=by
   cases zs with
   |nil=>rfl
   |cons b zs=>obtain⟨_,_,hh,_⟩:=hrow oc;cases hh
  subst this;exact B1 (x:=.str (LG [])) (by simp only[Sem.run_bind,run_convert_runes_nil S.w src dst e _ _ hs he hd,Result.andThen_ok,Sem.run_pure];rfl) hS rfl hK
 |some ad =>
  have run:=run_convert_runes (P:=P) S.w src dst e ad zs.length cap zs (Ab _) hs he hd (λj hj=>by
   obtain⟨b,o,hh,hr⟩:=hrow (by intro h0;have:=Hf.1 h0;subst this;simp at hj);cases hh;have:=(hr j (.int .i32 zs[j]) (by simp[hj])).2.2 0 om;rw[addr_add]
   simpa [Value.cells,List.getD,hj] using this)
  rw[As] at run;refine B1 (x:=.str (LG zs)) (v:=.string (runesBytes zs)) ?_ hS (by show Value.string (runesBytes zs)=Value.string ⟨(LG zs).toArray⟩;simp[LG]) hK;simp only[Au,Sem.run_bind,run,Result.andThen_ok,Sem.run_pure]
theorem EI(T:TypeId)(cells:Array Value)(w:World):(newRow T cells).run P w=.ok ⟨w.heap.size,0,none⟩ (w.alloc (.cells cells T)):=by
 rfl
theorem z3j{w:Nat}{vs:List Value}(h:∀v∈vs,v.cells.size=w/\∀c∈v.cells,c.oneCell'=true)(rest:Array Value):Hg ((flat vs).toArray++rest) w vs:=by
 intro i v hv;obtain⟨h1,h2⟩:=h v (CX hv);refine⟨h1,h2,λj hj=>?_⟩;obtain⟨f1,f2⟩:=flat_get (w:=w) (vs:=vs) (λu hu=>(h u hu).1);have hi:i<vs.length:=(Bh.1 hv).1;have:(i+1) * w<=vs.length * w:=Bf _ hi;rw[AS,FG] at this;rw[B2 (by simp;omega),<-f2 i v hv j hj];simp
theorem one_cell{x:AV}{v:Value}(h:VRel S x v)(h1:x.one=true):v.oneCell'=true:=by
 cases x<;>simp only[AV.one,A8] at h1
 ·rw[show v=_ from h];rfl
 ·rw[show v=_ from h];rfl
 ·rw[show v=_ from h];rfl
 ·rw[show v=_ from h];rfl
 ·obtain⟨a,rfl⟩:=h;rfl
 ·obtain⟨a,cap,rfl⟩:=h;rfl
 ·obtain⟨_,_,_,_,_,rfl,_⟩:=h;rfl
 ·obtain⟨_,_,_,_,rfl,_⟩:=h;rfl
 ·obtain⟨⟨_,rfl⟩,_⟩:=h;rfl
 ·obtain⟨⟨_,_,rfl,_⟩,_⟩:=h;rfl
 ·obtain⟨_,_,_,_,rfl,_⟩:=h;rfl
 ·obtain⟨⟨_,rfl⟩,_⟩:=h;rfl
 ·rw[show v=_ from h];rfl
 ·obtain⟨_,rfl,_⟩:=h;rfl
 ·rw[show v=_ from h];rfl
 ·rw[show v=_ from h];rfl
theorem Pr:∀{xs:List AV}{vs:List Value},AB S xs vs->GB xs=true->∀c∈vs,c.oneCell'=true
 |[],vs,h,_=>by rw[show vs=[] from h];simp
 |x::xs,vs,h,h1=>by
  obtain⟨v,r,rfl,hv,hr⟩:=h;simp only[GB,Ac] at h1;intro c hc;rcases Af.1 hc with rfl|hc
  ·exact one_cell hv h1.1
  ·exact Pr hr h1.2 c hc
theorem Nm{x:AV}(h:GB x.cells=true):x.isAny=false:=by
 cases x<;>simp_all [AV.cells,GB,AV.one,AV.isAny]
theorem I0{x:AV}{v:Value}(h:VRel S x v)(h1:GB x.cells=true):v.cells.size=x.cells.length/\∀c∈v.cells,c.oneCell'=true:=by
 have hc:=h.cells (Nm h1);refine⟨by have:=hc.length;simpa using this,λc hc'=>Pr hc h1 c (by simpa using hc')⟩
theorem UU{v:Value}{x:AV}(h:zdu v=some x):VRel S x v:=by
 unfold zdu at h;split at h<;>simp only[Aq,reduceCtorEq] at h<;>subst h<;>first|rfl|trivial
theorem UV:∀{vs:List Value}{xs:List AV},zdv vs=some xs->AB S xs vs
 |[],xs,h=>by cases h;rfl
 |v::vs,xs,h=>by
  simp only[zdv] at h;split at h
  ·rename_i x ys h1 h2
   cases h;exact⟨v,vs,rfl,UU h1,UV h2⟩
  ·cases h
theorem HB{v:Value}{x:AV}(h:avOf v=some x):VRel S x v:=by
 unfold avOf at h;split at h
 ·rename_i cs
  rw[Ag] at h;obtain⟨ys,h1,rfl⟩:=h;exact⟨cs.toList,rfl,UV h1⟩
 ·exact UU h
theorem FH{r:Result Next}{v:Value}{x:AV}{S':MS}{H':A4}(hr:r=.ok (.value v) S'.w)(e:Evo S S')(hS:SRel S' H')(hv:VRel S' x v)(hK:K x H'):OpOk P S r K :=
 .inl ⟨v,S',x,H',.inl hr,e,hS,hv,hK⟩
theorem Z3(hS:SRel S H)(o:Obj)(ver cap wid:Nat):VRel (S.grow o ver cap wid) (.ptr H.n ver 0 0) (.pointer (some ⟨S.w.heap.size,0,none⟩)):=by
 refine⟨⟨_,rfl⟩,?_,?_,λ_=>?_⟩
 ·show H.n<S.n+1;rw[hS.n];omega
 ·show ver<=fput _ _ _ _;rw[<-hS.n,AM];exact Ab _
 ·show _=Value.pointer (some ⟨fput _ _ _ _,_,_⟩);rw[<-hS.n,AM];simp
theorem Tu(hS:SRel S H)(o:Obj)(ver cap wid len:Nat)(hl:len<=cap):VRel (S.grow o ver cap wid) (.ref H.n ver 0 len) (.slice (some ⟨S.w.heap.size,0,none⟩) len cap):=by
 refine⟨⟨_,_,rfl,λh=>by cases h⟩,?_,?_,λ_=>⟨_,_,rfl,.inl ⟨?_,?_,?_⟩⟩⟩
 ·show H.n<S.n+1;rw[hS.n];omega
 ·show ver<=fput _ _ _ _;rw[<-hS.n,AM];exact Ab _
 ·show _=some (Addr.mk (fput _ _ _ _) _ _);rw[<-hS.n,AM];simp
 ·show _=fput _ _ _ _-_;rw[<-hS.n,AM];simp
 ·show _<=fput _ _ _ _;rw[<-hS.n,AM];omega
theorem zli(hS:SRel S H)(t:TypeId){i:TypeInfo}{z:Value}{x:AV}(hi:P.info? t=some i)(hz:i.zero=some z)(hx:avOf z=some x)(h0:0<z.cells.size)(h1:∀c∈z.cells,c.oneCell'=true)(h:AI P (.alloc x z.cells.size) H [] K):
 OpOk P S ((do pure (Next.value (<-Instr.alloc t true (.tuple #[]))):Sem Next).run P S.w) K:=by
 simp only[AI] at h
 have g:=hS.grow z.cells t ⟨z.cells.size,1,true,[x]⟩ 1 oc (vs:=[z]) (.one (HB hx)) (λk v hv=>by
  cases k with
  |zero=>simp only[List.getElem?_cons_zero,Aq] at hv;subst hv;exact⟨rfl,h1,λj hj=>by simp⟩
  |succ k=>simp at hv) oc oc h0
 refine FH (S':=S.grow (.cells z.cells t) 1 1 z.cells.size) ?_ (Evo.grow hS.im _ _ _ _) g (Z3 hS _ _ _ _) h;simp[Instr.alloc,zeroValue,typeInfo,hi,hz,newVar,EI];rfl
theorem s_box(hS:SRel S H)(t:TypeId){v:Value}{xs:List AV}(hx:AB S xs [v])(h:AI P .box H xs K):
 OpOk P S ((do pure (Next.value (<-Instr.box t v)):Sem Next).run P S.w) K:=by
 obtain⟨x,rfl,hv⟩:=hx.len1;simp only[AI] at h;obtain⟨h1,h2,hK⟩:=h;obtain⟨k1,k2⟩:=I0 hv h1
 have g:=hS.grow v.cells t ⟨x.cells.length,1,true,[x]⟩ 1 (by simpa using k1) (vs:=[v]) (.one hv) (λk u hu=>by
  cases k with
  |zero=>simp only[List.getElem?_cons_zero,Aq] at hu;subst hu;exact⟨k1,k2,λj hj=>by simp⟩
  |succ k=>simp at hu) oc oc h2
 refine FH (S':=S.grow (.cells v.cells t) 1 1 x.cells.length) ?_ (Evo.grow hS.im _ _ _ _) g (Z3 hS _ _ _ _) hK;simp[Instr.box,newVar,EI];rfl
end
section
variable {P:Program}{S:MS}{H:A4}{ρ:Operand->Value}{K:AV->A4->Prop}
def seg{α:Type}(l:List α)(a:Nat)(m:List α):List α:=l.take a++m++l.drop (a+m.length)
theorem seg_length{α:Type}{l:List α}{a:Nat}{m:List α}(h:a+m.length<=l.length):(seg l a m).length=l.length:=by simp[seg];omega
theorem Tv{α:Type}{l:List α}{a:Nat}{m:List α}(h:a+m.length<=l.length)(k:Nat):(seg l a m)[k]? = if k<a then l[k]? else if k<a+m.length then m[k-a]? else l[k]? := by
 unfold seg;have ht:(l.take a).length=a:=by simp;omega
 split
 ·rename_i h1
  rw[A3,A9 om,Cq,Ae h1]
 ·rename_i h1
  split
  ·rename_i h2
   rw[A9 (by simp;omega),AG om,ht]
  ·rename_i h2
   rw[AG (by simp;omega),Cf];congr 1;simp;omega
theorem Hg.seg{cells:Array Value}{wd:Nat}{vs:List Value}(h:Hg cells wd vs){i o:Nat}{u u':Value}(hu:vs[i]? = some u){l:List Value}(hle:o+l.length<=wd)(hsz:(i+1) * wd<=cells.size)
 (h1:u'.cells.size=wd) (h2:∀c∈u'.cells,c.oneCell'=true) (h3:∀j,j<wd->u'.cells[j]? = if o<=j/\j<o+l.length then l[j-o]? else u.cells[j]?) :
 Hg (seg cells.toList (i * wd+o) l).toArray wd (vs.set i u'):=by
 have hsz':i * wd+wd<=cells.size:=by rw[AS] at hsz;omega
 intro k v hv;by_cases hki:i=k
 ·subst hki
  have hi:i<vs.length:=(Bh.1 hu).1;rw[Fj hi] at hv;cases hv;refine⟨h1,h2,λj hj=>?_⟩;rw[h3 j hj,Ey,Tv (by simp;omega)];obtain⟨_,_,f3⟩:=h i u hu;have:=f3 j hj;by_cases hc:o<=j/\j<o+l.length
  ·rw[Ad om,Ae om,Ae hc]
   congr 1;omega
  ·rw[Ad hc]
   split
   ·simpa using this
   ·rw[Ad om]
    simpa using this
 ·rw[CW hki] at hv
  obtain⟨f1,f2,f3⟩:=h k v hv;refine⟨f1,f2,λj hj=>?_⟩;rw[<-f3 j hj,Ey,Tv (by simp;omega)];rcases Aj k i with hlt|hge
  ·have:(k+1) * wd<=i * wd:=Bf _ hlt
   rw[AS] at this;rw[Ae om];simp
  ·have:(i+1) * wd<=k * wd:=Bf _ om
   rw[AS] at this;rw[Ad om,Ad om];simp
theorem Z4(off:Nat):∀(l:List Value)(k:Nat)(cs:Array Value),off+k+l.length<=cs.size->((l.zipIdx k).foldl (λcs p=>cs.setIfInBounds (off+p.2) p.1) cs).toList=seg cs.toList (off+k) l
 |[],k,cs,_=>by simp[seg]
 |c::l,k,cs,h=>by
  simp only[List.zipIdx_cons,List.foldl_cons];have hk:off+k<cs.size:=by simp at h;omega
  rw[Z4 off l (k+1) _ (by simp at h ⊢;omega)];have e:=list_seg_step cs.toList (off+k) c l (by simp at h ⊢;omega);simpa [seg,Bu] using e
theorem UW(off:Nat)(v:Value)(cs:Array Value)(h:off+v.cells.size<=cs.size):(v.cells.zipIdx.foldl (λcs (c,j)=>cs.setIfInBounds (off+j) c) cs)=(seg cs.toList off v.cells.toList).toArray:=by
 apply F3;rw[<-Array.foldl_toList,Array.toList_zipIdx];have:=Z4 off v.cells.toList 0 cs (by simpa using h);simpa using this
theorem Tw{places:List (Nat × Nat)}{place:Nat->Option (Nat × Nat)}(hp:∀i q,places[i]? = some q->place i=some q):∀{idx:List Nat}{xs:List AV}{cs cs':List AV}{vs:List Value}{cells:Array Value},
 To places idx xs cs=some cs'->AB S xs vs->AB S cs cells.toList->∃cells',Instr.fill place cells (idx.zip vs)=some cells'/\AB S cs' cells'.toList
 |[],[],cs,cs',vs,cells,h,hx,hc=>by
  rw[show vs=[] from hx];simp only[To,Aq] at h;subst h;exact⟨cells,rfl,hc⟩
 |i::is,x::xs,cs,cs',vs,cells,h,hx,hc=>by
  obtain⟨v,r,rfl,hv,hr⟩:=hx;simp only[To] at h;split at h
  ·rename_i off s hpl
   split at h
   ·rename_i hcond
    obtain⟨h1,h2,h3⟩:=hcond;obtain⟨k1,k2⟩:=I0 hv h2;have hsz:cells.size=cs.length:=by have:=hc.length;simpa using this
    have hstep:=UW off v cells om;have hvc:=hv.cells (Nm h2)
    have hnew:AB S (cs.take off++x.cells++cs.drop (off+s)) (seg cells.toList off v.cells.toList).toArray.toList:=by
     have e:v.cells.toList.length=s:=by simp;omega
     simp only[seg,e];exact ((hc.take off).append hvc).append (hc.drop (off+s))
    obtain⟨cells',hf,hr'⟩:=Tw hp h hr hnew;refine⟨cells',?_,hr'⟩;simp only[List.zip_cons_cons,Instr.fill,hp i _ hpl];rw[Ad (by simp;omega),hstep];exact hf
   ·cases h
  ·cases h
 |[],_::_,_,_,_,_,h,_,_=>by simp[To] at h
 |_::_,[],_,_,_,_,h,_,_=>by simp[To] at h
theorem run_places{w:World}:∀{l:List Field}{places:List (Nat × Nat)},placesOf P l=some places->(l.mapM λf=>(do pure (f.offset,<-sizeOf f.type):Sem (Nat × Nat))).run P w=.ok places w
 |[],places,h=>by cases h;rfl
 |f::l,places,h=>by
  simp only[placesOf] at h;split at h
  ·rename_i j r hj hr
   cases h;rw[Cb];simp only[Sem.run_bind,CH hj,Result.andThen_ok,Sem.run_pure,run_places hr]
  ·cases h
theorem Tx(ρ:Operand->Value):∀(ps:List (Nat × Operand)),(ps.map (·.1)).zip (ps.map λp=>ρ p.2)=ps.map λ(i,x)=>(i,ρ x)
 |[]=>rfl
 |p::ps=>by simp[Tx ρ ps]
theorem Z5{z:Value}{x:AV}(hag:∃cs,z=.agg cs)(hx:avOf z=some x):AB S x.cells z.cells.toList:=by
 obtain⟨c,rfl⟩:=hag;have:=HB (S:=S) hx;unfold avOf at hx;simp only[Ag] at hx;obtain⟨ys,_,rfl⟩:=hx;exact this.cells rfl
theorem zlj(hS:SRel S H)(t:TypeId){fs:Array Field}{i:TypeInfo}{z:Value}{x:AV}{places:List (Nat × Nat)}(ht:P.underlying t=some (.struct fs))(hi:P.info? t=some i)(hz:i.zero=some z)(hx:avOf z=some x)
 (hp:placesOf P fs.toList=some places) (hag:∃cs,z=.agg cs)
 (ps:List (Nat × Operand)) {xs:List AV} (hxs:AB S xs (ps.map λp=>ρ p.2)) (h:AI P (.build x.cells places (ps.map (·.1))) H xs K) :
 OpOk P S ((do pure (Next.value (<-Instr.build t (ps.toArray.map λ(i,x)=>(i,ρ x)))):Sem Next).run P S.w) K:=by
 simp only[AI] at h
 ·obtain⟨cs,hcs,h⟩:=C1 h
  have hxz:=Z5 (S:=S) hag hx
  have hpl:(fs.mapM λf=>(do pure (f.offset,<-sizeOf f.type):Sem (Nat × Nat))).run P S.w=.ok places.toArray S.w:=by
   rw[EF];simp only[Sem.run_map,run_places hp,Result.andThen_ok]
  obtain⟨cells',hf,hr⟩:=Tw (S:=S) (place:=(places.toArray[·]?)) (λi q hq=>by simpa using hq) hcs hxs hxz
  rw[Tx] at hf;refine B1 (v:=.agg cells') (x:=.agg cs) ?_ hS ⟨cells'.toList,rfl,hr⟩ h;have e:(ps.toArray.map λ(i,x)=>(i,ρ x)).toList=ps.map λ(i,x)=>(i,ρ x):=oc
  have hz':(zeroValue t).run P S.w=.ok z S.w:=by simp[zeroValue,typeInfo,hi,hz]
  simp only[Instr.build,Sem.run_bind,hz',Result.andThen_ok,run_underlying ht,hpl,e,hf,Sem.run_pure]
theorem ze2(hS:SRel S H)(t:TypeId){n:Nat}{e:TypeId}{i j:TypeInfo}{z:Value}{x:AV}(ht:P.underlying t=some (.array n e))(hi:P.info? t=some i)(hz:i.zero=some z)(hx:avOf z=some x)
 (hj:P.info? e=some j) (hag:∃cs,z=.agg cs)
 (ps:List (Nat × Operand)) {xs:List AV} (hxs:AB S xs (ps.map λp=>ρ p.2)) (h:AI P (.build x.cells ((List.range n).map λq=>(q * j.size,j.size)) (ps.map (·.1))) H xs K) :
 OpOk P S ((do pure (Next.value (<-Instr.build t (ps.toArray.map λ(i,x)=>(i,ρ x)))):Sem Next).run P S.w) K:=by
 simp only[AI] at h
 ·obtain⟨cs,hcs,h⟩:=C1 h
  have hxz:=Z5 (S:=S) hag hx
  obtain⟨cells',hf,hr⟩:=Tw (S:=S) (place:=λi=>some (i * j.size,j.size)) (λi q hq=>by
   rw[Df] at hq
   have hin:i<n:=by
    rcases Aj i n with h|h
    ·exact h
    ·rw[BE (by simpa using h)] at hq;cases hq
   rw[List.getElem?_range hin] at hq
   simpa using hq) hcs hxs hxz
  rw[Tx] at hf;refine B1 (v:=.agg cells') (x:=.agg cs) ?_ hS ⟨cells'.toList,rfl,hr⟩ h;have e':(ps.toArray.map λ(i,x)=>(i,ρ x)).toList=ps.map λ(i,x)=>(i,ρ x):=oc
  have hz':(zeroValue t).run P S.w=.ok z S.w:=by simp[zeroValue,typeInfo,hi,hz]
  simp only[Instr.build,Sem.run_bind,hz',Result.andThen_ok,run_underlying ht,CH hj,e',hf,Sem.run_pure]
theorem KR{z:Value}{n s:Nat}(h1:z.cells.size=s)(h2:∀c∈z.cells,c.oneCell'=true):Hg ((Array.range (n * s)).map λi=>z.cells[i % z.cells.size]!) s (List.replicate n z):=by
 intro i v hv;rw[List.getElem?_replicate] at hv;split at hv
 ·rename_i hi
  cases hv;refine⟨h1,h2,λj hj=>?_⟩;have:(i+1) * s<=n * s:=Bf _ hi;rw[AS,FG] at this;have hlt:i * s+j<n * s:=om
  rw[Array.getElem?_map,Array.getElem?_range,Ae hlt];have e:(i * s+j) % s=j:=by rw[D9,Nat.mul_add_mod];exact FC hj
  simp only[Option.map_some,h1,e];have hjz:j<z.cells.size:=om
  simp[hjz]
 ·cases hv
theorem R8{w:Nat}(hw:0<w):∀{idx:List Nat}{xs:List AV}{len:Nat}{es:List AV}{vs us:List Value}{cells:Array Value},Ji w len idx xs->AB S xs us->AB S es vs->vs.length=len->cells.size=len * w->Hg cells w vs ->
 ∃cells' vs',Instr.fill (λi=>some (i * w,w)) cells (idx.zip us)=some cells'/\cells'.size=len * w/\AB S (Gk idx xs es) vs'/\vs'.length=len/\Hg cells' w vs'
 |[],[],len,es,vs,us,cells,_,hx,hes,hl,hc,hf=>by
  rw[show us=[] from hx];exact⟨cells,vs,rfl,hc,hes,hl,hf⟩
 |i::is,x::xs,len,es,vs,us,cells,h,hx,hes,hl,hc,hf=>by
  obtain⟨u,r,rfl,hu,hr⟩:=hx;obtain⟨h1,h2,h3,h4⟩:=h;obtain⟨k1,k2⟩:=I0 hu h3;have hsz:u.cells.size=w:=om
  have hle:(i+1) * w<=len * w:=Bf _ h1;have hle':=hle;rw[AS,FG] at hle';have hstep:=UW (i * w) u cells om;have hi:i<vs.length:=om
  have hfs:=hf.seg (i:=i) (o:=0) (u':=u) (Ar hi) (l:=u.cells.toList) (by simp;omega) om hsz k2 (λj hj=>by
   rw[Ae (by simp;omega)];simp)
  obtain⟨cells',vs',g1,g2,g3,g4,g5⟩:=R8 hw h4 hr (hes.set (i:=i) hu) (by simp[hl]) (cells:=(seg cells.toList (i * w) u.cells.toList).toArray) (by
   rw[BN,seg_length (by simp;omega)];simpa using hc) (by simpa using hfs)
  refine⟨cells',vs',?_,g2,g3,g4,g5⟩;simp only[List.zip_cons_cons,Instr.fill];rw[Ad (by simp;omega),hstep];exact g1
 |[],_::_,_,_,_,_,_,h,_,_,_,_,_=>h.elim
 |_::_,[],_,_,_,_,_,h,_,_,_,_,_=>h.elim
theorem Ia:∀(idx:List Nat)(xs es:List AV),(Gk idx xs es).length=es.length
 |[],[],es=>rfl
 |[],_::_,es=>rfl
 |_::_,[],es=>rfl
 |i::is,x::xs,es=>by simp[Gk,Ia is xs]
theorem AB.replicate{x:AV}{v:Value}(h:VRel S x v):∀n,AB S (List.replicate n x) (List.replicate n v)
 |0=>rfl
 |n+1=>⟨v,List.replicate n v,rfl,h,AB.replicate h n⟩
theorem OP(f:Nat->Value):(Array.range 0).map f=#[]:=oc
theorem R9{t:TypeId}{e:TypeId}{i:TypeInfo}{z:Value}{x:AV}(len:Nat)(ht:P.underlying t=some (.slice e))(hi:P.info? e=some i)(hz:i.zero=some z)(hx:avOf z=some x)(h0:0<i.size)(hzs:z.cells.size=i.size)
 (hz1:∀c∈z.cells,c.oneCell'=true) (hmax:len * i.size<=2 ^ 24)
 (ps:List (Nat × Operand)) {xs:List AV} (hxs:AB S xs (ps.map λp=>ρ p.2)) (hfit:Ji i.size len (ps.map (·.1)) xs) :
 ∃cells vs,(do pure (Next.value (<-Instr.buildSlice t len (ps.toArray.map λ(i,x)=>(i,ρ x)))):Sem Next).run P S.w=.ok (.value (.slice (some ⟨S.w.heap.size,0,none⟩) len len)) (S.w.alloc (.cells cells e)) /\
  cells.size=len * i.size/\AB S (Gk (ps.map (·.1)) xs (List.replicate len x)) vs/\vs.length=len/\Hg cells i.size vs:=by
 obtain⟨cells',vs',g1,g2,g3,g4,g5⟩:=R8 (S:=S) h0 hfit hxs (AB.replicate (HB hx) len) oc (cells:=(Array.range (len * i.size)).map λk=>z.cells[k % z.cells.size]!) oc (KR hzs hz1);rw[Tx] at g1;refine⟨cells',vs',?_,g2,g3,g4,g5⟩;have e':(ps.toArray.map λ(i,x)=>(i,ρ x)).toList=ps.map λ(i,x)=>(i,ρ x):=oc
 have hm:¬(len * i.size>2 ^ 24):=om
 have hz':∀w',(zeroValue e).run P w'=.ok z w':=λw'=>by simp[zeroValue,typeInfo,hi,hz]
 by_cases hl0:len * i.size=0
 ·rw[hl0] at g1
  simp only[Instr.buildSlice,Sem.run_bind,run_underlying ht,Result.andThen_ok,CH hi,hl0,Br,e',Sem.run_pure,OP] at g1 ⊢;rw[Ad om];simp only[Sem.run_bind,Sem.run_pure,Result.andThen_ok,OP,g1,EI]
 ·simp only[Instr.buildSlice,Sem.run_bind,run_underlying ht,Result.andThen_ok,CH hi,hm,hl0,Bq,hz',e',g1,EI,Sem.run_pure]
theorem ze3(hS:SRel S H)(t:TypeId){e:TypeId}{i:TypeInfo}{z:Value}{x:AV}(len:Nat)(ht:P.underlying t=some (.slice e))(hi:P.info? e=some i)(hz:i.zero=some z)(hx:avOf z=some x)(h0:0<i.size)(hzs:z.cells.size=i.size)
 (hz1:∀c∈z.cells,c.oneCell'=true) (hmax:len * i.size<=2 ^ 24)
 (ps:List (Nat × Operand)) {xs:List AV} (hxs:AB S xs (ps.map λp=>ρ p.2)) (h:AI P (.bslice i.size len x (ps.map (·.1))) H xs K) :
 OpOk P S ((do pure (Next.value (<-Instr.buildSlice t len (ps.toArray.map λ(i,x)=>(i,ρ x)))):Sem Next).run P S.w) K:=by
 simp only[AI] at h;obtain⟨hfit,hK⟩:=h;obtain⟨cells',vs',run,g2,g3,g4,g5⟩:=R9 (P:=P) (S:=S) len ht hi hz hx h0 hzs hz1 hmax ps hxs hfit;have g:=hS.grow cells' e ⟨i.size,1,true,Gk (ps.map (·.1)) xs (List.replicate len x)⟩ len g2 g3 g5 (by simp[Ia]) (by simp[Ia]) h0
 exact FH (S':=S.grow (.cells cells' e) 1 len i.size) (v:=.slice (some ⟨S.w.heap.size,0,none⟩) len len) run (Evo.grow hS.im _ _ _ _) g (Tu hS _ _ _ _ _ (Ab _)) hK
theorem z7c(hS:SRel S H)(t:TypeId){e:TypeId}{i:TypeInfo}{z:Value}{x:AV}(ht:P.underlying t=some (.slice e))(hi:P.info? e=some i)(hz:i.zero=some z)(hx:avOf z=some x)(h0:0<i.size)(hby:0<i.bytes)(hzs:z.cells.size=i.size)
 (hz1:∀c∈z.cells,c.oneCell'=true) {u v:Value} {xs:List AV} (hxs:AB S xs [u,v]) (h:AI P (.mkSlice i.size i.bytes x) H xs K) :
 OpOk P S ((do pure (Next.value (<-Instr.makeSlice t u v)):Sem Next).run P S.w) K:=by
 obtain⟨a,b,rfl,ha,hb⟩:=hxs.len2;cases a<;>cases b<;>simp only[AI] at h<;>try exact h.elim
 rename_i k l k' c;obtain⟨h1,h2,h3,hK⟩:=h;obtain rfl:u=.int k l:=ha;obtain rfl:v=.int k' c:=hb
 have hc:c<=140737488355328:=by
  have:c * 1<=c * i.bytes:=CQ om om;omega
 have wl:IntKind.i64.wrap l=l:=IntWalk.i64_in _ om;have wc:IntKind.i64.wrap c=c:=IntWalk.i64_in _ om
 have hl':(i.bytes:Int) * l<=140737488355328:=by
  have:l * i.bytes<=c * i.bytes:=CN h2 om;rw[EG];omega
 have hc':(i.bytes:Int) * c<=140737488355328:=by rw[EG];exact h3
 have hask:∀w',(askRoom (c.toNat * i.bytes)).run P w'=.ok () w':=by
  intro w'
  have:¬(c.toNat * i.bytes>roomBytes):=by
   have e:((c.toNat * i.bytes:Nat):Int)=c * i.bytes:=by rw[Int.natCast_mul,BS om]
   simp only[roomBytes];omega
  simp[askRoom,this]
 have g:=hS.grow ((Array.range (c.toNat * i.size)).map λk=>z.cells[k % z.cells.size]!) e ⟨i.size,1,true,List.replicate c.toNat x⟩ c.toNat oc (AB.replicate (HB hx) _) (KR hzs hz1) oc oc h0;refine FH (v:=.slice (some ⟨S.w.heap.size,0,none⟩) l.toNat c.toNat) (S':=S.grow (.cells _ e) 1 c.toNat i.size) ?_ (Evo.grow hS.im _ _ _ _) g (Tu hS _ _ _ _ _ om) hK;have t1:typeInfo e=typeInfo e:=rfl;have hti:∀w',(typeInfo e).run P w'=.ok i w':=by intro w';simp[typeInfo,hi]
 simp only[Instr.makeSlice,Sem.run_bind,run_underlying ht,Result.andThen_ok,asInt,asIntOf,Sem.run_pure,hti,wl,wc];have c1:¬(c<0):=om
 have c2:¬((i.bytes:Int) * c>2 ^ 48):=om
 have c3:¬(l<0):=om
 have c4:¬(l>c):=om
 have hz':∀w',(zeroValue e).run P w'=.ok z w':=λw'=>by simp[zeroValue,typeInfo,hi,hz]
 simp only[c1,c2,c3,c4,C7,Hu,A8,Bq,Sem.run_bind,hask,Result.andThen_ok,CH hi];by_cases hl0:c.toNat * i.size=0
 ·simp only[hl0,Br,Sem.run_bind,Sem.run_pure,Result.andThen_ok,OP,EI]
  rfl
 ·simp only[hl0,Bq,Sem.run_bind,hz',Result.andThen_ok,Sem.run_pure,EI]
  rfl
end
section
variable {P:Program}{S:MS}{H:A4}{ρ:Operand->Value}{K:AV->A4->Prop}
theorem Ps(a:Array Value):(Value.agg a).cells=a:=rfl
theorem Jj(g:Nat)(cs:Array Value)(w:World):(w.setRow g cs).os=w.os/\LB (w.setRow g cs) w/\(w.setRow g cs).output=w.output/\w.heap.size<=(w.setRow g cs).heap.size/\∀b {c:Nat},0<c->¬(0<c/\b=g)->b<w.heap.size->(w.setRow g cs).heap[b]? = w.heap[b]? :=
 ⟨rfl,⟨rfl,Ab _⟩,rfl,oc,λb _ hc hb _=>setRow_other w g b cs (λh=>hb ⟨hc,h⟩)⟩
theorem zlk(hS:SRel S H)(t:TypeId){a:Bool}{s:Nat}(ht:FR P t=some (a,s)){ad v:Value}{xs:List AV}(hx:AB S xs [ad,v])(h:AI P (.store s) H xs K):
 OpOk P S ((do Instr.storeAt t ad v;pure Next.skip:Sem Next).run P S.w) K:=by
 obtain⟨y,x,rfl,hy,hxv⟩:=hx.len2;obtain⟨i0,_,hi0,_,_,hsz,_,_⟩:=FN ht;cases y<;>simp only[AI] at h<;>try exact h.elim
 rename_i g vn i o;obtain⟨h1,h2,h3,h4,h5,h6,h7,hK⟩:=h;obtain⟨_,hg,hc,hp⟩:=hy;have hG:=hS.live_of hg;obtain rfl:ad=_:=hp (by rw[hG.ver,h1]);have hl1:=hG.len om;have hl2:=hG.full om;have hcp:0<S.cap g:=om
 obtain⟨⟨cells,T,vs,hb,hcs,hvs,hf⟩,hl3⟩:=hG.live om hcp;obtain⟨u,hu,hru⟩:=hvs.get (Ar h2);obtain⟨k1,k2⟩:=I0 hxv h6;obtain⟨f1,f2,f3⟩:=hf i u hu;have hgn:g<H.n:=by rw[<-hS.n];exact hg
 have hlv:(v.cells.toList).length=s:=by simp;omega
 have hcap:(i+1) * (H.at_ g).w<=cells.size:=by rw[hcs];exact Bf _ om
 have hcap':=hcap;rw[AS,FG] at hcap';have exi:(H.at_ g).xs.getD i .any=(H.at_ g).xs[i]:=by rw[List.getD,Ar h2];rfl
 rw[exi] at h7 hK
 -- the element behind the store
 have hnew:∃u',VRel S (LC (H.at_ g).w o s (H.at_ g).xs[i] x) u'/\u'.cells.size=(H.at_ g).w/\(∀c∈u'.cells,c.oneCell'=true) /\
  ∀j,j<(H.at_ g).w->u'.cells[j]? = if o<=j/\j<o+v.cells.toList.length then v.cells.toList[j-o]? else u.cells[j]? := by
  by_cases hsw:s=(H.at_ g).w
  ·refine⟨v,by simp only[LC,hsw,Br];exact hxv,om,k2,λj hj=>?_⟩
   have ho:o=0:=om
   subst ho;rw[Ae om];simp
  ·obtain⟨e1,e2⟩:=h7.resolve_left hsw
   have hec:=hru.cells e1;refine⟨.agg (seg u.cells.toList o v.cells.toList).toArray,?_,?_,?_,λj hj=>?_⟩
   ·simp only[LC,hsw,Bq]
    refine⟨_,rfl,?_⟩;have:=((hec.take o).append (hxv.cells (Nm h6))).append (hec.drop (o+s));simpa [seg,hlv] using this
   ·simp only[Ps,BN]
    rw[seg_length (by simp;omega)];simpa using f1
   ·intro c hc'
    simp only[Ps,seg,List.mem_toArray,Av] at hc';rcases hc' with (hc'|hc')|hc'
    ·exact f2 c (by simpa using Be hc')
    ·exact k2 c (by simpa using hc')
    ·exact f2 c (by simpa using Bc hc')
   ·simp only[Ps,Ey]
    rw[Tv (by simp;omega)];by_cases hc':o<=j/\j<o+v.cells.toList.length
    ·rw[Ad om,Ae om,Ae hc']
    ·rw[Ad hc']
     split
     ·simp
     ·rw[Ad om];simp
 obtain⟨u',n1,n2,n3,n4⟩:=hnew;have hfs:=hf.seg hu (o:=o) (l:=v.cells.toList) om hcap n2 n3 n4;have hst:=run_storeCells_at P (S.place g) (i * (H.at_ g).w+o) T v.cells.toList 0 cells S.w hb (by simp;omega) (λc hc'=>k2 c (by simpa using hc'));obtain⟨q1,q2,q3,q4,q5⟩:=Jj (S.place g) (seg cells.toList (i * (H.at_ g).w+o) v.cells.toList).toArray S.w
 obtain⟨e,hS'⟩:=hS.moved hgn om (S.w.setRow (S.place g) (seg cells.toList (i * (H.at_ g).w+o) v.cells.toList).toArray) (S.place g) (S.cap g)
  ⟨(H.at_ g).w,vn,(H.at_ g).exact,(H.at_ g).xs.set i (LC (H.at_ g).w o s (H.at_ g).xs[i] x)⟩ q1 q2 q3 q4 (λb=>q5 b hcp) (.inl ⟨hcp,rfl⟩) (λ_=>⟨_,T,_,setRow_heap S.w _ cells _ T _ hb,
  by rw[BN,seg_length (by simp;omega)];simpa using hcs,hvs.set n1,hfs⟩) (by simpa using hl1) (by simpa using hl2) (by show 0<(H.at_ g).w;omega) (by rw[hG.ver,h1];exact Ab _) (λ_=>⟨rfl,rfl,hG.wid.symm⟩)
 refine .inl ⟨undef,S.moved _ g (S.place g) vn (S.cap g) (H.at_ g).w,.any,_,.inr ⟨?_,rfl⟩,e,hS',oy,hK⟩;have hz:¬(v.cells.size≠i0.size):=om
 simp only[Nat.add_zero] at hst;simp only[Instr.storeAt,Instr.sureAddr,storeVar,Sem.run_bind,Sem.run_pure,Result.andThen_ok,CH hi0,hz,Bq,hG.wid,hst];rfl
theorem Ib{t u ty e:TypeId}{i:TypeInfo}(ht:P.underlying t=some (.slice e))(hu:(∃e',P.underlying u=some (.slice e'))\/P.underlying u=some .string)(hi:P.info? e=some i){w:World}
 (base:Option Addr) (sLen sCap:Nat) (x:Value) (m:Nat) (news:List Value) (hm:(Builtin.lenOf x).run P w=.ok m w) (hf:(Builtin.firstCells i.size m x).run P w=.ok news.toArray w) (hroom:sLen+m<=sCap)
 (w':World) (hst:match base with|some a=>(storeCells (a.add (sLen * i.size)) news).run P w=.ok () w'|none=>w'=w) :
 (Builtin.append_ #[t,u] ty #[.slice base sLen sCap,x]).run P w=.ok (.slice base (sLen+m) sCap) w':=by
 have hz:∀w',(underlying u).run P w'=.ok (match P.underlying u with|some d=>d|none=>.bool) w':=by
  intro w';rcases hu with⟨e',hu⟩|hu<;>simp[run_underlying hu,hu]
 have hk:∀d,P.underlying u=some d->(match d with|TypeDesc.int _=>true|_=>false)=false:=by
  intro d hd;rcases hu with⟨e',hu⟩|hu<;>rw[hu] at hd<;>cases hd<;>rfl
 rcases hu with⟨e',hu⟩|hu<;>cases base <;>
  simp[Builtin.append_,run_underlying ht,run_underlying hu,CH hi,hm,hroom,hf]<;>simp_all
theorem ze4{t u ty e:TypeId}{i:TypeInfo}{z:Value}(ht:P.underlying t=some (.slice e))(hu:(∃e',P.underlying u=some (.slice e'))\/P.underlying u=some .string)(hi:P.info? e=some i)(hz:i.zero=some z){w:World}
 (base:Option Addr) (sLen sCap:Nat) (olds:List Value) (hfo:(Builtin.firstCells i.size sLen (.slice base sLen sCap)).run P w.drew=.ok olds.toArray w.drew)
 (x:Value) (m:Nat) (news:List Value) (hm:(Builtin.lenOf x).run P w=.ok m w) (hf:(Builtin.firstCells i.size m x).run P w.drew=.ok news.toArray w.drew) (hroom:sCap<sLen+m)
 (hby:0<i.bytes) (hfit:(sLen+m) * i.bytes<=140737488355328) :
 (Builtin.append_ #[t,u] ty #[.slice base sLen sCap,x]).run P w=.ok (.slice (some ⟨w.heap.size,0,none⟩) (sLen+m) (grownCap w (sLen+m) sCap e))
  (w.drew.alloc (.cells (olds.toArray++news.toArray++Builtin.zeroCells z.cells (grownCap w (sLen+m) sCap e-(sLen+m))) e)):=by
 have hn:¬(sLen+m<=sCap):=om
 have hle:sLen+m<=(sLen+m) * i.bytes:=Nat.le_mul_of_pos_right _ hby;have h63:¬(9223372036854775807<((sLen:Int)+(m:Int))):=om
 have hfits:=growslice_fits hroom hfit;have h48:¬(281474976710656<Builtin.nextslicecap (sLen+m) sCap * i.bytes):=om
 rcases hu with⟨e',hu⟩|hu
 all_goals
  simp[Builtin.append_,run_underlying ht,run_underlying hu,CH hi,typeInfo,zeroValue,hi,hz,hm,hn,h63,h48,Question.forced,hf,hfo,EI,grownCap]
 all_goals
  congr 2;apply F3;simp[A3]
theorem Pt(a b:List Value):flat (a++b)=flat a++flat b:=by simp[flat]
theorem z7d(hS:SRel S H){w:Nat}(hw:0<w){x:AV}{v:Value}(hx:VRel S x v)(hok:Hw H w x){es:List AV}(he:Hv H x=some es):
 ∃vs,AB S es vs/\(∀u∈vs,u.cells.size=w/\∀c∈u.cells,c.oneCell'=true)/\(∀W,(Builtin.lenOf v).run P W=.ok es.length W) /\
  ∀W,(∀a,W.cell? a=S.w.cell? a)->(Builtin.firstCells w es.length v).run P W=.ok (flat vs).toArray W:=by
 by_cases hstr:∃s,x=.str s
 ·obtain⟨s,rfl⟩:=hstr
  simp only[Hv,Aq] at he;subst he;simp only[Hw] at hok;subst hok;obtain rfl:v=.string ⟨s.toArray⟩:=hx
  have conv:∀s:List UInt8,AB S (s.map λb=>AV.int .u8 b.toNat) (s.map λb=>Value.int .u8 b.toNat):=by
   intro s
   induction s with
   |nil=>rfl
   |cons b s ih=>exact⟨_,_,rfl,rfl,ih⟩
  refine⟨s.map λb=>.int .u8 b.toNat,?_,?_,λW=>?_,λW _=>?_⟩
  ·exact conv s
  ·intro u hu
   obtain⟨b,_,rfl⟩:=Al.1 hu;exact⟨rfl,λc hc=>by simp[Value.cells] at hc;rw[hc];rfl⟩
  ·simp[Builtin.lenOf,zdx]
  ·have e:(⟨s.toArray⟩:ByteArray).extract 0 s.length=⟨s.toArray⟩:=by
    have:=ByteArray.extract_zero_size (b:=⟨s.toArray⟩)
    rwa [zdx] at this
   have f:flat (s.map λb=>Value.int .u8 b.toNat)=s.map λb=>Value.int .u8 b.toNat:=by
    clear e
    induction s with
    |nil=>rfl
    |cons b s ih=>simpa [flat,Value.cells] using ih
   simp only[Builtin.firstCells,Au,e,f,Sem.run_pure];simp
 ·obtain⟨a,cap,vs,rfl,hvs,hrow⟩:=Nl hS hw hx hok (λs hs=>hstr ⟨s,hs⟩) he
  by_cases hne:es=[]
  ·subst hne
   have:vs=[]:=hvs;subst this;refine⟨[],rfl,oc,λW=>rfl,λW _=>?_⟩;cases a<;>simp[Builtin.firstCells,loadCells,loadCellsFrom,flat]
  ·obtain⟨b,o,rfl,hr⟩:=hrow hne
   have hsz:∀u∈vs,u.cells.size=w/\∀c∈u.cells,c.oneCell'=true:=λu hu=>by
    obtain⟨i,hi⟩:=E9 hu;exact⟨(hr i u hi).1,(hr i u hi).2.1⟩
   refine⟨vs,hvs,hsz,λW=>rfl,λW hW=>?_⟩;have hl:(flat vs).length=es.length * w:=by rw[(flat_get (λu hu=>(hsz u hu).1)).1,hvs.length]
   exact run_firstCells_some W w es.length ⟨b,o,none⟩ es.length cap (flat vs) hl (λj u hu=>by rw[hW];exact (hr.cell hw hu).1)
theorem OQ{vs:List Value}{w:Nat}(h:∀u∈vs,u.cells.size=w/\∀c∈u.cells,c.oneCell'=true):∀c∈flat vs,c.oneCell'=true:=λc hc=>by
 obtain⟨u,hu,hc'⟩:=EK.1 hc;exact (h u hu).2 c (by simpa using hc')
theorem Hg.segs{cells:Array Value}{wd:Nat}(hwd:0<wd){vs us:List Value}(h:Hg cells wd vs)(hu:∀u∈us,u.cells.size=wd/\∀c∈u.cells,c.oneCell'=true){p:Nat}(hp:p<=vs.length)(hle:(p+us.length) * wd<=cells.size):
 Hg (Abs.seg cells.toList (p * wd) (flat us)).toArray wd (Abs.seg vs p us):=by
 obtain⟨l1,l2⟩:=flat_get (λu hu'=>(hu u hu').1);have hle':p * wd+us.length * wd<=cells.size:=by rw[<-AS];exact hle
 intro k v hv;have hcl:cells.toList.length=cells.size:=oc
 have key:∀j,j<wd->(Abs.seg cells.toList (p * wd) (flat us)).toArray[k * wd+j]? = if k<p then cells[k * wd+j]? else if k<p+us.length then (flat us)[(k-p) * wd+j]? else cells[k * wd+j]? := by
  intro j hj;rw[Ey,Tv (by rw[l1];omega)];by_cases h1:k<p
  ·have:(k+1) * wd<=p * wd:=Bf _ h1
   rw[AS] at this;rw[Ae om,Ae h1];simp
  ·have hpk:p * wd<=k * wd:=Bf _ om
   rw[Ad om,Ad h1];by_cases h2:k<p+us.length
   ·have:(k+1) * wd<=(p+us.length) * wd:=Bf _ h2
    rw[AS,AS] at this;rw[Ae (by rw[l1];omega),Ae h2];congr 1;rw[Nat.sub_mul];omega
   ·have:(p+us.length) * wd<=k * wd:=Bf _ om
    rw[AS] at this;rw[Ad (by rw[l1];omega),Ad h2];simp
 unfold Abs.seg at hv;have ht:(vs.take p).length=p:=by simp;omega
 by_cases h1:k<p
 ·rw[A3,A9 om,Cq,Ae h1] at hv
  obtain⟨f1,f2,f3⟩:=h k v hv;exact⟨f1,f2,λj hj=>by rw[key j hj,Ae h1];exact f3 j hj⟩
 ·by_cases h2:k<p+us.length
  ·rw[A3,AG om,ht,A9 om] at hv
   obtain⟨f1,f2⟩:=hu v (CX hv);exact⟨f1,f2,λj hj=>by rw[key j hj,Ad h1,Ae h2];exact l2 _ _ hv j hj⟩
  ·rw[AG (by simp;omega),Cf] at hv
   have e:p+us.length+(k-(vs.take p++us).length)=k:=by simp;omega
   rw[e] at hv;obtain⟨f1,f2,f3⟩:=h k v hv;exact⟨f1,f2,λj hj=>by rw[key j hj,Ad h1,Ad h2];exact f3 j hj⟩
theorem AB.seg{xs ys:List AV}{vs us:List Value}(h:AB S xs vs)(k:AB S ys us)(p:Nat):AB S (Abs.seg xs p ys) (Abs.seg vs p us):=by
 unfold Abs.seg;rw[k.length];exact ((h.take p).append k).append (h.drop _)
theorem XA{w:Nat}{vs:List Value}(h:∀u∈vs,u.cells.size=w/\∀c∈u.cells,c.oneCell'=true){z:Value}(hz:z.cells.size=w){cap:Nat}(hc:vs.length<=cap):
 ((flat vs).toArray++Builtin.zeroCells z.cells (cap-vs.length)).size=cap * w/\Hg ((flat vs).toArray++Builtin.zeroCells z.cells (cap-vs.length)) w vs:=by
 refine⟨?_,z3j h _⟩;rw[Fu,size_zeroCells,hz,BN,(flat_get (λu hu=>(h u hu).1)).1,<-AS];congr 1;omega
theorem Nn(hS:SRel S H){t u ty e:TypeId}{i:TypeInfo}{z:Value}(ht:P.underlying t=some (.slice e))(hu:(∃e',P.underlying u=some (.slice e'))\/P.underlying u=some .string)(hi:P.info? e=some i)(hz:i.zero=some z)(hzs:z.cells.size=i.size)
 (h0:0<i.size) (hby:0<i.bytes) (base:Option Addr) (sCap:Nat) {olds news:List AV} {vo vn:List Value} (ho:AB S olds vo) (ho1:∀u∈vo,u.cells.size=i.size/\∀c∈u.cells,c.oneCell'=true)
 (hfo:(Builtin.firstCells i.size olds.length (.slice base olds.length sCap)).run P S.w.drew=.ok (flat vo).toArray S.w.drew)
 (x:Value) (hn:AB S news vn) (hn1:∀u∈vn,u.cells.size=i.size/\∀c∈u.cells,c.oneCell'=true) (hm:(Builtin.lenOf x).run P S.w=.ok news.length S.w) (hf:(Builtin.firstCells i.size news.length x).run P S.w.drew=.ok (flat vn).toArray S.w.drew)
 (hroom:sCap<olds.length+news.length) (hfit:(olds.length+news.length) * i.bytes<=140737488355328) :
 ∃cells cap,(Builtin.append_ #[t,u] ty #[.slice base olds.length sCap,x]).run P S.w=.ok (.slice (some ⟨S.w.heap.size,0,none⟩) (olds.length+news.length) cap) (S.w.drew.alloc (.cells cells e)) /\
  olds.length+news.length<=cap/\cells.size=cap * i.size/\Hg cells i.size (vo++vn):=by
 have run:=ze4 (ty:=ty) ht hu hi hz base olds.length sCap (flat vo) hfo x news.length (flat vn) hm hf hroom hby hfit;have hge:=grownCap_ge S.w (olds.length+news.length) sCap e;have hlen:(vo++vn).length=olds.length+news.length:=by simp[ho.length,hn.length]
 have hg:=XA (w:=i.size) (vs:=vo++vn) (λu hu=>(Av.1 hu).elim (ho1 u) (hn1 u)) hzs (cap:=grownCap S.w (olds.length+news.length) sCap e) om;rw[hlen,Pt] at hg;have e1:(flat vo).toArray++(flat vn).toArray=(flat vo++flat vn).toArray:=oc
 rw[e1] at run;exact⟨_,_,run,hge,hg.1,hg.2⟩
theorem Mv(hS:SRel S H){r:Result Next}{w:Nat}{cells:Array Value}{e:TypeId}{es:List AV}{vs:List Value}{cap len:Nat}(hv:AB S es vs)(hf:Hg cells w vs)(hc:cells.size=cap * w)(hl:len=es.length)(hcap:len<=cap)
 (hr:r=.ok (.value (.slice (some ⟨S.w.heap.size,0,none⟩) len cap)) (S.w.drew.alloc (.cells cells e))) (hK:K (.ref H.n 1 0 len) (H.push ⟨w,1,false,es⟩)) (hw0:0<w):OpOk P S r K:=by
 have hSd:=hS.drew;have e1:=Evo.drew S;have g:=hSd.grow cells e ⟨w,1,false,es⟩ cap hc (vs:=vs) (AB.mono e1 _ hv) hf (by show es.length<=cap;omega) oc hw0;exact FH (S':=MS.grow { S with w:=S.w.drew } (.cells cells e) 1 cap w) hr (e1.trans (Evo.grow hSd.im _ _ _ _)) g (Tu hSd _ _ _ _ _ hcap) hK
theorem Mw(z:Array Value)(n m:Nat):Builtin.zeroCells z n++Builtin.zeroCells z m=Builtin.zeroCells z (n+m):=by
 apply Array.ext
 ·simp[Builtin.zeroCells,AS]
 ·intro i h1 h2
  simp only[Builtin.zeroCells,Array.getElem_append,Array.size_map,Array.size_range,Array.getElem_map,Array.getElem_range];split
  ·rfl
  ·rename_i h
   rw[D9 n,Nat.sub_mul_mod (by rw[D9];omega)]
theorem zqz(hS:SRel S H){t u ty e:TypeId}{i:TypeInfo}{z:Value}{zx:AV}{ik:IntKind}(ht:P.underlying t=some (.slice e))(hu:P.underlying u=some (.int ik))(hi:P.info? e=some i)(hz:i.zero=some z)(hzx:avOf z=some zx)
 (hzs:z.cells.size=i.size) (hz1:∀c∈z.cells,c.oneCell'=true) (h0:0<i.size) (hby:0<i.bytes) {k:IntKind} {n:Int} (h1:0<n) (h2:n * i.bytes<=140737488355328) (cs:Array Bool)
 (hK:K (.ref H.n 1 0 n.toNat) (H.push ⟨i.size,1,false,List.replicate n.toNat zx⟩)) :
 OpOk P S ((builtin .append #[t,u] ty cs #[.slice none 0 0,.int k n]).run P S.w) K:=by
 have hc:n<=140737488355328:=by
  have:n * 1<=n * i.bytes:=CQ om om;omega
 have wl:IntKind.i64.wrap n=n:=IntWalk.i64_in _ om;obtain⟨m,rfl⟩:=DT (show 0<=n by omega);have hm:0<m:=om
 have hfit:(0+m) * i.bytes<=140737488355328:=by rw[AY];omega
 have hfits:=growslice_fits (show 0<0+m by omega) hfit;rw[AY] at hfits;have h48:¬(281474976710656<Builtin.nextslicecap m 0 * i.bytes):=om
 have hne:¬(m * i.size=0):=Nat.pos_iff_ne_zero.1 (Nat.mul_pos hm h0);have hge:=grownCap_ge S.w m 0 e;have b1:¬((281474976710656:Int)<(m:Int) * i.bytes):=om
 have b2:¬((m:Int)<0):=om
 have b3:¬((9223372036854775807:Int)<(m:Int)):=om
 have b5:¬(m=0):=om
 have run:(Builtin.append_ #[t,u] ty #[.slice none 0 0,.int k (m:Int)]).run P S.w=.ok (.slice (some ⟨S.w.heap.size,0,none⟩) m (grownCap S.w m 0 e))
  (S.w.drew.alloc (.cells (Builtin.zeroCells z.cells m++Builtin.zeroCells z.cells (grownCap S.w m 0 e-m)) e)):=by
  simp[Builtin.append_,run_underlying ht,run_underlying hu,CH hi,typeInfo,zeroValue,hi,hz,asInt,asIntOf,wl,b1,b2,b3,b5,hne,h48,Question.forced,Builtin.firstCells,EI,grownCap]
 rw[Mw,Nat.add_sub_cancel' hge] at run;generalize grownCap S.w m 0 e=cap at run hge;have hzc:Builtin.zeroCells z.cells cap=(Array.range (cap * i.size)).map λk=>z.cells[k % z.cells.size]! := by simp only[Builtin.zeroCells,hzs]
 have hf:Hg (Builtin.zeroCells z.cells cap) i.size (List.replicate m z):=λj v hv=>by
  rw[hzc];refine KR hzs hz1 j v ?_;rw[List.getElem?_replicate] at hv ⊢;split at hv
  ·rw[Ae om];exact hv
  ·cases hv
 exact Mv hS (e:=e) (es:=List.replicate m zx) (AB.replicate (HB hzx) m) hf (by rw[hzc];simp) oc hge (by simp only[builtin,Sem.run_bind,run,Result.andThen_ok,Sem.run_pure]) (by simpa using hK) h0
theorem Z6(g:Nat):H.set g (H.at_ g)=H:=by
 unfold A4.set hput;congr;funext j;split
 ·rename_i h;rw[h]
 ·rfl
theorem UX(z:Value):∀n,flat (List.replicate n z)=(Builtin.zeroCells z.cells n).toList
 |0=>by simp[flat,Builtin.zeroCells]
 |n+1=>by
  have h1:Builtin.zeroCells z.cells 1=z.cells:=by
   apply Array.ext
   ·simp[Builtin.zeroCells]
   ·intro i h1 h2
    simp only[Builtin.zeroCells,Array.getElem_map,Array.getElem_range];rw[FC h2];simp[h2]
  rw[<-Mw,List.replicate_succ',Pt,UX z n,h1];simp[flat]
theorem s_clr(hS:SRel S H){t e:TypeId}{i:TypeInfo}{z:Value}{zx:AV}(ts:Array TypeId)(ty:TypeId)(ht0:ts[0]? = some t)(ht:P.underlying t=some (.slice e))(hi:P.info? e=some i)(hz:i.zero=some z)(hzx:avOf z=some zx)
 (hzs:z.cells.size=i.size) (hz1:∀c∈z.cells,c.oneCell'=true) (h0:0<i.size) (cs:Array Bool) {v:Value} {xs:List AV} (hx:AB S xs [v]) (h:AI P (.clr i.size zx) H xs K) :
 OpOk P S ((builtin .clear ts ty cs #[v]).run P S.w) K:=by
 obtain⟨y,r,hr,hy,hn⟩:∃y r,xs=y::r/\VRel S y v/\r=[]:=by
  match xs,hx with
  |[y],⟨_,_,hv,h1,h2⟩=>cases hv;exact⟨y,[],rfl,h1,rfl⟩
  |_::_::_,⟨_,_,hv,h1,⟨_,_,h2,_⟩⟩=>cases hv;cases h2
 subst hr hn;cases y<;>simp only[AI] at h<;>try exact h.elim
 rename_i g vn off len;obtain⟨h1,h2,h3,hK⟩:=h;obtain⟨⟨a0,c0,rfl,_⟩,hg,hc,hp⟩:=hy;have hG:=hS.live_of hg;have ec:S.cur g=vn:=by rw[hG.ver,h1]
 obtain⟨a,cap',hs',hcase⟩:=hp ec;obtain⟨rfl,rfl⟩:a0=a/\c0=cap':=by cases hs';exact⟨rfl,rfl⟩
 have hgn:g<H.n:=by rw[<-hS.n];exact hg
 have wrap:∀{w'},(Builtin.clear_ ts ty #[.slice a0 len c0]).run P S.w=.ok (.tuple #[]) w'->(builtin .clear ts ty cs #[.slice a0 len c0]).run P S.w=.ok (.value (.tuple #[])) w':=by
  intro w' hr;simp only[builtin,Sem.run_bind,hr,Result.andThen_ok,Sem.run_pure]
 by_cases hl0:len=0
 ·subst hl0
  have hsame:(⟨i.size,vn,(H.at_ g).exact,(H.at_ g).xs.take off++List.replicate 0 zx++(H.at_ g).xs.drop (off+0)⟩:Grp)=H.at_ g:=by
   rw[<-h1,<-h2];simp
  rw[hsame,Z6] at hK;refine B1 (v:=.tuple #[]) (x:=.tup []) (wrap ?_) hS ⟨[],rfl,rfl⟩ hK;cases a0<;>simp[Builtin.clear_,ht0,run_underlying ht]
 ·obtain⟨c1,c2,c3⟩:a0=some ⟨S.place g,off * S.wid g,none⟩/\c0=S.cap g-off/\off+len<=S.cap g:=by
   rcases hcase with hc'|⟨c1,c2,c3⟩
   ·exact hc'
   ·exact absurd c1 hl0
  subst c1;have hlw:0<(H.at_ g).w:=om
  have hl1:=hG.len hlw;have hl2:=hG.full hlw;have hc1:0<S.cap g:=AO (Nat.add_pos_right off (Nat.pos_of_ne_zero hl0)) c3;obtain⟨⟨cells,T,us,hb,hcs,hus,hfl⟩,hl3⟩:=hG.live hlw hc1;rw[h2] at hcs hfl;have hn:AB S (List.replicate len zx) (List.replicate len z):=AB.replicate (HB hzx) len
  have hn1:∀u∈List.replicate len z,u.cells.size=i.size/\∀c∈u.cells,c.oneCell'=true:=λu hu=>by
   obtain rfl:=Ca hu;exact⟨hzs,hz1⟩
  have hle:(off+(List.replicate len z).length) * i.size<=cells.size:=by rw[hcs];exact Bf _ (by simp;omega)
  have fl:=(flat_get (λv hv=>(hn1 v hv).1)).1;have hst:=run_storeCells_at P (S.place g) (off * i.size) T (flat (List.replicate len z)) 0 cells S.w hb (by rw[fl];rw[AS] at hle;omega) (OQ hn1);simp only[Nat.add_zero] at hst;obtain⟨q1,q2,q3,q4,q5⟩:=Jj (S.place g) (Abs.seg cells.toList (off * i.size) (flat (List.replicate len z))).toArray S.w;have hfs:=hfl.segs h0 hn1 (p:=off) (by rw[hus.length];omega) hle;have hsg:(H.at_ g).xs.take off++List.replicate len zx++(H.at_ g).xs.drop (off+len)=Abs.seg (H.at_ g).xs off (List.replicate len zx):=by simp[Abs.seg]
  have hsl:(Abs.seg (H.at_ g).xs off (List.replicate len zx)).length=(H.at_ g).xs.length:=seg_length (by simp;omega)
  obtain⟨e',hS'⟩:=hS.moved hgn hlw (S.w.setRow (S.place g) (Abs.seg cells.toList (off * i.size) (flat (List.replicate len z))).toArray) (S.place g) (S.cap g) ⟨i.size,vn,(H.at_ g).exact,Abs.seg (H.at_ g).xs off (List.replicate len zx)⟩ q1 q2 q3 q4 (λb=>q5 b hc1) (.inl ⟨hc1,rfl⟩) (λ_=>⟨_,T,_,setRow_heap S.w _ cells _ T _ hb,
   by rw[BN,seg_length (by rw[fl];simp at hle ⊢;rw[AS] at hle;omega)];simpa using hcs,hus.seg hn off,hfs⟩) (by rw[hsl];exact hl1) (λhe=>by rw[hsl];exact hl2 he) h0 (by rw[ec];exact Ab _) (λ_=>⟨rfl,rfl,by rw[hG.wid,h2]⟩)
  have hrun:(Builtin.clear_ ts ty #[.slice (some ⟨S.place g,off * S.wid g,none⟩) len c0]).run P S.w=.ok (.tuple #[]) (S.w.setRow (S.place g) (Abs.seg cells.toList (off * i.size) (flat (List.replicate len z))).toArray):=by
   have hst2:(storeCells ⟨S.place g,off * i.size,none⟩ (flat (List.replicate len z))).run P S.w=.ok () (S.w.setRow (S.place g) (Abs.seg cells.toList (off * i.size) (flat (List.replicate len z))).toArray):=hst;generalize S.w.setRow (S.place g) (Abs.seg cells.toList (off * i.size) (flat (List.replicate len z))).toArray=W at hst2 ⊢;rw[UX] at hst2;rw[hG.wid,h2]
   match len,hl0 with
   |m+1,_=>simp[Builtin.clear_,ht0,run_underlying ht,zeroValue,typeInfo,hi,hz,hst2]
  rw[hsg] at hK;exact FH (S':=S.moved _ g (S.place g) vn (S.cap g) i.size) (v:=.tuple #[]) (x:=.tup []) (wrap hrun) e' hS' ⟨[],rfl,rfl⟩ hK
theorem s_app(hS:SRel S H){t u ty e:TypeId}{i:TypeInfo}{z:Value}{zx:AV}(ht:P.underlying t=some (.slice e))(hu:(∃e',P.underlying u=some (.slice e'))\/P.underlying u=some .string)(hi:P.info? e=some i)(hz:i.zero=some z)
 (hzs:z.cells.size=i.size) (h0:0<i.size) (hby:0<i.bytes) (cs:Array Bool) {sv xv:Value} {xs:List AV} (hx:AB S xs [sv,xv]) (h:AI P (.app i.size i.bytes zx) H xs K) :
 OpOk P S ((builtin .append #[t,u] ty cs #[sv,xv]).run P S.w) K:=by
 obtain⟨s,x,rfl,hs,hxv⟩:=hx.len2;simp only[AI] at h;obtain⟨hok,hq⟩:=h;obtain⟨news,he,h⟩:=C1 hq;clear hq;obtain⟨vn,hn,hn1,hlen,hrd⟩:=z7d hS h0 hxv hok he;have hm:=hlen S.w;have hf:=hrd S.w (λ_=>rfl);have hfd:=hrd S.w.drew (λ_=>rfl)
 have wrap:∀{v w'},(Builtin.append_ #[t,u] ty #[sv,xv]).run P S.w=.ok v w'->(builtin .append #[t,u] ty cs #[sv,xv]).run P S.w=.ok (.value v) w':=by
  intro v w' hr;simp only[builtin,Sem.run_bind,hr,Result.andThen_ok,Sem.run_pure]
 -- a slice without room
 have empty:∀base,sv=.slice base 0 0->K (.ref H.n 1 0 news.length) (H.push ⟨i.size,1,news.isEmpty,news⟩)->news.length * i.bytes<=140737488355328->OpOk P S ((builtin .append #[t,u] ty cs #[sv,xv]).run P S.w) K:=by
  intro base hb k1 hfit;subst hb;by_cases hne:news=[]
  ·subst hne
   have hvn:vn=[]:=hn;subst hvn;refine .inl ⟨.slice base 0 0,S.virt i.size,.ref H.n 1 0 0,_,.inl (wrap ?_),Evo.virt _,hS.virt _ h0,?_,k1⟩
   ·exact Ib ht hu hi base 0 0 xv 0 [] hm hf (Ab _) S.w (by cases base<;>simp[storeCells])
   ·refine⟨⟨_,_,rfl,λ_=>rfl⟩,?_,?_,λ_=>⟨_,_,rfl,.inr ⟨rfl,rfl,?_⟩⟩⟩
    ·show H.n<S.n+1;rw[hS.n];omega
    ·show 1<=fput _ _ _ _;rw[<-hS.n,AM];exact Ab _
    ·show fput _ _ _ _<=0;rw[<-hS.n,AM];exact Ab _
  ·have hpos:0<news.length:=by cases news with|nil=>exact absurd rfl hne|cons _ _=>simp
   have hie:news.isEmpty=false:=by cases news with|nil=>exact absurd rfl hne|cons _ _=>rfl
   rw[hie] at k1;obtain⟨cells,cap,run,r1,r2,r3⟩:=Nn hS (ty:=ty) ht hu hi hz hzs h0 hby base 0 (olds:=[]) (vo:=[]) rfl oc (by cases base<;>simp[Builtin.firstCells,loadCells,loadCellsFrom,flat]) xv hn hn1 hm hfd (by simpa using hpos) (by simpa using hfit);simp only[List.length_nil,AY,List.nil_append] at run r1 r2 r3;exact Mv hS hn r3 r2 rfl r1 (wrap run) k1 h0
 cases s<;>simp only[LD] at h<;>try exact h.elim
 ·exact empty none hs h.2 h.1
 ·obtain⟨a,ha⟩:=hs
  exact empty a ha h.2 h.1
 ·rename_i w' xs
  obtain⟨h1,hno,hyes⟩:=h;subst h1;have hs0:=hs;obtain⟨_,_,a,vs,rfl,hnone,hvs,hrow⟩:=hs;rcases Nat.eq_zero_or_pos news.length with hpos|hpos
  ·obtain rfl:news=[]:=Az hpos
   have hvn:vn=[]:=hn;subst hvn;refine .inl ⟨.slice a xs.length xs.length,S,.full i.size xs,H,.inl (wrap ?_),.refl S,hS,hs0,hno rfl⟩;exact Ib ht hu hi a xs.length xs.length xv 0 [] hm hf (Ab _) S.w (by cases a<;>simp[storeCells])
  obtain⟨h3,hK⟩:=hyes hpos
  have husz:∀v∈vs,v.cells.size=i.size/\∀c∈v.cells,c.oneCell'=true:=λv hv=>by
   obtain⟨j,hj⟩:=E9 hv;have hne:xs≠[]:=λhh=>by subst hh;have:vs=[]:=hvs;subst this;cases hv
   obtain⟨b,o,_,_,hr⟩:=hrow hne;obtain⟨f1,f2,_⟩:=hr j v hj;exact⟨f1,f2⟩
  have hbase:(Builtin.firstCells i.size xs.length (.slice a xs.length xs.length)).run P S.w.drew=.ok (flat vs).toArray S.w.drew:=by
   by_cases hne:xs=[]
   ·subst hne
    have:vs=[]:=hvs;subst this;cases a<;>simp[Builtin.firstCells,loadCells,loadCellsFrom,flat]
   ·obtain⟨b,o,rfl,_,hr⟩:=hrow hne
    have hl:(flat vs).length=xs.length * i.size:=by rw[(flat_get hr.sizes).1,hvs.length]
    exact run_firstCells_some S.w.drew i.size xs.length _ xs.length xs.length _ hl (λj v hv=>(hr.cell h0 hv).1)
  obtain⟨cells',cap2,run,r1,r2,r3⟩:=Nn hS (ty:=ty) ht hu hi hz hzs h0 hby a xs.length hvs husz hbase xv hn hn1 hm hfd om h3;exact Mv hS (hvs.append hn) r3 r2 (by rw[Ai]) r1 (wrap run) hK h0
 ·rename_i g vn' off len
  obtain⟨h1,h2,h3,h4,h⟩:=h;have hs':=hs;obtain⟨_,hg,hc,hp⟩:=hs;have hG:=hS.live_of hg;have ec:S.cur g=vn':=by rw[hG.ver,h1]
  obtain⟨a,cap',rfl,hcase⟩:=hp ec;have hgn:g<H.n:=by rw[<-hS.n];exact hg
  have hlw:0<(H.at_ g).w:=om
  have hl1:=hG.len hlw;have hl2:=hG.full hlw;by_cases hc0:S.cap g=0
  ·-- no room
   have hx0:(H.at_ g).xs=[]:=Az om;rw[hx0] at h h4;simp only[List.isEmpty_nil,Bool.or_true,List.length_nil,List.nil_append] at h h4;obtain⟨_,hK,_⟩:=h;have hl0:len=0:=om
   have h6:off=0:=om
   subst hl0;subst h6;have hK:=hK rfl;have hcp:cap'=0:=by rcases hcase with⟨_,c2,_⟩|⟨_,c2,_⟩<;>omega
   subst hcp;simp only[AY] at hK h3;by_cases hne:news=[]
   ·subst hne
    have hvn:vn=[]:=hn;subst hvn;obtain⟨e',hS'⟩:=hS.moved hgn hlw S.w (S.place g) 0 ⟨i.size,vn'+1,(H.at_ g).exact&&([]:List AV).isEmpty,[]⟩ rfl ⟨rfl,Ab _⟩ rfl (Ab _) (λ_ _ _=>rfl) (.inr (.inr rfl)) (λh=>absurd h om) (Ab _) (λ_=>rfl) h0 (by rw[ec];show _<=vn'+1;omega) (λhh=>by rw[ec] at hh;change vn'+1=vn' at hh;omega);refine FH (S':=S.moved S.w g (S.place g) (vn'+1) 0 i.size) (v:=.slice a 0 0) (wrap (Ib ht hu hi a 0 0 xv 0 [] hm hf (Ab _) S.w (by cases a<;>simp[storeCells]))) e' hS' ?_ hK;refine⟨⟨_,_,rfl,λ_=>rfl⟩,hg,?_,λ_=>⟨a,0,rfl,.inr ⟨rfl,rfl,?_⟩⟩⟩
    ·show _<=fput _ _ _ _;rw[AM];exact Ab _
    ·show fput _ _ _ _<=0;rw[AM];exact Ab _
   ·have hpos:0<news.length:=by cases news with|nil=>exact absurd rfl hne|cons _ _=>simp
    have hie:news.isEmpty=false:=by cases news with|nil=>exact absurd rfl hne|cons _ _=>rfl
    obtain⟨cells',cap2,run,r1,r2,r3⟩:=Nn hS (ty:=ty) ht hu hi hz hzs h0 hby a 0 (olds:=[]) (vo:=[]) rfl oc (by cases a<;>simp[Builtin.firstCells,loadCells,loadCellsFrom,flat]) xv hn hn1 hm hfd (by simpa using hpos) (by simpa using h3);simp only[List.length_nil,AY,List.nil_append] at run r1 r2 r3;have hw1:=heap_alloc_new S.w.drew (.cells cells' e)
    obtain⟨e',hS'⟩:=hS.moved hgn hlw (S.w.drew.alloc (.cells cells' e)) S.w.heap.size cap2 ⟨i.size,vn'+1,(H.at_ g).exact&&news.isEmpty,news⟩ rfl ⟨rfl,EY _⟩ rfl (by rw[size_alloc];show _<=S.w.heap.size+1;omega)
     (λb _ hb'=>heap_alloc_lt S.w.drew _ b hb') (.inr (.inl (Ab _))) (λ_=>⟨_,_,_,hw1,r2,hn,r3⟩) r1 (by simp[hie]) h0 (by rw[ec];show _<=vn'+1;omega) (λhh=>by rw[ec] at hh;change vn'+1=vn' at hh;omega)
    refine FH (S':=S.moved _ g S.w.heap.size (vn'+1) cap2 i.size) (wrap run) e' hS' ?_ hK;refine⟨⟨_,_,rfl,λh=>by cases h⟩,hg,?_,λ_=>⟨_,cap2,rfl,.inl ?_⟩⟩
    ·show _<=fput _ _ _ _;rw[AM];exact Ab _
    ·show _=some (Addr.mk (fput _ _ _ _) (_ * fput _ _ _ _) none)/\_=fput _ _ _ _-_/\_<=fput _ _ _ _
     rw[AM,AM,AM];exact⟨oc,om,om⟩
  have hc1:0<S.cap g:=om
  obtain⟨⟨cells,T,us,hb,hcs,hus,hfl⟩,hl3⟩:=hG.live hlw hc1;rw[h2] at hcs hfl;have husl:us.length=(H.at_ g).xs.length:=hus.length
  -- what stands in the slice
  have holds:∀W,(∀a,W.cell? a=S.w.cell? a)->(Builtin.firstCells i.size len (.slice a len cap')).run P W=.ok (flat ((us.drop off).take len)).toArray W:=by
   intro W hW;rcases hcase with⟨rfl,_,_⟩|⟨hl0,_,_⟩
   ·have hrow:OC S.w (S.place g) (off * i.size) i.size ((us.drop off).take len):=by
     intro j v hv;rw[Cq] at hv;split at hv
     ·rw[Cf] at hv
      have:=hfl.row hb (off+j) v hv
      rwa [AY,AS] at this
     ·cases hv
    have hl:(flat ((us.drop off).take len)).length=len * i.size:=by
     rw[(flat_get hrow.sizes).1];simp;rw[Dj om]
    rw[hG.wid,h2];exact run_firstCells_some W i.size len _ len cap' _ hl (λj v hv=>by rw[hW];exact (hrow.cell h0 hv).1)
   ·subst hl0
    cases a<;>simp[Builtin.firstCells,loadCells,loadCellsFrom,flat]
  have husz:∀v∈(us.drop off).take len,v.cells.size=i.size/\∀c∈v.cells,c.oneCell'=true:=λv hv=>by
   obtain⟨j,hj⟩:=E9 (Bc (Be hv));obtain⟨f1,f2,_⟩:=hfl j v hj;exact⟨f1,f2⟩
  have holdA:AB S (((H.at_ g).xs.drop off).take len) ((us.drop off).take len):=(hus.drop off).take len;have holdl:(((H.at_ g).xs.drop off).take len).length=len:=by simp;omega
  have inplace:off+len+news.length<=(H.at_ g).xs.length->K (.ref g vn' off (len+news.length)) (H.set g ⟨i.size,vn',(H.at_ g).exact,(H.at_ g).xs.take (off+len)++news++(H.at_ g).xs.drop (off+len+news.length)⟩)->OpOk P S ((builtin .append #[t,u] ty cs #[.slice a len cap',xv]).run P S.w) K:=λhroom hK=>by
   have hcl:len+news.length<=cap':=by
    rcases hcase with⟨_,c2,_⟩|⟨c1,c2,c3⟩<;>omega
   by_cases hz0:news=[]
   ·subst hz0
    have hvn0:vn=[]:=hn;subst hvn0
    have hsame:(⟨i.size,vn',(H.at_ g).exact,(H.at_ g).xs.take (off+len)++[]++(H.at_ g).xs.drop (off+len+([]:List AV).length)⟩:Grp)=H.at_ g:=by
     rw[<-h1,<-h2];simp
    rw[hsame,Z6] at hK;exact B1 (v:=.slice a len cap') (x:=.ref g vn' off len) (wrap (Ib ht hu hi a len cap' xv 0 [] hm hf hcl S.w (by cases a<;>simp[storeCells]))) hS hs' hK
   ·have hpos:0<news.length:=by cases news with|nil=>exact absurd rfl hz0|cons _ _=>simp
    obtain⟨c1,c2,c3⟩:a=some ⟨S.place g,off * S.wid g,none⟩/\cap'=S.cap g-off/\off+len<=S.cap g:=by
     rcases hcase with hc'|⟨c1,c2,c3⟩
     ·exact hc'
     ·omega
    subst c1;have hvl:vn.length=news.length:=hn.length;have hle:(off+len+vn.length) * i.size<=cells.size:=by rw[hcs];exact Bf _ om
    have fl:=(flat_get (λv hv=>(hn1 v hv).1)).1;have hst:=run_storeCells_at P (S.place g) ((off+len) * i.size) T (flat vn) 0 cells S.w hb (by rw[fl];rw[AS] at hle;omega) (OQ hn1);simp only[Nat.add_zero] at hst;obtain⟨q1,q2,q3,q4,q5⟩:=Jj (S.place g) (Abs.seg cells.toList ((off+len) * i.size) (flat vn)).toArray S.w;have hfs:=hfl.segs h0 hn1 (p:=off+len) om hle;have hsl:(Abs.seg (H.at_ g).xs (off+len) news).length=(H.at_ g).xs.length:=seg_length om
    obtain⟨e',hS'⟩:=hS.moved hgn hlw (S.w.setRow (S.place g) (Abs.seg cells.toList ((off+len) * i.size) (flat vn)).toArray) (S.place g) (S.cap g) ⟨i.size,vn',(H.at_ g).exact,Abs.seg (H.at_ g).xs (off+len) news⟩ q1 q2 q3 q4 (λb=>q5 b hc1) (.inl ⟨hc1,rfl⟩) (λ_=>⟨_,T,_,setRow_heap S.w _ cells _ T _ hb,
     by rw[BN,seg_length (by rw[fl];simp;rw[AS] at hle;omega)];simpa using hcs,hus.seg hn (off+len),hfs⟩) (by rw[hsl];exact hl1) (λhe=>by rw[hsl];exact hl2 he) h0 (by rw[ec];exact Ab _) (λ_=>⟨rfl,rfl,by rw[hG.wid,h2]⟩)
    refine FH (S':=S.moved _ g (S.place g) vn' (S.cap g) i.size) (v:=.slice (some ⟨S.place g,off * S.wid g,none⟩) (len+news.length) cap') (wrap (Ib ht hu hi (some ⟨S.place g,off * S.wid g,none⟩) len cap' xv news.length (flat vn) hm hf hcl _ ?_)) e' hS' ?_ hK
    ·show (storeCells ((Addr.mk (S.place g) (off * S.wid g) none).add (len * i.size)) (flat vn)).run P S.w=_
     rw[addr_add,hG.wid,h2,<-AS];exact hst
    ·refine⟨⟨_,_,rfl,λh=>by cases h⟩,hg,?_,λ_=>⟨_,cap',rfl,.inl ?_⟩⟩
     ·show _<=fput _ _ _ _;rw[AM];exact Ab _
     ·show _=some (Addr.mk (fput _ _ _ _) (_ * fput _ _ _ _) none)/\_=fput _ _ _ _-_/\_<=fput _ _ _ _
      rw[AM,AM,AM,hG.wid,h2];exact⟨rfl,c2,om⟩
  cases hxx:(!(H.at_ g).exact||(H.at_ g).xs.isEmpty)<;>simp only[hxx] at h
  rotate_left
  ·-- room isn't known
   have hex:(H.at_ g).exact=false:=by
    cases hex:(H.at_ g).exact
    ·rfl
    ·rw[hex] at hxx
     have h7:=hl2 hex;have:(H.at_ g).xs=[]:=by simpa using hxx
     rw[this] at h7;simp at h7;omega
   rw[hex,B4] at h;obtain⟨h6,hEnd,hIn,hOff⟩:=h;have hzz:=hz;clear hz;by_cases hz:off=0
   ·subst hz
    have hz:=hzz;rcases Aj (0+len) (H.at_ g).xs.length with hlt|hge
    ·obtain⟨hroom,hK⟩:=hIn hlt
     exact inplace hroom (by rw[hex];exact hK)
    have h5:len=(H.at_ g).xs.length:=om
    have hK:=hEnd om;clear hEnd hIn hge hp hs' inplace;have hall:(us.drop 0).take len=us:=by rw[BH];exact Ay om
    have hallA:((H.at_ g).xs.drop 0).take len=(H.at_ g).xs:=by rw[BH];exact Ay om
    rw[hall] at holds husz;by_cases hroom:len+news.length<=cap'
    ·-- in its block
     by_cases hz0:news=[]
     ·subst hz0
      have hvn0:vn=[]:=hn;subst hvn0;obtain⟨e',hS'⟩:=hS.moved hgn hlw S.w (S.place g) (S.cap g) ⟨i.size,vn'+1,false,(H.at_ g).xs++[]⟩ rfl ⟨rfl,Ab _⟩ rfl (Ab _) (λ_ _ _=>rfl) (.inl ⟨hc1,rfl⟩) (λ_=>⟨_,_,us,hb,hcs,by simpa using hus,hfl⟩) (by simpa using hl1) oc h0 (by rw[ec];show _<=vn'+1;omega) (λhh=>by rw[ec] at hh;change vn'+1=vn' at hh;omega);refine FH (S':=S.moved S.w g (S.place g) (vn'+1) (S.cap g) i.size) (v:=.slice a (len+0) cap') (wrap (Ib ht hu hi a len cap' xv 0 [] hm hf hroom S.w (by cases a<;>simp[storeCells]))) e' hS' ?_ hK;refine⟨⟨_,_,rfl,λhh=>?_⟩,hg,?_,λ_=>⟨a,cap',rfl,?_⟩⟩
      ·rcases hcase with⟨c1,_⟩|⟨c1,_⟩
       ·rw[c1] at hh;cases hh
       ·omega
      ·show _<=fput _ _ _ _;rw[AM];exact Ab _
      ·show (a=some ⟨fput _ _ _ _,_ * fput _ _ _ _,none⟩/\_=fput _ _ _ _-_/\_<=fput _ _ _ _)\/(_/\_/\fput _ _ _ _<=_)
       rw[AM,AM,AM];rcases hcase with⟨c1,c2,c3⟩|⟨c1,c2,c3⟩
       ·exact .inl ⟨by rw[c1,hG.wid,h2],c2,by simpa using c3⟩
       ·exact .inr ⟨by simpa using c1,c2,c3⟩
     ·have hpos:0<news.length:=by cases news with|nil=>exact absurd rfl hz0|cons _ _=>simp
      obtain⟨c1,c2,c3⟩:a=some ⟨S.place g,0 * S.wid g,none⟩/\cap'=S.cap g-0/\0+len<=S.cap g:=by
       rcases hcase with hc'|⟨c1,c2,c3⟩
       ·exact hc'
       ·omega
      subst c1;have hvl:vn.length=news.length:=hn.length;have hle:(len+vn.length) * i.size<=cells.size:=by rw[hcs];exact Bf _ om
      have fl:=(flat_get (λv hv=>(hn1 v hv).1)).1;have hst:=run_storeCells_at P (S.place g) (len * i.size) T (flat vn) 0 cells S.w hb (by rw[fl];rw[AS] at hle;omega) (OQ hn1);simp only[Nat.add_zero] at hst;obtain⟨q1,q2,q3,q4,q5⟩:=Jj (S.place g) (Abs.seg cells.toList (len * i.size) (flat vn)).toArray S.w;have hfs:=hfl.segs h0 hn1 (p:=len) om hle
      have hsegA:Abs.seg (H.at_ g).xs len news=(H.at_ g).xs++news:=by
       unfold Abs.seg;rw[Ay om,Fi om,Ax]
      have hvs:AB S ((H.at_ g).xs++news) (Abs.seg us len vn):=by rw[<-hsegA];exact hus.seg hn len
      obtain⟨e',hS'⟩:=hS.moved hgn hlw (S.w.setRow (S.place g) (Abs.seg cells.toList (len * i.size) (flat vn)).toArray) (S.place g) (S.cap g) ⟨i.size,vn'+1,false,(H.at_ g).xs++news⟩ q1 q2 q3 q4 (λb=>q5 b hc1) (.inl ⟨hc1,rfl⟩) (λ_=>⟨_,T,_,setRow_heap S.w _ cells _ T _ hb,
       by rw[BN,seg_length (by rw[fl];simp;rw[AS] at hle;omega)];simpa using hcs,hvs,hfs⟩) (by simp;omega) oc h0 (by rw[ec];show _<=vn'+1;omega) (λhh=>by rw[ec] at hh;change vn'+1=vn' at hh;omega)
      refine FH (S':=S.moved _ g (S.place g) (vn'+1) (S.cap g) i.size) (v:=.slice (some ⟨S.place g,0 * S.wid g,none⟩) (len+news.length) cap') (wrap (Ib ht hu hi (some ⟨S.place g,0 * S.wid g,none⟩) len cap' xv news.length (flat vn) hm hf hroom _ ?_)) e' hS' ?_ hK
      ·show (storeCells ((Addr.mk (S.place g) (0 * S.wid g) none).add (len * i.size)) (flat vn)).run P S.w=_
       rw[addr_add];simp only[Ft,AY];exact hst
      ·refine⟨⟨_,_,rfl,λh=>by cases h⟩,hg,?_,λ_=>⟨_,cap',rfl,.inl ?_⟩⟩
       ·show _<=fput _ _ _ _;rw[AM];exact Ab _
       ·show _=some (Addr.mk (fput _ _ _ _) (_ * fput _ _ _ _) none)/\_=fput _ _ _ _-_/\_<=fput _ _ _ _
        rw[AM,AM,AM];exact⟨oc,c2,om⟩
    ·-- in a new block
     obtain⟨cells',cap2,run,r1,r2,r3⟩:=Nn hS (ty:=ty) ht hu hi hz hzs h0 hby a cap' (olds:=(H.at_ g).xs) (vo:=us) hus husz (by rw[<-h5];exact holds S.w.drew (λ_=>rfl)) xv hn hn1 hm hfd om (by rw[<-h5];exact h3);rw[<-h5] at run r1;have hw1:=heap_alloc_new S.w.drew (.cells cells' e)
     obtain⟨e',hS'⟩:=hS.moved hgn hlw (S.w.drew.alloc (.cells cells' e)) S.w.heap.size cap2 ⟨i.size,vn'+1,false,(H.at_ g).xs++news⟩ rfl ⟨rfl,EY _⟩ rfl (by rw[size_alloc];show _<=S.w.heap.size+1;omega)
      (λb _ hb'=>heap_alloc_lt S.w.drew _ b hb') (.inr (.inl (Ab _))) (λ_=>⟨_,_,_,hw1,r2,hus.append hn,r3⟩) (by simp;omega) oc h0 (by rw[ec];show _<=vn'+1;omega) (λhh=>by rw[ec] at hh;change vn'+1=vn' at hh;omega)
     refine FH (S':=S.moved _ g S.w.heap.size (vn'+1) cap2 i.size) (wrap run) e' hS' ?_ hK;refine⟨⟨_,_,rfl,λh=>by cases h⟩,hg,?_,λ_=>⟨_,cap2,rfl,.inl ?_⟩⟩
     ·show _<=fput _ _ _ _;rw[AM];exact Ab _
     ·show _=some (Addr.mk (fput _ _ _ _) (_ * fput _ _ _ _) none)/\_=fput _ _ _ _-_/\_<=fput _ _ _ _
      rw[AM,AM,AM];exact⟨oc,om,om⟩
   ·have h5:off+len=(H.at_ g).xs.length:=h6.resolve_left hz
    have hKA:=hEnd h5;have hKB:=hOff hz;clear hEnd hIn hOff hp hs' inplace h6;have hall:(us.drop off).take len=us.drop off:=Ay (by simp;omega);rw[hall] at holds husz;have hdl:((H.at_ g).xs.drop off).length=len:=by simp;omega
    by_cases hroom:len+news.length<=cap'
    ·by_cases hz0:news=[]
     ·subst hz0
      have hvn0:vn=[]:=hn;subst hvn0;obtain⟨e',hS'⟩:=hS.moved hgn hlw S.w (S.place g) (S.cap g) ⟨i.size,vn'+1,false,(H.at_ g).xs++[]⟩ rfl ⟨rfl,Ab _⟩ rfl (Ab _) (λ_ _ _=>rfl) (.inl ⟨hc1,rfl⟩) (λ_=>⟨_,_,us,hb,hcs,by simpa using hus,hfl⟩) (by simpa using hl1) oc h0 (by rw[ec];show _<=vn'+1;omega) (λhh=>by rw[ec] at hh;change vn'+1=vn' at hh;omega);refine FH (S':=S.moved S.w g (S.place g) (vn'+1) (S.cap g) i.size) (v:=.slice a (len+0) cap') (wrap (Ib ht hu hi a len cap' xv 0 [] hm hf hroom S.w (by cases a<;>simp[storeCells]))) e' hS' ?_ hKA;refine⟨⟨_,_,rfl,λhh=>?_⟩,hg,?_,λ_=>⟨a,cap',rfl,?_⟩⟩
      ·rcases hcase with⟨c1,_⟩|⟨c1,_⟩
       ·rw[c1] at hh;cases hh
       ·omega
      ·show _<=fput _ _ _ _;rw[AM];exact Ab _
      ·show (a=some ⟨fput _ _ _ _,_ * fput _ _ _ _,none⟩/\_=fput _ _ _ _-_/\_<=fput _ _ _ _)\/(_/\_/\fput _ _ _ _<=_)
       rw[AM,AM,AM];rcases hcase with⟨c1,c2,c3⟩|⟨c1,c2,c3⟩
       ·exact .inl ⟨by rw[c1,hG.wid,h2],c2,by simpa using c3⟩
       ·exact .inr ⟨by simpa using c1,c2,c3⟩
     ·have hpos:0<news.length:=by cases news with|nil=>exact absurd rfl hz0|cons _ _=>simp
      obtain⟨c1,c2,c3⟩:a=some ⟨S.place g,off * S.wid g,none⟩/\cap'=S.cap g-off/\off+len<=S.cap g:=by
       rcases hcase with hc'|⟨c1,c2,c3⟩
       ·exact hc'
       ·omega
      subst c1;have hvl:vn.length=news.length:=hn.length;have hle:(off+len+vn.length) * i.size<=cells.size:=by rw[hcs];exact Bf _ om
      have fl:=(flat_get (λv hv=>(hn1 v hv).1)).1;have hst:=run_storeCells_at P (S.place g) ((off+len) * i.size) T (flat vn) 0 cells S.w hb (by rw[fl];rw[AS] at hle;omega) (OQ hn1);simp only[Nat.add_zero] at hst;obtain⟨q1,q2,q3,q4,q5⟩:=Jj (S.place g) (Abs.seg cells.toList ((off+len) * i.size) (flat vn)).toArray S.w;have hfs:=hfl.segs h0 hn1 (p:=off+len) om hle
      have hsegA:Abs.seg (H.at_ g).xs (off+len) news=(H.at_ g).xs++news:=by
       unfold Abs.seg;rw[Ay om,Fi om,Ax]
      have hvs:AB S ((H.at_ g).xs++news) (Abs.seg us (off+len) vn):=by rw[<-hsegA];exact hus.seg hn (off+len)
      obtain⟨e',hS'⟩:=hS.moved hgn hlw (S.w.setRow (S.place g) (Abs.seg cells.toList ((off+len) * i.size) (flat vn)).toArray) (S.place g) (S.cap g) ⟨i.size,vn'+1,false,(H.at_ g).xs++news⟩ q1 q2 q3 q4 (λb=>q5 b hc1) (.inl ⟨hc1,rfl⟩) (λ_=>⟨_,T,_,setRow_heap S.w _ cells _ T _ hb,
       by rw[BN,seg_length (by rw[fl];simp;rw[AS] at hle;omega)];simpa using hcs,hvs,hfs⟩) (by simp;omega) oc h0 (by rw[ec];show _<=vn'+1;omega) (λhh=>by rw[ec] at hh;change vn'+1=vn' at hh;omega)
      refine FH (S':=S.moved _ g (S.place g) (vn'+1) (S.cap g) i.size) (v:=.slice (some ⟨S.place g,off * S.wid g,none⟩) (len+news.length) cap') (wrap (Ib ht hu hi (some ⟨S.place g,off * S.wid g,none⟩) len cap' xv news.length (flat vn) hm hf hroom _ ?_)) e' hS' ?_ hKA
      ·show (storeCells ((Addr.mk (S.place g) (off * S.wid g) none).add (len * i.size)) (flat vn)).run P S.w=_
       rw[addr_add,hG.wid,h2,<-AS];exact hst
      ·refine⟨⟨_,_,rfl,λh=>by cases h⟩,hg,?_,λ_=>⟨_,cap',rfl,.inl ?_⟩⟩
       ·show _<=fput _ _ _ _;rw[AM];exact Ab _
       ·show _=some (Addr.mk (fput _ _ _ _) (_ * fput _ _ _ _) none)/\_=fput _ _ _ _-_/\_<=fput _ _ _ _
        rw[AM,AM,AM,hG.wid,h2];exact⟨rfl,c2,om⟩
    ·obtain⟨cells',cap2,run,r1,r2,r3⟩:=Nn hS (ty:=ty) ht hu hi hzz hzs h0 hby a cap' (olds:=(H.at_ g).xs.drop off) (vo:=us.drop off) (hus.drop off) husz (by rw[hdl];exact holds S.w.drew (λ_=>rfl)) xv hn hn1 hm hfd om (by rw[hdl];exact h3)
     rw[hdl] at run r1;have hw1:=heap_alloc_new S.w.drew (.cells cells' e)
     obtain⟨e',hS'⟩:=hS.moved hgn hlw (S.w.drew.alloc (.cells cells' e)) S.w.heap.size cap2 ⟨i.size,vn'+1,false,(H.at_ g).xs.drop off++news⟩ rfl ⟨rfl,EY _⟩ rfl (by rw[size_alloc];show _<=S.w.heap.size+1;omega)
      (λb _ hb'=>heap_alloc_lt S.w.drew _ b hb') (.inr (.inl (Ab _))) (λ_=>⟨_,_,_,hw1,r2,(hus.drop off).append hn,r3⟩) (by show ((H.at_ g).xs.drop off++news).length<=_;rw[Ai,hdl];exact r1) oc h0 (by rw[ec];show _<=vn'+1;omega) (λhh=>by rw[ec] at hh;change vn'+1=vn' at hh;omega)
     refine FH (S':=S.moved _ g S.w.heap.size (vn'+1) cap2 i.size) (wrap run) e' hS' ?_ hKB;refine⟨⟨_,_,rfl,λh=>by cases h⟩,hg,?_,λ_=>⟨_,cap2,rfl,.inl ?_⟩⟩
     ·show _<=fput _ _ _ _;rw[AM];exact Ab _
     ·show _=some (Addr.mk (fput _ _ _ _) (_ * fput _ _ _ _) none)/\_=fput _ _ _ _-_/\_<=fput _ _ _ _
      rw[AM,AM,AM];exact⟨oc,om,om⟩
  ·-- the room is known
   have hex:(H.at_ g).exact=true:=by
    cases hex:(H.at_ g).exact
    ·rw[hex] at hxx;simp at hxx
    ·rfl
   obtain⟨hA,hB⟩:=h;have hcap:=hl2 hex;by_cases hroom:off+len+news.length<=(H.at_ g).xs.length
   ·have hK:=hA hroom
    exact inplace hroom (by rw[hex];exact hK)
   ·have hK:=hB om
    have hcl:cap'<len+news.length:=by
     rcases hcase with⟨_,c2,_⟩|⟨c1,c2,c3⟩<;>omega
    have hfo:=holds S.w.drew (λ_=>rfl);have hbase:(Builtin.firstCells i.size (((H.at_ g).xs.drop off).take len).length (.slice a (((H.at_ g).xs.drop off).take len).length cap')).run P S.w.drew=.ok (flat ((us.drop off).take len)).toArray S.w.drew:=by rw[holdl];exact hfo
    obtain⟨cells',cap2,run,r1,r2,r3⟩:=Nn hS (ty:=ty) ht hu hi hz hzs h0 hby a cap' holdA husz hbase xv hn hn1 hm hfd om (by rw[holdl];exact h3);rw[holdl] at run r1;exact Mv hS (holdA.append hn) r3 r2 (by rw[Ai,holdl]) r1 (wrap run) hK h0
end
section
variable {P:Program}{S:MS}{H:A4}{K:AV->A4->Prop}
theorem SRel.growO(h:SRel S H){o:Obj}{xs:List AV}(ho:IsM o)(hv:AB S xs (UQ o)):SRel (S.grow o 1 0 0) (H.push ⟨0,1,true,xs⟩) where
 n:=by show S.n+1=H.n+1;rw[h.n]
 grp g hg:=by
  have e:=Evo.grow h.im o 1 0 0;by_cases hgn:g=H.n
  ·subst hgn
   rw[A4.push_new];refine⟨?_,?_,λh0=>absurd h0 (Cl _),λh0=>absurd h0 (Cl _),λh0=>absurd h0 (Cl _),λ_ _=>⟨⟨o,?_,ho,AB.mono e _ hv⟩,?_⟩⟩
   ·show fput _ _ _ _=_;rw[<-h.n,AM]
   ·show fput _ _ _ _=_;rw[<-h.n,AM]
   ·show (S.w.alloc _).heap[fput _ _ _ _]? = _;rw[<-h.n,AM];exact Abs.heap_alloc_new _ _
   ·show ¬(S.im (fput _ _ _ _)\/S.keep (fput _ _ _ _));rw[<-h.n,AM];intro hh;have:=h.im _ hh;omega
  ·have hg':g<H.n:=by have:g<H.n+1:=hg;omega
   rw[A4.push_old _ _ hg'];have hr:=h.grp g hg';refine hr.mono' e (by rw[h.n];exact hg') ?_ (λhh=>Abs.heap_alloc_lt _ _ _ (hr.has_lt hh)) (λhh=>hr.has_ni hh);show fput _ _ _ _=_;rw[EZ _ _ (by rw[h.n];omega)]
 apart g g' hg hg' hne hw1 hw2:=by
  have key:∀k,k<H.n+1->((H.push ⟨0,1,true,xs⟩).at_ k).has (fput S.cap S.n 0 k)->(k=H.n/\fput S.place S.n S.w.heap.size k=S.w.heap.size)\/(k<H.n/\fput S.place S.n S.w.heap.size k=S.place k/\S.place k<S.w.heap.size/\(H.at_ k).has (S.cap k)):=by
   intro k hk hwk;by_cases hkn:k=H.n
   ·left;refine⟨hkn,?_⟩;rw[hkn,<-h.n,AM]
   ·right
    have hk':k<H.n:=om
    rw[A4.push_old _ _ hk'] at hwk;rw[EZ _ _ (by rw[h.n];omega)] at hwk;exact⟨hk',EZ _ _ (by rw[h.n];omega),(h.grp k hk').has_lt hwk,hwk⟩
  show fput _ _ _ _≠fput _ _ _ _;rcases key g hg hw1 with⟨a1,a2⟩|⟨a1,a2,a3,a4⟩<;>rcases key g' hg' hw2 with⟨b1,b2⟩|⟨b1,b2,b3,b4⟩
  ·omega
  ·rw[a2,b2];omega
  ·rw[a2,b2];omega
  ·rw[a2,b2];exact h.apart g g' a1 b1 hne a4 b4
 im b hb:=by show b<(S.w.alloc _).heap.size;rw[Abs.size_alloc];have:=h.im b hb;omega
theorem zll:IsM (.map #[] 0):=⟨rfl,λi e h=>by simp at h⟩
theorem SRel.growM(h:SRel S H):SRel (S.grow (.map #[] 0) 1 0 0) (H.push ⟨0,1,true,[]⟩):=h.growO zll rfl
theorem SRel.setM(h:SRel S H){g:Nat}(hg:g<H.n)(hw:(H.at_ g).w=0)(he:(H.at_ g).exact=true)(w':World)
 (h1:w'.os=S.w.os) (h2:LB w' S.w) (h3:w'.output=S.w.output) (h4:w'.heap.size=S.w.heap.size) (h5:∀b,b≠S.place g->w'.heap[b]? = S.w.heap[b]?)
 {o:Obj} (ho:IsM o) (hb:w'.heap[S.place g]? = some o) {ys:List AV} (hv:AB S ys (UQ o)) :
 Evo S { S with w:=w' }/\SRel { S with w:=w' } (H.set g ⟨0,(H.at_ g).ver,true,ys⟩):=by
 have hr:=h.grp g hg;have hni:=(hr.mlive hw he).2;have e:Evo S { S with w:=w' }:=⟨rfl,h1,h2,h3,Ef h4.symm,λb hb=>h5 b (λhh=>hni (hh ▸ hb)),λ_ hh=>hh,λ_ hh=>hh,λ_ hh=>.inl hh,Ab _,λ_ _=>Ab _,λ_ _ _=>⟨rfl,rfl,rfl⟩⟩;have hat:∀j,(H.set g ⟨0,(H.at_ g).ver,true,ys⟩).at_ j=if j=g then ⟨0,(H.at_ g).ver,true,ys⟩ else H.at_ j:=λj=>rfl
 have hhas:∀j,((H.set g ⟨0,(H.at_ g).ver,true,ys⟩).at_ j).has (S.cap j)->(H.at_ j).has (S.cap j):=λj hj=>by
  rw[hat] at hj;split at hj
  ·rename_i hjg;subst hjg;exact .inr ⟨hw,he⟩
  ·exact hj
 refine⟨e,h.n,λk hk=>?_,λk k' hk hk' hne hw1 hw2=>h.apart k k' hk hk' hne (hhas k hw1) (hhas k' hw2),λb hb=>by show b<w'.heap.size;rw[h4];exact h.im b hb⟩;rw[hat];by_cases hkg:k=g
 ·subst hkg
  rw[Ae rfl];exact⟨hr.ver,hr.wid.trans hw,λh0=>absurd h0 (Cl _),λh0=>absurd h0 (Cl _),λh0=>absurd h0 (Cl _),λ_ _=>⟨⟨o,hb,ho,AB.mono e _ hv⟩,hni⟩⟩
 ·rw[Ad hkg]
  have hrk:=h.grp k hk;exact hrk.mono' e (by rw[h.n];exact hk) rfl (λhq=>h5 _ (h.apart k g hk hg hkg hq (.inr ⟨hw,he⟩))) (λhq=>hrk.has_ni hq)
theorem zlm(hS:SRel S H)(t:TypeId)(h:AI P .mkMap H [] K):OpOk P S ((do pure (Next.value (<-Instr.makeMap t none)):Sem Next).run P S.w) K:=by
 simp only[AI] at h;refine FH (S':=S.grow (.map #[] 0) 1 0 0) (v:=.map (some S.w.heap.size)) ?_ (Evo.grow hS.im _ _ _ _) hS.growM ?_ h
 ·simp[Instr.makeMap];rfl
 ·refine⟨⟨_,rfl⟩,?_,?_,λ_=>?_⟩
  ·show H.n<S.n+1;rw[hS.n];omega
  ·show 1<=fput _ _ _ _;rw[<-hS.n,AM];exact Ab _
  ·show _=Value.map (some (fput _ _ _ _));rw[<-hS.n,AM]
def fE(e:MapEntry):List Value:=[e.key,e.val]
theorem Ty(e:MapEntry):fE e=[e.key,e.val]:=rfl
theorem Z7(es:Array MapEntry):z75 es=es.toList.flatMap fE:=rfl
def KeyI(v:Value):Prop:=∃m,v=.int .i64 m
theorem UY{d:TypeDesc}(hd:d=.int .i64)(n:Int):MapKept.IsKey d (.int .i64 n):=by subst hd;simp[MapKept.IsKey]
theorem XB{xs:List AV}(h:kvL xs):xs=[]\/∃k n r,xs=.int k n::r:=by
 match xs,h with
 |[],_=>exact .inl rfl
 |[x],h=>cases x<;>exact h.elim
 |x::y::r,h=>cases x<;>first|exact h.elim|exact .inr ⟨_,_,_,rfl⟩
theorem Pu{o:Obj}(hm:IsM o){xs:List AV}(hx:AB S xs (UQ o))(h:xs=[]\/∃k n r,xs=.int k n::r):∃es clock,o=.map es clock:=by
 cases o<;>try exact hm.elim
 ·exact⟨_,_,rfl⟩
 ·rename_i m since seen last
  rcases h with rfl|⟨k,n,r,rfl⟩
  ·have:=hx.length
   simp[UQ] at this
  ·have h1:=hx.cons_inv.1
   cases h1
theorem z7e{n:Int}{z:AV}{xs:List AV}{y:AV}(h:HR z n xs=some y):xs=[]\/∃k n r,xs=.int k n::r:=by
 match xs,h with
 |[],_=>exact .inl rfl
 |[x],h=>cases x<;>simp[HR] at h
 |x::u::r,h=>cases x<;>first|(simp only[HR,reduceCtorEq] at h;done)|exact .inr ⟨_,_,_,rfl⟩
theorem ze5{n:Int}{x:AV}{xs ys:List AV}(h:setM n x xs=some ys):xs=[]\/∃k n r,xs=.int k n::r:=by
 match xs,h with
 |[],_=>exact .inl rfl
 |[x],h=>cases x<;>simp[setM] at h
 |x::u::r,h=>cases x<;>first|(simp only[setM,reduceCtorEq] at h;done)|exact .inr ⟨_,_,_,rfl⟩
theorem UZ(n:Int){z:AV}:∀{xs:List AV}{es:List MapEntry}{y:AV}(i:Nat),AB S xs (es.flatMap fE)->HR z n xs=some y ->
 ((∀e∈es,KeyI e.key)\/True)->(Instr.findNow (.int .i64) (.int .i64 n) es i=some none/\y=z)\/∃(j:Nat) (e:MapEntry),Instr.findNow (.int .i64) (.int .i64 n) es i=some (some (j,e.val))/\VRel S y e.val
 |xs,[],y,i,hx,hf,_=>by
  have:xs=[]:=by
   have:=hx.length;simp only[List.flatMap_nil,List.length_nil] at this;exact Az this.symm
  subst this;simp only[HR,Aq] at hf;exact .inl ⟨rfl,hf.symm⟩
 |xs,e::es,y,i,hx,hf,hk=>by
  simp only[BI,Ty,List.cons_append,List.nil_append] at hx
  match xs,hx,hf with
  |[],hx,_=>exact absurd hx.length oc
  |[_],hx,_=>exact absurd hx.length oc
  |x::u::r,hx,hf =>
   obtain⟨hx1,hx2⟩:=hx.cons_inv;obtain⟨hu,hr⟩:=hx2.cons_inv;cases x<;>try simp only[HR,reduceCtorEq] at hf
   rename_i k m;cases k<;>try simp only[HR,reduceCtorEq] at hf
   have hkey:e.key=.int .i64 m:=hx1;by_cases hmn:m=n
   ·rw[Ae hmn] at hf
    cases hf;exact .inr ⟨i,e,by simp[Instr.findNow,Instr.sameNow,hkey,hmn],hu⟩
   ·rw[Ad hmn] at hf
    have hnm:(n == m)=false:=by simp;omega
    have:=UZ n (i+1) hr hf (.inr trivial);simp only[Instr.findNow,Instr.sameNow,hkey,Br,hnm];exact this
theorem ze6(hS:SRel S H)(t:TypeId){k e:TypeId}{i:TypeInfo}{zv:Value}{z:AV}(ht:P.underlying t=some (.map k e))(hk:P.underlying k=some (.int .i64))(hi:P.info? e=some i)(hz:i.zero=some zv)(hzx:avOf zv=some z)
 {u v:Value} {xs:List AV} (hx:AB S xs [u,v]) (h:AI P (.mapGet z) H xs K):OpOk P S ((do pure (Next.value (<-Instr.lookup t u v false)):Sem Next).run P S.w) K:=by
 obtain⟨a,b,rfl,ha,hb⟩:=hx.len2;cases a<;>cases b<;>simp only[AI] at h<;>try exact h.elim
 rename_i g vn kk n;obtain⟨rfl,h1,h2,h3,hq⟩:=h;obtain⟨y,hf,hK⟩:=C1 hq;obtain rfl:v=.int .i64 n:=hb;obtain⟨_,hg,_,hc⟩:=ha;have hG:=hS.live_of hg;obtain rfl:u=_:=hc (by rw[hG.ver,h1]);obtain⟨⟨o,hb,hm,hv⟩,_⟩:=hG.mlive h2 h3;obtain⟨es,clock,rfl⟩:=Pu hm hv (z7e hf);have hck:∀(em:Bool),(Instr.checkKey em 10000 k (.int .i64 n)).run P S.w=.ok () S.w:=λem=>MapKept.run_checkKey hk (UY rfl n) em 9999;have hzr:(zeroValue e).run P S.w=.ok zv S.w:=by simp[zeroValue,typeInfo,hi,hz]
 rcases UZ n 0 hv hf (.inr trivial) with⟨hfn,rfl⟩|⟨j,en,hfn,hy⟩
 ·have hfk:=MapKept.run_findKey (P:=P) (w:=S.w) hk hfn
  refine B1 (v:=zv) ?_ hS (HB hzx) hK;simp[Instr.lookup,run_underlying ht,MapKept.run_getObj_map hb,hck,hfk,hzr]
 ·have hfk:=MapKept.run_findKey (P:=P) (w:=S.w) hk hfn
  refine B1 (v:=en.val) ?_ hS hy hK;simp[Instr.lookup,run_underlying ht,MapKept.run_getObj_map hb,hck,hfk]
theorem Z8(n:Int){x:AV}{u:Value}(hxu:VRel S x u)(clock:Nat):∀{xs:List AV}{es:List MapEntry}{ys:List AV}(i:Nat),AB S xs (es.flatMap fE)->setM n x xs=some ys ->
 (Instr.findNow (.int .i64) (.int .i64 n) es i=some none/\∀b,AB S ys ((es++[({ key:=.int .i64 n,val:=u,born:=b }:MapEntry)]).flatMap fE)) \/
 ∃(j:Nat) (e:MapEntry),Instr.findNow (.int .i64) (.int .i64 n) es i=some (some (i+j,e.val))/\es[j]? = some e/\e.key=.int .i64 n/\AB S ys ((es.modify j λ(e:MapEntry)=>{ e with key:=.int .i64 n,val:=u }).flatMap fE)
 |xs,[],ys,i,hx,hf=>by
  have:xs=[]:=by
   have:=hx.length;simp only[List.flatMap_nil,List.length_nil] at this;exact Az this.symm
  subst this;simp only[setM,Aq] at hf;subst hf;exact .inl ⟨rfl,λb=>⟨_,_,rfl,rfl,_,_,rfl,hxu,rfl⟩⟩
 |xs,e::es,ys,i,hx,hf=>by
  simp only[BI,Ty,List.cons_append,List.nil_append] at hx
  match xs,hx,hf with
  |[],hx,_=>exact absurd hx.length oc
  |[_],hx,_=>exact absurd hx.length oc
  |a::o::r,hx,hf =>
   obtain⟨hx1,hx2⟩:=hx.cons_inv;obtain⟨hu,hr⟩:=hx2.cons_inv;cases a<;>try simp only[setM,reduceCtorEq] at hf
   rename_i k m;cases k<;>try simp only[setM,reduceCtorEq] at hf
   have hkey:e.key=.int .i64 m:=hx1;by_cases hmn:m=n
   ·rw[Ae hmn] at hf
    cases hf;subst hmn;refine .inr ⟨0,e,by simp[Instr.findNow,Instr.sameNow,hkey],rfl,hkey,?_⟩;simp only[List.modify_zero_cons,BI,Ty,List.cons_append,List.nil_append];exact⟨_,_,rfl,rfl,_,_,rfl,hxu,hr⟩
   ·rw[Ad hmn] at hf
    obtain⟨r',hr',rfl⟩:=Ag.1 hf;have hnm:(n == m)=false:=by simp;omega
    rcases Z8 n hxu clock (i+1) hr hr' with⟨h1,h2⟩|⟨j,e',h1,h2,h3,h4⟩
    ·refine .inl ⟨by simp only[Instr.findNow,Instr.sameNow,hkey,Br,hnm];exact h1,λb=>?_⟩
     simp only[List.cons_append,BI,Ty,List.nil_append];exact⟨_,_,rfl,hx1,_,_,rfl,hu,h2 b⟩
    ·refine .inr ⟨j+1,e',by simp only[Instr.findNow,Instr.sameNow,hkey,Br,hnm];rw[h1];congr 3;omega,by simpa using h2,h3,?_⟩
     simp only[List.modify_succ_cons,BI,Ty,List.cons_append,List.nil_append];exact⟨_,_,rfl,hx1,_,_,rfl,hu,h4⟩
theorem ze7{es:Array MapEntry}{clock:Nat}(h:IsM (.map es clock)){n:Int}{v:Value}:IsM (.map (es.push { key:=.int .i64 n,val:=v,born:=clock }) (clock+1)):=by
 obtain⟨h1,h2⟩:=h;refine⟨by rw[Array.size_push,h1],λi e he=>?_⟩;rw[Array.getElem?_push] at he;split at he
 ·cases he;exact⟨by simp only;omega,n,rfl⟩
 ·exact h2 i e he
theorem z3k{es:Array MapEntry}{clock:Nat}(h:IsM (.map es clock)){j:Nat}{n:Int}{v:Value}:IsM (.map (es.modify j λe=>{ e with key:=.int .i64 n,val:=v }) clock):=by
 obtain⟨h1,h2⟩:=h;refine⟨by rw[Ci,h1],λi e he=>?_⟩;rw[C2] at he;split at he
 ·obtain⟨e',he',rfl⟩:=Ag.1 he
  exact⟨(h2 i e' he').1,n,rfl⟩
 ·exact h2 i e he
theorem ze8(hS:SRel S H)(t:TypeId){k e:TypeId}(ht:P.underlying t=some (.map k e))(hk:P.underlying k=some (.int .i64))
 {m u v:Value} {xs:List AV} (hx:AB S xs [m,u,v]) (h:AI P .mapSet H xs K):OpOk P S ((do Instr.mapUpdate t m u v;pure Next.skip:Sem Next).run P S.w) K:=by
 obtain⟨a,b,c,rfl,ha,hb,hc⟩:=hx.len3;cases a<;>cases b<;>simp only[AI] at h<;>try exact h.elim
 rename_i g vn kk n;obtain⟨rfl,h1,h2,h3,hq⟩:=h;obtain⟨ys,hf,hK⟩:=C1 hq;obtain rfl:u=.int .i64 n:=hb;obtain⟨_,hg,_,hcc⟩:=ha;have hG:=hS.live_of hg;obtain rfl:m=_:=hcc (by rw[hG.ver,h1]);obtain⟨⟨o,hb,hm,hv⟩,_⟩:=hG.mlive h2 h3;obtain⟨es,clock,rfl⟩:=Pu hm hv (ze5 hf);have hgn:g<H.n:=by rw[<-hS.n];exact hg
 have hck:∀(em:Bool),(Instr.checkKey em 10000 k (.int .i64 n)).run P S.w=.ok () S.w:=λem=>MapKept.run_checkKey hk (UY rfl n) em 9999
 have fin:∀(es':Array MapEntry)(clock':Nat),IsM (.map es' clock')->AB S ys (z75 es')->(Instr.mapUpdate t (.map (some (S.place g))) (.int .i64 n) v).run P S.w=.ok () { S.w with heap:=S.w.heap.setIfInBounds (S.place g) (.map es' clock') }->OpOk P S ((do Instr.mapUpdate t (.map (some (S.place g))) (.int .i64 n) v;pure Next.skip:Sem Next).run P S.w) K:=by
  intro es' clock' hm' hv' hr;obtain⟨q1,q2⟩:=MapKept.heap_set (w:=S.w) (o':=.map es' clock') hb;obtain⟨ev,hS'⟩:=hS.setM hgn h2 h3 { S.w with heap:=S.w.heap.setIfInBounds (S.place g) (.map es' clock') } rfl ⟨rfl,Ab _⟩ rfl oc q2 hm' q1 hv';rw[h1] at hS';exact .inl ⟨undef,_,.any,_,.inr ⟨by simp[hr],rfl⟩,ev,hS',oy,hK⟩
 rcases Z8 n hc clock 0 hv hf with⟨hfn,hy⟩|⟨j,en,hfn,hj,hkey,hy⟩
 ·have hfk:=MapKept.run_findKey (P:=P) (w:=S.w) hk hfn
  refine fin (es.push { key:=.int .i64 n,val:=v,born:=clock }) (clock+1) (ze7 hm) (by have:=hy clock;rw[Z7,Array.toList_push];exact this) ?_;simp[Instr.mapUpdate,run_underlying ht,MapKept.run_getObj_map hb,hck,hfk,MapKept.run_setObj_map _ hb]
 ·have hfk:=MapKept.run_findKey (P:=P) (w:=S.w) hk hfn
  have hjj:es[j]? = some en:=by simpa using hj
  refine fin (es.modify j λe=>{ e with key:=.int .i64 n,val:=v }) clock (z3k hm) (by rw[Z7,Array.toList_modify];exact hy) ?_;simp[Instr.mapUpdate,run_underlying ht,MapKept.run_getObj_map hb,hck,hfk,hjj,hkey,Instr.keyThatStays,Instr.sameBits,MapKept.run_setObj_map _ hb]
theorem ze9(es:List MapEntry):(es.flatMap fE).length=2 * es.length:=by
 induction es with
 |nil=>rfl
 |cons e es ih=>simp only[BI,Ai,Ty,List.length_cons,List.length_nil,ih];omega
theorem XC{S:MS}{xs:List AV}{es:Array MapEntry}{clock:Nat}(h:AB S xs (UQ (.map es clock))):xs.length=2 * es.size:=by
 exact h.length.symm.trans (ze9 es.toList)
theorem zr0{xs:List AV}:∀{es:List MapEntry}{i:Nat}{e:MapEntry},AB S xs (es.flatMap fE)->es[i]? = some e->VRel S (xs.getD (2 * i) .any) e.key/\VRel S (xs.getD (2 * i+1) .any) e.val:=by
 intro es i e hx he
 have h1:(es.flatMap fE)[2 * i]? = some e.key/\(es.flatMap fE)[2 * i+1]? = some e.val:=by
  clear hx
  induction es generalizing i with
  |nil=>simp at he
  |cons d es ih =>
   cases i with
   |zero =>
    simp only[List.getElem?_cons_zero,Aq] at he;subst he;simp[Ty]
   |succ i =>
    obtain⟨k1,k2⟩:=ih (i:=i) (by simpa using he);constructor
    ·rw[BI,Ty,show 2 * (i+1)=2 * i+2 by omega];simpa using k1
    ·rw[BI,Ty,show 2 * (i+1)+1=2 * i+1+2 by omega];simpa using k2
 have key:∀{xs:List AV}{vs:List Value}{j:Nat}{v:Value},AB S xs vs->vs[j]? = some v->VRel S (xs.getD j .any) v:=by
  intro xs
  induction xs with
  |nil=>intro vs j v h hv;have:vs=[]:=h;subst this;simp at hv
  |cons x xs ih =>
   intro vs j v h hv;obtain⟨u,r,rfl,h1,h2⟩:=h;cases j with
   |zero=>simp only[List.getElem?_cons_zero,Aq] at hv;subst hv;exact h1
   |succ j=>simpa using ih h2 (by simpa using hv)
 exact⟨key hx h1.1,key hx h1.2⟩
theorem zr1(hS:SRel S H)(t ty:TypeId)(cs:Array Bool)(ts:Array TypeId)(h0:ts[0]? = some t){k e:TypeId}(ht:P.underlying t=some (.map k e)){v:Value}{xs:List AV}(hx:AB S xs [v])(h:AI P .lenM H xs K):
 OpOk P S ((builtin .len ts ty cs #[v]).run P S.w) K:=by
 obtain⟨x,rfl,hv⟩:=hx.len1;cases x<;>simp only[AI] at h<;>try exact h.elim
 rename_i g vn;obtain⟨⟨h1,h2,h3,h4⟩,hK⟩:=h;obtain⟨_,hg,_,hc⟩:=hv;have hG:=hS.live_of hg;obtain rfl:=hc (by rw[hG.ver,h1]);obtain⟨⟨o,hb,hm,hv⟩,_⟩:=hG.mlive h2 h3;obtain⟨es,clock,rfl⟩:=Pu hm hv (XB h4);have hl:(H.at_ g).xs.length=2 * es.size:=XC hv;refine B1 (x:=.int .i64 ((H.at_ g).xs.length / 2:Nat)) (v:=.int .i64 es.size) ?_ hS ?_ hK
 ·simp[builtin,Builtin.len_,h0,run_underlying ht,MapKept.run_getObj_map hb,goInt]
 ·show Value.int .i64 es.size=.int .i64 _
  rw[hl];simp
theorem zea(hS:SRel S H){t:TypeId}{k e:TypeId}(ht:P.underlying t=some (.map k e)){v:Value}{xs:List AV}(hx:AB S xs [v])(h:AI P .rangeM H xs K):OpOk P S ((do pure (Next.value (<-Instr.range t v)):Sem Next).run P S.w) K:=by
 obtain⟨x,rfl,hv⟩:=hx.len1;cases x<;>simp only[AI] at h<;>try exact h.elim
 rename_i g vn;obtain⟨⟨h1,h2,h3,h4⟩,hK⟩:=h;have hv0:VRel S (.map g vn) v:=hv;obtain⟨_,hg,_,hc⟩:=hv;have hG:=hS.live_of hg;obtain rfl:=hc (by rw[hG.ver,h1]);obtain⟨⟨o,hb,hm,hv⟩,_⟩:=hG.mlive h2 h3;obtain⟨es,clock,rfl⟩:=Pu hm hv (XB h4);have hl:(H.at_ g).xs.length=2 * es.size:=XC hv;obtain⟨hm1,_⟩:=hm;have hlc:(((H.at_ g).xs.length / 2:Nat):Int)=clock:=by rw[hl,hm1];omega
 refine FH (S':=S.grow (.mapIter (some (S.place g)) clock #[] clock) 1 0 0) (v:=.pointer (some ⟨S.w.heap.size,0,none⟩)) ?_ (Evo.grow hS.im _ _ _ _) (hS.growO (o:=.mapIter (some (S.place g)) clock #[] clock) (xs:=itX g vn (H.at_ g).xs.length []) trivial ?_) ?_ hK
 ·simp[Instr.range,run_underlying ht,MapKept.run_getObj_map hb];rfl
 ·exact⟨_,_,rfl,hv0,_,_,rfl,by rw[hlc];rfl,_,_,rfl,by rw[hlc];rfl,rfl⟩
 ·refine⟨⟨_,rfl⟩,?_,?_,λ_=>?_⟩
  ·show H.n<S.n+1;rw[hS.n];omega
  ·show 1<=fput _ _ _ _;rw[<-hS.n,AM];exact Ab _
  ·show _=Value.pointer (some ⟨fput _ _ _ _,0 * fput _ _ _ _+0,none⟩);rw[<-hS.n,AM];simp
theorem RA{n:Nat}(hn:0<n)(w:World):∃i d,i<n/\w.drawn<=d/\(choose (.mapNext n)).run P w=.ok i { w with drawn:=d }:=by
 by_cases h:n<=1
 ·refine⟨0,w.drawn,hn,Ab _,?_⟩
  simp[choose,Sem.run,Question.forced,h]
 ·refine⟨_,w.drawn+1,Nat.mod_lt (w.tape w.drawn (.mapNext n)) hn,EY _,?_⟩
  simp[choose,Sem.run,Question.forced,h,Question.cut]
theorem Pv{w:World}{r:Nat}{m since last}{seen:Array Nat}(hb:w.heap[r]? = some (.mapIter m since seen last)):(getObj r).run P w=.ok (.mapIter m since seen last) w:=by
 simp[getObj,Sem.run,hb]
theorem XD{w:World}{r:Nat}{m since last}{seen:Array Nat}(o:Obj)(hb:w.heap[r]? = some (.mapIter m since seen last)):(setObj r o).run P w=.ok () { w with heap:=w.heap.setIfInBounds r o }:=by
 simp[setObj,Sem.run,hb]
theorem Va:∀{ids:List Nat}{seen:List Nat},AB S (ids.map λ(i:Nat)=>AV.int .i64 i) (seen.map λ(b:Nat)=>Value.int .i64 b)->seen=ids
 |[],seen,h=>by
  have:seen.map (λ(b:Nat)=>Value.int .i64 b)=[]:=h;simpa using this
 |i::ids,[],h=>by obtain⟨_,_,h1,_⟩:=h;cases h1
 |i::ids,b::seen,h=>by
  obtain⟨h1,h2⟩:=h.cons_inv;have h3:Value.int .i64 (b:Int)=.int .i64 (i:Int):=h1;have:=Va h2;subst this;simp only[Value.int.injEq,Dz] at h3;rw[show b=i by omega]
theorem seen_ints:∀(ids:List Nat),AB S (ids.map λ(i:Nat)=>AV.int .i64 i) (ids.map λ(b:Nat)=>Value.int .i64 b)
 |[]=>rfl
 |i::ids=>⟨_,_,rfl,rfl,seen_ints ids⟩
theorem z7f(hS:SRel S H){h:Nat}{hv:Nat}{v:Value}(hx:VRel S (.ptr h hv 0 0) v)(h1:(H.at_ h).ver=hv)(h2:(H.at_ h).w=0)(h3:(H.at_ h).exact=true){g vn:Nat}{ids:List Nat}(h4:(H.at_ h).xs=itX g vn (H.at_ g).xs.length ids)(hM:OE H g vn):
 v=.pointer (some ⟨S.place h,0,none⟩)/\∃es:Array MapEntry,IsM (.map es es.size)/\S.w.heap[S.place g]? = some (.map es es.size)/\(H.at_ g).xs.length=2 * es.size/\AB S (H.at_ g).xs (es.toList.flatMap fE) /\
  S.w.heap[S.place h]? = some (.mapIter (some (S.place g)) es.size ids.toArray es.size)/\h<H.n/\VRel S (.map g vn) (.map (some (S.place g))):=by
 obtain⟨_,hh,_,hc⟩:=hx;have hG:=hS.live_of hh;refine⟨by rw[hc (by rw[hG.ver,h1])];simp,?_⟩;obtain⟨⟨o,hb,hm,hf⟩,_⟩:=hG.mlive h2 h3;rw[h4,itX] at hf;cases o<;>try exact hm.elim
 ·rename_i es clock
  obtain⟨_,hk⟩:=hm;obtain⟨v0,r0,e0,h0,_⟩:=hf;cases hes:es.toList with
  |nil=>simp[UQ,z75,hes] at e0
  |cons e es' =>
   obtain⟨_,n,hn⟩:=hk 0 e (by rw[<-D2,hes];rfl);simp only[UQ,z75,hes,BI,List.cons_append,EW] at e0;rw[<-e0.1,hn] at h0;obtain⟨⟨_,h0⟩,_⟩:=h0;cases h0
 ·rename_i m since seen last
  obtain⟨f1,f2⟩:=hf.cons_inv;obtain⟨f3,f4⟩:=f2.cons_inv;obtain⟨f5,f6⟩:=f4.cons_inv;have f0:=f1;obtain⟨_,hg,_,hcg⟩:=f1;have hGg:=hS.live_of hg;obtain⟨m1,m2,m3,m4⟩:=hM;have hmp:=hcg (by rw[hGg.ver,m1]);obtain⟨⟨o,gb,gm,gf⟩,_⟩:=hGg.mlive m2 m3;obtain⟨es,clock,rfl⟩:=Pu gm gf (XB m4);obtain⟨rfl,gk⟩:=gm;have hl:(H.at_ g).xs.length=2 * es.size:=XC gf;have hlh:(H.at_ g).xs.length / 2=es.size:=om
  rw[hlh] at f3 f5;have e3:Value.int .i64 (since:Int)=.int .i64 (es.size:Int):=f3;have e5:Value.int .i64 (last:Int)=.int .i64 (es.size:Int):=f5;simp only[Value.int.injEq,Dz] at e3 e5;have e6:=Va f6;simp only[Value.map.injEq] at hmp;subst hmp;rw[hlh] at *;refine⟨es,⟨rfl,gk⟩,gb,hl,gf,?_,by rw[<-hS.n];exact hh,f0⟩;rw[hb,show since=es.size by omega,show last=es.size by omega,<-e6]
theorem z7g{es:Array MapEntry}{ids:List Nat}(hk:∀(i:Nat)(e:MapEntry),es[i]? = some e->e.born=i/\∃n,e.key=.int .i64 n):(es.filter λe=>!(ids.toArray).contains e.born)=#[]->∀j,j<es.size->j∈ids:=λh j hj=>by
 rw[Array.filter_eq_empty_iff] at h;have:=h es[j] (De hj);rw[(hk j es[j] (by simp[hj])).1] at this;simpa using this
theorem zeb{v:Value}{x:AV}{d:Nat}{r:Result Next}(hr:r=.ok (.value v) { S.w with drawn:=d })(hS:SRel S H)(hd:S.w.drawn<=d)(hv:VRel S x v)(hK:K x H):OpOk P S r K:=by
 have ev:Evo S { S with w:={ S.w with drawn:=d } }:=⟨rfl,rfl,⟨rfl,hd⟩,rfl,Ab _,λ_ _=>rfl,λ_ hh=>hh,λ_ hh=>hh,λ_ hh=>.inl hh,Ab _,λ_ _=>Ab _,λ_ _ _=>⟨rfl,rfl,rfl⟩⟩;refine .inl ⟨v,{ S with w:={ S.w with drawn:=d } },x,H,.inl hr,ev,⟨hS.n,λg hg=>?_,hS.apart,hS.im⟩,VRel.mono ev _ hv,hK⟩;have hr:=hS.grp g hg;exact hr.mono' ev (by rw[hS.n];exact hg) rfl (λ_=>rfl) (λhq=>hr.has_ni hq)
theorem zln(hS:SRel S H)(ty:TypeId){v:Value}{xs:List AV}(hx:AB S xs [v])(h:AI P .nextM H xs K):OpOk P S ((do pure (Next.value (<-Instr.next v false ty)):Sem Next).run P S.w) K:=by
 obtain⟨x,rfl,hv⟩:=hx.len1;cases x<;>simp only[AI] at h<;>try exact h.elim
 rename_i hh hvn i o;obtain⟨rfl,rfl,h1,h2,h3,g,vn,ids,h4,hM,hY,hN⟩:=h;obtain⟨rfl,es,⟨_,hk⟩,gb,hl,gf,hb,hlt,hmv⟩:=z7f hS hv h1 h2 h3 h4 hM
 have hborn:∀e∈es,e.born<es.size:=λe he=>by
  obtain⟨j,hj,rfl⟩:=Array.getElem_of_mem he;rw[(hk j es[j] (by simp[hj])).1];exact hj
 have hc1:(!ids.toArray.isEmpty&&!es.isEmpty&&es.all (·.born≥es.size))=false:=by
  cases hes:es.isEmpty
  ·have:es.all (·.born≥es.size)=false:=by
    have h0:0<es.size:=by
     rcases Nat.eq_zero_or_pos es.size with h0|h0
     ·rw[Array.isEmpty_iff_size_eq_zero.2 h0] at hes;cases hes
     ·exact h0
    rw[Array.all_eq_false];exact⟨0,h0,by have:=hborn es[0] (De h0);simp;omega⟩
   rw[this,E8]
  ·simp
 generalize hL:(es.filter λe=>!(ids.toArray).contains e.born)=left
 have hle:∀e∈left,e∈es/\e.born∉ids:=λe he=>by
  rw[<-hL,Array.mem_filter] at he;exact⟨he.1,by simpa using he.2⟩
 have hold:left.filter (λe=>decide (e.born<es.size))=left:=by
  rw[Array.filter_eq_self];intro e he;exact Bv (hborn e (hle e he).1)
 have hnew:left.filter (λe=>decide (e.born≥es.size))=#[]:=by
  rw[Array.filter_eq_empty_iff];intro e he;have:=hborn e (hle e he).1;simp;omega
 have hrun:(Instr.next (.pointer (some ⟨S.place hh,0,none⟩)) false ty).run P S.w=((do
  match ((if left.isEmpty then #[none] else #[])++left.map some)[<-choose (.mapNext ((if left.isEmpty then #[none] else #[])++left.map some).size)]? with
  |some (some e) =>
   setObj (S.place hh) (.mapIter (some (S.place g)) es.size (ids.toArray.push e.born) es.size)
   pure (.tuple #[.bool true,e.key,e.val])
  |some none=>pure (.tuple #[.bool false])
  | none => stuck "Next: no such candidate") : Sem Value).run P S.w := by
  simp only[Instr.next,Sem.run_bind,Pv hb,MapKept.run_getObj_map gb,Result.andThen,hc1,hL,hold,hnew,Array.append_empty,A8,Bq,Sem.run_pure];rfl
 by_cases he:left=#[]
 ·subst he
  have hK:=hN λj hj=>z7g hk hL j om;obtain⟨i,d,hi,hd,hch⟩:=RA (P:=P) (n:=1) om S.w;obtain rfl:i=0:=om
  refine zeb (d:=d) (v:=.tuple #[.bool false]) ?_ hS hd (x:=.tup [.bool false]) ⟨[.bool false],rfl,_,_,rfl,rfl,rfl⟩ hK;have e1:((if (#[]:Array MapEntry).isEmpty=true then #[none] else #[])++Array.map some (#[]:Array MapEntry))=(#[none]:Array (Option MapEntry)):=oc
  rw[e1] at hrun;rw[show (#[none]:Array (Option MapEntry)).size=1 from rfl] at hrun;rw[Sem.run_bind,hrun,Sem.run_bind,hch];rfl
 ·have hle0:left.isEmpty=false:=by simpa using he
  have hpos:0<(left.map some).size:=by rw[Array.size_map];exact Nat.pos_of_ne_zero λh=>he (Array.size_eq_zero_iff.1 h)
  obtain⟨i,d,hi,hd,hch⟩:=RA (P:=P) hpos S.w;rw[Array.size_map] at hi;obtain⟨hm1,hm2⟩:=hle left[i] (De hi);obtain⟨j,hj,hje⟩:=Array.getElem_of_mem hm1;have hjs:es[j]? = some left[i]:=by simp[hj,hje]
  obtain⟨hb1,_⟩:=hk j left[i] hjs;obtain⟨f1,f2⟩:=zr0 (i:=j) gf (by rw[<-hjs];simp);have hK:=hY j om (by rw[<-hb1];exact hm2);obtain⟨q1,q2⟩:=MapKept.heap_set (w:={ S.w with drawn:=d }) (o':=.mapIter (some (S.place g)) es.size (ids.toArray.push j) es.size) hb
  obtain⟨ev,hS'⟩:=hS.setM hlt h2 h3 { S.w with drawn:=d,heap:=S.w.heap.setIfInBounds (S.place hh) (.mapIter (some (S.place g)) es.size (ids.toArray.push j) es.size) } rfl ⟨rfl,hd⟩ rfl oc q2
   (o:=.mapIter (some (S.place g)) es.size (ids.toArray.push j) es.size) trivial q1 (ys:=itX g vn (H.at_ g).xs.length (ids++[j])) (by
    have e:(H.at_ g).xs.length / 2=es.size:=om
    rw[itX,e];refine⟨_,_,rfl,hmv,_,_,rfl,rfl,_,_,rfl,rfl,?_⟩;have:=seen_ints (S:=S) (ids++[j])
    simpa using this)
  rw[h1] at hS';refine .inl ⟨.tuple #[.bool true,left[i].key,left[i].val],_,.tup [.bool true,(H.at_ g).xs.getD (2 * j) .any,(H.at_ g).xs.getD (2 * j+1) .any],_,.inl ?_,ev,hS',⟨[.bool true,left[i].key,left[i].val],rfl,_,_,rfl,rfl,_,_,rfl,VRel.mono ev _ f1,_,_,rfl,VRel.mono ev _ f2,rfl⟩,hK⟩;have e1:((if left.isEmpty=true then #[none] else #[])++Array.map some left)=left.map some:=by simp[hle0]
  have e2:(left.map some)[i]? = some (some left[i]):=by simp[hi]
  have e3:=XD (P:=P) (w:={ S.w with drawn:=d }) (.mapIter (some (S.place g)) es.size (ids.toArray.push left[i].born) es.size) hb;rw[e1] at hrun;rw[Sem.run_bind,hrun,Sem.run_bind,hch];simp only[Result.andThen,e2];rw[Sem.run_bind,e3,hb1];rfl
theorem zec(hS:SRel S H){v:Value}{xs:List AV}(hx:AB S xs [v])(h:AI P .entryM H xs K):OpOk P S ((do pure (Next.value (<-Instr.entry v)):Sem Next).run P S.w) K:=by
 obtain⟨x,rfl,hv⟩:=hx.len1;cases x<;>simp only[AI] at h<;>try exact h.elim
 rename_i hh hvn i o;obtain⟨rfl,rfl,h1,h2,h3,g,vn,ids,j,h4,hM,hj,hK⟩:=h;obtain⟨rfl,es,⟨_,hk⟩,gb,hl,gf,hb,hlt,hmv⟩:=z7f hS hv h1 h2 h3 h4 hM;have hjl:j<es.size:=om
 have hjs:es[j]? = some es[j]:=by simp[hjl]
 obtain⟨f1,f2⟩:=zr0 (i:=j) gf (by rw[<-hjs];simp)
 have hfind:es.find? (λe=>e.born == j)=some es[j]:=by
  rw[Array.find?_eq_some_iff_getElem];refine⟨by simp[(hk j _ hjs).1],j,hjl,rfl,λk hkj=>?_⟩;have hks:es[k]? = some es[k]:=by simp[Nat.lt_trans hkj hjl]
  simp[(hk k _ hks).1];omega
 refine B1 (v:=.tuple #[es[j].key,es[j].val]) (x:=.tup [(H.at_ g).xs.getD (2 * j) .any,(H.at_ g).xs.getD (2 * j+1) .any]) ?_ hS ⟨[es[j].key,es[j].val],rfl,_,_,rfl,f1,_,_,rfl,f2,rfl⟩ hK;simp[Instr.entry,Sem.run_bind,Pv hb,MapKept.run_getObj_map gb,Result.andThen,hfind]
end
end Go.Proofs.YtflibbceibjddaaGreat.Abs
