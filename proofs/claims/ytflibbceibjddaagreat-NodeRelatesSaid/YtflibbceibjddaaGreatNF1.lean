/-
  Parts of the proof that the law holds whatever the input; without conditions.
-/
import Derived.WalkKit
import Derived.Still
import Derived.Laws.Cover4
import Derived.StillTail
import Derived.MapKept
import Derived.MapFrom
set_option linter.unusedSimpArgs false
set_option linter.unusedVariables false
set_option linter.unusedSectionVars false
namespace Go.Proofs.YtflibbceibjddaaGreat.Abs
abbrev Aa:=@And.intro
abbrev B7:=@Array.all_eq_true_iff_forall_mem
abbrev E7:=@Array.ext'
abbrev Dn:=@Array.getD_eq_getD_getElem?
abbrev BH:=@Array.getElem?_append_left
abbrev DI:=@Array.getElem?_eq_getElem
abbrev C5:=@Array.getElem?_eq_none
abbrev Bl:=@Array.getElem?_eq_some_iff
abbrev E8:=@Array.getElem?_mapIdx
abbrev Dw:=@Array.getElem?_modify
abbrev E9:=@Array.getElem?_toList
abbrev Eu:=@Array.getElem_mem
abbrev DJ:=@Array.mapM_eq_mapM_toList
abbrev Cw:=@Array.setIfInBounds_comm
abbrev Fx:=@Array.size_append
abbrev CM:=@Array.size_modify
abbrev D5:=@Array.toList_extract
abbrev Ac:=@Bool.and_eq_true
abbrev CX:=@Bool.and_false
abbrev Do:=@Bool.and_true
abbrev Dp:=@Bool.eq_iff_iff
abbrev Bp:=@Bool.false_and
abbrev A8:=@Bool.false_eq_true
abbrev AA:=@Bool.not_eq_true'
abbrev Ev:=@Bool.not_false
abbrev FA:=@Bool.not_true
abbrev EX:=@Bool.or_eq_true
abbrev DX:=@Bool.or_false
abbrev AO:=@Bool.true_and
abbrev AN:=@Classical.byContradiction
abbrev Fy:=@Iff.rfl
abbrev C9:=@Int.ediv_le_ediv
abbrev FX:=@Int.ediv_nonneg
abbrev BB:=@Int.emod_lt_of_pos
abbrev BM:=@Int.emod_nonneg
abbrev DY:=@Int.eq_ofNat_of_zero_le
abbrev BJ:=@Int.le_refl
abbrev DK:=@Int.lt_or_le
abbrev FT:=@Int.mul_comm
abbrev Dx:=@Int.mul_ediv_add_emod
abbrev CY:=@Int.mul_le_mul_of_nonneg_left
abbrev Ek:=@Int.mul_le_mul_of_nonneg_right
abbrev Fs:=@Int.mul_nonneg
abbrev EN:=@Int.pow_pos
abbrev BE:=@Int.toNat_of_nonneg
abbrev FU:=@Int.zero_add
abbrev EA:=@List.Pairwise.sublist
abbrev AP:=@List.all_eq_true
abbrev Cl:=@List.any_eq_true
abbrev A3:=@List.append_assoc
abbrev A4:=@List.append_nil
abbrev DZ:=@List.cons.injEq
abbrev CZ:=@List.drop_append_of_le_length
abbrev BV:=@List.drop_eq_getElem_cons
abbrev Eo:=@List.drop_eq_nil_of_le
abbrev An:=@List.drop_of_length_le
abbrev B6:=@List.drop_zero
abbrev Ay:=@List.eq_nil_of_length_eq_zero
abbrev CV:=@List.eq_of_mem_replicate
abbrev Cm:=@List.ext_getElem
abbrev CF:=@List.filter_append
abbrev Cg:=@List.filter_cons
abbrev Da:=@List.flatMap_append
abbrev CN:=@List.flatMap_cons
abbrev C6:=@List.flatMap_singleton
abbrev CO:=@List.foldl_append
abbrev Ar:=@List.forall_mem_nil
abbrev DU:=@List.getD_cons_succ
abbrev As:=@List.getD_eq_getElem?_getD
abbrev A9:=@List.getElem?_append_left
abbrev AD:=@List.getElem?_append_right
abbrev BS:=@List.getElem?_drop
abbrev Al:=@List.getElem?_eq_getElem
abbrev B9:=@List.getElem?_eq_none
abbrev AI:=@List.getElem?_eq_some_iff
abbrev D1:=@List.getElem?_map
abbrev D6:=@List.getElem?_of_mem
abbrev Cz:=@List.getElem?_set_ne
abbrev Ep:=@List.getElem?_set_self
abbrev BU:=@List.getElem?_take
abbrev Dy:=@List.getElem?_toArray
abbrev EJ:=@List.getElem_map
abbrev BY:=@List.getElem_mem
abbrev Bv:=@List.getElem_of_mem
abbrev Ej:=@List.getElem_range
abbrev Aj:=@List.length_append
abbrev BI:=@List.length_filter_le
abbrev AY:=@List.length_map
abbrev Db:=@List.length_pos_iff
abbrev Er:=@List.length_pos_of_mem
abbrev CP:=@List.length_range
abbrev Ea:=@List.length_set
abbrev BA:=@List.length_take
abbrev BL:=@List.mapM_cons
abbrev Aw:=@List.map_append
abbrev AT:=@List.map_congr_left
abbrev AR:=@List.map_cons
abbrev Gk:=@List.map_eq_nil_iff
abbrev Gl:=@List.map_id
abbrev CH:=@List.map_map
abbrev AZ:=@List.map_nil
abbrev Dm:=@List.map_replicate
abbrev Ao:=@List.mem_append
abbrev C0:=@List.mem_append_left
abbrev CG:=@List.mem_append_right
abbrev Af:=@List.mem_cons
abbrev Bn:=@List.mem_filter
abbrev DR:=@List.mem_flatMap
abbrev Ax:=@List.mem_map
abbrev D7:=@List.mem_of_getElem?
abbrev BF:=@List.mem_of_mem_drop
abbrev B8:=@List.mem_of_mem_take
abbrev Bq:=@List.mem_range
abbrev Am:=@List.mem_singleton
abbrev CQ:=@List.nodup_append
abbrev BN:=@List.nodup_cons
abbrev CE:=@List.nodup_iff_pairwise_ne
abbrev Dc:=@List.nodup_nil
abbrev DT:=@List.nodup_range
abbrev Ai:=@List.not_mem_nil
abbrev D8:=@List.pairwise_append
abbrev AM:=@List.pairwise_cons
abbrev Cq:=@List.pairwise_iff_getElem
abbrev Fz:=@List.pairwise_map
abbrev Eb:=@List.pairwise_singleton
abbrev EO:=@List.range_eq_range'
abbrev FY:=@List.range_succ
abbrev EP:=@List.set_append_left
abbrev Dz:=@List.set_append_right
abbrev BP:=@List.size_toArray
abbrev CL:=@List.takeWhile_append_dropWhile
abbrev Ck:=@List.take_append_drop
abbrev Cx:=@List.take_append_of_le_length
abbrev Ec:=@List.take_left'
abbrev A7:=@List.take_length
abbrev Az:=@List.take_of_length_le
abbrev F0:=@List.take_sublist
abbrev Bo:=@Nat.add_assoc
abbrev Ci:=@Nat.add_comm
abbrev AG:=@Nat.add_mul
abbrev FZ:=@Nat.div_add_mod
abbrev CB:=@Nat.le_add_right
abbrev DL:=@Nat.le_of_eq
abbrev FL:=@Nat.le_of_not_lt
abbrev Ad:=@Nat.le_refl
abbrev Cr:=@Nat.le_succ
abbrev AJ:=@Nat.le_trans
abbrev Cj:=@Nat.lt_irrefl
abbrev AX:=@Nat.lt_of_lt_of_le
abbrev Ak:=@Nat.lt_or_ge
abbrev Ew:=@Nat.lt_trichotomy
abbrev Co:=@Nat.min_eq_left
abbrev EK:=@Nat.mod_eq_of_lt
abbrev CI:=@Nat.mul_comm
abbrev Ca:=@Nat.mul_le_mul
abbrev AU:=@Nat.mul_le_mul_right
abbrev ER:=@Nat.mul_one
abbrev Ba:=@Nat.not_lt_zero
abbrev Dd:=@Nat.one_mul
abbrev C1:=@Nat.pow_le_pow_right
abbrev Bb:=@Nat.zero_add
abbrev Au:=@Nat.zero_le
abbrev Fi:=@Nat.zero_mul
abbrev De:=@Ne.symm
abbrev B0:=@Option.bind_eq_some_iff
abbrev DN:=@Option.isNone_iff_eq_none
abbrev Ag:=@Option.map_eq_some_iff
abbrev BW:=@Option.some.inj
abbrev Aq:=@Option.some.injEq
abbrev BK:=@beq_iff_eq
abbrev Dl:=@congrArg
abbrev B1:=@decide_eq_decide
abbrev Bc:=@decide_eq_false
abbrev AQ:=@decide_eq_false_iff_not
abbrev AE:=@decide_eq_true
abbrev Ah:=@decide_eq_true_eq
abbrev Be:=@decide_false
abbrev Bu:=@decide_true
abbrev Dq:=@eq_true
abbrev Bm:=@false_or
abbrev AH:=@forall_eq
abbrev Av:=@forall_eq_or_imp
abbrev Bt:=@if_false
abbrev Ab:=@if_neg
abbrev Ae:=@if_pos
abbrev Bi:=@if_true
abbrev B2:=@not_false_eq_true
abbrev CR:=@not_or
abbrev F1:=@or_assoc
abbrev Ap:=@or_false
abbrev BC:=@or_true
abbrev Ey:=@true_and
abbrev BD:=@true_or
inductive AV where
 |any
 |bool (b:Bool)
 |int (k:IntKind) (n:Int)
 |str (s:List UInt8)
 |nilS
 |nul
 |emp
 |lst (w:Nat) (xs:List AV)
 |full (w:Nat) (xs:List AV)
 |map (g v:Nat)
 |ref (g v off len:Nat)
 |cptr (x:AV)
 |ptr (g v i o:Nat)
 |nilP
 |agg (cs:List AV)
 |tup (vs:List AV)
 |fn (f:Nat) (caps:List AV)
 |nilF
 |yld (l:Nat)
 deriving Inhabited
structure MS where
 w:World
 im:Nat->Prop
 keep:Nat->Prop
 n:Nat
 place:Nat->Nat
 cur:Nat->Nat
 cap:Nat->Nat
 wid:Nat->Nat
 base:Nat
def Laid(w:World)(b o wd:Nat)(v:Value):Prop:=v.cells.size=wd/\(∀c∈v.cells,c.oneCell'=true)/\∀j,j<wd->w.cell? ⟨b,o+j,none⟩=v.cells[j]?
mutual
def AV.pure:AV->Bool
 |.ref ..|.ptr ..|.map ..=>false
 |.agg cs|.tup cs|.fn _ cs=>Bh cs
 |.lst _ xs|.full _ xs=>Bh xs
 |.cptr x=>x.pure
 |.any|.bool _|.int ..|.str _|.nilS|.nul|.emp|.nilP|.nilF|.yld _=>true
def Bh:List AV->Bool
 |[]=>true
 |x::xs=>x.pure&&Bh xs
end
def Ng(w:World)(b o wd:Nat)(vs:List Value):Prop:=∀i v,vs[i]? = some v->Laid w b (o+i * wd) wd v
mutual
def VRel(S:MS):AV->Value->Prop
 |.any,_=>True
 |.bool b,v=>v=.bool b
 |.int k n,v=>v=.int k n
 |.str s,v=>v=.string ⟨s.toArray⟩
 |.nilS,v=>v=.slice none 0 0
 |.nul,v=>∃a,v=.slice a 0 0
 |.emp,v=>∃a cap,v=.slice (some a) 0 cap
 |.lst wd xs,v=>Bh xs=true/\0<wd/\∃a cap vs,v=.slice a xs.length cap/\(xs.length<=cap/\(a=none->cap=0))/\AB S xs vs /\
  (xs≠[]->∃b o,a=some ⟨b,o,none⟩/\S.im b/\Ng S.w b o wd vs)
 |.full wd xs,v=>Bh xs=true/\0<wd/\∃a vs,v=.slice a xs.length xs.length/\(a=none->xs.length=0)/\AB S xs vs /\
  (xs≠[]->∃b o,a=some ⟨b,o,none⟩/\S.im b/\Ng S.w b o wd vs)
 |.map g vn,v=>(∃a,v=.map (some a))/\g<S.n/\vn<=S.cur g/\(S.cur g=vn->v=.map (some (S.place g)))
 |.ref g vn off len,v=>(∃a c,v=.slice a len c/\(a=none->len=0))/\g<S.n/\vn<=S.cur g/\(S.cur g=vn->∃a cap',v=.slice a len cap' /\
  ((a=some ⟨S.place g,off * S.wid g,none⟩/\cap'=S.cap g-off/\off+len<=S.cap g)\/(len=0/\cap'=0/\S.cap g<=off)))
 |.cptr x,v=>x.pure=true/\∃b o u,v=.pointer (some ⟨b,o,none⟩)/\S.im b/\VRel S x u/\Laid S.w b o u.cells.size u
 |.ptr g vn i o,v=>(∃a,v=.pointer (some a))/\g<S.n/\vn<=S.cur g/\(S.cur g=vn->v=.pointer (some ⟨S.place g,i * S.wid g+o,none⟩))
 |.nilP,v=>v=.pointer none
 |.agg cs,v=>∃vs:List Value,v=.agg vs.toArray/\AB S cs vs
 |.tup cs,v=>∃vs:List Value,v=.tuple vs.toArray/\AB S cs vs
 |.fn f cs,v=>∃vs:List Value,v=.func (.func f) #[] vs.toArray/\AB S cs vs
 |.nilF,v=>v=.nilFunc
 |.yld l,v=>v=.func (.yield l) #[] #[]
def AB(S:MS):List AV->List Value->Prop
 |[],vs=>vs=[]
 |x::xs,vs=>∃v r,vs=v::r/\VRel S x v/\AB S xs r
end
def Gw(cells:Array Value)(wd:Nat)(vs:List Value):Prop :=
 ∀i v,vs[i]? = some v->v.cells.size=wd/\(∀c∈v.cells,c.oneCell'=true)/\∀j,j<wd->cells[i * wd+j]? = v.cells[j]?
structure Grp where
 w:Nat
 ver:Nat
 exact:Bool
 xs:List AV
 deriving Inhabited
structure A5 where
 n:Nat
 at_:Nat->Grp
 deriving Inhabited
def A5.nil:A5:=⟨0,λ_=>default⟩
def hput(f:Nat->Grp)(g:Nat)(G:Grp):Nat->Grp:=λj=>if j=g then G else f j
def A5.push(H:A5)(G:Grp):A5:=⟨H.n+1,hput H.at_ H.n G⟩
def A5.set(H:A5)(g:Nat)(G:Grp):A5:=⟨H.n,hput H.at_ g G⟩
def z8o(es:Array MapEntry):List Value:=es.toList.flatMap λe=>[e.key,e.val]
def Grp.has(G:Grp)(c:Nat):Prop:=(0<G.w/\0<c)\/(G.w=0/\G.exact=true)
structure GRel(S:MS)(G:Grp)(g:Nat):Prop where
 ver:S.cur g=G.ver
 wid:S.wid g=G.w
 live:0<G.w->0<S.cap g->(∃cells T vs,S.w.heap[S.place g]? = some (.cells cells T (0,0))/\cells.size=S.cap g * G.w/\AB S G.xs vs/\Gw cells G.w vs) /\
  ¬(S.im (S.place g)\/S.keep (S.place g))
 len:0<G.w->G.xs.length<=S.cap g
 full:0<G.w->G.exact=true->G.xs.length=S.cap g
 mlive:G.w=0->G.exact=true->(∃es clock,S.w.heap[S.place g]? = some (.map es clock)/\AB S G.xs (z8o es))/\¬(S.im (S.place g)\/S.keep (S.place g))
structure SRel(S:MS)(H:A5):Prop where
 n:S.n=H.n
 grp:∀g,g<H.n->GRel S (H.at_ g) g
 apart:∀g g',g<H.n->g'<H.n->g≠g'->(H.at_ g).has (S.cap g)->(H.at_ g').has (S.cap g')->S.place g≠S.place g'
 im:∀b,S.im b\/S.keep b->b<S.w.heap.size
def JW(w' w:World):Prop:=w'.tape=w.tape/\w.drawn<=w'.drawn
theorem JW.trans{a b c:World}(h:JW c b)(k:JW b a):JW c a:=⟨h.1.trans k.1,AJ k.2 h.2⟩
structure Evo(S S':MS):Prop where
 base:S'.base=S.base
 os:S'.w.os=S.w.os
 tape:JW S'.w S.w
 output:S'.w.output=S.w.output
 size:S.w.heap.size<=S'.w.heap.size
 kept:∀b,S.im b\/S.keep b->S'.w.heap[b]? = S.w.heap[b]?
 im:∀b,S.im b->S'.im b
 keep:∀b,S.keep b->S'.keep b
 fresh:∀b,S'.im b->S.im b\/¬S.keep b
 n:S.n<=S'.n
 cur:∀g,g<S.n->S.cur g<=S'.cur g
 same:∀g,g<S.n->S'.cur g=S.cur g->S'.place g=S.place g/\S'.cap g=S.cap g/\S'.wid g=S.wid g
theorem Evo.block{S S':MS}(e:Evo S S')(b:Nat)(h:S.im b):S'.w.heap[b]? = S.w.heap[b]? := e.kept b (.inl h)
theorem Evo.refl(S:MS):Evo S S:=⟨rfl,rfl,⟨rfl,Ad _⟩,rfl,Ad _,λ_ _=>rfl,λ_ h=>h,λ_ h=>h,λ_ h=>.inl h,Ad _,λ_ _=>Ad _,λ_ _ _=>⟨rfl,rfl,rfl⟩⟩
theorem Evo.trans{A B C:MS}(h:Evo A B)(k:Evo B C):Evo A C where
 base:=k.base.trans h.base
 os:=k.os.trans h.os
 tape:=k.tape.trans h.tape
 output:=k.output.trans h.output
 size:=AJ h.size k.size
 kept b hb:=(k.kept b (hb.imp (h.im b) (h.keep b))).trans (h.kept b hb)
 im b hb:=k.im b (h.im b hb)
 keep b hb:=k.keep b (h.keep b hb)
 fresh b hb:=(k.fresh b hb).elim (h.fresh b) (λhn=>.inr λhk=>hn (h.keep b hk))
 n:=AJ h.n k.n
 cur g hg:=AJ (h.cur g hg) (k.cur g (AX hg h.n))
 same g hg e:=by
  have h1:=h.cur g hg;have h2:=k.cur g (AX hg h.n);have e1:B.cur g=A.cur g:=by omega
  have e2:C.cur g=B.cur g:=by omega
  obtain⟨p1,p2,p3⟩:=h.same g hg e1;obtain⟨q1,q2,q3⟩:=k.same g (AX hg h.n) e2;exact⟨q1.trans p1,q2.trans p2,q3.trans p3⟩
theorem Laid.mono{w w':World}{b o wd:Nat}{v:Value}(hb:w'.heap[b]? = w.heap[b]?)(h:Laid w b o wd v):Laid w' b o wd v :=
 ⟨h.1,h.2.1,λj hj=>by rw[World.cell?_of_block (w:=w) hb];exact h.2.2 j hj⟩
theorem Ng.mono{w w':World}{b o wd:Nat}{vs:List Value}(hb:w'.heap[b]? = w.heap[b]?)(h:Ng w b o wd vs):Ng w' b o wd vs :=
 λi v hv=>(h i v hv).mono hb
structure Evi(S S':MS):Prop where
 block:∀b,S.im b->S'.w.heap[b]? = S.w.heap[b]?
 im:∀b,S.im b->S'.im b
 n:S.n<=S'.n
 cur:∀g,g<S.n->S.cur g<=S'.cur g
 same:∀g,g<S.n->S'.cur g=S.cur g->S'.place g=S.place g/\S'.cap g=S.cap g/\S'.wid g=S.wid g
theorem Evo.evi{S S':MS}(e:Evo S S'):Evi S S':=⟨e.block,e.im,e.n,e.cur,e.same⟩
mutual
theorem VRel.moni{S S':MS}(e:Evi S S'):∀(x:AV){v:Value},VRel S x v->VRel S' x v
 |.any,_,_=>trivial
 |.bool _,_,h=>h
 |.int _ _,_,h=>h
 |.str _,_,h=>h
 |.nilS,_,h=>h
 |.nul,_,h=>h
 |.emp,_,h=>h
 |.nilP,_,h=>h
 |.nilF,_,h=>h
 |.yld _,_,h=>h
 |.lst wd xs,v,h=>by
  obtain⟨hp,hw,a,cap,vs,hv,hc,hl,hr⟩:=h;exact⟨hp,hw,a,cap,vs,hv,hc,AB.moni e xs hl,λhne=>let ⟨b,o,ha,hi,hrow⟩:=hr hne;⟨b,o,ha,e.im b hi,hrow.mono (e.block b hi)⟩⟩
 |.ref g vn off len,v,h=>by
  obtain⟨hs,hg,hc,hv⟩:=h;refine⟨hs,AX hg e.n,AJ hc (e.cur g hg),λh'=>?_⟩;have:=e.cur g hg;have ec:S'.cur g=S.cur g:=by omega
  obtain⟨p1,p2,p3⟩:=e.same g hg ec;rw[p1,p2,p3];exact hv (by omega)
 |.full wd xs,v,h=>by
  obtain⟨hp,hw,a,vs,hv,hc,hl,hr⟩:=h;exact⟨hp,hw,a,vs,hv,hc,AB.moni e xs hl,λhne=>let ⟨b,o,ha,hi,hrow⟩:=hr hne;⟨b,o,ha,e.im b hi,hrow.mono (e.block b hi)⟩⟩
 |.map g vn,v,h=>by
  obtain⟨hs,hg,hc,hv⟩:=h;refine⟨hs,AX hg e.n,AJ hc (e.cur g hg),λh'=>?_⟩;have:=e.cur g hg;have ec:S'.cur g=S.cur g:=by omega
  obtain⟨p1,p2,p3⟩:=e.same g hg ec;rw[p1];exact hv (by omega)
 |.cptr x,v,h=>by
  obtain⟨hp,b,o,u,hv,hi,hx,hl⟩:=h;exact⟨hp,b,o,u,hv,e.im b hi,VRel.moni e x hx,hl.mono (e.block b hi)⟩
 |.ptr g vn i o,v,h=>by
  obtain⟨hs,hg,hc,hv⟩:=h;refine⟨hs,AX hg e.n,AJ hc (e.cur g hg),λh'=>?_⟩;have:=e.cur g hg;have ec:S'.cur g=S.cur g:=by omega
  obtain⟨p1,p2,p3⟩:=e.same g hg ec;rw[p1,p3];exact hv (by omega)
 |.agg cs,v,h=>by
  obtain⟨vs,hv,h⟩:=h;exact⟨vs,hv,AB.moni e cs h⟩
 |.tup cs,v,h=>by
  obtain⟨vs,hv,h⟩:=h;exact⟨vs,hv,AB.moni e cs h⟩
 |.fn f cs,v,h=>by
  obtain⟨vs,hv,h⟩:=h;exact⟨vs,hv,AB.moni e cs h⟩
theorem AB.moni{S S':MS}(e:Evi S S'):∀(xs:List AV){vs:List Value},AB S xs vs->AB S' xs vs
 |[],_,h=>h
 |x::xs,vs,h=>by
  obtain⟨v,r,hv,h1,h2⟩:=h;exact⟨v,r,hv,VRel.moni e x h1,AB.moni e xs h2⟩
end
theorem VRel.mono{S S':MS}(e:Evo S S')(x:AV){v:Value}(h:VRel S x v):VRel S' x v:=VRel.moni e.evi x h
theorem AB.mono{S S':MS}(e:Evo S S')(xs:List AV){vs:List Value}(h:AB S xs vs):AB S' xs vs:=AB.moni e.evi xs h
theorem K3{S:MS}{w:Nat}{xs:List AV}{v:Value}(h:VRel S (.full w xs) v):VRel S (.lst w xs) v:=by
 obtain⟨hp,hw,a,vs,hv,hc,hl,hr⟩:=h;exact⟨hp,hw,a,_,vs,hv,⟨Ad _,hc⟩,hl,hr⟩
theorem Gw.row{w:World}{b:Nat}{cells:Array Value}{T:TypeId}{fz:Nat × Nat}{wd:Nat}{vs:List Value}(hb:w.heap[b]? = some (.cells cells T fz))(h:Gw cells wd vs):Ng w b 0 wd vs :=
 λi v hv=>by
  obtain⟨h1,h2,h3⟩:=h i v hv;refine⟨h1,h2,λj hj=>?_⟩;rw[<-h3 j hj];simp[World.cell?,hb]
theorem AB.length{S:MS}:∀{xs:List AV}{vs:List Value},AB S xs vs->vs.length=xs.length
 |[],_,h=>by rw[show _=[] from h];rfl
 |_::_,_,⟨_,_,hv,_,h2⟩=>by rw[hv];simp[AB.length h2]
theorem AB.get{S:MS}:∀{xs:List AV}{vs:List Value},AB S xs vs->∀{i:Nat}{x:AV},xs[i]? = some x->∃v,vs[i]? = some v/\VRel S x v
 |[],_,_,i,x,hx=>by simp at hx
 |y::ys,vs,⟨v,r,hv,h1,h2⟩,i,x,hx=>by
  subst hv;cases i with
  |zero=>simp at hx;subst hx;exact⟨v,rfl,h1⟩
  |succ i=>simp at hx;simpa using AB.get h2 hx
theorem AB.append{S:MS}:∀{xs ys:List AV}{vs us:List Value},AB S xs vs->AB S ys us->AB S (xs++ys) (vs++us)
 |[],_,_,_,h,k=>by rw[show _=[] from h];simpa using k
 |_::_,_,_,_,⟨v,r,hv,h1,h2⟩,k=>by subst hv;exact⟨v,r++_,rfl,h1,AB.append h2 k⟩
theorem AB.of_get{S:MS}:∀{xs:List AV}{vs:List Value},vs.length=xs.length->(∀(i:Nat)(x:AV)(v:Value),xs[i]? = some x->vs[i]? = some v->VRel S x v)->AB S xs vs
 |[],vs,hl,_=>by show vs=[];simpa using hl
 |x::xs,[],hl,_=>by simp at hl
 |x::xs,v::vs,hl,h=>⟨v,vs,rfl,h 0 x v rfl rfl,AB.of_get (by simpa using hl) (λi y u hy hu=>h (i+1) y u (by simpa using hy) (by simpa using hu))⟩
theorem AB.take{S:MS}{xs:List AV}{vs:List Value}(h:AB S xs vs)(n:Nat):AB S (xs.take n) (vs.take n) :=
 AB.of_get (by simp[h.length]) λi x v hx hv=>by
  rw[BU] at hx hv;split at hx
  ·rename_i hi
   rw[Ae hi] at hv;obtain⟨u,hu,hr⟩:=h.get hx;rw[hu] at hv;cases hv;exact hr
  ·cases hx
theorem AB.drop{S:MS}{xs:List AV}{vs:List Value}(h:AB S xs vs)(n:Nat):AB S (xs.drop n) (vs.drop n) :=
 AB.of_get (by simp[h.length]) λi x v hx hv=>by
  rw[BS] at hx hv;obtain⟨u,hu,hr⟩:=h.get hx;rw[hu] at hv;cases hv;exact hr
theorem AB.set{S:MS}{xs:List AV}{vs:List Value}(h:AB S xs vs){i:Nat}{x:AV}{v:Value}(hx:VRel S x v):AB S (xs.set i x) (vs.set i v) :=
 AB.of_get (by simp[h.length]) λj y u hy hu=>by
  by_cases hij:i=j
  ·subst hij
   rw[List.getElem?_set] at hy hu;simp only[Bi] at hy hu;split at hy
   ·cases hy
    split at hu
    ·cases hu;exact hx
    ·cases hu
   ·cases hy
  ·rw[Cz hij] at hy hu
   obtain⟨u',hu',hr⟩:=h.get hy;rw[hu'] at hu;cases hu;exact hr
theorem AB.one{S:MS}{x:AV}{v:Value}(h:VRel S x v):AB S [x] [v]:=⟨v,[],rfl,h,rfl⟩
theorem AB.cons_inv{S:MS}{x:AV}{xs:List AV}{v:Value}{vs:List Value}(h:AB S (x::xs) (v::vs)):VRel S x v/\AB S xs vs:=by
 obtain⟨u,r,hv,h1,h2⟩:=h;cases hv;exact⟨h1,h2⟩
def AV.cells:AV->List AV
 |.agg cs=>cs
 |x=>[x]
def AV.isAny:AV->Bool
 |.any=>true
 |_=>false
theorem VRel.cells{S:MS}{x:AV}{v:Value}(hx:x.isAny=false)(h:VRel S x v):AB S x.cells v.cells.toList:=by
 cases x with
 |any=>cases hx
 |agg cs=>obtain⟨vs,rfl,h⟩:=h;simpa [Value.cells,AV.cells] using h
 |bool b=>rw[show v=_ from h];exact .one rfl
 |int k n=>rw[show v=_ from h];exact .one rfl
 |str s=>rw[show v=_ from h];exact .one rfl
 |nilS=>rw[show v=_ from h];exact .one rfl
 |nilP=>rw[show v=_ from h];exact .one rfl
 |nilF=>rw[show v=_ from h];exact .one rfl
 |yld l=>rw[show v=_ from h];exact .one rfl
 |nul=>have h':=h;obtain⟨a,rfl⟩:=h;exact .one h'
 |emp=>have h':=h;obtain⟨a,cap,rfl⟩:=h;exact .one h'
 |lst wd xs=>have h':=h;obtain⟨_,_,a,cap,vs,rfl,_⟩:=h;exact .one h'
 |full wd xs=>have h':=h;obtain⟨_,_,a,vs,rfl,_⟩:=h;exact .one h'
 |map g vn=>have h':=h;obtain⟨⟨a,rfl⟩,_⟩:=h;exact .one h'
 |cptr x=>have h':=h;obtain⟨_,b,o,u,rfl,_⟩:=h;exact .one h'
 |tup cs=>have h':=h;obtain⟨vs,rfl,_⟩:=h;exact .one h'
 |fn f cs=>have h':=h;obtain⟨vs,rfl,_⟩:=h;exact .one h'
 |ref g vn off len=>have h':=h;obtain⟨⟨a,c,rfl,_⟩,_⟩:=h;exact .one h'
 |ptr g vn i o=>have h':=h;obtain⟨⟨a,rfl⟩,_⟩:=h;exact .one h'
def fput{α:Type}(f:Nat->α)(i:Nat)(y:α):Nat->α:=λj=>if j=i then y else f j
theorem AL{α:Type}(f:Nat->α)(i:Nat)(y:α):fput f i y i=y:=by simp[fput]
theorem Ed{α:Type}(f:Nat->α){i j:Nat}(y:α)(h:j≠i):fput f i y j=f j:=by simp[fput,h]
def MS.grow(S:MS)(o:Obj)(ver cap wid:Nat):MS :=
 { w:=S.w.alloc o,im:=S.im,keep:=S.keep,n:=S.n+1,place:=fput S.place S.n S.w.heap.size,cur:=fput S.cur S.n ver,cap:=fput S.cap S.n cap,wid:=fput S.wid S.n wid,base:=S.base }
theorem heap_alloc_lt(w:World)(o:Obj)(k:Nat)(h:k<w.heap.size):(w.alloc o).heap[k]? = w.heap[k]? := by
 show (w.heap.push o)[k]? = _;rw[Array.getElem?_push,Ab (by omega)]
theorem heap_alloc_new(w:World)(o:Obj):(w.alloc o).heap[w.heap.size]? = some o:=by
 show (w.heap.push o)[w.heap.size]? = _;simp
theorem size_alloc(w:World)(o:Obj):(w.alloc o).heap.size=w.heap.size+1:=by
 show (w.heap.push o).size=_;simp
theorem Evo.grow{S:MS}(him:∀b,S.im b\/S.keep b->b<S.w.heap.size)(o:Obj)(ver cap wid:Nat):Evo S (S.grow o ver cap wid) where
 base:=rfl
 os:=rfl
 tape:=⟨rfl,Ad _⟩
 output:=rfl
 size:=by show _<=(S.w.alloc o).heap.size;rw[size_alloc];omega
 kept b hb:=heap_alloc_lt _ _ _ (him b hb)
 im _ h:=h
 keep _ h:=h
 fresh _ h:=.inl h
 n:=Cr _
 cur g hg:=by show _<=fput _ _ _ _;rw[Ed _ _ (by omega)];exact Ad _
 same g hg _:=⟨Ed _ _ (by omega),Ed _ _ (by omega),Ed _ _ (by omega)⟩
theorem A5.push_old(H:A5)(G:Grp){g:Nat}(h:g<H.n):(H.push G).at_ g=H.at_ g:=by
 show (if g=H.n then G else H.at_ g)=_;rw[Ab (by omega)]
theorem A5.push_new(H:A5)(G:Grp):(H.push G).at_ H.n=G:=by
 show (if H.n=H.n then G else _)=_;rw[Ae rfl]
theorem GRel.mono{S S':MS}(e:Evo S S'){G:Grp}{g:Nat}(hg:g<S.n)(h:GRel S G g)(hc:S'.cur g=S.cur g)(hb:0<G.w->0<S.cap g->S'.w.heap[S.place g]? = S.w.heap[S.place g]?)(hi:0<G.w->0<S.cap g->¬(S'.im (S.place g)\/S'.keep (S.place g)))
 (hmb:G.w=0->G.exact=true->S'.w.heap[S.place g]? = S.w.heap[S.place g]? /\ ¬(S'.im (S.place g)\/S'.keep (S.place g))):GRel S' G g:=by
 obtain⟨p1,p2,p3⟩:=e.same g hg hc;refine⟨hc.trans h.ver,p3.trans h.wid,λhw hc=>?_,λhw=>by rw[p2];exact h.len hw,λhw he=>by rw[p2];exact h.full hw he,λhw he=>?_⟩
 rotate_left
 ·obtain⟨⟨es,clock,h1,h2⟩,_⟩:=h.mlive hw he
  obtain⟨q1,q2⟩:=hmb hw he;rw[p1];exact⟨⟨es,clock,q1.trans h1,AB.mono e _ h2⟩,q2⟩
 rw[p2] at hc;obtain⟨⟨cells,T,vs,h1,h2,h3,h4⟩,_⟩:=h.live hw hc;rw[p1,p2];exact⟨⟨cells,T,vs,(hb hw hc).trans h1,h2,AB.mono e _ h3,h4⟩,hi hw hc⟩
theorem GRel.lt{S:MS}{G:Grp}{g:Nat}(h:GRel S G g)(hw:0<G.w)(hc:0<S.cap g):S.place g<S.w.heap.size:=by
 obtain⟨⟨cells,T,vs,h1,_⟩,_⟩:=h.live hw hc;exact (Bl.1 h1).1
theorem GRel.mlt{S:MS}{G:Grp}{g:Nat}(h:GRel S G g)(hw:G.w=0)(he:G.exact=true):S.place g<S.w.heap.size:=by
 obtain⟨⟨es,clock,h1,_⟩,_⟩:=h.mlive hw he;exact (Bl.1 h1).1
theorem GRel.has_lt{S:MS}{G:Grp}{g:Nat}(h:GRel S G g)(hh:G.has (S.cap g)):S.place g<S.w.heap.size:=by
 rcases hh with⟨h1,h2⟩|⟨h1,h2⟩
 ·exact h.lt h1 h2
 ·exact h.mlt h1 h2
theorem GRel.has_ni{S:MS}{G:Grp}{g:Nat}(h:GRel S G g)(hh:G.has (S.cap g)):¬(S.im (S.place g)\/S.keep (S.place g)):=by
 rcases hh with⟨h1,h2⟩|⟨h1,h2⟩
 ·exact (h.live h1 h2).2
 ·exact (h.mlive h1 h2).2
theorem GRel.mono'{S S':MS}(e:Evo S S'){G:Grp}{g:Nat}(hg:g<S.n)(h:GRel S G g)(hc:S'.cur g=S.cur g)(hb:G.has (S.cap g)->S'.w.heap[S.place g]? = S.w.heap[S.place g]?)(hi:G.has (S.cap g)->¬(S'.im (S.place g)\/S'.keep (S.place g))):GRel S' G g :=
 h.mono e hg hc (λhw hc=>hb (.inl ⟨hw,hc⟩)) (λhw hc=>hi (.inl ⟨hw,hc⟩)) (λhw he=>⟨hb (.inr ⟨hw,he⟩),hi (.inr ⟨hw,he⟩)⟩)
theorem SRel.grow{S:MS}{H:A5}(h:SRel S H)(cells:Array Value)(T:TypeId)(G:Grp)(cap:Nat)(hc:cells.size=cap * G.w)
 {vs:List Value} (hv:AB S G.xs vs) (hf:Gw cells G.w vs)
 (hx:G.xs.length<=cap) (he:G.exact=true->G.xs.length=cap) (hw0:0<G.w):SRel (S.grow (.cells cells T) G.ver cap G.w) (H.push G) where
 n:=by show S.n+1=H.n+1;rw[h.n]
 grp g hg:=by
  have e:=Evo.grow h.im (.cells cells T) G.ver cap G.w;by_cases hgn:g=H.n
  ·subst hgn
   rw[A5.push_new];refine⟨?_,?_,λ_ _=>⟨⟨cells,T,vs,?_,?_,AB.mono e _ hv,hf⟩,?_⟩,λ_=>?_,λ_=>?_,λh0=>by omega⟩
   ·show fput _ _ _ _=_;rw[<-h.n,AL]
   ·show fput _ _ _ _=_;rw[<-h.n,AL]
   ·show (S.w.alloc _).heap[fput _ _ _ _]? = _;rw[<-h.n,AL];exact heap_alloc_new _ _
   ·show _=fput _ _ _ _ * _;rw[<-h.n,AL];exact hc
   ·show ¬(S.im (fput _ _ _ _)\/S.keep (fput _ _ _ _));rw[<-h.n,AL];intro hh;have:=h.im _ hh;omega
   ·show _<=fput _ _ _ _;rw[<-h.n,AL];exact hx
   ·intro hh;show _=fput _ _ _ _;rw[<-h.n,AL];exact he hh
  ·have hg':g<H.n:=by have:g<H.n+1:=hg;omega
   rw[A5.push_old _ _ hg'];have hr:=h.grp g hg';refine hr.mono' e (by rw[h.n];exact hg') ?_ (λhh=>heap_alloc_lt _ _ _ (hr.has_lt hh)) (λhh=>?_)
   ·show fput _ _ _ _=_;rw[Ed _ _ (by rw[h.n];omega)]
   ·exact hr.has_ni hh
 apart g g' hg hg' hne hw1 hw2:=by
  have key:∀k,k<H.n+1->((H.push G).at_ k).has (fput S.cap S.n cap k)->(k=H.n/\fput S.place S.n S.w.heap.size k=S.w.heap.size)\/(k<H.n/\fput S.place S.n S.w.heap.size k=S.place k/\S.place k<S.w.heap.size/\(H.at_ k).has (S.cap k)):=by
   intro k hk hwk;by_cases hkn:k=H.n
   ·left;refine⟨hkn,?_⟩;rw[hkn,<-h.n,AL]
   ·right
    have hk':k<H.n:=by omega
    rw[A5.push_old _ _ hk'] at hwk;rw[Ed _ _ (by rw[h.n];omega)] at hwk;exact⟨hk',Ed _ _ (by rw[h.n];omega),(h.grp k hk').has_lt hwk,hwk⟩
  show fput _ _ _ _≠fput _ _ _ _;rcases key g hg hw1 with⟨a1,a2⟩|⟨a1,a2,a3,a4⟩<;>rcases key g' hg' hw2 with⟨b1,b2⟩|⟨b1,b2,b3,b4⟩
  ·omega
  ·rw[a2,b2];omega
  ·rw[a2,b2];omega
  ·rw[a2,b2];exact h.apart g g' a1 b1 hne a4 b4
 im b hb:=by show b<(S.w.alloc _).heap.size;rw[size_alloc];have:=h.im b hb;omega
theorem Evo.drew(S:MS):Evo S { S with w:=S.w.drew }:=⟨rfl,rfl,⟨rfl,Cr _⟩,rfl,Ad _,λ_ _=>rfl,λ_ h=>h,λ_ h=>h,λ_ h=>.inl h,Ad _,λ_ _=>Ad _,λ_ _ _=>⟨rfl,rfl,rfl⟩⟩
theorem SRel.drew{S:MS}{H:A5}(h:SRel S H):SRel { S with w:=S.w.drew } H :=
 ⟨h.n,λg hg=>(h.grp g hg).mono' (Evo.drew S) (by rw[h.n];exact hg) rfl (λ_=>rfl) (λhh=>(h.grp g hg).has_ni hh),h.apart,h.im⟩
def MS.virt(S:MS)(wid:Nat):MS:={ S with n:=S.n+1,cur:=fput S.cur S.n 1,cap:=fput S.cap S.n 0,wid:=fput S.wid S.n wid }
theorem Evo.virt{S:MS}(wid:Nat):Evo S (S.virt wid):=⟨rfl,rfl,⟨rfl,Ad _⟩,rfl,Ad _,λ_ _=>rfl,λ_ h=>h,λ_ h=>h,λ_ h=>.inl h,Cr _,
 λg hg=>by show _<=fput _ _ _ _;rw[Ed _ _ (by omega)];exact Ad _,λg hg _=>⟨rfl,Ed _ _ (by omega),Ed _ _ (by omega)⟩⟩
theorem SRel.virt{S:MS}{H:A5}(h:SRel S H)(wid:Nat)(hw0:0<wid):SRel (S.virt wid) (H.push ⟨wid,1,true,[]⟩) where
 n:=by show S.n+1=H.n+1;rw[h.n]
 grp g hg:=by
  by_cases hgn:g=H.n
  ·subst hgn
   rw[A5.push_new];have hc:(S.virt wid).cap H.n=0:=by show fput _ _ _ _=_;rw[<-h.n,AL]
   exact⟨by show fput _ _ _ _=_;rw[<-h.n,AL],by show fput _ _ _ _=_;rw[<-h.n,AL],λ_ h0=>by rw[hc] at h0;omega,λ_=>by rw[hc];exact Ad 0,λ_ _=>by rw[hc];rfl,λh0=>by have h0:wid=0:=h0;omega⟩
  ·have hg':g<H.n:=by have:g<H.n+1:=hg;omega
   rw[A5.push_old _ _ hg'];have hr:=h.grp g hg';exact hr.mono' (Evo.virt wid) (by rw[h.n];exact hg') (Ed _ _ (by rw[h.n];omega)) (λ_=>rfl) (λhh=>hr.has_ni hh)
 apart g g' hg hg' hne hw1 hw2:=by
  have key:∀k,k<H.n+1->((H.push ⟨wid,1,true,[]⟩).at_ k).has (fput S.cap S.n 0 k)->k<H.n/\(H.at_ k).has (S.cap k):=by
   intro k hk hwk;by_cases hkn:k=H.n
   ·rw[hkn,A5.push_new,<-h.n,AL] at hwk
    rcases hwk with⟨_,h2⟩|⟨h1,_⟩
    ·omega
    ·have h1:wid=0:=h1;omega
   ·have hk':k<H.n:=by omega
    rw[A5.push_old _ _ hk',Ed _ _ (by rw[h.n];omega)] at hwk;exact⟨hk',hwk⟩
  obtain⟨a1,a2⟩:=key g hg hw1;obtain⟨b1,b2⟩:=key g' hg' hw2;exact h.apart g g' a1 b1 hne a2 b2
 im:=h.im
def MS.moved(S:MS)(w':World)(g b' ver cap wid:Nat):MS :=
 { w:=w',im:=S.im,keep:=S.keep,n:=S.n,place:=fput S.place g b',cur:=fput S.cur g ver,cap:=fput S.cap g cap,wid:=fput S.wid g wid,base:=S.base }
theorem SRel.moved{S:MS}{H:A5}(h:SRel S H){g:Nat}(hg:g<H.n)(hl:0<(H.at_ g).w)(w':World)(b' cap':Nat)(G':Grp)
 (h1:w'.os=S.w.os) (h2:JW w' S.w) (h3:w'.output=S.w.output) (h4:S.w.heap.size<=w'.heap.size) (h5:∀b,¬(0<S.cap g/\b=S.place g)->b<S.w.heap.size->w'.heap[b]? = S.w.heap[b]?)
 (hb:(0<S.cap g/\b'=S.place g)\/S.w.heap.size<=b'\/cap'=0)
 (hm:0<cap'->∃cells T vs,w'.heap[b']? = some (.cells cells T (0,0))/\cells.size=cap' * G'.w/\AB S G'.xs vs/\Gw cells G'.w vs) (hx:G'.xs.length<=cap') (he:G'.exact=true->G'.xs.length=cap')
 (hw0:0<G'.w) (hver:S.cur g<=G'.ver) (hsame:G'.ver=S.cur g->b'=S.place g/\cap'=S.cap g/\G'.w=S.wid g) :
 Evo S (S.moved w' g b' G'.ver cap' G'.w)/\SRel (S.moved w' g b' G'.ver cap' G'.w) (H.set g G'):=by
 have hr:=h.grp g hg;have hni:0<S.cap g->¬(S.im (S.place g)\/S.keep (S.place g)):=λhc=>(hr.live hl hc).2;have hlt:0<S.cap g->S.place g<S.w.heap.size:=hr.lt hl
 have e:Evo S (S.moved w' g b' G'.ver cap' G'.w):=by
  refine⟨rfl,h1,h2,h3,h4,λb hb=>h5 b (λhh=>hni hh.1 (hh.2 ▸ hb)) (h.im b hb),λ_ hh=>hh,λ_ hh=>hh,λ_ hh=>.inl hh,Ad _,λk hk=>?_,λk hk hh=>?_⟩
  ·show _<=fput _ _ _ _
   by_cases hkg:k=g
   ·subst hkg;rw[AL];exact hver
   ·rw[Ed _ _ hkg];exact Ad _
  ·show fput _ _ _ _=_/\fput _ _ _ _=_/\fput _ _ _ _=_
   change fput _ _ _ _=_ at hh;by_cases hkg:k=g
   ·subst hkg
    rw[AL] at hh;rw[AL,AL,AL];exact hsame hh
   ·rw[Ed _ _ hkg,Ed _ _ hkg,Ed _ _ hkg];exact⟨rfl,rfl,rfl⟩
 have hni':0<cap'->¬(S.im b'\/S.keep b'):=by
  intro hc;rcases hb with hb|hb|hb
  ·rw[hb.2];exact hni hb.1
  ·intro hh;have:=h.im _ hh;omega
  ·omega
 refine⟨e,h.n,λk hk=>?_,λk k' hk hk' hne hw1 hw2=>?_,λb hb=>?_⟩
 ·by_cases hkg:k=g
  ·subst hkg
   have:(H.set k G').at_ k=G':=by show (if _ then _ else _)=_;rw[Ae rfl]
   rw[this];have hcap:(S.moved w' k b' G'.ver cap' G'.w).cap k=cap':=by show fput _ _ _ _=_;rw[AL]
   refine⟨?_,?_,λ_ hc=>?_,λ_=>?_,λ_=>?_,λh0=>by omega⟩
   ·show fput _ _ _ _=_;rw[AL]
   ·show fput _ _ _ _=_;rw[AL]
   ·rw[hcap] at hc
    obtain⟨cells,T,vs,m1,m2,m3,m4⟩:=hm hc;refine⟨⟨cells,T,vs,?_,?_,AB.mono e _ m3,m4⟩,?_⟩
    ·show w'.heap[fput _ _ _ _]? = _;rw[AL];exact m1
    ·rw[hcap];exact m2
    ·show ¬(S.im (fput _ _ _ _)\/S.keep (fput _ _ _ _));rw[AL];exact hni' hc
   ·rw[hcap];exact hx
   ·intro hh;rw[hcap];exact he hh
  ·have:(H.set g G').at_ k=H.at_ k:=by show (if _ then _ else _)=_;rw[Ab hkg]
   rw[this];have hrk:=h.grp k hk;refine hrk.mono' e (by rw[h.n];exact hk) ?_ (λhq=>h5 _ (λhh=>h.apart k g hk hg hkg hq (.inl ⟨hl,hh.1⟩) hh.2) (hrk.has_lt hq)) (λhq=>hrk.has_ni hq);show fput _ _ _ _=_;rw[Ed _ _ hkg]
 ·have hk0:k<H.n:=hk
  have hk0':k'<H.n:=hk';have hat:∀j,j≠g->(H.set g G').at_ j=H.at_ j:=λj hj=>by show (if _ then _ else _)=_;rw[Ab hj]
  have hcap:∀j,(S.moved w' g b' G'.ver cap' G'.w).cap j=if j=g then cap' else S.cap j:=λj=>rfl
  show fput _ _ _ _≠fput _ _ _ _;rw[hcap] at hw1 hw2;have hgs:(H.set g G').at_ g=G':=by show (if _ then _ else _)=_;rw[Ae rfl]
  by_cases hkg:k=g
  ·subst hkg
   have hk'g:k'≠k:=De hne;rw[hat k' hk'g,Ab hk'g] at hw2;rw[hgs,Ae rfl] at hw1
   have hc1:0<cap':=by
    rcases hw1 with⟨_,hh⟩|⟨hh,_⟩
    ·exact hh
    ·omega
   rw[AL,Ed _ _ hk'g];have h6:=(h.grp k' hk0').has_lt hw2;rcases hb with hb|hb|hb
   ·rw[hb.2];exact De (h.apart k' k hk0' hg hk'g hw2 (.inl ⟨hl,hb.1⟩))
   ·omega
   ·omega
  ·rw[hat k hkg,Ab hkg] at hw1
   rw[Ed _ _ hkg];have h6:=(h.grp k hk0).has_lt hw1;by_cases hk'g:k'=g
   ·subst hk'g
    rw[hgs,Ae rfl] at hw2
    have hc2:0<cap':=by
     rcases hw2 with⟨_,hh⟩|⟨hh,_⟩
     ·exact hh
     ·omega
    rw[AL];rcases hb with hb|hb|hb
    ·rw[hb.2];exact h.apart k k' hk0 hg hkg hw1 (.inl ⟨hl,hb.1⟩)
    ·omega
    ·omega
   ·rw[hat k' hk'g,Ab hk'g] at hw2
    rw[Ed _ _ hk'g];exact h.apart k k' hk0 hk0' hne hw1 hw2
 ·show b<w'.heap.size
  have:=h.im b hb;omega
abbrev Env:=Nat->AV
inductive AArg where
 |slot (t:Nat)
 |const (x:AV)
def AArg.eval(env:Env):AArg->AV
 |.slot t=>env t
 |.const x=>x
inductive AK where
 |mv
 |pick
 |alloc (zero:AV) (w:Nat)
 |box
 |build (zero:List AV) (places:List (Nat × Nat)) (idx:List Nat)
 |bslice (w len:Nat) (zero:AV) (idx:List Nat)
 |load (a:Bool) (s:Nat)
 |store (s:Nat)
 |nilCheck
 |bin (op:BinOp)
 |eqb (neg:Bool)
 |eqs (neg:Bool) (ks:List Nat)
 |eqn (neg:Bool)
 |un (op:UnOp)
 |conv (k:IntKind)
 |toStr
 |runStr
 |slice (w:Nat) (lo hi mx:Bool)
 |faddr (a:Bool) (off s:Nat)
 |field (a:Bool) (off s:Nat)
 |iaddr (w:Nat)
 |iaddrA (n w:Nat) (a:Bool)
 |index (n w:Nat) (a:Bool)
 |indexStr
 |extract (i:Nat)
 |len (str:Bool)
 |app (w bytes:Nat) (zero:AV)
 |max
 |min
 |mkSlice (w bytes:Nat) (zero:AV)
 |mkFunc (f:Nat)
 |mkMap
 |mapGet (zero:AV)
 |mapSet
 |call
 |cap
 |appZ (w bytes:Nat) (zero:AV)
 |clr (w:Nat) (zero:AV)
 |no
def z8p:Value->Option AV
 |.bool b=>some (.bool b)
 |.int k n=>some (.int k n)
 |.string s=>some (.str s.data.toList)
 |.slice none 0 0=>some .nilS
 |.pointer none=>some .nilP
 |.nilFunc=>some .nilF
 |_=>none
def z8q:List Value->Option (List AV)
 |[]=>some []
 |v::vs=>match z8p v,z8q vs with
  |some x,some xs=>some (x::xs)
  |_,_=>none
def avOf:Value->Option AV
 |.agg cs=>(z8q cs.toList).map .agg
 |v=>z8p v
def Enters(P:Program)(f:Nat):Prop:=∀cargs w,(callFunc f cargs).run P w=.ok (.enter f cargs) w
def B3(P:Program)(f:Nat)(xs:List AV)(H:A5)(K:AV->A5->Prop):Prop :=
 Enters P f/\∀(S:MS)(cargs:List Value),SRel S H->AB S xs cargs ->
  Calls P f cargs.toArray S.w λe w'=>∃v S' x H',e=.returned v/\S'.w=w'/\Evo S S'/\SRel S' H'/\VRel S' x v/\K x H'
theorem B3.mono{P:Program}{f:Nat}{xs:List AV}{H:A5}{K K':AV->A5->Prop}(h:B3 P f xs H K)(hk:∀x H',K x H'->K' x H'):B3 P f xs H K' :=
 ⟨h.1,λS cargs hS hx=>(h.2 S cargs hS hx).mono λ_ _ ⟨v,S',x,H',h1,h2,h3,h4,h5,h6⟩=>⟨v,S',x,H',h1,h2,h3,h4,h5,hk _ _ h6⟩⟩
def Ga(a:Bool)(off s:Nat)(x:AV):AV:=if a then .agg ((x.cells.drop off).take s) else x.cells.getD off .any
def JX(w o s:Nat)(e x:AV):AV:=if s=w then x else .agg (e.cells.take o++x.cells++e.cells.drop (o+s))
def AV.one:AV->Bool
 |.any|.agg _|.tup _=>false
 |_=>true
def Ez:List AV->Bool
 |[]=>true
 |x::xs=>x.one&&Ez xs
def eq1:Nat->AV->AV->Option Bool
 |1,.int k a,.int k' b=>if k=k' then some (decide (a=b)) else none
 |0,.bool a,.bool b=>some (a == b)
 |2,.str a,.str b=>some (decide (a=b))
 |_,_,_=>none
def eqL:List Nat->List AV->List AV->Option Bool
 |[],[],[]=>some true
 |k::ks,x::xs,y::ys=>match eq1 k x y,eqL ks xs ys with
  |some a,some b=>some (a&&b)
  |_,_=>none
 |_,_,_=>none
def JE(op:BinOp)(k:IntKind)(a b:Int):Int :=
 match op with
 |.and=>k.wrap (BitVec.ofInt k.bits a &&& BitVec.ofInt k.bits b).toNat
 |.or=>k.wrap (BitVec.ofInt k.bits a ||| BitVec.ofInt k.bits b).toNat
 |.xor=>k.wrap (BitVec.ofInt k.bits a ^^^ BitVec.ofInt k.bits b).toNat
 |_=>k.wrap (BitVec.ofInt k.bits a &&& ~~~BitVec.ofInt k.bits b).toNat
def binI(op:BinOp)(k:IntKind)(a b:Int)(K:AV->Prop):Prop :=
 match op with
 |.add=>K (.int k (k.wrap (a+b)))
 |.sub=>K (.int k (k.wrap (a-b)))
 |.mul=>K (.int k (k.wrap (a * b)))
 |.quo=>b≠0/\K (.int k (k.wrap (a.tdiv b)))
 |.rem=>b≠0/\K (.int k (a.tmod b))
 |.and=>K (.int k (JE .and k a b))
 |.or=>K (.int k (JE .or k a b))
 |.xor=>K (.int k (JE .xor k a b))
 |.andNot=>K (.int k (JE .andNot k a b))
 |.eql=>K (.bool (decide (a=b)))
 |.neq=>K (.bool (!decide (a=b)))
 |.lss=>K (.bool (decide (a<b)))
 |.leq=>K (.bool (decide (a<=b)))
 |.gtr=>K (.bool (decide (b<a)))
 |.geq=>K (.bool (decide (b<=a)))
 |.shl|.shr=>False
def Gx(H:A5):AV->Option (List AV)
 |.nilS|.nul|.emp=>some []
 |.lst _ xs|.full _ xs=>some xs
 |.ref g _ off len=>some (((H.at_ g).xs.drop off).take len)
 |.str s=>some (s.map λb=>.int .u8 b.toNat)
 |_=>none
def Gy(H:A5)(w:Nat):AV->Prop
 |.nilS|.nul|.emp=>True
 |.str _=>w=1
 |.lst w' _|.full w' _=>w'=w
 |.ref g v off len=>(H.at_ g).ver=v/\(H.at_ g).w=w/\off+len<=(H.at_ g).xs.length
 |_=>False
def Rr(places:List (Nat × Nat)):List Nat->List AV->List AV->Option (List AV)
 |[],[],cs=>some cs
 |i::is,x::xs,cs=>match places[i]? with
  |some (off,s)=>if x.cells.length=s/\Ez x.cells=true/\off+s<=cs.length then Rr places is xs (cs.take off++x.cells++cs.drop (off+s)) else none
  |none=>none
 |_,_,_=>none
def F2:List Nat->List AV->List AV->List AV
 |i::is,x::xs,es=>F2 is xs (es.set i x)
 |_,_,es=>es
def HH(w len:Nat):List Nat->List AV->Prop
 |[],[]=>True
 |i::is,x::xs=>i<len/\x.cells.length=w/\Ez x.cells=true/\HH w len is xs
 |_,_=>False
def GB(w:Nat)(x:AV)(lo hi mx:Option Int)(H:A5)(K:AV->Prop):Prop :=
 match mx,x with
 |some m,x=>m=0/\hi=some 0/\(lo=none\/lo=some 0)/\(match x with|.nilS=>K .nilS|.nul|.lst ..|.full ..|.ref ..=>K .nul|_=>False)
 |none,.nilS=>(lo=none\/lo=some 0)/\(hi=none\/hi=some 0)/\K .nilS
 |none,.nul=>(lo=none\/lo=some 0)/\(hi=none\/hi=some 0)/\K .nul
 |none,.lst w' xs=>w'=w/\0<=lo.getD 0/\lo.getD 0<=hi.getD xs.length/\hi.getD xs.length<=xs.length/\K (.lst w' ((xs.take (hi.getD xs.length).toNat).drop (lo.getD 0).toNat))
 |none,.full w' xs=>w'=w/\0<=lo.getD 0/\lo.getD 0<=hi.getD xs.length/\hi.getD xs.length<=xs.length/\K (.lst w' ((xs.take (hi.getD xs.length).toNat).drop (lo.getD 0).toNat))
 |none,.ref g v off len=>(H.at_ g).ver=v/\(H.at_ g).w=w/\0<w/\0<=lo.getD 0/\lo.getD 0<=hi.getD len/\(hi.getD len<=len\/(H.at_ g).exact=true/\off+hi.getD len<=(H.at_ g).xs.length) /\
  K (.ref g v (off+(lo.getD 0).toNat) ((hi.getD len).toNat-(lo.getD 0).toNat))
 |_,_=>False
def optA:Bool->List AV->Option (Option Int × List AV)
 |true,.int _ n::l=>some (some n,l)
 |false,l=>some (none,l)
 |_,_=>none
def IF(z:AV)(n:Int):List AV->Option AV
 |[]=>some z
 |.int .i64 m::y::r=>if m=n then some y else IF z n r
 |_=>none
def setM(n:Int)(x:AV):List AV->Option (List AV)
 |[]=>some [.int .i64 n,x]
 |.int .i64 m::y::r=>if m=n then some (.int .i64 m::x::r) else (setM n x r).map λr'=>.int .i64 m::y::r'
 |_=>none
def JY(w bytes:Nat)(s:AV)(news:List AV)(H:A5)(K:AV->A5->Prop):Prop :=
 match s with
 |.nilS|.nul=>news.length * bytes<=140737488355328/\K (.ref H.n 1 0 news.length) (H.push ⟨w,1,news.isEmpty,news⟩)
 |.full w' xs=>w'=w/\(news.length=0->K (.full w' xs) H)/\(0<news.length->(xs.length+news.length) * bytes<=140737488355328/\K (.ref H.n 1 0 (xs.length+news.length)) (H.push ⟨w,1,false,xs++news⟩))
 |.ref g v off len =>
  (H.at_ g).ver=v/\(H.at_ g).w=w/\(len+news.length) * bytes<=140737488355328/\off+len<=(H.at_ g).xs.length /\
  (match (!(H.at_ g).exact||(H.at_ g).xs.isEmpty) with
   |false =>
    (off+len+news.length<=(H.at_ g).xs.length->K (.ref g v off (len+news.length)) (H.set g ⟨w,v,true,(H.at_ g).xs.take (off+len)++news++(H.at_ g).xs.drop (off+len+news.length)⟩)) /\
    ((H.at_ g).xs.length<off+len+news.length->K (.ref H.n 1 0 (len+news.length)) (H.push ⟨w,1,false,((H.at_ g).xs.drop off).take len++news⟩))
   |true=>(off=0\/off+len=(H.at_ g).xs.length)/\(off+len=(H.at_ g).xs.length->K (.ref g (v+1) off (len+news.length)) (H.set g ⟨w,v+1,(H.at_ g).exact&&news.isEmpty,(H.at_ g).xs++news⟩)) /\
    (off+len<(H.at_ g).xs.length->off+len+news.length<=(H.at_ g).xs.length/\K (.ref g v off (len+news.length)) (H.set g ⟨w,v,(H.at_ g).exact,(H.at_ g).xs.take (off+len)++news++(H.at_ g).xs.drop (off+len+news.length)⟩)) /\
    (off≠0->K (.ref g (v+1) 0 (len+news.length)) (H.set g ⟨w,v+1,(H.at_ g).exact&&news.isEmpty,(H.at_ g).xs.drop off++news⟩)))
 |_=>False
def offA:List AV->Prop
 |.ref _ _ off _::_=>off=0
 |_=>True
def Rs:AK->List AV->Prop
 |.app ..,xs=>offA xs
 |_,_=>True
def optK{α:Type}(o:Option α)(f:α->Prop):Prop:=match o with
 |some x=>f x
 |none=>False
theorem Cn{α:Type}{o:Option α}{f:α->Prop}(h:optK o f):∃x,o=some x/\f x:=by
 cases o with
 |none=>exact h.elim
 |some x=>exact⟨x,rfl,h⟩
def JZ(zs:List Int):List UInt8:=(runesBytes zs).data.toList
def AF(P:Program):AK->A5->List AV->(AV->A5->Prop)->Prop
 |.mv,H,[x],K=>K x H
 |.pick,H,[.bool c,a,b],K=>K (bif c then a else b) H
 |.alloc z w,H,[],K=>K (.ptr H.n 1 0 0) (H.push ⟨w,1,true,[z]⟩)
 |.box,H,[x],K=>Ez x.cells=true/\0<x.cells.length/\K (.ptr H.n 1 0 0) (H.push ⟨x.cells.length,1,true,[x]⟩)
 |.build z places idx,H,xs,K=>optK (Rr places idx xs z) λcs=>K (.agg cs) H
 |.bslice w len z idx,H,xs,K=>HH w len idx xs/\K (.ref H.n 1 0 len) (H.push ⟨w,1,true,F2 idx xs (List.replicate len z)⟩)
 |.load a s,H,[.cptr x],K=>x.isAny=false/\x.cells.length=s/\(a=false->s=1)/\K (Ga a 0 s x) H
 |.load a s,H,[.ptr g v i o],K=>(H.at_ g).ver=v/\i<(H.at_ g).xs.length/\((H.at_ g).xs.getD i .any).isAny=false/\((H.at_ g).xs.getD i .any).cells.length=(H.at_ g).w/\0<s/\o+s<=(H.at_ g).w /\
  (a=false->s=1)/\K (Ga a o s ((H.at_ g).xs.getD i .any)) H
 |.store s,H,[.ptr g v i o,x],K=>(H.at_ g).ver=v/\i<(H.at_ g).xs.length/\0<s/\o+s<=(H.at_ g).w/\x.cells.length=s/\Ez x.cells=true /\
  (s=(H.at_ g).w\/((H.at_ g).xs.getD i .any).isAny=false/\((H.at_ g).xs.getD i .any).cells.length=(H.at_ g).w) /\
  K .any (H.set g ⟨(H.at_ g).w,v,(H.at_ g).exact,(H.at_ g).xs.set i (JX (H.at_ g).w o s ((H.at_ g).xs.getD i .any) x)⟩)
 |.nilCheck,H,[x],K=>match x with
  |.cptr _|.ptr ..|.fn ..=>K x H
  |_=>False
 |.bin op,H,[.int k a,.int k' b],K=>match op with
  |.shl=>0<=b/\K (.int k (k.wrap (a * 2 ^ (Min.min b.toNat k.bits)))) H
  |.shr=>0<=b/\K (.int k (a.fdiv (2 ^ (Min.min b.toNat k.bits)))) H
  |op=>k=k'/\binI op k a b λx=>K x H
 |.bin op,H,[.str a,.str b],K=>match op with
  |.eql=>K (.bool (decide (a=b))) H
  |.neq=>K (.bool (!decide (a=b))) H
  |_=>False
 |.eqb neg,H,[.bool a,.bool b],K=>K (.bool (if neg then !(a == b) else a == b)) H
 |.eqs neg ks,H,[.agg as,.agg bs],K=>optK (eqL ks as bs) λb=>K (.bool (if neg then !b else b)) H
 |.eqn neg,H,[x,.nilS],K=>match x with
  |.nilS=>K (.bool (!neg)) H
  |.emp=>K (.bool neg) H
  |.lst _ xs|.full _ xs=>xs≠[]/\K (.bool neg) H
  |.ref _ _ _ len=>0<len/\K (.bool neg) H
  |_=>False
 |.un op,H,[x],K=>match op,x with
  |.not,.bool b=>K (.bool (!b)) H
  |.neg,.int k n=>K (.int k (k.wrap (0-n))) H
  |_,_=>False
 |.conv k,H,[.int _ n],K=>K (.int k (k.wrap n)) H
 |.runStr,H,[x],K=>Gy H 1 x/\(match x with|.str _=>False|_=>True)/\∃zs:List Int,Gx H x=some (zs.map (AV.int .i32))/\K (.str (JZ zs)) H
 |.toStr,H,[x],K=>Gy H 1 x/\(match x with|.str _=>False|_=>True)/\∃bs:List UInt8,Gx H x=some (bs.map λb=>.int .u8 b.toNat)/\K (.str bs) H
 |.slice w lo hi mx,H,x::l,K =>
  optK (optA lo l) λp=>optK (optA hi p.2) λq=>optK (optA mx q.2) λr=>r.2=[]/\GB w x p.1 q.1 r.1 H λy=>K y H
 |.faddr a off s,H,[.cptr x],K=>x.isAny=false/\off+s<=x.cells.length/\(a=false->s=1)/\0<s/\K (.cptr (Ga a off s x)) H
 |.faddr _ off _,H,[.ptr g v i o],K=>(H.at_ g).ver=v/\K (.ptr g v i (o+off)) H
 |.field a off s,H,[.agg cs],K=>off+s<=cs.length/\(a=false->s=1)/\K (Ga a off s (.agg cs)) H
 |.iaddr w,H,[.lst w' xs,.int _ i],K=>w'=w/\0<=i/\i<xs.length/\K (.cptr (xs.getD i.toNat .any)) H
 |.iaddr w,H,[.full w' xs,.int _ i],K=>w'=w/\0<=i/\i<xs.length/\K (.cptr (xs.getD i.toNat .any)) H
 |.iaddr w,H,[.ref g v off len,.int _ i],K=>(H.at_ g).ver=v/\(H.at_ g).w=w/\0<=i/\i<len/\K (.ptr g v (off+i.toNat) 0) H
 |.iaddrA n w _,H,[.ptr g v i o,.int _ j],K=>(H.at_ g).ver=v/\0<=j/\j<n/\K (.ptr g v i (o+j.toNat * w)) H
 |.iaddrA n w a,H,[.cptr x,.int _ j],K=>x.isAny=false/\0<=j/\j<n/\n * w<=x.cells.length/\(a=false->w=1)/\0<w/\K (.cptr (Ga a (j.toNat * w) w x)) H
 |.index n w a,H,[.agg cs,.int _ j],K=>0<=j/\j<n/\n * w<=cs.length/\(a=false->w=1)/\K (Ga a (j.toNat * w) w (.agg cs)) H
 |.indexStr,H,[.str s,.int _ j],K=>0<=j/\j<s.length/\K (.int .u8 (s.getD j.toNat 0).toNat) H
 |.extract i,H,[.tup vs],K=>i<vs.length/\K (vs.getD i .any) H
 |.len false,H,[x],K=>match x with
  |.nilS|.nul|.emp=>K (.int .i64 0) H
  |.lst _ xs|.full _ xs=>K (.int .i64 xs.length) H
  |.ref _ _ _ len=>K (.int .i64 len) H
  |_=>False
 |.len true,H,[.str s],K=>K (.int .i64 s.length) H
 |.app w bytes _,H,[s,x],K=>Gy H w x/\optK (Gx H x) λnews=>JY w bytes s news H K
 |.max,H,[.int k a,.int k' b],K=>k=k'/\K (.int k (Max.max a b)) H
 |.min,H,[.int k a,.int k' b],K=>k=k'/\K (.int k (Min.min a b)) H
 |.mkSlice w bytes z,H,[.int _ l,.int _ c],K=>0<=l/\l<=c/\c * bytes<=140737488355328/\K (.ref H.n 1 0 l.toNat) (H.push ⟨w,1,true,List.replicate c.toNat z⟩)
 |.mkFunc f,H,xs,K=>K (.fn f xs) H
 |.mkMap,H,[],K=>K (.map H.n 1) (H.push ⟨0,1,true,[]⟩)
 |.mapGet z,H,[.map g v,.int k n],K=>k=.i64/\(H.at_ g).ver=v/\(H.at_ g).w=0/\(H.at_ g).exact=true/\optK (IF z n (H.at_ g).xs) λy=>K y H
 |.mapSet,H,[.map g v,.int k n,x],K=>k=.i64/\(H.at_ g).ver=v/\(H.at_ g).w=0/\(H.at_ g).exact=true/\optK (setM n x (H.at_ g).xs) λys=>K .any (H.set g ⟨0,v,true,ys⟩)
 |.call,H,.fn f caps::xs,K=>B3 P f (xs++caps) H K
 |.cap,H,[.nilS],K=>K (.int .i64 0) H
 |.appZ w bytes z,H,[.nilS,.int _ n],K=>0<n/\n * bytes<=140737488355328/\K (.ref H.n 1 0 n.toNat) (H.push ⟨w,1,false,List.replicate n.toNat z⟩)
 |.clr w z,H,[.ref g v off len],K=>(H.at_ g).ver=v/\(H.at_ g).w=w/\off+len<=(H.at_ g).xs.length/\K (.tup []) (H.set g ⟨w,v,(H.at_ g).exact,(H.at_ g).xs.take off++List.replicate len z++(H.at_ g).xs.drop (off+len)⟩)
 |_,_,_,_=>False
def PT:TypeDesc->Bool
 |.struct _|.array _ _=>true
 |_=>false
def EY(P:Program)(t:TypeId):Option (Bool × Nat) :=
 match P.info? t,P.underlying t with
 |some i,some d=>if 0<i.size&&(PT d||i.size == 1) then some (PT d,i.size) else none
 |_,_=>none
def Xe:TypeDesc->Option Nat
 |.bool=>some 0
 |.int _=>some 1
 |.string=>some 2
 |_=>none
def Gz(P:Program):Nat->List Field->Option (List Nat)
 |_,[]=>some []
 | i, f :: fs => if f.offset == i && f.name != "_" then
  match (P.underlying f.type).bind Xe,Gz P (i+1) fs with
  |some k,some ks=>some (k::ks)
  |_,_=>none
  else none
def EZ(P:Program)(b:Builtin)(ts:Array TypeId):Option AK :=
 match b with
 |.len=>match ts[0]? with
  |some t=>match P.underlying t with
   |some (.slice _)=>some (.len false)
   |some .string=>some (.len true)
   |_=>none
  |none=>none
 |.cap=>match ts[0]? with
  |some t=>match P.underlying t with
   |some (.slice _)=>some .cap
   |_=>none
  |none=>none
 |.max=>some .max
 |.min=>some .min
 |.append=>match ts[0]?,ts[1]? with
  |some t,some u=>if ts=#[t,u] then
   match P.underlying t,P.underlying u with
   |some (.slice e),some (.slice _)|some (.slice e),some .string=>match P.info? e with
    |some i=>match i.zero with
     |some z=>match avOf z with
      |some x=>if 0<i.size&&0<i.bytes&&z.cells.size == i.size then some (.app i.size i.bytes x) else none
      |none=>none
     |none=>none
    |none=>none
   |some (.slice e),some (.int _)=>match P.info? e with
    |some i=>match i.zero with
     |some z=>match avOf z with
      |some x=>if 0<i.size&&0<i.bytes&&z.cells.size == i.size&&z.cells.all (·.oneCell') then some (.appZ i.size i.bytes x) else none
      |none=>none
     |none=>none
    |none=>none
   |_,_=>none
   else none
  |_,_=>none
 |.clear=>match ts[0]? with
  |some t=>match P.underlying t with
   |some (.slice e)=>match P.info? e with
    |some i=>match i.zero with
     |some z=>match avOf z with
      |some x=>if 0<i.size&&z.cells.size == i.size&&z.cells.all (·.oneCell') then some (.clr i.size x) else none
      |none=>none
     |none=>none
    |none=>none
   |_=>none
  |none=>none
 |_=>none
def Xf:Value->Bool
 |.agg _=>true
 |_=>false
def placesOf(P:Program):List Field->Option (List (Nat × Nat))
 |[]=>some []
 |f::fs=>match P.info? f.type,placesOf P fs with
  |some j,some l=>some ((f.offset,j.size)::l)
  |_,_=>none
def ES(P:Program)(op:Op):Option AK :=
 match op with
 |.move _|.assign _=>some .mv
 |.pick ..=>some .pick
 |.alloc t=>match P.info? t with
  |some i=>match i.zero with
   |some z=>match avOf z with
    |some x=>if 0<z.cells.size&&z.cells.all (·.oneCell') then some (.alloc x z.cells.size) else none
    |none=>none
   |none=>none
  |none=>none
 |.box _ _=>some .box
 |.build t ps=>match P.underlying t,P.info? t with
  |some (.struct fs),some i=>match i.zero with
   |some z=>match avOf z with
    |some x=>match placesOf P fs.toList with
     |some places=>if z.cells.size == x.cells.length&&Xf z then some (.build x.cells places (ps.toList.map (·.1))) else none
     |none=>none
    |none=>none
   |none=>none
  |some (.array n e),some i=>match i.zero with
   |some z=>match avOf z with
    |some x=>match P.info? e with
     |some j=>if z.cells.size == x.cells.length&&Xf z then some (.build x.cells ((List.range n).map λq=>(q * j.size,j.size)) (ps.toList.map (·.1))) else none
     |none=>none
    |none=>none
   |none=>none
  |_,_=>none
 |.buildSlice t len ps=>match P.underlying t with
  |some (.slice e)=>match P.info? e with
   |some i=>match i.zero with
    |some z=>match avOf z with
     |some x=>if 0<i.size&&z.cells.size == i.size&&z.cells.all (·.oneCell')&&decide (len * i.size<=2 ^ 24) then some (.bslice i.size len x (ps.toList.map (·.1))) else none
     |none=>none
    |none=>none
   |none=>none
  |_=>none
 |.load t _=>(EY P t).map λ(a,s)=>.load a s
 |.store t _ _=>(EY P t).map λ(_,s)=>.store s
 |.nilCheck _=>some .nilCheck
 |.binOp op t _ _ _ =>
  if op == .eql||op == .neq then
   match P.underlying t with
   |some .bool=>some (.eqb (op == .neq))
   |some (.int _)|some .string=>some (.bin op)
   |some (.struct fs)=>if !P.stoodInHeld t&&!P.eqGuardType P.depth t then (Gz P 0 fs.toList).map (.eqs (op == .neq)) else none
   |some (.slice _)=>some (.eqn (op == .neq))
   |_=>none
  else some (.bin op)
 |.unOp op _ _=>some (.un op)
 |.convert src dst _=>match P.underlying src,P.underlying dst with
  |some (.int _),some (.int k)=>some (.conv k)
  |some (.slice e),some .string=>match P.underlying e with
   |some (.int .u8)=>some .toStr
   |some (.int .i32)=>some .runStr
   |_=>none
  |_,_=>none
 |.slice t _ lo hi mx=>match P.underlying t with
  |some (.slice e)=>match P.info? e with
   |some i=>if 0<i.size then some (.slice i.size lo.isSome hi.isSome mx.isSome) else none
   |none=>none
  |_=>none
 |.fieldAddr t _ f=>match P.underlying t with
  |some (.struct fs)=>match fs[f]? with
   |some fl=>(EY P fl.type).map λ(a,s)=>.faddr a fl.offset s
   |none=>none
  |_=>none
 |.field t _ f=>match P.underlying t with
  |some (.struct fs)=>match fs[f]? with
   |some fl=>(EY P fl.type).map λ(a,s)=>.field a fl.offset s
   |none=>none
  |_=>none
 |.indexAddr t _ _=>match P.underlying t with
  |some (.slice e)=>match P.info? e with
   |some i=>if 0<i.size then some (.iaddr i.size) else none
   |none=>none
  |some (.array n e)=>if n<=1 then none else (EY P e).map λ(a,s)=>.iaddrA n s a
  |_=>none
 |.index t _ _=>match P.underlying t with
  |some (.array n e)=>(EY P e).map λ(a,s)=>.index n s a
  |some .string=>some .indexStr
  |_=>none
 |.extract _ i=>some (.extract i)
 |.makeSlice t _ _=>match P.underlying t with
  |some (.slice e)=>match P.info? e with
   |some i=>match i.zero with
    |some z=>match avOf z with
     |some x=>if 0<i.size&&0<i.bytes&&z.cells.size == i.size&&z.cells.all (·.oneCell') then some (.mkSlice i.size i.bytes x) else none
     |none=>none
    |none=>none
   |none=>none
  |_=>none
 |.makeFunc fn first _=>match fn with
  |.func f=>if first.isEmpty then some (.mkFunc f) else none
  |_=>none
 |.makeMap _ none=>some .mkMap
 |.lookup t _ _ false=>match P.underlying t with
  |some (.map k e)=>match P.underlying k,P.info? e with
   |some (.int .i64),some i=>match i.zero with
    |some z=>(avOf z).map .mapGet
    |none=>none
   |_,_=>none
  |_=>none
 |.mapUpdate t _ _ _=>match P.underlying t with
  |some (.map k _)=>match P.underlying k with
   |some (.int .i64)=>some .mapSet
   |_=>none
  |_=>none
 |.call c=>match c.callee with
  |.value _=>some .call
  |.builtin b=>EZ P b c.argTypes
  |_=>none
 |_=>none
def Cu(P:Program)(op:Op):Option AK:=some ((ES P op).getD .no)
theorem Ik{P:Program}{op:Op}{k:AK}(h:Cu P op=some k)(hk:k≠.no):ES P op=some k:=by
 unfold Cu at h;cases h0:ES P op with
 |none=>rw[h0] at h;cases h;exact absurd rfl hk
 |some k'=>rw[h0] at h;cases h;rfl
def H5(n:Nat):Operand->Option AArg
 |.tmp t=>if t<n then some (.slot t) else none
 |.const v=>(avOf v).map .const
 |.func f=>some (.const (.fn f []))
 |.global _=>none
structure AOp where
 dst:Option Nat
 args:List AArg
 guard:Option (Nat × Bool)
 k:AK
def Cs(P:Program)(n:Nat)(ops:Array Oper)(o:Oper):Option AOp :=
 match Cu P o.op,o.op.operands.toList.mapM (H5 n) with
 |some k,some args =>
  if o.dst.all (·<n) then
   match o.guard with
   |none=>some ⟨o.dst,args,none,k⟩
   |some (j,want)=>match (ops[j]?).bind (·.dst) with
    |some d=>if d<n then some ⟨o.dst,args,some (d,want),k⟩ else none
    |none=>none
  else none
 |_,_=>none
inductive AC where
 |skip
 |reg (ops:List AOp)
 |dreg (ops:List AOp)
 |dtl (pre post:List AOp)
 |greg (ops:List AOp)
 |grx (fl:List Bool) (ops:List AOp)
 |gry (fl:List Bool) (ops:List AOp)
 |seq (a b:AC)
 |cond (c:AArg) (a b:AC)
 |block (id:Nat) (c:AC)
 |loop (c:AC)
 |rng (f:AArg) (ps:List Nat) (assign body:AC)
 |exit (id:Nat)
 |ret
def AC.free:AC->Bool
 |.seq a b=>a.free&&b.free
 |.cond _ a b=>a.free&&b.free
 |.block _ c=>c.free
 |.loop c=>c.free
 |.rng ..=>false
 |_=>true
def AK.calm:AK->Bool
 |.alloc ..|.box|.store _|.app ..|.mkSlice ..|.mkMap|.mapSet|.clr ..=>false
 |_=>true
def Ka:List AOp->Nat
 |[]=>0
 |o::l=>match o.k with
  |.call=>0
  |_=>Ka l+1
def Rt(l:List AOp):Nat:=l.length-1-Ka l.reverse
def Ru:List AOp->Nat
 |[]=>0
 |o::l=>if o.k.calm then Ru l+1 else 0
def AK.reads:AK->Bool
 |.load ..|.toStr|.runStr|.mapGet _=>true
 |_=>false
def AK.eff:AK->Option Nat
 |.alloc ..|.box|.mkSlice ..=>some 0
 |.store _=>some 1
 |.app ..=>some 2
 |.mkMap|.mapSet=>some 2
 |_=>none
def AK.blind:AK->Bool
 |.mv|.pick|.build ..|.bslice ..|.bin _|.eqb _|.eqs ..|.eqn _|.un _|.conv _|.field ..|.index ..|.indexStr|.extract _|.len _|.cap|.max|.min|.mkFunc _|.nilCheck|.call=>true
 |_=>false
def JF(q e:AK):Bool:=match e.eff with
 |some 0=>q.eff.isNone
 |some 1=>q.eff.isNone&&!q.reads
 |some _=>q.eff.isNone&&q.blind
 |none=>true
def AK.appOk:AK->Bool
 |.app w _ _=>decide (0<w)
 |_=>true
def Zg(md:Region.Mode)(ops:Array Oper)(L:List AOp)(i j:Nat):Bool :=
 match L[i]?,L[j]? with
 |some qi,some qj=>qi.k.eff.isNone&&(qj.k.eff.isNone||JF qi.k qj.k)||Region.waitsFor md ops j i
 |_,_=>true
def Te(md:Region.Mode)(ops:Array Oper)(L:List AOp):Bool:=L.all (·.k.appOk)&&(List.range ops.size).all λj=>(List.range j).all λi=>Zg md ops L i j
def flagB(md:Region.Mode)(ops:Array Oper)(L:List AOp)(i:Nat):Bool:=match L[i]? with
 |some qi=>qi.k.eff.isNone&&(List.range ops.size).any λj=>decide (i<j)&&(match L[j]? with|some qj=>qj.k.eff == some 2&&!JF qi.k qj.k&&!Region.waitsFor md ops j i|none=>false)
 |none=>false
def NB(md:Region.Mode)(ops:Array Oper)(L:List AOp):List Bool:=(List.range ops.size).map (flagB md ops L)
def zkg(md:Region.Mode)(ops:Array Oper)(L:List AOp)(i j:Nat):Bool :=
 match L[i]?,L[j]? with
 |some qi,some qj=>qi.k.eff.isNone&&(qj.k.eff.isNone||JF qi.k qj.k||(NB md ops L).getD i false&&qj.k.eff == some 2)||Region.waitsFor md ops j i
 |_,_=>true
def Xg(md:Region.Mode)(ops:Array Oper)(L:List AOp):Bool:=(List.range ops.size).all λj=>(List.range j).all λi=>zkg md ops L i j
def AK.laid:AK->Bool
 |.alloc ..|.box|.mkSlice ..=>true
 |_=>false
def AK.solo:AK->Bool
 |.mv|.build ..=>true
 |_=>false
def AK.grows:AK->Bool
 |.app ..=>true
 |_=>false
def flagY(md:Region.Mode)(ops:Array Oper)(L:List AOp)(i:Nat):Bool:=match L[i]? with
 |some qi=>qi.k.eff.isNone&&!qi.k.solo&&(List.range ops.size).any λj=>match L[j]? with
  |some qj=>decide (i<j)&&!Region.waitsFor md ops j i&&(qj.k.laid||(qj.k.eff == some 1||qj.k.eff == some 2)&&!JF qi.k qj.k)||decide (j<i)&&!Region.waitsFor md ops i j&&(qj.k.laid||qj.k.eff == some 1||qj.k.grows)
  |none=>false
 |none=>false
def JH(md:Region.Mode)(ops:Array Oper)(L:List AOp):List Bool:=(List.range ops.size).map (flagY md ops L)
def zfk(md:Region.Mode)(ops:Array Oper)(L:List AOp)(i j:Nat):Bool :=
 match L[i]?,L[j]? with
 |some qi,some qj=>Region.waitsFor md ops j i||(qi.k.laid&&qj.k.laid)
  || qi.k.eff.isNone&&(qj.k.eff.isNone||JF qi.k qj.k&&!qj.k.laid||((JH md ops L).getD i false||qi.k.solo)&&(qj.k.laid||qj.k.eff == some 1||qj.k.eff == some 2))
  || (qi.k.laid||qi.k.eff == some 1)&&qj.k.eff.isNone&&((JH md ops L).getD j false||qj.k.solo)
  || qi.k.grows&&qj.k.eff.isNone&&(JH md ops L).getD j false
 |_,_=>true
def Xh(md:Region.Mode)(ops:Array Oper)(L:List AOp):Bool:=(List.range ops.size).all λj=>(List.range j).all λi=>zfk md ops L i j
def Hb(P:Program)(ops:Array Oper)(draw:Bool)(l:List AOp):Option AC :=
 if draw then
  (if P.follows .mixedOrders then
   (if l.all (·.k.calm) then
    (if decide (Ka l<l.length)&&Region.lexTailB .any ops (Ka l) then some (.dtl (l.take (Ka l)) (l.drop (Ka l)))
     else if decide (Ka l<Rt l)&&Region.lexTailB .any ops (Rt l) then some (.dtl (l.take (Rt l)) (l.drop (Rt l)))
     else if Region.lexB .any ops then some (.dreg l) else none)
    else if Region.lexTailB .any ops (Ru l) then some (.dtl (l.take (Ru l)) (l.drop (Ru l)))
    else if Region.lexB .any ops&&Te .any ops l then some (.greg l)
    else if Region.lexB .any ops&&Xg .any ops l then some (.grx (NB .any ops l) l)
    else if Region.lexB .any ops&&Xh .any ops l then some (.gry (JH .any ops l) l) else none)
   else none)
 else some (.reg l)
def E0(P:Program)(n:Nat):Code->Option AC
 |.skip=>some .skip
 |.label _=>some .skip
 |.region _ ops draw =>
  match ops.toList.mapM (Cs P n ops) with
  |some l=>Hb P ops draw l
  |none=>none
 |.seq a b=>match E0 P n a,E0 P n b with
  |some x,some y=>some (.seq x y)
  |_,_=>none
 |.cond c a b=>match H5 n c,E0 P n a,E0 P n b with
  |some z,some x,some y=>some (.cond z x y)
  |_,_,_=>none
 |.block id c=>(E0 P n c).map (.block id)
 |.loop c=>(E0 P n c).map .loop
 |.rangeFunc f ps a c=>match H5 n f,E0 P n a,E0 P n c with
  |some z,some x,some y=>some (.rng z ps.toList x y)
  |_,_,_=>none
 |.scope c=>E0 P n c
 |.exit id=>some (.exit id)
 |.ret=>some .ret
 |_=>none
inductive ARes where
 |slot (t:Nat)
 |cell (t:Nat) (a:Bool) (s:Nat)
structure AFn where
 n:Nat
 np:Nat
 res:List ARes
 body:AC
def Kb(P:Program)(n:Nat):ResultVar->Option ARes
 |.tmp t=>if t<n then some (.slot t) else none
 |.cell t ty=>if t<n then (EY P ty).map λ(a,s)=>.cell t a s else none
def Bj(P:Program)(f:Nat)(np:Nat):Option AFn :=
 match P.funcs[f]? with
 |some fn=>match fn.body with
  |some c=>match E0 P fn.ntmps c,fn.results.toList.mapM (Kb P fn.ntmps) with
   | some b, some r => if np ≤ fn.ntmps && fn.name != "runtime.NumGoroutine" then some ⟨fn.ntmps, np, r, b⟩ else none
   |_,_=>none
  |none=>none
 |none=>none
def OpOk(P:Program)(S:MS)(r:Result Next)(K:AV->A5->Prop):Prop :=
 (∃v S' x H',(r=.ok (.value v) S'.w\/(r=.ok .skip S'.w/\v=undef))/\Evo S S'/\SRel S' H'/\VRel S' x v/\K x H') \/
 (∃f cargs,r=.ok (.enter f cargs) S.w/\Calls P f cargs S.w λe w'=>∃v S' x H',e=.returned v/\S'.w=w'/\Evo S S'/\SRel S' H'/\VRel S' x v/\K x H')
theorem Bw{P:Program}{S:MS}{H:A5}{r:Result Next}{K:AV->A5->Prop}{v:Value}{x:AV}(hr:r=.ok (.value v) S.w)(hS:SRel S H)(hv:VRel S x v)(hK:K x H):OpOk P S r K :=
 .inl ⟨v,S,x,H,.inl hr,.refl S,hS,hv,hK⟩
section
variable {P:Program}{S:MS}{H:A5}{ρ:Operand->Value}{K:AV->A5->Prop}
theorem AB.inv1{x:AV}{v:Value}(h:AB S [x] [v]):VRel S x v:=h.cons_inv.1
theorem AB.inv2{x y:AV}{u v:Value}(h:AB S [x,y] [u,v]):VRel S x u/\VRel S y v:=⟨h.cons_inv.1,h.cons_inv.2.cons_inv.1⟩
theorem AB.len1{xs:List AV}{v:Value}(h:AB S xs [v]):∃x,xs=[x]/\VRel S x v:=by
 match xs,h with
 |[x],h=>exact⟨x,rfl,h.inv1⟩
 |[],h=>simp[AB] at h
 |_::_::_,h=>have:=h.length;simp at this
theorem AB.len2{xs:List AV}{u v:Value}(h:AB S xs [u,v]):∃x y,xs=[x,y]/\VRel S x u/\VRel S y v:=by
 match xs,h with
 |[x,y],h=>exact⟨x,y,rfl,h.inv2⟩
 |[],h=>have:=h.length;simp at this
 |[_],h=>have:=h.length;simp at this
 |_::_::_::_,h=>have:=h.length;simp at this
theorem AB.len3{xs:List AV}{u v z:Value}(h:AB S xs [u,v,z]):∃x y t,xs=[x,y,t]/\VRel S x u/\VRel S y v/\VRel S t z:=by
 match xs,h with
 |[x,y,t],h=>exact⟨x,y,t,rfl,h.cons_inv.1,h.cons_inv.2.inv2⟩
 |[],h=>have:=h.length;simp at this
 |[_],h=>have:=h.length;simp at this
 |[_,_],h=>have:=h.length;simp at this
 |_::_::_::_::_,h=>have:=h.length;simp at this
theorem s_mv(hS:SRel S H){v:Value}{xs:List AV}(hx:AB S xs [v])(h:AF P .mv H xs K):OpOk P S ((pure (.value v):Sem Next).run P S.w) K:=by
 obtain⟨x,rfl,hv⟩:=hx.len1;exact Bw rfl hS hv h
theorem zkh(hS:SRel S H){c a b:Value}{xs:List AV}(hx:AB S xs [c,a,b])(h:AF P .pick H xs K):
 OpOk P S ((do pure (Next.value (if <-asBool c then a else b)):Sem Next).run P S.w) K:=by
 obtain⟨x,y,t,rfl,hc,ha,hb⟩:=hx.len3;cases x<;>simp only[AF] at h<;>try exact h.elim
 rename_i q;obtain rfl:c=.bool q:=hc;cases q
 ·exact Bw (by simp[asBool]) hS hb h
 ·exact Bw (by simp[asBool]) hS ha h
theorem Vs(a b:Int):(a == b)=decide (a=b):=by rw[Dp];simp
theorem z8r(op:BinOp)(t:TypeId)(k k':IntKind)(a b:Int)(x y:Operand){K:AV->Prop}(hk:k=k')(h:binI op k a b K):
 ∃(z:AV) (v:Value),VRel S z v/\K z/\(do eqGuard op t x y (.int k a) (.int k' b);binOp op t (.int k a) (.int k' b):Sem Value).run P S.w=.ok v S.w:=by
 subst hk;cases op<;>simp only[binI] at h
 case quo=>exact⟨.int k _,.int k _,rfl,h.2,by simp[eqGuard,binOp,Op.intDiv,h.1]⟩
 case rem=>exact⟨.int k _,.int k _,rfl,h.2,by simp[eqGuard,binOp,Op.intDiv,h.1]⟩
 case eql=>exact⟨.bool _,.bool _,rfl,h,by simp[eqGuard,binOp,Op.intCmp,Vs]⟩
 case neq=>exact⟨.bool _,.bool _,rfl,h,by simp[eqGuard,binOp,Op.intCmp,bne,Vs]⟩
 case lss=>exact⟨.bool _,.bool _,rfl,h,by simp[eqGuard,binOp,Op.intCmp]⟩
 case leq=>exact⟨.bool _,.bool _,rfl,h,by simp[eqGuard,binOp,Op.intCmp]⟩
 case gtr=>exact⟨.bool _,.bool _,rfl,h,by simp[eqGuard,binOp,Op.intCmp]⟩
 case geq=>exact⟨.bool _,.bool _,rfl,h,by simp[eqGuard,binOp,Op.intCmp]⟩
 case add=>exact⟨.int k _,.int k _,rfl,h,by simp[eqGuard,binOp,Op.intArith]⟩
 case sub=>exact⟨.int k _,.int k _,rfl,h,by simp[eqGuard,binOp,Op.intArith]⟩
 case mul=>exact⟨.int k _,.int k _,rfl,h,by simp[eqGuard,binOp,Op.intArith]⟩
 case and=>exact⟨.int k _,.int k _,rfl,h,by simp[eqGuard,binOp,Op.intBits,JE]⟩
 case or=>exact⟨.int k _,.int k _,rfl,h,by simp[eqGuard,binOp,Op.intBits,JE]⟩
 case xor=>exact⟨.int k _,.int k _,rfl,h,by simp[eqGuard,binOp,Op.intBits,JE]⟩
 case andNot=>exact⟨.int k _,.int k _,rfl,h,by simp[eqGuard,binOp,Op.intBits,JE]⟩
theorem Jp(s:List UInt8):(⟨s.toArray⟩:ByteArray).toList=s:=by
 rw[ByteArray.toList_eq]
theorem Vt(a b:List UInt8):(a == b)=decide (a=b):=by rw[Dp];simp
theorem zfl(hS:SRel S H)(op:BinOp)(t:TypeId){u v:Value}(x y:Operand){xs:List AV}(hx:AB S xs [u,v])(h:AF P (.bin op) H xs K):
 OpOk P S ((do pure (Next.value (<-(do eqGuard op t x y u v;binOp op t u v:Sem Value))):Sem Next).run P S.w) K:=by
 obtain⟨p,q,rfl,hp,hq⟩:=hx.len2;cases p<;>cases q<;>simp only[AF] at h<;>try exact h.elim
 ·rename_i k a k' b
  obtain rfl:u=.int k a:=hp;obtain rfl:v=.int k' b:=hq;by_cases h1:op=.shl
  ·subst h1
   have h':0<=b/\K (.int k (k.wrap (a * 2 ^ (Min.min b.toNat k.bits)))) H:=h;exact Bw (x:=.int k _) (by simp[eqGuard,binOp,Op.shift,Int.not_lt.2 h'.1]) hS rfl h'.2
  ·by_cases h2:op=.shr
   ·subst h2
    have h':0<=b/\K (.int k (a.fdiv (2 ^ (Min.min b.toNat k.bits)))) H:=h;exact Bw (x:=.int k _) (by simp[eqGuard,binOp,Op.shift,Int.not_lt.2 h'.1]) hS rfl h'.2
   ·have h':k=k'/\binI op k a b λx=>K x H:=by cases op<;>first|exact h|exact absurd rfl h1|exact absurd rfl h2
    obtain⟨_,v,h3,h4,h5⟩:=z8r (P:=P) (S:=S) op t k k' a b x y h'.1 h'.2;exact Bw (by simp only[Sem.run_bind,h5,Result.andThen_ok,Sem.run_pure]) hS h3 h4
 ·rename_i a b
  obtain rfl:u=.string ⟨a.toArray⟩:=hp;obtain rfl:v=.string ⟨b.toArray⟩:=hq;cases op<;>first|exact h.elim|skip
  ·exact Bw (x:=.bool _) (v:=.bool (decide (a=b))) (by simp[eqGuard,binOp,Op.stringOp,Jp,Vt]) hS rfl h
  ·exact Bw (x:=.bool _) (v:=.bool (!decide (a=b))) (by simp[eqGuard,binOp,Op.stringOp,Jp,Vt]) hS rfl h
theorem s_eqb(hS:SRel S H)(neg:Bool)(t:TypeId)(ht:P.underlying t=some .bool){u v:Value}(x y:Operand){xs:List AV}(hx:AB S xs [u,v])(h:AF P (.eqb neg) H xs K):
 OpOk P S ((do pure (Next.value (<-(do eqGuard (if neg then .neq else .eql) t x y u v;binOp (if neg then .neq else .eql) t u v:Sem Value))):Sem Next).run P S.w) K:=by
 obtain⟨p,q,rfl,hp,hq⟩:=hx.len2;cases p<;>cases q<;>simp only[AF] at h<;>try exact h.elim
 rename_i a b;obtain rfl:u=.bool a:=hp;obtain rfl:v=.bool b:=hq;have e:(Op.equal t (.bool a) (.bool b)).run P S.w=.ok (a == b) S.w:=run_equalIn_bool' S.w 9999 t a b ht;cases neg
 ·exact Bw (x:=.bool _) (by simp[eqGuard,binOp,e]) hS rfl h
 ·exact Bw (x:=.bool _) (by simp[eqGuard,binOp,e]) hS rfl h
theorem zfm{d:Nat}{t:TypeId}{dd:TypeDesc}{k:Nat}(ht:P.underlying t=some dd)(hp:Xe dd=some k){x y:AV}{u v:Value}{b:Bool}(hx:VRel S x u)(hy:VRel S y v)(h:eq1 k x y=some b):
 (Op.equalIn (d+1) t u v).run P S.w=.ok b S.w:=by
 cases dd<;>simp only[Xe,Aq,reduceCtorEq] at hp
 all_goals subst hp
 all_goals cases x<;>cases y<;>simp only[eq1] at h<;>first|(cases h;done)|skip
 ·rename_i a c
  obtain rfl:u=.bool a:=hx;obtain rfl:v=.bool c:=hy;rw[run_equalIn_bool' (P:=P) S.w d t a c ht,BW h]
 ·rename_i k0 k a k' c
  obtain rfl:u=.int k a:=hx;obtain rfl:v=.int k' c:=hy;split at h
  ·rename_i hk
   subst hk;rw[run_equalIn_int (P:=P) S.w d t k _ a c ht,Vs,BW h]
  ·cases h
 ·rename_i a c
  obtain rfl:u=.string ⟨a.toArray⟩:=hx;obtain rfl:v=.string ⟨c.toArray⟩:=hy;rw[run_equalIn_string (P:=P) S.w d t _ _ ht,Jp,Jp,Vt,BW h]
theorem z1h{d:Nat}:∀{fs:List Field}{i:Nat}{ks:List Nat}{xs ys:List AV}{us vs:List Value}{b:Bool}(pre pre':List Value),Gz P i fs=some ks->AB S xs us->AB S ys vs ->
 eqL ks xs ys=some b->pre.length=i->pre'.length=i->(Op.eqFields (d+1) (pre++us).toArray (pre'++vs).toArray fs).run P S.w=.ok b S.w
 |[],i,ks,xs,ys,us,vs,b,pre,pre',hf,hx,hy,h,_,_=>by
  simp only[Gz,Aq] at hf;subst hf;cases xs<;>cases ys<;>simp only[eqL,Aq,reduceCtorEq] at h;subst h;simp[Op.eqFields]
 |f::fs,i,ks,xs,ys,us,vs,b,pre,pre',hf,hx,hy,h,hp,hp'=>by
  simp only[Gz] at hf;split at hf
  ·rename_i hc
   simp only[Ac,BK,bne_iff_ne,ne_eq] at hc;split at hf
   ·rename_i k ks' hk hks
    cases hf;cases xs with
    |nil=>simp[eqL] at h
    |cons x xs =>
     cases ys with
     |nil=>simp[eqL] at h
     |cons y ys =>
      obtain⟨u,us',rfl,hu,hus⟩:=hx;obtain⟨v,vs',rfl,hv,hvs⟩:=hy;simp only[eqL] at h;split at h
      ·rename_i b1 b2 h1 h2
       cases h;obtain⟨dd,hd,hpd⟩:=B0.1 hk;have hn:PT dd=false:=by cases dd<;>simp[Xe] at hpd<;>rfl
       have part1:∀(p:List Value)(z:Value)(zs:List Value),p.length=i->(part f.type (p++z::zs).toArray f.offset).run P S.w=.ok z S.w:=by
        intro p z zs hpl
        have hag:(isAgg f.type).run P S.w=.ok false S.w:=by
         simp only[isAgg,Sem.run_bind,run_underlying hd,Result.andThen_ok];cases dd<;>simp[PT] at hn<;>rfl
        simp only[part,Sem.run_bind,hag,Result.andThen_ok];rw[hc.1,<-hpl];simp
       have ih:=z1h (d:=d) (pre++[u]) (pre'++[v]) hks hus hvs h2 (by simp[hp]) (by simp[hp']);simp only[A3,List.singleton_append] at ih;simp only[Op.eqFields,hc.2,B2,Bi,ne_eq,Sem.run_bind,part1 pre u us' hp,part1 pre' v vs' hp',Result.andThen_ok,zfm (P:=P) (d:=d) hd hpd hu hv h1];cases b1
       ·simp
       ·simpa using ih
      ·cases h
   ·cases hf
  ·cases hf
theorem s_eqs(hS:SRel S H)(neg:Bool)(ks:List Nat)(t:TypeId){fs:Array Field}(ht:P.underlying t=some (.struct fs))(hf:Gz P 0 fs.toList=some ks)(h1:P.stoodInHeld t=false)(h2:P.eqGuardType P.depth t=false)
 {u v:Value} (x y:Operand) {xs:List AV} (hx:AB S xs [u,v]) (h:AF P (.eqs neg ks) H xs K) :
 OpOk P S ((do pure (Next.value (<-(do eqGuard (if neg then .neq else .eql) t x y u v;binOp (if neg then .neq else .eql) t u v:Sem Value))):Sem Next).run P S.w) K:=by
 obtain⟨p,q,rfl,hp,hq⟩:=hx.len2;cases p<;>cases q<;>simp only[AF] at h<;>try exact h.elim
 rename_i as bs;obtain⟨us,rfl,hu⟩:=hp;obtain⟨vs,rfl,hv⟩:=hq
 ·obtain⟨b,hb,h⟩:=Cn h
  have ht':P.underlying t=some (.struct (P.fieldsOf t)):=by simp[Program.fieldsOf,ht]
  have e:(Op.equalIn 10000 t (.agg us.toArray) (.agg vs.toArray)).run P S.w=.ok b S.w:=by
   rw[run_equalIn_agg S.w 9999 t us.toArray vs.toArray ht' h1];have:(P.fieldsOf t)=fs:=by simp[Program.fieldsOf,ht]
   rw[this];exact z1h (d:=9998) [] [] hf hu hv hb rfl rfl
  have g:∀op,(eqGuard op t x y (.agg us.toArray) (.agg vs.toArray)).run P S.w=.ok () S.w:=λop=>run_eqGuard_agg S.w op t x y _ _ h2;cases neg
  ·exact Bw (x:=.bool _) (by simp only[Sem.run_bind,A8,Bt,g,Result.andThen_ok,run_eql_struct,e];rfl) hS rfl h
  ·exact Bw (x:=.bool _) (by simp only[Sem.run_bind,Bi,g,Result.andThen_ok,run_neq_struct,e];rfl) hS rfl h
theorem s_eqn(hS:SRel S H)(neg:Bool)(t:TypeId){e:TypeId}(ht:P.underlying t=some (.slice e)){u v:Value}(x y:Operand){xs:List AV}(hx:AB S xs [u,v])(h:AF P (.eqn neg) H xs K):
 OpOk P S ((do pure (Next.value (<-(do eqGuard (if neg then .neq else .eql) t x y u v;binOp (if neg then .neq else .eql) t u v:Sem Value))):Sem Next).run P S.w) K:=by
 obtain⟨p,q,rfl,hp,hq⟩:=hx.len2
 have key0:∀(d:Nat)(a:Option Addr)(n c:Nat),(Op.equalIn (d+1) t (.slice a n c) (.slice none 0 0)).run P S.w=.ok a.isNone S.w:=by
  intro d a n c;cases a<;>simp[Op.equalIn,run_underlying ht]
 have key:∀(a:Option Addr)(n c:Nat),(Op.equal t (.slice a n c) (.slice none 0 0)).run P S.w=.ok a.isNone S.w:=key0 9999
 have fin:∀(a:Option Addr)(n c:Nat)(b:Bool),u=.slice a n c->v=.slice none 0 0->a.isNone=b->K (.bool (if neg then !b else b)) H->OpOk P S ((do pure (Next.value (<-(do eqGuard (if neg then .neq else .eql) t x y u v;binOp (if neg then .neq else .eql) t u v:Sem Value))):Sem Next).run P S.w) K:=by
  intro a n c b hu hv hb hK;subst hu hv hb;cases neg
  ·exact Bw (x:=.bool _) (by simp[eqGuard,binOp,key]) hS rfl hK
  ·exact Bw (x:=.bool _) (by simp[eqGuard,binOp,key]) hS rfl hK
 cases q<;>simp only[AF] at h<;>try exact h.elim
 cases p<;>simp only at h<;>try exact h.elim
 ·exact fin none 0 0 true hp hq rfl (by cases neg<;>exact h)
 ·obtain⟨a,cap,hp⟩:=hp
  exact fin _ _ _ false hp hq rfl (by cases neg<;>exact h)
 ·obtain⟨_,_,a,cap,vs,hp,_,_,hr⟩:=hp
  obtain⟨b,o,ha,_⟩:=hr h.1;exact fin _ _ _ false hp hq (by rw[ha];rfl) (by cases neg<;>exact h.2)
 ·obtain⟨_,_,a,vs,hp,_,_,hr⟩:=hp
  obtain⟨b,o,ha,_⟩:=hr h.1;exact fin _ _ _ false hp hq (by rw[ha];rfl) (by cases neg<;>exact h.2)
 ·obtain⟨⟨a,c,hp,ha⟩,_⟩:=hp
  have:a.isNone=false:=by
   cases a with
   |none=>have:=ha rfl;have:=h.1;omega
   |some _=>rfl
  exact fin _ _ _ false hp hq this (by cases neg<;>exact h.2)
theorem s_un(hS:SRel S H)(op:UnOp){v:Value}{xs:List AV}(hx:AB S xs [v])(h:AF P (.un op) H xs K):
 OpOk P S ((do pure (Next.value (<-Op.unary op v)):Sem Next).run P S.w) K:=by
 obtain⟨x,rfl,hv⟩:=hx.len1;cases op<;>cases x<;>simp only[AF] at h<;>try exact h.elim
 ·rename_i k n
  obtain rfl:v=.int k n:=hv;exact Bw (x:=.int k _) (by simp[Op.unary,Op.intArith]) hS rfl h
 ·rename_i b
  obtain rfl:v=.bool b:=hv;exact Bw (x:=.bool _) (by simp[Op.unary]) hS rfl h
theorem zki(hS:SRel S H)(src dst:TypeId){k k0:IntKind}(hs:P.underlying src=some (.int k0))(hd:P.underlying dst=some (.int k)){v:Value}{xs:List AV}(hx:AB S xs [v])(h:AF P (.conv k) H xs K):
 OpOk P S ((do pure (Next.value (<-convert src dst v)):Sem Next).run P S.w) K:=by
 obtain⟨x,rfl,hv⟩:=hx.len1;cases x<;>simp only[AF] at h<;>try exact h.elim
 rename_i k1 n;obtain rfl:v=.int k1 n:=hv;exact Bw (x:=.int k _) (by simp[convert,run_underlying hs,run_underlying hd,Conv.intToInt]) hS rfl h
theorem s_len(hS:SRel S H)(t ty:TypeId)(cs:Array Bool)(ts:Array TypeId){e:TypeId}(h0:ts[0]? = some t)(ht:P.underlying t=some (.slice e)){v:Value}{xs:List AV}(hx:AB S xs [v])(h:AF P (.len false) H xs K):
 OpOk P S ((builtin .len ts ty cs #[v]).run P S.w) K:=by
 obtain⟨x,rfl,hv⟩:=hx.len1;cases x<;>simp only[AF] at h<;>try exact h.elim
 ·obtain rfl:v=.slice none 0 0:=hv
  exact Bw (x:=.int .i64 _) (v:=.int .i64 _) (by simp[builtin,Builtin.len_,h0,run_underlying ht,goInt]) hS rfl h
 ·obtain⟨a,rfl⟩:=hv
  exact Bw (x:=.int .i64 _) (v:=.int .i64 _) (by simp[builtin,Builtin.len_,h0,run_underlying ht,goInt]) hS rfl h
 ·obtain⟨a,cap,rfl⟩:=hv
  exact Bw (x:=.int .i64 _) (v:=.int .i64 _) (by simp[builtin,Builtin.len_,h0,run_underlying ht,goInt]) hS rfl h
 ·obtain⟨_,_,a,cap,vs,rfl,_⟩:=hv
  exact Bw (x:=.int .i64 _) (v:=.int .i64 _) (by simp[builtin,Builtin.len_,h0,run_underlying ht,goInt]) hS rfl h
 ·obtain⟨_,_,a,vs,rfl,_⟩:=hv
  exact Bw (x:=.int .i64 _) (v:=.int .i64 _) (by simp[builtin,Builtin.len_,h0,run_underlying ht,goInt]) hS rfl h
 ·obtain⟨⟨a,c,rfl,_⟩,_⟩:=hv
  exact Bw (x:=.int .i64 _) (v:=.int .i64 _) (by simp[builtin,Builtin.len_,h0,run_underlying ht,goInt]) hS rfl h
theorem s_cap(hS:SRel S H)(t ty:TypeId)(cs:Array Bool)(ts:Array TypeId){e:TypeId}(h0:ts[0]? = some t)(ht:P.underlying t=some (.slice e)){v:Value}{xs:List AV}(hx:AB S xs [v])(h:AF P .cap H xs K):
 OpOk P S ((builtin .cap ts ty cs #[v]).run P S.w) K:=by
 obtain⟨x,rfl,hv⟩:=hx.len1;cases x<;>simp only[AF] at h<;>try exact h.elim
 obtain rfl:v=.slice none 0 0:=hv;exact Bw (x:=.int .i64 _) (v:=.int .i64 _) (by simp[builtin,Builtin.cap_,h0,run_underlying ht,goInt]) hS rfl h
theorem z8s(s:List UInt8):(⟨s.toArray⟩:ByteArray).size=s.length:=rfl
theorem zkj(hS:SRel S H)(t ty:TypeId)(cs:Array Bool)(ts:Array TypeId)(h0:ts[0]? = some t)(ht:P.underlying t=some .string){v:Value}{xs:List AV}(hx:AB S xs [v])(h:AF P (.len true) H xs K):
 OpOk P S ((builtin .len ts ty cs #[v]).run P S.w) K:=by
 obtain⟨x,rfl,hv⟩:=hx.len1;cases x<;>simp only[AF] at h<;>try exact h.elim
 obtain rfl:v=.string _:=hv;exact Bw (x:=.int .i64 _) (v:=.int .i64 _) (by simp[builtin,Builtin.len_,h0,run_underlying ht,goInt,z8s]) hS rfl h
end
def Il(a:Bool)(off s:Nat)(u:Value):Value:=if a then .agg (u.cells.extract off (off+s)) else u.cells.getD off undef
theorem cells_one{v:Value}(h:v.oneCell'=true):v.cells=#[v]:=by cases v<;>first|rfl|simp[Value.oneCell'] at h
section
variable {P:Program}{S:MS}{H:A5}{ρ:Operand->Value}{K:AV->A5->Prop}
theorem VRel.part{x:AV}{u:Value}(hx:x.isAny=false)(h:VRel S x u){a:Bool}{off s:Nat}(hle:off+s<=x.cells.length)(hs:0<s):VRel S (Ga a off s x) (Il a off s u):=by
 have hc:=h.cells hx;cases a
 ·simp only[Ga,Il,A8,Bt]
  have hlt:off<x.cells.length:=by omega
  obtain⟨v,hv,hr⟩:=hc.get (Al hlt);rw[List.getD,Al hlt];have:u.cells[off]? = some v:=by rw[<-hv];simp
  simp only[Dn,this,Option.getD_some];exact hr
 ·simp only[Ga,Il,Bi]
  refine⟨(u.cells.extract off (off+s)).toList,rfl,?_⟩;have:=(hc.drop off).take s;have e:(u.cells.extract off (off+s)).toList=(u.cells.toList.drop off).take s:=by simp
  rw[e];exact this
theorem Laid.part{w:World}{b o wd:Nat}{u:Value}(h:Laid w b o wd u){a:Bool}{off s:Nat}(hle:off+s<=wd)(hs:0<s)(ha:a=false->s=1):Laid w b (o+off) s (Il a off s u):=by
 obtain⟨h1,h2,h3⟩:=h;cases a
 ·have hs1:=ha rfl
  subst hs1;have hlt:off<u.cells.size:=by omega
  have hone:=h2 u.cells[off] (Eu hlt);have he:Il false off 1 u=u.cells[off]:=by simp[Il,hlt]
  rw[he];refine⟨by rw[cells_one hone];rfl,λc hc=>?_,λj hj=>?_⟩
  ·rw[cells_one hone] at hc;simp at hc;rw[hc];exact hone
  ·have:j=0:=by omega
   subst this;rw[cells_one hone];simpa [hlt] using h3 off (by omega)
 ·have he:(Il true off s u).cells=u.cells.extract off (off+s):=by simp[Il,Value.cells]
  refine⟨by rw[he,Array.size_extract];omega,λc hc=>?_,λj hj=>?_⟩
  ·rw[he] at hc
   obtain⟨i,hi,rfl⟩:=Array.getElem_of_mem hc;rw[Array.getElem_extract];exact h2 _ (Eu _)
  ·rw[he,Bo,h3 (off+j) (by omega),Array.getElem?_extract]
   rw[Ae (by omega)]
theorem Nn:∀{cs:List AV}{i:Nat},Bh cs=true->(cs.getD i .any).pure=true
 |[],i,_=>by simp[AV.pure]
 |c::cs,0,h=>by simp only[Bh,Ac] at h;simpa using h.1
 |c::cs,i+1,h=>by simp only[Bh,Ac] at h;simpa using Nn (i:=i) h.2
theorem Jq:∀{cs:List AV}{n:Nat},Bh cs=true->Bh (cs.drop n)=true
 |[],n,_=>by simp[Bh]
 |c::cs,0,h=>h
 |c::cs,n+1,h=>by simp only[Bh,Ac] at h;simpa using Jq (n:=n) h.2
theorem Jr:∀{cs:List AV}{n:Nat},Bh cs=true->Bh (cs.take n)=true
 |[],n,_=>by simp[Bh]
 |c::cs,0,h=>by simp[Bh]
 |c::cs,n+1,h=>by simp only[Bh,Ac] at h;simpa [Bh,h.1] using Jr (n:=n) h.2
theorem AV.pure_cells{x:AV}(h:x.pure=true):Bh x.cells=true:=by
 cases x<;>simp_all [AV.cells,AV.pure,Bh]
theorem Tf{x:AV}(h:x.pure=true)(a:Bool)(off s:Nat):(Ga a off s x).pure=true:=by
 cases a
 ·exact Nn (AV.pure_cells h)
 ·exact Jr (Jq (AV.pure_cells h))
theorem EU{t:TypeId}{a:Bool}{s:Nat}(h:EY P t=some (a,s)):∃i d,P.info? t=some i/\P.underlying t=some d/\PT d=a/\i.size=s/\0<s/\(a=false->s=1):=by
 unfold EY at h;split at h
 ·rename_i i d hi hd
  split at h
  ·rename_i hc
   simp only[Ac,Ah,EX,BK] at hc;cases h;exact⟨i,d,hi,hd,rfl,rfl,hc.1,λhe=>hc.2.resolve_left (by simp[he])⟩
  ·cases h
 ·cases h
theorem Tg{t:TypeId}{d:TypeDesc}(hd:P.underlying t=some d)(w:World):(isAgg t).run P w=.ok (PT d) w:=by
 simp only[isAgg,Sem.run_bind,run_underlying hd,Result.andThen_ok];cases d<;>rfl
theorem Cp{t:TypeId}{i:TypeInfo}(hi:P.info? t=some i)(w:World):(sizeOf t).run P w=.ok i.size w:=by
 simp[sizeOf,typeInfo,hi]
theorem addr_add(b o n:Nat):(⟨b,o,none⟩:Addr).add n=⟨b,o+n,none⟩:=by
 unfold Addr.add;split
 ·rename_i h;subst h;rfl
 ·rfl
theorem K4{w:World}{b o wd:Nat}{u:Value}(h:Laid w b o wd u):(loadCells ⟨b,o,none⟩ wd).run P w=.ok u.cells w:=by
 have:=run_loadCells_list (P:=P) w ⟨b,o,none⟩ u.cells.toList (λj v hv=>by
  have hj:j<wd:=by
   rw[<-h.1];have:=(AI.1 hv).1;simpa using this
  rw[addr_add,h.2.2 j hj]
  simpa using hv)
 simp only[Array.length_toList,Array.toArray_toList] at this;rw[<-h.1];exact this
theorem K5{t:TypeId}{a:Bool}{s:Nat}(ht:EY P t=some (a,s)){w:World}{b o wd off:Nat}{u:Value}(h:Laid w b o wd u)(hle:off+s<=wd):
 (loadVar t ⟨b,o+off,none⟩).run P w=.ok (Il a off s u) w:=by
 obtain⟨i,d,hi,hd,ha,hsz,h0,h1⟩:=EU ht;have hp:=h.part (a:=a) hle h0 h1;simp only[loadVar,Sem.run_bind,Tg hd,ha,Result.andThen_ok];cases a
 ·have hs1:=h1 rfl
  subst hs1;obtain⟨p1,p2,p3⟩:=hp;have hlt:off<u.cells.size:=by have:=h.1;omega
  have hone:=h.2.1 u.cells[off] (Eu hlt);have he:Il false off 1 u=u.cells[off]:=by simp[Il,hlt]
  have:=p3 0 (by omega);rw[he,cells_one hone] at this;simp only[Nat.add_zero] at this;rw[he];simp[this]
 ·simp only[Bi,Sem.run_bind,Cp hi,hsz,Result.andThen_ok,K4 hp]
  have:(Il true off s u).cells=u.cells.extract off (off+s):=by simp[Il,Value.cells]
  simp only[this,Sem.run_pure];simp[Il]
theorem GRel.elem{G:Grp}{g:Nat}(h:GRel S G g)(hw:0<G.w){i:Nat}(hi:i<G.xs.length):∃u,VRel S (G.xs.getD i .any) u/\Laid S.w (S.place g) (i * G.w) G.w u:=by
 have hlen:=h.len hw;obtain⟨⟨cells,T,vs,h1,h2,h3,h4⟩,_⟩:=h.live hw (by omega);obtain⟨u,hu,hr⟩:=h3.get (Al hi);refine⟨u,by rw[List.getD,Al hi];exact hr,?_⟩;have:=h4.row h1 i u hu;simpa using this
theorem Zh(hS:SRel S H){v:Value}{xs:List AV}(hx:AB S xs [v])(h:AF P .nilCheck H xs K)(x:Operand)(o:Oper)(ho:o.op=.nilCheck x)(hv:ρ x=v):OpOk P S ((execOp ρ o).run P S.w) K:=by
 obtain⟨y,rfl,hr⟩:=hx.len1;obtain⟨dst,op,ty,pos,after,gd⟩:=o;subst ho;cases y<;>simp only[AF] at h<;>try exact h.elim
 ·obtain⟨_,b,o,u,hv',hi,hx',hl⟩:=hr
  have hr':VRel S (.cptr _) v:=⟨‹_›,b,o,u,hv',hi,hx',hl⟩;exact Bw (by simp[execOp,hv,hv']) hS (hv' ▸ hr') h
 ·have hr':=hr
  obtain⟨⟨a,ha⟩,_⟩:=hr;exact Bw (by simp[execOp,hv,ha]) hS (ha ▸ hr') h
 ·have hr':=hr
  obtain⟨vs,ha,_⟩:=hr;exact Bw (by simp[execOp,hv,ha]) hS (ha ▸ hr') h
theorem SRel.live_of{g:Nat}(hS:SRel S H)(hg:g<S.n):GRel S (H.at_ g) g:=hS.grp g (by rw[<-hS.n];exact hg)
theorem Xi(hS:SRel S H)(t:TypeId){a:Bool}{s:Nat}(ht:EY P t=some (a,s)){v:Value}{y:AV}(hr:VRel S y v)(h:AF P (.load a s) H [y] K):
 ∃ad u z,v=.pointer (some ad)/\(loadVar t ad).run P S.w=.ok u S.w/\VRel S z u/\K z H:=by
 obtain⟨_,_,_,_,_,_,h0,hs1⟩:=EU ht;cases y<;>simp only[AF] at h<;>try exact h.elim
 ·rename_i x
  obtain⟨h1,h2,h3,hK⟩:=h;obtain⟨hp,b,o,u,rfl,hi,hx,hl⟩:=hr;have hle:0+s<=u.cells.size:=by have:=(hx.cells h1).length;simp at this;omega
  have:=K5 (P:=P) ht hl hle;simp only[Nat.add_zero] at this;exact⟨_,_,_,rfl,this,hx.part h1 (by omega) h0,hK⟩
 ·rename_i g vn i o
  obtain⟨h1,h2,h3,h4,h5,h6,h7,hK⟩:=h;obtain⟨_,hg,hc,hp⟩:=hr;have hG:=hS.live_of hg;obtain rfl:v=_:=hp (by rw[hG.ver,h1]);obtain⟨u,hu,hl⟩:=hG.elem (by omega) h2;have:=K5 (P:=P) ht hl (off:=o) h6;rw[hG.wid];exact⟨_,_,_,rfl,this,hu.part h3 (by omega) h0,hK⟩
theorem zkk(hS:SRel S H)(t:TypeId){a:Bool}{s:Nat}(ht:EY P t=some (a,s)){v:Value}{xs:List AV}(hx:AB S xs [v])(h:AF P (.load a s) H xs K):
 OpOk P S ((do pure (Next.value (<-Instr.loadAt t v)):Sem Next).run P S.w) K:=by
 obtain⟨y,rfl,hr⟩:=hx.len1;obtain⟨ad,u,z,rfl,hrun,hz,hK⟩:=Xi hS t ht hr h;exact Bw (by simp[Instr.loadAt,Instr.sureAddr,hrun]) hS hz hK
theorem zfn(hS:SRel S H)(t:TypeId)(f:Nat){fs:Array Field}{fl:Field}(ht:P.underlying t=some (.struct fs))(hf:fs[f]? = some fl){a:Bool}{s:Nat}(hs:EY P fl.type=some (a,s))
 {v:Value} {xs:List AV} (hx:AB S xs [v]) (h:AF P (.faddr a fl.offset s) H xs K) :
 OpOk P S ((do pure (Next.value (<-Instr.fieldAt t v f)):Sem Next).run P S.w) K:=by
 obtain⟨y,rfl,hr⟩:=hx.len1;obtain⟨i,d,hi,_,_,hsz,h0,hs1⟩:=EU hs
 have run:∀b o,(Instr.fieldAt t (.pointer (some ⟨b,o,none⟩)) f).run P S.w=.ok (.pointer (some ⟨b,o+fl.offset,none⟩)) S.w:=by
  intro b o;have:¬i.size=0:=by omega
  simp[Instr.fieldAt,run_underlying ht,hf,Instr.sureAddr,fieldPlace,Cp hi,this,addr_add]
 cases y<;>simp only[AF] at h<;>try exact h.elim
 ·rename_i x
  obtain⟨h1,h2,h3,h4,hK⟩:=h;obtain⟨hp,b,o,u,rfl,him,hx,hl⟩:=hr;have hle:fl.offset+s<=u.cells.size:=by have:=(hx.cells h1).length;simp at this;omega
  have hl':=hl.part (a:=a) hle h0 hs1;refine Bw (by simp[run b o];rfl) hS ?_ hK;exact⟨Tf hp _ _ _,b,o+fl.offset,Il a fl.offset s u,rfl,him,hx.part h1 h2 h0,by rw[hl'.1];exact hl'⟩
 ·rename_i g vn i o
  obtain⟨h1,hK⟩:=h;obtain⟨_,hg,hc,hp⟩:=hr;have hG:=hS.live_of hg;have e:S.cur g=vn:=by rw[hG.ver,h1]
  obtain rfl:v=_:=hp e;refine Bw (by simp[run];rfl) hS ?_ hK;exact⟨⟨_,rfl⟩,hg,hc,λ_=>by rw[Bo]⟩
theorem Xj{t:TypeId}{a:Bool}{s off:Nat}(hs:EY P t=some (a,s)){cs:Array Value}(hle:off+s<=cs.size):(part t cs off).run P S.w=.ok (Il a off s (.agg cs)) S.w:=by
 obtain⟨i,d,hi,hd,ha,hsz,h0,hs1⟩:=EU hs;simp only[part,Sem.run_bind,Tg hd,Result.andThen_ok,ha];cases a
 ·have hlt:off<cs.size:=by omega
  simp[Il,Value.cells,hlt]
 ·simp[Cp hi,hsz,Il,Value.cells]
theorem z1i{cs:List AV}{vs:List Value}(h:AB S cs vs):vs.toArray.size=cs.length:=by simp[h.length]
theorem zfo(hS:SRel S H)(t:TypeId)(f:Nat){fs:Array Field}{fl:Field}(ht:P.underlying t=some (.struct fs))(hf:fs[f]? = some fl){a:Bool}{s:Nat}(hs:EY P fl.type=some (a,s))
 {v:Value} {xs:List AV} (hx:AB S xs [v]) (h:AF P (.field a fl.offset s) H xs K) :
 OpOk P S ((do pure (Next.value (<-Instr.field t v f)):Sem Next).run P S.w) K:=by
 obtain⟨y,rfl,hr⟩:=hx.len1;obtain⟨_,_,_,_,_,_,h0,hs1⟩:=EU hs;cases y<;>simp only[AF] at h<;>try exact h.elim
 rename_i cs;obtain⟨h1,h2,hK⟩:=h;have hr':=hr;obtain⟨vs,rfl,hvs⟩:=hr;exact Bw (by simp[Instr.field,run_underlying ht,hf,asAgg,Xj (S:=S) hs (cs:=vs.toArray) (off:=fl.offset) (by rw[z1i hvs];exact h1)]) hS (hr'.part rfl h1 h0) hK
theorem zfp(hS:SRel S H)(t e:TypeId){n:Nat}(ht:P.underlying t=some (.array n e)){a:Bool}{s:Nat}(hs:EY P e=some (a,s))
 {v ix:Value} {xs:List AV} (hx:AB S xs [v,ix]) (h:AF P (.index n s a) H xs K) :
 OpOk P S ((do pure (Next.value (<-Instr.index t v ix)):Sem Next).run P S.w) K:=by
 obtain⟨y,z,rfl,hr,hz⟩:=hx.len2;obtain⟨i,_,hi,_,_,hsz,h0,hs1⟩:=EU hs;cases y<;>cases z<;>simp only[AF] at h<;>try exact h.elim
 rename_i cs k j;obtain⟨h1,h2,h3,h4,hK⟩:=h;obtain rfl:ix=.int k j:=hz;have hr':=hr;obtain⟨vs,rfl,hvs⟩:=hr
 have hle:j.toNat * s+s<=cs.length:=by
  have:(j.toNat+1) * s<=n * s:=AU _ (by omega);rw[AG,Dd] at this;omega
 exact Bw (by simp[Instr.index,asIntOf,run_underlying ht,h1,h2,Cp hi,hsz,Xj (S:=S) hs (cs:=vs.toArray) (off:=j.toNat * s) (by rw[z1i hvs];exact hle)]) hS (hr'.part rfl hle h0) hK
theorem Zi(hS:SRel S H)(t:TypeId)(ht:P.underlying t=some .string){v ix:Value}{xs:List AV}(hx:AB S xs [v,ix])(h:AF P .indexStr H xs K):
 OpOk P S ((do pure (Next.value (<-Instr.index t v ix)):Sem Next).run P S.w) K:=by
 obtain⟨y,z,rfl,hr,hz⟩:=hx.len2;cases y<;>cases z<;>simp only[AF] at h<;>try exact h.elim
 rename_i s k j;obtain⟨h1,h2,hK⟩:=h;obtain rfl:ix=.int k j:=hz;obtain rfl:v=.string ⟨s.toArray⟩:=hr;have hlt:j.toNat<s.length:=by omega
 have e:(⟨s.toArray⟩:ByteArray)[j.toNat]? = some (s.getD j.toNat 0):=by
  show (if h:j.toNat<(⟨s.toArray⟩:ByteArray).size then some _ else none)=_;rw[dif_pos (by rw[z8s];exact hlt)];simp[List.getD,Al hlt];rfl
 exact Bw (x:=.int .u8 _) (by simp[Instr.index,asIntOf,run_underlying ht,h1,e]) hS rfl hK
theorem z1j(hS:SRel S H)(i:Nat){v:Value}{xs:List AV}(hx:AB S xs [v])(h:AF P (.extract i) H xs K):
 OpOk P S ((do pure (Next.value (<-Instr.extract v i)):Sem Next).run P S.w) K:=by
 obtain⟨y,rfl,hr⟩:=hx.len1;cases y<;>simp only[AF] at h<;>try exact h.elim
 rename_i vs;obtain⟨us,rfl,hvs⟩:=hr;obtain⟨u,hu,hr⟩:=hvs.get (Al h.1);refine Bw (v:=u) (x:=vs.getD i .any) (by simp[Instr.extract,hu]) hS ?_ h.2;rw[List.getD,Al h.1];exact hr
theorem s_max(hS:SRel S H)(ts:Array TypeId)(ty:TypeId)(cs:Array Bool){u v:Value}{xs:List AV}(hx:AB S xs [u,v])(h:AF P .max H xs K):
 OpOk P S ((builtin .max ts ty cs #[u,v]).run P S.w) K:=by
 obtain⟨x,y,rfl,hu,hv⟩:=hx.len2;cases x<;>cases y<;>simp only[AF] at h<;>try exact h.elim
 rename_i k a k' b;obtain rfl:u=.int k a:=hu;obtain rfl:v=.int k' b:=hv;refine Bw (v:=.int k (max a b)) (x:=.int k _) ?_ hS rfl h.2;simp only[builtin,Builtin.max_,List.foldlM_cons,List.foldlM_nil,Builtin.max2,Sem.run_bind,Sem.run_pure,Result.andThen_ok];congr 3;rw[Int.max_def];split<;>split<;>omega
theorem s_min(hS:SRel S H)(ts:Array TypeId)(ty:TypeId)(cs:Array Bool){u v:Value}{xs:List AV}(hx:AB S xs [u,v])(h:AF P .min H xs K):
 OpOk P S ((builtin .min ts ty cs #[u,v]).run P S.w) K:=by
 obtain⟨x,y,rfl,hu,hv⟩:=hx.len2;cases x<;>cases y<;>simp only[AF] at h<;>try exact h.elim
 rename_i k a k' b;obtain rfl:u=.int k a:=hu;obtain rfl:v=.int k' b:=hv;refine Bw (v:=.int k (min a b)) (x:=.int k _) ?_ hS rfl h.2;simp only[builtin,Builtin.min_,List.foldlM_cons,List.foldlM_nil,Builtin.min2,Sem.run_bind,Sem.run_pure,Result.andThen_ok];congr 3;rw[Int.min_def];split<;>split<;>omega
theorem zfq(hS:SRel S H)(t e:TypeId){i:TypeInfo}(ht:P.underlying t=some (.slice e))(hi:P.info? e=some i)(h0:0<i.size)
 {v ix:Value} {xs:List AV} (hx:AB S xs [v,ix]) (h:AF P (.iaddr i.size) H xs K) :
 OpOk P S ((do pure (Next.value (<-Instr.indexAt t v ix)):Sem Next).run P S.w) K:=by
 obtain⟨y,z,rfl,hr,hz⟩:=hx.len2
 have run:∀b o (len cap:Nat) k (j:Int),0<=j->j<len->(Instr.indexAt t (.slice (some ⟨b,o,none⟩) len cap) (.int k j)).run P S.w=.ok (.pointer (some ⟨b,o+j.toNat * i.size,none⟩)) S.w:=by
  intro b o len cap k j h1 h2;simp[Instr.indexAt,asIntOf,run_underlying ht,h1,h2,Cp hi,addr_add]
 cases y<;>cases z<;>simp only[AF] at h<;>try exact h.elim
 ·rename_i w' xs k j
  obtain⟨h1,h2,h3,hK⟩:=h;subst h1;obtain rfl:ix=.int k j:=hz;obtain⟨hp,hw,a,cap,vs,rfl,hcap,hvs,hr⟩:=hr;have hlt:j.toNat<xs.length:=by omega
  obtain⟨b,o,rfl,him,hrow⟩:=hr (λhh=>by rw[hh] at hlt;simp at hlt);obtain⟨u,hu,hru⟩:=hvs.get (Al hlt);have hl:=hrow _ _ hu;refine Bw (by simp[run b o xs.length cap k j h2 (by omega)];rfl) hS ?_ hK;refine⟨Nn hp,b,_,u,rfl,him,?_,by rw[hl.1];exact hl⟩;rw[List.getD,Al hlt];exact hru
 ·rename_i w' xs k j
  obtain⟨h1,h2,h3,hK⟩:=h;subst h1;obtain rfl:ix=.int k j:=hz;obtain⟨hp,hw,a,cap,vs,rfl,hcap,hvs,hr⟩:=K3 hr;have hlt:j.toNat<xs.length:=by omega
  obtain⟨b,o,rfl,him,hrow⟩:=hr (λhh=>by rw[hh] at hlt;simp at hlt);obtain⟨u,hu,hru⟩:=hvs.get (Al hlt);have hl:=hrow _ _ hu;refine Bw (by simp[run b o xs.length cap k j h2 (by omega)];rfl) hS ?_ hK;refine⟨Nn hp,b,_,u,rfl,him,?_,by rw[hl.1];exact hl⟩;rw[List.getD,Al hlt];exact hru
 ·rename_i g vn off len k j
  obtain⟨h1,h2,h3,h4,hK⟩:=h;obtain rfl:ix=.int k j:=hz;obtain⟨_,hg,hc,hp⟩:=hr;have hG:=hS.live_of hg;have ec:S.cur g=vn:=by rw[hG.ver,h1]
  obtain⟨a,cap',rfl,hcase⟩:=hp ec;rcases hcase with⟨rfl,hcap,hle⟩|⟨hl,_⟩
  ·refine Bw (by simp[run _ _ len cap' k j h3 (by omega)];rfl) hS ?_ hK
   refine⟨⟨_,rfl⟩,hg,hc,λ_=>?_⟩;rw[hG.wid,h2,AG,Nat.add_zero]
  ·omega
theorem z8t(hS:SRel S H)(t e:TypeId){n:Nat}(ht:P.underlying t=some (.array n e)){a:Bool}{s:Nat}(hs:EY P e=some (a,s))(hn:¬n<=1)
 {v ix:Value} {xs:List AV} (hx:AB S xs [v,ix]) (h:AF P (.iaddrA n s a) H xs K) :
 OpOk P S ((do pure (Next.value (<-Instr.indexAt t v ix)):Sem Next).run P S.w) K:=by
 obtain⟨y,z,rfl,hr,hz⟩:=hx.len2;obtain⟨i,_,hi,_,_,hsz,h0,hs1⟩:=EU hs
 have run:∀b o k (j:Int),0<=j->j<n->(Instr.indexAt t (.pointer (some ⟨b,o,none⟩)) (.int k j)).run P S.w=.ok (.pointer (some ⟨b,o+j.toNat * s,none⟩)) S.w:=by
  intro b o k j h1 h2;simp[Instr.indexAt,asIntOf,run_underlying ht,h1,h2,Cp hi,addr_add,Instr.sureAddr,hsz]
 cases y<;>cases z<;>simp only[AF] at h<;>try exact h.elim
 ·rename_i x k j
  obtain⟨h1,h2,h3,h4,h5,h6,hK⟩:=h;obtain rfl:ix=.int k j:=hz;obtain⟨hp,b,o,u,rfl,him,hx,hl⟩:=hr
  have hle:j.toNat * s+s<=x.cells.length:=by
   have:(j.toNat+1) * s<=n * s:=AU _ (by omega);rw[AG,Dd] at this;omega
  have hle':j.toNat * s+s<=u.cells.size:=by have:=(hx.cells h1).length;simp at this;omega
  have hl':=hl.part (a:=a) hle' h0 hs1;refine Bw (by simp[run b o k j h2 h3];rfl) hS ?_ hK;exact⟨Tf hp _ _ _,b,o+j.toNat * s,Il a _ s u,rfl,him,hx.part h1 hle h0,by rw[hl'.1];exact hl'⟩
 ·rename_i g vn q o k j
  obtain⟨h1,h2,h3,hK⟩:=h;obtain rfl:ix=.int k j:=hz;obtain⟨_,hg,hc,hp⟩:=hr;have hG:=hS.live_of hg;obtain rfl:v=_:=hp (by rw[hG.ver,h1]);refine Bw (by simp[run _ _ k j h2 h3];rfl) hS ?_ hK;exact⟨⟨_,rfl⟩,hg,hc,λ_=>by rw[Bo]⟩
end
section
variable {P:Program}{S:MS}{H:A5}{ρ:Operand->Value}{K:AV->A5->Prop}
theorem z8u(hS:SRel S H)(f:Nat){vs:List Value}{xs:List AV}(hx:AB S xs vs)(h:AF P (.mkFunc f) H xs K):
 OpOk P S ((do pure (Next.value (<-Instr.makeFunc (.func f) #[] vs.toArray)):Sem Next).run P S.w) K :=
 Bw (x:=.fn f xs) (by simp[Instr.makeFunc]) hS ⟨vs,rfl,hx⟩ h
theorem zkl(hS:SRel S H){v:Value}{vs:List Value}{xs:List AV}(hx:AB S xs (v::vs))(h:AF P .call H xs K):
 OpOk P S ((do let d <-Deferred.ofValue v vs.toArray;invoke d.target d.args:Sem Next).run P S.w) K:=by
 match xs,hx with
 |[],hx=>have:=hx.length;simp at this
 |y::ys,hx =>
  obtain⟨hy,hys⟩:=hx.cons_inv;cases y<;>simp only[AF] at h<;>try exact h.elim
  rename_i f caps;obtain⟨us,rfl,hus⟩:=hy;obtain⟨he,hc⟩:=h;refine .inr ⟨f,(vs++us).toArray,?_,hc S _ hS (hys.append hus)⟩;have:=he (vs++us).toArray S.w;simp only[Deferred.ofValue,Sem.run_bind,Sem.run_pure,Result.andThen_ok,invoke];simpa using this
theorem Im{k:IntKind}{i:Int}{y:Nat}{code:BoundsCode}(h0:0<=i)(h1:i<=y)(w:World):(Instr.sliceBound (.int k i) y code).run P w=.ok i.toNat w:=by
 simp[Instr.sliceBound,asIntOf,h0,h1]
def H6(o:Option Value)(x:Option Int):Prop :=
 match o,x with
 |none,none=>True
 |some v,some n=>∃k,v=.int k n
 |_,_=>False
theorem Zj{lo hi:Option Value}{a b:Option Int}(hl:H6 lo a)(hh:H6 hi b){len cap:Nat}(h1:0<=a.getD 0)(h2:a.getD 0<=b.getD len)(h3:b.getD len<=cap)(w:World):
 (Instr.sliceBounds true len cap lo hi none).run P w=.ok ((a.getD 0).toNat,(b.getD len).toNat,cap) w:=by
 cases lo<;>cases a<;>simp only[H6] at hl<;>try exact hl.elim
 all_goals cases hi<;>cases b<;>simp only[H6] at hh<;>try exact hh.elim
 ·simp[Instr.sliceBounds]
 ·obtain⟨k,rfl⟩:=hh
  simp only[Option.getD_none,Option.getD_some] at *;simp[Instr.sliceBounds,Im (P:=P) (k:=k) h2 h3]
 ·obtain⟨k,rfl⟩:=hl
  simp only[Option.getD_none,Option.getD_some] at *;simp[Instr.sliceBounds,Im (P:=P) (k:=k) h1 h2]
 ·obtain⟨k,rfl⟩:=hl
  obtain⟨k',rfl⟩:=hh;simp only[Option.getD_some] at *;rename_i x y;have e:((y.toNat:Nat):Int)=y:=by omega
  simp[Instr.sliceBounds,Im (P:=P) (k:=k') (i:=y) (by omega) h3,Im (P:=P) (k:=k) (i:=x) (y:=y.toNat) h1 (by omega)]
theorem K6{t e:TypeId}{i:TypeInfo}(ht:P.underlying t=some (.slice e))(hi:P.info? e=some i){lo hh:Option Value}{a b:Option Int}(hl:H6 lo a)(hb:H6 hh b)(base:Option Addr){len cap:Nat}
 (h1:0<=a.getD 0) (h2:a.getD 0<=b.getD len) (h3:b.getD len<=cap) (w:World) :
 (Instr.sliceAt t (.slice base len cap) lo hh none).run P w=.ok (.slice (if cap=(a.getD 0).toNat then base else base.map (·.add ((a.getD 0).toNat * i.size))) ((b.getD len).toNat-(a.getD 0).toNat) (cap-(a.getD 0).toNat)) w:=by
 simp[Instr.sliceAt,Instr.slice,run_underlying ht,Zj (P:=P) hl hb h1 h2 h3,Cp hi]
theorem z8v(hS:SRel S H){t e:TypeId}{i:TypeInfo}(ht:P.underlying t=some (.slice e))(hi:P.info? e=some i)(h0:0<i.size){lo hh mx:Option Value}{a b c:Option Int}(hl:H6 lo a)(hb:H6 hh b)(hm:H6 mx c)
 {v:Value} {x:AV} (hx:VRel S x v) (h:GB i.size x a b c H λy=>K y H) :
 OpOk P S ((do pure (Next.value (<-Instr.sliceAt t v lo hh mx)):Sem Next).run P S.w) K:=by
 cases c with
 |some m =>
  simp only[GB] at h;obtain⟨hm0,hb0,ha0,h⟩:=h;subst hm0 hb0;cases mx with
  |none=>exact hm.elim
  |some mv =>
   obtain⟨km,rfl⟩:=hm;cases hh with
   |none=>exact hb.elim
   |some hv =>
    obtain⟨kh,rfl⟩:=hb
    have run:∀(base:Option Addr)(len cap:Nat),(Instr.sliceAt t (.slice base len cap) lo (some (.int kh 0)) (some (.int km 0))).run P S.w=.ok (.slice base 0 0) S.w:=by
     intro base len cap;have b1:(Instr.sliceBound (.int km 0) cap .slice3Acap).run P S.w=.ok 0 S.w:=Im (P:=P) (by omega) (by omega) S.w;have b2:(Instr.sliceBound (.int kh 0) 0 .slice3B).run P S.w=.ok 0 S.w:=Im (P:=P) (by omega) (by omega) S.w;rcases ha0 with rfl|rfl
     ·cases lo with
      |some _=>exact hl.elim
      |none=>simp[Instr.sliceAt,Instr.slice,run_underlying ht,Instr.sliceBounds,b1,b2,Cp hi]
     ·cases lo with
      |none=>exact hl.elim
      |some lv =>
       obtain⟨kl,rfl⟩:=hl;have b3:(Instr.sliceBound (.int kl 0) 0 .slice3C).run P S.w=.ok 0 S.w:=Im (P:=P) (by omega) (by omega) S.w;simp[Instr.sliceAt,Instr.slice,run_underlying ht,Instr.sliceBounds,b1,b2,b3,Cp hi]
    cases x<;>simp only at h<;>try exact h.elim
    ·obtain rfl:v=.slice none 0 0:=hx
     exact Bw (x:=.nilS) (by simp[run]) hS rfl h
    ·obtain⟨ad,rfl⟩:=hx
     exact Bw (x:=.nul) (by simp[run];rfl) hS ⟨_,rfl⟩ h
    ·obtain⟨_,_,_,_,_,rfl,_⟩:=hx
     exact Bw (x:=.nul) (by simp[run];rfl) hS ⟨_,rfl⟩ h
    ·obtain⟨_,_,_,_,_,rfl,_⟩:=K3 hx
     exact Bw (x:=.nul) (by simp[run];rfl) hS ⟨_,rfl⟩ h
    ·obtain⟨⟨ad,c,rfl,_⟩,_⟩:=hx
     exact Bw (x:=.nul) (by simp[run];rfl) hS ⟨_,rfl⟩ h
 |none =>
  cases mx with
  |some _=>exact hm.elim
  |none =>
   cases x<;>simp only[GB] at h<;>try exact h.elim
   ·obtain⟨ha,hbb,h⟩:=h
    obtain rfl:v=.slice none 0 0:=hx;have e1:a.getD 0=0:=by rcases ha with rfl|rfl<;>rfl
    have e2:b.getD ((0:Nat):Int)=0:=by rcases hbb with rfl|rfl<;>rfl
    have:=K6 (P:=P) ht hi hl hb none (len:=0) (cap:=0) (by omega) (by omega) (by omega) S.w;rw[e1,e2] at this;exact Bw (x:=.nilS) (by simp[this]) hS rfl h
   ·obtain⟨ha,hbb,h⟩:=h
    obtain⟨ad,rfl⟩:=hx;have e1:a.getD 0=0:=by rcases ha with rfl|rfl<;>rfl
    have e2:b.getD ((0:Nat):Int)=0:=by rcases hbb with rfl|rfl<;>rfl
    have:=K6 (P:=P) ht hi hl hb ad (len:=0) (cap:=0) (by omega) (by omega) (by omega) S.w;rw[e1,e2] at this;exact Bw (x:=.nul) (by simp[this];rfl) hS ⟨_,rfl⟩ h
   ·rename_i w' xs
    obtain⟨h1,h2,h3,h4,h⟩:=h;subst h1;obtain⟨hp,hw,ad,cap,vs,rfl,hcap,hvs,hrow⟩:=hx;have run:=K6 (P:=P) ht hi hl hb ad (len:=xs.length) (cap:=cap) h2 h3 (by omega) S.w;generalize ea:(a.getD 0).toNat=A at *;generalize eb:(b.getD (xs.length:Int)).toNat=B at *;have hAB:A<=B:=by omega
    have hB:B<=xs.length:=by omega
    have hlen:((xs.take B).drop A).length=B-A:=by simp;omega
    refine Bw (by simp[run];rfl) hS ?_ h;refine⟨Jq (Jr hp),hw,?_⟩;by_cases hc:cap=A
    ·have:(xs.take B).drop A=[]:=Ay (by omega)
     exact⟨ad,cap-A,[],by rw[hlen];simp[hc],⟨by omega,λhn=>by have:=hcap.2 hn;omega⟩,by rw[this];rfl,λhne=>absurd this hne⟩
    ·refine⟨ad.map (·.add (A * i.size)),cap-A,(vs.take B).drop A,by rw[hlen];simp[hc],⟨by omega,λhn=>by have:=hcap.2 (by cases ad<;>simp_all);omega⟩,(hvs.take B).drop A,λhne=>?_⟩
     obtain⟨bb,o,rfl,him,hrow⟩:=hrow (λhh=>by rw[hh] at hne;simp at hne);refine⟨bb,o+A * i.size,Dl some (addr_add _ _ _),him,λj v hv=>?_⟩;rw[BS,BU] at hv;split at hv
     ·have:=hrow _ _ hv
      rw[AG] at this;rw[Bo];exact this
     ·cases hv
   ·rename_i w' xs
    obtain⟨h1,h2,h3,h4,h⟩:=h;subst h1;obtain⟨hp,hw,ad,cap,vs,rfl,hcap,hvs,hrow⟩:=K3 hx;have run:=K6 (P:=P) ht hi hl hb ad (len:=xs.length) (cap:=cap) h2 h3 (by omega) S.w;generalize ea:(a.getD 0).toNat=A at *;generalize eb:(b.getD (xs.length:Int)).toNat=B at *;have hAB:A<=B:=by omega
    have hB:B<=xs.length:=by omega
    have hlen:((xs.take B).drop A).length=B-A:=by simp;omega
    refine Bw (by simp[run];rfl) hS ?_ h;refine⟨Jq (Jr hp),hw,?_⟩;by_cases hc:cap=A
    ·have:(xs.take B).drop A=[]:=Ay (by omega)
     exact⟨ad,cap-A,[],by rw[hlen];simp[hc],⟨by omega,λhn=>by have:=hcap.2 hn;omega⟩,by rw[this];rfl,λhne=>absurd this hne⟩
    ·refine⟨ad.map (·.add (A * i.size)),cap-A,(vs.take B).drop A,by rw[hlen];simp[hc],⟨by omega,λhn=>by have:=hcap.2 (by cases ad<;>simp_all);omega⟩,(hvs.take B).drop A,λhne=>?_⟩
     obtain⟨bb,o,rfl,him,hrow⟩:=hrow (λhh=>by rw[hh] at hne;simp at hne);refine⟨bb,o+A * i.size,Dl some (addr_add _ _ _),him,λj v hv=>?_⟩;rw[BS,BU] at hv;split at hv
     ·have:=hrow _ _ hv
      rw[AG] at this;rw[Bo];exact this
     ·cases hv
   ·rename_i g vn off len
    obtain⟨h1,h2,h3,h4,h5,h6,h⟩:=h;obtain⟨_,hg,hcv,hpos⟩:=hx;have hG:=hS.live_of hg;have ec:S.cur g=vn:=by rw[hG.ver,h1]
    obtain⟨ad,cap',rfl,hcase⟩:=hpos ec
    have hcap:b.getD (len:Int)<=cap':=by
     rcases hcase with⟨_,hc,hle⟩|⟨hl0,hc,hle⟩
     ·rcases h6 with h6|⟨h6,h7⟩
      ·omega
      ·have:=hG.full (by omega) h6;omega
     ·rcases h6 with h6|⟨h6,h7⟩
      ·omega
      ·have:=hG.full (by omega) h6;omega
    have run:=K6 (P:=P) ht hi hl hb ad (len:=len) (cap:=cap') h4 h5 hcap S.w;refine Bw (v:=.slice (if cap'=(a.getD 0).toNat then ad else ad.map (·.add ((a.getD 0).toNat * i.size))) ((b.getD len).toNat-(a.getD 0).toNat) (cap'-(a.getD 0).toNat)) (by simp only[Sem.run_bind,run,Result.andThen_ok,Sem.run_pure]) hS ?_ h
    generalize ea:(a.getD 0).toNat=A at *;generalize eb:(b.getD (len:Int)).toNat=B at *;have hAB:A<=B:=by omega
    have hB:B<=cap':=by omega
    refine⟨?_,hg,hcv,λ_=>?_⟩
    ·refine⟨_,_,rfl,λhn=>?_⟩
     rcases hcase with⟨rfl,hc,hle⟩|⟨hl0,hc,hle⟩
     ·split at hn<;>cases hn
     ·omega
    ·rcases hcase with⟨rfl,hc,hle⟩|⟨hl0,hc,hle⟩
     ·by_cases hcA:cap'=A
      ·exact⟨_,_,by rw[Ae hcA],.inr ⟨by omega,by omega,by omega⟩⟩
      ·refine⟨_,_,by rw[Ab hcA],.inl ⟨?_,by omega,by omega⟩⟩
       show some ((Addr.mk _ _ none).add _)=_;rw[addr_add,hG.wid,h2,AG]
     ·have:cap'=A:=by omega
      exact⟨_,_,by rw[Ae this],.inr ⟨by omega,by omega,by omega⟩⟩
theorem Rv{b:Bool}{xs:List AV}{a:Option Int}{l:List AV}(h:optA b xs=some (a,l)){ov:Option Value}{vs:List Value}(hb:b=ov.isSome)(hx:AB S xs (ov.toList++vs)):H6 ov a/\AB S l vs:=by
 cases ov with
 |none =>
  subst hb;simp only[Option.isSome_none,optA,Aq,Prod.mk.injEq] at h;obtain⟨rfl,rfl⟩:=h;exact⟨trivial,by simpa using hx⟩
 |some v =>
  subst hb
  match xs,hx,h with
  |[],hx,h=>simp[optA] at h
  |x::xs,hx,h =>
   obtain⟨h1,h2⟩:=(show AB S (x::xs) (v::vs) by simpa using hx).cons_inv;cases x<;>simp only[Option.isSome_some,optA,Aq,Prod.mk.injEq,reduceCtorEq] at h;obtain⟨rfl,rfl⟩:=h;exact⟨⟨_,h1⟩,h2⟩
theorem zfr(hS:SRel S H){t e:TypeId}{i:TypeInfo}(ht:P.underlying t=some (.slice e))(hi:P.info? e=some i)(h0:0<i.size){v:Value}{lo hh mx:Option Value}
 {xs:List AV} (hx:AB S xs (v::(lo.toList++(hh.toList++(mx.toList++[]))))) (h:AF P (.slice i.size lo.isSome hh.isSome mx.isSome) H xs K) :
 OpOk P S ((do pure (Next.value (<-Instr.sliceAt t v lo hh mx)):Sem Next).run P S.w) K:=by
 match xs,hx with
 |[],hx=>have:=hx.length;simp at this
 |x::l,hx =>
  obtain⟨hxv,hl⟩:=hx.cons_inv;simp only[AF] at h;obtain⟨⟨a,l1⟩,ha,h⟩:=Cn h;obtain⟨⟨b,l2⟩,hb,h⟩:=Cn h;obtain⟨⟨c,l3⟩,hc,hl3,h⟩:=Cn h;obtain⟨b1,r1⟩:=Rv ha rfl hl;obtain⟨b2,r2⟩:=Rv hb rfl r1;obtain⟨b3,_⟩:=Rv hc rfl r2;exact z8v hS ht hi h0 b1 b2 b3 hxv h
theorem L8(hS:SRel S H){w:Nat}(hw:0<w){x:AV}{v:Value}(hx:VRel S x v)(hok:Gy H w x)(hstr:∀s,x≠.str s){es:List AV}(he:Gx H x=some es):
 ∃a cap vs,v=.slice a es.length cap/\AB S es vs/\(es≠[]->∃b o,a=some ⟨b,o,none⟩/\Ng S.w b o w vs):=by
 cases x<;>simp only[Gx,Aq,reduceCtorEq] at he<;>simp only[Gy] at hok
 ·exact absurd rfl (hstr _)
 ·subst he
  obtain rfl:v=.slice none 0 0:=hx;exact⟨none,0,[],rfl,rfl,λh=>absurd rfl h⟩
 ·subst he
  obtain⟨a,rfl⟩:=hx;exact⟨a,0,[],rfl,rfl,λh=>absurd rfl h⟩
 ·subst he
  obtain⟨a,cap,rfl⟩:=hx;exact⟨some a,cap,[],rfl,rfl,λh=>absurd rfl h⟩
 ·subst he
  subst hok;obtain⟨_,_,a,cap,vs,rfl,_,hvs,hrow⟩:=hx;exact⟨_,cap,vs,rfl,hvs,λhne=>let ⟨b,o,ha,_,hr⟩:=hrow hne;⟨b,o,ha,hr⟩⟩
 ·subst he
  subst hok;obtain⟨_,_,a,cap,vs,rfl,_,hvs,hrow⟩:=K3 hx;exact⟨_,cap,vs,rfl,hvs,λhne=>let ⟨b,o,ha,_,hr⟩:=hrow hne;⟨b,o,ha,hr⟩⟩
 ·rename_i g vn off len
  obtain⟨h1,h2,h3⟩:=hok;obtain⟨_,hg,hc,hp⟩:=hx;have hG:=hS.live_of hg;obtain⟨a,cap',rfl,hcase⟩:=hp (by rw[hG.ver,h1]);have hlen:es.length=len:=by rw[<-he];simp;omega
  by_cases hc0:S.cap g=0
  ·have h4:=hG.len (by omega)
   have he0:es=[]:=Ay (by omega);exact⟨a,cap',[],by rw[hlen],by rw[he0];rfl,λhne=>absurd he0 hne⟩
  obtain⟨⟨cells,T,us,hb,hcs,hus,hf⟩,h6⟩:=hG.live (by omega) (by omega);refine⟨a,cap',(us.drop off).take len,by rw[hlen],by rw[<-he];exact (hus.drop off).take len,λhne=>?_⟩;rcases hcase with⟨rfl,_,_⟩|⟨hl0,_,_⟩
  ·refine⟨_,_,rfl,λj u hu=>?_⟩
   rw[BU] at hu;split at hu
   ·rw[BS] at hu
    have:=hf.row hb (off+j) u hu;rw[h2,Bb,AG] at this;rw[hG.wid,h2];exact this
   ·cases hu
  ·exact absurd (Ay (by omega)) hne
def flat(vs:List Value):List Value:=vs.flatMap (·.cells.toList)
theorem flat_get{w:Nat}:∀{vs:List Value},(∀v∈vs,v.cells.size=w)->(flat vs).length=vs.length * w/\∀i v,vs[i]? = some v->∀j,j<w->(flat vs)[i * w+j]? = v.cells[j]?
 |[],_=>⟨by simp[flat],λi v hv=>by simp at hv⟩
 |v::vs,h=>by
  obtain⟨ih1,ih2⟩:=flat_get (w:=w) (vs:=vs) (λu hu=>h u (by simp[hu]));have hv:v.cells.toList.length=w:=by rw[<-h v (by simp)];simp
  have e:flat (v::vs)=v.cells.toList++flat vs:=by simp[flat]
  refine⟨by rw[e,Aj,hv,ih1,List.length_cons,AG];omega,λi u hu j hj=>?_⟩;rw[e];cases i with
  |zero =>
   simp only[List.getElem?_cons_zero,Aq] at hu;subst hu;rw[A9 (by omega)];simp
  |succ i =>
   simp only[List.getElem?_cons_succ] at hu;rw[AD (by rw[hv,AG];omega),<-ih2 i u hu j hj,hv];congr 1;rw[AG];omega
theorem Rw{w:Nat}(hw:0<w){vs:List Value}(h:∀v∈vs,v.cells.size=w){k:Nat}{c:Value}(hc:(flat vs)[k]? = some c):∃v,vs[k / w]? = some v/\v.cells[k % w]? = some c:=by
 obtain⟨h1,h2⟩:=flat_get h;have hk:k<vs.length * w:=by rw[<-h1];exact (AI.1 hc).1
 have hlt:k / w<vs.length:=Nat.div_lt_of_lt_mul (by rw[CI];exact hk);refine⟨vs[k / w],Al hlt,?_⟩;rw[<-h2 (k / w) _ (Al hlt) (k % w) (Nat.mod_lt _ hw),<-hc];congr 1;rw[CI];exact FZ k w
theorem Ng.sizes{w:World}{b o wd:Nat}{vs:List Value}(h:Ng w b o wd vs):∀v∈vs,v.cells.size=wd:=λv hv=>by
 obtain⟨i,hi⟩:=D6 hv;exact (h i v hi).1
theorem Ng.cell{w:World}{b o wd:Nat}{vs:List Value}(hw:0<wd)(h:Ng w b o wd vs){k:Nat}{c:Value}(hc:(flat vs)[k]? = some c):w.cell? ((⟨b,o,none⟩:Addr).add k)=some c/\c.oneCell'=true:=by
 obtain⟨v,hv,hcc⟩:=Rw hw h.sizes hc;obtain⟨h1,h2,h3⟩:=h _ _ hv;have:=h3 (k % wd) (Nat.mod_lt _ hw);rw[hcc] at this;refine⟨?_,?_⟩
 ·rw[addr_add,<-this]
  congr 2;rw[Bo,CI,FZ]
 ·have hm:c∈v.cells:=by
   obtain⟨hh,he⟩:=Bl.1 hcc;exact he ▸ Eu hh
  exact h2 c hm
theorem zfs(hS:SRel S H)(src dst e:TypeId)(hs:P.underlying src=some (.slice e))(hd:P.underlying dst=some .string)(he:P.underlying e=some (.int .u8)){v:Value}{xs:List AV}(hx:AB S xs [v])(h:AF P .toStr H xs K):
 OpOk P S ((do pure (Next.value (<-convert src dst v)):Sem Next).run P S.w) K:=by
 obtain⟨x,rfl,hv⟩:=hx.len1;simp only[AF] at h;obtain⟨hok,hns,bs,hbs,hK⟩:=h;obtain⟨a,cap,vs,rfl,hvs,hrow⟩:=L8 hS (by omega) hv hok (λs hs=>by subst hs;exact hns) hbs
 have conv:∀(bs:List UInt8)(vs:List Value),AB S (bs.map λb=>AV.int .u8 b.toNat) vs->vs=bs.map λb=>Value.int .u8 b.toNat:=by
  intro bs
  induction bs with
  |nil=>exact λvs h=>h
  |cons b bs ih=>intro vs h;obtain⟨u,r,rfl,h1,h2⟩:=h;rw[show u=_ from h1,ih r h2];rfl
 have hvs':=conv bs vs hvs
 subst hvs';cases a with
 |none =>
  have:bs=[]:=by
   cases bs with
   |nil=>rfl
   |cons b bs=>obtain⟨_,_,hh,_⟩:=hrow (by simp);cases hh
  subst this;exact Bw (x:=.str []) (by simp only[Sem.run_bind,run_convert_bytes_nil S.w src e hs he _ _ dst hd,Result.andThen_ok,Sem.run_pure];rfl) hS rfl hK
 |some ad =>
  have run:=run_convert_bytes_back (P:=P) S.w src dst e ad cap bs hs he hd (λj hj=>by
   obtain⟨b,o,hh,hr⟩:=hrow (by intro h0;have:=Gk.1 h0;subst this;simp at hj);cases hh;have:=(hr j (.int .u8 (bs[j].toNat:Int)) (by simp[hj])).2.2 0 (by omega);rw[addr_add]
   simpa [Value.cells] using this)
  refine Bw (x:=.str bs) (v:=.string ⟨bs.toArray⟩) ?_ hS rfl hK;simp only[AY,Sem.run_bind,run,Result.andThen_ok,Sem.run_pure]
theorem z8w(hS:SRel S H)(src dst e:TypeId)(hs:P.underlying src=some (.slice e))(hd:P.underlying dst=some .string)(he:P.underlying e=some (.int .i32)){v:Value}{xs:List AV}(hx:AB S xs [v])(h:AF P .runStr H xs K):
 OpOk P S ((do pure (Next.value (<-convert src dst v)):Sem Next).run P S.w) K:=by
 obtain⟨x,rfl,hv⟩:=hx.len1;simp only[AF] at h;obtain⟨hok,hns,zs,hbs,hK⟩:=h;obtain⟨a,cap,vs,rfl,hvs,hrow⟩:=L8 hS (by omega) hv hok (λs hs=>by subst hs;exact hns) hbs
 have conv:∀(zs:List Int)(vs:List Value),AB S (zs.map (AV.int .i32)) vs->vs=zs.map (Value.int .i32):=by
  intro zs
  induction zs with
  |nil=>exact λvs h=>h
  |cons b zs ih=>intro vs h;obtain⟨u,r,rfl,h1,h2⟩:=h;rw[show u=_ from h1,ih r h2];rfl
 have hvs':=conv zs vs hvs
 subst hvs';cases a with
 |none =>
  have:zs=[]:=by
   cases zs with
   |nil=>rfl
   |cons b zs=>obtain⟨_,_,hh,_⟩:=hrow (by simp);cases hh
  subst this;exact Bw (x:=.str (JZ [])) (by simp only[Sem.run_bind,run_convert_runes_nil S.w src dst e _ _ hs he hd,Result.andThen_ok,Sem.run_pure];rfl) hS rfl hK
 |some ad =>
  have run:=run_convert_runes (P:=P) S.w src dst e ad zs.length cap zs (Ad _) hs he hd (λj hj=>by
   obtain⟨b,o,hh,hr⟩:=hrow (by intro h0;have:=Gk.1 h0;subst this;simp at hj);cases hh;have:=(hr j (.int .i32 zs[j]) (by simp[hj])).2.2 0 (by omega);rw[addr_add]
   simpa [Value.cells,List.getD,hj] using this)
  rw[A7] at run;refine Bw (x:=.str (JZ zs)) (v:=.string (runesBytes zs)) ?_ hS (by show Value.string (runesBytes zs)=Value.string ⟨(JZ zs).toArray⟩;simp[JZ]) hK;simp only[AY,Sem.run_bind,run,Result.andThen_ok,Sem.run_pure]
theorem DO(T:TypeId)(cells:Array Value)(w:World):(newRow T cells).run P w=.ok ⟨w.heap.size,0,none⟩ (w.alloc (.cells cells T)):=by
 rfl
theorem Zk{w:Nat}{vs:List Value}(h:∀v∈vs,v.cells.size=w/\∀c∈v.cells,c.oneCell'=true)(rest:Array Value):Gw ((flat vs).toArray++rest) w vs:=by
 intro i v hv;obtain⟨h1,h2⟩:=h v (D7 hv);refine⟨h1,h2,λj hj=>?_⟩;obtain⟨f1,f2⟩:=flat_get (w:=w) (vs:=vs) (λu hu=>(h u hu).1);have hi:i<vs.length:=(AI.1 hv).1;have:(i+1) * w<=vs.length * w:=AU _ hi;rw[AG,Dd] at this;rw[BH (by simp;omega),<-f2 i v hv j hj];simp
theorem one_cell{x:AV}{v:Value}(h:VRel S x v)(h1:x.one=true):v.oneCell'=true:=by
 cases x<;>simp only[AV.one,A8] at h1
 ·rw[show v=_ from h];rfl
 ·rw[show v=_ from h];rfl
 ·rw[show v=_ from h];rfl
 ·rw[show v=_ from h];rfl
 ·obtain⟨a,rfl⟩:=h;rfl
 ·obtain⟨a,cap,rfl⟩:=h;rfl
 ·obtain⟨_,_,_,_,_,rfl,_⟩:=h;rfl
 ·obtain⟨_,_,_,_,rfl,_⟩:=h;rfl
 ·obtain⟨⟨_,rfl⟩,_⟩:=h;rfl
 ·obtain⟨⟨_,_,rfl,_⟩,_⟩:=h;rfl
 ·obtain⟨_,_,_,_,rfl,_⟩:=h;rfl
 ·obtain⟨⟨_,rfl⟩,_⟩:=h;rfl
 ·rw[show v=_ from h];rfl
 ·obtain⟨_,rfl,_⟩:=h;rfl
 ·rw[show v=_ from h];rfl
 ·rw[show v=_ from h];rfl
theorem K7:∀{xs:List AV}{vs:List Value},AB S xs vs->Ez xs=true->∀c∈vs,c.oneCell'=true
 |[],vs,h,_=>by rw[show vs=[] from h];simp
 |x::xs,vs,h,h1=>by
  obtain⟨v,r,rfl,hv,hr⟩:=h;simp only[Ez,Ac] at h1;intro c hc;rcases Af.1 hc with rfl|hc
  ·exact one_cell hv h1.1
  ·exact K7 hr h1.2 c hc
theorem L9{x:AV}(h:Ez x.cells=true):x.isAny=false:=by
 cases x<;>simp_all [AV.cells,Ez,AV.one,AV.isAny]
theorem Hc{x:AV}{v:Value}(h:VRel S x v)(h1:Ez x.cells=true):v.cells.size=x.cells.length/\∀c∈v.cells,c.oneCell'=true:=by
 have hc:=h.cells (L9 h1);refine⟨by have:=hc.length;simpa using this,λc hc'=>K7 hc h1 c (by simpa using hc')⟩
theorem Ti{v:Value}{x:AV}(h:z8p v=some x):VRel S x v:=by
 unfold z8p at h;split at h<;>simp only[Aq,reduceCtorEq] at h<;>subst h<;>rfl
theorem Tj:∀{vs:List Value}{xs:List AV},z8q vs=some xs->AB S xs vs
 |[],xs,h=>by cases h;rfl
 |v::vs,xs,h=>by
  simp only[z8q] at h;split at h
  ·rename_i x ys h1 h2
   cases h;exact⟨v,vs,rfl,Ti h1,Tj h2⟩
  ·cases h
theorem G9{v:Value}{x:AV}(h:avOf v=some x):VRel S x v:=by
 unfold avOf at h;split at h
 ·rename_i cs
  rw[Ag] at h;obtain⟨ys,h1,rfl⟩:=h;exact⟨cs.toList,rfl,Tj h1⟩
 ·exact Ti h
theorem Fa{r:Result Next}{v:Value}{x:AV}{S':MS}{H':A5}(hr:r=.ok (.value v) S'.w)(e:Evo S S')(hS:SRel S' H')(hv:VRel S' x v)(hK:K x H'):OpOk P S r K :=
 .inl ⟨v,S',x,H',.inl hr,e,hS,hv,hK⟩
theorem Xk(hS:SRel S H)(o:Obj)(ver cap wid:Nat):VRel (S.grow o ver cap wid) (.ptr H.n ver 0 0) (.pointer (some ⟨S.w.heap.size,0,none⟩)):=by
 refine⟨⟨_,rfl⟩,?_,?_,λ_=>?_⟩
 ·show H.n<S.n+1;rw[hS.n];omega
 ·show ver<=fput _ _ _ _;rw[<-hS.n,AL];exact Ad _
 ·show _=Value.pointer (some ⟨fput _ _ _ _,_,_⟩);rw[<-hS.n,AL];simp
theorem Rx(hS:SRel S H)(o:Obj)(ver cap wid len:Nat)(hl:len<=cap):VRel (S.grow o ver cap wid) (.ref H.n ver 0 len) (.slice (some ⟨S.w.heap.size,0,none⟩) len cap):=by
 refine⟨⟨_,_,rfl,λh=>by cases h⟩,?_,?_,λ_=>⟨_,_,rfl,.inl ⟨?_,?_,?_⟩⟩⟩
 ·show H.n<S.n+1;rw[hS.n];omega
 ·show ver<=fput _ _ _ _;rw[<-hS.n,AL];exact Ad _
 ·show _=some (Addr.mk (fput _ _ _ _) _ _);rw[<-hS.n,AL];simp
 ·show _=fput _ _ _ _-_;rw[<-hS.n,AL];simp
 ·show _<=fput _ _ _ _;rw[<-hS.n,AL];omega
theorem zft(hS:SRel S H)(t:TypeId){i:TypeInfo}{z:Value}{x:AV}(hi:P.info? t=some i)(hz:i.zero=some z)(hx:avOf z=some x)(h0:0<z.cells.size)(h1:∀c∈z.cells,c.oneCell'=true)(h:AF P (.alloc x z.cells.size) H [] K):
 OpOk P S ((do pure (Next.value (<-Instr.alloc t true (.tuple #[]))):Sem Next).run P S.w) K:=by
 simp only[AF] at h
 have g:=hS.grow z.cells t ⟨z.cells.size,1,true,[x]⟩ 1 (by simp) (vs:=[z]) (.one (G9 hx)) (λk v hv=>by
  cases k with
  |zero=>simp only[List.getElem?_cons_zero,Aq] at hv;subst hv;exact⟨rfl,h1,λj hj=>by simp⟩
  |succ k=>simp at hv) (by simp) (by simp) h0
 refine Fa (S':=S.grow (.cells z.cells t) 1 1 z.cells.size) ?_ (Evo.grow hS.im _ _ _ _) g (Xk hS _ _ _ _) h;simp[Instr.alloc,zeroValue,typeInfo,hi,hz,newVar,DO];rfl
theorem s_box(hS:SRel S H)(t:TypeId){v:Value}{xs:List AV}(hx:AB S xs [v])(h:AF P .box H xs K):
 OpOk P S ((do pure (Next.value (<-Instr.box t v)):Sem Next).run P S.w) K:=by
 obtain⟨x,rfl,hv⟩:=hx.len1;simp only[AF] at h;obtain⟨h1,h2,hK⟩:=h;obtain⟨k1,k2⟩:=Hc hv h1
 have g:=hS.grow v.cells t ⟨x.cells.length,1,true,[x]⟩ 1 (by simpa using k1) (vs:=[v]) (.one hv) (λk u hu=>by
  cases k with
  |zero=>simp only[List.getElem?_cons_zero,Aq] at hu;subst hu;exact⟨k1,k2,λj hj=>by simp⟩
  |succ k=>simp at hu) (by simp) (by simp) h2
 refine Fa (S':=S.grow (.cells v.cells t) 1 1 x.cells.length) ?_ (Evo.grow hS.im _ _ _ _) g (Xk hS _ _ _ _) hK;simp[Instr.box,newVar,DO];rfl
end
section
variable {P:Program}{S:MS}{H:A5}{ρ:Operand->Value}{K:AV->A5->Prop}
def seg{α:Type}(l:List α)(a:Nat)(m:List α):List α:=l.take a++m++l.drop (a+m.length)
theorem seg_length{α:Type}{l:List α}{a:Nat}{m:List α}(h:a+m.length<=l.length):(seg l a m).length=l.length:=by simp[seg];omega
theorem Ry{α:Type}{l:List α}{a:Nat}{m:List α}(h:a+m.length<=l.length)(k:Nat):(seg l a m)[k]? = if k<a then l[k]? else if k<a+m.length then m[k-a]? else l[k]? := by
 unfold seg;have ht:(l.take a).length=a:=by simp;omega
 split
 ·rename_i h1
  rw[A3,A9 (by omega),BU,Ae h1]
 ·rename_i h1
  split
  ·rename_i h2
   rw[A9 (by simp;omega),AD (by omega),ht]
  ·rename_i h2
   rw[AD (by simp;omega),BS];congr 1;simp;omega
theorem Gw.seg{cells:Array Value}{wd:Nat}{vs:List Value}(h:Gw cells wd vs){i o:Nat}{u u':Value}(hu:vs[i]? = some u){l:List Value}(hle:o+l.length<=wd)(hsz:(i+1) * wd<=cells.size)
 (h1:u'.cells.size=wd) (h2:∀c∈u'.cells,c.oneCell'=true) (h3:∀j,j<wd->u'.cells[j]? = if o<=j/\j<o+l.length then l[j-o]? else u.cells[j]?) :
 Gw (seg cells.toList (i * wd+o) l).toArray wd (vs.set i u'):=by
 have hsz':i * wd+wd<=cells.size:=by rw[AG] at hsz;omega
 intro k v hv;by_cases hki:i=k
 ·subst hki
  have hi:i<vs.length:=(AI.1 hu).1;rw[Ep hi] at hv;cases hv;refine⟨h1,h2,λj hj=>?_⟩;rw[h3 j hj,Dy,Ry (by simp;omega)];obtain⟨_,_,f3⟩:=h i u hu;have:=f3 j hj;by_cases hc:o<=j/\j<o+l.length
  ·rw[Ab (by omega),Ae (by omega),Ae hc]
   congr 1;omega
  ·rw[Ab hc]
   split
   ·simpa using this
   ·rw[Ab (by omega)]
    simpa using this
 ·rw[Cz hki] at hv
  obtain⟨f1,f2,f3⟩:=h k v hv;refine⟨f1,f2,λj hj=>?_⟩;rw[<-f3 j hj,Dy,Ry (by simp;omega)];rcases Ak k i with hlt|hge
  ·have:(k+1) * wd<=i * wd:=AU _ hlt
   rw[AG] at this;rw[Ae (by omega)];simp
  ·have:(i+1) * wd<=k * wd:=AU _ (by omega)
   rw[AG] at this;rw[Ab (by omega),Ab (by omega)];simp
theorem Xl(off:Nat):∀(l:List Value)(k:Nat)(cs:Array Value),off+k+l.length<=cs.size->((l.zipIdx k).foldl (λcs p=>cs.setIfInBounds (off+p.2) p.1) cs).toList=seg cs.toList (off+k) l
 |[],k,cs,_=>by simp[seg]
 |c::l,k,cs,h=>by
  simp only[List.zipIdx_cons,List.foldl_cons];have hk:off+k<cs.size:=by simp at h;omega
  rw[Xl off l (k+1) _ (by simp at h ⊢;omega)];have e:=list_seg_step cs.toList (off+k) c l (by simp at h ⊢;omega);simpa [seg,Bo] using e
theorem Tk(off:Nat)(v:Value)(cs:Array Value)(h:off+v.cells.size<=cs.size):(v.cells.zipIdx.foldl (λcs (c,j)=>cs.setIfInBounds (off+j) c) cs)=(seg cs.toList off v.cells.toList).toArray:=by
 apply E7;rw[<-Array.foldl_toList,Array.toList_zipIdx];have:=Xl off v.cells.toList 0 cs (by simpa using h);simpa using this
theorem Rz{places:List (Nat × Nat)}{place:Nat->Option (Nat × Nat)}(hp:∀i q,places[i]? = some q->place i=some q):∀{idx:List Nat}{xs:List AV}{cs cs':List AV}{vs:List Value}{cells:Array Value},
 Rr places idx xs cs=some cs'->AB S xs vs->AB S cs cells.toList->∃cells',Instr.fill place cells (idx.zip vs)=some cells'/\AB S cs' cells'.toList
 |[],[],cs,cs',vs,cells,h,hx,hc=>by
  rw[show vs=[] from hx];simp only[Rr,Aq] at h;subst h;exact⟨cells,rfl,hc⟩
 |i::is,x::xs,cs,cs',vs,cells,h,hx,hc=>by
  obtain⟨v,r,rfl,hv,hr⟩:=hx;simp only[Rr] at h;split at h
  ·rename_i off s hpl
   split at h
   ·rename_i hcond
    obtain⟨h1,h2,h3⟩:=hcond;obtain⟨k1,k2⟩:=Hc hv h2;have hsz:cells.size=cs.length:=by have:=hc.length;simpa using this
    have hstep:=Tk off v cells (by omega);have hvc:=hv.cells (L9 h2)
    have hnew:AB S (cs.take off++x.cells++cs.drop (off+s)) (seg cells.toList off v.cells.toList).toArray.toList:=by
     have e:v.cells.toList.length=s:=by simp;omega
     simp only[seg,e];exact ((hc.take off).append hvc).append (hc.drop (off+s))
    obtain⟨cells',hf,hr'⟩:=Rz hp h hr hnew;refine⟨cells',?_,hr'⟩;simp only[List.zip_cons_cons,Instr.fill,hp i _ hpl];rw[Ab (by simp;omega),hstep];exact hf
   ·cases h
  ·cases h
 |[],_::_,_,_,_,_,h,_,_=>by simp[Rr] at h
 |_::_,[],_,_,_,_,h,_,_=>by simp[Rr] at h
theorem run_places{w:World}:∀{l:List Field}{places:List (Nat × Nat)},placesOf P l=some places->(l.mapM λf=>(do pure (f.offset,<-sizeOf f.type):Sem (Nat × Nat))).run P w=.ok places w
 |[],places,h=>by cases h;rfl
 |f::l,places,h=>by
  simp only[placesOf] at h;split at h
  ·rename_i j r hj hr
   cases h;rw[BL];simp only[Sem.run_bind,Cp hj,Result.andThen_ok,Sem.run_pure,run_places hr]
  ·cases h
theorem R0(ρ:Operand->Value):∀(ps:List (Nat × Operand)),(ps.map (·.1)).zip (ps.map λp=>ρ p.2)=ps.map λ(i,x)=>(i,ρ x)
 |[]=>rfl
 |p::ps=>by simp[R0 ρ ps]
theorem Xm{z:Value}{x:AV}(hag:∃cs,z=.agg cs)(hx:avOf z=some x):AB S x.cells z.cells.toList:=by
 obtain⟨c,rfl⟩:=hag;have:=G9 (S:=S) hx;unfold avOf at hx;simp only[Ag] at hx;obtain⟨ys,_,rfl⟩:=hx;exact this.cells rfl
theorem zfu(hS:SRel S H)(t:TypeId){fs:Array Field}{i:TypeInfo}{z:Value}{x:AV}{places:List (Nat × Nat)}(ht:P.underlying t=some (.struct fs))(hi:P.info? t=some i)(hz:i.zero=some z)(hx:avOf z=some x)
 (hp:placesOf P fs.toList=some places) (hag:∃cs,z=.agg cs)
 (ps:List (Nat × Operand)) {xs:List AV} (hxs:AB S xs (ps.map λp=>ρ p.2)) (h:AF P (.build x.cells places (ps.map (·.1))) H xs K) :
 OpOk P S ((do pure (Next.value (<-Instr.build t (ps.toArray.map λ(i,x)=>(i,ρ x)))):Sem Next).run P S.w) K:=by
 simp only[AF] at h
 ·obtain⟨cs,hcs,h⟩:=Cn h
  have hxz:=Xm (S:=S) hag hx
  have hpl:(fs.mapM λf=>(do pure (f.offset,<-sizeOf f.type):Sem (Nat × Nat))).run P S.w=.ok places.toArray S.w:=by
   rw[DJ];simp only[Sem.run_map,run_places hp,Result.andThen_ok]
  obtain⟨cells',hf,hr⟩:=Rz (S:=S) (place:=(places.toArray[·]?)) (λi q hq=>by simpa using hq) hcs hxs hxz
  rw[R0] at hf;refine Bw (v:=.agg cells') (x:=.agg cs) ?_ hS ⟨cells'.toList,rfl,hr⟩ h;have e:(ps.toArray.map λ(i,x)=>(i,ρ x)).toList=ps.map λ(i,x)=>(i,ρ x):=by simp
  have hz':(zeroValue t).run P S.w=.ok z S.w:=by simp[zeroValue,typeInfo,hi,hz]
  simp only[Instr.build,Sem.run_bind,hz',Result.andThen_ok,run_underlying ht,hpl,e,hf,Sem.run_pure]
theorem z8x(hS:SRel S H)(t:TypeId){n:Nat}{e:TypeId}{i j:TypeInfo}{z:Value}{x:AV}(ht:P.underlying t=some (.array n e))(hi:P.info? t=some i)(hz:i.zero=some z)(hx:avOf z=some x)
 (hj:P.info? e=some j) (hag:∃cs,z=.agg cs)
 (ps:List (Nat × Operand)) {xs:List AV} (hxs:AB S xs (ps.map λp=>ρ p.2)) (h:AF P (.build x.cells ((List.range n).map λq=>(q * j.size,j.size)) (ps.map (·.1))) H xs K) :
 OpOk P S ((do pure (Next.value (<-Instr.build t (ps.toArray.map λ(i,x)=>(i,ρ x)))):Sem Next).run P S.w) K:=by
 simp only[AF] at h
 ·obtain⟨cs,hcs,h⟩:=Cn h
  have hxz:=Xm (S:=S) hag hx
  obtain⟨cells',hf,hr⟩:=Rz (S:=S) (place:=λi=>some (i * j.size,j.size)) (λi q hq=>by
   rw[D1] at hq
   have hin:i<n:=by
    rcases Ak i n with h|h
    ·exact h
    ·rw[B9 (by simpa using h)] at hq;cases hq
   rw[List.getElem?_range hin] at hq
   simpa using hq) hcs hxs hxz
  rw[R0] at hf;refine Bw (v:=.agg cells') (x:=.agg cs) ?_ hS ⟨cells'.toList,rfl,hr⟩ h;have e':(ps.toArray.map λ(i,x)=>(i,ρ x)).toList=ps.map λ(i,x)=>(i,ρ x):=by simp
  have hz':(zeroValue t).run P S.w=.ok z S.w:=by simp[zeroValue,typeInfo,hi,hz]
  simp only[Instr.build,Sem.run_bind,hz',Result.andThen_ok,run_underlying ht,Cp hj,e',hf,Sem.run_pure]
theorem Js{z:Value}{n s:Nat}(h1:z.cells.size=s)(h2:∀c∈z.cells,c.oneCell'=true):Gw ((Array.range (n * s)).map λi=>z.cells[i % z.cells.size]!) s (List.replicate n z):=by
 intro i v hv;rw[List.getElem?_replicate] at hv;split at hv
 ·rename_i hi
  cases hv;refine⟨h1,h2,λj hj=>?_⟩;have:(i+1) * s<=n * s:=AU _ hi;rw[AG,Dd] at this;have hlt:i * s+j<n * s:=by omega
  rw[Array.getElem?_map,Array.getElem?_range,Ae hlt];have e:(i * s+j) % s=j:=by rw[CI,Nat.mul_add_mod];exact EK hj
  simp only[Option.map_some,h1,e];have hjz:j<z.cells.size:=by omega
  simp[hjz]
 ·cases hv
theorem PU{w:Nat}(hw:0<w):∀{idx:List Nat}{xs:List AV}{len:Nat}{es:List AV}{vs us:List Value}{cells:Array Value},HH w len idx xs->AB S xs us->AB S es vs->vs.length=len->cells.size=len * w->Gw cells w vs ->
 ∃cells' vs',Instr.fill (λi=>some (i * w,w)) cells (idx.zip us)=some cells'/\cells'.size=len * w/\AB S (F2 idx xs es) vs'/\vs'.length=len/\Gw cells' w vs'
 |[],[],len,es,vs,us,cells,_,hx,hes,hl,hc,hf=>by
  rw[show us=[] from hx];exact⟨cells,vs,rfl,hc,hes,hl,hf⟩
 |i::is,x::xs,len,es,vs,us,cells,h,hx,hes,hl,hc,hf=>by
  obtain⟨u,r,rfl,hu,hr⟩:=hx;obtain⟨h1,h2,h3,h4⟩:=h;obtain⟨k1,k2⟩:=Hc hu h3;have hsz:u.cells.size=w:=by omega
  have hle:(i+1) * w<=len * w:=AU _ h1;have hle':=hle;rw[AG,Dd] at hle';have hstep:=Tk (i * w) u cells (by omega);have hi:i<vs.length:=by omega
  have hfs:=hf.seg (i:=i) (o:=0) (u':=u) (Al hi) (l:=u.cells.toList) (by simp;omega) (by omega) hsz k2 (λj hj=>by
   rw[Ae (by simp;omega)];simp)
  obtain⟨cells',vs',g1,g2,g3,g4,g5⟩:=PU hw h4 hr (hes.set (i:=i) hu) (by simp[hl]) (cells:=(seg cells.toList (i * w) u.cells.toList).toArray) (by
   rw[BP,seg_length (by simp;omega)];simpa using hc) (by simpa using hfs)
  refine⟨cells',vs',?_,g2,g3,g4,g5⟩;simp only[List.zip_cons_cons,Instr.fill];rw[Ab (by simp;omega),hstep];exact g1
 |[],_::_,_,_,_,_,_,h,_,_,_,_,_=>h.elim
 |_::_,[],_,_,_,_,_,h,_,_,_,_,_=>h.elim
theorem GN:∀(idx:List Nat)(xs es:List AV),(F2 idx xs es).length=es.length
 |[],[],es=>rfl
 |[],_::_,es=>rfl
 |_::_,[],es=>rfl
 |i::is,x::xs,es=>by simp[F2,GN is xs]
theorem AB.replicate{x:AV}{v:Value}(h:VRel S x v):∀n,AB S (List.replicate n x) (List.replicate n v)
 |0=>rfl
 |n+1=>⟨v,List.replicate n v,rfl,h,AB.replicate h n⟩
theorem No(f:Nat->Value):(Array.range 0).map f=#[]:=by simp
theorem PV{t:TypeId}{e:TypeId}{i:TypeInfo}{z:Value}{x:AV}(len:Nat)(ht:P.underlying t=some (.slice e))(hi:P.info? e=some i)(hz:i.zero=some z)(hx:avOf z=some x)(h0:0<i.size)(hzs:z.cells.size=i.size)
 (hz1:∀c∈z.cells,c.oneCell'=true) (hmax:len * i.size<=2 ^ 24)
 (ps:List (Nat × Operand)) {xs:List AV} (hxs:AB S xs (ps.map λp=>ρ p.2)) (hfit:HH i.size len (ps.map (·.1)) xs) :
 ∃cells vs,(do pure (Next.value (<-Instr.buildSlice t len (ps.toArray.map λ(i,x)=>(i,ρ x)))):Sem Next).run P S.w=.ok (.value (.slice (some ⟨S.w.heap.size,0,none⟩) len len)) (S.w.alloc (.cells cells e)) /\
  cells.size=len * i.size/\AB S (F2 (ps.map (·.1)) xs (List.replicate len x)) vs/\vs.length=len/\Gw cells i.size vs:=by
 obtain⟨cells',vs',g1,g2,g3,g4,g5⟩:=PU (S:=S) h0 hfit hxs (AB.replicate (G9 hx) len) (by simp) (cells:=(Array.range (len * i.size)).map λk=>z.cells[k % z.cells.size]!) (by simp) (Js hzs hz1);rw[R0] at g1;refine⟨cells',vs',?_,g2,g3,g4,g5⟩;have e':(ps.toArray.map λ(i,x)=>(i,ρ x)).toList=ps.map λ(i,x)=>(i,ρ x):=by simp
 have hm:¬(len * i.size>2 ^ 24):=by omega
 have hz':∀w',(zeroValue e).run P w'=.ok z w':=λw'=>by simp[zeroValue,typeInfo,hi,hz]
 by_cases hl0:len * i.size=0
 ·rw[hl0] at g1
  simp only[Instr.buildSlice,Sem.run_bind,run_underlying ht,Result.andThen_ok,Cp hi,hl0,Bi,e',Sem.run_pure,No] at g1 ⊢;rw[Ab (by omega)];simp only[Sem.run_bind,Sem.run_pure,Result.andThen_ok,No,g1,DO]
 ·simp only[Instr.buildSlice,Sem.run_bind,run_underlying ht,Result.andThen_ok,Cp hi,hm,hl0,Bt,hz',e',g1,DO,Sem.run_pure]
theorem z8y(hS:SRel S H)(t:TypeId){e:TypeId}{i:TypeInfo}{z:Value}{x:AV}(len:Nat)(ht:P.underlying t=some (.slice e))(hi:P.info? e=some i)(hz:i.zero=some z)(hx:avOf z=some x)(h0:0<i.size)(hzs:z.cells.size=i.size)
 (hz1:∀c∈z.cells,c.oneCell'=true) (hmax:len * i.size<=2 ^ 24)
 (ps:List (Nat × Operand)) {xs:List AV} (hxs:AB S xs (ps.map λp=>ρ p.2)) (h:AF P (.bslice i.size len x (ps.map (·.1))) H xs K) :
 OpOk P S ((do pure (Next.value (<-Instr.buildSlice t len (ps.toArray.map λ(i,x)=>(i,ρ x)))):Sem Next).run P S.w) K:=by
 simp only[AF] at h;obtain⟨hfit,hK⟩:=h;obtain⟨cells',vs',run,g2,g3,g4,g5⟩:=PV (P:=P) (S:=S) len ht hi hz hx h0 hzs hz1 hmax ps hxs hfit;have g:=hS.grow cells' e ⟨i.size,1,true,F2 (ps.map (·.1)) xs (List.replicate len x)⟩ len g2 g3 g5 (by simp[GN]) (by simp[GN]) h0
 exact Fa (S':=S.grow (.cells cells' e) 1 len i.size) (v:=.slice (some ⟨S.w.heap.size,0,none⟩) len len) run (Evo.grow hS.im _ _ _ _) g (Rx hS _ _ _ _ _ (Ad _)) hK
theorem z1k(hS:SRel S H)(t:TypeId){e:TypeId}{i:TypeInfo}{z:Value}{x:AV}(ht:P.underlying t=some (.slice e))(hi:P.info? e=some i)(hz:i.zero=some z)(hx:avOf z=some x)(h0:0<i.size)(hby:0<i.bytes)(hzs:z.cells.size=i.size)
 (hz1:∀c∈z.cells,c.oneCell'=true) {u v:Value} {xs:List AV} (hxs:AB S xs [u,v]) (h:AF P (.mkSlice i.size i.bytes x) H xs K) :
 OpOk P S ((do pure (Next.value (<-Instr.makeSlice t u v)):Sem Next).run P S.w) K:=by
 obtain⟨a,b,rfl,ha,hb⟩:=hxs.len2;cases a<;>cases b<;>simp only[AF] at h<;>try exact h.elim
 rename_i k l k' c;obtain⟨h1,h2,h3,hK⟩:=h;obtain rfl:u=.int k l:=ha;obtain rfl:v=.int k' c:=hb
 have hc:c<=140737488355328:=by
  have:c * 1<=c * i.bytes:=CY (by omega) (by omega);omega
 have wl:IntKind.i64.wrap l=l:=IntWalk.i64_in _ (by omega);have wc:IntKind.i64.wrap c=c:=IntWalk.i64_in _ (by omega)
 have hl':(i.bytes:Int) * l<=140737488355328:=by
  have:l * i.bytes<=c * i.bytes:=Ek h2 (by omega);rw[FT];omega
 have hc':(i.bytes:Int) * c<=140737488355328:=by rw[FT];exact h3
 have hask:∀w',(askRoom (c.toNat * i.bytes)).run P w'=.ok () w':=by
  intro w'
  have:¬(c.toNat * i.bytes>roomBytes):=by
   have e:((c.toNat * i.bytes:Nat):Int)=c * i.bytes:=by rw[Int.natCast_mul,BE (by omega)]
   simp only[roomBytes];omega
  simp[askRoom,this]
 have g:=hS.grow ((Array.range (c.toNat * i.size)).map λk=>z.cells[k % z.cells.size]!) e ⟨i.size,1,true,List.replicate c.toNat x⟩ c.toNat (by simp) (AB.replicate (G9 hx) _) (Js hzs hz1) (by simp) (by simp) h0;refine Fa (v:=.slice (some ⟨S.w.heap.size,0,none⟩) l.toNat c.toNat) (S':=S.grow (.cells _ e) 1 c.toNat i.size) ?_ (Evo.grow hS.im _ _ _ _) g (Rx hS _ _ _ _ _ (by omega)) hK;have t1:typeInfo e=typeInfo e:=rfl;have hti:∀w',(typeInfo e).run P w'=.ok i w':=by intro w';simp[typeInfo,hi]
 simp only[Instr.makeSlice,Sem.run_bind,run_underlying ht,Result.andThen_ok,asInt,asIntOf,Sem.run_pure,hti,wl,wc];have c1:¬(c<0):=by omega
 have c2:¬((i.bytes:Int) * c>2 ^ 48):=by omega
 have c3:¬(l<0):=by omega
 have c4:¬(l>c):=by omega
 have hz':∀w',(zeroValue e).run P w'=.ok z w':=λw'=>by simp[zeroValue,typeInfo,hi,hz]
 simp only[c1,c2,c3,c4,Be,DX,A8,Bt,Sem.run_bind,hask,Result.andThen_ok,Cp hi];by_cases hl0:c.toNat * i.size=0
 ·simp only[hl0,Bi,Sem.run_bind,Sem.run_pure,Result.andThen_ok,No,DO]
  rfl
 ·simp only[hl0,Bt,Sem.run_bind,hz',Result.andThen_ok,Sem.run_pure,DO]
  rfl
end
section
variable {P:Program}{S:MS}{H:A5}{ρ:Operand->Value}{K:AV->A5->Prop}
theorem NC(a:Array Value):(Value.agg a).cells=a:=rfl
theorem HI(g:Nat)(cs:Array Value)(w:World):(w.setRow g cs).os=w.os/\JW (w.setRow g cs) w/\(w.setRow g cs).output=w.output/\w.heap.size<=(w.setRow g cs).heap.size/\∀b {c:Nat},0<c->¬(0<c/\b=g)->b<w.heap.size->(w.setRow g cs).heap[b]? = w.heap[b]? :=
 ⟨rfl,⟨rfl,Ad _⟩,rfl,by simp,λb _ hc hb _=>setRow_other w g b cs (λh=>hb ⟨hc,h⟩)⟩
theorem zfv(hS:SRel S H)(t:TypeId){a:Bool}{s:Nat}(ht:EY P t=some (a,s)){ad v:Value}{xs:List AV}(hx:AB S xs [ad,v])(h:AF P (.store s) H xs K):
 OpOk P S ((do Instr.storeAt t ad v;pure Next.skip:Sem Next).run P S.w) K:=by
 obtain⟨y,x,rfl,hy,hxv⟩:=hx.len2;obtain⟨i0,_,hi0,_,_,hsz,_,_⟩:=EU ht;cases y<;>simp only[AF] at h<;>try exact h.elim
 rename_i g vn i o;obtain⟨h1,h2,h3,h4,h5,h6,h7,hK⟩:=h;obtain⟨_,hg,hc,hp⟩:=hy;have hG:=hS.live_of hg;obtain rfl:ad=_:=hp (by rw[hG.ver,h1]);have hl1:=hG.len (by omega);have hl2:=hG.full (by omega);have hcp:0<S.cap g:=by omega
 obtain⟨⟨cells,T,vs,hb,hcs,hvs,hf⟩,hl3⟩:=hG.live (by omega) hcp;obtain⟨u,hu,hru⟩:=hvs.get (Al h2);obtain⟨k1,k2⟩:=Hc hxv h6;obtain⟨f1,f2,f3⟩:=hf i u hu;have hgn:g<H.n:=by rw[<-hS.n];exact hg
 have hlv:(v.cells.toList).length=s:=by simp;omega
 have hcap:(i+1) * (H.at_ g).w<=cells.size:=by rw[hcs];exact AU _ (by omega)
 have hcap':=hcap;rw[AG,Dd] at hcap';have exi:(H.at_ g).xs.getD i .any=(H.at_ g).xs[i]:=by rw[List.getD,Al h2];rfl
 rw[exi] at h7 hK
 -- the element behind the store
 have hnew:∃u',VRel S (JX (H.at_ g).w o s (H.at_ g).xs[i] x) u'/\u'.cells.size=(H.at_ g).w/\(∀c∈u'.cells,c.oneCell'=true) /\
  ∀j,j<(H.at_ g).w->u'.cells[j]? = if o<=j/\j<o+v.cells.toList.length then v.cells.toList[j-o]? else u.cells[j]? := by
  by_cases hsw:s=(H.at_ g).w
  ·refine⟨v,by simp only[JX,hsw,Bi];exact hxv,by omega,k2,λj hj=>?_⟩
   have ho:o=0:=by omega
   subst ho;rw[Ae (by omega)];simp
  ·obtain⟨e1,e2⟩:=h7.resolve_left hsw
   have hec:=hru.cells e1;refine⟨.agg (seg u.cells.toList o v.cells.toList).toArray,?_,?_,?_,λj hj=>?_⟩
   ·simp only[JX,hsw,Bt]
    refine⟨_,rfl,?_⟩;have:=((hec.take o).append (hxv.cells (L9 h6))).append (hec.drop (o+s));simpa [seg,hlv] using this
   ·simp only[NC,BP]
    rw[seg_length (by simp;omega)];simpa using f1
   ·intro c hc'
    simp only[NC,seg,List.mem_toArray,Ao] at hc';rcases hc' with (hc'|hc')|hc'
    ·exact f2 c (by simpa using B8 hc')
    ·exact k2 c (by simpa using hc')
    ·exact f2 c (by simpa using BF hc')
   ·simp only[NC,Dy]
    rw[Ry (by simp;omega)];by_cases hc':o<=j/\j<o+v.cells.toList.length
    ·rw[Ab (by omega),Ae (by omega),Ae hc']
    ·rw[Ab hc']
     split
     ·simp
     ·rw[Ab (by omega)];simp
 obtain⟨u',n1,n2,n3,n4⟩:=hnew;have hfs:=hf.seg hu (o:=o) (l:=v.cells.toList) (by omega) hcap n2 n3 n4;have hst:=run_storeCells_at P (S.place g) (i * (H.at_ g).w+o) T v.cells.toList 0 cells S.w hb (by simp;omega) (λc hc'=>k2 c (by simpa using hc'));obtain⟨q1,q2,q3,q4,q5⟩:=HI (S.place g) (seg cells.toList (i * (H.at_ g).w+o) v.cells.toList).toArray S.w
 obtain⟨e,hS'⟩:=hS.moved hgn (by omega) (S.w.setRow (S.place g) (seg cells.toList (i * (H.at_ g).w+o) v.cells.toList).toArray) (S.place g) (S.cap g)
  ⟨(H.at_ g).w,vn,(H.at_ g).exact,(H.at_ g).xs.set i (JX (H.at_ g).w o s (H.at_ g).xs[i] x)⟩ q1 q2 q3 q4 (λb=>q5 b hcp) (.inl ⟨hcp,rfl⟩) (λ_=>⟨_,T,_,setRow_heap S.w _ cells _ T _ hb,
  by rw[BP,seg_length (by simp;omega)];simpa using hcs,hvs.set n1,hfs⟩) (by simpa using hl1) (by simpa using hl2) (by show 0<(H.at_ g).w;omega) (by rw[hG.ver,h1];exact Ad _) (λ_=>⟨rfl,rfl,hG.wid.symm⟩)
 refine .inl ⟨undef,S.moved _ g (S.place g) vn (S.cap g) (H.at_ g).w,.any,_,.inr ⟨?_,rfl⟩,e,hS',trivial,hK⟩;have hz:¬(v.cells.size≠i0.size):=by omega
 simp only[Nat.add_zero] at hst;simp only[Instr.storeAt,Instr.sureAddr,storeVar,Sem.run_bind,Sem.run_pure,Result.andThen_ok,Cp hi0,hz,Bt,hG.wid,hst];rfl
theorem GO{t u ty e:TypeId}{i:TypeInfo}(ht:P.underlying t=some (.slice e))(hu:(∃e',P.underlying u=some (.slice e'))\/P.underlying u=some .string)(hi:P.info? e=some i){w:World}
 (base:Option Addr) (sLen sCap:Nat) (x:Value) (m:Nat) (news:List Value) (hm:(Builtin.lenOf x).run P w=.ok m w) (hf:(Builtin.firstCells i.size m x).run P w=.ok news.toArray w) (hroom:sLen+m<=sCap)
 (w':World) (hst:match base with|some a=>(storeCells (a.add (sLen * i.size)) news).run P w=.ok () w'|none=>w'=w) :
 (Builtin.append_ #[t,u] ty #[.slice base sLen sCap,x]).run P w=.ok (.slice base (sLen+m) sCap) w':=by
 have hz:∀w',(underlying u).run P w'=.ok (match P.underlying u with|some d=>d|none=>.bool) w':=by
  intro w';rcases hu with⟨e',hu⟩|hu<;>simp[run_underlying hu,hu]
 have hk:∀d,P.underlying u=some d->(match d with|TypeDesc.int _=>true|_=>false)=false:=by
  intro d hd;rcases hu with⟨e',hu⟩|hu<;>rw[hu] at hd<;>cases hd<;>rfl
 rcases hu with⟨e',hu⟩|hu<;>cases base <;>
  simp[Builtin.append_,run_underlying ht,run_underlying hu,Cp hi,hm,hroom,hf]<;>simp_all
theorem z8z{t u ty e:TypeId}{i:TypeInfo}{z:Value}(ht:P.underlying t=some (.slice e))(hu:(∃e',P.underlying u=some (.slice e'))\/P.underlying u=some .string)(hi:P.info? e=some i)(hz:i.zero=some z){w:World}
 (base:Option Addr) (sLen sCap:Nat) (olds:List Value) (hfo:(Builtin.firstCells i.size sLen (.slice base sLen sCap)).run P w.drew=.ok olds.toArray w.drew)
 (x:Value) (m:Nat) (news:List Value) (hm:(Builtin.lenOf x).run P w=.ok m w) (hf:(Builtin.firstCells i.size m x).run P w.drew=.ok news.toArray w.drew) (hroom:sCap<sLen+m)
 (hby:0<i.bytes) (hfit:(sLen+m) * i.bytes<=140737488355328) :
 (Builtin.append_ #[t,u] ty #[.slice base sLen sCap,x]).run P w=.ok (.slice (some ⟨w.heap.size,0,none⟩) (sLen+m) (grownCap w (sLen+m) sCap e))
  (w.drew.alloc (.cells (olds.toArray++news.toArray++Builtin.zeroCells z.cells (grownCap w (sLen+m) sCap e-(sLen+m))) e)):=by
 have hn:¬(sLen+m<=sCap):=by omega
 have hle:sLen+m<=(sLen+m) * i.bytes:=Nat.le_mul_of_pos_right _ hby;have h63:¬(9223372036854775807<((sLen:Int)+(m:Int))):=by omega
 have hfits:=growslice_fits hroom hfit;have h48:¬(281474976710656<Builtin.nextslicecap (sLen+m) sCap * i.bytes):=by omega
 rcases hu with⟨e',hu⟩|hu
 all_goals
  simp[Builtin.append_,run_underlying ht,run_underlying hu,Cp hi,typeInfo,zeroValue,hi,hz,hm,hn,h63,h48,Question.forced,hf,hfo,DO,grownCap]
 all_goals
  congr 2;apply E7;simp[A3]
theorem ND(a b:List Value):flat (a++b)=flat a++flat b:=by simp[flat]
theorem z1l(hS:SRel S H){w:Nat}(hw:0<w){x:AV}{v:Value}(hx:VRel S x v)(hok:Gy H w x){es:List AV}(he:Gx H x=some es):
 ∃vs,AB S es vs/\(∀u∈vs,u.cells.size=w/\∀c∈u.cells,c.oneCell'=true)/\(∀W,(Builtin.lenOf v).run P W=.ok es.length W) /\
  ∀W,(∀a,W.cell? a=S.w.cell? a)->(Builtin.firstCells w es.length v).run P W=.ok (flat vs).toArray W:=by
 by_cases hstr:∃s,x=.str s
 ·obtain⟨s,rfl⟩:=hstr
  simp only[Gx,Aq] at he;subst he;simp only[Gy] at hok;subst hok;obtain rfl:v=.string ⟨s.toArray⟩:=hx
  have conv:∀s:List UInt8,AB S (s.map λb=>AV.int .u8 b.toNat) (s.map λb=>Value.int .u8 b.toNat):=by
   intro s
   induction s with
   |nil=>rfl
   |cons b s ih=>exact⟨_,_,rfl,rfl,ih⟩
  refine⟨s.map λb=>.int .u8 b.toNat,?_,?_,λW=>?_,λW _=>?_⟩
  ·exact conv s
  ·intro u hu
   obtain⟨b,_,rfl⟩:=Ax.1 hu;exact⟨rfl,λc hc=>by simp[Value.cells] at hc;rw[hc];rfl⟩
  ·simp[Builtin.lenOf,z8s]
  ·have e:(⟨s.toArray⟩:ByteArray).extract 0 s.length=⟨s.toArray⟩:=by
    have:=ByteArray.extract_zero_size (b:=⟨s.toArray⟩)
    rwa [z8s] at this
   have f:flat (s.map λb=>Value.int .u8 b.toNat)=s.map λb=>Value.int .u8 b.toNat:=by
    clear e
    induction s with
    |nil=>rfl
    |cons b s ih=>simpa [flat,Value.cells] using ih
   simp only[Builtin.firstCells,AY,e,f,Sem.run_pure];simp
 ·obtain⟨a,cap,vs,rfl,hvs,hrow⟩:=L8 hS hw hx hok (λs hs=>hstr ⟨s,hs⟩) he
  by_cases hne:es=[]
  ·subst hne
   have:vs=[]:=hvs;subst this;refine⟨[],rfl,by simp,λW=>rfl,λW _=>?_⟩;cases a<;>simp[Builtin.firstCells,loadCells,loadCellsFrom,flat]
  ·obtain⟨b,o,rfl,hr⟩:=hrow hne
   have hsz:∀u∈vs,u.cells.size=w/\∀c∈u.cells,c.oneCell'=true:=λu hu=>by
    obtain⟨i,hi⟩:=D6 hu;exact⟨(hr i u hi).1,(hr i u hi).2.1⟩
   refine⟨vs,hvs,hsz,λW=>rfl,λW hW=>?_⟩;have hl:(flat vs).length=es.length * w:=by rw[(flat_get (λu hu=>(hsz u hu).1)).1,hvs.length]
   exact run_firstCells_some W w es.length ⟨b,o,none⟩ es.length cap (flat vs) hl (λj u hu=>by rw[hW];exact (hr.cell hw hu).1)
theorem Np{vs:List Value}{w:Nat}(h:∀u∈vs,u.cells.size=w/\∀c∈u.cells,c.oneCell'=true):∀c∈flat vs,c.oneCell'=true:=λc hc=>by
 obtain⟨u,hu,hc'⟩:=DR.1 hc;exact (h u hu).2 c (by simpa using hc')
theorem Gw.segs{cells:Array Value}{wd:Nat}(hwd:0<wd){vs us:List Value}(h:Gw cells wd vs)(hu:∀u∈us,u.cells.size=wd/\∀c∈u.cells,c.oneCell'=true){p:Nat}(hp:p<=vs.length)(hle:(p+us.length) * wd<=cells.size):
 Gw (Abs.seg cells.toList (p * wd) (flat us)).toArray wd (Abs.seg vs p us):=by
 obtain⟨l1,l2⟩:=flat_get (λu hu'=>(hu u hu').1);have hle':p * wd+us.length * wd<=cells.size:=by rw[<-AG];exact hle
 intro k v hv;have hcl:cells.toList.length=cells.size:=by simp
 have key:∀j,j<wd->(Abs.seg cells.toList (p * wd) (flat us)).toArray[k * wd+j]? = if k<p then cells[k * wd+j]? else if k<p+us.length then (flat us)[(k-p) * wd+j]? else cells[k * wd+j]? := by
  intro j hj;rw[Dy,Ry (by rw[l1];omega)];by_cases h1:k<p
  ·have:(k+1) * wd<=p * wd:=AU _ h1
   rw[AG] at this;rw[Ae (by omega),Ae h1];simp
  ·have hpk:p * wd<=k * wd:=AU _ (by omega)
   rw[Ab (by omega),Ab h1];by_cases h2:k<p+us.length
   ·have:(k+1) * wd<=(p+us.length) * wd:=AU _ h2
    rw[AG,AG] at this;rw[Ae (by rw[l1];omega),Ae h2];congr 1;rw[Nat.sub_mul];omega
   ·have:(p+us.length) * wd<=k * wd:=AU _ (by omega)
    rw[AG] at this;rw[Ab (by rw[l1];omega),Ab h2];simp
 unfold Abs.seg at hv;have ht:(vs.take p).length=p:=by simp;omega
 by_cases h1:k<p
 ·rw[A3,A9 (by omega),BU,Ae h1] at hv
  obtain⟨f1,f2,f3⟩:=h k v hv;exact⟨f1,f2,λj hj=>by rw[key j hj,Ae h1];exact f3 j hj⟩
 ·by_cases h2:k<p+us.length
  ·rw[A3,AD (by omega),ht,A9 (by omega)] at hv
   obtain⟨f1,f2⟩:=hu v (D7 hv);exact⟨f1,f2,λj hj=>by rw[key j hj,Ab h1,Ae h2];exact l2 _ _ hv j hj⟩
  ·rw[AD (by simp;omega),BS] at hv
   have e:p+us.length+(k-(vs.take p++us).length)=k:=by simp;omega
   rw[e] at hv;obtain⟨f1,f2,f3⟩:=h k v hv;exact⟨f1,f2,λj hj=>by rw[key j hj,Ab h1,Ab h2];exact f3 j hj⟩
theorem AB.seg{xs ys:List AV}{vs us:List Value}(h:AB S xs vs)(k:AB S ys us)(p:Nat):AB S (Abs.seg xs p ys) (Abs.seg vs p us):=by
 unfold Abs.seg;rw[k.length];exact ((h.take p).append k).append (h.drop _)
theorem Vu{w:Nat}{vs:List Value}(h:∀u∈vs,u.cells.size=w/\∀c∈u.cells,c.oneCell'=true){z:Value}(hz:z.cells.size=w){cap:Nat}(hc:vs.length<=cap):
 ((flat vs).toArray++Builtin.zeroCells z.cells (cap-vs.length)).size=cap * w/\Gw ((flat vs).toArray++Builtin.zeroCells z.cells (cap-vs.length)) w vs:=by
 refine⟨?_,Zk h _⟩;rw[Fx,size_zeroCells,hz,BP,(flat_get (λu hu=>(h u hu).1)).1,<-AG];congr 1;omega
theorem LA(hS:SRel S H){t u ty e:TypeId}{i:TypeInfo}{z:Value}(ht:P.underlying t=some (.slice e))(hu:(∃e',P.underlying u=some (.slice e'))\/P.underlying u=some .string)(hi:P.info? e=some i)(hz:i.zero=some z)(hzs:z.cells.size=i.size)
 (h0:0<i.size) (hby:0<i.bytes) (base:Option Addr) (sCap:Nat) {olds news:List AV} {vo vn:List Value} (ho:AB S olds vo) (ho1:∀u∈vo,u.cells.size=i.size/\∀c∈u.cells,c.oneCell'=true)
 (hfo:(Builtin.firstCells i.size olds.length (.slice base olds.length sCap)).run P S.w.drew=.ok (flat vo).toArray S.w.drew)
 (x:Value) (hn:AB S news vn) (hn1:∀u∈vn,u.cells.size=i.size/\∀c∈u.cells,c.oneCell'=true) (hm:(Builtin.lenOf x).run P S.w=.ok news.length S.w) (hf:(Builtin.firstCells i.size news.length x).run P S.w.drew=.ok (flat vn).toArray S.w.drew)
 (hroom:sCap<olds.length+news.length) (hfit:(olds.length+news.length) * i.bytes<=140737488355328) :
 ∃cells cap,(Builtin.append_ #[t,u] ty #[.slice base olds.length sCap,x]).run P S.w=.ok (.slice (some ⟨S.w.heap.size,0,none⟩) (olds.length+news.length) cap) (S.w.drew.alloc (.cells cells e)) /\
  olds.length+news.length<=cap/\cells.size=cap * i.size/\Gw cells i.size (vo++vn):=by
 have run:=z8z (ty:=ty) ht hu hi hz base olds.length sCap (flat vo) hfo x news.length (flat vn) hm hf hroom hby hfit;have hge:=grownCap_ge S.w (olds.length+news.length) sCap e;have hlen:(vo++vn).length=olds.length+news.length:=by simp[ho.length,hn.length]
 have hg:=Vu (w:=i.size) (vs:=vo++vn) (λu hu=>(Ao.1 hu).elim (ho1 u) (hn1 u)) hzs (cap:=grownCap S.w (olds.length+news.length) sCap e) (by omega);rw[hlen,ND] at hg;have e1:(flat vo).toArray++(flat vn).toArray=(flat vo++flat vn).toArray:=by simp
 rw[e1] at run;exact⟨_,_,run,hge,hg.1,hg.2⟩
theorem K8(hS:SRel S H){r:Result Next}{w:Nat}{cells:Array Value}{e:TypeId}{es:List AV}{vs:List Value}{cap len:Nat}(hv:AB S es vs)(hf:Gw cells w vs)(hc:cells.size=cap * w)(hl:len=es.length)(hcap:len<=cap)
 (hr:r=.ok (.value (.slice (some ⟨S.w.heap.size,0,none⟩) len cap)) (S.w.drew.alloc (.cells cells e))) (hK:K (.ref H.n 1 0 len) (H.push ⟨w,1,false,es⟩)) (hw0:0<w):OpOk P S r K:=by
 have hSd:=hS.drew;have e1:=Evo.drew S;have g:=hSd.grow cells e ⟨w,1,false,es⟩ cap hc (vs:=vs) (AB.mono e1 _ hv) hf (by show es.length<=cap;omega) (by simp) hw0;exact Fa (S':=MS.grow { S with w:=S.w.drew } (.cells cells e) 1 cap w) hr (e1.trans (Evo.grow hSd.im _ _ _ _)) g (Rx hSd _ _ _ _ _ hcap) hK
theorem K9(z:Array Value)(n m:Nat):Builtin.zeroCells z n++Builtin.zeroCells z m=Builtin.zeroCells z (n+m):=by
 apply Array.ext
 ·simp[Builtin.zeroCells,AG]
 ·intro i h1 h2
  simp only[Builtin.zeroCells,Array.getElem_append,Array.size_map,Array.size_range,Array.getElem_map,Array.getElem_range];split
  ·rfl
  ·rename_i h
   rw[CI n,Nat.sub_mul_mod (by rw[CI];omega)]
theorem zkm(hS:SRel S H){t u ty e:TypeId}{i:TypeInfo}{z:Value}{zx:AV}{ik:IntKind}(ht:P.underlying t=some (.slice e))(hu:P.underlying u=some (.int ik))(hi:P.info? e=some i)(hz:i.zero=some z)(hzx:avOf z=some zx)
 (hzs:z.cells.size=i.size) (hz1:∀c∈z.cells,c.oneCell'=true) (h0:0<i.size) (hby:0<i.bytes) {k:IntKind} {n:Int} (h1:0<n) (h2:n * i.bytes<=140737488355328) (cs:Array Bool)
 (hK:K (.ref H.n 1 0 n.toNat) (H.push ⟨i.size,1,false,List.replicate n.toNat zx⟩)) :
 OpOk P S ((builtin .append #[t,u] ty cs #[.slice none 0 0,.int k n]).run P S.w) K:=by
 have hc:n<=140737488355328:=by
  have:n * 1<=n * i.bytes:=CY (by omega) (by omega);omega
 have wl:IntKind.i64.wrap n=n:=IntWalk.i64_in _ (by omega);obtain⟨m,rfl⟩:=DY (show 0<=n by omega);have hm:0<m:=by omega
 have hfit:(0+m) * i.bytes<=140737488355328:=by rw[Bb];omega
 have hfits:=growslice_fits (show 0<0+m by omega) hfit;rw[Bb] at hfits;have h48:¬(281474976710656<Builtin.nextslicecap m 0 * i.bytes):=by omega
 have hne:¬(m * i.size=0):=Nat.pos_iff_ne_zero.1 (Nat.mul_pos hm h0);have hge:=grownCap_ge S.w m 0 e;have b1:¬((281474976710656:Int)<(m:Int) * i.bytes):=by omega
 have b2:¬((m:Int)<0):=by omega
 have b3:¬((9223372036854775807:Int)<(m:Int)):=by omega
 have b5:¬(m=0):=by omega
 have run:(Builtin.append_ #[t,u] ty #[.slice none 0 0,.int k (m:Int)]).run P S.w=.ok (.slice (some ⟨S.w.heap.size,0,none⟩) m (grownCap S.w m 0 e))
  (S.w.drew.alloc (.cells (Builtin.zeroCells z.cells m++Builtin.zeroCells z.cells (grownCap S.w m 0 e-m)) e)):=by
  simp[Builtin.append_,run_underlying ht,run_underlying hu,Cp hi,typeInfo,zeroValue,hi,hz,asInt,asIntOf,wl,b1,b2,b3,b5,hne,h48,Question.forced,Builtin.firstCells,DO,grownCap]
 rw[K9,Nat.add_sub_cancel' hge] at run;generalize grownCap S.w m 0 e=cap at run hge;have hzc:Builtin.zeroCells z.cells cap=(Array.range (cap * i.size)).map λk=>z.cells[k % z.cells.size]! := by simp only[Builtin.zeroCells,hzs]
 have hf:Gw (Builtin.zeroCells z.cells cap) i.size (List.replicate m z):=λj v hv=>by
  rw[hzc];refine Js hzs hz1 j v ?_;rw[List.getElem?_replicate] at hv ⊢;split at hv
  ·rw[Ae (by omega)];exact hv
  ·cases hv
 exact K8 hS (e:=e) (es:=List.replicate m zx) (AB.replicate (G9 hzx) m) hf (by rw[hzc];simp) (by simp) hge (by simp only[builtin,Sem.run_bind,run,Result.andThen_ok,Sem.run_pure]) (by simpa using hK) h0
theorem Xn(g:Nat):H.set g (H.at_ g)=H:=by
 unfold A5.set hput;congr;funext j;split
 ·rename_i h;rw[h]
 ·rfl
theorem Tl(z:Value):∀n,flat (List.replicate n z)=(Builtin.zeroCells z.cells n).toList
 |0=>by simp[flat,Builtin.zeroCells]
 |n+1=>by
  have h1:Builtin.zeroCells z.cells 1=z.cells:=by
   apply Array.ext
   ·simp[Builtin.zeroCells]
   ·intro i h1 h2
    simp only[Builtin.zeroCells,Array.getElem_map,Array.getElem_range];rw[EK h2];simp[h2]
  rw[<-K9,List.replicate_succ',ND,Tl z n,h1];simp[flat]
theorem s_clr(hS:SRel S H){t e:TypeId}{i:TypeInfo}{z:Value}{zx:AV}(ts:Array TypeId)(ty:TypeId)(ht0:ts[0]? = some t)(ht:P.underlying t=some (.slice e))(hi:P.info? e=some i)(hz:i.zero=some z)(hzx:avOf z=some zx)
 (hzs:z.cells.size=i.size) (hz1:∀c∈z.cells,c.oneCell'=true) (h0:0<i.size) (cs:Array Bool) {v:Value} {xs:List AV} (hx:AB S xs [v]) (h:AF P (.clr i.size zx) H xs K) :
 OpOk P S ((builtin .clear ts ty cs #[v]).run P S.w) K:=by
 obtain⟨y,r,hr,hy,hn⟩:∃y r,xs=y::r/\VRel S y v/\r=[]:=by
  match xs,hx with
  |[y],⟨_,_,hv,h1,h2⟩=>cases hv;exact⟨y,[],rfl,h1,rfl⟩
  |_::_::_,⟨_,_,hv,h1,⟨_,_,h2,_⟩⟩=>cases hv;cases h2
 subst hr hn;cases y<;>simp only[AF] at h<;>try exact h.elim
 rename_i g vn off len;obtain⟨h1,h2,h3,hK⟩:=h;obtain⟨⟨a0,c0,rfl,_⟩,hg,hc,hp⟩:=hy;have hG:=hS.live_of hg;have ec:S.cur g=vn:=by rw[hG.ver,h1]
 obtain⟨a,cap',hs',hcase⟩:=hp ec;obtain⟨rfl,rfl⟩:a0=a/\c0=cap':=by cases hs';exact⟨rfl,rfl⟩
 have hgn:g<H.n:=by rw[<-hS.n];exact hg
 have wrap:∀{w'},(Builtin.clear_ ts ty #[.slice a0 len c0]).run P S.w=.ok (.tuple #[]) w'->(builtin .clear ts ty cs #[.slice a0 len c0]).run P S.w=.ok (.value (.tuple #[])) w':=by
  intro w' hr;simp only[builtin,Sem.run_bind,hr,Result.andThen_ok,Sem.run_pure]
 by_cases hl0:len=0
 ·subst hl0
  have hsame:(⟨i.size,vn,(H.at_ g).exact,(H.at_ g).xs.take off++List.replicate 0 zx++(H.at_ g).xs.drop (off+0)⟩:Grp)=H.at_ g:=by
   rw[<-h1,<-h2];simp
  rw[hsame,Xn] at hK;refine Bw (v:=.tuple #[]) (x:=.tup []) (wrap ?_) hS ⟨[],rfl,rfl⟩ hK;cases a0<;>simp[Builtin.clear_,ht0,run_underlying ht]
 ·obtain⟨c1,c2,c3⟩:a0=some ⟨S.place g,off * S.wid g,none⟩/\c0=S.cap g-off/\off+len<=S.cap g:=by
   rcases hcase with hc'|⟨c1,c2,c3⟩
   ·exact hc'
   ·exact absurd c1 hl0
  subst c1;have hlw:0<(H.at_ g).w:=by omega
  have hl1:=hG.len hlw;have hl2:=hG.full hlw;have hc1:0<S.cap g:=AX (Nat.add_pos_right off (Nat.pos_of_ne_zero hl0)) c3;obtain⟨⟨cells,T,us,hb,hcs,hus,hfl⟩,hl3⟩:=hG.live hlw hc1;rw[h2] at hcs hfl;have hn:AB S (List.replicate len zx) (List.replicate len z):=AB.replicate (G9 hzx) len
  have hn1:∀u∈List.replicate len z,u.cells.size=i.size/\∀c∈u.cells,c.oneCell'=true:=λu hu=>by
   obtain rfl:=CV hu;exact⟨hzs,hz1⟩
  have hle:(off+(List.replicate len z).length) * i.size<=cells.size:=by rw[hcs];exact AU _ (by simp;omega)
  have fl:=(flat_get (λv hv=>(hn1 v hv).1)).1;have hst:=run_storeCells_at P (S.place g) (off * i.size) T (flat (List.replicate len z)) 0 cells S.w hb (by rw[fl];rw[AG] at hle;omega) (Np hn1);simp only[Nat.add_zero] at hst;obtain⟨q1,q2,q3,q4,q5⟩:=HI (S.place g) (Abs.seg cells.toList (off * i.size) (flat (List.replicate len z))).toArray S.w;have hfs:=hfl.segs h0 hn1 (p:=off) (by rw[hus.length];omega) hle;have hsg:(H.at_ g).xs.take off++List.replicate len zx++(H.at_ g).xs.drop (off+len)=Abs.seg (H.at_ g).xs off (List.replicate len zx):=by simp[Abs.seg]
  have hsl:(Abs.seg (H.at_ g).xs off (List.replicate len zx)).length=(H.at_ g).xs.length:=seg_length (by simp;omega)
  obtain⟨e',hS'⟩:=hS.moved hgn hlw (S.w.setRow (S.place g) (Abs.seg cells.toList (off * i.size) (flat (List.replicate len z))).toArray) (S.place g) (S.cap g) ⟨i.size,vn,(H.at_ g).exact,Abs.seg (H.at_ g).xs off (List.replicate len zx)⟩ q1 q2 q3 q4 (λb=>q5 b hc1) (.inl ⟨hc1,rfl⟩) (λ_=>⟨_,T,_,setRow_heap S.w _ cells _ T _ hb,
   by rw[BP,seg_length (by rw[fl];simp at hle ⊢;rw[AG] at hle;omega)];simpa using hcs,hus.seg hn off,hfs⟩) (by rw[hsl];exact hl1) (λhe=>by rw[hsl];exact hl2 he) h0 (by rw[ec];exact Ad _) (λ_=>⟨rfl,rfl,by rw[hG.wid,h2]⟩)
  have hrun:(Builtin.clear_ ts ty #[.slice (some ⟨S.place g,off * S.wid g,none⟩) len c0]).run P S.w=.ok (.tuple #[]) (S.w.setRow (S.place g) (Abs.seg cells.toList (off * i.size) (flat (List.replicate len z))).toArray):=by
   have hst2:(storeCells ⟨S.place g,off * i.size,none⟩ (flat (List.replicate len z))).run P S.w=.ok () (S.w.setRow (S.place g) (Abs.seg cells.toList (off * i.size) (flat (List.replicate len z))).toArray):=hst;generalize S.w.setRow (S.place g) (Abs.seg cells.toList (off * i.size) (flat (List.replicate len z))).toArray=W at hst2 ⊢;rw[Tl] at hst2;rw[hG.wid,h2]
   match len,hl0 with
   |m+1,_=>simp[Builtin.clear_,ht0,run_underlying ht,zeroValue,typeInfo,hi,hz,hst2]
  rw[hsg] at hK;exact Fa (S':=S.moved _ g (S.place g) vn (S.cap g) i.size) (v:=.tuple #[]) (x:=.tup []) (wrap hrun) e' hS' ⟨[],rfl,rfl⟩ hK
theorem s_app(hS:SRel S H){t u ty e:TypeId}{i:TypeInfo}{z:Value}{zx:AV}(ht:P.underlying t=some (.slice e))(hu:(∃e',P.underlying u=some (.slice e'))\/P.underlying u=some .string)(hi:P.info? e=some i)(hz:i.zero=some z)
 (hzs:z.cells.size=i.size) (h0:0<i.size) (hby:0<i.bytes) (cs:Array Bool) {sv xv:Value} {xs:List AV} (hx:AB S xs [sv,xv]) (h:AF P (.app i.size i.bytes zx) H xs K) :
 OpOk P S ((builtin .append #[t,u] ty cs #[sv,xv]).run P S.w) K:=by
 obtain⟨s,x,rfl,hs,hxv⟩:=hx.len2;simp only[AF] at h;obtain⟨hok,hq⟩:=h;obtain⟨news,he,h⟩:=Cn hq;clear hq;obtain⟨vn,hn,hn1,hlen,hrd⟩:=z1l hS h0 hxv hok he;have hm:=hlen S.w;have hf:=hrd S.w (λ_=>rfl);have hfd:=hrd S.w.drew (λ_=>rfl)
 have wrap:∀{v w'},(Builtin.append_ #[t,u] ty #[sv,xv]).run P S.w=.ok v w'->(builtin .append #[t,u] ty cs #[sv,xv]).run P S.w=.ok (.value v) w':=by
  intro v w' hr;simp only[builtin,Sem.run_bind,hr,Result.andThen_ok,Sem.run_pure]
 -- a slice without room
 have empty:∀base,sv=.slice base 0 0->K (.ref H.n 1 0 news.length) (H.push ⟨i.size,1,news.isEmpty,news⟩)->news.length * i.bytes<=140737488355328->OpOk P S ((builtin .append #[t,u] ty cs #[sv,xv]).run P S.w) K:=by
  intro base hb k1 hfit;subst hb;by_cases hne:news=[]
  ·subst hne
   have hvn:vn=[]:=hn;subst hvn;refine .inl ⟨.slice base 0 0,S.virt i.size,.ref H.n 1 0 0,_,.inl (wrap ?_),Evo.virt _,hS.virt _ h0,?_,k1⟩
   ·exact GO ht hu hi base 0 0 xv 0 [] hm hf (Ad _) S.w (by cases base<;>simp[storeCells])
   ·refine⟨⟨_,_,rfl,λ_=>rfl⟩,?_,?_,λ_=>⟨_,_,rfl,.inr ⟨rfl,rfl,?_⟩⟩⟩
    ·show H.n<S.n+1;rw[hS.n];omega
    ·show 1<=fput _ _ _ _;rw[<-hS.n,AL];exact Ad _
    ·show fput _ _ _ _<=0;rw[<-hS.n,AL];exact Ad _
  ·have hpos:0<news.length:=by cases news with|nil=>exact absurd rfl hne|cons _ _=>simp
   have hie:news.isEmpty=false:=by cases news with|nil=>exact absurd rfl hne|cons _ _=>rfl
   rw[hie] at k1;obtain⟨cells,cap,run,r1,r2,r3⟩:=LA hS (ty:=ty) ht hu hi hz hzs h0 hby base 0 (olds:=[]) (vo:=[]) rfl (by simp) (by cases base<;>simp[Builtin.firstCells,loadCells,loadCellsFrom,flat]) xv hn hn1 hm hfd (by simpa using hpos) (by simpa using hfit);simp only[List.length_nil,Bb,List.nil_append] at run r1 r2 r3;exact K8 hS hn r3 r2 rfl r1 (wrap run) k1 h0
 cases s<;>simp only[JY] at h<;>try exact h.elim
 ·exact empty none hs h.2 h.1
 ·obtain⟨a,ha⟩:=hs
  exact empty a ha h.2 h.1
 ·rename_i w' xs
  obtain⟨h1,hno,hyes⟩:=h;subst h1;have hs0:=hs;obtain⟨_,_,a,vs,rfl,hnone,hvs,hrow⟩:=hs;rcases Nat.eq_zero_or_pos news.length with hpos|hpos
  ·obtain rfl:news=[]:=Ay hpos
   have hvn:vn=[]:=hn;subst hvn;refine .inl ⟨.slice a xs.length xs.length,S,.full i.size xs,H,.inl (wrap ?_),.refl S,hS,hs0,hno rfl⟩;exact GO ht hu hi a xs.length xs.length xv 0 [] hm hf (Ad _) S.w (by cases a<;>simp[storeCells])
  obtain⟨h3,hK⟩:=hyes hpos
  have husz:∀v∈vs,v.cells.size=i.size/\∀c∈v.cells,c.oneCell'=true:=λv hv=>by
   obtain⟨j,hj⟩:=D6 hv;have hne:xs≠[]:=λhh=>by subst hh;have:vs=[]:=hvs;subst this;cases hv
   obtain⟨b,o,_,_,hr⟩:=hrow hne;obtain⟨f1,f2,_⟩:=hr j v hj;exact⟨f1,f2⟩
  have hbase:(Builtin.firstCells i.size xs.length (.slice a xs.length xs.length)).run P S.w.drew=.ok (flat vs).toArray S.w.drew:=by
   by_cases hne:xs=[]
   ·subst hne
    have:vs=[]:=hvs;subst this;cases a<;>simp[Builtin.firstCells,loadCells,loadCellsFrom,flat]
   ·obtain⟨b,o,rfl,_,hr⟩:=hrow hne
    have hl:(flat vs).length=xs.length * i.size:=by rw[(flat_get hr.sizes).1,hvs.length]
    exact run_firstCells_some S.w.drew i.size xs.length _ xs.length xs.length _ hl (λj v hv=>(hr.cell h0 hv).1)
  obtain⟨cells',cap2,run,r1,r2,r3⟩:=LA hS (ty:=ty) ht hu hi hz hzs h0 hby a xs.length hvs husz hbase xv hn hn1 hm hfd (by omega) h3;exact K8 hS (hvs.append hn) r3 r2 (by rw[Aj]) r1 (wrap run) hK h0
 ·rename_i g vn' off len
  obtain⟨h1,h2,h3,h4,h⟩:=h;have hs':=hs;obtain⟨_,hg,hc,hp⟩:=hs;have hG:=hS.live_of hg;have ec:S.cur g=vn':=by rw[hG.ver,h1]
  obtain⟨a,cap',rfl,hcase⟩:=hp ec;have hgn:g<H.n:=by rw[<-hS.n];exact hg
  have hlw:0<(H.at_ g).w:=by omega
  have hl1:=hG.len hlw;have hl2:=hG.full hlw;by_cases hc0:S.cap g=0
  ·-- no room
   have hx0:(H.at_ g).xs=[]:=Ay (by omega);rw[hx0] at h h4;simp only[List.isEmpty_nil,Bool.or_true,List.length_nil,List.nil_append] at h h4;obtain⟨_,hK,_⟩:=h;have hl0:len=0:=by omega
   have h6:off=0:=by omega
   subst hl0;subst h6;have hK:=hK rfl;have hcp:cap'=0:=by rcases hcase with⟨_,c2,_⟩|⟨_,c2,_⟩<;>omega
   subst hcp;simp only[Bb] at hK h3;by_cases hne:news=[]
   ·subst hne
    have hvn:vn=[]:=hn;subst hvn;obtain⟨e',hS'⟩:=hS.moved hgn hlw S.w (S.place g) 0 ⟨i.size,vn'+1,(H.at_ g).exact&&([]:List AV).isEmpty,[]⟩ rfl ⟨rfl,Ad _⟩ rfl (Ad _) (λ_ _ _=>rfl) (.inr (.inr rfl)) (λh=>absurd h (by omega)) (Ad _) (λ_=>rfl) h0 (by rw[ec];show _<=vn'+1;omega) (λhh=>by rw[ec] at hh;change vn'+1=vn' at hh;omega);refine Fa (S':=S.moved S.w g (S.place g) (vn'+1) 0 i.size) (v:=.slice a 0 0) (wrap (GO ht hu hi a 0 0 xv 0 [] hm hf (Ad _) S.w (by cases a<;>simp[storeCells]))) e' hS' ?_ hK;refine⟨⟨_,_,rfl,λ_=>rfl⟩,hg,?_,λ_=>⟨a,0,rfl,.inr ⟨rfl,rfl,?_⟩⟩⟩
    ·show _<=fput _ _ _ _;rw[AL];exact Ad _
    ·show fput _ _ _ _<=0;rw[AL];exact Ad _
   ·have hpos:0<news.length:=by cases news with|nil=>exact absurd rfl hne|cons _ _=>simp
    have hie:news.isEmpty=false:=by cases news with|nil=>exact absurd rfl hne|cons _ _=>rfl
    obtain⟨cells',cap2,run,r1,r2,r3⟩:=LA hS (ty:=ty) ht hu hi hz hzs h0 hby a 0 (olds:=[]) (vo:=[]) rfl (by simp) (by cases a<;>simp[Builtin.firstCells,loadCells,loadCellsFrom,flat]) xv hn hn1 hm hfd (by simpa using hpos) (by simpa using h3);simp only[List.length_nil,Bb,List.nil_append] at run r1 r2 r3;have hw1:=heap_alloc_new S.w.drew (.cells cells' e)
    obtain⟨e',hS'⟩:=hS.moved hgn hlw (S.w.drew.alloc (.cells cells' e)) S.w.heap.size cap2 ⟨i.size,vn'+1,(H.at_ g).exact&&news.isEmpty,news⟩ rfl ⟨rfl,Cr _⟩ rfl (by rw[size_alloc];show _<=S.w.heap.size+1;omega)
     (λb _ hb'=>heap_alloc_lt S.w.drew _ b hb') (.inr (.inl (Ad _))) (λ_=>⟨_,_,_,hw1,r2,hn,r3⟩) r1 (by simp[hie]) h0 (by rw[ec];show _<=vn'+1;omega) (λhh=>by rw[ec] at hh;change vn'+1=vn' at hh;omega)
    refine Fa (S':=S.moved _ g S.w.heap.size (vn'+1) cap2 i.size) (wrap run) e' hS' ?_ hK;refine⟨⟨_,_,rfl,λh=>by cases h⟩,hg,?_,λ_=>⟨_,cap2,rfl,.inl ?_⟩⟩
    ·show _<=fput _ _ _ _;rw[AL];exact Ad _
    ·show _=some (Addr.mk (fput _ _ _ _) (_ * fput _ _ _ _) none)/\_=fput _ _ _ _-_/\_<=fput _ _ _ _
     rw[AL,AL,AL];exact⟨by simp,by omega,by omega⟩
  have hc1:0<S.cap g:=by omega
  obtain⟨⟨cells,T,us,hb,hcs,hus,hfl⟩,hl3⟩:=hG.live hlw hc1;rw[h2] at hcs hfl;have husl:us.length=(H.at_ g).xs.length:=hus.length
  -- what stands in the slice
  have holds:∀W,(∀a,W.cell? a=S.w.cell? a)->(Builtin.firstCells i.size len (.slice a len cap')).run P W=.ok (flat ((us.drop off).take len)).toArray W:=by
   intro W hW;rcases hcase with⟨rfl,_,_⟩|⟨hl0,_,_⟩
   ·have hrow:Ng S.w (S.place g) (off * i.size) i.size ((us.drop off).take len):=by
     intro j v hv;rw[BU] at hv;split at hv
     ·rw[BS] at hv
      have:=hfl.row hb (off+j) v hv
      rwa [Bb,AG] at this
     ·cases hv
    have hl:(flat ((us.drop off).take len)).length=len * i.size:=by
     rw[(flat_get hrow.sizes).1];simp;rw[Co (by omega)]
    rw[hG.wid,h2];exact run_firstCells_some W i.size len _ len cap' _ hl (λj v hv=>by rw[hW];exact (hrow.cell h0 hv).1)
   ·subst hl0
    cases a<;>simp[Builtin.firstCells,loadCells,loadCellsFrom,flat]
  have husz:∀v∈(us.drop off).take len,v.cells.size=i.size/\∀c∈v.cells,c.oneCell'=true:=λv hv=>by
   obtain⟨j,hj⟩:=D6 (BF (B8 hv));obtain⟨f1,f2,_⟩:=hfl j v hj;exact⟨f1,f2⟩
  have holdA:AB S (((H.at_ g).xs.drop off).take len) ((us.drop off).take len):=(hus.drop off).take len;have holdl:(((H.at_ g).xs.drop off).take len).length=len:=by simp;omega
  have inplace:off+len+news.length<=(H.at_ g).xs.length->K (.ref g vn' off (len+news.length)) (H.set g ⟨i.size,vn',(H.at_ g).exact,(H.at_ g).xs.take (off+len)++news++(H.at_ g).xs.drop (off+len+news.length)⟩)->OpOk P S ((builtin .append #[t,u] ty cs #[.slice a len cap',xv]).run P S.w) K:=λhroom hK=>by
   have hcl:len+news.length<=cap':=by
    rcases hcase with⟨_,c2,_⟩|⟨c1,c2,c3⟩<;>omega
   by_cases hz0:news=[]
   ·subst hz0
    have hvn0:vn=[]:=hn;subst hvn0
    have hsame:(⟨i.size,vn',(H.at_ g).exact,(H.at_ g).xs.take (off+len)++[]++(H.at_ g).xs.drop (off+len+([]:List AV).length)⟩:Grp)=H.at_ g:=by
     rw[<-h1,<-h2];simp
    rw[hsame,Xn] at hK;exact Bw (v:=.slice a len cap') (x:=.ref g vn' off len) (wrap (GO ht hu hi a len cap' xv 0 [] hm hf hcl S.w (by cases a<;>simp[storeCells]))) hS hs' hK
   ·have hpos:0<news.length:=by cases news with|nil=>exact absurd rfl hz0|cons _ _=>simp
    obtain⟨c1,c2,c3⟩:a=some ⟨S.place g,off * S.wid g,none⟩/\cap'=S.cap g-off/\off+len<=S.cap g:=by
     rcases hcase with hc'|⟨c1,c2,c3⟩
     ·exact hc'
     ·omega
    subst c1;have hvl:vn.length=news.length:=hn.length;have hle:(off+len+vn.length) * i.size<=cells.size:=by rw[hcs];exact AU _ (by omega)
    have fl:=(flat_get (λv hv=>(hn1 v hv).1)).1;have hst:=run_storeCells_at P (S.place g) ((off+len) * i.size) T (flat vn) 0 cells S.w hb (by rw[fl];rw[AG] at hle;omega) (Np hn1);simp only[Nat.add_zero] at hst;obtain⟨q1,q2,q3,q4,q5⟩:=HI (S.place g) (Abs.seg cells.toList ((off+len) * i.size) (flat vn)).toArray S.w;have hfs:=hfl.segs h0 hn1 (p:=off+len) (by omega) hle;have hsl:(Abs.seg (H.at_ g).xs (off+len) news).length=(H.at_ g).xs.length:=seg_length (by omega)
    obtain⟨e',hS'⟩:=hS.moved hgn hlw (S.w.setRow (S.place g) (Abs.seg cells.toList ((off+len) * i.size) (flat vn)).toArray) (S.place g) (S.cap g) ⟨i.size,vn',(H.at_ g).exact,Abs.seg (H.at_ g).xs (off+len) news⟩ q1 q2 q3 q4 (λb=>q5 b hc1) (.inl ⟨hc1,rfl⟩) (λ_=>⟨_,T,_,setRow_heap S.w _ cells _ T _ hb,
     by rw[BP,seg_length (by rw[fl];simp;rw[AG] at hle;omega)];simpa using hcs,hus.seg hn (off+len),hfs⟩) (by rw[hsl];exact hl1) (λhe=>by rw[hsl];exact hl2 he) h0 (by rw[ec];exact Ad _) (λ_=>⟨rfl,rfl,by rw[hG.wid,h2]⟩)
    refine Fa (S':=S.moved _ g (S.place g) vn' (S.cap g) i.size) (v:=.slice (some ⟨S.place g,off * S.wid g,none⟩) (len+news.length) cap') (wrap (GO ht hu hi (some ⟨S.place g,off * S.wid g,none⟩) len cap' xv news.length (flat vn) hm hf hcl _ ?_)) e' hS' ?_ hK
    ·show (storeCells ((Addr.mk (S.place g) (off * S.wid g) none).add (len * i.size)) (flat vn)).run P S.w=_
     rw[addr_add,hG.wid,h2,<-AG];exact hst
    ·refine⟨⟨_,_,rfl,λh=>by cases h⟩,hg,?_,λ_=>⟨_,cap',rfl,.inl ?_⟩⟩
     ·show _<=fput _ _ _ _;rw[AL];exact Ad _
     ·show _=some (Addr.mk (fput _ _ _ _) (_ * fput _ _ _ _) none)/\_=fput _ _ _ _-_/\_<=fput _ _ _ _
      rw[AL,AL,AL,hG.wid,h2];exact⟨rfl,c2,by omega⟩
  cases hxx:(!(H.at_ g).exact||(H.at_ g).xs.isEmpty)<;>simp only[hxx] at h
  rotate_left
  ·-- room isn't known
   have hex:(H.at_ g).exact=false:=by
    cases hex:(H.at_ g).exact
    ·rfl
    ·rw[hex] at hxx
     have h7:=hl2 hex;have:(H.at_ g).xs=[]:=by simpa using hxx
     rw[this] at h7;simp at h7;omega
   rw[hex,Bp] at h;obtain⟨h6,hEnd,hIn,hOff⟩:=h;have hzz:=hz;clear hz;by_cases hz:off=0
   ·subst hz
    have hz:=hzz;rcases Ak (0+len) (H.at_ g).xs.length with hlt|hge
    ·obtain⟨hroom,hK⟩:=hIn hlt
     exact inplace hroom (by rw[hex];exact hK)
    have h5:len=(H.at_ g).xs.length:=by omega
    have hK:=hEnd (by omega);clear hEnd hIn hge hp hs' inplace;have hall:(us.drop 0).take len=us:=by rw[B6];exact Az (by omega)
    have hallA:((H.at_ g).xs.drop 0).take len=(H.at_ g).xs:=by rw[B6];exact Az (by omega)
    rw[hall] at holds husz;by_cases hroom:len+news.length<=cap'
    ·-- in its block
     by_cases hz0:news=[]
     ·subst hz0
      have hvn0:vn=[]:=hn;subst hvn0;obtain⟨e',hS'⟩:=hS.moved hgn hlw S.w (S.place g) (S.cap g) ⟨i.size,vn'+1,false,(H.at_ g).xs++[]⟩ rfl ⟨rfl,Ad _⟩ rfl (Ad _) (λ_ _ _=>rfl) (.inl ⟨hc1,rfl⟩) (λ_=>⟨_,_,us,hb,hcs,by simpa using hus,hfl⟩) (by simpa using hl1) (by simp) h0 (by rw[ec];show _<=vn'+1;omega) (λhh=>by rw[ec] at hh;change vn'+1=vn' at hh;omega);refine Fa (S':=S.moved S.w g (S.place g) (vn'+1) (S.cap g) i.size) (v:=.slice a (len+0) cap') (wrap (GO ht hu hi a len cap' xv 0 [] hm hf hroom S.w (by cases a<;>simp[storeCells]))) e' hS' ?_ hK;refine⟨⟨_,_,rfl,λhh=>?_⟩,hg,?_,λ_=>⟨a,cap',rfl,?_⟩⟩
      ·rcases hcase with⟨c1,_⟩|⟨c1,_⟩
       ·rw[c1] at hh;cases hh
       ·omega
      ·show _<=fput _ _ _ _;rw[AL];exact Ad _
      ·show (a=some ⟨fput _ _ _ _,_ * fput _ _ _ _,none⟩/\_=fput _ _ _ _-_/\_<=fput _ _ _ _)\/(_/\_/\fput _ _ _ _<=_)
       rw[AL,AL,AL];rcases hcase with⟨c1,c2,c3⟩|⟨c1,c2,c3⟩
       ·exact .inl ⟨by rw[c1,hG.wid,h2],c2,by simpa using c3⟩
       ·exact .inr ⟨by simpa using c1,c2,c3⟩
     ·have hpos:0<news.length:=by cases news with|nil=>exact absurd rfl hz0|cons _ _=>simp
      obtain⟨c1,c2,c3⟩:a=some ⟨S.place g,0 * S.wid g,none⟩/\cap'=S.cap g-0/\0+len<=S.cap g:=by
       rcases hcase with hc'|⟨c1,c2,c3⟩
       ·exact hc'
       ·omega
      subst c1;have hvl:vn.length=news.length:=hn.length;have hle:(len+vn.length) * i.size<=cells.size:=by rw[hcs];exact AU _ (by omega)
      have fl:=(flat_get (λv hv=>(hn1 v hv).1)).1;have hst:=run_storeCells_at P (S.place g) (len * i.size) T (flat vn) 0 cells S.w hb (by rw[fl];rw[AG] at hle;omega) (Np hn1);simp only[Nat.add_zero] at hst;obtain⟨q1,q2,q3,q4,q5⟩:=HI (S.place g) (Abs.seg cells.toList (len * i.size) (flat vn)).toArray S.w;have hfs:=hfl.segs h0 hn1 (p:=len) (by omega) hle
      have hsegA:Abs.seg (H.at_ g).xs len news=(H.at_ g).xs++news:=by
       unfold Abs.seg;rw[Az (by omega),Eo (by omega),A4]
      have hvs:AB S ((H.at_ g).xs++news) (Abs.seg us len vn):=by rw[<-hsegA];exact hus.seg hn len
      obtain⟨e',hS'⟩:=hS.moved hgn hlw (S.w.setRow (S.place g) (Abs.seg cells.toList (len * i.size) (flat vn)).toArray) (S.place g) (S.cap g) ⟨i.size,vn'+1,false,(H.at_ g).xs++news⟩ q1 q2 q3 q4 (λb=>q5 b hc1) (.inl ⟨hc1,rfl⟩) (λ_=>⟨_,T,_,setRow_heap S.w _ cells _ T _ hb,
       by rw[BP,seg_length (by rw[fl];simp;rw[AG] at hle;omega)];simpa using hcs,hvs,hfs⟩) (by simp;omega) (by simp) h0 (by rw[ec];show _<=vn'+1;omega) (λhh=>by rw[ec] at hh;change vn'+1=vn' at hh;omega)
      refine Fa (S':=S.moved _ g (S.place g) (vn'+1) (S.cap g) i.size) (v:=.slice (some ⟨S.place g,0 * S.wid g,none⟩) (len+news.length) cap') (wrap (GO ht hu hi (some ⟨S.place g,0 * S.wid g,none⟩) len cap' xv news.length (flat vn) hm hf hroom _ ?_)) e' hS' ?_ hK
      ·show (storeCells ((Addr.mk (S.place g) (0 * S.wid g) none).add (len * i.size)) (flat vn)).run P S.w=_
       rw[addr_add];simp only[Fi,Bb];exact hst
      ·refine⟨⟨_,_,rfl,λh=>by cases h⟩,hg,?_,λ_=>⟨_,cap',rfl,.inl ?_⟩⟩
       ·show _<=fput _ _ _ _;rw[AL];exact Ad _
       ·show _=some (Addr.mk (fput _ _ _ _) (_ * fput _ _ _ _) none)/\_=fput _ _ _ _-_/\_<=fput _ _ _ _
        rw[AL,AL,AL];exact⟨by simp,c2,by omega⟩
    ·-- in a new block
     obtain⟨cells',cap2,run,r1,r2,r3⟩:=LA hS (ty:=ty) ht hu hi hz hzs h0 hby a cap' (olds:=(H.at_ g).xs) (vo:=us) hus husz (by rw[<-h5];exact holds S.w.drew (λ_=>rfl)) xv hn hn1 hm hfd (by omega) (by rw[<-h5];exact h3);rw[<-h5] at run r1;have hw1:=heap_alloc_new S.w.drew (.cells cells' e)
     obtain⟨e',hS'⟩:=hS.moved hgn hlw (S.w.drew.alloc (.cells cells' e)) S.w.heap.size cap2 ⟨i.size,vn'+1,false,(H.at_ g).xs++news⟩ rfl ⟨rfl,Cr _⟩ rfl (by rw[size_alloc];show _<=S.w.heap.size+1;omega)
      (λb _ hb'=>heap_alloc_lt S.w.drew _ b hb') (.inr (.inl (Ad _))) (λ_=>⟨_,_,_,hw1,r2,hus.append hn,r3⟩) (by simp;omega) (by simp) h0 (by rw[ec];show _<=vn'+1;omega) (λhh=>by rw[ec] at hh;change vn'+1=vn' at hh;omega)
     refine Fa (S':=S.moved _ g S.w.heap.size (vn'+1) cap2 i.size) (wrap run) e' hS' ?_ hK;refine⟨⟨_,_,rfl,λh=>by cases h⟩,hg,?_,λ_=>⟨_,cap2,rfl,.inl ?_⟩⟩
     ·show _<=fput _ _ _ _;rw[AL];exact Ad _
     ·show _=some (Addr.mk (fput _ _ _ _) (_ * fput _ _ _ _) none)/\_=fput _ _ _ _-_/\_<=fput _ _ _ _
      rw[AL,AL,AL];exact⟨by simp,by omega,by omega⟩
   ·have h5:off+len=(H.at_ g).xs.length:=h6.resolve_left hz
    have hKA:=hEnd h5;have hKB:=hOff hz;clear hEnd hIn hOff hp hs' inplace h6;have hall:(us.drop off).take len=us.drop off:=Az (by simp;omega);rw[hall] at holds husz;have hdl:((H.at_ g).xs.drop off).length=len:=by simp;omega
    by_cases hroom:len+news.length<=cap'
    ·by_cases hz0:news=[]
     ·subst hz0
      have hvn0:vn=[]:=hn;subst hvn0;obtain⟨e',hS'⟩:=hS.moved hgn hlw S.w (S.place g) (S.cap g) ⟨i.size,vn'+1,false,(H.at_ g).xs++[]⟩ rfl ⟨rfl,Ad _⟩ rfl (Ad _) (λ_ _ _=>rfl) (.inl ⟨hc1,rfl⟩) (λ_=>⟨_,_,us,hb,hcs,by simpa using hus,hfl⟩) (by simpa using hl1) (by simp) h0 (by rw[ec];show _<=vn'+1;omega) (λhh=>by rw[ec] at hh;change vn'+1=vn' at hh;omega);refine Fa (S':=S.moved S.w g (S.place g) (vn'+1) (S.cap g) i.size) (v:=.slice a (len+0) cap') (wrap (GO ht hu hi a len cap' xv 0 [] hm hf hroom S.w (by cases a<;>simp[storeCells]))) e' hS' ?_ hKA;refine⟨⟨_,_,rfl,λhh=>?_⟩,hg,?_,λ_=>⟨a,cap',rfl,?_⟩⟩
      ·rcases hcase with⟨c1,_⟩|⟨c1,_⟩
       ·rw[c1] at hh;cases hh
       ·omega
      ·show _<=fput _ _ _ _;rw[AL];exact Ad _
      ·show (a=some ⟨fput _ _ _ _,_ * fput _ _ _ _,none⟩/\_=fput _ _ _ _-_/\_<=fput _ _ _ _)\/(_/\_/\fput _ _ _ _<=_)
       rw[AL,AL,AL];rcases hcase with⟨c1,c2,c3⟩|⟨c1,c2,c3⟩
       ·exact .inl ⟨by rw[c1,hG.wid,h2],c2,by simpa using c3⟩
       ·exact .inr ⟨by simpa using c1,c2,c3⟩
     ·have hpos:0<news.length:=by cases news with|nil=>exact absurd rfl hz0|cons _ _=>simp
      obtain⟨c1,c2,c3⟩:a=some ⟨S.place g,off * S.wid g,none⟩/\cap'=S.cap g-off/\off+len<=S.cap g:=by
       rcases hcase with hc'|⟨c1,c2,c3⟩
       ·exact hc'
       ·omega
      subst c1;have hvl:vn.length=news.length:=hn.length;have hle:(off+len+vn.length) * i.size<=cells.size:=by rw[hcs];exact AU _ (by omega)
      have fl:=(flat_get (λv hv=>(hn1 v hv).1)).1;have hst:=run_storeCells_at P (S.place g) ((off+len) * i.size) T (flat vn) 0 cells S.w hb (by rw[fl];rw[AG] at hle;omega) (Np hn1);simp only[Nat.add_zero] at hst;obtain⟨q1,q2,q3,q4,q5⟩:=HI (S.place g) (Abs.seg cells.toList ((off+len) * i.size) (flat vn)).toArray S.w;have hfs:=hfl.segs h0 hn1 (p:=off+len) (by omega) hle
      have hsegA:Abs.seg (H.at_ g).xs (off+len) news=(H.at_ g).xs++news:=by
       unfold Abs.seg;rw[Az (by omega),Eo (by omega),A4]
      have hvs:AB S ((H.at_ g).xs++news) (Abs.seg us (off+len) vn):=by rw[<-hsegA];exact hus.seg hn (off+len)
      obtain⟨e',hS'⟩:=hS.moved hgn hlw (S.w.setRow (S.place g) (Abs.seg cells.toList ((off+len) * i.size) (flat vn)).toArray) (S.place g) (S.cap g) ⟨i.size,vn'+1,false,(H.at_ g).xs++news⟩ q1 q2 q3 q4 (λb=>q5 b hc1) (.inl ⟨hc1,rfl⟩) (λ_=>⟨_,T,_,setRow_heap S.w _ cells _ T _ hb,
       by rw[BP,seg_length (by rw[fl];simp;rw[AG] at hle;omega)];simpa using hcs,hvs,hfs⟩) (by simp;omega) (by simp) h0 (by rw[ec];show _<=vn'+1;omega) (λhh=>by rw[ec] at hh;change vn'+1=vn' at hh;omega)
      refine Fa (S':=S.moved _ g (S.place g) (vn'+1) (S.cap g) i.size) (v:=.slice (some ⟨S.place g,off * S.wid g,none⟩) (len+news.length) cap') (wrap (GO ht hu hi (some ⟨S.place g,off * S.wid g,none⟩) len cap' xv news.length (flat vn) hm hf hroom _ ?_)) e' hS' ?_ hKA
      ·show (storeCells ((Addr.mk (S.place g) (off * S.wid g) none).add (len * i.size)) (flat vn)).run P S.w=_
       rw[addr_add,hG.wid,h2,<-AG];exact hst
      ·refine⟨⟨_,_,rfl,λh=>by cases h⟩,hg,?_,λ_=>⟨_,cap',rfl,.inl ?_⟩⟩
       ·show _<=fput _ _ _ _;rw[AL];exact Ad _
       ·show _=some (Addr.mk (fput _ _ _ _) (_ * fput _ _ _ _) none)/\_=fput _ _ _ _-_/\_<=fput _ _ _ _
        rw[AL,AL,AL,hG.wid,h2];exact⟨rfl,c2,by omega⟩
    ·obtain⟨cells',cap2,run,r1,r2,r3⟩:=LA hS (ty:=ty) ht hu hi hzz hzs h0 hby a cap' (olds:=(H.at_ g).xs.drop off) (vo:=us.drop off) (hus.drop off) husz (by rw[hdl];exact holds S.w.drew (λ_=>rfl)) xv hn hn1 hm hfd (by omega) (by rw[hdl];exact h3)
     rw[hdl] at run r1;have hw1:=heap_alloc_new S.w.drew (.cells cells' e)
     obtain⟨e',hS'⟩:=hS.moved hgn hlw (S.w.drew.alloc (.cells cells' e)) S.w.heap.size cap2 ⟨i.size,vn'+1,false,(H.at_ g).xs.drop off++news⟩ rfl ⟨rfl,Cr _⟩ rfl (by rw[size_alloc];show _<=S.w.heap.size+1;omega)
      (λb _ hb'=>heap_alloc_lt S.w.drew _ b hb') (.inr (.inl (Ad _))) (λ_=>⟨_,_,_,hw1,r2,(hus.drop off).append hn,r3⟩) (by show ((H.at_ g).xs.drop off++news).length<=_;rw[Aj,hdl];exact r1) (by simp) h0 (by rw[ec];show _<=vn'+1;omega) (λhh=>by rw[ec] at hh;change vn'+1=vn' at hh;omega)
     refine Fa (S':=S.moved _ g S.w.heap.size (vn'+1) cap2 i.size) (wrap run) e' hS' ?_ hKB;refine⟨⟨_,_,rfl,λh=>by cases h⟩,hg,?_,λ_=>⟨_,cap2,rfl,.inl ?_⟩⟩
     ·show _<=fput _ _ _ _;rw[AL];exact Ad _
     ·show _=some (Addr.mk (fput _ _ _ _) (_ * fput _ _ _ _) none)/\_=fput _ _ _ _-_/\_<=fput _ _ _ _
      rw[AL,AL,AL];exact⟨by simp,by omega,by omega⟩
  ·-- the room is known
   have hex:(H.at_ g).exact=true:=by
    cases hex:(H.at_ g).exact
    ·rw[hex] at hxx;simp at hxx
    ·rfl
   obtain⟨hA,hB⟩:=h;have hcap:=hl2 hex;by_cases hroom:off+len+news.length<=(H.at_ g).xs.length
   ·have hK:=hA hroom
    exact inplace hroom (by rw[hex];exact hK)
   ·have hK:=hB (by omega)
    have hcl:cap'<len+news.length:=by
     rcases hcase with⟨_,c2,_⟩|⟨c1,c2,c3⟩<;>omega
    have hfo:=holds S.w.drew (λ_=>rfl);have hbase:(Builtin.firstCells i.size (((H.at_ g).xs.drop off).take len).length (.slice a (((H.at_ g).xs.drop off).take len).length cap')).run P S.w.drew=.ok (flat ((us.drop off).take len)).toArray S.w.drew:=by rw[holdl];exact hfo
    obtain⟨cells',cap2,run,r1,r2,r3⟩:=LA hS (ty:=ty) ht hu hi hz hzs h0 hby a cap' holdA husz hbase xv hn hn1 hm hfd (by omega) (by rw[holdl];exact h3);rw[holdl] at run r1;exact K8 hS (holdA.append hn) r3 r2 (by rw[Aj,holdl]) r1 (wrap run) hK h0
end
section
variable {P:Program}{S:MS}{H:A5}{K:AV->A5->Prop}
theorem SRel.growM(h:SRel S H):SRel (S.grow (.map #[] 0) 1 0 0) (H.push ⟨0,1,true,[]⟩) where
 n:=by show S.n+1=H.n+1;rw[h.n]
 grp g hg:=by
  have e:=Evo.grow h.im (.map #[] 0) 1 0 0;by_cases hgn:g=H.n
  ·subst hgn
   rw[A5.push_new];refine⟨?_,?_,λh0=>absurd h0 (Cj _),λh0=>absurd h0 (Cj _),λh0=>absurd h0 (Cj _),λ_ _=>⟨⟨#[],0,?_,rfl⟩,?_⟩⟩
   ·show fput _ _ _ _=_;rw[<-h.n,AL]
   ·show fput _ _ _ _=_;rw[<-h.n,AL]
   ·show (S.w.alloc _).heap[fput _ _ _ _]? = _;rw[<-h.n,AL];exact Abs.heap_alloc_new _ _
   ·show ¬(S.im (fput _ _ _ _)\/S.keep (fput _ _ _ _));rw[<-h.n,AL];intro hh;have:=h.im _ hh;omega
  ·have hg':g<H.n:=by have:g<H.n+1:=hg;omega
   rw[A5.push_old _ _ hg'];have hr:=h.grp g hg';refine hr.mono' e (by rw[h.n];exact hg') ?_ (λhh=>Abs.heap_alloc_lt _ _ _ (hr.has_lt hh)) (λhh=>hr.has_ni hh);show fput _ _ _ _=_;rw[Ed _ _ (by rw[h.n];omega)]
 apart g g' hg hg' hne hw1 hw2:=by
  have key:∀k,k<H.n+1->((H.push ⟨0,1,true,[]⟩).at_ k).has (fput S.cap S.n 0 k)->(k=H.n/\fput S.place S.n S.w.heap.size k=S.w.heap.size)\/(k<H.n/\fput S.place S.n S.w.heap.size k=S.place k/\S.place k<S.w.heap.size/\(H.at_ k).has (S.cap k)):=by
   intro k hk hwk;by_cases hkn:k=H.n
   ·left;refine⟨hkn,?_⟩;rw[hkn,<-h.n,AL]
   ·right
    have hk':k<H.n:=by omega
    rw[A5.push_old _ _ hk'] at hwk;rw[Ed _ _ (by rw[h.n];omega)] at hwk;exact⟨hk',Ed _ _ (by rw[h.n];omega),(h.grp k hk').has_lt hwk,hwk⟩
  show fput _ _ _ _≠fput _ _ _ _;rcases key g hg hw1 with⟨a1,a2⟩|⟨a1,a2,a3,a4⟩<;>rcases key g' hg' hw2 with⟨b1,b2⟩|⟨b1,b2,b3,b4⟩
  ·omega
  ·rw[a2,b2];omega
  ·rw[a2,b2];omega
  ·rw[a2,b2];exact h.apart g g' a1 b1 hne a4 b4
 im b hb:=by show b<(S.w.alloc _).heap.size;rw[Abs.size_alloc];have:=h.im b hb;omega
theorem SRel.setM(h:SRel S H){g:Nat}(hg:g<H.n)(hw:(H.at_ g).w=0)(he:(H.at_ g).exact=true)(w':World)
 (h1:w'.os=S.w.os) (h2:JW w' S.w) (h3:w'.output=S.w.output) (h4:w'.heap.size=S.w.heap.size) (h5:∀b,b≠S.place g->w'.heap[b]? = S.w.heap[b]?)
 {es:Array MapEntry} {clock:Nat} (hb:w'.heap[S.place g]? = some (.map es clock)) {ys:List AV} (hv:AB S ys (z8o es)) :
 Evo S { S with w:=w' }/\SRel { S with w:=w' } (H.set g ⟨0,(H.at_ g).ver,true,ys⟩):=by
 have hr:=h.grp g hg;have hni:=(hr.mlive hw he).2;have e:Evo S { S with w:=w' }:=⟨rfl,h1,h2,h3,DL h4.symm,λb hb=>h5 b (λhh=>hni (hh ▸ hb)),λ_ hh=>hh,λ_ hh=>hh,λ_ hh=>.inl hh,Ad _,λ_ _=>Ad _,λ_ _ _=>⟨rfl,rfl,rfl⟩⟩;have hat:∀j,(H.set g ⟨0,(H.at_ g).ver,true,ys⟩).at_ j=if j=g then ⟨0,(H.at_ g).ver,true,ys⟩ else H.at_ j:=λj=>rfl
 have hhas:∀j,((H.set g ⟨0,(H.at_ g).ver,true,ys⟩).at_ j).has (S.cap j)->(H.at_ j).has (S.cap j):=λj hj=>by
  rw[hat] at hj;split at hj
  ·rename_i hjg;subst hjg;exact .inr ⟨hw,he⟩
  ·exact hj
 refine⟨e,h.n,λk hk=>?_,λk k' hk hk' hne hw1 hw2=>h.apart k k' hk hk' hne (hhas k hw1) (hhas k' hw2),λb hb=>by show b<w'.heap.size;rw[h4];exact h.im b hb⟩;rw[hat];by_cases hkg:k=g
 ·subst hkg
  rw[Ae rfl];exact⟨hr.ver,hr.wid.trans hw,λh0=>absurd h0 (Cj _),λh0=>absurd h0 (Cj _),λh0=>absurd h0 (Cj _),λ_ _=>⟨⟨es,clock,hb,AB.mono e _ hv⟩,hni⟩⟩
 ·rw[Ab hkg]
  have hrk:=h.grp k hk;exact hrk.mono' e (by rw[h.n];exact hk) rfl (λhq=>h5 _ (h.apart k g hk hg hkg hq (.inr ⟨hw,he⟩))) (λhq=>hrk.has_ni hq)
theorem zfw(hS:SRel S H)(t:TypeId)(h:AF P .mkMap H [] K):OpOk P S ((do pure (Next.value (<-Instr.makeMap t none)):Sem Next).run P S.w) K:=by
 simp only[AF] at h;refine Fa (S':=S.grow (.map #[] 0) 1 0 0) (v:=.map (some S.w.heap.size)) ?_ (Evo.grow hS.im _ _ _ _) hS.growM ?_ h
 ·simp[Instr.makeMap];rfl
 ·refine⟨⟨_,rfl⟩,?_,?_,λ_=>?_⟩
  ·show H.n<S.n+1;rw[hS.n];omega
  ·show 1<=fput _ _ _ _;rw[<-hS.n,AL];exact Ad _
  ·show _=Value.map (some (fput _ _ _ _));rw[<-hS.n,AL]
def fE(e:MapEntry):List Value:=[e.key,e.val]
theorem z1m(e:MapEntry):fE e=[e.key,e.val]:=rfl
theorem Xo(es:Array MapEntry):z8o es=es.toList.flatMap fE:=rfl
def KeyI(v:Value):Prop:=∃m,v=.int .i64 m
theorem Tm{d:TypeDesc}(hd:d=.int .i64)(n:Int):MapKept.IsKey d (.int .i64 n):=by subst hd;simp[MapKept.IsKey]
theorem Tn(n:Int){z:AV}:∀{xs:List AV}{es:List MapEntry}{y:AV}(i:Nat),AB S xs (es.flatMap fE)->IF z n xs=some y ->
 ((∀e∈es,KeyI e.key)\/True)->(Instr.findNow (.int .i64) (.int .i64 n) es i=some none/\y=z)\/∃(j:Nat) (e:MapEntry),Instr.findNow (.int .i64) (.int .i64 n) es i=some (some (j,e.val))/\VRel S y e.val
 |xs,[],y,i,hx,hf,_=>by
  have:xs=[]:=by
   have:=hx.length;simp only[List.flatMap_nil,List.length_nil] at this;exact Ay this.symm
  subst this;simp only[IF,Aq] at hf;exact .inl ⟨rfl,hf.symm⟩
 |xs,e::es,y,i,hx,hf,hk=>by
  simp only[CN,z1m,List.cons_append,List.nil_append] at hx
  match xs,hx,hf with
  |[],hx,_=>exact absurd hx.length (by simp)
  |[_],hx,_=>exact absurd hx.length (by simp)
  |x::u::r,hx,hf =>
   obtain⟨hx1,hx2⟩:=hx.cons_inv;obtain⟨hu,hr⟩:=hx2.cons_inv;cases x<;>try simp only[IF,reduceCtorEq] at hf
   rename_i k m;cases k<;>try simp only[IF,reduceCtorEq] at hf
   have hkey:e.key=.int .i64 m:=hx1;by_cases hmn:m=n
   ·rw[Ae hmn] at hf
    cases hf;exact .inr ⟨i,e,by simp[Instr.findNow,Instr.sameNow,hkey,hmn],hu⟩
   ·rw[Ab hmn] at hf
    have hnm:(n == m)=false:=by simp;omega
    have:=Tn n (i+1) hr hf (.inr trivial);simp only[Instr.findNow,Instr.sameNow,hkey,Bi,hnm];exact this
theorem z90(hS:SRel S H)(t:TypeId){k e:TypeId}{i:TypeInfo}{zv:Value}{z:AV}(ht:P.underlying t=some (.map k e))(hk:P.underlying k=some (.int .i64))(hi:P.info? e=some i)(hz:i.zero=some zv)(hzx:avOf zv=some z)
 {u v:Value} {xs:List AV} (hx:AB S xs [u,v]) (h:AF P (.mapGet z) H xs K):OpOk P S ((do pure (Next.value (<-Instr.lookup t u v false)):Sem Next).run P S.w) K:=by
 obtain⟨a,b,rfl,ha,hb⟩:=hx.len2;cases a<;>cases b<;>simp only[AF] at h<;>try exact h.elim
 rename_i g vn kk n;obtain⟨rfl,h1,h2,h3,hq⟩:=h;obtain⟨y,hf,hK⟩:=Cn hq;obtain rfl:v=.int .i64 n:=hb;obtain⟨_,hg,_,hc⟩:=ha;have hG:=hS.live_of hg;obtain rfl:u=_:=hc (by rw[hG.ver,h1]);obtain⟨⟨es,clock,hb,hv⟩,_⟩:=hG.mlive h2 h3;have hck:∀(em:Bool),(Instr.checkKey em 10000 k (.int .i64 n)).run P S.w=.ok () S.w:=λem=>MapKept.run_checkKey hk (Tm rfl n) em 9999;have hzr:(zeroValue e).run P S.w=.ok zv S.w:=by simp[zeroValue,typeInfo,hi,hz]
 rcases Tn n 0 hv hf (.inr trivial) with⟨hfn,rfl⟩|⟨j,en,hfn,hy⟩
 ·have hfk:=MapKept.run_findKey (P:=P) (w:=S.w) hk hfn
  refine Bw (v:=zv) ?_ hS (G9 hzx) hK;simp[Instr.lookup,run_underlying ht,MapKept.run_getObj_map hb,hck,hfk,hzr]
 ·have hfk:=MapKept.run_findKey (P:=P) (w:=S.w) hk hfn
  refine Bw (v:=en.val) ?_ hS hy hK;simp[Instr.lookup,run_underlying ht,MapKept.run_getObj_map hb,hck,hfk]
theorem Xp(n:Int){x:AV}{u:Value}(hxu:VRel S x u)(clock:Nat):∀{xs:List AV}{es:List MapEntry}{ys:List AV}(i:Nat),AB S xs (es.flatMap fE)->setM n x xs=some ys ->
 (Instr.findNow (.int .i64) (.int .i64 n) es i=some none/\∀b,AB S ys ((es++[({ key:=.int .i64 n,val:=u,born:=b }:MapEntry)]).flatMap fE)) \/
 ∃(j:Nat) (e:MapEntry),Instr.findNow (.int .i64) (.int .i64 n) es i=some (some (i+j,e.val))/\es[j]? = some e/\e.key=.int .i64 n/\AB S ys ((es.modify j λ(e:MapEntry)=>{ e with key:=.int .i64 n,val:=u }).flatMap fE)
 |xs,[],ys,i,hx,hf=>by
  have:xs=[]:=by
   have:=hx.length;simp only[List.flatMap_nil,List.length_nil] at this;exact Ay this.symm
  subst this;simp only[setM,Aq] at hf;subst hf;exact .inl ⟨rfl,λb=>⟨_,_,rfl,rfl,_,_,rfl,hxu,rfl⟩⟩
 |xs,e::es,ys,i,hx,hf=>by
  simp only[CN,z1m,List.cons_append,List.nil_append] at hx
  match xs,hx,hf with
  |[],hx,_=>exact absurd hx.length (by simp)
  |[_],hx,_=>exact absurd hx.length (by simp)
  |a::o::r,hx,hf =>
   obtain⟨hx1,hx2⟩:=hx.cons_inv;obtain⟨hu,hr⟩:=hx2.cons_inv;cases a<;>try simp only[setM,reduceCtorEq] at hf
   rename_i k m;cases k<;>try simp only[setM,reduceCtorEq] at hf
   have hkey:e.key=.int .i64 m:=hx1;by_cases hmn:m=n
   ·rw[Ae hmn] at hf
    cases hf;subst hmn;refine .inr ⟨0,e,by simp[Instr.findNow,Instr.sameNow,hkey],rfl,hkey,?_⟩;simp only[List.modify_zero_cons,CN,z1m,List.cons_append,List.nil_append];exact⟨_,_,rfl,rfl,_,_,rfl,hxu,hr⟩
   ·rw[Ab hmn] at hf
    obtain⟨r',hr',rfl⟩:=Ag.1 hf;have hnm:(n == m)=false:=by simp;omega
    rcases Xp n hxu clock (i+1) hr hr' with⟨h1,h2⟩|⟨j,e',h1,h2,h3,h4⟩
    ·refine .inl ⟨by simp only[Instr.findNow,Instr.sameNow,hkey,Bi,hnm];exact h1,λb=>?_⟩
     simp only[List.cons_append,CN,z1m,List.nil_append];exact⟨_,_,rfl,hx1,_,_,rfl,hu,h2 b⟩
    ·refine .inr ⟨j+1,e',by simp only[Instr.findNow,Instr.sameNow,hkey,Bi,hnm];rw[h1];congr 3;omega,by simpa using h2,h3,?_⟩
     simp only[List.modify_succ_cons,CN,z1m,List.cons_append,List.nil_append];exact⟨_,_,rfl,hx1,_,_,rfl,hu,h4⟩
theorem z91(hS:SRel S H)(t:TypeId){k e:TypeId}(ht:P.underlying t=some (.map k e))(hk:P.underlying k=some (.int .i64))
 {m u v:Value} {xs:List AV} (hx:AB S xs [m,u,v]) (h:AF P .mapSet H xs K):OpOk P S ((do Instr.mapUpdate t m u v;pure Next.skip:Sem Next).run P S.w) K:=by
 obtain⟨a,b,c,rfl,ha,hb,hc⟩:=hx.len3;cases a<;>cases b<;>simp only[AF] at h<;>try exact h.elim
 rename_i g vn kk n;obtain⟨rfl,h1,h2,h3,hq⟩:=h;obtain⟨ys,hf,hK⟩:=Cn hq;obtain rfl:u=.int .i64 n:=hb;obtain⟨_,hg,_,hcc⟩:=ha;have hG:=hS.live_of hg;obtain rfl:m=_:=hcc (by rw[hG.ver,h1]);obtain⟨⟨es,clock,hb,hv⟩,_⟩:=hG.mlive h2 h3;have hgn:g<H.n:=by rw[<-hS.n];exact hg
 have hck:∀(em:Bool),(Instr.checkKey em 10000 k (.int .i64 n)).run P S.w=.ok () S.w:=λem=>MapKept.run_checkKey hk (Tm rfl n) em 9999
 have fin:∀(es':Array MapEntry)(clock':Nat),AB S ys (z8o es')->(Instr.mapUpdate t (.map (some (S.place g))) (.int .i64 n) v).run P S.w=.ok () { S.w with heap:=S.w.heap.setIfInBounds (S.place g) (.map es' clock') }->OpOk P S ((do Instr.mapUpdate t (.map (some (S.place g))) (.int .i64 n) v;pure Next.skip:Sem Next).run P S.w) K:=by
  intro es' clock' hv' hr;obtain⟨q1,q2⟩:=MapKept.heap_set (w:=S.w) (o':=.map es' clock') hb;obtain⟨ev,hS'⟩:=hS.setM hgn h2 h3 { S.w with heap:=S.w.heap.setIfInBounds (S.place g) (.map es' clock') } rfl ⟨rfl,Ad _⟩ rfl (by simp) q2 q1 hv';rw[h1] at hS';exact .inl ⟨undef,_,.any,_,.inr ⟨by simp[hr],rfl⟩,ev,hS',trivial,hK⟩
 rcases Xp n hc clock 0 hv hf with⟨hfn,hy⟩|⟨j,en,hfn,hj,hkey,hy⟩
 ·have hfk:=MapKept.run_findKey (P:=P) (w:=S.w) hk hfn
  refine fin (es.push { key:=.int .i64 n,val:=v,born:=clock }) (clock+1) (by have:=hy clock;rw[Xo,Array.toList_push];exact this) ?_;simp[Instr.mapUpdate,run_underlying ht,MapKept.run_getObj_map hb,hck,hfk,MapKept.run_setObj_map _ hb]
 ·have hfk:=MapKept.run_findKey (P:=P) (w:=S.w) hk hfn
  have hjj:es[j]? = some en:=by simpa using hj
  refine fin (es.modify j λe=>{ e with key:=.int .i64 n,val:=v }) clock (by rw[Xo,Array.toList_modify];exact hy) ?_;simp[Instr.mapUpdate,run_underlying ht,MapKept.run_getObj_map hb,hck,hfk,hjj,hkey,Instr.keyThatStays,Instr.sameBits,MapKept.run_setObj_map _ hb]
end
section
variable {P:Program}{S:MS}{H:A5}{ρ:Operand->Value}{K:AV->A5->Prop}
theorem Vv(hS:SRel S H)(o:Oper){k:AK}(hk:ES P o.op=some k){xs:List AV}(hx:AB S xs (o.op.operands.toList.map ρ))(h:AF P k H xs K):OpOk P S ((execOp ρ o).run P S.w) K:=by
 obtain⟨dst,op,type,pos,after,guard⟩:=o;cases op with
 |move x=>cases hk;exact s_mv hS (by simpa [Op.operands] using hx) h
 |assign x=>cases hk;exact s_mv hS (by simpa [Op.operands] using hx) h
 |pick c a b=>cases hk;exact zkh hS (by simpa [Op.operands] using hx) h
 |alloc t =>
  simp only[ES] at hk;split at hk
  ·rename_i i hi
   split at hk
   ·rename_i z hz
    split at hk
    ·rename_i x hzx
     split at hk
     ·rename_i hc
      cases hk;simp only[Ac,Ah,B7] at hc;have:xs=[]:=by have:=hx.length;simpa [Op.operands] using this.symm
      subst this;exact zft hS t hi hz hzx hc.1 hc.2 h
     ·cases hk
    ·cases hk
   ·cases hk
  ·cases hk
 |box t x=>cases hk;exact s_box hS t (by simpa [Op.operands] using hx) h
 |build t ps =>
  have hx':AB S xs (ps.toList.map λp=>ρ p.2):=by simpa [Op.operands,CH,Function.comp_def] using hx
  simp only[ES] at hk;split at hk
  ·rename_i fs i ht hi
   split at hk
   ·rename_i z hz
    split at hk
    ·rename_i x hzx
     split at hk
     ·rename_i pl hpl
      split at hk
      ·rename_i hc
       cases hk;simp only[Ac] at hc;have hag:∃cs,z=.agg cs:=by cases z<;>simp[Xf] at hc<;>exact⟨_,rfl⟩
       exact zfu hS t ht hi hz hzx hpl hag ps.toList hx' h
      ·cases hk
     ·cases hk
    ·cases hk
   ·cases hk
  ·rename_i n e i ht hi
   split at hk
   ·rename_i z hz
    split at hk
    ·rename_i x hzx
     split at hk
     ·rename_i j hj
      split at hk
      ·rename_i hc
       cases hk;simp only[Ac] at hc;have hag:∃cs,z=.agg cs:=by cases z<;>simp[Xf] at hc<;>exact⟨_,rfl⟩
       exact z8x hS t ht hi hz hzx hj hag ps.toList hx' h
      ·cases hk
     ·cases hk
    ·cases hk
   ·cases hk
  ·cases hk
 |buildSlice t len ps =>
  have hx':AB S xs (ps.toList.map λp=>ρ p.2):=by simpa [Op.operands,CH,Function.comp_def] using hx
  simp only[ES] at hk;split at hk
  ·rename_i e ht
   split at hk
   ·rename_i i hi
    split at hk
    ·rename_i z hz
     split at hk
     ·rename_i x hzx
      split at hk
      ·rename_i hc
       cases hk;simp only[Ac,Ah,BK,B7] at hc;exact z8y hS t len ht hi hz hzx hc.1.1.1 hc.1.1.2 hc.1.2 hc.2 ps.toList hx' h
      ·cases hk
     ·cases hk
    ·cases hk
   ·cases hk
  ·cases hk
 |load t a =>
  obtain⟨⟨a,s⟩,hs,rfl⟩:=Ag.1 hk;exact zkk hS t hs (by simpa [Op.operands] using hx) h
 |store t a v =>
  obtain⟨⟨a,s⟩,hs,rfl⟩:=Ag.1 hk;exact zfv hS t hs (by simpa [Op.operands] using hx) h
 |nilCheck x=>cases hk;exact Zh hS (v:=ρ x) (by simpa [Op.operands] using hx) h x _ rfl rfl
 |binOp op t x y yt =>
  have hx':AB S xs [ρ x,ρ y]:=by simpa [Op.operands] using hx
  simp only[ES] at hk;split at hk
  ·rename_i hc
   have hop:op=if (op == .neq) then .neq else .eql:=by
    cases op<;>simp at hc<;>rfl
   split at hk
   ·rename_i ht
    cases hk;have:=s_eqb hS (op == .neq) t ht x y hx' h;rw[<-hop] at this;exact this
   ·cases hk;exact zfl hS op t x y hx' h
   ·cases hk;exact zfl hS op t x y hx' h
   ·rename_i fs ht
    split at hk
    ·rename_i hc2
     obtain⟨ks,hks,rfl⟩:=Ag.1 hk;simp only[Ac,AA] at hc2;have:=s_eqs hS (op == .neq) ks t ht hks hc2.1 hc2.2 x y hx' h;rw[<-hop] at this;exact this
    ·cases hk
   ·rename_i e ht
    cases hk;have:=s_eqn hS (op == .neq) t ht x y hx' h;rw[<-hop] at this;exact this
   ·cases hk
  ·cases hk;exact zfl hS op t x y hx' h
 |unOp op t x=>cases hk;exact s_un hS op (by simpa [Op.operands] using hx) h
 |convert src dst' x =>
  have hx':AB S xs [ρ x]:=by simpa [Op.operands] using hx
  simp only[ES] at hk;split at hk
  ·rename_i hs hd;cases hk;exact zki hS src dst' hs hd hx' h
  ·rename_i e hs hd
   split at hk
   ·rename_i he;cases hk;exact zfs hS src dst' e hs hd he hx' h
   ·rename_i he;cases hk;exact z8w hS src dst' e hs hd he hx' h
   ·cases hk
  ·cases hk
 |slice t x lo hi mx =>
  simp only[ES] at hk;split at hk
  ·rename_i e ht
   split at hk
   ·rename_i i hi'
    split at hk
    ·rename_i h0
     cases hk;have hlen:∀(o:Option Operand),(o.map ρ).isSome=o.isSome:=λo=>by cases o<;>rfl
     have hx':AB S xs (ρ x::((lo.map ρ).toList++((hi.map ρ).toList++((mx.map ρ).toList++[])))):=by
      cases lo<;>cases hi<;>cases mx<;>simpa [Op.operands] using hx
     refine zfr hS ht hi' h0 hx' ?_;rw[hlen,hlen,hlen];exact h
    ·cases hk
   ·cases hk
  ·cases hk
 |fieldAddr t x f =>
  simp only[ES] at hk;split at hk
  ·rename_i fs ht
   split at hk
   ·rename_i fl hf
    obtain⟨⟨a,s⟩,hs,rfl⟩:=Ag.1 hk;exact zfn hS t f ht hf hs (by simpa [Op.operands] using hx) h
   ·cases hk
  ·cases hk
 |field t x f =>
  simp only[ES] at hk;split at hk
  ·rename_i fs ht
   split at hk
   ·rename_i fl hf
    obtain⟨⟨a,s⟩,hs,rfl⟩:=Ag.1 hk;exact zfo hS t f ht hf hs (by simpa [Op.operands] using hx) h
   ·cases hk
  ·cases hk
 |indexAddr t x ix =>
  have hx':AB S xs [ρ x,ρ ix]:=by simpa [Op.operands] using hx
  simp only[ES] at hk;split at hk
  ·rename_i e ht
   split at hk
   ·rename_i i hi
    split at hk
    ·rename_i h0;cases hk;exact zfq hS t e ht hi h0 hx' h
    ·cases hk
   ·cases hk
  ·rename_i n e ht
   split at hk
   ·cases hk
   ·rename_i hn
    obtain⟨⟨a,s⟩,hs,rfl⟩:=Ag.1 hk;exact z8t hS t e ht hs hn hx' h
  ·cases hk
 |index t x ix =>
  have hx':AB S xs [ρ x,ρ ix]:=by simpa [Op.operands] using hx
  simp only[ES] at hk;split at hk
  ·rename_i n e ht
   obtain⟨⟨a,s⟩,hs,rfl⟩:=Ag.1 hk;exact zfp hS t e ht hs hx' h
  ·rename_i ht;cases hk;exact Zi hS t ht hx' h
  ·cases hk
 |extract x i=>cases hk;exact z1j hS i (by simpa [Op.operands] using hx) h
 |makeSlice t l c =>
  simp only[ES] at hk;split at hk
  ·rename_i e ht
   split at hk
   ·rename_i i hi
    split at hk
    ·rename_i z hz
     split at hk
     ·rename_i x hzx
      split at hk
      ·rename_i hc
       cases hk;simp only[Ac,Ah,BK,B7] at hc;exact z1k hS t ht hi hz hzx hc.1.1.1 hc.1.1.2 hc.1.2 hc.2 (by simpa [Op.operands] using hx) h
      ·cases hk
     ·cases hk
    ·cases hk
   ·cases hk
  ·cases hk
 |makeFunc fn first captured =>
  simp only[ES] at hk;split at hk
  ·rename_i f
   split at hk
   ·rename_i hf
    cases hk;have hf':first=#[]:=by simpa using hf
    subst hf';have hx':AB S xs (captured.toList.map ρ):=by simpa [Op.operands] using hx
    have:=z8u (P:=P) hS f hx' h;have e:(captured.toList.map ρ).toArray=captured.map ρ:=by apply E7;simp
    rw[e] at this;have e0:(#[]:Array Operand).map ρ=#[]:=by simp
    show OpOk P S ((do pure (Next.value (<-Instr.makeFunc (.func f) ((#[]:Array Operand).map ρ) (captured.map ρ))):Sem Next).run P S.w) K;rw[e0];exact this
   ·cases hk
  ·cases hk
 |makeMap t r =>
  cases r with
  |some r=>cases hk
  |none =>
   cases hk;have:xs=[]:=by have:=hx.length;simpa [Op.operands] using this.symm
   subst this;exact zfw hS t h
 |lookup t x ix ok =>
  have hx':AB S xs [ρ x,ρ ix]:=by simpa [Op.operands] using hx
  cases ok with
  |true=>cases hk
  |false =>
   simp only[ES] at hk;split at hk
   ·rename_i k e ht
    split at hk
    ·rename_i i hkk hi
     split at hk
     ·rename_i z hz
      obtain⟨zx,hzx,rfl⟩:=Ag.1 hk;exact z90 hS t ht hkk hi hz hzx hx' h
     ·cases hk
    ·cases hk
   ·cases hk
 |mapUpdate t m k v =>
  have hx':AB S xs [ρ m,ρ k,ρ v]:=by simpa [Op.operands] using hx
  simp only[ES] at hk;split at hk
  ·rename_i kt e ht
   split at hk
   ·rename_i hkk
    cases hk;exact z91 hS t ht hkk hx' h
   ·cases hk
  ·cases hk
 |call c =>
  obtain⟨callee,args,argTypes⟩:=c;simp only[ES] at hk;cases callee with
  |value f =>
   cases hk;have hx':AB S xs (ρ f::args.toList.map ρ):=by simpa [Op.operands,Call.operands] using hx
   have:=zkl (P:=P) hS hx' h;have e:(args.toList.map ρ).toArray=args.map ρ:=by apply E7;simp
   rw[e] at this;exact this
  |invoke r m=>cases hk
  |builtin b =>
   have hx':AB S xs (args.toList.map ρ):=by simpa [Op.operands,Call.operands] using hx
   have go1:∀{v:Value},args.toList.map ρ=[v]->OpOk P S ((builtin b argTypes type (args.map fun|.const _=>true|_=>false) #[v]).run P S.w) K->OpOk P S ((execOp ρ { dst,op:=.call { callee:=.builtin b,args,argTypes },type,pos,after,guard }).run P S.w) K:=by
    intro v hv hh;have e:args.map ρ=#[v]:=by apply E7;simpa using hv
    rw[<-e] at hh;exact hh
   have go2:∀{u v:Value},args.toList.map ρ=[u,v]->OpOk P S ((builtin b argTypes type (args.map fun|.const _=>true|_=>false) #[u,v]).run P S.w) K->OpOk P S ((execOp ρ { dst,op:=.call { callee:=.builtin b,args,argTypes },type,pos,after,guard }).run P S.w) K:=by
    intro u v hv hh;have e:args.map ρ=#[u,v]:=by apply E7;simpa using hv
    rw[<-e] at hh;exact hh
   have sh1:xs.length=1->∃v,args.toList.map ρ=[v]:=λhl=>List.length_eq_one_iff.1 (by rw[hx'.length,hl])
   have sh2:xs.length=2->∃u v,args.toList.map ρ=[u,v]:=λhl=>by
    have hl':=hx'.length;rw[hl] at hl'
    match args.toList.map ρ,hl' with
    |[u,v],_=>exact⟨u,v,rfl⟩
   cases b<;>try (simp only[EZ,reduceCtorEq] at hk;done)
   ·-- append
    simp only[EZ] at hk;split at hk
    ·rename_i t u h0 h1
     have fin:∀{e:TypeId}{i:TypeInfo}{z:Value}{x:AV},P.underlying t=some (.slice e)->((∃e',P.underlying u=some (.slice e'))\/P.underlying u=some .string)->P.info? e=some i->i.zero=some z->avOf z=some x ->
      (0<i.size&&0<i.bytes&&z.cells.size == i.size)=true->k=.app i.size i.bytes x->argTypes=#[t,u]->OpOk P S ((execOp ρ { dst,op:=.call { callee:=.builtin .append,args,argTypes },type,pos,after,guard }).run P S.w) K:=by
      intro e i z x ht hu hi hz _ hc hkk hat;subst hkk;simp only[Ac,Ah,BK] at hc
      have hl:xs.length=2:=by
       match xs,h with
       |[_,_],_=>rfl
       |[],h=>simp[AF] at h
       |[_],h=>simp[AF] at h
       |_::_::_::_,h=>simp[AF] at h
      obtain⟨a,b,hab⟩:=sh2 hl;rw[hab] at hx';refine go2 hab ?_;rw[hat];exact s_app hS ht hu hi hz hc.2 hc.1.1 hc.1.2 _ hx' h
     split at hk
     ·rename_i hat
      split at hk
      ·rename_i e e' ht hu
       split at hk
       ·rename_i i hi
        split at hk
        ·rename_i z hz
         split at hk
         ·rename_i x hzx
          split at hk
          ·rename_i hc
           exact fin ht (.inl ⟨_,hu⟩) hi hz hzx hc (by cases hk;rfl) (by simpa using hat)
          ·cases hk
         ·cases hk
        ·cases hk
       ·cases hk
      ·rename_i e ht hu
       split at hk
       ·rename_i i hi
        split at hk
        ·rename_i z hz
         split at hk
         ·rename_i x hzx
          split at hk
          ·rename_i hc
           exact fin ht (.inr hu) hi hz hzx hc (by cases hk;rfl) (by simpa using hat)
          ·cases hk
         ·cases hk
        ·cases hk
       ·cases hk
      ·rename_i e ik ht hu
       split at hk
       ·rename_i i hi
        split at hk
        ·rename_i z hz
         split at hk
         ·rename_i x hzx
          split at hk
          ·rename_i hc
           cases hk;simp only[Ac,Ah,BK,B7] at hc
           have hl:xs.length=2:=by
            match xs,h with
            |[_,_],_=>rfl
            |[],h=>simp[AF] at h
            |[_],h=>simp[AF] at h
            |_::_::_::_,h=>simp[AF] at h
           obtain⟨a,b,hab⟩:=sh2 hl;rw[hab] at hx';refine go2 hab ?_;rw[show argTypes=#[t,u] by simpa using hat];obtain⟨y1,y2,rfl,hy1,hy2⟩:=hx'.len2;cases y1<;>cases y2<;>simp only[AF] at h<;>try exact h.elim
           obtain rfl:a=.slice none 0 0:=hy1;obtain rfl:b=.int _ _:=hy2;exact zkm hS ht hu hi hz hzx hc.1.2 hc.2 hc.1.1.1 hc.1.1.2 h.1 h.2.1 _ h.2.2
          ·cases hk
         ·cases hk
        ·cases hk
       ·cases hk
      ·cases hk
     ·cases hk
    ·cases hk
   ·simp only[EZ] at hk
    split at hk
    ·rename_i t h0
     split at hk
     ·rename_i e ht
      cases hk
      have hl:xs.length=1:=by
       match xs,h with
       |[_],_=>rfl
       |[],h=>simp[AF] at h
       |_::_::_,h=>simp[AF] at h
      obtain⟨v,hv⟩:=sh1 hl;rw[hv] at hx';exact go1 hv (s_cap hS t type _ argTypes h0 ht hx' h)
     ·cases hk
    ·cases hk
   ·simp only[EZ] at hk
    split at hk
    ·rename_i t h0
     split at hk
     ·rename_i e ht
      split at hk
      ·rename_i i hi
       split at hk
       ·rename_i z hz
        split at hk
        ·rename_i x hzx
         split at hk
         ·rename_i hc
          cases hk;simp only[Ac,Ah,BK,B7] at hc
          have hl:xs.length=1:=by
           match xs,h with
           |[_],_=>rfl
           |[],h=>simp[AF] at h
           |_::_::_,h=>simp[AF] at h
          obtain⟨v,hv⟩:=sh1 hl;rw[hv] at hx';exact go1 hv (s_clr hS argTypes type h0 ht hi hz hzx hc.1.2 hc.2 hc.1.1 _ hx' h)
         ·cases hk
        ·cases hk
       ·cases hk
      ·cases hk
     ·cases hk
    ·cases hk
   ·simp only[EZ] at hk
    split at hk
    ·rename_i t h0
     split at hk
     ·rename_i e ht
      cases hk
      have hl:xs.length=1:=by
       match xs,h with
       |[_],_=>rfl
       |[],h=>simp[AF] at h
       |_::_::_,h=>simp[AF] at h
      obtain⟨v,hv⟩:=sh1 hl;rw[hv] at hx';exact go1 hv (s_len hS t type _ argTypes h0 ht hx' h)
     ·rename_i ht
      cases hk
      have hl:xs.length=1:=by
       match xs,h with
       |[_],_=>rfl
       |[],h=>simp[AF] at h
       |_::_::_,h=>simp[AF] at h
      obtain⟨v,hv⟩:=sh1 hl;rw[hv] at hx';exact go1 hv (zkj hS t type _ argTypes h0 ht hx' h)
     ·cases hk
    ·cases hk
   ·cases hk
    have hl:xs.length=2:=by
     match xs,h with
     |[_,_],_=>rfl
     |[],h=>simp[AF] at h
     |[_],h=>simp[AF] at h
     |_::_::_::_,h=>simp[AF] at h
    obtain⟨u,v,huv⟩:=sh2 hl;rw[huv] at hx';exact go2 huv (s_max hS argTypes type _ hx' h)
   ·cases hk
    have hl:xs.length=2:=by
     match xs,h with
     |[_,_],_=>rfl
     |[],h=>simp[AF] at h
     |[_],h=>simp[AF] at h
     |_::_::_::_,h=>simp[AF] at h
    obtain⟨u,v,huv⟩:=sh2 hl;rw[huv] at hx';exact go2 huv (s_min hS argTypes type _ hx' h)
 |_=>cases hk
theorem PW(hS:SRel S H)(o:Oper){k:AK}(hk:Cu P o.op=some k){xs:List AV}(hx:AB S xs (o.op.operands.toList.map ρ))(h:AF P k H xs K):OpOk P S ((execOp ρ o).run P S.w) K:=by
 by_cases hn:k=.no
 ·subst hn;exact absurd h (by simp[AF])
 ·exact Vv hS o (Ik hk hn) hx h
end
end Go.Proofs.YtflibbceibjddaaGreat.Abs
