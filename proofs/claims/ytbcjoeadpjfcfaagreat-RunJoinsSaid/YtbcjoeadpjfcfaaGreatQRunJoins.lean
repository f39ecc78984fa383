/-
  What two descriptions are joined to relates any input to what one of them does; for all descriptions and every input, without conditions.
-/
import Derived.Test.YtbcjoeadpjfcfaaGreatRows
import Derived.WalkKit
import Derived.ProofKit
import Derived.OpenShut
import Derived.ChangeOld
import Derived.Test.YtbcjoeadpjfcfaaGreatRA9
set_option linter.unusedSimpArgs false
set_option linter.unusedVariables false
namespace Go.Proofs.YtbcjoeadpjfcfaaGreat.runJoins
open Abs Go.ChangeShapes Go.WideShapes Go.ChangeAt Go.RowKit
theorem own:ownKnob Tryz.prog.godebug=none:=by kernel_rfl
theorem laidOut:laidOutB Tryz.prog=true:=by kernel_rfl
abbrev Og:List PSh:=[.rcd V4,.rcd V4,.cell z1v]
theorem data:∀ xs,IsPs Og xs→PC Tryz.prog 9 xs (.bool true):=by
 intro xs h;obtain⟨x0,_,rfl,h0,x1,_,rfl,h1,x2,_,rfl,h2,rfl⟩:=h;obtain⟨a0,l0,k0⟩:=z1z h0;obtain⟨a1,l1,k1⟩:=z1z h1;obtain⟨a2,l2,m2,k2⟩:=z1x h2;exact Ku (z0b a0 a1 a2 (Nat.le_trans m2 (by decide)) (fun x hx=>wf_i32 (k2 x hx))) (An l0 (An l1 (An l2 Dd)))
set_option maxRecDepth 100000 in
theorem lifted (os:Os) (started:os.Started) (H:Type) (enc:TypeId × Value→H) :
   ReturnsInHanded {} Tryz.checked os 9 .any (Rows.runJoinsSpec.pre6 enc Tryz.prog Tryz.f9 Rows.runJoinsRow.domain false) (Rows.runJoinsSpec.post enc Tryz.prog Tryz.f9 false true false false):=by
 refine returnsInHanded_of_change (C:=Tryz.checked) own started (by kernel_rfl) Tryz.func9
   (ChangeSpec.witness6 (enc:=enc) (C:=Tryz.checked) false ⟨#[],#[.agg #[.int .i64 0,.int .i64 0,.int .i64 0,.int .i64 0,.slice none 0 0,.slice none 0 0],.agg #[.int .i64 0,.int .i64 0,.int .i64 0,.int .i64 0,.slice none 0 0,.slice none 0 0],.slice none 0 0],[]⟩ 8 (by kernel_rfl) (by kernel_rfl) (by kernel_rfl) (by kernel_rfl)) ?_
 intro W base args ds gs before hval0 hW hcnd _;have hW':=hW;obtain⟨p,q,hA0,hV,rfl,hfz,hnd⟩:=hW;have hA:DataW.TrodAll enc Tryz.prog W 0 (fun _=>true) true Tryz.f9.params.toList args.toList ds p:=hA0;have hcall:=Pw (P:=Tryz.prog) (ps:=Og) (ts:=Tryz.f9.params.toList) (by kernel_rfl) data (fun j t v ht hv=>hval0 j t v (by simpa using ht) (by simpa using hv)) hA;have hlt:=DataW.TrodAll.lt hA;have hstay:∀ W',Below W.heap.size W W'→DataW.TrodAll enc Tryz.prog W' 0 (fun b=>decide (b<W.heap.size)) true Tryz.f9.params.toList args.toList ds p:=fun W' hb=>Lp laidOut hb (by kernel_rfl) hlt hA;rw[Tryz.params9] at hA;obtain⟨v0,vs0,d0,ds0,p0,q0,hargs0,hds0,hp0,h0,r0⟩:=trodAll_cons hA;obtain⟨v1,vs1,d1,ds1,p1,q1,hargs1,hds1,hp1,h1,r1⟩:=trodAll_cons r0;obtain⟨v2,vs2,d2,ds2,p2,q2,hargs2,hds2,hp2,h2,r2⟩:=trodAll_cons r1;obtain⟨e1,e2,e3⟩:=trodAll_nil r2;subst e2;subst hds2;subst hds1;subst hds0;obtain⟨rfl,rfl⟩:=trodVars_none hV;simp only[List.append_nil] at hW';refine hcall.mono fun e W' ⟨he,hg⟩=>?_;subst he;exact⟨_,rfl,_,_,_,[],_,[],hW',trodAll_mk1 (shut_bool Tryz.underlying4 _),hstay W' hg,rfl,hg.frame _,fun h=>by cases h⟩
theorem over:Rows.runJoinsRow.holds Tryz.pinned (OpenSpec.ofChange Rows.runJoinsSpec) :=
 OpenClaim.holds_of_wide 9 Tryz.f9 rfl rfl rfl rfl rfl rfl rfl ⟨rfl,rfl,rfl,rfl,rfl⟩ rfl rfl rfl rfl rfl (by kernel_rfl) Tryz.func9 (by kernel_rfl)
   (of_decide_eq_true (by kernel_rfl)) (by unfold Func.isWrapper;first|(rw[if_pos (by decide +kernel)];kernel_rfl)|(rw[if_neg (by decide +kernel)];exact⟨rfl,rfl⟩))
   (fun os started H enc _=>lifted os started H enc)
theorem proved:Rows.RunJoinsSaid :=
 over
#print axioms proved
end Go.Proofs.YtbcjoeadpjfcfaaGreat.runJoins
