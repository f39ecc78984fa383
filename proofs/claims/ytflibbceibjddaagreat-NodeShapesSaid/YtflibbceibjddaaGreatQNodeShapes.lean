/-
  Any right node's description is well formed, from scalars to scalars; for every node, without conditions.
-/
import Derived.Test.YtflibbceibjddaaGreatRows
import Derived.WalkKit
import Derived.ProofKit
import Derived.OpenShut
import Derived.ChangeOld
import Derived.Test.YtflibbceibjddaaGreatND8
set_option linter.unusedSimpArgs false
set_option linter.unusedVariables false
namespace Go.Proofs.YtflibbceibjddaaGreat.nodeShapes
open Abs O1 O2 O3 Go.ChangeShapes Go.WideShapes Go.ChangeAt Go.RowKit
theorem own:ownKnob Tryz.prog.godebug=none:=by kernel_rfl
theorem laidOut:laidOutB Tryz.prog=true:=by kernel_rfl
abbrev Qb:List PShT:=[.tree z1m]
theorem data:∀ xs,z1k Qb xs→PC Tryz.prog 4 xs (.bool true):=by
 intro xs h;obtain⟨x0,_,rfl,h0,rfl⟩:=h;obtain⟨cs0,rfl,h0⟩:=h0;obtain⟨a0,l0,k0⟩:=zba h0;exact Iw (OG a0 k0) (Bl l0 Ee)
set_option maxRecDepth 100000 in
theorem lifted (os:Os) (started:os.Started) (H:Type) (enc:TypeId × Value→H) :
   ReturnsInHanded {} Tryz.checked os 4 .any (Rows.nodeShapesSpec.pre6 enc Tryz.prog Tryz.f4 Rows.nodeShapesRow.domain false) (Rows.nodeShapesSpec.post enc Tryz.prog Tryz.f4 false true false false):=by
 refine returnsInHanded_of_change (C:=Tryz.checked) own started (by kernel_rfl) Tryz.func4
   (ChangeSpec.witness6 (enc:=enc) (C:=Tryz.checked) false ⟨#[],#[.agg #[.int .i64 0,.slice none 0 0,.int .i64 0,.slice none 0 0,.slice none 0 0,.slice none 0 0]],[]⟩ 8 (by kernel_rfl) (by kernel_rfl) (by kernel_rfl) (by kernel_rfl)) ?_
 intro W base args ds gs before hval0 hW hcnd _;have hW':=hW;obtain⟨p,q,hA0,hV,rfl,hfz,hnd⟩:=hW;have hA:DataW.TrodAll enc Tryz.prog W 0 (fun _=>true) true Tryz.f4.params.toList args.toList ds p:=hA0;have hcall:=Pw (P:=Tryz.prog) (ps:=Qb) (ts:=Tryz.f4.params.toList) (by kernel_rfl) data (fun j t v ht hv=>hval0 j t v (by simpa using ht) (by simpa using hv)) hA;have hlt:=DataW.TrodAll.lt hA;have hstay:∀ W',Below W.heap.size W W'→DataW.TrodAll enc Tryz.prog W' 0 (fun b=>decide (b<W.heap.size)) true Tryz.f4.params.toList args.toList ds p:=fun W' hb=>Ni laidOut hb (by kernel_rfl) hlt hA;rw[Tryz.params4] at hA;obtain⟨v0,vs0,d0,ds0,p0,q0,hargs0,hds0,hp0,h0,r0⟩:=trodAll_cons hA;obtain⟨e1,e2,e3⟩:=trodAll_nil r0;subst e2;subst hds0;obtain⟨rfl,rfl⟩:=trodVars_none hV;simp only[List.append_nil] at hW';refine hcall.mono fun e W' ⟨he,hg⟩=>?_;subst he;exact⟨_,rfl,_,_,_,[],_,[],hW',trodAll_mk1 (shut_bool Tryz.underlying4 _),hstay W' hg,rfl,hg.frame _,fun h=>by cases h⟩
theorem over:Rows.nodeShapesRow.holds Tryz.pinned (OpenSpec.ofChange Rows.nodeShapesSpec) :=
 OpenClaim.holds_of_wide 4 Tryz.f4 rfl rfl rfl rfl rfl rfl rfl ⟨rfl,rfl,rfl,rfl,rfl⟩ rfl rfl rfl rfl rfl (by kernel_rfl) Tryz.func4 (by kernel_rfl)
   (of_decide_eq_true (by kernel_rfl)) (by unfold Func.isWrapper;first|(rw[if_pos (by decide +kernel)];kernel_rfl)|(rw[if_neg (by decide +kernel)];exact⟨rfl,rfl⟩))
   (fun os started H enc _=>lifted os started H enc)
theorem proved:Rows.NodeShapesSaid :=
 over
#print axioms proved
end Go.Proofs.YtflibbceibjddaaGreat.nodeShapes
