/-
  Any right node's description relates any input to what the node does, and nothing else; for all nodes and every input, without conditions.
-/
import Derived.Test.YtflibbceibjddaaGreatRows
import Derived.WalkKit
import Derived.ProofKit
import Derived.OpenShut
import Derived.ChangeOld
import Derived.Test.YtflibbceibjddaaGreatNF9
set_option linter.unusedSimpArgs false
set_option linter.unusedVariables false
namespace Go.Proofs.YtflibbceibjddaaGreat.nodeRelates
open Abs O1 O2 O3 Go.ChangeShapes Go.WideShapes Go.ChangeAt Go.RowKit
theorem own:ownKnob Tryz.prog.godebug=none:=by kernel_rfl
theorem laidOut:laidOutB Tryz.prog=true:=by kernel_rfl
abbrev z8n:List PShT:=[.tree zey,.p (.cell Sk)]
theorem data:∀ xs,zbc z8n xs→PC Tryz.prog 3 xs (.bool true):=by
 intro xs h;obtain⟨x0,_,rfl,h0,x1,_,rfl,h1,rfl⟩:=h;obtain⟨cs0,rfl,h0⟩:=h0;obtain⟨a0,l0,k0⟩:=zns h0;obtain⟨a1,l1,m1,k1⟩:=z4v h1;exact Iq (PE a0 a1 k0 (Nat.le_trans m1 (by decide)) (fun x hx=>wf_i32 (k1 x hx))) (AW l0 (AW l1 D2))
set_option maxRecDepth 100000 in
theorem lifted (os:Os) (started:os.Started) (H:Type) (enc:TypeId × Value→H) :
   ReturnsInHanded {} Tryz.checked os 3 .any (Rows.nodeRelatesSpec.pre6 enc Tryz.prog Tryz.f3 Rows.nodeRelatesRow.domain false) (Rows.nodeRelatesSpec.post enc Tryz.prog Tryz.f3 false true false false):=by
 refine returnsInHanded_of_change (C:=Tryz.checked) own started (by kernel_rfl) Tryz.func3
   (ChangeSpec.witness6 (enc:=enc) (C:=Tryz.checked) false ⟨#[],#[.agg #[.int .i64 0,.slice none 0 0,.int .i64 0,.slice none 0 0,.slice none 0 0,.slice none 0 0],.slice none 0 0],[]⟩ 8 (by kernel_rfl) (by kernel_rfl) (by kernel_rfl) (by kernel_rfl)) ?_
 intro W base args ds gs before hval0 hW hcnd _;have hW':=hW;obtain⟨p,q,hA0,hV,rfl,hfz,hnd⟩:=hW;have hA:DataW.TrodAll enc Tryz.prog W 0 (fun _=>true) true Tryz.f3.params.toList args.toList ds p:=hA0;have hcall:=ZX (P:=Tryz.prog) (ps:=z8n) (ts:=Tryz.f3.params.toList) (by kernel_rfl) data (fun j t v ht hv=>hval0 j t v (by simpa using ht) (by simpa using hv)) hA;have hlt:=DataW.TrodAll.lt hA;have hstay:∀ W',Below W.heap.size W W'→DataW.TrodAll enc Tryz.prog W' 0 (fun b=>decide (b<W.heap.size)) true Tryz.f3.params.toList args.toList ds p:=fun W' hb=>TF laidOut hb (by kernel_rfl) hlt hA;rw[Tryz.params3] at hA;obtain⟨v0,vs0,d0,ds0,p0,q0,hargs0,hds0,hp0,h0,r0⟩:=trodAll_cons hA;obtain⟨v1,vs1,d1,ds1,p1,q1,hargs1,hds1,hp1,h1,r1⟩:=trodAll_cons r0;obtain⟨e1,e2,e3⟩:=trodAll_nil r1;subst e2;subst hds1;subst hds0;obtain⟨rfl,rfl⟩:=trodVars_none hV;simp only[List.append_nil] at hW';refine hcall.mono fun e W' ⟨he,hg⟩=>?_;subst he;exact⟨_,rfl,_,_,_,[],_,[],hW',trodAll_mk1 (shut_bool Tryz.underlying4 _),hstay W' hg,rfl,hg.frame _,fun h=>by cases h⟩
theorem over:Rows.nodeRelatesRow.holds Tryz.pinned (OpenSpec.ofChange Rows.nodeRelatesSpec) :=
 OpenClaim.holds_of_wide 3 Tryz.f3 rfl rfl rfl rfl rfl rfl rfl ⟨rfl,rfl,rfl,rfl,rfl⟩ rfl rfl rfl rfl rfl (by kernel_rfl) Tryz.func3 (by kernel_rfl)
   (of_decide_eq_true (by kernel_rfl)) (by unfold Func.isWrapper;first|(rw[if_pos (by decide +kernel)];kernel_rfl)|(rw[if_neg (by decide +kernel)];exact⟨rfl,rfl⟩))
   (fun os started H enc _=>lifted os started H enc)
theorem proved:Rows.NodeRelatesSaid :=
 over
#print axioms proved
end Go.Proofs.YtflibbceibjddaaGreat.nodeRelates
