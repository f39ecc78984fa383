/-
  Of any description it is told whether it reads one symbol at a time; for every description, without conditions.
-/
import Derived.Test.YtflibbceibjddaaGreatRows
import Derived.WalkKit
import Derived.ProofKit
import Derived.OpenShut
import Derived.ChangeOld
import Derived.Test.YtflibbceibjddaaGreatCA8
set_option linter.unusedSimpArgs false
set_option linter.unusedVariables false
namespace Go.Proofs.YtflibbceibjddaaGreat.chainOnes
open Abs O1 O2 O3 Go.ChangeShapes Go.WideShapes Go.ChangeAt Go.RowKit
theorem own:ownKnob Tryz.prog.godebug=none:=by kernel_rfl
theorem laidOut:laidOutB Tryz.prog=true:=by kernel_rfl
abbrev zl8:List PSh:=[.rcd z9u]
theorem data:∀ xs,IsPs zl8 xs→PC Tryz.prog 9 xs (.bool true):=by
 intro xs h;obtain⟨x0,_,rfl,h0,rfl⟩:=h;obtain⟨a0,l0,k0⟩:=zos h0;exact XV (UP a0 (Nat.le_trans k0.2.1.1 (by decide)) (Nat.le_trans k0.2.2.1 (by decide))) (BY l0 Hy)
set_option maxRecDepth 100000 in
theorem lifted (os:Os) (started:os.Started) (H:Type) (enc:TypeId × Value→H) :
   ReturnsInHanded {} Tryz.checked os 9 .any (Rows.chainOnesSpec.pre6 enc Tryz.prog Tryz.f9 Rows.chainOnesRow.domain false) (Rows.chainOnesSpec.post enc Tryz.prog Tryz.f9 false true false false):=by
 refine returnsInHanded_of_change (C:=Tryz.checked) own started (by kernel_rfl) Tryz.func9
   (ChangeSpec.witness6 (enc:=enc) (C:=Tryz.checked) false ⟨#[],#[.agg #[.int .i64 0,.int .i64 0,.int .i64 0,.int .i64 0,.slice none 0 0,.slice none 0 0]],[]⟩ 8 (by kernel_rfl) (by kernel_rfl) (by kernel_rfl) (by kernel_rfl)) ?_
 intro W base args ds gs before hval0 hW hcnd _;have hW':=hW;obtain⟨p,q,hA0,hV,rfl,hfz,hnd⟩:=hW;have hA:DataW.TrodAll enc Tryz.prog W 0 (fun _=>true) true Tryz.f9.params.toList args.toList ds p:=hA0;have hcall:=z9c (P:=Tryz.prog) (ps:=zl8) (ts:=Tryz.f9.params.toList) (by kernel_rfl) data (fun j t v ht hv=>hval0 j t v (by simpa using ht) (by simpa using hv)) hA;have hlt:=DataW.TrodAll.lt hA;have hstay:∀ W',Below W.heap.size W W'→DataW.TrodAll enc Tryz.prog W' 0 (fun b=>decide (b<W.heap.size)) true Tryz.f9.params.toList args.toList ds p:=fun W' hb=>Vz laidOut hb (by kernel_rfl) hlt hA;rw[Tryz.params9] at hA;obtain⟨v0,vs0,d0,ds0,p0,q0,hargs0,hds0,hp0,h0,r0⟩:=trodAll_cons hA;obtain⟨e1,e2,e3⟩:=trodAll_nil r0;subst e2;subst hds0;obtain⟨rfl,rfl⟩:=trodVars_none hV;simp only[List.append_nil] at hW';refine hcall.mono fun e W' ⟨he,hg⟩=>?_;subst he;exact⟨_,rfl,_,_,_,[],_,[],hW',trodAll_mk1 (shut_bool Tryz.underlying4 _),hstay W' hg,rfl,hg.frame _,fun h=>by cases h⟩
theorem c1:(Rows.chainOnesRow.inPlace == Tryz.pinned.checked.prog.inPlace 9)=true:=by kernel_rfl
theorem c2:(Rows.chainOnesRow.unfollowed == Tryz.pinned.checked.prog.unfollowed 9)=true:=by kernel_rfl
theorem c3:(Rows.chainOnesRow.recurses == Tryz.pinned.checked.prog.recurses 9)=true:=by kernel_rfl
theorem c4:(Rows.chainOnesRow.named == Tryz.pinned.checked.prog.varsNamed 9)=true:=by kernel_rfl
theorem c5:(Rows.chainOnesRow.lifted == Tryz.pinned.checked.prog.liftsFinal)=true:=by kernel_rfl
theorem c6:Tryz.pinned.checked.prog.mayEnter=true:=by kernel_rfl
theorem c7:Tryz.pinned.checked.prog.stopsHeard=true:=by kernel_rfl
theorem closed:joinedFacts Tryz.pinned.checked.prog 9 Tryz.f9 Rows.chainOnesSpec Rows.chainOnesRow=true:=by
 unfold joinedFacts;rw[c1,c2,c3,c4,c5,c6,c7]
 kernel_rfl
theorem over:Rows.chainOnesRow.holds Tryz.pinned (OpenSpec.ofChange Rows.chainOnesSpec) :=
 OpenClaim.holds_of_wide 9 Tryz.f9 rfl rfl rfl rfl rfl rfl rfl ⟨rfl,rfl,rfl,rfl,rfl⟩ rfl rfl rfl rfl rfl (by kernel_rfl) Tryz.func9 closed
   (of_decide_eq_true (by kernel_rfl)) (by unfold Func.isWrapper;first|(rw[if_pos (by decide +kernel)];kernel_rfl)|(rw[if_neg (by decide +kernel)];exact⟨rfl,rfl⟩))
   (fun os started H enc _=>lifted os started H enc)
theorem proved:Rows.ChainOnesSaid :=
 over
#print axioms proved
end Go.Proofs.YtflibbceibjddaaGreat.chainOnes
