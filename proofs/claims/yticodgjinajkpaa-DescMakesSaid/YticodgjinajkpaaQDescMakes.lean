/-
  What relates nothing, and what relates each input to itself, is as the document says, and well formed where the sorts are sorts; for all numbers, without conditions.
-/
import Derived.Test.YticodgjinajkpaaRows
import Derived.WalkKit
import Derived.ProofKit
import Derived.OpenShut
import Derived.ChangeOld
import Derived.Test.YticodgjinajkpaaDM8
set_option linter.unusedSimpArgs false
set_option linter.unusedVariables false
namespace Go.Proofs.Yticodgjinajkpaa.descMakes
open Abs Go.ChangeShapes Go.WideShapes Go.ChangeAt Go.RowKit
theorem own:ownKnob Try.prog.godebug=none:=by kernel_rfl
theorem laidOut:laidOutB Try.prog=true:=by kernel_rfl
abbrev y2y:List PSh:=[.cell (.int .i64),.cell (.int .i64)]
theorem data:∀ xs,IsPs y2y xs→PC Try.prog 4 xs (.bool true):=by
 intro xs h
 obtain ⟨x0,_,rfl,h0,x1,_,rfl,h1,rfl⟩:=h
 obtain ⟨a0,rfl,k0⟩:=h0
 obtain ⟨a1,rfl,k1⟩:=h1
 exact z75 (zj8 a0 a1) (z1b (AV.le_refl _) (z1b (AV.le_refl _) z6l))
set_option maxRecDepth 100000 in
theorem lifted (os:Os) (started:os.Started) (H:Type) (enc:TypeId × Value→H) :
   ReturnsInHanded {} Try.checked os 4 .any (Rows.descMakesSpec.pre6 enc Try.prog Try.f4 Rows.descMakesRow.domain false) (Rows.descMakesSpec.post enc Try.prog Try.f4 false true false false):=by
 refine returnsInHanded_of_change (C:=Try.checked) own started (by kernel_rfl) Try.func4
   (ChangeSpec.witness6 (enc:=enc) (C:=Try.checked) false ⟨#[],#[.int .i64 0,.int .i64 0],[]⟩ 8 (by kernel_rfl) (by kernel_rfl) (by kernel_rfl) (by kernel_rfl)) ?_
 intro W base args ds gs before hval0 hW hcnd _
 have hW':=hW
 obtain ⟨p,q,hA0,hV,rfl,hfz,hnd⟩:=hW
 have hA:DataW.TrodAll enc Try.prog W 0 (fun _=>true) true Try.f4.params.toList args.toList ds p:=hA0
 have hcall:=zvp (P:=Try.prog) (ps:=y2y) (ts:=Try.f4.params.toList) (by kernel_rfl) data (fun j t v ht hv=>hval0 j t v (by simpa using ht) (by simpa using hv)) hA
 have hlt:=DataW.TrodAll.lt hA
 have hstay:∀ W',Below W.heap.size W W'→DataW.TrodAll enc Try.prog W' 0 (fun b=>decide (b < W.heap.size)) true Try.f4.params.toList args.toList ds p:=fun W' hb=>zk7 laidOut hb (by kernel_rfl) hlt hA
 rw [Try.params4] at hA
 obtain ⟨v0,vs0,d0,ds0,p0,q0,hargs0,hds0,hp0,h0,r0⟩:=trodAll_cons hA
 obtain ⟨v1,vs1,d1,ds1,p1,q1,hargs1,hds1,hp1,h1,r1⟩:=trodAll_cons r0
 obtain ⟨e1,e2,e3⟩:=trodAll_nil r1
 subst e2
 subst hds1
 subst hds0
 obtain ⟨rfl,rfl⟩:=trodVars_none hV
 simp only [List.append_nil] at hW'
 refine hcall.mono fun e W' ⟨he,hg⟩=>?_
 subst he
 exact ⟨_,rfl,_,_,_,[],_,[],hW',trodAll_mk1 (shut_bool Try.underlying4 _),hstay W' hg,rfl,hg.frame _,fun h=>by cases h⟩
theorem over:Rows.descMakesRow.holds Try.pinned (OpenSpec.ofChange Rows.descMakesSpec) :=
 OpenClaim.holds_of_wide 4 Try.f4 rfl rfl rfl rfl rfl rfl rfl ⟨rfl,rfl,rfl,rfl,rfl⟩ rfl rfl rfl rfl rfl (by kernel_rfl) Try.func4 (by kernel_rfl)
   (of_decide_eq_true (by kernel_rfl)) (by unfold Func.isWrapper;first|(rw [if_pos (by decide +kernel)];kernel_rfl)|(rw [if_neg (by decide +kernel)];exact ⟨rfl,rfl⟩))
   (fun os started H enc _=>lifted os started H enc)
theorem proved:Rows.DescMakesSaid :=
 over
#print axioms proved
end Go.Proofs.Yticodgjinajkpaa.descMakes
