/-
  The law DescJoins.
-/
import Derived.Test.YticodgjinajkpaaGreatZA8
set_option linter.unusedSimpArgs false
set_option linter.unusedVariables false
namespace Go.Proofs.YticodgjinajkpaaGreat
open Abs
abbrev zmu:AV:=.agg [.int .i64 0,.int .i64 0,.int .i64 0,.int .i64 0,.nilS,.nilS]
theorem zfk (c:Desc) (hc:zfh c):PC Tryz.prog 10 [z1j c] (.bool (decide (z2r c=0))):=by
 have hW:=zp7 c hc
 have e:decide (z2r c=0)=decide ((z3v c).1=0):=by
   unfold z2r
   split
   · simp [*]
   · simp [*]
 rw [e]
 generalize z3v c=w at *
 refine z0s zih ?_
 unfold z9u
 (repeat' (first|(simp (disch:=omega) only [push_cast,↓zz,seval])|(with_reducible first|refine And.intro ?_ ?_|(first|refine z01 ?_ ?_|refine z00 ?_ ?_)<;>intro hc<;>(try simp only [push_cast] at hc))|((with_reducible first|refine eK hW ?_|refine eQ hW ?_|refine eG hW ?_))|((with_reducible first|refine cK hW ?_|refine cQ hW ?_|refine cG hW ?_);(simp (disch:=omega) only [push_cast,↓zz,seval]);(fail_if_success (with_reducible change False)))|omega|with_reducible intro _))
 all_goals trace_state
theorem zmv (a b:Desc) (ha:z4x a) (hb:z4x b) (h:¬ (z2r a=0∧z2r b=0∧a.in_=b.in_∧a.out=b.out)) :
   PC Tryz.prog 9 [z1j a,z1j b] (.tup [zmu,.int .i64 2]):=by
 have hCa:=z4y a ha
 have hCb:=z4y b hb
 have pa1:=z0v a.rules
 have pa2:=z0t a.finals
 have pb1:=z0v b.rules
 have pb2:=z0t b.finals
 refine z0s z96 ?_
 unfold z6t
 by_cases h1:z2r a=0
 · rw [h1] at hCa
   by_cases h2:z2r b=0
   · rw [h2] at hCb
     by_cases h3:a.in_=b.in_
     · have h4:¬ a.out=b.out:=fun h4=>h ⟨h1,h2,h3,h4⟩
       (repeat' (first|(simp (disch:=omega) only [push_cast,↓zz,seval,pa1,pa2,pb1,pb2,h3,h4])|(with_reducible first|refine And.intro ?_ ?_|(first|refine z01 ?_ ?_|refine z00 ?_ ?_)<;>intro hc<;>(try simp only [push_cast] at hc))|((with_reducible first|refine eK hCa ?_|refine eQ hCa ?_|refine eG hCa ?_))|((with_reducible first|refine eK hCb ?_|refine eQ hCb ?_|refine eG hCb ?_))|((with_reducible first|refine cK hCa ?_|refine cQ hCa ?_|refine cG hCa ?_);(simp (disch:=omega) only [push_cast,↓zz,seval,pa1,pa2,pb1,pb2,h3,h4]);(fail_if_success (with_reducible change False)))|((with_reducible first|refine cK hCb ?_|refine cQ hCb ?_|refine cG hCb ?_);(simp (disch:=omega) only [push_cast,↓zz,seval,pa1,pa2,pb1,pb2,h3,h4]);(fail_if_success (with_reducible change False)))|omega|with_reducible intro _))
     · (repeat' (first|(simp (disch:=omega) only [push_cast,↓zz,seval,pa1,pa2,pb1,pb2,h3])|(with_reducible first|refine And.intro ?_ ?_|(first|refine z01 ?_ ?_|refine z00 ?_ ?_)<;>intro hc<;>(try simp only [push_cast] at hc))|((with_reducible first|refine eK hCa ?_|refine eQ hCa ?_|refine eG hCa ?_))|((with_reducible first|refine eK hCb ?_|refine eQ hCb ?_|refine eG hCb ?_))|((with_reducible first|refine cK hCa ?_|refine cQ hCa ?_|refine cG hCa ?_);(simp (disch:=omega) only [push_cast,↓zz,seval,pa1,pa2,pb1,pb2,h3]);(fail_if_success (with_reducible change False)))|((with_reducible first|refine cK hCb ?_|refine cQ hCb ?_|refine cG hCb ?_);(simp (disch:=omega) only [push_cast,↓zz,seval,pa1,pa2,pb1,pb2,h3]);(fail_if_success (with_reducible change False)))|omega|with_reducible intro _))
   · generalize z2r b=kb at *
     (repeat' (first|(simp (disch:=omega) only [push_cast,↓zz,seval,pa1,pa2,pb1,pb2,h2])|(with_reducible first|refine And.intro ?_ ?_|(first|refine z01 ?_ ?_|refine z00 ?_ ?_)<;>intro hc<;>(try simp only [push_cast] at hc))|((with_reducible first|refine eK hCa ?_|refine eQ hCa ?_|refine eG hCa ?_))|((with_reducible first|refine eK hCb ?_|refine eQ hCb ?_|refine eG hCb ?_))|((with_reducible first|refine cK hCa ?_|refine cQ hCa ?_|refine cG hCa ?_);(simp (disch:=omega) only [push_cast,↓zz,seval,pa1,pa2,pb1,pb2,h2]);(fail_if_success (with_reducible change False)))|((with_reducible first|refine cK hCb ?_|refine cQ hCb ?_|refine cG hCb ?_);(simp (disch:=omega) only [push_cast,↓zz,seval,pa1,pa2,pb1,pb2,h2]);(fail_if_success (with_reducible change False)))|omega|with_reducible intro _))
 · generalize z2r a=ka at *
   (repeat' (first|(simp (disch:=omega) only [push_cast,↓zz,seval,pa1,pa2,pb1,pb2,h1])|(with_reducible first|refine And.intro ?_ ?_|(first|refine z01 ?_ ?_|refine z00 ?_ ?_)<;>intro hc<;>(try simp only [push_cast] at hc))|((with_reducible first|refine eK hCa ?_|refine eQ hCa ?_|refine eG hCa ?_))|((with_reducible first|refine eK hCb ?_|refine eQ hCb ?_|refine eG hCb ?_))|((with_reducible first|refine cK hCa ?_|refine cQ hCa ?_|refine cG hCa ?_);(simp (disch:=omega) only [push_cast,↓zz,seval,pa1,pa2,pb1,pb2,h1]);(fail_if_success (with_reducible change False)))|((with_reducible first|refine cK hCb ?_|refine cQ hCb ?_|refine cG hCb ?_);(simp (disch:=omega) only [push_cast,↓zz,seval,pa1,pa2,pb1,pb2,h1]);(fail_if_success (with_reducible change False)))|omega|with_reducible intro _))
   all_goals trace_state
theorem zjv (a b:Desc) (ha:z4x a) (hb:z4x b) (ca:z2r a=0) (cb:z2r b=0) (hin:a.in_=b.in_) (hout:a.out=b.out) (hl:1024 < 1 + a.states + b.states) :
   PC Tryz.prog 9 [z1j a,z1j b] (.tup [zmu,.int .i64 4]):=by
 have hCa:=z4y a ha
 have hCb:=z4y b hb
 rw [ca] at hCa
 rw [cb] at hCb
 have wa:=zoy ca
 have wb:=zoy cb
 obtain ⟨na,hna,na1,na2⟩:=wa.n
 obtain ⟨nb,hnb,nb1,nb2⟩:=wb.n
 have pa1:=z0v a.rules
 have pa2:=z0t a.finals
 have pb1:=z0v b.rules
 have pb2:=z0t b.finals
 refine z0s z96 ?_
 unfold z6t
 (repeat' (first|(simp (disch:=omega) only [push_cast,↓zz,seval,pa1,pa2,pb1,pb2,hin,hout])|(with_reducible first|refine And.intro ?_ ?_|(first|refine z01 ?_ ?_|refine z00 ?_ ?_)<;>intro hc<;>(try simp only [push_cast] at hc))|((with_reducible first|refine eK hCa ?_|refine eQ hCa ?_|refine eG hCa ?_))|((with_reducible first|refine eK hCb ?_|refine eQ hCb ?_|refine eG hCb ?_))|((with_reducible first|refine cK hCa ?_|refine cQ hCa ?_|refine cG hCa ?_);(simp (disch:=omega) only [push_cast,↓zz,seval,pa1,pa2,pb1,pb2,hin,hout]);(fail_if_success (with_reducible change False)))|((with_reducible first|refine cK hCb ?_|refine cQ hCb ?_|refine cG hCb ?_);(simp (disch:=omega) only [push_cast,↓zz,seval,pa1,pa2,pb1,pb2,hin,hout]);(fail_if_success (with_reducible change False)))|omega|with_reducible intro _))
 all_goals trace_state
theorem zmw {i o:Int} {d:Desc} {gs:List (List Span)} {out:List Term} (hg:z2k d.in_ gs=true) (hw:z2p d out gs=true):zhr gs out:=by
 obtain ⟨g1,g2⟩:=z4i hg
 obtain ⟨w1,w2⟩:=z7s hw
 exact ⟨by omega,fun l hl=>by have:=g2 l hl;omega,by omega,fun t ht=>by have:=w2 t ht;omega⟩
theorem zp8 {d:Desc} {r:Rule} (h:z4f d r=true):zhr r.guards r.out:=by
 simp only [z4f,Bool.and_eq_true] at h
 exact zmw (i:=0) (o:=0) h.2.2.1 h.2.2.2.2
theorem zmx {d:Desc} {f:z4u} (h:z2q d f=true):zhr f.guards f.out:=by
 simp only [z2q,Bool.and_eq_true] at h
 exact zmw (i:=0) (o:=0) h.2.1 h.2.2
theorem zfl {d:Desc} (h:z2r d=0):zju d:=by
 obtain ⟨h1,h2,h3⟩:=z8f h
 have hw:=zoy h
 have h4:=hw.rl
 have h5:=hw.fl
 exact ⟨by omega,fun r hr=>zp8 (h2 r hr),by omega,fun f hf=>zmx (h3 f hf)⟩
theorem zjw {a b:Desc} (ha:z2r a=0) (hb:z2r b=0):zju (z9e a b):=by
 have sa:=zfl ha
 have sb:=zfl hb
 have wa:=zoy ha
 have wb:=zoy hb
 have h1:=wa.rl
 have h2:=wa.fl
 have h3:=wb.rl
 have h4:=wb.fl
 refine ⟨by simp [z9e,z5p];omega,fun r hr=>?_,by simp [z9e];omega,fun f hf=>?_⟩
 · simp only [z9e,z5p,List.mem_append,List.mem_cons,List.not_mem_nil,or_false,List.mem_map] at hr
   rcases hr with ((rfl|rfl)|⟨r',hr',rfl⟩)|⟨r',hr',rfl⟩
   · exact ⟨by simp,fun l hl=>(by cases hl),by simp,fun t ht=>(by cases ht)⟩
   · exact ⟨by simp,fun l hl=>(by cases hl),by simp,fun t ht=>(by cases ht)⟩
   · exact sa.rs r' hr'
   · exact sb.rs r' hr'
 · simp only [z9e,List.mem_append,List.mem_map] at hf
   rcases hf with ⟨f',hf',rfl⟩|⟨f',hf',rfl⟩
   · exact sa.fs f' hf'
   · exact sb.fs f' hf'
theorem zzc:PC Tryz.prog 11 [zmu,zmu] (.bool true):=by
 have h:=zhs ⟨0,0,0,0,[],[]⟩ ⟨0,0,0,0,[],[]⟩ ⟨by simp,fun r hr=>(by cases hr),by simp,fun r hr=>(by cases hr)⟩
 rw [decide_eq_true rfl] at h
 have le:AV.le zmu (z1j ⟨0,0,0,0,[],[]⟩):=AV.le_agg (z0r (AV.le_refl _) (z0r (AV.le_refl _) (z0r (AV.le_refl _) (z0r (AV.le_refl _) (z0r (AV.le_nilS (by decide)) (z0r (AV.le_nilS (by decide)) z56))))))
 exact zdk h (z0r le (z0r le z56))
theorem zmy {d:Desc} (h:z7u d=true):d.rules.length ≤ 80∧d.finals.length ≤ 80:=by
 simp only [z7u,Bool.and_eq_true,decide_eq_true_eq] at h
 omega
set_option maxHeartbeats 1000000 in
theorem zjx (a b:Desc):PC Tryz.prog 3 [z1j a,z1j b] (.bool true):=by
 have hA:=zp0
 have hSa:=zff a
 have hSb:=zff b
 have hZ:=zzc
 have pa1:=z0v a.rules
 have pa2:=z0t a.finals
 have pb1:=z0v b.rules
 have pb2:=z0t b.finals
 refine z0s zaz ?_
 unfold z68
 cases hsa:z7u a with
 | false =>
   rw [hsa] at hSa
   (repeat' (first|(simp (disch:=omega) only [push_cast,↓zz,seval,pa1,pa2,pb1,pb2])|(with_reducible first|refine And.intro ?_ ?_|(first|refine z01 ?_ ?_|refine z00 ?_ ?_)<;>intro hc<;>(try simp only [push_cast] at hc))|((with_reducible first|refine eK hSa ?_|refine eQ hSa ?_|refine eG hSa ?_))|((with_reducible first|refine eK hA ?_|refine eQ hA ?_|refine eG hA ?_))|((with_reducible first|refine cK hSa ?_|refine cQ hSa ?_|refine cG hSa ?_);(simp (disch:=omega) only [push_cast,↓zz,seval,pa1,pa2,pb1,pb2]);(fail_if_success (with_reducible change False)))|((with_reducible first|refine cK hA ?_|refine cQ hA ?_|refine cG hA ?_);(simp (disch:=omega) only [push_cast,↓zz,seval,pa1,pa2,pb1,pb2]);(fail_if_success (with_reducible change False)))|omega|with_reducible intro _))
 | true =>
 rw [hsa] at hSa
 cases hsb:z7u b with
 | false =>
   rw [hsb] at hSb
   by_cases hab:a=b
   · subst hab;rw [hsa] at hsb;cases hsb
   (repeat' (first|(simp (disch:=omega) only [push_cast,↓zz,seval,pa1,pa2,pb1,pb2])|(with_reducible first|refine And.intro ?_ ?_|(first|refine z01 ?_ ?_|refine z00 ?_ ?_)<;>intro hc<;>(try simp only [push_cast] at hc))|((with_reducible first|refine eK hSa ?_|refine eQ hSa ?_))|((with_reducible first|refine eK hSb ?_|refine eQ hSb ?_))|((with_reducible first|refine eK hA ?_|refine eQ hA ?_|refine eG hA ?_))|((with_reducible first|refine cK hA ?_|refine cQ hA ?_|refine cG hA ?_);(simp (disch:=omega) only [push_cast,↓zz,seval,pa1,pa2,pb1,pb2]);(fail_if_success (with_reducible change False)))|omega|with_reducible intro _))
 | true =>
 rw [hsb] at hSb
 have sha:=zfj hsa
 have shb:=zfj hsb
 have hRa:=zfk a sha
 have hRb:=zfk b shb
 obtain ⟨la1,la2⟩:=zmy hsa
 obtain ⟨lb1,lb2⟩:=zmy hsb
 by_cases hv:z2r a=0∧z2r b=0∧a.in_=b.in_∧a.out=b.out
 · obtain ⟨ca,cb,hin,hout⟩:=hv
   rw [decide_eq_true ca] at hRa
   rw [decide_eq_true cb] at hRb
   have wa:=zoy ca
   have wb:=zoy cb
   obtain ⟨na,hna,na1,na2⟩:=wa.n
   obtain ⟨nb,hnb,nb1,nb2⟩:=wb.n
   by_cases hl:1024 < 1 + a.states + b.states
   · have hJ:=zjv a b sha.fin shb.fin ca cb hin hout hl
     (repeat' (first|(simp (disch:=omega) only [push_cast,↓zz,seval,pa1,pa2,pb1,pb2])|(with_reducible first|refine And.intro ?_ ?_|(first|refine z01 ?_ ?_|refine z00 ?_ ?_)<;>intro hc<;>(try simp only [push_cast] at hc))|((with_reducible first|refine eK hSa ?_|refine eQ hSa ?_))|((with_reducible first|refine eK hSb ?_|refine eQ hSb ?_))|((with_reducible first|refine eK hRa ?_|refine eQ hRa ?_))|((with_reducible first|refine eK hRb ?_|refine eQ hRb ?_))|((with_reducible first|refine eK hJ ?_|refine eQ hJ ?_))|((with_reducible first|refine eK hZ ?_|refine eQ hZ ?_|refine eG hZ ?_))|((with_reducible first|refine eK hA ?_|refine eQ hA ?_|refine eG hA ?_))|((with_reducible first|refine cK hZ ?_|refine cQ hZ ?_|refine cG hZ ?_);(simp (disch:=omega) only [push_cast,↓zz,seval,pa1,pa2,pb1,pb2]);(fail_if_success (with_reducible change False)))|((with_reducible first|refine cK hA ?_|refine cQ hA ?_|refine cG hA ?_);(simp (disch:=omega) only [push_cast,↓zz,seval,pa1,pa2,pb1,pb2]);(fail_if_success (with_reducible change False)))|omega|with_reducible intro _))
   · have hJ:=zmq a b sha.fin shb.fin ca cb hin hout (by omega) (by omega) (by omega)
     have hK:=zum a b wa wb hin hout
     have hM:=zhs (z9e a b) (z9e a b) (zjw ca cb)
     rw [decide_eq_true rfl] at hM
     generalize z9e a b=jv at *
     (repeat' (first|(simp (disch:=omega) only [push_cast,↓zz,seval,pa1,pa2,pb1,pb2])|(with_reducible first|refine And.intro ?_ ?_|(first|refine z01 ?_ ?_|refine z00 ?_ ?_)<;>intro hc<;>(try simp only [push_cast] at hc))|((with_reducible first|refine eK hSa ?_|refine eQ hSa ?_))|((with_reducible first|refine eK hSb ?_|refine eQ hSb ?_))|((with_reducible first|refine eK hRa ?_|refine eQ hRa ?_))|((with_reducible first|refine eK hRb ?_|refine eQ hRb ?_))|((with_reducible first|refine eK hJ ?_|refine eQ hJ ?_))|((with_reducible first|refine eK hK ?_|refine eQ hK ?_))|((with_reducible first|refine eK hM ?_|refine eQ hM ?_))|((with_reducible first|refine eK hA ?_|refine eQ hA ?_|refine eG hA ?_))|((with_reducible first|refine cK hA ?_|refine cQ hA ?_|refine cG hA ?_);(simp (disch:=omega) only [push_cast,↓zz,seval,pa1,pa2,pb1,pb2]);(fail_if_success (with_reducible change False)))|omega|with_reducible intro _))
 · have hJ:=zmv a b sha.fin shb.fin hv
   by_cases h1:z2r a=0
   · rw [decide_eq_true h1] at hRa
     by_cases h2:z2r b=0
     · rw [decide_eq_true h2] at hRb
       (repeat' (first|(simp (disch:=omega) only [push_cast,↓zz,seval,pa1,pa2,pb1,pb2])|(with_reducible first|refine And.intro ?_ ?_|(first|refine z01 ?_ ?_|refine z00 ?_ ?_)<;>intro hc<;>(try simp only [push_cast] at hc))|((with_reducible first|refine eK hSa ?_|refine eQ hSa ?_))|((with_reducible first|refine eK hSb ?_|refine eQ hSb ?_))|((with_reducible first|refine eK hRa ?_|refine eQ hRa ?_))|((with_reducible first|refine eK hRb ?_|refine eQ hRb ?_))|((with_reducible first|refine eK hJ ?_|refine eQ hJ ?_))|((with_reducible first|refine eK hZ ?_|refine eQ hZ ?_|refine eG hZ ?_))|((with_reducible first|refine eK hA ?_|refine eQ hA ?_|refine eG hA ?_))|((with_reducible first|refine cK hZ ?_|refine cQ hZ ?_|refine cG hZ ?_);(simp (disch:=omega) only [push_cast,↓zz,seval,pa1,pa2,pb1,pb2]);(fail_if_success (with_reducible change False)))|((with_reducible first|refine cK hA ?_|refine cQ hA ?_|refine cG hA ?_);(simp (disch:=omega) only [push_cast,↓zz,seval,pa1,pa2,pb1,pb2]);(fail_if_success (with_reducible change False)))|omega|with_reducible intro _))
     · rw [decide_eq_false h2] at hRb
       (repeat' (first|(simp (disch:=omega) only [push_cast,↓zz,seval,pa1,pa2,pb1,pb2])|(with_reducible first|refine And.intro ?_ ?_|(first|refine z01 ?_ ?_|refine z00 ?_ ?_)<;>intro hc<;>(try simp only [push_cast] at hc))|((with_reducible first|refine eK hSa ?_|refine eQ hSa ?_))|((with_reducible first|refine eK hSb ?_|refine eQ hSb ?_))|((with_reducible first|refine eK hRa ?_|refine eQ hRa ?_))|((with_reducible first|refine eK hRb ?_|refine eQ hRb ?_))|((with_reducible first|refine eK hJ ?_|refine eQ hJ ?_))|((with_reducible first|refine eK hZ ?_|refine eQ hZ ?_|refine eG hZ ?_))|((with_reducible first|refine eK hA ?_|refine eQ hA ?_|refine eG hA ?_))|((with_reducible first|refine cK hZ ?_|refine cQ hZ ?_|refine cG hZ ?_);(simp (disch:=omega) only [push_cast,↓zz,seval,pa1,pa2,pb1,pb2]);(fail_if_success (with_reducible change False)))|((with_reducible first|refine cK hA ?_|refine cQ hA ?_|refine cG hA ?_);(simp (disch:=omega) only [push_cast,↓zz,seval,pa1,pa2,pb1,pb2]);(fail_if_success (with_reducible change False)))|omega|with_reducible intro _))
   · rw [decide_eq_false h1] at hRa
     (repeat' (first|(simp (disch:=omega) only [push_cast,↓zz,seval,pa1,pa2,pb1,pb2])|(with_reducible first|refine And.intro ?_ ?_|(first|refine z01 ?_ ?_|refine z00 ?_ ?_)<;>intro hc<;>(try simp only [push_cast] at hc))|((with_reducible first|refine eK hSa ?_|refine eQ hSa ?_))|((with_reducible first|refine eK hSb ?_|refine eQ hSb ?_))|((with_reducible first|refine eK hRa ?_|refine eQ hRa ?_))|((with_reducible first|refine eK hRb ?_|refine eQ hRb ?_))|((with_reducible first|refine eK hJ ?_|refine eQ hJ ?_))|((with_reducible first|refine eK hZ ?_|refine eQ hZ ?_|refine eG hZ ?_))|((with_reducible first|refine eK hA ?_|refine eQ hA ?_|refine eG hA ?_))|((with_reducible first|refine cK hZ ?_|refine cQ hZ ?_|refine cG hZ ?_);(simp (disch:=omega) only [push_cast,↓zz,seval,pa1,pa2,pb1,pb2]);(fail_if_success (with_reducible change False)))|((with_reducible first|refine cK hA ?_|refine cQ hA ?_|refine cG hA ?_);(simp (disch:=omega) only [push_cast,↓zz,seval,pa1,pa2,pb1,pb2]);(fail_if_success (with_reducible change False)))|omega|with_reducible intro _))
     all_goals trace_state
end Go.Proofs.YticodgjinajkpaaGreat
