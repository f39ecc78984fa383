/-
  What each operation asks, as rules of rewriting.
-/
import Derived.Test.YtdmjhlofphhldaaAbs19
set_option linter.unusedSimpArgs false
set_option linter.unusedVariables false
namespace Go.Proofs.Ytdmjhlofphhldaa.Abs

/-- On, with a value, once it is simplified. -/
def nx (x : AV) (H : AHeap) [K : HK] : Prop := K.f x H
theorem nx_eval (x : AV) (H : AHeap) (f : AV → AHeap → Prop) : @nx x H ⟨f⟩ = f x H := (rfl)
class HF (α : Type) where
  f : α → Prop
def optN {α : Type} (o : Option α) [F : HF α] : Prop := optK o F.f
theorem optN_some {α : Type} (x : α) (f : α → Prop) : @optN α (some x) ⟨f⟩ = f x := (rfl)
def ifN (c : Bool) [p : HP] [q : HP] : Prop := match c with
  | false => p.p
  | true => q.p
theorem ifN_true {p q : Prop} : @ifN true ⟨p⟩ ⟨q⟩ = q := (rfl)
theorem ifN_false {p q : Prop} : @ifN false ⟨p⟩ ⟨q⟩ = p := (rfl)
def appN (w bytes : Nat) (s : AV) (news : List AV) (H : AHeap) [K : HK] : Prop := appendA w bytes s news H K.f
def slcN (w : Nat) (x : AV) (lo hi mx : Option Int) (H : AHeap) [K : HK] : Prop := sliceA w x lo hi mx H fun y => K.f y H
def nq (x : AV) [K : HQ] : Prop := K.f x
theorem nq_eval (x : AV) (f : AV → Prop) : @nq x ⟨f⟩ = f x := (rfl)

section
variable {P : Program} {H : AHeap} {K : AV → AHeap → Prop} {k : IntKind} {a b c : Int} {x y z : AV} {xs ys cs : List AV} {w s o i g v off len n : Nat} {p q r : Bool}
theorem K_mv : @opK P .mv H [x] ⟨K⟩ = @nx x H ⟨K⟩ := (rfl)
theorem K_pick : @opK P .pick H [.bool p, x, y] ⟨K⟩ = @nx (bif p then x else y) H ⟨K⟩ := (rfl)
theorem K_alloc : @opK P (.alloc z w) H [] ⟨K⟩ = @nx (.ptr H.n 1 0 0) (H.push ⟨w, 1, true, [z]⟩) ⟨K⟩ := (rfl)
theorem K_box : @opK P .box H [x] ⟨K⟩ = (allOne x.cells = true ∧ 0 < x.cells.length ∧ @nx (.ptr H.n 1 0 0) (H.push ⟨x.cells.length, 1, true, [x]⟩) ⟨K⟩) := (rfl)
theorem K_build {zs : List AV} {pl : List (Nat × Nat)} {idx : List Nat} : @opK P (.build zs pl idx) H xs ⟨K⟩ = @optN _ (fillA pl idx xs zs) ⟨fun cs => @nx (.agg cs) H ⟨K⟩⟩ := (rfl)
theorem K_bslice {idx : List Nat} : @opK P (.bslice w len z idx) H xs ⟨K⟩ = (FitAll w len idx xs ∧ @nx (.ref H.n 1 0 len) (H.push ⟨w, 1, true, setAll idx xs (List.replicate len z)⟩) ⟨K⟩) := (rfl)
theorem K_load_c : @opK P (.load p s) H [.cptr x] ⟨K⟩ = (x.isAny = false ∧ x.cells.length = s ∧ (p = false → s = 1) ∧ @nx (partV p 0 s x) H ⟨K⟩) := (rfl)
theorem K_load_p : @opK P (.load p s) H [.ptr g v i o] ⟨K⟩ = ((H.at_ g).ver = v ∧ i < (H.at_ g).xs.length ∧ ((H.at_ g).xs.getD i .any).isAny = false ∧ ((H.at_ g).xs.getD i .any).cells.length = (H.at_ g).w ∧ 0 < s ∧ o + s ≤ (H.at_ g).w ∧
      (p = false → s = 1) ∧ @nx (partV p o s ((H.at_ g).xs.getD i .any)) H ⟨K⟩) := (rfl)
theorem K_store : @opK P (.store s) H [.ptr g v i o, x] ⟨K⟩ = ((H.at_ g).ver = v ∧ i < (H.at_ g).xs.length ∧ 0 < s ∧ o + s ≤ (H.at_ g).w ∧ x.cells.length = s ∧ allOne x.cells = true ∧
      (s = (H.at_ g).w ∨ ((H.at_ g).xs.getD i .any).isAny = false ∧ ((H.at_ g).xs.getD i .any).cells.length = (H.at_ g).w) ∧
      @nx .any (H.set g ⟨(H.at_ g).w, v, (H.at_ g).exact, (H.at_ g).xs.set i (setPart (H.at_ g).w o s ((H.at_ g).xs.getD i .any) x)⟩) ⟨K⟩) := (rfl)
theorem K_nilc : @opK P .nilCheck H [.cptr x] ⟨K⟩ = @nx (.cptr x) H ⟨K⟩ := (rfl)
theorem K_nilp : @opK P .nilCheck H [.ptr g v i o] ⟨K⟩ = @nx (.ptr g v i o) H ⟨K⟩ := (rfl)
theorem K_nilf {f : Nat} : @opK P .nilCheck H [.fn f xs] ⟨K⟩ = @nx (.fn f xs) H ⟨K⟩ := (rfl)
theorem K_add : @opK P (.bin .add) H [.int k a, .int k b] ⟨K⟩ = @nx (.int k (k.wrap (a + b))) H ⟨K⟩ := by simp [opK, stepA, binI, nx]
theorem K_sub : @opK P (.bin .sub) H [.int k a, .int k b] ⟨K⟩ = @nx (.int k (k.wrap (a - b))) H ⟨K⟩ := by simp [opK, stepA, binI, nx]
theorem K_mul : @opK P (.bin .mul) H [.int k a, .int k b] ⟨K⟩ = @nx (.int k (k.wrap (a * b))) H ⟨K⟩ := by simp [opK, stepA, binI, nx]
theorem K_quo : @opK P (.bin .quo) H [.int k a, .int k b] ⟨K⟩ = (b ≠ 0 ∧ @nx (.int k (k.wrap (a.tdiv b))) H ⟨K⟩) := by simp [opK, stepA, binI, nx]
theorem K_rem : @opK P (.bin .rem) H [.int k a, .int k b] ⟨K⟩ = (b ≠ 0 ∧ @nx (.int k (a.tmod b)) H ⟨K⟩) := by simp [opK, stepA, binI, nx]
theorem K_and : @opK P (.bin .and) H [.int k a, .int k b] ⟨K⟩ = @nx (.int k (bitsI .and k a b)) H ⟨K⟩ := by simp [opK, stepA, binI, nx]
theorem K_or : @opK P (.bin .or) H [.int k a, .int k b] ⟨K⟩ = @nx (.int k (bitsI .or k a b)) H ⟨K⟩ := by simp [opK, stepA, binI, nx]
theorem K_xor : @opK P (.bin .xor) H [.int k a, .int k b] ⟨K⟩ = @nx (.int k (bitsI .xor k a b)) H ⟨K⟩ := by simp [opK, stepA, binI, nx]
theorem K_andNot : @opK P (.bin .andNot) H [.int k a, .int k b] ⟨K⟩ = @nx (.int k (bitsI .andNot k a b)) H ⟨K⟩ := by simp [opK, stepA, binI, nx]
theorem K_shl {k' : IntKind} : @opK P (.bin .shl) H [.int k a, .int k' b] ⟨K⟩ = (0 ≤ b ∧ @nx (.int k (k.wrap (a * 2 ^ (Min.min b.toNat k.bits)))) H ⟨K⟩) := (rfl)
theorem K_shr {k' : IntKind} : @opK P (.bin .shr) H [.int k a, .int k' b] ⟨K⟩ = (0 ≤ b ∧ @nx (.int k (a.fdiv (2 ^ (Min.min b.toNat k.bits)))) H ⟨K⟩) := (rfl)
theorem K_eql : @opK P (.bin .eql) H [.int k a, .int k b] ⟨K⟩ = @nx (.bool (decide (a = b))) H ⟨K⟩ := by simp [opK, stepA, binI, nx]
theorem K_neq : @opK P (.bin .neq) H [.int k a, .int k b] ⟨K⟩ = @nx (.bool (!decide (a = b))) H ⟨K⟩ := by simp [opK, stepA, binI, nx]
theorem K_lss : @opK P (.bin .lss) H [.int k a, .int k b] ⟨K⟩ = @nx (.bool (decide (a < b))) H ⟨K⟩ := by simp [opK, stepA, binI, nx]
theorem K_leq : @opK P (.bin .leq) H [.int k a, .int k b] ⟨K⟩ = @nx (.bool (decide (a ≤ b))) H ⟨K⟩ := by simp [opK, stepA, binI, nx]
theorem K_gtr : @opK P (.bin .gtr) H [.int k a, .int k b] ⟨K⟩ = @nx (.bool (decide (b < a))) H ⟨K⟩ := by simp [opK, stepA, binI, nx]
theorem K_geq : @opK P (.bin .geq) H [.int k a, .int k b] ⟨K⟩ = @nx (.bool (decide (b ≤ a))) H ⟨K⟩ := by simp [opK, stepA, binI, nx]
theorem K_seql {s t : List UInt8} : @opK P (.bin .eql) H [.str s, .str t] ⟨K⟩ = @nx (.bool (decide (s = t))) H ⟨K⟩ := (rfl)
theorem K_sneq {s t : List UInt8} : @opK P (.bin .neq) H [.str s, .str t] ⟨K⟩ = @nx (.bool (!decide (s = t))) H ⟨K⟩ := (rfl)
theorem K_eqb : @opK P (.eqb p) H [.bool q, .bool r] ⟨K⟩ = @nx (.bool (if p then !(q == r) else q == r)) H ⟨K⟩ := (rfl)
theorem K_eqs {ks : List Nat} : @opK P (.eqs p ks) H [.agg xs, .agg ys] ⟨K⟩ = @optN _ (eqL ks xs ys) ⟨fun b => @nx (.bool (if p then !b else b)) H ⟨K⟩⟩ := (rfl)
theorem K_eqn_nil : @opK P (.eqn p) H [.nilS, .nilS] ⟨K⟩ = @nx (.bool (!p)) H ⟨K⟩ := (rfl)
theorem K_eqn_lst : @opK P (.eqn p) H [.lst w xs, .nilS] ⟨K⟩ = (xs ≠ [] ∧ @nx (.bool p) H ⟨K⟩) := (rfl)
theorem K_eqn_ref : @opK P (.eqn p) H [.ref g v off len, .nilS] ⟨K⟩ = (0 < len ∧ @nx (.bool p) H ⟨K⟩) := (rfl)
theorem K_not : @opK P (.un .not) H [.bool p] ⟨K⟩ = @nx (.bool (!p)) H ⟨K⟩ := (rfl)
theorem K_neg : @opK P (.un .neg) H [.int k a] ⟨K⟩ = @nx (.int k (k.wrap (0 - a))) H ⟨K⟩ := (rfl)
theorem K_conv {k' : IntKind} : @opK P (.conv k) H [.int k' a] ⟨K⟩ = @nx (.int k (k.wrap a)) H ⟨K⟩ := (rfl)
theorem K_toStr : @opK P .toStr H [x] ⟨K⟩ = (ElemsOk H 1 x ∧ (match x with | .str _ => False | _ => True) ∧ ∃ bs : List UInt8, elemsOf H x = some (bs.map fun b => .int .u8 b.toNat) ∧ @nx (.str bs) H ⟨K⟩) := (rfl)
theorem K_slice {lo hi mx : Bool} : @opK P (.slice w lo hi mx) H (x :: xs) ⟨K⟩ = @optN _ (optA lo xs) ⟨fun p => @optN _ (optA hi p.2) ⟨fun q => @optN _ (optA mx q.2) ⟨fun r => r.2 = [] ∧ @slcN w x p.1 q.1 r.1 H ⟨K⟩⟩⟩⟩ := (rfl)
theorem K_faddr_c : @opK P (.faddr p off s) H [.cptr x] ⟨K⟩ = (x.isAny = false ∧ off + s ≤ x.cells.length ∧ (p = false → s = 1) ∧ 0 < s ∧ @nx (.cptr (partV p off s x)) H ⟨K⟩) := (rfl)
theorem K_faddr_p : @opK P (.faddr p off s) H [.ptr g v i o] ⟨K⟩ = ((H.at_ g).ver = v ∧ @nx (.ptr g v i (o + off)) H ⟨K⟩) := (rfl)
theorem K_field : @opK P (.field p off s) H [.agg cs] ⟨K⟩ = (off + s ≤ cs.length ∧ (p = false → s = 1) ∧ @nx (partV p off s (.agg cs)) H ⟨K⟩) := (rfl)
theorem K_iaddr_l {w' : Nat} : @opK P (.iaddr w) H [.lst w' xs, .int k a] ⟨K⟩ = (w' = w ∧ 0 ≤ a ∧ a < xs.length ∧ @nx (.cptr (xs.getD a.toNat .any)) H ⟨K⟩) := (rfl)
theorem K_iaddr_r : @opK P (.iaddr w) H [.ref g v off len, .int k a] ⟨K⟩ = ((H.at_ g).ver = v ∧ (H.at_ g).w = w ∧ 0 ≤ a ∧ a < len ∧ @nx (.ptr g v (off + a.toNat) 0) H ⟨K⟩) := (rfl)
theorem K_iaddrA_p : @opK P (.iaddrA n w p) H [.ptr g v i o, .int k a] ⟨K⟩ = ((H.at_ g).ver = v ∧ 0 ≤ a ∧ a < n ∧ @nx (.ptr g v i (o + a.toNat * w)) H ⟨K⟩) := (rfl)
theorem K_iaddrA_c : @opK P (.iaddrA n w p) H [.cptr x, .int k a] ⟨K⟩ = (x.isAny = false ∧ 0 ≤ a ∧ a < n ∧ n * w ≤ x.cells.length ∧ (p = false → w = 1) ∧ 0 < w ∧ @nx (.cptr (partV p (a.toNat * w) w x)) H ⟨K⟩) := (rfl)
theorem K_index : @opK P (.index n w p) H [.agg cs, .int k a] ⟨K⟩ = (0 ≤ a ∧ a < n ∧ n * w ≤ cs.length ∧ (p = false → w = 1) ∧ @nx (partV p (a.toNat * w) w (.agg cs)) H ⟨K⟩) := (rfl)
theorem K_indexStr {s : List UInt8} : @opK P .indexStr H [.str s, .int k a] ⟨K⟩ = (0 ≤ a ∧ a < s.length ∧ @nx (.int .u8 (s.getD a.toNat 0).toNat) H ⟨K⟩) := (rfl)
theorem K_extract : @opK P (.extract i) H [.tup xs] ⟨K⟩ = (i < xs.length ∧ @nx (xs.getD i .any) H ⟨K⟩) := (rfl)
theorem K_len_nil : @opK P (.len false) H [.nilS] ⟨K⟩ = @nx (.int .i64 0) H ⟨K⟩ := (rfl)
theorem K_len_nul : @opK P (.len false) H [.nul] ⟨K⟩ = @nx (.int .i64 0) H ⟨K⟩ := (rfl)
theorem K_len_lst : @opK P (.len false) H [.lst w xs] ⟨K⟩ = @nx (.int .i64 xs.length) H ⟨K⟩ := (rfl)
theorem K_len_ref : @opK P (.len false) H [.ref g v off len] ⟨K⟩ = @nx (.int .i64 len) H ⟨K⟩ := (rfl)
theorem K_len_str {s : List UInt8} : @opK P (.len true) H [.str s] ⟨K⟩ = @nx (.int .i64 s.length) H ⟨K⟩ := (rfl)
theorem K_app : @opK P (.app w n z) H [x, y] ⟨K⟩ = (ElemsOk H w y ∧ @optN _ (elemsOf H y) ⟨fun news => @appN w n x news H ⟨K⟩⟩) := (rfl)
theorem app_nilS : @appN w n .nilS xs H ⟨K⟩ = (xs.length * n ≤ 140737488355328 ∧ @nx (.ref H.n 1 0 xs.length) (H.push ⟨w, 1, xs.isEmpty, xs⟩) ⟨K⟩) := (rfl)
theorem app_nul : @appN w n .nul xs H ⟨K⟩ = (xs.length * n ≤ 140737488355328 ∧ @nx (.ref H.n 1 0 xs.length) (H.push ⟨w, 1, xs.isEmpty, xs⟩) ⟨K⟩) := (rfl)
theorem app_ref : @appN w n (.ref g v off len) xs H ⟨K⟩ = ((H.at_ g).ver = v ∧ (H.at_ g).w = w ∧ (len + xs.length) * n ≤ 140737488355328 ∧ off + len ≤ (H.at_ g).xs.length ∧ @ifN (!(H.at_ g).exact || (H.at_ g).xs.isEmpty)
     ⟨(off + len + xs.length ≤ (H.at_ g).xs.length → @nx (.ref g v off (len + xs.length)) (H.set g ⟨w, v, true, (H.at_ g).xs.take (off + len) ++ xs ++ (H.at_ g).xs.drop (off + len + xs.length)⟩) ⟨K⟩) ∧
       ((H.at_ g).xs.length < off + len + xs.length → @nx (.ref H.n 1 0 (len + xs.length)) (H.push ⟨w, 1, false, ((H.at_ g).xs.drop off).take len ++ xs⟩) ⟨K⟩)⟩
     ⟨off + len = (H.at_ g).xs.length ∧ off = 0 ∧ @nx (.ref g (v + 1) off (len + xs.length)) (H.set g ⟨w, v + 1, (H.at_ g).exact && xs.isEmpty, (H.at_ g).xs ++ xs⟩) ⟨K⟩⟩) := by
  simp only [appN, appendA, ifN]
  generalize (!(H.at_ g).exact || (H.at_ g).xs.isEmpty) = c
  cases c <;> rfl
theorem slc_lst {w' : Nat} {lo hi : Option Int} : @slcN w (.lst w' xs) lo hi none H ⟨K⟩ = (w' = w ∧ 0 ≤ lo.getD 0 ∧ lo.getD 0 ≤ hi.getD xs.length ∧ hi.getD xs.length ≤ xs.length ∧ @nx (.lst w' ((xs.take (hi.getD xs.length).toNat).drop (lo.getD 0).toNat)) H ⟨K⟩) := (rfl)
theorem slc_nil {lo hi : Option Int} : @slcN w .nilS lo hi none H ⟨K⟩ = ((lo = none ∨ lo = some 0) ∧ (hi = none ∨ hi = some 0) ∧ @nx .nilS H ⟨K⟩) := (rfl)
theorem slc_ref {lo hi : Option Int} : @slcN w (.ref g v off len) lo hi none H ⟨K⟩ = ((H.at_ g).ver = v ∧ (H.at_ g).w = w ∧ 0 < w ∧ 0 ≤ lo.getD 0 ∧ lo.getD 0 ≤ hi.getD len ∧ (hi.getD len ≤ len ∨ (H.at_ g).exact = true ∧ off + hi.getD len ≤ (H.at_ g).xs.length) ∧
      @nx (.ref g v (off + (lo.getD 0).toNat) ((hi.getD len).toNat - (lo.getD 0).toNat)) H ⟨K⟩) := (rfl)
theorem slc_lst3 {w' : Nat} {lo hi : Option Int} {m : Int} : @slcN w (.lst w' xs) lo hi (some m) H ⟨K⟩ = (m = 0 ∧ hi = some 0 ∧ (lo = none ∨ lo = some 0) ∧ @nx .nul H ⟨K⟩) := (rfl)
theorem slc_nil3 {lo hi : Option Int} {m : Int} : @slcN w .nilS lo hi (some m) H ⟨K⟩ = (m = 0 ∧ hi = some 0 ∧ (lo = none ∨ lo = some 0) ∧ @nx .nilS H ⟨K⟩) := (rfl)
theorem slc_nul3 {lo hi : Option Int} {m : Int} : @slcN w .nul lo hi (some m) H ⟨K⟩ = (m = 0 ∧ hi = some 0 ∧ (lo = none ∨ lo = some 0) ∧ @nx .nul H ⟨K⟩) := (rfl)
theorem slc_ref3 {lo hi : Option Int} {m : Int} : @slcN w (.ref g v off len) lo hi (some m) H ⟨K⟩ = (m = 0 ∧ hi = some 0 ∧ (lo = none ∨ lo = some 0) ∧ @nx .nul H ⟨K⟩) := (rfl)
theorem K_max : @opK P .max H [.int k a, .int k b] ⟨K⟩ = @nx (.int k (Max.max a b)) H ⟨K⟩ := by simp [opK, stepA, nx]
theorem K_min : @opK P .min H [.int k a, .int k b] ⟨K⟩ = @nx (.int k (Min.min a b)) H ⟨K⟩ := by simp [opK, stepA, nx]
theorem K_mkSlice {k' : IntKind} : @opK P (.mkSlice w n z) H [.int k a, .int k' b] ⟨K⟩ = (0 ≤ a ∧ a ≤ b ∧ b * n ≤ 140737488355328 ∧ @nx (.ref H.n 1 0 a.toNat) (H.push ⟨w, 1, true, List.replicate b.toNat z⟩) ⟨K⟩) := (rfl)
theorem K_mkFunc {f : Nat} : @opK P (.mkFunc f) H xs ⟨K⟩ = @nx (.fn f xs) H ⟨K⟩ := (rfl)
theorem K_mkMap : @opK P .mkMap H [] ⟨K⟩ = @nx (.map H.n 1) (H.push ⟨0, 1, true, []⟩) ⟨K⟩ := (rfl)
theorem K_mapGet : @opK P (.mapGet z) H [.map g v, .int k a] ⟨K⟩ = (k = .i64 ∧ (H.at_ g).ver = v ∧ (H.at_ g).w = 0 ∧ (H.at_ g).exact = true ∧ @optN _ (findM z a (H.at_ g).xs) ⟨fun y => @nx y H ⟨K⟩⟩) := (rfl)
theorem K_mapSet : @opK P .mapSet H [.map g v, .int k a, x] ⟨K⟩ = (k = .i64 ∧ (H.at_ g).ver = v ∧ (H.at_ g).w = 0 ∧ (H.at_ g).exact = true ∧ @optN _ (setM a x (H.at_ g).xs) ⟨fun ys => @nx .any (H.set g ⟨0, v, true, ys⟩) ⟨K⟩⟩) := (rfl)
theorem K_len_full : @opK P (.len false) H [.full w xs] ⟨K⟩ = @nx (.int .i64 xs.length) H ⟨K⟩ := (rfl)
theorem K_iaddr_f {w' : Nat} : @opK P (.iaddr w) H [.full w' xs, .int k a] ⟨K⟩ = (w' = w ∧ 0 ≤ a ∧ a < xs.length ∧ @nx (.cptr (xs.getD a.toNat .any)) H ⟨K⟩) := (rfl)
theorem K_eqn_full : @opK P (.eqn p) H [.full w xs, .nilS] ⟨K⟩ = (xs ≠ [] ∧ @nx (.bool p) H ⟨K⟩) := (rfl)
theorem slc_full {w' : Nat} {lo hi : Option Int} : @slcN w (.full w' xs) lo hi none H ⟨K⟩ = (w' = w ∧ 0 ≤ lo.getD 0 ∧ lo.getD 0 ≤ hi.getD xs.length ∧ hi.getD xs.length ≤ xs.length ∧ @nx (.lst w' ((xs.take (hi.getD xs.length).toNat).drop (lo.getD 0).toNat)) H ⟨K⟩) := (rfl)
theorem slc_full3 {w' : Nat} {lo hi : Option Int} {m : Int} : @slcN w (.full w' xs) lo hi (some m) H ⟨K⟩ = (m = 0 ∧ hi = some 0 ∧ (lo = none ∨ lo = some 0) ∧ @nx .nul H ⟨K⟩) := (rfl)
theorem app_full {w' : Nat} : @appN w n (.full w' xs) ys H ⟨K⟩ = (w' = w ∧ 0 < ys.length ∧ (xs.length + ys.length) * n ≤ 140737488355328 ∧ @nx (.ref H.n 1 0 (xs.length + ys.length)) (H.push ⟨w, 1, false, xs ++ ys⟩) ⟨K⟩) := (rfl)
theorem findM_nil : findM z a [] = some z := rfl
theorem findM_cons : findM z a (.int .i64 b :: y :: xs) = if b = a then some y else findM z a xs := rfl
theorem setM_nil : setM a x [] = some [.int .i64 a, x] := rfl
theorem setM_cons : setM a x (.int .i64 b :: y :: xs) = if b = a then some (.int .i64 b :: x :: xs) else (setM a x xs).map fun r' => .int .i64 b :: y :: r' := rfl
theorem K_call {f : Nat} : @opK P .call H (.fn f cs :: xs) ⟨K⟩ = @CallK P f (xs ++ cs) H ⟨K⟩ := (rfl)
end

section
variable {P : Program} {H : AHeap} {K : AV → Prop} {xs cs : List AV} {z : AV} {w len : Nat}
theorem Q_still {k : AK} (h : k.still = true) : @opQ P k H xs ⟨K⟩ = @opK P k H xs ⟨fun x _ => K x⟩ := by
  cases k <;> first | (exact propext ⟨fun h => h.2, fun h => ⟨rfl, h⟩⟩) | (simp [AK.still] at h)
theorem Q_mv  : @opQ P .mv H xs ⟨K⟩ = @opK P .mv H xs ⟨fun x _ => K x⟩ := Q_still rfl
theorem Q_pick  : @opQ P .pick H xs ⟨K⟩ = @opK P .pick H xs ⟨fun x _ => K x⟩ := Q_still rfl
theorem Q_build {zs : List AV} {pl : List (Nat × Nat)} {idx : List Nat} : @opQ P (.build zs pl idx) H xs ⟨K⟩ = @opK P (.build zs pl idx) H xs ⟨fun x _ => K x⟩ := Q_still rfl
theorem Q_load {a : Bool} {s : Nat} : @opQ P (.load a s) H xs ⟨K⟩ = @opK P (.load a s) H xs ⟨fun x _ => K x⟩ := Q_still rfl
theorem Q_nilCheck  : @opQ P .nilCheck H xs ⟨K⟩ = @opK P .nilCheck H xs ⟨fun x _ => K x⟩ := Q_still rfl
theorem Q_bin {op : BinOp} : @opQ P (.bin op) H xs ⟨K⟩ = @opK P (.bin op) H xs ⟨fun x _ => K x⟩ := Q_still rfl
theorem Q_eqb {n : Bool} : @opQ P (.eqb n) H xs ⟨K⟩ = @opK P (.eqb n) H xs ⟨fun x _ => K x⟩ := Q_still rfl
theorem Q_eqs {n : Bool} {ks : List Nat} : @opQ P (.eqs n ks) H xs ⟨K⟩ = @opK P (.eqs n ks) H xs ⟨fun x _ => K x⟩ := Q_still rfl
theorem Q_eqn {n : Bool} : @opQ P (.eqn n) H xs ⟨K⟩ = @opK P (.eqn n) H xs ⟨fun x _ => K x⟩ := Q_still rfl
theorem Q_un {op : UnOp} : @opQ P (.un op) H xs ⟨K⟩ = @opK P (.un op) H xs ⟨fun x _ => K x⟩ := Q_still rfl
theorem Q_conv {k : IntKind} : @opQ P (.conv k) H xs ⟨K⟩ = @opK P (.conv k) H xs ⟨fun x _ => K x⟩ := Q_still rfl
theorem Q_slice {w : Nat} {lo hi mx : Bool} : @opQ P (.slice w lo hi mx) H xs ⟨K⟩ = @opK P (.slice w lo hi mx) H xs ⟨fun x _ => K x⟩ := Q_still rfl
theorem Q_faddr {a : Bool} {o s : Nat} : @opQ P (.faddr a o s) H xs ⟨K⟩ = @opK P (.faddr a o s) H xs ⟨fun x _ => K x⟩ := Q_still rfl
theorem Q_field {a : Bool} {o s : Nat} : @opQ P (.field a o s) H xs ⟨K⟩ = @opK P (.field a o s) H xs ⟨fun x _ => K x⟩ := Q_still rfl
theorem Q_iaddr {w : Nat} : @opQ P (.iaddr w) H xs ⟨K⟩ = @opK P (.iaddr w) H xs ⟨fun x _ => K x⟩ := Q_still rfl
theorem Q_iaddrA {n w : Nat} {a : Bool} : @opQ P (.iaddrA n w a) H xs ⟨K⟩ = @opK P (.iaddrA n w a) H xs ⟨fun x _ => K x⟩ := Q_still rfl
theorem Q_index {n w : Nat} {a : Bool} : @opQ P (.index n w a) H xs ⟨K⟩ = @opK P (.index n w a) H xs ⟨fun x _ => K x⟩ := Q_still rfl
theorem Q_indexStr  : @opQ P .indexStr H xs ⟨K⟩ = @opK P .indexStr H xs ⟨fun x _ => K x⟩ := Q_still rfl
theorem Q_extract {i : Nat} : @opQ P (.extract i) H xs ⟨K⟩ = @opK P (.extract i) H xs ⟨fun x _ => K x⟩ := Q_still rfl
theorem Q_len {b : Bool} : @opQ P (.len b) H xs ⟨K⟩ = @opK P (.len b) H xs ⟨fun x _ => K x⟩ := Q_still rfl
theorem Q_max  : @opQ P .max H xs ⟨K⟩ = @opK P .max H xs ⟨fun x _ => K x⟩ := Q_still rfl
theorem Q_min  : @opQ P .min H xs ⟨K⟩ = @opK P .min H xs ⟨fun x _ => K x⟩ := Q_still rfl
theorem Q_mapGet : @opQ P (.mapGet z) H xs ⟨K⟩ = @opK P (.mapGet z) H xs ⟨fun x _ => K x⟩ := Q_still rfl
theorem Q_mkFunc {f : Nat} : @opQ P (.mkFunc f) H xs ⟨K⟩ = @opK P (.mkFunc f) H xs ⟨fun x _ => K x⟩ := Q_still rfl
theorem Q_toStr  : @opQ P .toStr H xs ⟨K⟩ = @opK P .toStr H xs ⟨fun x _ => K x⟩ := Q_still rfl
theorem Q_callq {f : Nat} : @opQ P .call H (.fn f cs :: xs) ⟨K⟩ = @CallQ P f (xs ++ cs) H ⟨K⟩ := (rfl)
theorem Q_bsl {idx : List Nat} : @opQ P (.bslice w len z idx) H xs ⟨K⟩ = (FitAll w len idx xs ∧ 0 < w ∧ pureL (setAll idx xs (List.replicate len z)) = true ∧ @nq (.full w (setAll idx xs (List.replicate len z))) ⟨K⟩) := (rfl)
end

section
variable {H : AHeap} {G : Grp} {g j : Nat}
theorem push_at : (H.push G).at_ j = if j = H.n then G else H.at_ j := (rfl)
theorem push_n : (H.push G).n = H.n + 1 := (rfl)
theorem set_at : (H.set g G).at_ j = if j = g then G else H.at_ j := (rfl)
theorem set_n : (H.set g G).n = H.n := (rfl)
theorem nil_n : AHeap.nil.n = 0 := (rfl)
end

section
variable {P : Program} {H : AHeap} {env : Env} {K : List AV → Prop} {l : List ARes} {t s : Nat} {a : Bool}
theorem res_nil : resK P [] env H K = K [] := (rfl)
theorem res_slot : resK P (.slot t :: l) env H K = resK P l env H fun xs => K (env t :: xs) := (rfl)
theorem res_cell : resK P (.cell t a s :: l) env H K = @opK P (.load a s) H [env t] ⟨fun x _ => resK P l env H fun xs => K (x :: xs)⟩ := (rfl)
end

/-- CALLS, by contract. -/
theorem pcK {P : Program} {f : Nat} {xs : List AV} {y : AV} {H : AHeap} {K : AV → AHeap → Prop} (h : PC P f xs y) (hp : pureL xs = true) (hK : K y H) : @CallK P f xs H ⟨K⟩ := pc_call' h hp hK
theorem pcQ {P : Program} {f : Nat} {xs : List AV} {y : AV} {H : AHeap} {K : AV → Prop} (h : PC P f xs y) (hp : pureL xs = true) (hK : K y) : @CallQ P f xs H ⟨K⟩ := ⟨y, pc_call' h hp ⟨rfl, rfl⟩, hK⟩
theorem pcK_le {P : Program} {f : Nat} {xs ys : List AV} {y : AV} {H : AHeap} {K : AV → AHeap → Prop} (h : PC P f ys y) (hl : leL xs ys) (hp : pureL ys = true) (hK : K y H) : @CallK P f xs H ⟨K⟩ := acalls_le hl (pc_call' h hp hK)
theorem pcQ_le {P : Program} {f : Nat} {xs ys : List AV} {y : AV} {H : AHeap} {K : AV → Prop} (h : PC P f ys y) (hl : leL xs ys) (hp : pureL ys = true) (hK : K y) : @CallQ P f xs H ⟨K⟩ := ⟨y, acalls_le hl (pc_call' h hp ⟨rfl, rfl⟩), hK⟩

theorem tt_dec {p : Prop} [Decidable p] (h : p) : true = decide p := (decide_eq_true h).symm
theorem ff_dec {p : Prop} [Decidable p] (h : ¬p) : false = decide p := (decide_eq_false h).symm
theorem dec_dec {p q : Prop} [Decidable p] [Decidable q] (h : p ↔ q) : decide p = decide q := decide_eq_decide.2 h
theorem int_eq {k : IntKind} {a b : Int} (h : a = b) : AV.int k a = AV.int k b := by rw [h]
theorem leW_refl {x : AV} : @leW x ⟨x⟩ := AV.le_refl x
theorem leW_bool {a b : Bool} (h : a = b) : @leW (.bool a) ⟨.bool b⟩ := h ▸ AV.le_refl _
theorem leW_int {k : IntKind} {a b : Int} (h : a = b) : @leW (.int k a) ⟨.int k b⟩ := h ▸ AV.le_refl _
theorem leW_lst {w : Nat} {a b : List AV} (h : a = b) : @leW (.lst w a) ⟨.lst w b⟩ := h ▸ AV.le_refl _
theorem leW_nilS {w : Nat} {b : List AV} (hw : 0 < w) (h : b = []) : @leW .nilS ⟨.lst w b⟩ := h ▸ AV.le_nilS hw
theorem leW_nul {w : Nat} {b : List AV} (hw : 0 < w) (h : b = []) : @leW .nul ⟨.lst w b⟩ := h ▸ AV.le_nul hw
theorem leW_eq {x y : AV} (h : x = y) : @leW x ⟨y⟩ := h ▸ AV.le_refl x
theorem leW_tup2 {a b c d : AV} (h1 : @leW a ⟨c⟩) (h2 : @leW b ⟨d⟩) : @leW (.tup [a, b]) ⟨.tup [c, d]⟩ := AV.le_tup (leL_cons h1 (leL_cons h2 leL_nil))
theorem leW_tup3 {a b c d e f : AV} (h1 : @leW a ⟨d⟩) (h2 : @leW b ⟨e⟩) (h3 : @leW c ⟨f⟩) : @leW (.tup [a, b, c]) ⟨.tup [d, e, f]⟩ := AV.le_tup (leL_cons h1 (leL_cons h2 (leL_cons h3 leL_nil)))
theorem leW_agg_nil : @leW (.agg []) ⟨.agg []⟩ := AV.le_refl _
theorem leW_agg_cons {x y : AV} {xs ys : List AV} (h1 : @leW x ⟨y⟩) (h2 : @leW (.agg xs) ⟨.agg ys⟩) : @leW (.agg (x :: xs)) ⟨.agg (y :: ys)⟩ := fun S v hv => by
  obtain ⟨vs, rfl, u, r, rfl, k1, k2⟩ := hv
  obtain ⟨r', hr', k3⟩ := h2 S (.agg r.toArray) ⟨r, rfl, k2⟩
  have : r = r' := by simpa using hr'
  subst this
  exact ⟨u :: r, rfl, u, r, rfl, h1 S u k1, k3⟩

theorem getD_map {α : Type} [Inhabited α] (f : α → AV) (l : List α) (i : Nat) : (l.map f).getD i .any = if i < l.length then f (l.getD i default) else .any := by
  by_cases h : i < l.length <;> simp [List.getD, h]
/-- What stands at a place. -/
def nth {α : Type} [Inhabited α] (l : List α) (i : Nat) : α := l.getD i default
theorem getD_map' {α : Type} [Inhabited α] (f : α → AV) (l : List α) (i : Nat) (h : i < l.length) : (l.map f).getD i .any = f (nth l i) := by rw [getD_map, if_pos h]; rfl
theorem drop_map {α : Type} (f : α → AV) (l : List α) (i : Nat) : (l.map f).drop i = (l.drop i).map f := List.map_drop.symm
theorem take_map {α : Type} (f : α → AV) (l : List α) (i : Nat) : (l.map f).take i = (l.take i).map f := List.map_take.symm
theorem app_map {α : Type} (f : α → AV) (l m : List α) : l.map f ++ m.map f = (l ++ m).map f := List.map_append.symm
theorem pure_map {α : Type} {f : α → AV} (h : ∀ x, (f x).pure = true) : ∀ l : List α, pureL (l.map f) = true
  | [] => rfl
  | x :: l => by simp [pureL, h x, pure_map h l]
theorem pure_int (k : IntKind) (l : List Int) : pureL (l.map (AV.int k)) = true := pure_map (fun _ => rfl) l
theorem pure_int' (k : IntKind) (l : List Int) : pureL (l.map fun x => AV.int k x) = true := pure_map (fun _ => rfl) l
theorem pure_bool (l : List Bool) : pureL (l.map AV.bool) = true := pure_map (fun _ => rfl) l
attribute [push_cast] z34 z35 K_mkMap K_mapGet K_mapSet K_len_full K_iaddr_f K_eqn_full slc_full slc_full3 app_full findM_nil findM_cons setM_nil setM_cons Q_mapGet
attribute [push_cast] nx_eval nq_eval optN_some ifN_true ifN_false app_nilS app_nul app_ref slc_lst slc_nil slc_ref slc_lst3 slc_nil3 slc_nul3 slc_ref3 K_mv K_pick K_alloc K_box K_build K_bslice K_load_c K_load_p K_store K_nilc K_nilp K_nilf K_add K_sub K_mul K_quo K_rem K_and K_or K_xor K_andNot K_shl K_shr K_eql K_neq K_lss K_leq K_gtr K_geq K_seql K_sneq K_eqb K_eqs K_eqn_nil K_eqn_lst K_eqn_ref K_not K_neg K_conv K_toStr K_slice K_faddr_c K_faddr_p K_field K_iaddr_l K_iaddr_r K_iaddrA_p K_iaddrA_c K_index K_indexStr K_extract K_len_nil K_len_nul K_len_lst K_len_ref K_len_str K_app K_max K_min K_mkSlice K_mkFunc K_call Q_mv Q_pick Q_build Q_load Q_nilCheck Q_bin Q_eqb Q_eqs Q_eqn Q_un Q_conv Q_slice Q_faddr Q_field Q_iaddr Q_iaddrA Q_index Q_indexStr Q_extract Q_len Q_max Q_min Q_mkFunc Q_toStr Q_callq Q_bsl
attribute [push_cast] z21 z22 z23 z24 z25 z26 z27 put_eval
attribute [push_cast] partV AV.cells AV.isAny allOne AV.one setPart eqL eq1 ElemsOk elemsOf FitAll setAll fillA optA List.replicate pureL AV.pure Ret res_nil res_slot res_cell resV drop_map take_map pure_int pure_int' pure_bool
end Go.Proofs.Ytdmjhlofphhldaa.Abs
