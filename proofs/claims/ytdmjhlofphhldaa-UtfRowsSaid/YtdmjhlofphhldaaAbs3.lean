/-
  What each operation does to data: 'stepA'. And how an operation of the model is read as one of these: 'compK'.
-/
import Derived.Test.YtdmjhlofphhldaaAbs2
set_option linter.unusedSimpArgs false
set_option linter.unusedVariables false
namespace Go.Proofs.Ytdmjhlofphhldaa.Abs

abbrev Env := Nat → AV

/-- An operand. -/
inductive AArg where
  | slot (t : Nat)
  | const (x : AV)

def AArg.eval (env : Env) : AArg → AV
  | .slot t => env t
  | .const x => x

/-- The kinds of operations, all that they need of types written out. -/
inductive AK where
  | mv
  | pick
  | alloc (zero : AV) (w : Nat)
  | box
  | build (zero : List AV) (places : List (Nat × Nat)) (idx : List Nat)
  | bslice (w len : Nat) (zero : AV) (idx : List Nat)
  | load (a : Bool) (s : Nat)
  | store (s : Nat)
  | nilCheck
  | bin (op : BinOp)
  | eqb (neg : Bool)
  | eqs (neg : Bool) (ks : List Nat)
  | eqn (neg : Bool)
  | un (op : UnOp)
  | conv (k : IntKind)
  | toStr
  | slice (w : Nat) (lo hi mx : Bool)
  | faddr (a : Bool) (off s : Nat)
  | field (a : Bool) (off s : Nat)
  | iaddr (w : Nat)
  | iaddrA (n w : Nat) (a : Bool)
  | index (n w : Nat) (a : Bool)
  | indexStr
  | extract (i : Nat)
  | len (str : Bool)
  | app (w bytes : Nat) (zero : AV)
  | max
  | min
  | mkSlice (w bytes : Nat) (zero : AV)
  | mkFunc (f : Nat)
  | mkMap
  | mapGet (zero : AV)
  | mapSet
  | call

/-! ### Constants -/
def avOf1 : Value → Option AV
  | .bool b => some (.bool b)
  | .int k n => some (.int k n)
  | .string s => some (.str s.data.toList)
  | .slice none 0 0 => some .nilS
  | .pointer none => some .nilP
  | .nilFunc => some .nilF
  | _ => none
def avsOf : List Value → Option (List AV)
  | [] => some []
  | v :: vs => match avOf1 v, avsOf vs with
    | some x, some xs => some (x :: xs)
    | _, _ => none
def avOf : Value → Option AV
  | .agg cs => (avsOf cs.toList).map .agg
  | v => avOf1 v

/-! ### What a call says -/
/-- The function f is entered at a call, with its arguments. -/
def Enters (P : Program) (f : Nat) : Prop := ∀ cargs w, (callFunc f cargs).run P w = .ok (.enter f cargs) w

/-- Called with data xs, over the groups H: the function returns x, and leaves the groups H', of which K is true. -/
def ACalls (P : Program) (f : Nat) (xs : List AV) (H : AHeap) (K : AV → AHeap → Prop) : Prop :=
  Enters P f ∧ ∀ (S : MS) (cargs : List Value), SRel S H → VsRel S xs cargs →
    Calls P f cargs.toArray S.w fun e w' => ∃ v S' x H', e = .returned v ∧ S'.w = w' ∧ Evo S S' ∧ SRel S' H' ∧ VRel S' x v ∧ K x H'

theorem ACalls.mono {P : Program} {f : Nat} {xs : List AV} {H : AHeap} {K K' : AV → AHeap → Prop} (h : ACalls P f xs H K) (hk : ∀ x H', K x H' → K' x H') : ACalls P f xs H K' :=
  ⟨h.1, fun S cargs hS hx => (h.2 S cargs hS hx).mono fun _ _ ⟨v, S', x, H', h1, h2, h3, h4, h5, h6⟩ => ⟨v, S', x, H', h1, h2, h3, h4, h5, hk _ _ h6⟩⟩

/-! ### Data -/
/-- A part of a struct or an array: the cells from 'off' on, so many; one cell, if it is no struct. -/
def partV (a : Bool) (off s : Nat) (x : AV) : AV := if a then .agg ((x.cells.drop off).take s) else x.cells.getD off .any
/-- With a part replaced. -/
def setPart (w o s : Nat) (e x : AV) : AV := if s = w then x else .agg (e.cells.take o ++ x.cells ++ e.cells.drop (o + s))

/-- One cell, of which something is known. -/
def AV.one : AV → Bool
  | .any | .agg _ | .tup _ => false
  | _ => true
def allOne : List AV → Bool
  | [] => true
  | x :: xs => x.one && allOne xs

/-- Are two plain values of one kind (0: bool, 1: int, 2: string) alike? -/
def eq1 : Nat → AV → AV → Option Bool
  | 1, .int k a, .int k' b => if k = k' then some (decide (a = b)) else none
  | 0, .bool a, .bool b => some (a == b)
  | 2, .str a, .str b => some (decide (a = b))
  | _, _, _ => none
def eqL : List Nat → List AV → List AV → Option Bool
  | [], [], [] => some true
  | k :: ks, x :: xs, y :: ys => match eq1 k x y, eqL ks xs ys with
    | some a, some b => some (a && b)
    | _, _ => none
  | _, _, _ => none

/-- A number's low bits, as a bit pattern. -/
def bitsI (op : BinOp) (k : IntKind) (a b : Int) : Int :=
  match op with
  | .and => k.wrap (BitVec.ofInt k.bits a &&& BitVec.ofInt k.bits b).toNat
  | .or => k.wrap (BitVec.ofInt k.bits a ||| BitVec.ofInt k.bits b).toNat
  | .xor => k.wrap (BitVec.ofInt k.bits a ^^^ BitVec.ofInt k.bits b).toNat
  | _ => k.wrap (BitVec.ofInt k.bits a &&& ~~~BitVec.ofInt k.bits b).toNat

def binI (op : BinOp) (k : IntKind) (a b : Int) (K : AV → Prop) : Prop :=
  match op with
  | .add => K (.int k (k.wrap (a + b)))
  | .sub => K (.int k (k.wrap (a - b)))
  | .mul => K (.int k (k.wrap (a * b)))
  | .quo => b ≠ 0 ∧ K (.int k (k.wrap (a.tdiv b)))
  | .rem => b ≠ 0 ∧ K (.int k (a.tmod b))
  | .and => K (.int k (bitsI .and k a b))
  | .or => K (.int k (bitsI .or k a b))
  | .xor => K (.int k (bitsI .xor k a b))
  | .andNot => K (.int k (bitsI .andNot k a b))
  | .eql => K (.bool (decide (a = b)))
  | .neq => K (.bool (!decide (a = b)))
  | .lss => K (.bool (decide (a < b)))
  | .leq => K (.bool (decide (a ≤ b)))
  | .gtr => K (.bool (decide (b < a)))
  | .geq => K (.bool (decide (b ≤ a)))
  | .shl | .shr => False

/-- The elements of a slice, by what is told of the groups. -/
def elemsOf (H : AHeap) : AV → Option (List AV)
  | .nilS | .nul | .emp => some []
  | .lst _ xs | .full _ xs => some xs
  | .ref g _ off len => some (((H.at_ g).xs.drop off).take len)
  | .str s => some (s.map fun b => .int .u8 b.toNat)
  | _ => none
/-- .. and when that may be asked. -/
def ElemsOk (H : AHeap) (w : Nat) : AV → Prop
  | .nilS | .nul | .emp => True
  | .str _ => w = 1
  | .lst w' _ | .full w' _ => w' = w
  | .ref g v off len => (H.at_ g).ver = v ∧ (H.at_ g).w = w ∧ off + len ≤ (H.at_ g).xs.length
  | _ => False

def fillA (places : List (Nat × Nat)) : List Nat → List AV → List AV → Option (List AV)
  | [], [], cs => some cs
  | i :: is, x :: xs, cs => match places[i]? with
    | some (off, s) => if x.cells.length = s ∧ allOne x.cells = true ∧ off + s ≤ cs.length then fillA places is xs (cs.take off ++ x.cells ++ cs.drop (off + s)) else none
    | none => none
  | _, _, _ => none

def setAll : List Nat → List AV → List AV → List AV
  | i :: is, x :: xs, es => setAll is xs (es.set i x)
  | _, _, es => es
def FitAll (w len : Nat) : List Nat → List AV → Prop
  | [], [] => True
  | i :: is, x :: xs => i < len ∧ x.cells.length = w ∧ allOne x.cells = true ∧ FitAll w len is xs
  | _, _ => False

/-- A slice's part. -/
def sliceA (w : Nat) (x : AV) (lo hi mx : Option Int) (H : AHeap) (K : AV → Prop) : Prop :=
  match mx, x with
  | some m, x => m = 0 ∧ hi = some 0 ∧ (lo = none ∨ lo = some 0) ∧ (match x with | .nilS => K .nilS | .nul | .lst .. | .full .. | .ref .. => K .nul | _ => False)
  | none, .nilS => (lo = none ∨ lo = some 0) ∧ (hi = none ∨ hi = some 0) ∧ K .nilS
  | none, .nul => (lo = none ∨ lo = some 0) ∧ (hi = none ∨ hi = some 0) ∧ K .nul
  | none, .lst w' xs => w' = w ∧ 0 ≤ lo.getD 0 ∧ lo.getD 0 ≤ hi.getD xs.length ∧ hi.getD xs.length ≤ xs.length ∧ K (.lst w' ((xs.take (hi.getD xs.length).toNat).drop (lo.getD 0).toNat))
  | none, .full w' xs => w' = w ∧ 0 ≤ lo.getD 0 ∧ lo.getD 0 ≤ hi.getD xs.length ∧ hi.getD xs.length ≤ xs.length ∧ K (.lst w' ((xs.take (hi.getD xs.length).toNat).drop (lo.getD 0).toNat))
  | none, .ref g v off len => (H.at_ g).ver = v ∧ (H.at_ g).w = w ∧ 0 < w ∧ 0 ≤ lo.getD 0 ∧ lo.getD 0 ≤ hi.getD len ∧ (hi.getD len ≤ len ∨ (H.at_ g).exact = true ∧ off + hi.getD len ≤ (H.at_ g).xs.length) ∧
      K (.ref g v (off + (lo.getD 0).toNat) ((hi.getD len).toNat - (lo.getD 0).toNat))
  | _, _ => False

def intOfA : AV → Int
  | .int _ n => n
  | _ => 0
def optA : Bool → List AV → Option (Option Int × List AV)
  | true, .int _ n :: l => some (some n, l)
  | false, l => some (none, l)
  | _, _ => none

/-- What a map has at a key. -/
def findM (z : AV) (n : Int) : List AV → Option AV
  | [] => some z
  | .int .i64 m :: y :: r => if m = n then some y else findM z n r
  | _ => none
/-- .. with another value there. -/
def setM (n : Int) (x : AV) : List AV → Option (List AV)
  | [] => some [.int .i64 n, x]
  | .int .i64 m :: y :: r => if m = n then some (.int .i64 m :: x :: r) else (setM n x r).map fun r' => .int .i64 m :: y :: r'
  | _ => none

def appendA (w bytes : Nat) (s : AV) (news : List AV) (H : AHeap) (K : AV → AHeap → Prop) : Prop :=
  match s with
  | .nilS | .nul => news.length * bytes ≤ 140737488355328 ∧ K (.ref H.n 1 0 news.length) (H.push ⟨w, 1, news.isEmpty, news⟩)
  | .full w' xs => w' = w ∧ 0 < news.length ∧ (xs.length + news.length) * bytes ≤ 140737488355328 ∧ K (.ref H.n 1 0 (xs.length + news.length)) (H.push ⟨w, 1, false, xs ++ news⟩)
  | .ref g v off len =>
    (H.at_ g).ver = v ∧ (H.at_ g).w = w ∧ (len + news.length) * bytes ≤ 140737488355328 ∧ off + len ≤ (H.at_ g).xs.length ∧
    (match (!(H.at_ g).exact || (H.at_ g).xs.isEmpty) with
     | false =>
       (off + len + news.length ≤ (H.at_ g).xs.length → K (.ref g v off (len + news.length)) (H.set g ⟨w, v, true, (H.at_ g).xs.take (off + len) ++ news ++ (H.at_ g).xs.drop (off + len + news.length)⟩)) ∧
       ((H.at_ g).xs.length < off + len + news.length → K (.ref H.n 1 0 (len + news.length)) (H.push ⟨w, 1, false, ((H.at_ g).xs.drop off).take len ++ news⟩))
     | true => off + len = (H.at_ g).xs.length ∧ off = 0 ∧ K (.ref g (v + 1) off (len + news.length)) (H.set g ⟨w, v + 1, (H.at_ g).exact && news.isEmpty, (H.at_ g).xs ++ news⟩))
  | _ => False

/-- f, of what there is. -/
def optK {α : Type} (o : Option α) (f : α → Prop) : Prop := match o with
  | some x => f x
  | none => False
theorem optK_elim {α : Type} {o : Option α} {f : α → Prop} (h : optK o f) : ∃ x, o = some x ∧ f x := by
  cases o with
  | none => exact h.elim
  | some x => exact ⟨x, rfl, h⟩

/-- What an operation does: K, of the value that it yields and of the groups behind it; and what must be true for it to go through. -/
def stepA (P : Program) : AK → AHeap → List AV → (AV → AHeap → Prop) → Prop
  | .mv, H, [x], K => K x H
  | .pick, H, [.bool c, a, b], K => K (bif c then a else b) H
  | .alloc z w, H, [], K => K (.ptr H.n 1 0 0) (H.push ⟨w, 1, true, [z]⟩)
  | .box, H, [x], K => allOne x.cells = true ∧ 0 < x.cells.length ∧ K (.ptr H.n 1 0 0) (H.push ⟨x.cells.length, 1, true, [x]⟩)
  | .build z places idx, H, xs, K => optK (fillA places idx xs z) fun cs => K (.agg cs) H
  | .bslice w len z idx, H, xs, K => FitAll w len idx xs ∧ K (.ref H.n 1 0 len) (H.push ⟨w, 1, true, setAll idx xs (List.replicate len z)⟩)
  | .load a s, H, [.cptr x], K => x.isAny = false ∧ x.cells.length = s ∧ (a = false → s = 1) ∧ K (partV a 0 s x) H
  | .load a s, H, [.ptr g v i o], K => (H.at_ g).ver = v ∧ i < (H.at_ g).xs.length ∧ ((H.at_ g).xs.getD i .any).isAny = false ∧ ((H.at_ g).xs.getD i .any).cells.length = (H.at_ g).w ∧ 0 < s ∧ o + s ≤ (H.at_ g).w ∧
      (a = false → s = 1) ∧ K (partV a o s ((H.at_ g).xs.getD i .any)) H
  | .store s, H, [.ptr g v i o, x], K => (H.at_ g).ver = v ∧ i < (H.at_ g).xs.length ∧ 0 < s ∧ o + s ≤ (H.at_ g).w ∧ x.cells.length = s ∧ allOne x.cells = true ∧
      (s = (H.at_ g).w ∨ ((H.at_ g).xs.getD i .any).isAny = false ∧ ((H.at_ g).xs.getD i .any).cells.length = (H.at_ g).w) ∧
      K .any (H.set g ⟨(H.at_ g).w, v, (H.at_ g).exact, (H.at_ g).xs.set i (setPart (H.at_ g).w o s ((H.at_ g).xs.getD i .any) x)⟩)
  | .nilCheck, H, [x], K => match x with
    | .cptr _ | .ptr .. | .fn .. => K x H
    | _ => False
  | .bin op, H, [.int k a, .int k' b], K => match op with
    | .shl => 0 ≤ b ∧ K (.int k (k.wrap (a * 2 ^ (Min.min b.toNat k.bits)))) H
    | .shr => 0 ≤ b ∧ K (.int k (a.fdiv (2 ^ (Min.min b.toNat k.bits)))) H
    | op => k = k' ∧ binI op k a b fun x => K x H
  | .bin op, H, [.str a, .str b], K => match op with
    | .eql => K (.bool (decide (a = b))) H
    | .neq => K (.bool (!decide (a = b))) H
    | _ => False
  | .eqb neg, H, [.bool a, .bool b], K => K (.bool (if neg then !(a == b) else a == b)) H
  | .eqs neg ks, H, [.agg as, .agg bs], K => optK (eqL ks as bs) fun b => K (.bool (if neg then !b else b)) H
  | .eqn neg, H, [x, .nilS], K => match x with
    | .nilS => K (.bool (!neg)) H
    | .emp => K (.bool neg) H
    | .lst _ xs | .full _ xs => xs ≠ [] ∧ K (.bool neg) H
    | .ref _ _ _ len => 0 < len ∧ K (.bool neg) H
    | _ => False
  | .un op, H, [x], K => match op, x with
    | .not, .bool b => K (.bool (!b)) H
    | .neg, .int k n => K (.int k (k.wrap (0 - n))) H
    | _, _ => False
  | .conv k, H, [.int _ n], K => K (.int k (k.wrap n)) H
  | .toStr, H, [x], K => ElemsOk H 1 x ∧ (match x with | .str _ => False | _ => True) ∧ ∃ bs : List UInt8, elemsOf H x = some (bs.map fun b => .int .u8 b.toNat) ∧ K (.str bs) H
  | .slice w lo hi mx, H, x :: l, K =>
    optK (optA lo l) fun p => optK (optA hi p.2) fun q => optK (optA mx q.2) fun r => r.2 = [] ∧ sliceA w x p.1 q.1 r.1 H fun y => K y H
  | .faddr a off s, H, [.cptr x], K => x.isAny = false ∧ off + s ≤ x.cells.length ∧ (a = false → s = 1) ∧ 0 < s ∧ K (.cptr (partV a off s x)) H
  | .faddr _ off _, H, [.ptr g v i o], K => (H.at_ g).ver = v ∧ K (.ptr g v i (o + off)) H
  | .field a off s, H, [.agg cs], K => off + s ≤ cs.length ∧ (a = false → s = 1) ∧ K (partV a off s (.agg cs)) H
  | .iaddr w, H, [.lst w' xs, .int _ i], K => w' = w ∧ 0 ≤ i ∧ i < xs.length ∧ K (.cptr (xs.getD i.toNat .any)) H
  | .iaddr w, H, [.full w' xs, .int _ i], K => w' = w ∧ 0 ≤ i ∧ i < xs.length ∧ K (.cptr (xs.getD i.toNat .any)) H
  | .iaddr w, H, [.ref g v off len, .int _ i], K => (H.at_ g).ver = v ∧ (H.at_ g).w = w ∧ 0 ≤ i ∧ i < len ∧ K (.ptr g v (off + i.toNat) 0) H
  | .iaddrA n w _, H, [.ptr g v i o, .int _ j], K => (H.at_ g).ver = v ∧ 0 ≤ j ∧ j < n ∧ K (.ptr g v i (o + j.toNat * w)) H
  | .iaddrA n w a, H, [.cptr x, .int _ j], K => x.isAny = false ∧ 0 ≤ j ∧ j < n ∧ n * w ≤ x.cells.length ∧ (a = false → w = 1) ∧ 0 < w ∧ K (.cptr (partV a (j.toNat * w) w x)) H
  | .index n w a, H, [.agg cs, .int _ j], K => 0 ≤ j ∧ j < n ∧ n * w ≤ cs.length ∧ (a = false → w = 1) ∧ K (partV a (j.toNat * w) w (.agg cs)) H
  | .indexStr, H, [.str s, .int _ j], K => 0 ≤ j ∧ j < s.length ∧ K (.int .u8 (s.getD j.toNat 0).toNat) H
  | .extract i, H, [.tup vs], K => i < vs.length ∧ K (vs.getD i .any) H
  | .len false, H, [x], K => match x with
    | .nilS | .nul | .emp => K (.int .i64 0) H
    | .lst _ xs | .full _ xs => K (.int .i64 xs.length) H
    | .ref _ _ _ len => K (.int .i64 len) H
    | _ => False
  | .len true, H, [.str s], K => K (.int .i64 s.length) H
  | .app w bytes _, H, [s, x], K => ElemsOk H w x ∧ optK (elemsOf H x) fun news => appendA w bytes s news H K
  | .max, H, [.int k a, .int k' b], K => k = k' ∧ K (.int k (Max.max a b)) H
  | .min, H, [.int k a, .int k' b], K => k = k' ∧ K (.int k (Min.min a b)) H
  | .mkSlice w bytes z, H, [.int _ l, .int _ c], K => 0 ≤ l ∧ l ≤ c ∧ c * bytes ≤ 140737488355328 ∧ K (.ref H.n 1 0 l.toNat) (H.push ⟨w, 1, true, List.replicate c.toNat z⟩)
  | .mkFunc f, H, xs, K => K (.fn f xs) H
  | .mkMap, H, [], K => K (.map H.n 1) (H.push ⟨0, 1, true, []⟩)
  | .mapGet z, H, [.map g v, .int k n], K => k = .i64 ∧ (H.at_ g).ver = v ∧ (H.at_ g).w = 0 ∧ (H.at_ g).exact = true ∧ optK (findM z n (H.at_ g).xs) fun y => K y H
  | .mapSet, H, [.map g v, .int k n, x], K => k = .i64 ∧ (H.at_ g).ver = v ∧ (H.at_ g).w = 0 ∧ (H.at_ g).exact = true ∧ optK (setM n x (H.at_ g).xs) fun ys => K .any (H.set g ⟨0, v, true, ys⟩)
  | .call, H, .fn f caps :: xs, K => ACalls P f (xs ++ caps) H K
  | _, _, _, _ => False

end Go.Proofs.Ytdmjhlofphhldaa.Abs
