/-
  An operation of the model, read as one of the kinds.
-/
import Derived.Test.YtdmjhlofphhldaaAbs3
import Derived.StillTail
set_option linter.unusedSimpArgs false
set_option linter.unusedVariables false
namespace Go.Proofs.Ytdmjhlofphhldaa.Abs

def isAggD : TypeDesc → Bool
  | .struct _ | .array _ _ => true
  | _ => false

/-- What is known of a type: its size, its bytes, whether it is a struct or an array. -/
def aggSize (P : Program) (t : TypeId) : Option (Bool × Nat) :=
  match P.info? t, P.underlying t with
  | some i, some d => if 0 < i.size && (isAggD d || i.size == 1) then some (isAggD d, i.size) else none
  | _, _ => none

/-- The kind of a plain type (0: bool, 1: int, 2: string). -/
def plainD : TypeDesc → Option Nat
  | .bool => some 0
  | .int _ => some 1
  | .string => some 2
  | _ => none

/-- The kinds of a struct's fields, plain ones, of one cell each. -/
def plainFields (P : Program) : Nat → List Field → Option (List Nat)
  | _, [] => some []
  | i, f :: fs => if f.offset == i && f.name != "_" then
      match (P.underlying f.type).bind plainD, plainFields P (i + 1) fs with
      | some k, some ks => some (k :: ks)
      | _, _ => none
    else none

def compBuiltin (P : Program) (b : Builtin) (ts : Array TypeId) : Option AK :=
  match b with
  | .len => match ts[0]? with
    | some t => match P.underlying t with
      | some (.slice _) => some (.len false)
      | some .string => some (.len true)
      | _ => none
    | none => none
  | .max => some .max
  | .min => some .min
  | .append => match ts[0]?, ts[1]? with
    | some t, some u => if ts = #[t, u] then
        match P.underlying t, P.underlying u with
        | some (.slice e), some (.slice _) | some (.slice e), some .string => match P.info? e with
          | some i => match i.zero with
            | some z => match avOf z with
              | some x => if 0 < i.size && 0 < i.bytes && z.cells.size == i.size then some (.app i.size i.bytes x) else none
              | none => none
            | none => none
          | none => none
        | _, _ => none
      else none
    | _, _ => none
  | _ => none

def isAggV : Value → Bool
  | .agg _ => true
  | _ => false

/-- Where a struct's fields lie, and their sizes. -/
def placesOf (P : Program) : List Field → Option (List (Nat × Nat))
  | [] => some []
  | f :: fs => match P.info? f.type, placesOf P fs with
    | some j, some l => some ((f.offset, j.size) :: l)
    | _, _ => none

def compK (P : Program) (op : Op) : Option AK :=
  match op with
  | .move _ | .assign _ => some .mv
  | .pick .. => some .pick
  | .alloc t => match P.info? t with
    | some i => match i.zero with
      | some z => match avOf z with
        | some x => if 0 < z.cells.size && z.cells.all (·.oneCell') then some (.alloc x z.cells.size) else none
        | none => none
      | none => none
    | none => none
  | .box _ _ => some .box
  | .build t ps => match P.underlying t, P.info? t with
    | some (.struct fs), some i => match i.zero with
      | some z => match avOf z with
        | some x => match placesOf P fs.toList with
          | some places => if z.cells.size == x.cells.length && isAggV z then some (.build x.cells places (ps.toList.map (·.1))) else none
          | none => none
        | none => none
      | none => none
    | some (.array n e), some i => match i.zero with
      | some z => match avOf z with
        | some x => match P.info? e with
          | some j => if z.cells.size == x.cells.length && isAggV z then some (.build x.cells ((List.range n).map fun q => (q * j.size, j.size)) (ps.toList.map (·.1))) else none
          | none => none
        | none => none
      | none => none
    | _, _ => none
  | .buildSlice t len ps => match P.underlying t with
    | some (.slice e) => match P.info? e with
      | some i => match i.zero with
        | some z => match avOf z with
          | some x => if 0 < i.size && z.cells.size == i.size && z.cells.all (·.oneCell') && decide (len * i.size ≤ 2 ^ 24) then some (.bslice i.size len x (ps.toList.map (·.1))) else none
          | none => none
        | none => none
      | none => none
    | _ => none
  | .load t _ => (aggSize P t).map fun (a, s) => .load a s
  | .store t _ _ => (aggSize P t).map fun (_, s) => .store s
  | .nilCheck _ => some .nilCheck
  | .binOp op t _ _ _ =>
    if op == .eql || op == .neq then
      match P.underlying t with
      | some .bool => some (.eqb (op == .neq))
      | some (.int _) | some .string => some (.bin op)
      | some (.struct fs) => if !P.stoodInHeld t && !P.eqGuardType P.depth t then (plainFields P 0 fs.toList).map (.eqs (op == .neq)) else none
      | some (.slice _) => some (.eqn (op == .neq))
      | _ => none
    else some (.bin op)
  | .unOp op _ _ => some (.un op)
  | .convert src dst _ => match P.underlying src, P.underlying dst with
    | some (.int _), some (.int k) => some (.conv k)
    | some (.slice e), some .string => match P.underlying e with
      | some (.int .u8) => some .toStr
      | _ => none
    | _, _ => none
  | .slice t _ lo hi mx => match P.underlying t with
    | some (.slice e) => match P.info? e with
      | some i => if 0 < i.size then some (.slice i.size lo.isSome hi.isSome mx.isSome) else none
      | none => none
    | _ => none
  | .fieldAddr t _ f => match P.underlying t with
    | some (.struct fs) => match fs[f]? with
      | some fl => (aggSize P fl.type).map fun (a, s) => .faddr a fl.offset s
      | none => none
    | _ => none
  | .field t _ f => match P.underlying t with
    | some (.struct fs) => match fs[f]? with
      | some fl => (aggSize P fl.type).map fun (a, s) => .field a fl.offset s
      | none => none
    | _ => none
  | .indexAddr t _ _ => match P.underlying t with
    | some (.slice e) => match P.info? e with
      | some i => if 0 < i.size then some (.iaddr i.size) else none
      | none => none
    | some (.array n e) => if n ≤ 1 then none else (aggSize P e).map fun (a, s) => .iaddrA n s a
    | _ => none
  | .index t _ _ => match P.underlying t with
    | some (.array n e) => (aggSize P e).map fun (a, s) => .index n s a
    | some .string => some .indexStr
    | _ => none
  | .extract _ i => some (.extract i)
  | .makeSlice t _ _ => match P.underlying t with
    | some (.slice e) => match P.info? e with
      | some i => match i.zero with
        | some z => match avOf z with
          | some x => if 0 < i.size && 0 < i.bytes && z.cells.size == i.size && z.cells.all (·.oneCell') then some (.mkSlice i.size i.bytes x) else none
          | none => none
        | none => none
      | none => none
    | _ => none
  | .makeFunc fn first _ => match fn with
    | .func f => if first.isEmpty then some (.mkFunc f) else none
    | _ => none
  | .makeMap _ none => some .mkMap
  | .lookup t _ _ false => match P.underlying t with
    | some (.map k e) => match P.underlying k, P.info? e with
      | some (.int .i64), some i => match i.zero with
        | some z => (avOf z).map .mapGet
        | none => none
      | _, _ => none
    | _ => none
  | .mapUpdate t _ _ _ => match P.underlying t with
    | some (.map k _) => match P.underlying k with
      | some (.int .i64) => some .mapSet
      | _ => none
    | _ => none
  | .call c => match c.callee with
    | .value _ => some .call
    | .builtin b => compBuiltin P b c.argTypes
    | _ => none
  | _ => none

/-- An operand, of which the slot is there. -/
def compArg (n : Nat) : Operand → Option AArg
  | .tmp t => if t < n then some (.slot t) else none
  | .const v => (avOf v).map .const
  | .func f => some (.const (.fn f []))
  | .global _ => none

structure AOp where
  dst : Option Nat
  args : List AArg
  guard : Option (Nat × Bool)
  k : AK

def compOp (P : Program) (n : Nat) (ops : Array Oper) (o : Oper) : Option AOp :=
  match compK P o.op, o.op.operands.toList.mapM (compArg n) with
  | some k, some args =>
    if o.dst.all (· < n) then
      match o.guard with
      | none => some ⟨o.dst, args, none, k⟩
      | some (j, want) => match (ops[j]?).bind (·.dst) with
        | some d => if d < n then some ⟨o.dst, args, some (d, want), k⟩ else none
        | none => none
    else none
  | _, _ => none

/-- The code. -/
inductive AC where
  | skip
  | reg (ops : List AOp)
  | dreg (ops : List AOp)
  | dtl (pre post : List AOp)
  | greg (ops : List AOp)
  | grx (fl : List Bool) (ops : List AOp)
  | seq (a b : AC)
  | cond (c : AArg) (a b : AC)
  | block (id : Nat) (c : AC)
  | loop (c : AC)
  | rng (f : AArg) (ps : List Nat) (assign body : AC)
  | exit (id : Nat)
  | ret

/-- No loop over a function. -/
def AC.free : AC → Bool
  | .seq a b => a.free && b.free
  | .cond _ a b => a.free && b.free
  | .block _ c => c.free
  | .loop c => c.free
  | .rng .. => false
  | _ => true

/-- Kinds that change no group. -/
def AK.calm : AK → Bool
  | .alloc .. | .box | .store _ | .app .. | .mkSlice .. | .mkMap | .mapSet => false
  | _ => true
/-- How many come ahead of the first one that changes a group. -/
def headLen : List AOp → Nat
  | [] => 0
  | o :: l => if o.k.calm then headLen l + 1 else 0

/-- Does it read what elements hold? -/
def AK.reads : AK → Bool
  | .load .. | .toStr | .mapGet _ => true
  | _ => false

/-- Which quiet operations commute with which effects (0: one that makes memory; 1: a store; 2: others). -/
def AK.eff : AK → Option Nat
  | .alloc .. | .box | .mkSlice .. => some 0
  | .store _ => some 1
  | .app .. => some 2
  | .mkMap | .mapSet => some 2
  | _ => none
/-- It hangs on no heap. -/
def AK.blind : AK → Bool
  | .mv | .pick | .build .. | .bslice .. | .bin _ | .eqb _ | .eqs .. | .eqn _ | .un _ | .conv _ | .field .. | .index .. | .indexStr | .extract _ | .len _ | .max | .min | .mkFunc _ | .nilCheck | .call => true
  | _ => false
def commB (q e : AK) : Bool := match e.eff with
  | some 0 => q.eff.isNone
  | some 1 => q.eff.isNone && !q.reads
  | some _ => q.eff.isNone && q.blind
  | none => true

def AK.appOk : AK → Bool
  | .app w _ _ => decide (0 < w)
  | _ => true
/-- The later one doesn't mind, or waits. -/
def pairB (md : Region.Mode) (ops : Array Oper) (L : List AOp) (i j : Nat) : Bool :=
  match L[i]?, L[j]? with
  | some qi, some qj => qi.k.eff.isNone && (qj.k.eff.isNone || commB qi.k qj.k) || Region.waitsFor md ops j i
  | _, _ => true

/-- All pairs. -/
def pairsB (md : Region.Mode) (ops : Array Oper) (L : List AOp) : Bool := L.all (·.k.appOk) && (List.range ops.size).all fun j => (List.range j).all fun i => pairB md ops L i j

/-- An operation that looks at memory beside an append: it must look at other groups. -/
def flagB (md : Region.Mode) (ops : Array Oper) (L : List AOp) (i : Nat) : Bool := match L[i]? with
  | some qi => qi.k.eff.isNone && (List.range ops.size).any fun j => decide (i < j) && (match L[j]? with | some qj => qj.k.eff == some 2 && !commB qi.k qj.k && !Region.waitsFor md ops j i | none => false)
  | none => false
def flagsB (md : Region.Mode) (ops : Array Oper) (L : List AOp) : List Bool := (List.range ops.size).map (flagB md ops L)
/-- .. pairs, then. -/
def pairX (md : Region.Mode) (ops : Array Oper) (L : List AOp) (i j : Nat) : Bool :=
  match L[i]?, L[j]? with
  | some qi, some qj => qi.k.eff.isNone && (qj.k.eff.isNone || commB qi.k qj.k || (flagsB md ops L).getD i false && qj.k.eff == some 2) || Region.waitsFor md ops j i
  | _, _ => true
def pairsX (md : Region.Mode) (ops : Array Oper) (L : List AOp) : Bool := (List.range ops.size).all fun j => (List.range j).all fun i => pairX md ops L i j

/-- A region. -/
def compReg (P : Program) (ops : Array Oper) (draw : Bool) (l : List AOp) : Option AC :=
  if draw then
    (if P.follows .mixedOrders then
      (if l.all (·.k.calm) then (if Region.lexB .any ops then some (.dreg l) else none)
       else if Region.lexTailB .any ops (headLen l) then some (.dtl (l.take (headLen l)) (l.drop (headLen l)))
       else if Region.lexB .any ops && pairsB .any ops l then some (.greg l)
       else if Region.lexB .any ops && pairsX .any ops l then some (.grx (flagsB .any ops l) l) else none)
     else none)
  else some (.reg l)

def compC (P : Program) (n : Nat) : Code → Option AC
  | .skip => some .skip
  | .label _ => some .skip
  | .region _ ops draw =>
    match ops.toList.mapM (compOp P n ops) with
    | some l => compReg P ops draw l
    | none => none
  | .seq a b => match compC P n a, compC P n b with
    | some x, some y => some (.seq x y)
    | _, _ => none
  | .cond c a b => match compArg n c, compC P n a, compC P n b with
    | some z, some x, some y => some (.cond z x y)
    | _, _, _ => none
  | .block id c => (compC P n c).map (.block id)
  | .loop c => (compC P n c).map .loop
  | .rangeFunc f ps a c => match compArg n f, compC P n a, compC P n c with
    | some z, some x, some y => some (.rng z ps.toList x y)
    | _, _, _ => none
  | .scope c => compC P n c
  | .exit id => some (.exit id)
  | .ret => some .ret
  | _ => none

inductive ARes where
  | slot (t : Nat)
  | cell (t : Nat) (a : Bool) (s : Nat)

structure AFn where
  n : Nat
  np : Nat
  res : List ARes
  body : AC

def compRes (P : Program) (n : Nat) : ResultVar → Option ARes
  | .tmp t => if t < n then some (.slot t) else none
  | .cell t ty => if t < n then (aggSize P ty).map fun (a, s) => .cell t a s else none

/-- A function, whole. 'np': how many values it is entered with. -/
def compFn (P : Program) (f : Nat) (np : Nat) : Option AFn :=
  match P.funcs[f]? with
  | some fn => match fn.body with
    | some c => match compC P fn.ntmps c, fn.results.toList.mapM (compRes P fn.ntmps) with
      | some b, some r => if np ≤ fn.ntmps && fn.name != "runtime.NumGoroutine" then some ⟨fn.ntmps, np, r, b⟩ else none
      | _, _ => none
    | none => none
  | none => none

end Go.Proofs.Ytdmjhlofphhldaa.Abs
