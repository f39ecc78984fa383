/-
  The data of the program, and how values mean it.
-/
import Derived.Test.YtdmjhlofphhldaaAbs23
set_option linter.unusedSimpArgs false
set_option linter.unusedVariables false
namespace Go.Proofs.Ytdmjhlofphhldaa
open Abs
structure Span where
  lo : Int
  hi : Int
  deriving DecidableEq, Inhabited
structure Part where
  at_ : Int
  drop : Int
  take : Int
  up : Int
  deriving DecidableEq, Inhabited
structure Term where
  base : Int
  drop : Int
  take : Int
  up : Int
  sum : Int
  parts : List Part
  deriving DecidableEq, Inhabited
structure Rule where
  from_ : Int
  to_ : Int
  guards : List (List Span)
  eat : Int
  out : List Term
  deriving DecidableEq, Inhabited
structure Final where
  from_ : Int
  guards : List (List Span)
  out : List Term
  deriving DecidableEq, Inhabited
structure Desc where
  in_ : Int
  out : Int
  states : Int
  start : Int
  rules : List Rule
  finals : List Final
  deriving DecidableEq, Inhabited
abbrev intsV (l : List Int) : AV := .lst 1 (l.map (AV.int .i64))
abbrev runesV (l : List Int) : AV := .lst 1 (l.map (AV.int .i32))
abbrev bytesV (l : List Int) : AV := .lst 1 (l.map (AV.int .u8))
abbrev boolsV (l : List Bool) : AV := .lst 1 (l.map AV.bool)
abbrev spanV (s : Span) : AV := .agg [.int .i64 s.lo, .int .i64 s.hi]
abbrev spansV (l : List Span) : AV := .lst 2 (l.map spanV)
abbrev guardsV (l : List (List Span)) : AV := .lst 1 (l.map spansV)
abbrev partV (p : Part) : AV := .agg [.int .i64 p.at_, .int .i64 p.drop, .int .i64 p.take, .int .i64 p.up]
abbrev partsV (l : List Part) : AV := .lst 4 (l.map partV)
abbrev termV (t : Term) : AV := .agg [.int .i64 t.base, .int .i64 t.drop, .int .i64 t.take, .int .i64 t.up, .int .i64 t.sum, partsV t.parts]
abbrev termsV (l : List Term) : AV := .lst 6 (l.map termV)
abbrev ruleV (r : Rule) : AV := .agg [.int .i64 r.from_, .int .i64 r.to_, guardsV r.guards, .int .i64 r.eat, termsV r.out]
abbrev finalV (f : Final) : AV := .agg [.int .i64 f.from_, guardsV f.guards, termsV f.out]
abbrev rulesV (l : List Rule) : AV := .lst 5 (l.map ruleV)
abbrev finalsV (l : List Final) : AV := .lst 3 (l.map finalV)
abbrev descV (d : Desc) : AV := .agg [.int .i64 d.in_, .int .i64 d.out, .int .i64 d.states, .int .i64 d.start, rulesV d.rules, finalsV d.finals]
abbrev wordsV (l : List (List Int)) : AV := .lst 1 (l.map runesV)
theorem pure_spans (l : List Span) : pureL (l.map spanV) = true := pure_map (fun _ => rfl) l
theorem pure_parts (l : List Part) : pureL (l.map partV) = true := pure_map (fun _ => rfl) l
theorem pure_guards (l : List (List Span)) : pureL (l.map spansV) = true := pure_map (fun s => by simp only [spansV, AV.pure, pure_spans]) l
theorem pure_terms (l : List Term) : pureL (l.map termV) = true := pure_map (fun s => by simp [termV, AV.pure, pureL, pure_parts]) l
theorem pure_rules (l : List Rule) : pureL (l.map ruleV) = true := pure_map (fun s => by simp [ruleV, AV.pure, pureL, pure_guards, pure_terms]) l
theorem pure_finals (l : List Final) : pureL (l.map finalV) = true := pure_map (fun s => by simp [finalV, AV.pure, pureL, pure_guards, pure_terms]) l
theorem pure_words (l : List (List Int)) : pureL (l.map runesV) = true := pure_map (fun s => by simp only [runesV, AV.pure, pure_int]) l
attribute [push_cast] pure_spans pure_parts pure_guards pure_terms pure_rules pure_finals pure_words
end Go.Proofs.Ytdmjhlofphhldaa
