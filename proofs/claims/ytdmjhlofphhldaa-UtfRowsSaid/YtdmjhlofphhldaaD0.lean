/-
  What comes in, as the program's data.
-/
import Derived.Test.YtdmjhlofphhldaaC0
import Derived.Test.YtdmjhlofphhldaaAbs25
set_option linter.unusedSimpArgs false
set_option linter.unusedVariables false
namespace Go.Proofs.Ytdmjhlofphhldaa
open Abs Go.RowKit
abbrev shI : Sh := .int .i64
abbrev shSpans : Sh := .sl true [shI, shI]
abbrev shGuards : Sh := .sl false [shSpans]
abbrev shRunes : Sh := .sl false [.int .i32]
abbrev shBytes : Sh := .sl false [.int .u8]
abbrev shParts : Sh := .sl true [shI, shI, shI, shI]
abbrev shTermL : List Sh := [shI, shI, shI, shI, shI, shParts]
abbrev shTerms : Sh := .sl true shTermL
abbrev shRuleL : List Sh := [shI, shI, shGuards, shI, shTerms]
abbrev shFinalL : List Sh := [shI, shGuards, shTerms]
abbrev shDescL : List Sh := [shI, shI, shI, shI, .sl true shRuleL, .sl true shFinalL]
theorem wf_i64 {n : Int} (h : (Lit.int .i64 n).wf = true) : -9223372036854775808 ≤ n ∧ n ≤ 9223372036854775807 := by
  simpa [Lit.wf, IntKind.min, IntKind.max, IntKind.signed, IntKind.bits] using h
theorem wf_i32 {n : Int} (h : (Lit.int .i32 n).wf = true) : -2147483648 ≤ n ∧ n ≤ 2147483647 := by
  simpa [Lit.wf, IntKind.min, IntKind.max, IntKind.signed, IntKind.bits] using h
theorem wf_u8 {n : Int} (h : (Lit.int .u8 n).wf = true) : 0 ≤ n ∧ n ≤ 255 := by
  simpa [Lit.wf, IntKind.min, IntKind.max, IntKind.signed, IntKind.bits] using h
theorem bytes_ok {l : List Int} (h : ∀ n ∈ l, (Lit.int .u8 n).wf = true) : ∀ n ∈ l, 0 ≤ n ∧ n ≤ 255 := fun n hn => wf_u8 (h n hn)
theorem is_list {α : Type} {agg : Bool} {fs : List Sh} {x : AV} (f : α → AV) (Q : α → Prop) (hp : ∀ l : List α, pureL (l.map f) = true) (hpos : 0 < fs.length)
    (he : ∀ cs, IsL fs cs → ∃ a, AV.le (if agg then .agg cs else cs.headD .any) (f a) ∧ Q a) (h : Is (.sl agg fs) x) : ∃ l : List α, AV.le x (.lst fs.length (l.map f)) ∧ l.length ≤ maxLen ∧ ∀ a ∈ l, Q a := by
  rcases h with rfl | ⟨xs, rfl, hl, hx⟩
  · exact ⟨[], AV.le_nilS hpos, Nat.zero_le _, fun _ h => by cases h⟩
  · have key : ∀ xs : List AV, (∀ y ∈ xs, ∃ cs, y = (if agg then AV.agg cs else cs.headD .any) ∧ IsL fs cs) → ∃ l : List α, l.length = xs.length ∧ leL xs (l.map f) ∧ ∀ a ∈ l, Q a := by
      intro xs
      induction xs with
      | nil => intro _; exact ⟨[], rfl, leL_nil, fun _ h => by cases h⟩
      | cons y r ih =>
        intro hy
        obtain ⟨l, h1, h2, h3⟩ := ih fun z hz => hy z (List.mem_cons_of_mem _ hz)
        obtain ⟨cs, rfl, hcs⟩ := hy y (List.mem_cons_self ..)
        obtain ⟨a, h4, h5⟩ := he cs hcs
        refine ⟨a :: l, by simp [h1], leL_cons h4 h2, fun b hb => ?_⟩
        rcases List.mem_cons.1 hb with rfl | hb
        · exact h5
        · exact h3 b hb
    obtain ⟨l, h1, h2, h3⟩ := key xs hx
    exact ⟨l, AV.le_lst (by simp [h1]) (hp l) h2, by rw [h1]; exact hl, h3⟩
def i64s (l : List Int) : Prop := ∀ n ∈ l, (Lit.int .i64 n).wf = true
theorem is_ints {k : IntKind} {x : AV} (h : Is (.sl false [.int k]) x) : ∃ l : List Int, AV.le x (.lst 1 (l.map (AV.int k))) ∧ l.length ≤ maxLen ∧ ∀ n ∈ l, (Lit.int k n).wf = true :=
  is_list (fs := [.int k]) (AV.int k) (fun n => (Lit.int k n).wf = true) (pure_int k) (by simp) (fun cs h => by
    obtain ⟨_, _, rfl, ⟨n, rfl, h3⟩, _⟩ := h
    exact ⟨n, AV.le_refl _, h3⟩) h
def spanOk (s : Span) : Prop := i64s [s.lo, s.hi]
theorem is_spans {x : AV} (h : Is shSpans x) : ∃ l : List Span, AV.le x (spansV l) ∧ l.length ≤ maxLen ∧ ∀ s ∈ l, spanOk s :=
  is_list spanV spanOk pure_spans (by decide) (fun cs h => by
    obtain ⟨_, _, rfl, ⟨a, rfl, ha⟩, _, _, rfl, ⟨b, rfl, hb⟩, rfl⟩ := h
    exact ⟨⟨a, b⟩, AV.le_refl _, by simp [spanOk, i64s, ha, hb]⟩) h
theorem is_guards {x : AV} (h : Is shGuards x) : ∃ l : List (List Span), AV.le x (guardsV l) ∧ l.length ≤ maxLen ∧ ∀ g ∈ l, g.length ≤ maxLen ∧ ∀ s ∈ g, spanOk s :=
  is_list spansV (fun g => g.length ≤ maxLen ∧ ∀ s ∈ g, spanOk s) pure_guards (by decide) (fun cs h => by
    obtain ⟨c, _, rfl, hc, _⟩ := h
    obtain ⟨l, h1, h2, h3⟩ := is_spans hc
    exact ⟨l, h1, h2, h3⟩) h
def partOk (p : Part) : Prop := i64s [p.at_, p.drop, p.take, p.up]
theorem is_parts {x : AV} (h : Is shParts x) : ∃ l : List Part, AV.le x (partsV l) ∧ l.length ≤ maxLen ∧ ∀ s ∈ l, partOk s :=
  is_list partV partOk pure_parts (by decide) (fun cs h => by
    obtain ⟨_, _, rfl, ⟨a, rfl, ha⟩, _, _, rfl, ⟨b, rfl, hb⟩, _, _, rfl, ⟨c, rfl, hc⟩, _, _, rfl, ⟨d, rfl, hd⟩, rfl⟩ := h
    exact ⟨⟨a, b, c, d⟩, AV.le_refl _, by simp [partOk, i64s, ha, hb, hc, hd]⟩) h
def termOk (t : Term) : Prop := i64s [t.base, t.drop, t.take, t.up, t.sum] ∧ t.parts.length ≤ maxLen ∧ ∀ p ∈ t.parts, partOk p
theorem is_termL {cs : List AV} (h : IsL shTermL cs) : ∃ t : Term, AV.le (.agg cs) (termV t) ∧ termOk t := by
  obtain ⟨_, _, rfl, ⟨a, rfl, ha⟩, _, _, rfl, ⟨b, rfl, hb⟩, _, _, rfl, ⟨c, rfl, hc⟩, _, _, rfl, ⟨d, rfl, hd⟩, _, _, rfl, ⟨e, rfl, he⟩, x, _, rfl, hx, rfl⟩ := h
  obtain ⟨l, h1, h2, h3⟩ := is_parts hx
  exact ⟨⟨a, b, c, d, e, l⟩, AV.le_agg (leL_cons (AV.le_refl _) (leL_cons (AV.le_refl _) (leL_cons (AV.le_refl _) (leL_cons (AV.le_refl _) (leL_cons (AV.le_refl _) (leL_cons h1 leL_nil)))))), by simp [i64s, ha, hb, hc, hd, he], h2, h3⟩
theorem is_term {x : AV} (h : IsP (.rcd shTermL) x) : ∃ t : Term, AV.le x (termV t) ∧ termOk t := by
  obtain ⟨cs, rfl, hc⟩ := h
  exact is_termL hc
theorem is_terms {x : AV} (h : Is shTerms x) : ∃ l : List Term, AV.le x (termsV l) ∧ l.length ≤ maxLen ∧ ∀ t ∈ l, termOk t :=
  is_list termV termOk pure_terms (by decide) (fun cs h => by simpa using is_termL h) h
def guardsOk (g : List (List Span)) : Prop := g.length ≤ maxLen ∧ ∀ l ∈ g, l.length ≤ maxLen ∧ ∀ s ∈ l, spanOk s
def termsOk (l : List Term) : Prop := l.length ≤ maxLen ∧ ∀ t ∈ l, termOk t
def ruleOk (r : Rule) : Prop := i64s [r.from_, r.to_, r.eat] ∧ guardsOk r.guards ∧ termsOk r.out
def finalOk (f : Final) : Prop := i64s [f.from_] ∧ guardsOk f.guards ∧ termsOk f.out
theorem is_rule {cs : List AV} (h : IsL shRuleL cs) : ∃ r : Rule, AV.le (.agg cs) (ruleV r) ∧ ruleOk r := by
  obtain ⟨_, _, rfl, ⟨a, rfl, ha⟩, _, _, rfl, ⟨b, rfl, hb⟩, x, _, rfl, hx, _, _, rfl, ⟨c, rfl, hc⟩, y, _, rfl, hy, rfl⟩ := h
  obtain ⟨g, g1, g2, g3⟩ := is_guards hx
  obtain ⟨o, o1, o2, o3⟩ := is_terms hy
  exact ⟨⟨a, b, g, c, o⟩, AV.le_agg (leL_cons (AV.le_refl _) (leL_cons (AV.le_refl _) (leL_cons g1 (leL_cons (AV.le_refl _) (leL_cons o1 leL_nil))))), by simp [i64s, ha, hb, hc], ⟨g2, g3⟩, o2, o3⟩
theorem is_final {cs : List AV} (h : IsL shFinalL cs) : ∃ r : Final, AV.le (.agg cs) (finalV r) ∧ finalOk r := by
  obtain ⟨_, _, rfl, ⟨a, rfl, ha⟩, x, _, rfl, hx, y, _, rfl, hy, rfl⟩ := h
  obtain ⟨g, g1, g2, g3⟩ := is_guards hx
  obtain ⟨o, o1, o2, o3⟩ := is_terms hy
  exact ⟨⟨a, g, o⟩, AV.le_agg (leL_cons (AV.le_refl _) (leL_cons g1 (leL_cons o1 leL_nil))), by simp [i64s, ha], ⟨g2, g3⟩, o2, o3⟩
def descOk (d : Desc) : Prop := i64s [d.in_, d.out, d.states, d.start] ∧ (d.rules.length ≤ maxLen ∧ ∀ r ∈ d.rules, ruleOk r) ∧ d.finals.length ≤ maxLen ∧ ∀ f ∈ d.finals, finalOk f
theorem is_desc {x : AV} (h : IsP (.rcd shDescL) x) : ∃ d : Desc, AV.le x (descV d) ∧ descOk d := by
  obtain ⟨_, rfl, _, _, rfl, ⟨a, rfl, ha⟩, _, _, rfl, ⟨b, rfl, hb⟩, _, _, rfl, ⟨c, rfl, hc⟩, _, _, rfl, ⟨e, rfl, he⟩, x, _, rfl, hx, y, _, rfl, hy, rfl⟩ := h
  obtain ⟨r, r1, r2, r3⟩ := is_list ruleV ruleOk pure_rules (by decide) (fun cs h => by simpa using is_rule h) hx
  obtain ⟨f, f1, f2, f3⟩ := is_list finalV finalOk pure_finals (by decide) (fun cs h => by simpa using is_final h) hy
  exact ⟨⟨a, b, c, e, r, f⟩, AV.le_agg (leL_cons (AV.le_refl _) (leL_cons (AV.le_refl _) (leL_cons (AV.le_refl _) (leL_cons (AV.le_refl _) (leL_cons r1 (leL_cons f1 leL_nil)))))), by simp [i64s, ha, hb, hc, he], ⟨r2, r3⟩, f2, f3⟩
end Go.Proofs.Ytdmjhlofphhldaa
