/-
  The walk's rules for heaps that are written out, for heads of loops, and for calls.
-/
import Derived.Test.YtdmjhlofphhldaaAbs22
set_option linter.unusedSimpArgs false
set_option linter.unusedVariables false
namespace Go.Proofs.Ytdmjhlofphhldaa.Abs

/-- A heap that is not written out. -/
def hset (l : List Grp) (g : Nat) (G : Grp) : AHeap := (hl l).set g G
def setQ : List Grp → Nat → Grp → Option (List Grp)
  | [], _, _ => none
  | _ :: l, 0, G => some (G :: l)
  | K :: l, g + 1, G => (setQ l g G).map (K :: ·)
theorem setQ_some : ∀ {l : List Grp} {g : Nat} {G : Grp} {l' : List Grp}, setQ l g G = some l' → g < l.length ∧ l' = l.set g G
  | [], _, _, _, h => by cases h
  | _ :: l, 0, G, _, h => by cases h; exact ⟨by simp, rfl⟩
  | K :: l, g + 1, G, l', h => by
    obtain ⟨r, hr, rfl⟩ := Option.map_eq_some_iff.1 h
    obtain ⟨h1, rfl⟩ := setQ_some hr
    exact ⟨by simpa using h1, rfl⟩
theorem hl_setQ (l : List Grp) (g : Nat) (G : Grp) : (hl l).set g G = (match setQ l g G with | some l' => hl l' | none => hset l g G) := by
  cases h : setQ l g G with
  | none => rfl
  | some l' => obtain ⟨h1, rfl⟩ := setQ_some h; exact hl_set l g G h1
theorem setQ_zero (K : Grp) (l : List Grp) (G : Grp) : setQ (K :: l) 0 G = some (G :: l) := rfl
theorem setQ_succ (K : Grp) (l : List Grp) (g : Nat) (G : Grp) : setQ (K :: l) (g + 1) G = (setQ l g G).map (K :: ·) := rfl

theorem pos_nil (g : Nat) : pos [] g = none := rfl
theorem pos_cons (k : Nat) (ks : List Nat) (g : Nat) : pos (k :: ks) g = if g = k then some 0 else (pos ks g).map (· + 1) := rfl

section
variable {b d : Nat} {H : AHeap} {ks : List Nat}
/-- Those of a list that aren't known to be data. -/
def rnL (b : Nat) (H : AHeap) (ks : List Nat) (d : Nat) (xs : List AV) : List AV := xs.map (rnV b H ks d)
theorem rn_map (xs : List AV) : xs.map (rnV b H ks (d + 1)) = bif pureL xs then xs else rnL b H ks (d + 1) xs := by
  cases h : pureL xs
  · rfl
  · have key : ∀ (d : Nat) {x : AV}, x.pure = true → rnV b H ks d x = x := by
      intro d
      induction d with
      | zero => intro x hx; simp [rnV, hx]
      | succ d ih =>
        intro x hx
        have kl : ∀ cs : List AV, pureL cs = true → cs.map (rnV b H ks d) = cs := fun cs hc => by
          have : cs.map (rnV b H ks d) = cs.map id := List.map_congr_left fun y hy => ih (pureL_mem.1 hc y hy)
          simpa using this
        cases x with
        | ref => simp [AV.pure] at hx
        | ptr => simp [AV.pure] at hx
        | map => simp [AV.pure] at hx
        | agg cs => rw [rnV, kl cs (by simpa [AV.pure] using hx)]
        | tup cs => rw [rnV, kl cs (by simpa [AV.pure] using hx)]
        | fn f cs => rw [rnV, kl cs (by simpa [AV.pure] using hx)]
        | _ => rfl
    have : xs.map (rnV b H ks (d + 1)) = xs.map id := List.map_congr_left fun y hy => key _ (pureL_mem.1 h y hy)
    simpa using this
theorem rnL_nil : rnL b H ks d [] = [] := rfl
theorem rnL_cons (x : AV) (xs : List AV) : rnL b H ks d (x :: xs) = rnV b H ks d x :: rnL b H ks d xs := rfl
theorem rn_ref (g v off len : Nat) : rnV b H ks (d + 1) (.ref g v off len) = if g < b then .ref g v off len else if v = (H.at_ g).ver then
      (match pos ks g with
       | some j => .ref (b + j) 1 off len
       | none => if 0 < (H.at_ g).w ∧ off + len ≤ (H.at_ g).xs.length then frzL (H.at_ g).w ((((H.at_ g).xs.drop off).take len).map (rnV b H ks d)) else .any)
      else .any := rfl
theorem rn_ptr (g v i o : Nat) : rnV b H ks (d + 1) (.ptr g v i o) = if g < b then .ptr g v i o else if v = (H.at_ g).ver then
      (match pos ks g with
       | some j => .ptr (b + j) 1 i o
       | none => if o = 0 ∧ i < (H.at_ g).xs.length ∧ 0 < (H.at_ g).w then frzP (rnV b H ks d ((H.at_ g).xs.getD i .any)) else .any)
      else .any := rfl
theorem rn_agg (cs : List AV) : rnV b H ks (d + 1) (.agg cs) = .agg (cs.map (rnV b H ks d)) := rfl
theorem rn_tup (cs : List AV) : rnV b H ks (d + 1) (.tup cs) = .tup (cs.map (rnV b H ks d)) := rfl
theorem rn_fn (f : Nat) (cs : List AV) : rnV b H ks (d + 1) (.fn f cs) = .fn f (cs.map (rnV b H ks d)) := rfl
theorem rn_any : rnV b H ks (d + 1) .any = .any := rfl
theorem rn_full (w : Nat) (xs : List AV) : rnV b H ks (d + 1) (.full w xs) = .full w xs := rfl
theorem rn_mp (g v : Nat) : rnV b H ks (d + 1) (.map g v) = if g < b then .map g v else if v = (H.at_ g).ver then (match pos ks g with | some j => .map (b + j) 1 | none => .any) else .any := rfl
theorem rn_bool (q : Bool) : rnV b H ks (d + 1) (.bool q) = .bool q := rfl
theorem rn_int (k : IntKind) (n : Int) : rnV b H ks (d + 1) (.int k n) = .int k n := rfl
theorem rn_str (s : List UInt8) : rnV b H ks (d + 1) (.str s) = .str s := rfl
theorem rn_nilS : rnV b H ks (d + 1) .nilS = .nilS := rfl
theorem rn_nul : rnV b H ks (d + 1) .nul = .nul := rfl
theorem rn_nilP : rnV b H ks (d + 1) .nilP = .nilP := rfl
theorem rn_nilF : rnV b H ks (d + 1) .nilF = .nilF := rfl
theorem rn_lst (w : Nat) (xs : List AV) : rnV b H ks (d + 1) (.lst w xs) = .lst w xs := rfl
theorem rn_cptr (x : AV) : rnV b H ks (d + 1) (.cptr x) = .cptr x := rfl
end

section
variable {l l0 l' : List Grp} {G G' : Grp}
theorem gl_nil : grpsLe l0 [] [] = True := rfl
theorem gl_cons : grpsLe l0 (G :: l) (G' :: l') = (grpLe l0 G G' ∧ grpsLe l0 l l') := rfl
theorem g_le : grpLe l0 G G' = (G.w = G'.w ∧ G.ver = G'.ver ∧ (G'.exact = true → G.exact = true) ∧ leSL l0 G.xs G'.xs) := rfl
theorem ls_self {x : AV} : leS l x x = True := eq_true (leS_refl l x)
theorem lsl_self {xs : List AV} : leSL l xs xs = True := eq_true (leSL_refl l xs)
theorem lsl_nil {ys : List AV} : leSL l [] ys = (ys = []) := by simp only [leSL]
theorem lsl_cons {x y : AV} {xs ys : List AV} : leSL l (x :: xs) (y :: ys) = (leS l x y ∧ leSL l xs ys) := by simp only [leSL]
theorem ls_int_int {k : IntKind} {a : Int} {k' : IntKind} {b : Int} : leS l (.int k a) (.int k' b) = (k = k' ∧ a = b) := by simp only [leS]
theorem ls_bool_bool {a : Bool} {b : Bool} : leS l (.bool a) (.bool b) = (a = b) := by simp only [leS]
theorem ls_nilS_lst  {w : Nat} {ys : List AV} : leS l .nilS (.lst w ys) = (0 < w ∧ ys = []) := by simp only [leS]
theorem ls_nilS_ref  {g v o n : Nat} : leS l .nilS (.ref g v o n) = (o = 0 ∧ n = 0 ∧ (l.getD g default).ver = v ∧ 0 < (l.getD g default).w ∧ (l.getD g default).xs = [] ∧ (l.getD g default).exact = true ∧ g < l.length) := by simp only [leS]
theorem ls_nul_lst  {w : Nat} {ys : List AV} : leS l .nul (.lst w ys) = (0 < w ∧ ys = []) := by simp only [leS]
theorem ls_emp_lst  {w : Nat} {ys : List AV} : leS l .emp (.lst w ys) = (0 < w ∧ ys = []) := by simp only [leS]
theorem ls_full_full {w : Nat} {xs : List AV} {w' : Nat} {ys : List AV} : leS l (.full w xs) (.full w' ys) = (w = w' ∧ xs = ys) := by simp only [leS]
theorem ls_full_lst {w : Nat} {xs : List AV} {w' : Nat} {ys : List AV} : leS l (.full w xs) (.lst w' ys) = (w = w' ∧ leSL l xs ys ∧ pureL ys = true) := by simp only [leS]
theorem ls_map_map {g v g' v' : Nat} : leS l (.map g v) (.map g' v') = (g = g' ∧ v = v') := by simp only [leS, AV.map.injEq]
theorem ls_lst_lst {w : Nat} {xs : List AV} {w' : Nat} {ys : List AV} : leS l (.lst w xs) (.lst w' ys) = (w = w' ∧ xs = ys) := by simp only [leS]
theorem ls_ref_ref {g v o n : Nat} {g' v' o' n' : Nat} : leS l (.ref g v o n) (.ref g' v' o' n') = (g = g' ∧ v = v' ∧ o = o' ∧ n = n') := by simp only [leS]
theorem ls_ptr_ptr {g v o n : Nat} {g' v' o' n' : Nat} : leS l (.ptr g v o n) (.ptr g' v' o' n') = (g = g' ∧ v = v' ∧ o = o' ∧ n = n') := by simp only [leS]
theorem ls_agg_agg {xs : List AV} {ys : List AV} : leS l (.agg xs) (.agg ys) = leSL l xs ys := by simp only [leS]
theorem ls_tup_tup {xs : List AV} {ys : List AV} : leS l (.tup xs) (.tup ys) = leSL l xs ys := by simp only [leS]
theorem ls_any {x : AV} : leS l x .any = True := eq_true (by cases x <;> simp only [leS])
/-- The answer. -/
def ansW (x y : AV) : Prop := leS [] x y
theorem an_self {x : AV} : ansW x x = True := ls_self
theorem an_int {k k' : IntKind} {a b : Int} : ansW (.int k a) (.int k' b) = (k = k' ∧ a = b) := ls_int_int
theorem an_bool {a b : Bool} : ansW (.bool a) (.bool b) = (a = b) := ls_bool_bool
theorem an_full {w w' : Nat} {xs ys : List AV} : ansW (.full w xs) (.lst w' ys) = (w = w' ∧ leSL [] xs ys ∧ pureL ys = true) := ls_full_lst
theorem an_lst {w w' : Nat} {xs ys : List AV} : ansW (.lst w xs) (.lst w' ys) = (w = w' ∧ xs = ys) := ls_lst_lst
theorem an_nilS {w : Nat} {ys : List AV} : ansW .nilS (.lst w ys) = (0 < w ∧ ys = []) := ls_nilS_lst
theorem an_nul {w : Nat} {ys : List AV} : ansW .nul (.lst w ys) = (0 < w ∧ ys = []) := ls_nul_lst
theorem an_emp {w : Nat} {ys : List AV} : ansW .emp (.lst w ys) = (0 < w ∧ ys = []) := ls_emp_lst
theorem an_agg {xs ys : List AV} : ansW (.agg xs) (.agg ys) = leSL [] xs ys := ls_agg_agg
theorem an_tup {xs ys : List AV} : ansW (.tup xs) (.tup ys) = leSL [] xs ys := ls_tup_tup
end
attribute [push_cast] ls_full_full ls_full_lst ls_map_map an_full rn_full rn_mp
attribute [push_cast] ls_self lsl_self lsl_nil lsl_cons ls_int_int ls_bool_bool ls_nilS_lst ls_nilS_ref ls_nul_lst ls_emp_lst ls_lst_lst ls_ref_ref ls_ptr_ptr ls_agg_agg ls_tup_tup ls_any an_self an_int an_bool an_lst an_nilS an_nul an_emp an_agg
section
variable {H H1 : AHeap} {l0 : List Grp} {b t : Nat} {ks : List Nat} {env : Env} {y : AV} {r : List (Nat × AV)}
theorem live_nil : liveLe l0 H1 b ks env [] = True := rfl
theorem live_cons : liveLe l0 H1 b ks env ((t, y) :: r) = (leS l0 (rnV b H1 ks 6 (env t)) y ∧ liveLe l0 H1 b ks env r) := rfl
theorem allB_nil {n : Nat} : allB b n [] = True := rfl
theorem allB_cons {n k : Nat} : allB b n (k :: ks) = (b ≤ k ∧ k < n ∧ allB b n ks) := rfl
theorem diffr_nil : diffr [] = True := rfl
theorem diffr_cons {k : Nat} : diffr (k :: ks) = (k ∉ ks ∧ diffr ks) := rfl
theorem srcOf_ref {w g v o n : Nat} : srcOf w (.ref g v o n) = .grp g := rfl
theorem srcOf_ptr {w g v i o : Nat} : srcOf w (.ptr g v i o) = .grp g := rfl
theorem srcOf_map {w g v : Nat} : srcOf w (.map g v) = .grp g := rfl
theorem allPos_nil : allPos [] = True := rfl
theorem allPos_cons {w : Nat} {r : List Nat} : allPos (w :: r) = (0 < w ∧ allPos r) := rfl
theorem srcOf_nilS {w : Nat} : srcOf w .nilS = .virt w := rfl
theorem cellAt_ptr {g v i o k : Nat} : cellAt H (.ptr g v i o) k = ((H.at_ g).xs.getD i .any).cells.getD k .any := rfl
theorem ks_nil {N : Nat} : srcKs N [] = ([], []) := rfl
theorem ks_grp {N g : Nat} {l : List Src} : srcKs N (.grp g :: l) = (g :: (srcKs N l).1, (srcKs N l).2) := rfl
theorem ks_virt {N w : Nat} {l : List Src} : srcKs N (.virt w :: l) = (N :: (srcKs (N + 1) l).1, w :: (srcKs (N + 1) l).2) := rfl
theorem mk_nil {j : Nat} : mkEnv [] j = .any := rfl
theorem mk_cons {j : Nat} : mkEnv ((t, y) :: r) j = if j = t then y else mkEnv r j := rfl
variable {l l1 l2 : List Grp} {G : Grp} {live : List (Nat × AV)} {heap : List Grp}
theorem head1 {p q : List Nat} : Head1 b env l (p, q) live heap = (allPos q ∧ Head2 b env (l ++ q.map virtG) p live heap) := rfl
theorem head2 : Head2 b env l1 ks live heap = (allB b l1.length ks ∧ diffr ks ∧ Head3 b env l1 (repackO b (hl l1) ks (l1.take b) ++ repackN b (hl l1) ks l1 ks) ks live heap) := rfl
theorem head3 : Head3 b env l1 l2 ks live heap = (liveLe l2 (hl l1) b ks env live ∧ grpsLe l2 l2 heap) := rfl
theorem ro_nil : repackO b H ks [] = [] := rfl
theorem ro_cons : repackO b H ks (G :: l) = rnG b H ks G.ver G :: repackO b H ks l := rfl
theorem rn_nil : repackN b H ks l [] = [] := rfl
theorem rn_cons {k : Nat} {r : List Nat} : repackN b H ks l (k :: r) = rnG b H ks 1 (l.getD k default) :: repackN b H ks l r := rfl
theorem rn_grp {v : Nat} : rnG b H ks v G = ⟨G.w, v, G.exact, G.xs.map (rnV b H ks 6)⟩ := rfl
end

theorem kill_nil (i : Nat) (ks : List Nat) : killL i ks [] = [] := rfl
theorem kill_cons (i : Nat) (ks : List Nat) (G : Grp) (l : List Grp) : killL i ks (G :: l) = (if i ∈ ks then G.dead else G) :: killL (i + 1) ks l := rfl
theorem virt_eq (w : Nat) : virtG w = ⟨w, 1, true, []⟩ := rfl
theorem frzL_eq (w : Nat) (xs : List AV) : frzL w xs = bif pureL xs then .lst w xs else .any := rfl
theorem frzP_eq (x : AV) : frzP x = bif x.pure then .cptr x else .any := rfl
theorem pureL_app (xs ys : List AV) : pureL (xs ++ ys) = (pureL xs && pureL ys) := by
  induction xs with
  | nil => rfl
  | cons x xs ih => simp [pureL, ih, Bool.and_assoc]
theorem toNat_pred (i : Nat) : ((i : Int) - 1).toNat = i - 1 := by omega
theorem toNat_succ (i : Nat) : ((i : Int) + 1).toNat = i + 1 := by omega
theorem toNat_add (i k : Nat) : ((i : Int) + (k : Int)).toNat = i + k := by omega
theorem drop_at {α : Type} [Inhabited α] {l : List α} {i : Nat} (h : i < l.length) : l.drop i = nth l i :: l.drop (i + 1) := by
  rw [List.drop_eq_getElem_cons h]; simp [nth, List.getD, h]
theorem take_at {α : Type} [Inhabited α] {l : List α} {i : Nat} (h : i < l.length) : l.take (i + 1) = l.take i ++ [nth l i] := by
  rw [List.take_succ_eq_append_getElem h]; simp [nth, List.getD, h]
theorem nth_zero {α : Type} [Inhabited α] (x : α) (l : List α) : nth (x :: l) 0 = x := rfl
theorem nth_succ {α : Type} [Inhabited α] (x : α) (l : List α) (i : Nat) : nth (x :: l) (i + 1) = nth l i := rfl
theorem nth_mem {α : Type} [Inhabited α] {l : List α} {i : Nat} (h : i < l.length) : nth l i ∈ l := by
  have : nth l i = l[i] := by simp [nth, List.getD, h]
  rw [this]; exact List.getElem_mem h
theorem nth_get {α : Type} [Inhabited α] {l : List α} {i : Nat} (h : i < l.length) : nth l i = l[i] := by simp [nth, List.getD, h]
theorem mem_nat (g k : Nat) (ks : List Nat) : (g ∈ k :: ks) = (g = k ∨ g ∈ ks) := by simp
theorem mem_nil_nat (g : Nat) : (g ∈ ([] : List Nat)) = False := by simp
theorem only_if (H : AHeap) (ks : List Nat) (g : Nat) : (H.only ks).at_ g = if g ∈ ks then H.at_ g else (H.at_ g).dead := rfl

/-- The groups that values lead to. -/
def grpsOf : List AV → List Nat
  | [] => []
  | .ref g _ _ _ :: l => g :: grpsOf l
  | .ptr g _ _ _ :: l => g :: grpsOf l
  | .agg cs :: l => grpsOf cs ++ grpsOf l
  | _ :: l => grpsOf l

def okA (d : Nat) (H : AHeap) : List AV → Prop
  | [] => True
  | x :: l => frzOk d H x ∧ okA d H l
section
variable {P : Program} {f : Nat} {xs ys : List AV} {y : AV} {l : List Grp} {H : AHeap}
theorem okA_mem {d : Nat} : ∀ {xs : List AV}, okA d H xs → ∀ x ∈ xs, frzOk d H x
  | [], _, x, hx => by simp at hx
  | z :: r, h, x, hx => by
    rcases List.mem_cons.1 hx with rfl | hx
    · exact h.1
    · exact okA_mem h.2 x hx
theorem okA_nil {d : Nat} : okA d H [] = True := rfl
theorem okA_cons {d : Nat} {x : AV} : okA d H (x :: xs) = (frzOk d H x ∧ okA d H xs) := rfl
/-- The callee's contract at data that means what is handed over. -/
theorem pc_weak (h : PC P f ys y) (hl : leL xs ys) : PC P f xs y := acalls_le hl h
def chB (c : Bool) (p q : Prop) : Prop := match c with
  | true => p
  | false => q
theorem chB_true {p q : Prop} : chB true p q = p := rfl
theorem chB_false {p q : Prop} : chB false p q = q := rfl
def frA (d : Nat) (H : AHeap) (xs : List AV) : List AV := xs.map (frzV d H)
theorem frA_nil {d : Nat} : frA d H [] = [] := rfl
theorem frA_cons {d : Nat} {x : AV} : frA d H (x :: xs) = frzV d H x :: frA d H xs := rfl
/-- CALLS, by contract. What is handed over is data; or fresh slices are lent (the answer says nothing of memory); or they are given away. -/
theorem cK {K : AV → AHeap → Prop} (h : PC P f ys y) (hh : chB (pureL xs) (leSL [] xs ys ∧ pureL ys = true ∧ @nx y (hl l) ⟨K⟩)
    (chB y.flat (okA 4 (hl l) xs ∧ leSL [] (frA 4 (hl l) xs) ys ∧ @nx y (hl l) ⟨K⟩)
      (okA 4 ((hl l).only (grpsOf xs)) xs ∧ leSL [] (frA 4 ((hl l).only (grpsOf xs)) xs) ys ∧ pureL ys = true ∧ @nx y (hl (killL 0 (grpsOf xs) l)) ⟨K⟩))) : @CallK P f xs (hl l) ⟨K⟩ := by
  cases hp : pureL xs <;> rw [hp] at hh
  · cases hy : y.flat <;> rw [hy] at hh
    · obtain ⟨h1, h2, h3, h4⟩ := hh
      exact acalls_frz 4 (grpsOf xs) (okA_mem h1) (acalls_le (leSL_le h2) (pc_call' h h3 h4))
    · obtain ⟨h1, h2, h3⟩ := hh
      exact pc_flat (pc_weak h (leSL_le h2)) 4 (okA_mem h1) rfl hy h3
  · obtain ⟨h1, h2, h3⟩ := hh
    exact acalls_le (leSL_le h1) (pc_call' h h2 h3)
theorem eK {K : AV → AHeap → Prop} (h : PC P f xs y) (hh : pureL xs = true ∧ @nx y H ⟨K⟩) : @CallK P f xs H ⟨K⟩ := pc_call' h hh.1 hh.2
theorem eQ {K : AV → Prop} (h : PC P f xs y) (hh : pureL xs = true ∧ @nq y ⟨K⟩) : @CallQ P f xs H ⟨K⟩ := ⟨y, pc_call' h hh.1 ⟨rfl, rfl⟩, hh.2⟩
theorem cQ {K : AV → Prop} (h : PC P f ys y) (hh : chB (pureL xs) (leSL [] xs ys ∧ pureL ys = true ∧ @nq y ⟨K⟩)
    (y.flat = true ∧ okA 4 (hl l) xs ∧ leSL [] (frA 4 (hl l) xs) ys ∧ @nq y ⟨K⟩)) : @CallQ P f xs (hl l) ⟨K⟩ := by
  cases hp : pureL xs <;> rw [hp] at hh
  · obtain ⟨hy, h1, h2, h3⟩ := hh
    exact ⟨y, pc_flat (pc_weak h (leSL_le h2)) 4 (okA_mem h1) rfl hy ⟨rfl, rfl⟩, h3⟩
  · obtain ⟨h1, h2, h3⟩ := hh
    exact ⟨y, acalls_le (leSL_le h1) (pc_call' h h2 ⟨rfl, rfl⟩), h3⟩
end
attribute [push_cast] okA_nil okA_cons frA_nil frA_cons chB_true chB_false AV.flat flatL

/-! ### What was made, looked at as data -/
section
variable {d : Nat} {H : AHeap}
def okL (d : Nat) (H : AHeap) (xs : List AV) : Prop := ∀ y ∈ xs, frzOk d H y
def frL (d : Nat) (H : AHeap) (xs : List AV) : List AV := xs.map (frzV d H)
def okM (d : Nat) (H : AHeap) (xs : List AV) : Prop := okL d H xs
def frM (d : Nat) (H : AHeap) (xs : List AV) : List AV := frL d H xs
def ifB (b : Bool) (p : Prop) : Prop := b = true ∨ p
theorem ifB_true (p : Prop) : ifB true p = True := by simp [ifB]
theorem ifB_false (p : Prop) : ifB false p = p := by simp [ifB]
theorem okL_eq (xs : List AV) : okL d H xs = ifB (pureL xs) (okM d H xs) := propext ⟨fun h => .inr h, fun h => h.elim (fun h => (frzL_pure H d h).1) id⟩
theorem frL_eq (xs : List AV) : frL d H xs = bif pureL xs then xs else frM d H xs := by
  cases h : pureL xs
  · rfl
  · exact (frzL_pure H d h).2
theorem okM_nil : okM d H [] = True := by simp [okM, okL]
theorem okM_cons (x : AV) (xs : List AV) : okM d H (x :: xs) = (frzOk d H x ∧ okM d H xs) := by simp [okM, okL]
theorem frM_nil : frM d H [] = [] := rfl
theorem frM_cons (x : AV) (xs : List AV) : frM d H (x :: xs) = frzV d H x :: frM d H xs := rfl
theorem ok_ref (g v off len : Nat) : frzOk (d + 1) H (.ref g v off len) = ((H.at_ g).ver = v ∧ 0 < (H.at_ g).w ∧ off + len ≤ (H.at_ g).xs.length ∧ okL d H (((H.at_ g).xs.drop off).take len)) := rfl
theorem ok_ptr (g v i o : Nat) : frzOk (d + 1) H (.ptr g v i o) = ((H.at_ g).ver = v ∧ i < (H.at_ g).xs.length ∧ 0 < (H.at_ g).w ∧ o = 0 ∧ frzOk d H ((H.at_ g).xs.getD i .any)) := rfl
theorem ok_agg (cs : List AV) : frzOk (d + 1) H (.agg cs) = okL d H cs := rfl
theorem ok_tup (cs : List AV) : frzOk (d + 1) H (.tup cs) = okL d H cs := rfl
theorem ok_fn (f : Nat) (cs : List AV) : frzOk (d + 1) H (.fn f cs) = okL d H cs := rfl
theorem ok_any : frzOk (d + 1) H .any = True := eq_true rfl
theorem ok_bool (b : Bool) : frzOk (d + 1) H (.bool b) = True := eq_true rfl
theorem ok_int (k : IntKind) (n : Int) : frzOk (d + 1) H (.int k n) = True := eq_true rfl
theorem ok_str (s : List UInt8) : frzOk (d + 1) H (.str s) = True := eq_true rfl
theorem ok_nilS : frzOk (d + 1) H .nilS = True := eq_true rfl
theorem ok_nul : frzOk (d + 1) H .nul = True := eq_true rfl
theorem ok_emp : frzOk (d + 1) H .emp = True := eq_true rfl
theorem ok_nilP : frzOk (d + 1) H .nilP = True := eq_true rfl
theorem ok_nilF : frzOk (d + 1) H .nilF = True := eq_true rfl
theorem ok_full (w : Nat) (xs : List AV) : frzOk (d + 1) H (.full w xs) = (pureL xs = true) := rfl
theorem fr_full (w : Nat) (xs : List AV) : frzV (d + 1) H (.full w xs) = .full w xs := rfl
theorem ok_lst (w : Nat) (xs : List AV) : frzOk (d + 1) H (.lst w xs) = (pureL xs = true) := rfl
theorem ok_cptr (x : AV) : frzOk (d + 1) H (.cptr x) = (x.pure = true) := rfl
theorem fr_ref (g v off len : Nat) : frzV (d + 1) H (.ref g v off len) = .lst (H.at_ g).w (frL d H (((H.at_ g).xs.drop off).take len)) := rfl
theorem fr_ptr (g v i o : Nat) : frzV (d + 1) H (.ptr g v i o) = if o = 0 then .cptr (frzV d H ((H.at_ g).xs.getD i .any)) else .any := rfl
theorem fr_agg (cs : List AV) : frzV (d + 1) H (.agg cs) = .agg (frL d H cs) := rfl
theorem fr_tup (cs : List AV) : frzV (d + 1) H (.tup cs) = .tup (frL d H cs) := rfl
theorem fr_fn (f : Nat) (cs : List AV) : frzV (d + 1) H (.fn f cs) = .fn f (frL d H cs) := rfl
theorem fr_any : frzV (d + 1) H .any = .any := rfl
theorem fr_bool (b : Bool) : frzV (d + 1) H (.bool b) = .bool b := rfl
theorem fr_int (k : IntKind) (n : Int) : frzV (d + 1) H (.int k n) = .int k n := rfl
theorem fr_str (s : List UInt8) : frzV (d + 1) H (.str s) = .str s := rfl
theorem fr_nilS : frzV (d + 1) H .nilS = .nilS := rfl
theorem fr_nul : frzV (d + 1) H .nul = .nul := rfl
theorem fr_emp : frzV (d + 1) H .emp = .emp := rfl
theorem fr_nilP : frzV (d + 1) H .nilP = .nilP := rfl
theorem fr_nilF : frzV (d + 1) H .nilF = .nilF := rfl
theorem fr_lst (w : Nat) (xs : List AV) : frzV (d + 1) H (.lst w xs) = .lst w xs := rfl
theorem fr_cptr (x : AV) : frzV (d + 1) H (.cptr x) = .cptr x := rfl
end
attribute [push_cast] ifB_true ifB_false okL_eq frL_eq okM_nil okM_cons frM_nil frM_cons ok_ref ok_ptr ok_agg ok_tup ok_fn ok_any ok_bool ok_int ok_str ok_nilS ok_nul ok_emp ok_nilP ok_nilF ok_lst ok_full fr_full ok_cptr fr_ref fr_ptr fr_agg fr_tup fr_fn fr_any fr_bool fr_int fr_str fr_nilS fr_nul fr_emp fr_nilP fr_nilF fr_lst fr_cptr List.take_length

/-! ### In a region whose order is drawn, beside what writes -/
section
variable {P : Program} {l : List Grp} {xs cs : List AV} {K : AV → List Grp → Prop} {z : AV} {w len n : Nat}
theorem G_still {k : AK} (h : k.still = true) : @opG P k l xs ⟨K⟩ = (onRefs (· < l.length) xs ∧ @opK P k (hl l) xs ⟨fun x _ => K x l⟩) := by
  rw [opK_eq]
  have hn : ¬ k.still = false := by rw [h]; simp
  cases k <;> first | (exact propext ⟨fun hh => hh.elim (fun hh => ⟨hh.2.1, hh.2.2⟩) (fun hh => absurd hh.1 hn), fun hh => .inl ⟨h, hh.1, hh.2⟩⟩) | (simp [AK.still] at h)
theorem G_eff {k : AK} (h : k.still = false) (he : k.eff.isSome = true) : @opG P k l xs ⟨K⟩ = (k.appOk = true ∧ @opK P k (hl l) xs ⟨fun x H' => ∀ l', H' = hl l' → K x l'⟩) := by
  rw [opK_eq]
  have hn : ¬ k.still = true := by rw [h]; simp
  cases k <;> first | (exact propext ⟨fun hh => hh.elim (fun hh => absurd hh.1 hn) (fun hh => ⟨hh.2.2.1, hh.2.2.2⟩), fun hh => .inr ⟨h, he, hh.1, hh.2⟩⟩) | (simp [AK.eff] at he)
theorem G_mv  : @opG P .mv l xs ⟨K⟩ = (onRefs (· < l.length) xs ∧ @opK P .mv (hl l) xs ⟨fun x _ => K x l⟩) := G_still rfl
theorem G_pick  : @opG P .pick l xs ⟨K⟩ = (onRefs (· < l.length) xs ∧ @opK P .pick (hl l) xs ⟨fun x _ => K x l⟩) := G_still rfl
theorem G_build {zs : List AV} {pl : List (Nat × Nat)} {idx : List Nat} : @opG P (.build zs pl idx) l xs ⟨K⟩ = (onRefs (· < l.length) xs ∧ @opK P (.build zs pl idx) (hl l) xs ⟨fun x _ => K x l⟩) := G_still rfl
theorem G_load {a : Bool} {s : Nat} : @opG P (.load a s) l xs ⟨K⟩ = (onRefs (· < l.length) xs ∧ @opK P (.load a s) (hl l) xs ⟨fun x _ => K x l⟩) := G_still rfl
theorem G_nilCheck  : @opG P .nilCheck l xs ⟨K⟩ = (onRefs (· < l.length) xs ∧ @opK P .nilCheck (hl l) xs ⟨fun x _ => K x l⟩) := G_still rfl
theorem G_bin {op : BinOp} : @opG P (.bin op) l xs ⟨K⟩ = (onRefs (· < l.length) xs ∧ @opK P (.bin op) (hl l) xs ⟨fun x _ => K x l⟩) := G_still rfl
theorem G_eqb {n : Bool} : @opG P (.eqb n) l xs ⟨K⟩ = (onRefs (· < l.length) xs ∧ @opK P (.eqb n) (hl l) xs ⟨fun x _ => K x l⟩) := G_still rfl
theorem G_eqs {n : Bool} {ks : List Nat} : @opG P (.eqs n ks) l xs ⟨K⟩ = (onRefs (· < l.length) xs ∧ @opK P (.eqs n ks) (hl l) xs ⟨fun x _ => K x l⟩) := G_still rfl
theorem G_eqn {n : Bool} : @opG P (.eqn n) l xs ⟨K⟩ = (onRefs (· < l.length) xs ∧ @opK P (.eqn n) (hl l) xs ⟨fun x _ => K x l⟩) := G_still rfl
theorem G_un {op : UnOp} : @opG P (.un op) l xs ⟨K⟩ = (onRefs (· < l.length) xs ∧ @opK P (.un op) (hl l) xs ⟨fun x _ => K x l⟩) := G_still rfl
theorem G_conv {k : IntKind} : @opG P (.conv k) l xs ⟨K⟩ = (onRefs (· < l.length) xs ∧ @opK P (.conv k) (hl l) xs ⟨fun x _ => K x l⟩) := G_still rfl
theorem G_slice {w : Nat} {lo hi mx : Bool} : @opG P (.slice w lo hi mx) l xs ⟨K⟩ = (onRefs (· < l.length) xs ∧ @opK P (.slice w lo hi mx) (hl l) xs ⟨fun x _ => K x l⟩) := G_still rfl
theorem G_faddr {a : Bool} {o s : Nat} : @opG P (.faddr a o s) l xs ⟨K⟩ = (onRefs (· < l.length) xs ∧ @opK P (.faddr a o s) (hl l) xs ⟨fun x _ => K x l⟩) := G_still rfl
theorem G_field {a : Bool} {o s : Nat} : @opG P (.field a o s) l xs ⟨K⟩ = (onRefs (· < l.length) xs ∧ @opK P (.field a o s) (hl l) xs ⟨fun x _ => K x l⟩) := G_still rfl
theorem G_iaddr {w : Nat} : @opG P (.iaddr w) l xs ⟨K⟩ = (onRefs (· < l.length) xs ∧ @opK P (.iaddr w) (hl l) xs ⟨fun x _ => K x l⟩) := G_still rfl
theorem G_iaddrA {n w : Nat} {a : Bool} : @opG P (.iaddrA n w a) l xs ⟨K⟩ = (onRefs (· < l.length) xs ∧ @opK P (.iaddrA n w a) (hl l) xs ⟨fun x _ => K x l⟩) := G_still rfl
theorem G_index {n w : Nat} {a : Bool} : @opG P (.index n w a) l xs ⟨K⟩ = (onRefs (· < l.length) xs ∧ @opK P (.index n w a) (hl l) xs ⟨fun x _ => K x l⟩) := G_still rfl
theorem G_indexStr  : @opG P .indexStr l xs ⟨K⟩ = (onRefs (· < l.length) xs ∧ @opK P .indexStr (hl l) xs ⟨fun x _ => K x l⟩) := G_still rfl
theorem G_extract {i : Nat} : @opG P (.extract i) l xs ⟨K⟩ = (onRefs (· < l.length) xs ∧ @opK P (.extract i) (hl l) xs ⟨fun x _ => K x l⟩) := G_still rfl
theorem G_len {b : Bool} : @opG P (.len b) l xs ⟨K⟩ = (onRefs (· < l.length) xs ∧ @opK P (.len b) (hl l) xs ⟨fun x _ => K x l⟩) := G_still rfl
theorem G_max  : @opG P .max l xs ⟨K⟩ = (onRefs (· < l.length) xs ∧ @opK P .max (hl l) xs ⟨fun x _ => K x l⟩) := G_still rfl
theorem G_min  : @opG P .min l xs ⟨K⟩ = (onRefs (· < l.length) xs ∧ @opK P .min (hl l) xs ⟨fun x _ => K x l⟩) := G_still rfl
theorem G_mapGet : @opG P (.mapGet z) l xs ⟨K⟩ = (onRefs (· < l.length) xs ∧ @opK P (.mapGet z) (hl l) xs ⟨fun x _ => K x l⟩) := G_still rfl
theorem G_mkFunc {f : Nat} : @opG P (.mkFunc f) l xs ⟨K⟩ = (onRefs (· < l.length) xs ∧ @opK P (.mkFunc f) (hl l) xs ⟨fun x _ => K x l⟩) := G_still rfl
theorem G_toStr  : @opG P .toStr l xs ⟨K⟩ = (onRefs (· < l.length) xs ∧ @opK P .toStr (hl l) xs ⟨fun x _ => K x l⟩) := G_still rfl
theorem G_alloc  : @opG P (.alloc z w) l xs ⟨K⟩ = @opK P (.alloc z w) (hl l) xs ⟨fun x H' => ∀ l', H' = hl l' → K x l'⟩ := (G_eff rfl rfl).trans (by simp only [AK.appOk, true_and])
theorem G_box  : @opG P .box l xs ⟨K⟩ = @opK P .box (hl l) xs ⟨fun x H' => ∀ l', H' = hl l' → K x l'⟩ := (G_eff rfl rfl).trans (by simp only [AK.appOk, true_and])
theorem G_store  : @opG P (.store w) l xs ⟨K⟩ = @opK P (.store w) (hl l) xs ⟨fun x H' => ∀ l', H' = hl l' → K x l'⟩ := (G_eff rfl rfl).trans (by simp only [AK.appOk, true_and])
theorem G_mkSlice  : @opG P (.mkSlice w n z) l xs ⟨K⟩ = @opK P (.mkSlice w n z) (hl l) xs ⟨fun x H' => ∀ l', H' = hl l' → K x l'⟩ := (G_eff rfl rfl).trans (by simp only [AK.appOk, true_and])
theorem G_app : @opG P (.app w n z) l xs ⟨K⟩ = (0 < w ∧ @opK P (.app w n z) (hl l) xs ⟨fun x H' => ∀ l', H' = hl l' → K x l'⟩) := (G_eff rfl rfl).trans (by simp only [AK.appOk, decide_eq_true_eq])
theorem G_call {f : Nat} : @opG P .call l (.fn f cs :: xs) ⟨K⟩ = @CallG P f (xs ++ cs) l ⟨K⟩ := (rfl)
theorem G_bsl {idx : List Nat} : @opG P (.bslice w len z idx) l xs ⟨K⟩ = (FitAll w len idx xs ∧ 0 < w ∧ pureL (setAll idx xs (List.replicate len z)) = true ∧ @nx (.full w (setAll idx xs (List.replicate len z))) (hl l) ⟨fun x _ => K x l⟩) := (rfl)
theorem hl_eq {l l' : List Grp} : (hl l = hl l') = (l = l') := propext ⟨hl_inj, fun h => h ▸ rfl⟩
theorem eG {f : Nat} {y : AV} (h : PC P f xs y) (hh : pureL xs = true ∧ @nx y (hl l) ⟨fun y _ => K y l⟩) : @CallG P f xs l ⟨K⟩ := ⟨y, fun H => pc_call' h hh.1 ⟨rfl, rfl⟩, hh.2⟩
theorem cG {f : Nat} {ys : List AV} {y : AV} (h : PC P f ys y) (hh : leSL [] xs ys ∧ pureL ys = true ∧ @nx y (hl l) ⟨fun y _ => K y l⟩) : @CallG P f xs l ⟨K⟩ := ⟨y, fun H => acalls_le (leSL_le hh.1) (pc_call' h hh.2.1 ⟨rfl, rfl⟩), hh.2.2⟩
end

/-- What a function gives, from what its code does. -/
theorem pc_w' {P : Program} {f m np : Nat} {xs : List AV} {y : AV} {res : List ARes} {B : AC} (hf : compFn P f xs.length = some ⟨m, np, res, B⟩) (h : W P m 0 B (entry xs) (hl []) (Ret P res fun z H => frzOk 4 H z ∧ ansW (frzV 4 H z) y)) : PC P f xs y := by
  refine pc_at hf 4 ?_
  rw [nil_hl]
  exact T.mono (W_T h) fun x env H hh => Ret_mono (fun z H hh => ⟨hh.1, leS_le hh.2⟩) hh
theorem pc_nil {P : Program} {f w : Nat} {y : AV} (h1 : PC P f [.nilS] y) (h2 : PC P f [.emp] y) : PC P f [.lst w []] y := by
  refine ⟨h1.1, fun S cargs hS hx => ?_⟩
  obtain ⟨v, r, rfl, ⟨_, _, a, cap, vs, rfl, ⟨_, hn⟩, _, _⟩, hr⟩ := hx
  cases a with
  | none => exact h1.2 S _ hS ⟨_, r, rfl, by rw [hn rfl]; rfl, hr⟩
  | some a => exact h2.2 S _ hS ⟨_, r, rfl, ⟨a, cap, rfl⟩, hr⟩
section
variable {P : Program} {H : AHeap} {K : AV → AHeap → Prop} {n : Bool} {b d : Nat} {ks : List Nat}
theorem K_eqn_emp : @opK P (.eqn n) H [.emp, .nilS] ⟨K⟩ = @nx (.bool n) H ⟨K⟩ := (rfl)
theorem K_len_emp : @opK P (.len false) H [.emp] ⟨K⟩ = @nx (.int .i64 0) H ⟨K⟩ := (rfl)
theorem rn_emp : rnV b H ks (d + 1) .emp = .emp := rfl
end
theorem an_rw {x y z : AV} (h : y = z) (k : ansW x z) : ansW x y := by rw [h]; exact k
theorem LoopK_T {P : Program} {n b : Nat} {c : AC} {env : Env} {H : AHeap} {Q : Ex → Env → AHeap → Prop} (h : T P n b (.loop c) env H Q) : @LoopK ⟨T P n b (.loop c) env H Q⟩ := h
attribute [push_cast] K_eqn_emp K_len_emp rn_emp nil_hl hl_n hl_at hl_push hl_setQ setQ_zero setQ_succ groups_hl pos_nil pos_cons rn_map rnL_nil rnL_cons rn_ref rn_ptr rn_agg rn_tup rn_fn rn_any rn_bool rn_int rn_str rn_nilS rn_nul rn_nilP rn_nilF rn_lst rn_cptr
attribute [push_cast] gl_nil gl_cons g_le live_nil live_cons allB_nil allB_cons diffr_nil diffr_cons srcOf_ref srcOf_ptr srcOf_nilS srcOf_map allPos_nil allPos_cons cellAt_ptr ks_nil ks_grp ks_virt mk_nil mk_cons head_hl head1 head2 head3 ro_nil ro_cons rn_nil rn_cons rn_grp kill_nil kill_cons virt_eq frzL_eq frzP_eq pureL_app only_if grpsOf
attribute [push_cast] G_mv G_pick G_build G_load G_nilCheck G_bin G_eqb G_eqs G_eqn G_un G_conv G_slice G_faddr G_field G_iaddr G_iaddrA G_index G_indexStr G_extract G_len G_max G_min G_mkFunc G_toStr G_alloc G_box G_store G_mkSlice G_app G_call G_bsl hl_eq onRefs forall_eq' forall_eq
attribute [push_cast] List.isEmpty_nil List.isEmpty_cons List.map_eq_nil_iff Option.isSome_some Option.isSome_none
attribute [push_cast] List.map_append List.length_append Option.map_some Option.map_none mem_nat mem_nil_nat Int.add_sub_cancel Int.sub_add_cancel toNat_pred toNat_succ toNat_add Nat.not_lt_zero Nat.zero_le
open IntWalk in
attribute [push_cast] i64_in i32_in u8_in u32_in u64_in getD_map'
end Go.Proofs.Ytdmjhlofphhldaa.Abs
