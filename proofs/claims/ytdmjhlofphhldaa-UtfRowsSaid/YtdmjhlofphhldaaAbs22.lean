/-
  Heaps written out as lists of groups; heads of loops: which slots and which groups go on, and as what.
-/
import Derived.Test.YtdmjhlofphhldaaAbs21
set_option linter.unusedSimpArgs false
set_option linter.unusedVariables false
namespace Go.Proofs.Ytdmjhlofphhldaa.Abs

theorem nil_hl : AHeap.nil = hl [] := by
  simp [AHeap.nil, hl]
theorem hl_n (l : List Grp) : (hl l).n = l.length := rfl
/-- Groups are told by what stands below their number. -/
theorem SRel.congr {S : MS} {H H' : AHeap} (hn : H'.n = H.n) (h : ∀ g, g < H.n → H'.at_ g = H.at_ g) (hS : SRel S H) : SRel S H' :=
  ⟨hS.n.trans hn.symm, fun g hg => by rw [h g (by omega)]; exact hS.grp g (by omega), fun g g' hg hg' hne hw hw' => by
    rw [h g (by omega)] at hw
    rw [h g' (by omega)] at hw'
    exact hS.apart g g' (by omega) (by omega) hne hw hw', hS.im⟩
theorem ACalls.congr {P : Program} {f : Nat} {xs : List AV} {H H' : AHeap} {K : AV → AHeap → Prop} (hn : H'.n = H.n) (h : ∀ g, g < H.n → H'.at_ g = H.at_ g) (k : ACalls P f xs H' K) : ACalls P f xs H K :=
  ⟨k.1, fun S cargs hS hx => k.2 S cargs (hS.congr hn h) hx⟩

def AHeap.groups (H : AHeap) : List Grp := (List.range H.n).map H.at_
theorem groups_hl (l : List Grp) : (hl l).groups = l := by
  refine List.ext_getElem (by simp [AHeap.groups, hl]) fun i h1 h2 => ?_
  simp [AHeap.groups, hl, h2]
theorem groups_rel {S : MS} {H : AHeap} (hS : SRel S H) : SRel S (hl H.groups) := by
  refine hS.congr (by simp [hl, AHeap.groups]) fun g hg => ?_
  show (AHeap.groups H).getD g default = _
  simp [AHeap.groups, List.getD, hg]

/-! ### Groups given up at a call -/
def killL : Nat → List Nat → List Grp → List Grp
  | _, _, [] => []
  | i, ks, G :: l => (if i ∈ ks then G.dead else G) :: killL (i + 1) ks l
theorem killL_len : ∀ (i : Nat) (ks : List Nat) (l : List Grp), (killL i ks l).length = l.length
  | _, _, [] => rfl
  | i, ks, G :: l => by simp [killL, killL_len (i + 1) ks l]
theorem killL_at : ∀ (i : Nat) (ks : List Nat) (l : List Grp) (g : Nat), g < l.length → (killL i ks l).getD g default = if i + g ∈ ks then (l.getD g default).dead else l.getD g default
  | _, _, [], g, h => by simp at h
  | i, ks, G :: l, 0, h => by simp [killL]
  | i, ks, G :: l, g + 1, h => by
    have := killL_at (i + 1) ks l g (by simpa using h)
    have e : i + 1 + g = i + (g + 1) := by omega
    rw [e] at this
    simpa [killL] using this
theorem acalls_frz {P : Program} {f : Nat} {xs : List AV} {l : List Grp} {K : AV → AHeap → Prop} (d : Nat) (ks : List Nat) (hok : ∀ x ∈ xs, frzOk d ((hl l).only ks) x) (h : ACalls P f (xs.map (frzV d ((hl l).only ks))) (hl (killL 0 ks l)) K) : ACalls P f xs (hl l) K := by
  refine acalls_freeze d ks hok (ACalls.congr (H' := hl (killL 0 ks l)) (by simp [hl, AHeap.kill, killL_len]) (fun g hg => ?_) h)
  show (killL 0 ks l).getD g default = if g ∈ ks then (l.getD g default).dead else l.getD g default
  rw [killL_at 0 ks l g hg, Nat.zero_add]
theorem only_at (H : AHeap) (ks : List Nat) (g : Nat) : (H.only ks).at_ g = if g ∈ ks then H.at_ g else (H.at_ g).dead := (rfl)

/-! ### What may be told more weakly -/
def leH (H : AHeap) (x y : AV) : Prop := ∀ S v, SRel S H → VRel S x v → VRel S y v
def leHL (H : AHeap) (xs ys : List AV) : Prop := ∀ S vs, SRel S H → VsRel S xs vs → VsRel S ys vs
section
variable {H : AHeap}
theorem leH_refl {x : AV} : leH H x x := fun _ _ _ h => h
theorem leH_eq {x y : AV} (h : x = y) : leH H x y := h ▸ leH_refl
theorem leH_le {x y : AV} (h : AV.le x y) : leH H x y := fun S v _ hv => h S v hv
theorem leH_any {x : AV} : leH H x .any := fun _ _ _ _ => trivial
theorem leH_nil {w : Nat} (hw : 0 < w) : leH H .nilS (.lst w []) := leH_le (AV.le_nilS hw)
theorem leH_nil' {w : Nat} {xs : List AV} (hw : 0 < w) (h : xs = []) : leH H .nilS (.lst w xs) := h ▸ leH_nil hw
theorem leH_nul' {w : Nat} {xs : List AV} (hw : 0 < w) (h : xs = []) : leH H .nul (.lst w xs) := h ▸ leH_le (AV.le_nul hw)
theorem leH_virt' {l : List Grp} {g v len : Nat} (hv : (l.getD g default).ver = v) (hw : 0 < (l.getD g default).w) (hx : (l.getD g default).xs = []) (he : (l.getD g default).exact = true) (hg : g < l.length) (h0 : len = 0) : leH (hl l) .nilS (.ref g v 0 len) := fun S u hS hu => by
  subst h0
  have hG := hS.grp g hg
  rw [hl_at] at hG
  have hf := hG.full hw he
  rw [hx] at hf
  have hc : S.cap g = 0 := hf.symm
  have hu' : u = .slice none 0 0 := hu
  subst hu'
  exact ⟨⟨none, 0, rfl, fun _ => rfl⟩, by rw [hS.n]; exact hg, by rw [hG.ver, hv]; exact Nat.le_refl _, fun _ => ⟨none, 0, rfl, .inr ⟨rfl, rfl, by rw [hc]; exact Nat.le_refl _⟩⟩⟩
theorem leHL_nil : leHL H [] [] := fun _ _ _ h => h
theorem leHL_cons {x y : AV} {xs ys : List AV} (h : leH H x y) (k : leHL H xs ys) : leHL H (x :: xs) (y :: ys) := fun S _ hS ⟨v, r, hv, h1, h2⟩ => ⟨v, r, hv, h S v hS h1, k S r hS h2⟩
theorem leHL_refl {xs : List AV} : leHL H xs xs := fun _ _ _ h => h
theorem leHL_eq {xs ys : List AV} (h : xs = ys) : leHL H xs ys := h ▸ leHL_refl
theorem leH_agg {xs ys : List AV} (h : leHL H xs ys) : leH H (.agg xs) (.agg ys) := fun S _ hS ⟨vs, hv, k⟩ => ⟨vs, hv, h S vs hS k⟩
theorem leH_tup {xs ys : List AV} (h : leHL H xs ys) : leH H (.tup xs) (.tup ys) := fun S _ hS ⟨vs, hv, k⟩ => ⟨vs, hv, h S vs hS k⟩
theorem leH_int {k : IntKind} {a b : Int} (h : a = b) : leH H (.int k a) (.int k b) := h ▸ leH_refl
theorem leH_bool {a b : Bool} (h : a = b) : leH H (.bool a) (.bool b) := h ▸ leH_refl
theorem leH_lst {w : Nat} {a b : List AV} (h : a = b) : leH H (.lst w a) (.lst w b) := h ▸ leH_refl
theorem leH_ref {g v o a b : Nat} (h : a = b) : leH H (.ref g v o a) (.ref g v o b) := h ▸ leH_refl
end

mutual
/-- What x means y says too; told by rewriting. -/
def leS (l : List Grp) : AV → AV → Prop
  | .int k a, y => (match y with | .int k' b => k = k' ∧ a = b | .any => True | _ => False)
  | .bool a, y => (match y with | .bool b => a = b | .any => True | _ => False)
  | .nilS, y => (match y with
    | .nilS | .any => True
    | .lst w ys => 0 < w ∧ ys = []
    | .ref g v off len => off = 0 ∧ len = 0 ∧ (l.getD g default).ver = v ∧ 0 < (l.getD g default).w ∧ (l.getD g default).xs = [] ∧ (l.getD g default).exact = true ∧ g < l.length
    | _ => False)
  | .nul, y => (match y with | .nul | .any => True | .lst w ys => 0 < w ∧ ys = [] | _ => False)
  | .emp, y => (match y with | .emp | .any => True | .lst w ys => 0 < w ∧ ys = [] | _ => False)
  | .lst w xs, y => (match y with | .lst w' ys => w = w' ∧ xs = ys | .any => True | _ => False)
  | .full w xs, y => (match y with | .full w' ys => w = w' ∧ xs = ys | .lst w' ys => w = w' ∧ leSL l xs ys ∧ pureL ys = true | .any => True | _ => False)
  | .ref g v o n, y => (match y with | .ref g' v' o' n' => g = g' ∧ v = v' ∧ o = o' ∧ n = n' | .any => True | _ => False)
  | .ptr g v o n, y => (match y with | .ptr g' v' o' n' => g = g' ∧ v = v' ∧ o = o' ∧ n = n' | .any => True | _ => False)
  | .agg xs, y => (match y with | .agg ys => leSL l xs ys | .any => True | _ => False)
  | .tup xs, y => (match y with | .tup ys => leSL l xs ys | .any => True | _ => False)
  | x, y => (match y with | .any => True | y => x = y)
def leSL (l : List Grp) : List AV → List AV → Prop
  | [], ys => ys = []
  | x :: xs, ys => (match ys with | y :: ys => leS l x y ∧ leSL l xs ys | [] => False)
end
mutual
theorem leS_ok {S : MS} {l : List Grp} (hS : SRel S (hl l) ∨ l = []) : ∀ (x : AV) {y : AV} {v : Value}, leS l x y → VRel S x v → VRel S y v
  | .any, y, v, h, hv => by cases y <;> simp only [leS, reduceCtorEq] at h; trivial
  | .int k a, y, v, h, hv => by
    cases y <;> simp only [leS] at h
    · trivial
    · obtain ⟨rfl, rfl⟩ := h; exact hv
  | .bool a, y, v, h, hv => by
    cases y <;> simp only [leS] at h
    · trivial
    · subst h; exact hv
  | .str s, y, v, h, hv => by cases y <;> simp only [leS] at h <;> first | trivial | (cases h; done) | (cases h; exact hv)
  | .nilP, y, v, h, hv => by cases y <;> simp only [leS] at h <;> first | trivial | (cases h; done) | exact hv
  | .nilF, y, v, h, hv => by cases y <;> simp only [leS] at h <;> first | trivial | (cases h; done) | exact hv
  | .cptr x, y, v, h, hv => by cases y <;> simp only [leS] at h <;> first | trivial | (cases h; done) | (cases h; exact hv)
  | .fn f xs, y, v, h, hv => by cases y <;> simp only [leS] at h <;> first | trivial | (cases h; done) | (cases h; exact hv)
  | .nilS, y, v, h, hv => by
    cases y <;> simp only [leS] at h
    · trivial
    · exact hv
    · obtain ⟨h1, rfl⟩ := h; exact AV.le_nilS h1 S v hv
    · obtain ⟨rfl, rfl, h1, h2, h3, h4, h5⟩ := h
      rcases hS with hS | rfl
      · exact leH_virt' h1 h2 h3 h4 h5 rfl S v hS hv
      · exact absurd h5 (Nat.not_lt_zero _)
  | .nul, y, v, h, hv => by
    cases y <;> simp only [leS] at h
    · trivial
    · exact hv
    · obtain ⟨h1, rfl⟩ := h; exact AV.le_nul h1 S v hv
  | .emp, y, v, h, hv => by
    cases y <;> simp only [leS] at h
    · trivial
    · exact hv
    · obtain ⟨h1, rfl⟩ := h; exact AV.le_emp h1 S v hv
  | .lst w xs, y, v, h, hv => by
    cases y <;> simp only [leS] at h
    · trivial
    · obtain ⟨rfl, rfl⟩ := h; exact hv
  | .full w xs, y, v, h, hv => by
    cases y <;> simp only [leS] at h
    · trivial
    · rename_i w' ys
      obtain ⟨rfl, h1, hp⟩ := h
      obtain ⟨_, h0, a, cap, vs, hv, hc, hl, hr⟩ := full_lst hv
      have hn := VsRel.length hl
      have hm := leSL_ok hS xs h1 hl
      have hln : ys.length = xs.length := by rw [← VsRel.length hm, hn]
      exact ⟨hp, h0, a, cap, vs, by rw [hln]; exact hv, by rw [hln]; exact hc, hm, fun hne => hr fun h => hne (by rw [h] at hln; exact List.length_eq_zero_iff.1 hln)⟩
    · obtain ⟨rfl, rfl⟩ := h; exact hv
  | .map g a, y, v, h, hv => by cases y <;> simp only [leS] at h <;> first | trivial | (cases h; done) | (cases h; exact hv)
  | .ref g a o n, y, v, h, hv => by
    cases y <;> simp only [leS] at h
    · trivial
    · obtain ⟨rfl, rfl, rfl, rfl⟩ := h; exact hv
  | .ptr g a o n, y, v, h, hv => by
    cases y <;> simp only [leS] at h
    · trivial
    · obtain ⟨rfl, rfl, rfl, rfl⟩ := h; exact hv
  | .agg xs, y, v, h, hv => by
    cases y <;> simp only [leS] at h
    · trivial
    · obtain ⟨vs, rfl, hr⟩ := hv; exact ⟨vs, rfl, leSL_ok hS xs h hr⟩
  | .tup xs, y, v, h, hv => by
    cases y <;> simp only [leS] at h
    · trivial
    · obtain ⟨vs, rfl, hr⟩ := hv; exact ⟨vs, rfl, leSL_ok hS xs h hr⟩
theorem leSL_ok {S : MS} {l : List Grp} (hS : SRel S (hl l) ∨ l = []) : ∀ (xs : List AV) {ys : List AV} {vs : List Value}, leSL l xs ys → VsRel S xs vs → VsRel S ys vs
  | [], ys, vs, h, hv => by rw [show ys = [] from h]; exact hv
  | x :: xs, [], vs, h, hv => h.elim
  | x :: xs, y :: ys, vs, h, hv => by
    obtain ⟨v, r, rfl, h1, h2⟩ := hv
    exact ⟨v, r, rfl, leS_ok hS x h.1 h1, leSL_ok hS xs h.2 h2⟩
end
theorem leSL_len {l : List Grp} : ∀ {xs ys : List AV}, leSL l xs ys → ys.length = xs.length
  | [], ys, h => by rw [show ys = [] from h]
  | _ :: _, [], h => h.elim
  | _ :: _, _ :: _, h => by simp [leSL_len h.2]
mutual
theorem leS_refl (l : List Grp) : ∀ x : AV, leS l x x
  | .any => trivial
  | .int _ _ => ⟨rfl, rfl⟩
  | .bool _ => rfl
  | .str _ => rfl
  | .nilS => trivial
  | .nul => trivial
  | .emp => trivial
  | .lst _ _ => ⟨rfl, rfl⟩
  | .full _ _ => ⟨rfl, rfl⟩
  | .map _ _ => rfl
  | .ref .. => ⟨rfl, rfl, rfl, rfl⟩
  | .ptr .. => ⟨rfl, rfl, rfl, rfl⟩
  | .cptr _ => rfl
  | .nilP => rfl
  | .nilF => rfl
  | .fn .. => rfl
  | .agg xs => leSL_refl l xs
  | .tup xs => leSL_refl l xs
theorem leSL_refl (l : List Grp) : ∀ xs : List AV, leSL l xs xs
  | [] => rfl
  | x :: xs => ⟨leS_refl l x, leSL_refl l xs⟩
end
theorem leS_le {x y : AV} (h : leS [] x y) : AV.le x y := fun S v hv => leS_ok (.inr rfl) x h hv
theorem leSL_le {xs ys : List AV} (h : leSL [] xs ys) : leL xs ys := fun S v hv => leSL_ok (.inr rfl) xs h hv

def grpLe (l : List Grp) (G G' : Grp) : Prop := G.w = G'.w ∧ G.ver = G'.ver ∧ (G'.exact = true → G.exact = true) ∧ leSL l G.xs G'.xs
def grpsLe (l0 : List Grp) : List Grp → List Grp → Prop
  | [], [] => True
  | G :: l, G' :: l' => grpLe l0 G G' ∧ grpsLe l0 l l'
  | _, _ => False
theorem grpsLe_len {l0 : List Grp} : ∀ {l l' : List Grp}, grpsLe l0 l l' → l'.length = l.length
  | [], [], _ => rfl
  | G :: l, G' :: l', h => by simp [grpsLe_len h.2]
  | [], _ :: _, h => h.elim
  | _ :: _, [], h => h.elim
theorem grpsLe_at {l0 : List Grp} : ∀ {l l' : List Grp}, grpsLe l0 l l' → ∀ g, g < l.length → grpLe l0 (l.getD g default) (l'.getD g default)
  | [], [], _, g, hg => by simp at hg
  | G :: l, G' :: l', h, 0, _ => h.1
  | G :: l, G' :: l', h, g + 1, hg => by simpa using grpsLe_at h.2 g (by simpa using hg)
  | [], _ :: _, h, _, _ => h.elim
  | _ :: _, [], h, _, _ => h.elim
theorem grpsLe_rel {S : MS} {l l' : List Grp} (hS : SRel S (hl l)) (h : grpsLe l l l') : SRel S (hl l') := by
  have hlen := grpsLe_len h
  refine ⟨hS.n.trans hlen.symm, fun g hg => ?_, fun g g' hg hg' hne hw hw' => ?_, hS.im⟩
  · have hg' : g < l.length := by rw [← hlen]; exact hg
    obtain ⟨h1, h2, h3, h5⟩ := grpsLe_at h g hg'
    have h4 : (l.getD g default).xs.length = (l'.getD g default).xs.length := (leSL_len h5).symm
    have hG := hS.grp g hg'
    rw [hl_at] at hG ⊢
    refine ⟨by rw [← h2]; exact hG.ver, by rw [← h1]; exact hG.wid, fun hw hc => ?_, fun hw => by rw [← h4]; exact hG.len (by rw [h1]; exact hw), fun hw he => by rw [← h4]; exact hG.full (by rw [h1]; exact hw) (h3 he), fun hw he => ?_⟩
    rotate_left
    · obtain ⟨⟨es, clock, a1, a2⟩, a5⟩ := hG.mlive (by rw [h1]; exact hw) (h3 he)
      exact ⟨⟨es, clock, a1, leSL_ok (.inl hS) _ h5 a2⟩, a5⟩
    obtain ⟨⟨cells, TT, us, a1, a2, a3, a4⟩, a5⟩ := hG.live (by rw [h1]; exact hw) hc
    exact ⟨⟨cells, TT, us, a1, by rw [← h1]; exact a2, leSL_ok (.inl hS) _ h5 a3, by rw [← h1]; exact a4⟩, a5⟩
  · have hg1 : g < l.length := by rw [← hlen]; exact hg
    have hg1' : g' < l.length := by rw [← hlen]; exact hg'
    have key : ∀ g, g < l.length → ((hl l').at_ g).has (S.cap g) → ((hl l).at_ g).has (S.cap g) := fun g hg hh => by
      obtain ⟨k1, _, k3, _⟩ := grpsLe_at h g hg
      rw [hl_at] at hh ⊢
      rcases hh with ⟨q1, q2⟩ | ⟨q1, q2⟩
      · exact .inl ⟨by rw [k1]; exact q1, q2⟩
      · exact .inr ⟨by rw [k1]; exact q1, k3 q2⟩
    exact hS.apart g g' hg1 hg1' hne (key g hg1 hw) (key g' hg1' hw')

/-! ### Heads -/
/-- Where a group comes from: it is there; or it is made, without room, w cells an element. -/
inductive Src where
  | grp (g : Nat)
  | virt (w : Nat)
def srcOf (w : Nat) : AV → Src
  | .ref g _ _ _ => .grp g
  | .ptr g _ _ _ => .grp g
  | .map g _ => .grp g
  | _ => .virt w
/-- What stands behind a pointer, in its k-th cell. -/
def cellAt (H : AHeap) (x : AV) (k : Nat) : AV := match x with
  | .ptr g _ i _ => ((H.at_ g).xs.getD i .any).cells.getD k .any
  | _ => .any
def srcKs : Nat → List Src → List Nat × List Nat
  | _, [] => ([], [])
  | N, .grp g :: r => (g :: (srcKs N r).1, (srcKs N r).2)
  | N, .virt w :: r => (N :: (srcKs (N + 1) r).1, w :: (srcKs (N + 1) r).2)
def virtG (w : Nat) : Grp := ⟨w, 1, true, []⟩
def mkEnv : List (Nat × AV) → Env
  | [], _ => .any
  | (t, x) :: l, j => if j = t then x else mkEnv l j
def liveLe (l2 : List Grp) (H1 : AHeap) (b : Nat) (ks : List Nat) (env : Env) : List (Nat × AV) → Prop
  | [] => True
  | (t, y) :: r => leS l2 (rnV b H1 ks 6 (env t)) y ∧ liveLe l2 H1 b ks env r
def allB (b n : Nat) : List Nat → Prop
  | [] => True
  | k :: r => b ≤ k ∧ k < n ∧ allB b n r
def diffr : List Nat → Prop
  | [] => True
  | k :: r => k ∉ r ∧ diffr r
def rnG (b : Nat) (H : AHeap) (ks : List Nat) (v : Nat) (G : Grp) : Grp := ⟨G.w, v, G.exact, G.xs.map (rnV b H ks 6)⟩
def repackO (b : Nat) (H : AHeap) (ks : List Nat) : List Grp → List Grp
  | [] => []
  | G :: l => rnG b H ks G.ver G :: repackO b H ks l
def repackN (b : Nat) (H : AHeap) (ks : List Nat) (l : List Grp) : List Nat → List Grp
  | [] => []
  | k :: r => rnG b H ks 1 (l.getD k default) :: repackN b H ks l r
def Head3 (b : Nat) (env : Env) (l1 l2 : List Grp) (ks : List Nat) (live : List (Nat × AV)) (heap : List Grp) : Prop := liveLe l2 (hl l1) b ks env live ∧ grpsLe l2 l2 heap
def Head2 (b : Nat) (env : Env) (l1 : List Grp) (ks : List Nat) (live : List (Nat × AV)) (heap : List Grp) : Prop :=
  allB b l1.length ks ∧ diffr ks ∧ Head3 b env l1 (repackO b (hl l1) ks (l1.take b) ++ repackN b (hl l1) ks l1 ks) ks live heap
def allPos : List Nat → Prop
  | [] => True
  | w :: r => 0 < w ∧ allPos r
theorem allPos_mem : ∀ {ws : List Nat}, allPos ws → ∀ w ∈ ws, 0 < w
  | [], _, w, hw => by simp at hw
  | k :: r, h, w, hw => by
    rcases List.mem_cons.1 hw with rfl | hw
    · exact h.1
    · exact allPos_mem h.2 w hw
def Head1 (b : Nat) (env : Env) (l : List Grp) (p : List Nat × List Nat) (live : List (Nat × AV)) (heap : List Grp) : Prop := allPos p.2 ∧ Head2 b env (l ++ p.2.map virtG) p.1 live heap
def Head (b : Nat) (env : Env) (H : AHeap) (srcs : List Src) (live : List (Nat × AV)) (heap : List Grp) : Prop := b ≤ H.n ∧ Head1 b env H.groups (srcKs H.n srcs) live heap

section
variable {P : Program} {n b : Nat} {env : Env} {H : AHeap} {Q : Ex → Env → AHeap → Prop}
theorem head_hl {l : List Grp} {srcs : List Src} {live : List (Nat × AV)} {heap : List Grp} : Head b env (hl l) srcs live heap = (b ≤ l.length ∧ Head1 b env l (srcKs l.length srcs) live heap) := by
  rw [Head, groups_hl, hl_n]

theorem T_virt0 {c : AC} (w : Nat) (hw0 : 0 < w) (h : T P n b c env (H.push ⟨w, 1, true, []⟩) Q) : T P n b c env H Q := by
  intro rd mm hrd code hc S a hb hS hF
  exact wpIn_mono (h rd mm hrd code hc (S.virt w) a (Nat.le_succ_of_le hb) (hS.virt w hw0) ⟨hF.size, hF.defers.mono (Evo.virt _), fun j hj => VRel.mono (Evo.virt _) _ (hF.val j hj)⟩) fun e a w hh => hh.trans ((Evo.virt _).down hb)
theorem T_virtL {c : AC} : ∀ (ws : List Nat) {l : List Grp}, (∀ w ∈ ws, 0 < w) → T P n b c env (hl (l ++ ws.map virtG)) Q → T P n b c env (hl l) Q
  | [], l, _, h => by simpa using h
  | w :: ws, l, hw, h => T_virt0 w (hw w (by simp)) (by rw [hl_push]; exact T_virtL ws (fun w' h' => hw w' (by simp [h'])) (by simpa [virtG] using h))
theorem T_congr {c : AC} {H' : AHeap} (hn : H'.n = H.n) (h : ∀ g, g < H.n → H'.at_ g = H.at_ g) (k : T P n b c env H' Q) : T P n b c env H Q :=
  fun rd mm hrd code hc S a hb hS hF => k rd mm hrd code hc S a hb (hS.congr hn h) hF

theorem allB_mem {m : Nat} : ∀ {ks : List Nat}, allB b m ks → ∀ k ∈ ks, b ≤ k ∧ k < m
  | [], _, k, hk => by simp at hk
  | k :: r, h, j, hj => by
    rcases List.mem_cons.1 hj with rfl | hj
    · exact ⟨h.1, h.2.1⟩
    · exact allB_mem h.2.2 j hj
theorem diffr_nodup : ∀ {ks : List Nat}, diffr ks → ks.Nodup
  | [], _ => List.nodup_nil
  | k :: r, h => List.nodup_cons.2 ⟨h.1, diffr_nodup h.2⟩
theorem repackO_len {H : AHeap} {ks : List Nat} : ∀ {l : List Grp}, (repackO b H ks l).length = l.length
  | [] => rfl
  | G :: l => by simp [repackO, repackO_len]
theorem repackO_at {H : AHeap} {ks : List Nat} : ∀ {l : List Grp} {g : Nat}, g < l.length → (repackO b H ks l).getD g default = rnG b H ks (l.getD g default).ver (l.getD g default)
  | [], g, h => by simp at h
  | G :: l, 0, _ => rfl
  | G :: l, g + 1, h => by simpa [repackO] using repackO_at (l := l) (g := g) (by simpa using h)
theorem repackN_len {H : AHeap} {ks : List Nat} {l : List Grp} : ∀ {r : List Nat}, (repackN b H ks l r).length = r.length
  | [] => rfl
  | k :: r => by simp [repackN, repackN_len]
theorem repackN_at {H : AHeap} {ks : List Nat} {l : List Grp} : ∀ {r : List Nat} {j : Nat}, j < r.length → (repackN b H ks l r).getD j default = rnG b H ks 1 (l.getD (r.getD j 0) default)
  | [], j, h => by simp at h
  | k :: r, 0, _ => rfl
  | k :: r, j + 1, h => by simpa [repackN] using repackN_at (r := r) (j := j) (by simpa using h)

theorem repack_hl {l1 : List Grp} {ks : List Nat} (hb : b ≤ l1.length) : ((hl (repackO b (hl l1) ks (l1.take b) ++ repackN b (hl l1) ks l1 ks)).n = ((hl l1).repack b ks 6).n) ∧
    ∀ g, g < ((hl l1).repack b ks 6).n → (hl (repackO b (hl l1) ks (l1.take b) ++ repackN b (hl l1) ks l1 ks)).at_ g = ((hl l1).repack b ks 6).at_ g := by
  have hO : (repackO b (hl l1) ks (l1.take b)).length = b := by rw [repackO_len, List.length_take]; omega
  refine ⟨?_, fun g hg => ?_⟩
  · show (repackO b (hl l1) ks (l1.take b) ++ repackN b (hl l1) ks l1 ks).length = b + ks.length
    rw [List.length_append, hO, repackN_len]
  · have hg' : g < b + ks.length := hg
    rw [hl_at]
    show _ = (⟨_, if g < b then (l1.getD g default).ver else 1, _, _⟩ : Grp)
    by_cases hgb : g < b
    · rw [if_pos hgb, inv_old hgb]
      have e : (repackO b (hl l1) ks (l1.take b) ++ repackN b (hl l1) ks l1 ks).getD g default = (repackO b (hl l1) ks (l1.take b)).getD g default := by
        simp [List.getD, List.getElem?_append_left (show g < (repackO b (hl l1) ks (l1.take b)).length by omega)]
      have e2 : (l1.take b).getD g default = l1.getD g default := by
        simp [List.getD, hgb]
      rw [e, repackO_at (by simp; omega), e2]
      rfl
    · rw [if_neg hgb]
      have e : (repackO b (hl l1) ks (l1.take b) ++ repackN b (hl l1) ks l1 ks).getD g default = (repackN b (hl l1) ks l1 ks).getD (g - b) default := by
        have := List.getElem?_append_right (l₁ := repackO b (hl l1) ks (l1.take b)) (l₂ := repackN b (hl l1) ks l1 ks) (i := g) (by omega)
        rw [hO] at this
        simp [List.getD, this]
      rw [e, repackN_at (by omega)]
      have e3 : inv b ks g = ks.getD (g - b) 0 := by rw [inv, if_neg hgb]
      rw [e3]
      rfl

theorem liveLe_at {S : MS} {l2 : List Grp} {H1 : AHeap} {ks : List Nat} {a : Act} (hS : SRel S (hl l2)) (hF : FRel S n (fun i => rnV b H1 ks 6 (env i)) a) : ∀ {live : List (Nat × AV)}, liveLe l2 H1 b ks env live → ∀ i, i < n → VRel S (mkEnv live i) (a.tmps.getD i undef)
  | [], _, i, _ => trivial
  | (t, y) :: r, h, i, hi => by
    show VRel S (if i = t then y else mkEnv r i) _
    split
    · rename_i hit
      subst hit
      exact leS_ok (.inl hS) _ h.1 (hF.val i hi)
    · exact liveLe_at hS hF h.2 i hi

/-- AT THE HEAD OF A LOOP, or wherever ways meet: what goes on, and as what. -/
theorem T_head {c : AC} {srcs : List Src} {live : List (Nat × AV)} {heap : List Grp} (hh : Head b env H srcs live heap) (h : T P n b c (mkEnv live) (hl heap) Q) : T P n b c env H Q := by
  obtain ⟨hb, hh⟩ := hh
  have hgn : H.groups.length = H.n := by simp [AHeap.groups]
  refine T_congr (H' := hl H.groups) hgn (fun g hg => ?_) ?_
  · show H.groups.getD g default = _
    simp [AHeap.groups, List.getD, hg]
  refine T_virtL (srcKs H.n srcs).2 (allPos_mem hh.1) ?_
  replace hh := hh.2
  generalize hl1 : H.groups ++ (srcKs H.n srcs).2.map virtG = l1
  simp only [hl1] at hh
  obtain ⟨h1, h2, h3, h4⟩ := hh
  have hb1 : b ≤ l1.length := by rw [← hl1, List.length_append]; omega
  refine T_repack (srcKs H.n srcs).1 6 hb1 (fun k hk => allB_mem h1 k hk) (diffr_nodup h2) ?_
  obtain ⟨e1, e2⟩ := repack_hl (ks := (srcKs H.n srcs).1) hb1
  refine T_congr e1 e2 ?_
  intro rd mm hrd code hc S a hbS hS hF
  have hlen := grpsLe_len h4
  exact h rd mm hrd code hc S a hbS (grpsLe_rel hS h4) ⟨hF.size, hF.defers, liveLe_at hS hF h3⟩

/-- A LOOP. 'live': the slots that are read in a round, or behind it, and what they hold; 'heap': the groups that are written again, and what lies there; 'srcs': where these are found. All other groups are read as data. -/
theorem T_loopR {σ : Type} (Fact : σ → Prop) (μ : σ → Nat) (live : σ → List (Nat × AV)) (heap : σ → List Grp) (srcs : Env → AHeap → List Src) {c : AC} (s0 : σ) (h0 : Fact s0) (he : Head b env H (srcs env H) (live s0) (heap s0))
    (round : ∀ s, Fact s → T P n b c (mkEnv (live s)) (hl (heap s)) (Ex.then (fun env' H' => ∃ s', Head b env' H' (srcs env' H') (live s') (heap s') ∧ Fact s' ∧ μ s' < μ s) Q)) : T P n b (.loop c) env H Q := by
  refine T_loop (fun s env H => Fact s ∧ Head b env H (srcs env H) (live s) (heap s)) μ s0 ⟨h0, he⟩ fun s env H hI => ?_
  refine T_head hI.2 (T.mono (round s hI.1) fun x env' H' hh => ?_)
  cases x with
  | normal => obtain ⟨s', k1, k2, k3⟩ := hh; exact ⟨s', ⟨k2, k1⟩, k3⟩
  | exit id => exact hh
  | ret => exact hh
end
end Go.Proofs.Ytdmjhlofphhldaa.Abs
