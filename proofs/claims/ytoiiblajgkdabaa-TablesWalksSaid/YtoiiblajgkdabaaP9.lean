/- Part 9 of the proofs: Tree, LawB, Sp2. -/
import Derived.Test.YtoiiblajgkdabaaP8
import Derived.Test.YtoiiblajgkdabaaP6
import Derived.Laws.BitsLemmas
import Derived.Test.YtoiiblajgkdabaaP2
namespace Go.Proofs.Ytoiiblajgkdabaa
set_option linter.unusedSimpArgs false
set_option linter.unusedVariables false
set_option maxRecDepth 100000
open Go.RowKit

/-- Tables of three levels, and pages. -/
structure Tree where
  root : Nat
  t1 : Nat → Option Nat
  t2 : Nat → Option Nat
  pg : Nat → Option (Nat × Bool)
/-- The word of a table; of a page. -/
def tWd : Option Nat → Int
  | none => 0
  | some f => wordI true false true f
def pWd : Option (Nat × Bool) → Int
  | none => 0
  | some x => wordI true x.2 false x.1
structure TreeW (n : Nat) (M : Nat → Int) (t : Tree) : Prop where
  lr : t.root < n
  lt1 : ∀ i f, t.t1 i = some f → i < 16 ∧ f < n
  lt2 : ∀ q f, t.t2 q = some f → q < 256 ∧ f < n
  ltp : ∀ p x, t.pg p = some x → p < 4096 ∧ x.1 < n
  up2 : ∀ q f, t.t2 q = some f → ∃ f1, t.t1 (q / 16) = some f1
  upp : ∀ p x, t.pg p = some x → ∃ f2, t.t2 (p / 16) = some f2
  a01 : ∀ i f, t.t1 i = some f → f ≠ t.root
  a02 : ∀ q f, t.t2 q = some f → f ≠ t.root
  a11 : ∀ i i' f, t.t1 i = some f → t.t1 i' = some f → i = i'
  a22 : ∀ q q' f, t.t2 q = some f → t.t2 q' = some f → q = q'
  a12 : ∀ i q f, t.t1 i = some f → t.t2 q = some f → False
  w0 : ∀ i, i < 16 → M (16 * t.root + i) = tWd (t.t1 i)
  w1 : ∀ i f, t.t1 i = some f → ∀ j, j < 16 → M (16 * f + j) = tWd (t.t2 (16 * i + j))
  w2 : ∀ q f, t.t2 q = some f → ∀ k, k < 16 → M (16 * f + k) = pWd (t.pg (16 * q + k))
/-- Is a frame a table's? -/
def isTab (t : Tree) (f : Nat) : Prop := f = t.root ∨ (∃ i, t.t1 i = some f) ∨ ∃ q, t.t2 q = some f

theorem word_parts {v wr tb : Bool} {fr : Int} (h : rightB v wr tb fr = true) : oE (wordI v wr tb fr) = 0 ∧ oV (wordI v wr tb fr) = v ∧ oW (wordI v wr tb fr) = wr ∧ oT (wordI v wr tb fr) = tb ∧ oF (wordI v wr tb fr) = fr := by
  obtain ⟨a, b, c, d⟩ := parts_of_word v wr tb fr h
  have e := word_ofB v wr tb fr h
  simp [oE, oV, oW, oT, oF, a, b, c, d, e]
theorem right_tab {f : Nat} (h : f < 256) : rightB true false true f = true := by
  unfold rightB; simp; omega
theorem right_pg {f : Nat} (w : Bool) (h : f < 256) : rightB true w false f = true := by
  unfold rightB; simp; omega
theorem zero_parts : oE 0 = 0 ∧ oV 0 = false := by decide
theorem inT_nat {n f k : Nat} (hf : f < n) (hk : k < 16) : inT n f k := ⟨⟨by omega, by omega⟩, ⟨by omega, by omega⟩⟩
theorem at_nat (f k : Nat) : (16 * (f : Int) + (k : Int)).toNat = 16 * f + k := by omega
theorem get_nat {M : Nat → Int} {n f k : Nat} (hf : f < n) (hk : k < 16) : gE M n f k = (if oE (M (16 * f + k)) = 0 then 0 else 11) ∧ gV M n f k = oV (M (16 * f + k)) ∧ gW M n f k = oW (M (16 * f + k)) ∧ gT M n f k = oT (M (16 * f + k)) ∧ gF M n f k = oF (M (16 * f + k)) := by
  have h := inT_nat hf hk
  unfold gE gV gW gT gF
  simp only [h, if_true, decide_true, Bool.true_and, at_nat, and_self]

/-- What a walk finds. -/
def walkT (t : Tree) (p : Nat) : WRes := match t.t1 (p / 256) with
  | none => ⟨false, false, false, 0, [((t.root : Int), ((p / 256 : Nat) : Int))], 10⟩
  | some f1 => match t.t2 (p / 16) with
    | none => ⟨false, false, false, 0, [((t.root : Int), ((p / 256 : Nat) : Int)), ((f1 : Int), ((p / 16 % 16 : Nat) : Int))], 10⟩
    | some f2 => match t.pg p with
      | none => ⟨false, false, false, 0, [((t.root : Int), ((p / 256 : Nat) : Int)), ((f1 : Int), ((p / 16 % 16 : Nat) : Int)), ((f2 : Int), ((p % 16 : Nat) : Int))], 10⟩
      | some x => ⟨true, x.2, false, x.1, [((t.root : Int), ((p / 256 : Nat) : Int)), ((f1 : Int), ((p / 16 % 16 : Nat) : Int)), ((f2 : Int), ((p % 16 : Nat) : Int))], 0⟩
theorem idx0 (p : Nat) : idxI p 0 = ((p / 256 : Nat) : Int) := by unfold idxI; rw [if_pos rfl]; push_cast; rfl
theorem idx1 (p : Nat) : idxI p 1 = ((p / 16 % 16 : Nat) : Int) := by unfold idxI; rw [if_neg (by decide), if_pos rfl]; push_cast; rfl
theorem idx2 (p : Nat) : idxI p 2 = ((p % 16 : Nat) : Int) := by unfold idxI; rw [if_neg (by decide), if_neg (by decide)]; push_cast; rfl
theorem walk_tree {n : Nat} {M : Nat → Int} {t : Tree} (h : TreeW n M t) (hn : n ≤ 256) (p : Nat) (hp : p < 4096) : walkM M n t.root p = walkT t p := by
  have hr := h.lr
  unfold walkM
  rw [if_pos ⟨⟨by omega, by omega⟩, ⟨by omega, by omega⟩⟩]
  have k0 : p / 256 < 16 := by omega
  obtain ⟨e0, v0, _, t0, f0⟩ := get_nat (M := M) hr k0
  have x0 := h.w0 (p / 256) k0
  unfold walkL
  simp only [show (2 : Int) - ((2 : Nat) : Int) = 0 by rfl, idx0, e0, v0, t0, f0, x0]
  unfold walkT
  cases h1 : t.t1 (p / 256) with
  | none => simp [tWd, zero_parts]
  | some f1 =>
    have l1 := (h.lt1 _ _ h1).2
    obtain ⟨a, b, _, d, e⟩ := word_parts (right_tab (f := f1) (by omega))
    simp only [tWd, a, b, d, e]
    have k1 : p / 16 % 16 < 16 := by omega
    obtain ⟨e1, v1, _, t1', f1'⟩ := get_nat (M := M) l1 k1
    have x1 := h.w1 _ _ h1 _ k1
    rw [show 16 * (p / 256) + p / 16 % 16 = p / 16 by omega] at x1
    unfold walkL
    simp only [show (2 : Int) - ((1 : Nat) : Int) = 1 by rfl, idx1, e1, v1, t1', f1', x1]
    cases h2 : t.t2 (p / 16) with
    | none => simp [tWd, zero_parts]
    | some f2 =>
      have l2 := (h.lt2 _ _ h2).2
      obtain ⟨a, b, _, d, e⟩ := word_parts (right_tab (f := f2) (by omega))
      simp only [tWd, a, b, d, e]
      have k2 : p % 16 < 16 := by omega
      obtain ⟨e2, v2, g2, t2', f2'⟩ := get_nat (M := M) l2 k2
      have x2 := h.w2 _ _ h2 _ k2
      rw [show 16 * (p / 16) + p % 16 = p by omega] at x2
      unfold walkL
      simp only [show (2 : Int) - ((0 : Nat) : Int) = 2 by rfl, idx2, e2, v2, g2, t2', f2', x2]
      cases h3 : t.pg p with
      | none => simp [pWd, zero_parts]
      | some x =>
        have l3 := (h.ltp _ _ h3).2
        obtain ⟨a, b, c, d, e⟩ := word_parts (right_pg (f := x.1) x.2 (by omega))
        simp [pWd, a, b, c, d, e]
theorem walk_bad {n : Nat} {M : Nat → Int} {r : Nat} {p : Int} (h : ¬ (0 ≤ p ∧ p < 4096)) : walkM M n r p = ⟨false, false, false, 0, [], 1⟩ := by
  unfold walkM
  rw [if_neg (fun h' => h h'.2)]

/-! ### Entries laid and taken away -/
def updF {α : Type} (F : Nat → α) (k : Nat) (v : α) : Nat → α := fun i => if i = k then v else F i
theorem updF_same {α : Type} (F : Nat → α) (k : Nat) (v : α) : updF F k v k = v := by simp [updF]
theorem updF_ne {α : Type} (F : Nat → α) {k i : Nat} (v : α) (h : i ≠ k) : updF F k v i = F i := by simp [updF, h]
/-- The words elsewhere are as they were. -/
def SameBut (f : Nat) (M M' : Nat → Int) : Prop := ∀ a, a / 16 ≠ f → M' a = M a
theorem setW_same (M : Nat → Int) (a : Nat) (x : Int) : setW M a x a = x := by simp [setW]
theorem setW_ne (M : Nat → Int) {a b : Nat} (x : Int) (h : b ≠ a) : setW M a x b = M b := by simp [setW, h]
/-- A page's entry is laid, or taken away. -/
theorem TreeW.setPg {n : Nat} {M : Nat → Int} {t : Tree} (h : TreeW n M t) {p f2 : Nat} (h2 : t.t2 (p / 16) = some f2) (x : Option (Nat × Bool)) (hx : ∀ y, x = some y → y.1 < n) : TreeW n (setW M (16 * f2 + p % 16) (pWd x)) { t with pg := updF t.pg p x } := by
  obtain ⟨l2, l2'⟩ := h.lt2 _ _ h2
  have hne : ∀ f k, k < 16 → f ≠ f2 → setW M (16 * f2 + p % 16) (pWd x) (16 * f + k) = M (16 * f + k) := fun f k hk hf => setW_ne _ _ (by omega)
  refine ⟨h.lr, h.lt1, h.lt2, fun q y hy => ?_, h.up2, fun q y hy => ?_, h.a01, h.a02, h.a11, h.a22, h.a12, fun i hi => ?_, fun i f hf j hj => ?_, fun q f hf k hk => ?_⟩
  · replace hy : updF t.pg p x q = some y := hy
    by_cases e : q = p
    · subst e
      rw [updF_same] at hy
      exact ⟨by omega, hx y hy⟩
    · rw [updF_ne _ _ e] at hy; exact h.ltp q y hy
  · replace hy : updF t.pg p x q = some y := hy
    by_cases e : q = p
    · subst e; exact ⟨f2, h2⟩
    · rw [updF_ne _ _ e] at hy; exact h.upp q y hy
  · rw [hne _ _ hi (fun e => h.a02 _ _ h2 e.symm)]; exact h.w0 i hi
  · rw [hne _ _ hj (fun e => h.a12 _ _ _ hf (e ▸ h2))]; exact h.w1 i f hf j hj
  · by_cases e : f = f2
    · subst e
      obtain rfl := h.a22 _ _ _ hf h2
      by_cases e2 : k = p % 16
      · rw [e2, setW_same, show 16 * (p / 16) + p % 16 = p by omega]
        show _ = pWd (updF t.pg p x p)
        rw [updF_same]
      · rw [setW_ne _ _ (by omega)]
        show _ = pWd (updF t.pg p x _)
        rw [updF_ne _ _ (by omega)]
        exact h.w2 _ _ hf k hk
    · rw [hne _ _ hk e]
      show _ = pWd (updF t.pg p x _)
      rw [updF_ne _ _ (fun e2 => e (by
        have : q = p / 16 := by omega
        rw [this] at hf
        rw [hf] at h2
        exact Option.some.inj h2))]
      exact h.w2 _ _ hf k hk
/-- A table of the last level is laid. -/
theorem TreeW.setT2 {n : Nat} {M : Nat → Int} {t : Tree} (h : TreeW n M t) {q f1 c : Nat} (h1 : t.t1 (q / 16) = some f1) (h2 : t.t2 q = none) (hc : c < n) (hnt : ¬ isTab t c) (hz : ∀ k, k < 16 → M (16 * c + k) = 0) : TreeW n (setW M (16 * f1 + q % 16) (tWd (some c))) { t with t2 := updF t.t2 q (some c) } := by
  obtain ⟨l1, l1'⟩ := h.lt1 _ _ h1
  have c0 : c ≠ t.root := fun e => hnt (Or.inl e)
  have c1 : ∀ i, t.t1 i ≠ some c := fun i e => hnt (Or.inr (Or.inl ⟨i, e⟩))
  have c2 : ∀ i, t.t2 i ≠ some c := fun i e => hnt (Or.inr (Or.inr ⟨i, e⟩))
  have hne : ∀ f k, k < 16 → f ≠ f1 → setW M (16 * f1 + q % 16) (tWd (some c)) (16 * f + k) = M (16 * f + k) := fun f k hk hf => setW_ne _ _ (by omega)
  have hpn : ∀ k, k < 16 → t.pg (16 * q + k) = none := fun k hk => by
    cases e : t.pg (16 * q + k) with
    | none => rfl
    | some y =>
      obtain ⟨f, hf⟩ := h.upp _ _ e
      rw [show (16 * q + k) / 16 = q by omega, h2] at hf; cases hf
  have hu : ∀ i f, updF t.t2 q (some c) i = some f → (i = q ∧ f = c) ∨ (i ≠ q ∧ t.t2 i = some f) := fun i f hf => by
    by_cases e : i = q
    · subst e; rw [updF_same] at hf; exact Or.inl ⟨rfl, (Option.some.inj hf).symm⟩
    · rw [updF_ne _ _ e] at hf; exact Or.inr ⟨e, hf⟩
  refine ⟨h.lr, h.lt1, fun i f hf => ?_, h.ltp, fun i f hf => ?_, fun p y hy => ?_, h.a01, fun i f hf => ?_, h.a11, fun i i' f hf hf' => ?_, fun i j f hf hf' => ?_, fun i hi => ?_, fun i f hf j hj => ?_, fun i f hf k hk => ?_⟩
  · rcases hu i f hf with ⟨rfl, rfl⟩ | ⟨_, hf⟩
    · exact ⟨by omega, hc⟩
    · exact h.lt2 i f hf
  · rcases hu i f hf with ⟨rfl, rfl⟩ | ⟨_, hf⟩
    · exact ⟨f1, h1⟩
    · exact h.up2 i f hf
  · obtain ⟨f, hf⟩ := h.upp p y hy
    have : p / 16 ≠ q := fun e => by rw [e, h2] at hf; cases hf
    exact ⟨f, by show updF t.t2 q (some c) (p / 16) = _; rw [updF_ne _ _ this]; exact hf⟩
  · rcases hu i f hf with ⟨rfl, rfl⟩ | ⟨_, hf⟩
    · exact c0
    · exact h.a02 i f hf
  · rcases hu i f hf with ⟨e1, e2⟩ | ⟨_, g1⟩ <;> rcases hu i' f hf' with ⟨e3, e4⟩ | ⟨_, g2⟩
    · rw [e1, e3]
    · exact absurd (e2 ▸ g2) (c2 _)
    · exact absurd (e4 ▸ g1) (c2 _)
    · exact h.a22 _ _ _ g1 g2
  · rcases hu j f hf' with ⟨rfl, rfl⟩ | ⟨_, hf'⟩
    · exact c1 _ hf
    · exact h.a12 _ _ _ hf hf'
  · rw [hne _ _ hi (fun e => h.a01 _ _ h1 e.symm)]; exact h.w0 i hi
  · show _ = tWd (updF t.t2 q (some c) _)
    by_cases e : f = f1
    · subst e
      obtain rfl := h.a11 _ _ _ hf h1
      by_cases e2 : j = q % 16
      · rw [e2, setW_same, show 16 * (q / 16) + q % 16 = q by omega, updF_same]
      · rw [setW_ne _ _ (by omega), updF_ne _ _ (by omega)]
        exact h.w1 _ _ hf j hj
    · rw [hne _ _ hj e, updF_ne _ _ (fun e2 => e (by
        have : i = q / 16 := by omega
        rw [this, h1] at hf
        exact (Option.some.inj hf).symm))]
      exact h.w1 _ _ hf j hj
  · rcases hu i f hf with ⟨rfl, rfl⟩ | ⟨_, hf⟩
    · rw [hne _ _ hk (fun e => c1 _ (e ▸ h1)), hz k hk]
      show _ = pWd (t.pg _)
      rw [hpn k hk]; rfl
    · rw [hne _ _ hk (fun e => h.a12 _ _ _ h1 (e ▸ hf))]
      exact h.w2 _ _ hf k hk
/-- A table of the second level is laid. -/
theorem TreeW.setT1 {n : Nat} {M : Nat → Int} {t : Tree} (h : TreeW n M t) {i c : Nat} (hi : i < 16) (h1 : t.t1 i = none) (hc : c < n) (hnt : ¬ isTab t c) (hz : ∀ k, k < 16 → M (16 * c + k) = 0) : TreeW n (setW M (16 * t.root + i) (tWd (some c))) { t with t1 := updF t.t1 i (some c) } := by
  have c0 : c ≠ t.root := fun e => hnt (Or.inl e)
  have c1 : ∀ i, t.t1 i ≠ some c := fun i e => hnt (Or.inr (Or.inl ⟨i, e⟩))
  have c2 : ∀ i, t.t2 i ≠ some c := fun i e => hnt (Or.inr (Or.inr ⟨i, e⟩))
  have hne : ∀ f k, k < 16 → f ≠ t.root → setW M (16 * t.root + i) (tWd (some c)) (16 * f + k) = M (16 * f + k) := fun f k hk hf => setW_ne _ _ (by omega)
  have hpn : ∀ k, k < 16 → t.t2 (16 * i + k) = none := fun k hk => by
    cases e : t.t2 (16 * i + k) with
    | none => rfl
    | some y =>
      obtain ⟨f, hf⟩ := h.up2 _ _ e
      rw [show (16 * i + k) / 16 = i by omega, h1] at hf; cases hf
  have hu : ∀ j f, updF t.t1 i (some c) j = some f → (j = i ∧ f = c) ∨ (j ≠ i ∧ t.t1 j = some f) := fun j f hf => by
    by_cases e : j = i
    · subst e; rw [updF_same] at hf; exact Or.inl ⟨rfl, (Option.some.inj hf).symm⟩
    · rw [updF_ne _ _ e] at hf; exact Or.inr ⟨e, hf⟩
  refine ⟨h.lr, fun j f hf => ?_, h.lt2, h.ltp, fun q f hf => ?_, h.upp, fun j f hf => ?_, h.a02, fun j j' f hf hf' => ?_, h.a22, fun j q f hf hf' => ?_, fun j hj => ?_, fun j f hf k hk => ?_, fun q f hf k hk => ?_⟩
  · rcases hu j f hf with ⟨rfl, rfl⟩ | ⟨_, hf⟩
    · exact ⟨hi, hc⟩
    · exact h.lt1 j f hf
  · obtain ⟨f1, hf1⟩ := h.up2 q f hf
    have : q / 16 ≠ i := fun e => by rw [e, h1] at hf1; cases hf1
    exact ⟨f1, by show updF t.t1 i (some c) (q / 16) = _; rw [updF_ne _ _ this]; exact hf1⟩
  · rcases hu j f hf with ⟨rfl, rfl⟩ | ⟨_, hf⟩
    · exact c0
    · exact h.a01 j f hf
  · rcases hu j f hf with ⟨e1, e2⟩ | ⟨_, g1⟩ <;> rcases hu j' f hf' with ⟨e3, e4⟩ | ⟨_, g2⟩
    · rw [e1, e3]
    · exact absurd (e2 ▸ g2) (c1 _)
    · exact absurd (e4 ▸ g1) (c1 _)
    · exact h.a11 _ _ _ g1 g2
  · rcases hu j f hf with ⟨rfl, rfl⟩ | ⟨_, hf⟩
    · exact c2 _ hf'
    · exact h.a12 _ _ _ hf hf'
  · show _ = tWd (updF t.t1 i (some c) j)
    by_cases e : j = i
    · subst e; rw [setW_same, updF_same]
    · rw [setW_ne _ _ (by omega), updF_ne _ _ e]; exact h.w0 j hj
  · rcases hu j f hf with ⟨rfl, rfl⟩ | ⟨_, hf⟩
    · rw [hne _ _ hk c0, hz k hk]
      show _ = tWd (t.t2 _)
      rw [hpn k hk]; rfl
    · rw [hne _ _ hk (h.a01 _ _ hf)]; exact h.w1 _ _ hf k hk
  · rw [hne _ _ hk (h.a02 _ _ hf)]; exact h.w2 _ _ hf k hk
/-- A table of the last level that has nothing is taken away. -/
theorem TreeW.delT2 {n : Nat} {M M' : Nat → Int} {t : Tree} (h : TreeW n M t) {q f1 f2 : Nat} (h1 : t.t1 (q / 16) = some f1) (h2 : t.t2 q = some f2) (hp : ∀ k, k < 16 → t.pg (16 * q + k) = none) (hs : SameBut f2 M M') : TreeW n (setW M' (16 * f1 + q % 16) 0) { t with t2 := updF t.t2 q none } := by
  obtain ⟨l2, _⟩ := h.lt2 _ _ h2
  have hne : ∀ f k, k < 16 → f ≠ f1 → f ≠ f2 → setW M' (16 * f1 + q % 16) 0 (16 * f + k) = M (16 * f + k) := fun f k hk hf hf' => by
    rw [setW_ne _ _ (by omega)]; exact hs _ (by omega)
  have hu : ∀ i f, updF t.t2 q none i = some f → i ≠ q ∧ t.t2 i = some f := fun i f hf => by
    by_cases e : i = q
    · subst e; rw [updF_same] at hf; cases hf
    · rw [updF_ne _ _ e] at hf; exact ⟨e, hf⟩
  refine ⟨h.lr, h.lt1, fun i f hf => h.lt2 i f (hu i f hf).2, h.ltp, fun i f hf => h.up2 i f (hu i f hf).2, fun p y hy => ?_, h.a01, fun i f hf => h.a02 i f (hu i f hf).2, h.a11, fun i i' f hf hf' => h.a22 _ _ _ (hu _ _ hf).2 (hu _ _ hf').2, fun i j f hf hf' => h.a12 _ _ _ hf (hu _ _ hf').2, fun i hi => ?_, fun i f hf j hj => ?_, fun i f hf k hk => ?_⟩
  · obtain ⟨f, hf⟩ := h.upp p y hy
    have : p / 16 ≠ q := fun e => by
      have := hp (p % 16) (by omega)
      rw [show 16 * q + p % 16 = p by omega, hy] at this; cases this
    exact ⟨f, by show updF t.t2 q none (p / 16) = _; rw [updF_ne _ _ this]; exact hf⟩
  · rw [hne _ _ hi (fun e => h.a01 _ _ h1 e.symm) (fun e => h.a02 _ _ h2 e.symm)]; exact h.w0 i hi
  · show _ = tWd (updF t.t2 q none _)
    have nf2 : f ≠ f2 := fun e => h.a12 _ _ _ hf (e ▸ h2)
    by_cases e : f = f1
    · subst e
      obtain rfl := h.a11 _ _ _ hf h1
      by_cases e2 : j = q % 16
      · rw [e2, setW_same, show 16 * (q / 16) + q % 16 = q by omega, updF_same]; rfl
      · rw [setW_ne _ _ (by omega), updF_ne _ _ (by omega), hs _ (by omega)]
        exact h.w1 _ _ hf j hj
    · rw [hne _ _ hj e nf2, updF_ne _ _ (fun e2 => e (by
        have : i = q / 16 := by omega
        rw [this, h1] at hf
        exact (Option.some.inj hf).symm))]
      exact h.w1 _ _ hf j hj
  · obtain ⟨e, hf⟩ := hu i f hf
    rw [hne f k hk (fun e => h.a12 _ _ _ h1 (e ▸ hf)) (fun e3 => e (h.a22 _ _ _ hf (e3 ▸ h2)))]
    exact h.w2 _ _ hf k hk
/-- A table of the second level that has nothing is taken away. -/
theorem TreeW.delT1 {n : Nat} {M M' : Nat → Int} {t : Tree} (h : TreeW n M t) {i f1 : Nat} (h1 : t.t1 i = some f1) (hp : ∀ k, k < 16 → t.t2 (16 * i + k) = none) (hs : SameBut f1 M M') : TreeW n (setW M' (16 * t.root + i) 0) { t with t1 := updF t.t1 i none } := by
  obtain ⟨l1, _⟩ := h.lt1 _ _ h1
  have hne : ∀ f k, k < 16 → f ≠ t.root → f ≠ f1 → setW M' (16 * t.root + i) 0 (16 * f + k) = M (16 * f + k) := fun f k hk hf hf' => by
    rw [setW_ne _ _ (by omega)]; exact hs _ (by omega)
  have hu : ∀ j f, updF t.t1 i none j = some f → j ≠ i ∧ t.t1 j = some f := fun j f hf => by
    by_cases e : j = i
    · subst e; rw [updF_same] at hf; cases hf
    · rw [updF_ne _ _ e] at hf; exact ⟨e, hf⟩
  refine ⟨h.lr, fun j f hf => h.lt1 j f (hu j f hf).2, h.lt2, h.ltp, fun q f hf => ?_, h.upp, fun j f hf => h.a01 j f (hu j f hf).2, h.a02, fun j j' f hf hf' => h.a11 _ _ _ (hu _ _ hf).2 (hu _ _ hf').2, h.a22, fun j q f hf hf' => h.a12 _ _ _ (hu _ _ hf).2 hf', fun j hj => ?_, fun j f hf k hk => ?_, fun q f hf k hk => ?_⟩
  · obtain ⟨f1', hf1⟩ := h.up2 q f hf
    have : q / 16 ≠ i := fun e => by
      have := hp (q % 16) (by omega)
      rw [show 16 * i + q % 16 = q by omega, hf] at this; cases this
    exact ⟨f1', by show updF t.t1 i none (q / 16) = _; rw [updF_ne _ _ this]; exact hf1⟩
  · show _ = tWd (updF t.t1 i none j)
    by_cases e : j = i
    · subst e; rw [setW_same, updF_same]; rfl
    · have := h.a01 _ _ h1
      rw [setW_ne _ _ (by omega), updF_ne _ _ e, hs (16 * t.root + j) (by omega)]; exact h.w0 j hj
  · obtain ⟨e, hf⟩ := hu j f hf
    rw [hne f k hk (h.a01 _ _ hf) (fun e3 => e (h.a11 _ _ _ hf (e3 ▸ h1)))]; exact h.w1 _ _ hf k hk
  · rw [hne _ _ hk (h.a02 _ _ hf) (fun e => h.a12 _ _ _ h1 (e ▸ hf))]; exact h.w2 _ _ hf k hk
/-- A tree hangs on the words of its tables alone. -/
theorem TreeW.congr {n : Nat} {M M' : Nat → Int} {t : Tree} (h : TreeW n M t) (e : ∀ f, isTab t f → ∀ k, k < 16 → M' (16 * f + k) = M (16 * f + k)) : TreeW n M' t :=
  { h with
    w0 := fun i hi => (e _ (Or.inl rfl) i hi).trans (h.w0 i hi)
    w1 := fun i f hf j hj => (e _ (Or.inr (Or.inl ⟨i, hf⟩)) j hj).trans (h.w1 i f hf j hj)
    w2 := fun q f hf k hk => (e _ (Or.inr (Or.inr ⟨q, hf⟩)) k hk).trans (h.w2 q f hf k hk) }
/-- Tables are blank just if they have nothing. -/
theorem word_tab_ne {f : Nat} : tWd (some f) ≠ 0 := by unfold tWd wordI flagI; simp; omega
theorem word_pg_ne {x : Nat × Bool} : pWd (some x) ≠ 0 := by unfold pWd wordI flagI; simp; cases x.2 <;> simp <;> omega
theorem blank_nat {M : Nat → Int} {n f : Nat} (hf : f < n) : blankB M n f = true ↔ ∀ k, k < 16 → M (16 * f + k) = 0 := by
  unfold blankB
  have e : (16 * (f : Int)).toNat = 16 * f := by omega
  have d1 : decide (0 ≤ (f : Int)) = true := by simp
  have d2 : decide ((f : Int) < (n : Int)) = true := by simp; omega
  rw [e, d1, d2, Bool.true_and, Bool.true_and, zerosB_iff]
theorem TreeW.blank2 {n : Nat} {M : Nat → Int} {t : Tree} (h : TreeW n M t) {q f2 : Nat} (h2 : t.t2 q = some f2) : blankB M n f2 = true ↔ ∀ k, k < 16 → t.pg (16 * q + k) = none := by
  rw [blank_nat (h.lt2 _ _ h2).2]
  constructor
  · intro hz k hk
    have := hz k hk
    rw [h.w2 _ _ h2 k hk] at this
    cases e : t.pg (16 * q + k) with
    | none => rfl
    | some y => rw [e] at this; exact absurd this word_pg_ne
  · intro hn k hk
    rw [h.w2 _ _ h2 k hk, hn k hk]; rfl
theorem TreeW.blank1 {n : Nat} {M : Nat → Int} {t : Tree} (h : TreeW n M t) {i f1 : Nat} (h1 : t.t1 i = some f1) : blankB M n f1 = true ↔ ∀ k, k < 16 → t.t2 (16 * i + k) = none := by
  rw [blank_nat (h.lt1 _ _ h1).2]
  constructor
  · intro hz k hk
    have := hz k hk
    rw [h.w1 _ _ h1 k hk] at this
    cases e : t.t2 (16 * i + k) with
    | none => rfl
    | some y => rw [e] at this; exact absurd this word_tab_ne
  · intro hn k hk
    rw [h.w1 _ _ h1 k hk, hn k hk]; rfl

end Go.Proofs.Ytoiiblajgkdabaa

namespace Go.Proofs.Ytoiiblajgkdabaa
set_option linter.unusedSimpArgs false
set_option linter.unusedVariables false
set_option maxRecDepth 100000
open Go.RowKit
set_option maxHeartbeats 4000000

/-- A call that came in. -/
structure OpB where
  d : Int
  n : Int
  o : Int
  w : Int
structure OpBAt (w : World) (b off : Nat) (x : OpB) : Prop where
  c0 : w.cell? ⟨b, off, none⟩ = some (.int .i64 x.d)
  c1 : w.cell? ⟨b, off + 1, none⟩ = some (.int .i64 x.n)
  c2 : w.cell? ⟨b, off + 2, none⟩ = some (.int .i64 x.o)
  c3 : w.cell? ⟨b, off + 3, none⟩ = some (.int .u64 x.w)
/-- A list of calls that was handed in lies in a world. -/
def OpsB (w : World) (a : Option Addr) (len : Nat) (L : Nat → OpB) : Prop := len = 0 ∨ ∃ b off, a = some ⟨b, off, none⟩ ∧ ∀ i, i < len → OpBAt w b (off + i * 4) (L i)
theorem OpsB.keep {g w : World} {a : Option Addr} {len : Nat} {L : Nat → OpB} (h : OpsB g a len L) (hb : Below g.heap.size g w) : OpsB w a len L := by
  rcases h with h | ⟨b, off, rfl, h⟩
  · exact Or.inl h
  · refine Or.inr ⟨b, off, rfl, fun i hi => ?_⟩
    obtain ⟨h0, h1, h2, h3⟩ := h i hi
    have hl := cell_ltB h0
    exact ⟨Go.Proofs.Ytoiiblajgkdabaa.keep hb hl h0, Go.Proofs.Ytoiiblajgkdabaa.keep hb hl h1, Go.Proofs.Ytoiiblajgkdabaa.keep hb hl h2, Go.Proofs.Ytoiiblajgkdabaa.keep hb hl h3⟩
theorem OpsB.kept {g : World} {a : Option Addr} {len : Nat} {L : Nat → OpB} (h : OpsB g a len L) : ∀ w' Q, Sat g w' (Q * whole g) → OpsB w' a len L := fun w' Q h' => h.keep (Sat.ends (h'.perm (star_comm _ _)))

theorem inv_lt {r n : Nat} {T : Nat → Prop} {H : List Blk} (h : InvB r n T H) {a o : Nat} (hb : (((a * 2 ^ o : Nat) : Int), (o : Int)) ∈ H) : (a + 1) * 2 ^ o ≤ n ∧ r ≤ a * 2 ^ o := by
  have h0 := Nat.two_pow_pos o
  have h1 := (h.cov (a * 2 ^ o)).2 (Or.inr ⟨_, hb, (inB_of a o _).2 (in_block a o)⟩)
  have h2 := (h.cov (a * 2 ^ o + (2 ^ o - 1))).2 (Or.inr ⟨_, hb, (inB_of a o _).2 ((block_iff a o _).2 (by omega))⟩)
  rw [Nat.add_mul]; omega
theorem inv_T {r n : Nat} {T : Nat → Prop} {H : List Blk} (h : InvB r n T H) : ∀ x, T x → x < n := fun x hx => ((h.cov x).2 (Or.inl hx)).2
def allBlk : List Blk := (List.range 256).flatMap fun f : Nat => (List.range 9).map fun o : Nat => ((f : Int), (o : Int))
theorem allBlk_len : allBlk.length = 2304 := by decide +kernel
theorem inv_len {r n : Nat} {T : Nat → Prop} {H : List Blk} (h : InvB r n T H) (hn : n ≤ 256) : H.length ≤ 2304 := by
  rw [← allBlk_len]
  refine sub_len H allBlk h.nodup fun x hx => ?_
  obtain ⟨a, o, ho, rfl⟩ := h.blk x hx
  have h1 := (inv_lt h hx).1
  have h0 := Nat.two_pow_pos o
  rw [Nat.add_mul] at h1
  unfold allBlk
  rw [List.mem_flatMap]
  exact ⟨a * 2 ^ o, List.mem_range.2 (by omega), List.mem_map.2 ⟨o, List.mem_range.2 (by omega), rfl⟩⟩

theorem canB_len {T : Nat → Prop} {L : List Blk} (h : CanB T L) (hs : Small T) : L.length ≤ 2304 := by
  rw [← allBlk_len]
  refine sub_len L allBlk (h.1.imp fun hab e => by rw [e] at hab; omega) fun x hx => ?_
  obtain ⟨a, o, ho, rfl, hc⟩ := (h.2 x).1 hx
  have h1 := hs _ (hc.1 _ (in_block a o))
  unfold allBlk
  rw [List.mem_flatMap]
  exact ⟨a * 2 ^ o, List.mem_range.2 h1, List.mem_map.2 ⟨o, List.mem_range.2 (by omega), rfl⟩⟩

theorem inv_fresh {r n : Nat} {T : Nat → Prop} {H : List Blk} (h : InvB r n T H) : ∀ x : Nat, T x → ∀ o : Int, ((x : Int), o) ∉ H := fun x hx o hm => by
  obtain ⟨a, k, _, hk⟩ := h.blk _ hm
  refine h.apart _ hm x ?_ hx
  rw [hk]
  refine (inB_of a k x).2 ?_
  have : (x : Int) = ((a * 2 ^ k : Nat) : Int) := congrArg Prod.fst hk
  have hx' : x = a * 2 ^ k := by omega
  rw [hx']; exact in_block a k
/-- What Free does. -/
inductive FreeAt (g : World) (pb pm r n : Nat) (T : Nat → Prop) (H : List Blk) (W : Nat → Int) (f o : Int) (R : HP) (e : Ending) (w' : World) : Prop
  | no (hn : (f, o) ∉ H) (he : e = .returned (.int .i64 2)) (hs : Sat g w' (midP pb pm T H * (memP pm n W * R)))
  | yes (c k : Nat) (hf : f = ((c * 2 ^ k : Nat) : Int)) (ho : o = (k : Int)) (hk : k ≤ 8) (hin : (((c * 2 ^ k : Nat) : Int), (k : Int)) ∈ H) (hdis : ∀ x, x / 2 ^ k = c → ¬ T x) (hfit : (c + 1) * 2 ^ k ≤ n) (he : e = .returned (.int .i64 0)) (hi : InvB r n (plusQ T c k) (H.erase (((c * 2 ^ k : Nat) : Int), (k : Int))))
      (hs : Sat g w' (midP pb pm (plusQ T c k) (H.erase (((c * 2 ^ k : Nat) : Int), (k : Int))) * (memP pm n (scrubW W (c * 2 ^ k) (2 ^ k)) * R)))
theorem s_free_at (pb pm r n : Nat) (T : Nat → Prop) (H : List Blk) (W : Nat → Int) (f o : Int) (g w : World) (R : HP) (h : Sat g w (midP pb pm T H * (memP pm n W * R))) (hi : InvB r n T H) :
    Calls Try.prog 20 #[.pointer (some ⟨pb, 0, none⟩), .int .i64 f, .int .i64 o] w (FreeAt g pb pm r n T H W f o R) := by
  by_cases hin : (f, o) ∈ H
  · obtain ⟨c, k, hk, e⟩ := hi.blk _ hin
    obtain ⟨rfl, rfl⟩ := Prod.mk.injEq .. ▸ e
    obtain ⟨h1, _⟩ := inv_lt hi hin
    have hdis : ∀ x, x / 2 ^ k = c → ¬ T x := fun x hx => hi.apart _ hin x ((inB_of c k x).2 hx)
    exact (s_free pb pm n T H W c k (c * 2 ^ k) g w R h hk rfl h1 hin hdis (inv_T hi)).mono fun e w' ⟨he, hs⟩ => .yes c k rfl rfl hk hin hdis h1 he (inv_free hi hin) hs
  · exact (s_free_no pb pm T H f o g w _ h hin).mono fun e w' ⟨he, hs⟩ => .no hin he hs

/-- A Buddy and its memory, of which what stays true is true. -/
def Bst (g : World) (pb pm r n : Nat) (R : HP) (w : World) : Prop := ∃ T H W, InvB r n T H ∧ Sat g w (midP pb pm T H * (memP pm n W * R))
theorem Bst.below {g : World} {pb pm r n : Nat} {R : HP} {w w' : World} (h : Bst g pb pm r n R w) (hb : Below w.heap.size w w') : Bst g pb pm r n R w' := by
  obtain ⟨T, H, W, h1, h2⟩ := h
  exact ⟨T, H, W, h1, h2.below hb⟩
def AnyRet (g : World) (pb pm r n : Nat) (R : HP) (e : Ending) (w' : World) : Prop := (∃ f k : Int, e = .returned (.tuple #[.int .i64 f, .int .i64 k])) ∧ Bst g pb pm r n R w'
theorem s_alloc_st (pb pm r n : Nat) (order : Int) (g w : World) (R : HP) (h : Bst g pb pm r n R w) :
    Calls Try.prog 16 #[.pointer (some ⟨pb, 0, none⟩), .int .i64 order] w (AnyRet g pb pm r n R) := by
  obtain ⟨T, H, W, hi, hs⟩ := h
  by_cases ho : 0 ≤ order ∧ order ≤ 8
  · obtain ⟨o, rfl⟩ := Int.eq_ofNat_of_zero_le ho.1
    refine (s_alloc_at pb pm T H o r n g w _ hs (by omega) hi).mono fun e w' hp => ?_
    cases hp with
    | no he hn hs => exact ⟨⟨_, _, he⟩, T, H, W, hi, hs⟩
    | yes c hc he hs => exact ⟨⟨_, _, he⟩, _, _, W, inv_alloc hi (by omega) hc, hs⟩
  · exact (s_alloc_bad pb order w (by omega)).mono fun e w' ⟨he, hw⟩ => ⟨⟨_, _, he⟩, T, H, W, hi, hw ▸ hs⟩
def AnyRet1 (g : World) (pb pm r n : Nat) (R : HP) (e : Ending) (w' : World) : Prop := (∃ k : Int, e = .returned (.int .i64 k)) ∧ Bst g pb pm r n R w'
theorem s_free_st (pb pm r n : Nat) (f o : Int) (g w : World) (R : HP) (h : Bst g pb pm r n R w) :
    Calls Try.prog 20 #[.pointer (some ⟨pb, 0, none⟩), .int .i64 f, .int .i64 o] w (AnyRet1 g pb pm r n R) := by
  obtain ⟨T, H, W, hi, hs⟩ := h
  refine (s_free_at pb pm r n T H W f o g w R hs hi).mono fun e w' hp => ?_
  cases hp with
  | no hn he hs => exact ⟨⟨_, he⟩, T, H, W, hi, hs⟩
  | yes c k _ _ _ _ _ _ he hi' hs => exact ⟨⟨_, he⟩, _, _, _, hi', hs⟩
/-- The blocks of a list that a call has made, one by one. -/
theorem blk_cells {w : World} {b : Nat} {e : TypeId} {v : Value} {L : List Blk} (h : w.ownsRow b e 2 v L.length (blkCells L)) : L = [] ∨ ∃ gb cap, v = .slice (some ⟨gb, 0, none⟩) L.length cap ∧ gb < w.heap.size ∧ b ≤ gb ∧ ∀ i (_ : i < L.length), w.cell? ⟨gb, i * 2, none⟩ = some (.int .i64 L[i].1) ∧ w.cell? ⟨gb, i * 2 + 1, none⟩ = some (.int .i64 L[i].2) := by
  have hl := h
  rcases h.2 with ⟨h1, h2⟩ | ⟨gb, cap, cur, h1, hg, hh, _⟩
  · exact Or.inl (List.length_eq_zero_iff.1 h2)
  · refine Or.inr ⟨gb, cap, h1, heap_lt hh, hg, fun i hi => ?_⟩
    rw [h1] at hl
    obtain ⟨c0, c1⟩ := blkCells_at L i hi
    exact ⟨by rw [World.ownsRow.cellAt hl (i * 2) (by omega), c0], by rw [World.ownsRow.cellAt hl (i * 2 + 1) (by omega), c1]⟩

/-- A list of blocks that a call has made, as a part of its own. -/
theorem blks_part {g w w' : World} {L : List Blk} {e : TypeId} {v : Value} {P : HP} (h : Sat g w P) (hb : Below w.heap.size w w') (hown : w'.ownsRow w.heap.size e 2 v L.length (blkCells L)) :
    ∃ (Q : HP) (a : Option Addr) (cap : Nat), v = .slice a L.length cap ∧ Sat g w' (Q * P) ∧ (L = [] ∨ ∃ gb, a = some ⟨gb, 0, none⟩ ∧ Has Q gb ∧ ∀ w2 P', Sat g w2 (Q * P') → ∀ i (_ : i < L.length), w2.cell? ⟨gb, i * 2, none⟩ = some (.int .i64 L[i].1) ∧ w2.cell? ⟨gb, i * 2 + 1, none⟩ = some (.int .i64 L[i].2)) := by
  rcases blk_cells hown with h0 | ⟨gb, cap, rfl, hgl, hge, hc⟩
  · obtain ⟨a, c, rfl⟩ := own_slice hown
    exact ⟨emp, a, c, rfl, (h.below hb).emp, Or.inl h0⟩
  · have hg : w'.heap[gb]? = some (w'.heap[gb]'hgl) := Array.getElem?_eq_getElem hgl
    refine ⟨pt gb (w'.heap[gb]'hgl), _, cap, rfl, h.new hb hg (loc_pt _ _) (fun k e => by rw [e]; exact hge) (fun k e => by rw [e]; exact hgl), Or.inr ⟨gb, rfl, has_own rfl, fun w2 P' h2 i hi => ?_⟩⟩
    have e2 := h2.pt_heap.trans hg.symm
    exact ⟨(cell_of_heap e2 _).trans (hc i hi).1, (cell_of_heap e2 _).trans (hc i hi).2⟩

theorem s_mwrite (pm n : Nat) (W : Nat → Int) (a x : Int) (g w : World) (R : HP) (h : Sat g w (memP pm n W * R)) (h0 : 0 ≤ a) (h1 : a < 16 * n) (hx : U64 x) :
    Calls Try.prog 21 #[.pointer (some ⟨pm, 0, none⟩), .int .i64 a, .int .u64 x] w fun e w' => e = .returned (.int .i64 0) ∧ Sat g w' (memP pm n (setW W a.toNat x) * R) := by
  obtain ⟨bk, hm, _, back⟩ := h.mem
  obtain ⟨x0, x1⟩ := hx
  exact (write_yes pm bk n W a x w hm h0 h1 x0 (by omega)).mono fun e w' ⟨he, h1, h2⟩ => ⟨he, back _ _ h2 h1⟩
theorem s_mzero (pm n : Nat) (W : Nat → Int) (f : Nat) (g w : World) (R : HP) (h : Sat g w (memP pm n W * R)) (hf : f < n) (h0 : ∀ i, 16 * f ≤ i → i < 16 * (f + 1) → W i = 0) :
    Calls Try.prog 22 #[.pointer (some ⟨pm, 0, none⟩), .int .i64 f] w fun e w' => e = .returned (.bool true) ∧ w = w' := by
  obtain ⟨bk, hm, _, _⟩ := h.mem
  exact zero_yes pm bk n W f w hm hf h0
theorem and15 (o : Int) : 0 ≤ bits .and .i64 o 15 ∧ bits .and .i64 o 15 ≤ 15 := by
  have h7 : (BitVec.ofInt 64 15).toNat = 2 ^ 4 - 1 := by decide
  have key : (BitVec.ofInt 64 o &&& BitVec.ofInt 64 15).toNat = (o % ((2 ^ 64 : Nat) : Int)).toNat % 2 ^ 4 := by
    rw [BitVec.toNat_and, BitVec.toNat_ofInt, h7, Nat.and_two_pow_sub_one_eq_mod]
  have e : bits .and .i64 o 15 = o % 16 := by
    show IntKind.i64.wrap ((BitVec.ofInt 64 o &&& BitVec.ofInt 64 15).toNat : Nat) = o % 16
    rw [key, IntKind.wrap_i64]
    omega
  rw [e]; omega

/-- All words of the free frames are noughts. -/
def ZeroF (T : Nat → Prop) (M : Nat → Int) : Prop := ∀ x, T x → ∀ i, 16 * x ≤ i → i < 16 * (x + 1) → M i = 0
theorem zero_minus {T : Nat → Prop} {M : Nat → Int} (h : ZeroF T M) (c o : Nat) : ZeroF (minusQ T c o) M := fun x hx => h x hx.1
theorem zero_free {T : Nat → Prop} {M : Nat → Int} (h : ZeroF T M) (c o : Nat) : ZeroF (plusQ T c o) (scrubW M (c * 2 ^ o) (2 ^ o)) := fun x hx i h1 h2 => by
  unfold scrubW
  split
  · rfl
  · rename_i hn
    rcases hx with hx | hx
    · exact h x hx i h1 h2
    · have := (block_iff c o x).1 hx
      omega
theorem zero_set {T : Nat → Prop} {M : Nat → Int} (h : ZeroF T M) {f y : Nat} (hf : ¬ T f) (hy : y < 16) (v : Int) : ZeroF T (setW M (16 * f + y) v) := fun x hx i h1 h2 => by
  unfold setW
  split
  · rename_i e
    have : x = f := by omega
    exact absurd (this ▸ hx) hf
  · exact h x hx i h1 h2
theorem all_free {r n : Nat} {T : Nat → Prop} (h : InvB r n T []) : T = rangeT r n := by
  funext x
  have := h.cov x
  unfold rangeT
  exact propext ⟨fun hx => this.2 (Or.inl hx), fun hx => (this.1 hx).elim id fun ⟨b, hb, _⟩ => by simp at hb⟩
theorem can_eq {T : Nat → Prop} {L M : List Blk} (h1 : CanB T L) (h2 : CanB T M) : L = M := riseB_eq (fun x => (h1.2 x).trans (h2.2 x).symm) h1.1 h2.1

end Go.Proofs.Ytoiiblajgkdabaa

namespace Go.Proofs.Ytoiiblajgkdabaa
set_option linter.unusedSimpArgs false
set_option linter.unusedVariables false
set_option maxRecDepth 100000
open Go.RowKit
set_option maxHeartbeats 4000000

theorem put_nat {M : Nat → Int} {n f k : Nat} (hf : f < n) (hk : k < 16) {v wr tb : Bool} {fr : Int} (hr : rightB v wr tb fr = true) : putE n f k v wr tb fr = 0 ∧ putW M n f k v wr tb fr = setW M (16 * f + k) (wordI v wr tb fr) := by
  have h := inT_nat hf hk
  unfold putE putW
  rw [if_pos ⟨h, hr⟩, if_pos ⟨h, hr⟩, at_nat]
  exact ⟨rfl, rfl⟩
theorem word_none : wordI false false false 0 = 0 := by decide
theorem right_none : rightB false false false 0 = true := by decide
/-- What a Walk has left in the variables, as a part of its own. -/
theorem walkCut_part {g w wx : World} {P : HP} {Q : WRes} {s v e : Value} (h : Sat g w P) (hc : WalkCut w Q s v e wx) :
    ∃ (K : HP) (be : Nat) (a : Option Addr) (cap : Nat), s = .pointer (some ⟨be, 0, none⟩) ∧ v = .slice a Q.st.length cap ∧ e = .int .i64 Q.e ∧ Sat g wx (K * P) ∧ ∀ w2 P', Sat g w2 (K * P') → EnAt w2 be Q.v Q.wr Q.tb Q.fr ∧
      (Q.st = [] ∨ ∃ gb, a = some ⟨gb, 0, none⟩ ∧ ∀ i (_ : i < Q.st.length), w2.cell? ⟨gb, i * 2, none⟩ = some (.int .i64 Q.st[i].1) ∧ w2.cell? ⟨gb, i * 2 + 1, none⟩ = some (.int .i64 Q.st[i].2)) := by
  obtain ⟨be, rfl, rfl, hbe, he, ho, hb, _⟩ := hc
  have hbc := blk_cells (L := Q.st) ho
  obtain ⟨a, cap, rfl⟩ := own_slice ho
  refine ⟨ownP (fun k => k = be ∨ (Value.slice a Q.st.length cap).ownBlock = some k) (fun w => w.heap[be]? = wx.heap[be]? ∧ ∀ k, (Value.slice a Q.st.length cap).ownBlock = some k → w.heap[k]? = wx.heap[k]?), be, a, cap, rfl, rfl, rfl, h.new hb ⟨rfl, fun _ _ => rfl⟩ (fun w1 w2 h1 h2 => ⟨(h2 be (Or.inl rfl)).trans h1.1, fun k hk => (h2 k (Or.inr hk)).trans (h1.2 k hk)⟩) (fun k hk => ?_) (fun k hk => ?_), fun w2 P' h2 => ?_⟩
  · rcases hk with rfl | hk
    · exact hbe
    · exact (World.ownsRow.lt ho k hk).1
  · rcases hk with rfl | hk
    · exact he.lt
    · exact (World.ownsRow.lt ho k hk).2
  · obtain ⟨i1, i2⟩ := h2.inv
    refine ⟨he.heap i1, ?_⟩
    rcases hbc with h0 | ⟨gb, cap', hv, hgl, _, hcell⟩
    · exact Or.inl h0
    · simp only [Value.slice.injEq] at hv
      obtain ⟨rfl, -, rfl⟩ := hv
      have e := i2 gb rfl
      exact Or.inr ⟨gb, rfl, fun i hi => ⟨(cell_of_heap e _).trans (hcell i hi).1, (cell_of_heap e _).trans (hcell i hi).2⟩⟩
theorem EnAt.set1 {w : World} {b : Nat} {v wr tb : Bool} {fr : Int} (h : EnAt w b v wr tb fr) (x : Bool) : EnAt (w.setCell ⟨b, 1, none⟩ (.bool x)) b v x tb fr := by
  have c0 := h.c0; have c1 := h.c1; have c2 := h.c2; have c3 := h.c3; have f0 := h.f0; have f1 := h.f1; have f2 := h.f2; have f3 := h.f3; have lt := h.lt
  exact ⟨by simp [go_sem, c0], by simp [go_sem, c1], by simp [go_sem, c2], by simp [go_sem, c3], by simp [go_sem, f0], by simp [go_sem, f1], by simp [go_sem, f2], by simp [go_sem, f3], by simpa using lt⟩
theorem s_blank (pm n : Nat) (M : Nat → Int) (f : Nat) (g w : World) (R : HP) (h : Sat g w (memP pm n M * R)) :
    Calls Try.prog 62 #[.pointer (some ⟨pm, 0, none⟩), .int .i64 f] w fun e w' => e = .returned (.bool (blankB M n f)) ∧ Below w.heap.size w w' := by
  obtain ⟨bk, hm, _⟩ := h.mem
  exact blank_any pm bk n M f w hm

theorem s_protect_no (ps pm pb r n : Nat) (M : Nat → Int) (p : Int) (wr : Bool) (g w : World) (R : HP) (h : Sat g w (spP ps pm pb r * (memP pm n M * R))) (Q : WRes) (hQ : walkM M n r p = Q) (he : Q.e ≠ 0) :
    Calls Try.prog 42 #[.pointer (some ⟨ps, 0, none⟩), .int .i64 p, .bool wr] w fun e w' => e = .returned (.int .i64 Q.e) ∧ Below w.heap.size w w' := by
  have HW : Hid (∀ w', Below w.heap.size w w' → Calls Try.prog 44 #[.pointer (some ⟨pm, 0, none⟩), .int .i64 r, .int .i64 p] w' fun e w2 => ∃ v, e = .returned (.tuple #[.agg #[.bool Q.v, .bool Q.wr, .bool Q.tb, .int .i64 Q.fr], v, .int .i64 Q.e]) ∧ w2.ownsRow w'.heap.size 109 2 v Q.st.length (wCells Q.st) ∧ Below w'.heap.size w' w2) := Lib.hid fun w' hb => s_walk pm n M r p g w' _ (h.below hb).swap Q hQ
  have hs := h.sp
  have hS : ∀ w', Below w.heap.size w w' → w'.cell? ⟨ps, 0, none⟩ = some (.pointer (some ⟨pm, 0, none⟩)) ∧ w'.cell? ⟨ps, 2, none⟩ = some (.int .i64 r) := fun w' hb => ⟨keep hb hs.lt hs.c0, keep hb hs.lt hs.c2⟩
  have g0 : (Q.e != 0) = true := by simpa using he
  clear hQ
  go_enter Try.func42, Try.ntmps42
  go_upto_region 1 with (fail)
  go_cut [7, 8, 9] (fun s6 s7 s8 wx => WalkCut w Q s6 s7 s8 wx)
  case first =>
    go_region_held3 (fun w' => w'.cell? ⟨ps, 0, none⟩ = some (.pointer (some ⟨pm, 0, none⟩)) ∧ w'.cell? ⟨ps, 2, none⟩ = some (.int .i64 r)) (exact hS _ (by repeat (first | with_reducible exact Below.refl _ _ | with_reducible assumption | with_reducible refine below_drewN ?_ _ | with_reducible refine Below.drew ?_ | with_reducible refine Below.setCell ?_ (by first | omega | (simp <;> omega)) _ | with_reducible refine Below.alloc ?_ (by first | omega | (simp <;> omega)) _))) ((go_at_call 44; refine (HW.out _ (by repeat (first | with_reducible exact Below.refl _ _ | with_reducible assumption | with_reducible refine below_drewN ?_ _ | with_reducible refine Below.drew ?_ | with_reducible refine Below.setCell ?_ (by first | omega | (simp <;> omega)) _ | with_reducible refine Below.alloc ?_ (by first | omega | (simp <;> omega)) _))).mono ?_; rintro e w3 ⟨v, rfl, hown3, hb3'⟩; first | (have hb4 := un_drew hb3'; have he := (EnAt.new w false false false 0 78).below hb4 (by simp); have hb3 : Below w.heap.size w w3 := (Below.alloc (Below.refl _ _) (Nat.le_refl _) _).trans (hb4.mono (by simp)); have hs3 := hb3.size; have g0 := he.c0; have g1 := he.c1; have g2 := he.c2; have g3 := he.c3; have g4 := he.f0; have g5 := he.f1; have g6 := he.f2; have g7 := he.f3) | (have hb3 : Below w.heap.size w w3 := un_drew hb3'; have hs3 := hb3.size)))
    · go_wp2_with (fail)
      go_meet
      exact walkCut_new (by simp) hown3 hb3
    · go_wp2_with (fail)
      go_meet
      exact walkCut_put (by simp) hown3 he hb3
  case rest =>
    obtain ⟨be, rfl, rfl, hbe, he, _, hb, _⟩ := hcut
    go_wp2_with (fail)
    go_ret
    exact ⟨rfl, hb⟩

theorem s_protect_yes (ps pm pb r n f2 k2 fr : Nat) (M : Nat → Int) (p : Int) (wr w0 : Bool) (d : List (Int × Int)) (g w : World) (R : HP) (h : Sat g w (spP ps pm pb r * (memP pm n M * R))) (hQ : walkM M n r p = ⟨true, w0, false, fr, d ++ [((f2 : Int), (k2 : Int))], 0⟩) (hd : d.length ≤ 5)
    (hf : f2 < n) (hk : k2 < 16) (hr : rightB true wr false fr = true) :
    Calls Try.prog 42 #[.pointer (some ⟨ps, 0, none⟩), .int .i64 p, .bool wr] w fun e w' => e = .returned (.int .i64 0) ∧ Sat g w' (spP ps pm pb r * (memP pm n (setW M (16 * f2 + k2) (wordI true wr false fr)) * R)) := by
  obtain ⟨Q, hQQ⟩ : ∃ Q, Q = (⟨true, w0, false, fr, d ++ [((f2 : Int), (k2 : Int))], 0⟩ : WRes) := ⟨_, rfl⟩
  rw [← hQQ] at hQ
  have HW : Hid (∀ w', Below w.heap.size w w' → Calls Try.prog 44 #[.pointer (some ⟨pm, 0, none⟩), .int .i64 r, .int .i64 p] w' fun e w2 => ∃ v, e = .returned (.tuple #[.agg #[.bool Q.v, .bool Q.wr, .bool Q.tb, .int .i64 Q.fr], v, .int .i64 Q.e]) ∧ w2.ownsRow w'.heap.size 109 2 v Q.st.length (wCells Q.st) ∧ Below w'.heap.size w' w2) := Lib.hid fun w' hb => s_walk pm n M r p g w' _ (h.below hb).swap Q hQ
  have hs := h.sp
  have hS : ∀ w', Below w.heap.size w w' → w'.cell? ⟨ps, 0, none⟩ = some (.pointer (some ⟨pm, 0, none⟩)) ∧ w'.cell? ⟨ps, 2, none⟩ = some (.int .i64 r) := fun w' hb => ⟨keep hb hs.lt hs.c0, keep hb hs.lt hs.c2⟩
  have HQ := Lib.hid hQQ
  clear hQ hQQ
  go_enter Try.func42, Try.ntmps42
  go_upto_region 1 with (fail)
  go_cut [7, 8, 9] (fun s6 s7 s8 wx => WalkCut w Q s6 s7 s8 wx)
  case first =>
    go_region_held3 (fun w' => w'.cell? ⟨ps, 0, none⟩ = some (.pointer (some ⟨pm, 0, none⟩)) ∧ w'.cell? ⟨ps, 2, none⟩ = some (.int .i64 r)) (exact hS _ (by repeat (first | with_reducible exact Below.refl _ _ | with_reducible assumption | with_reducible refine below_drewN ?_ _ | with_reducible refine Below.drew ?_ | with_reducible refine Below.setCell ?_ (by first | omega | (simp <;> omega)) _ | with_reducible refine Below.alloc ?_ (by first | omega | (simp <;> omega)) _))) ((go_at_call 44; refine (HW.out _ (by repeat (first | with_reducible exact Below.refl _ _ | with_reducible assumption | with_reducible refine below_drewN ?_ _ | with_reducible refine Below.drew ?_ | with_reducible refine Below.setCell ?_ (by first | omega | (simp <;> omega)) _ | with_reducible refine Below.alloc ?_ (by first | omega | (simp <;> omega)) _))).mono ?_; rintro e w3 ⟨v, rfl, hown3, hb3'⟩; first | (have hb4 := un_drew hb3'; have he := (EnAt.new w false false false 0 78).below hb4 (by simp); have hb3 : Below w.heap.size w w3 := (Below.alloc (Below.refl _ _) (Nat.le_refl _) _).trans (hb4.mono (by simp)); have hs3 := hb3.size; have g0 := he.c0; have g1 := he.c1; have g2 := he.c2; have g3 := he.c3; have g4 := he.f0; have g5 := he.f1; have g6 := he.f2; have g7 := he.f3) | (have hb3 : Below w.heap.size w w3 := un_drew hb3'; have hs3 := hb3.size)))
    · go_wp2_with (fail)
      go_meet
      exact walkCut_new (by simp) hown3 hb3
    · go_wp2_with (fail)
      go_meet
      exact walkCut_put (by simp) hown3 he hb3
  case rest =>
    have hQ := HQ.out
    subst hQ
    obtain ⟨be, rfl, rfl, hbe, he, ho, hb, hne⟩ := hcut
    have hbc := blk_cells (L := d ++ [((f2 : Int), (k2 : Int))]) ho
    obtain ⟨a, cap, rfl⟩ := own_slice ho
    have hl : (d ++ [((f2 : Int), (k2 : Int))]).length = d.length + 1 := by simp
    rcases hbc with h0 | ⟨gb, cap', hv, hgl, _, hcell⟩
    · simp at h0
    simp only [Value.slice.injEq] at hv
    obtain ⟨rfl, -, rfl⟩ := hv
    obtain ⟨c0, c1⟩ := hcell d.length (by omega)
    simp only [List.getElem_append_right (Nat.le_refl _), Nat.sub_self, List.getElem_singleton] at c0 c1
    have hge : gb ≠ be := fun e => hne (by rw [e]; rfl)
    have hge' : be ≠ gb := fun e => hge e.symm
    simp only [hl]
    have hw1 : IntKind.i64.wrap (((d.length + 1 : Nat) : Int) - 1) = (d.length : Int) := by rw [IntWalk.i64_in _ ⟨by omega, by omega⟩]; omega
    have hw1' : IntKind.i64.wrap ((d.length : Int) + 1 - 1) = (d.length : Int) := by rw [IntWalk.i64_in _ ⟨by omega, by omega⟩]; omega
    have il : (d.length : Int) < ((d.length + 1 : Nat) : Int) := by omega
    have il' : (d.length : Int) < (d.length : Int) + 1 := by omega
    have y1 := he.c1; have z1 := he.f1
    clear hcell ho hne hl HW hS
    go_upto_region 6 with (fail)
    obtain ⟨w2, hw2⟩ : ∃ w2, w2 = ((wc.setCell ⟨be, 1, none⟩ (.bool wr)).alloc (.cells #[.int .i64 f2, .int .i64 k2] 109)) := ⟨_, rfl⟩
    have hb2 : Below w.heap.size w w2 := by rw [hw2]; repeat (first | with_reducible exact Below.refl _ _ | with_reducible assumption | with_reducible refine below_drewN ?_ _ | with_reducible refine Below.drew ?_ | with_reducible refine Below.setCell ?_ (by first | omega | (simp <;> omega)) _ | with_reducible refine Below.alloc ?_ (by first | omega | (simp <;> omega)) _)
    have S2 := (h.below hb2).swap
    have he2 : EnAt w2 be true wr false fr := by rw [hw2]; exact (he.set1 wr).below ((Below.refl _ _).alloc (Nat.le_refl _) _) (by simpa using he.lt)
    have x0 := he2.c0; have x1 := he2.c1; have x2 := he2.c2; have x3 := he2.c3
    have a0 : w2.cell? ⟨wc.heap.size, 0, none⟩ = some (.int .i64 f2) := by rw [hw2]; simp [go_sem]
    have a1 : w2.cell? ⟨wc.heap.size, 1, none⟩ = some (.int .i64 k2) := by rw [hw2]; simp [go_sem]
    have s0 := keep hb2 hs.lt hs.c0
    rw [← hw2]
    clear hw2 y1 z1 hw1 hw1' il il' c0 c1 he he2 hb hb2
    generalize wc.heap.size = ab at a0 a1 ⊢
    have m0 : ∀ z : Wc (fun w' => w2.drew = w'), z.w.cell? ⟨be, 0, none⟩ = some (.bool true) := fun z => by rw [← z.h]; exact x0
    have m1 : ∀ z : Wc (fun w' => w2.drew = w'), z.w.cell? ⟨be, 1, none⟩ = some (.bool wr) := fun z => by rw [← z.h]; exact x1
    have m2 : ∀ z : Wc (fun w' => w2.drew = w'), z.w.cell? ⟨be, 2, none⟩ = some (.bool false) := fun z => by rw [← z.h]; exact x2
    have m3 : ∀ z : Wc (fun w' => w2.drew = w'), z.w.cell? ⟨be, 3, none⟩ = some (.int .i64 fr) := fun z => by rw [← z.h]; exact x3
    have m4 : ∀ z : Wc (fun w' => w2.drew = w'), z.w.cell? ⟨ab, 0, none⟩ = some (.int .i64 f2) := fun z => by rw [← z.h]; exact a0
    have m5 : ∀ z : Wc (fun w' => w2.drew = w'), z.w.cell? ⟨ab, 1, none⟩ = some (.int .i64 k2) := fun z => by rw [← z.h]; exact a1
    have m6 : ∀ z : Wc (fun w' => w2.drew = w'), z.w.cell? ⟨ps, 0, none⟩ = some (.pointer (some ⟨pm, 0, none⟩)) := fun z => by rw [← z.h]; exact s0
    (refine region_tail (fun w' => w2.drew = w') 9 (by kernel_rfl) (by kernel_rfl) (rfl) ?_; intro _; simp only [List.take_succ_cons, List.take_zero, List.drop_succ_cons, List.drop_zero]; (repeat (first | go_big_quiet_step ((fail)) | quiet_step ((fail)))); refine wpQuiet_nil ?_; intro wz hz)
    subst hz
    clear m0 m1 m2 m3 m4 m5 m6 x0 x1 x2 x3 a0 a1 s0
    go_wp2_with (fail)
    refine (s_wput pm n M f2 k2 true wr false fr g _ _ S2.drew).mono ?_
    rintro e w4 ⟨rfl, S4⟩
    obtain ⟨p1, p2⟩ := put_nat (M := M) hf hk hr
    rw [p2] at S4
    rw [p1]
    clear p1 p2
    go_wp2_with (fail)
    go_ret
    exact ⟨rfl, S4.swap⟩

end Go.Proofs.Ytoiiblajgkdabaa
