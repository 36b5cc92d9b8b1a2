/- The entries that are put one after the other; what a walk's steps are. Plain facts, and the cells of the list of entries. -/
import Derived.Test.YtnodcmmifbcbiaaLaw07
namespace Go.Proofs.Ytnodcmmifbcbiaa
set_option linter.unusedSimpArgs false
set_option linter.unusedVariables false
open Go.RowKit
set_option maxHeartbeats 4000000

/-- An entry that is put (or a word that is written). -/
structure Op7 where
  f : Int
  p : Int
  v : Bool
  wr : Bool
  tb : Bool
  fr : Int
  raw : Bool
  x : Int

/-- The ranges of an entry's numbers. -/
def Op7.ok (o : Op7) : Prop := I64 o.f ∧ I64 o.p ∧ I64 o.fr ∧ U64 o.x

/-- A list of them lies at an address. -/
def OpsAt (w : World) (b off len : Nat) (L : Nat → Op7) : Prop :=
  ∀ i, i < len → (w.cell? ⟨b, off + i * 8, none⟩ = some (.int .i64 (L i).f) ∧ w.cell? ⟨b, off + i * 8 + 1, none⟩ = some (.int .i64 (L i).p) ∧ w.cell? ⟨b, off + i * 8 + 2, none⟩ = some (.bool (L i).v) ∧
    w.cell? ⟨b, off + i * 8 + 3, none⟩ = some (.bool (L i).wr) ∧ w.cell? ⟨b, off + i * 8 + 4, none⟩ = some (.bool (L i).tb) ∧ w.cell? ⟨b, off + i * 8 + 5, none⟩ = some (.int .i64 (L i).fr) ∧
    w.cell? ⟨b, off + i * 8 + 6, none⟩ = some (.bool (L i).raw) ∧ w.cell? ⟨b, off + i * 8 + 7, none⟩ = some (.int .u64 (L i).x))

/-- What a slice argument of them holds: nothing, or what lies at an address. -/
def OpsArg (w : World) (a : Option Addr) (len : Nat) (L : Nat → Op7) : Prop :=
  len = 0 ∨ ∃ b off, a = some ⟨b, off, none⟩ ∧ b < w.heap.size ∧ OpsAt w b off len L

theorem OpsAt.below {w w' : World} {b off len : Nat} {L : Nat → Op7} (h : OpsAt w b off len L) {B : Nat} (hb : Below B w w') (hB : b < B) : OpsAt w' b off len L := by
  intro i hi
  obtain ⟨h0, h1, h2, h3, h4, h5, h6, h7⟩ := h i hi
  exact ⟨keep hb hB h0, keep hb hB h1, keep hb hB h2, keep hb hB h3, keep hb hB h4, keep hb hB h5, keep hb hB h6, keep hb hB h7⟩

/-- The words behind k of them. -/
def putsW (W : Nat → Int) (L : Nat → Op7) : Nat → (Nat → Int)
  | 0 => W
  | k + 1 => putW (putsW W L k) 4 (L k).f (L k).p (L k).v (L k).wr (L k).tb (L k).fr
theorem fine_puts {W : Nat → Int} (h : Fine W) (L : Nat → Op7) : ∀ k, Fine (putsW W L k)
  | 0 => h
  | k + 1 => fine_put (fine_puts h L k) _ _ _ _ _ _ _

/-! ### What a walk's steps are -/
theorem walkL_st (W : Nat → Int) (n : Nat) (p : Int) : ∀ (k : Nat) (f : Int), (walkL W n p k f).st.length ≤ k ∧ (0 < k → ∃ r, (walkL W n p k f).st = (f, idxI p (3 - (k : Int))) :: r)
  | 0, f => by simp [walkL]
  | k + 1, f => by
    have e : (2 - (k : Int)) = 3 - ((k + 1 : Nat) : Int) := by omega
    have ih := walkL_st W n p k (gF W n f (idxI p (2 - (k : Int))))
    simp only [walkL]
    rw [← e]
    split
    · simp
    · split
      · simp
      · split
        · simp
        · split
          · simp
          · simp; exact ih.1

/-- Each next table is where the entry ahead leads. -/
def Leads (W : Nat → Int) (n : Nat) (p : Int) : List (Int × Int) → Prop
  | x :: y :: r => (gE W n x.1 x.2 = 0 ∧ gT W n x.1 x.2 = true ∧ gF W n x.1 x.2 = y.1) ∧ Leads W n p (y :: r)
  | _ => True

theorem walkL_leads (W : Nat → Int) (n : Nat) (p : Int) : ∀ (k : Nat) (f : Int), Leads W n p (walkL W n p k f).st
  | 0, f => by simp [walkL, Leads]
  | k + 1, f => by
    have ih := walkL_leads W n p k (gF W n f (idxI p (2 - (k : Int))))
    have hst := walkL_st W n p k (gF W n f (idxI p (2 - (k : Int))))
    simp only [walkL]
    split
    · simp [Leads]
    · rename_i h1
      split
      · simp [Leads]
      · rename_i h2
        split
        · simp [Leads]
        · rename_i h3
          split
          · simp [Leads]
          · rename_i h4
            obtain ⟨r, hr⟩ := hst.2 (by omega)
            simp only [hr, Leads]
            rw [hr] at ih
            refine ⟨⟨by simpa using h1, ?_, trivial⟩, ih⟩
            have : gT W n f (idxI p (2 - (k : Int))) = decide (0 < k) := by simpa using h3
            rw [this]; simp; omega

theorem Leads.at {W : Nat → Int} {n : Nat} {p : Int} : ∀ {l : List (Int × Int)}, Leads W n p l → ∀ (i : Nat) (h : i + 1 < l.length),
    gE W n l[i].1 l[i].2 = 0 ∧ gT W n l[i].1 l[i].2 = true ∧ gF W n l[i].1 l[i].2 = l[i + 1].1
  | [], _, i, h => by simp at h
  | [x], _, i, h => by simp at h
  | x :: y :: r, hl, 0, h => by simpa using hl.1
  | x :: y :: r, hl, i + 1, h => by
    have := Leads.at hl.2 i (by simpa using h)
    simpa using this

theorem walkL_ok (W : Nat → Int) (n : Nat) (p : Int) : ∀ (k : Nat) (f : Int), (walkL W n p k f).e ≠ 1 ∧ ((walkL W n p k f).e = 0 → (walkL W n p k f).st.length = k ∧ (walkL W n p k f).v = true ∧ (walkL W n p k f).tb = false)
  | 0, f => by simp [walkL]
  | k + 1, f => by
    have ih := walkL_ok W n p k (gF W n f (idxI p (2 - (k : Int))))
    simp only [walkL]
    split
    · simp
    · split
      · simp
      · split
        · simp
        · split
          · rename_i h; subst h; simp
          · exact ⟨ih.1, fun h => by obtain ⟨a, b, c⟩ := ih.2 h; exact ⟨by simp [a], b, c⟩⟩

theorem wCells_at : ∀ (l : List (Int × Int)) (i : Nat) (h : i < l.length), (wCells l)[2 * i]? = some (.int .i64 l[i].1) ∧ (wCells l)[2 * i + 1]? = some (.int .i64 l[i].2)
  | [], i, h => by simp at h
  | x :: l, 0, h => by simp [wCells]
  | x :: l, i + 1, h => by
    have := wCells_at l i (by simpa using h)
    have e : wCells (x :: l) = .int .i64 x.1 :: .int .i64 x.2 :: wCells l := by simp [wCells]
    rw [e, show 2 * (i + 1) = 2 * i + 1 + 1 by omega, show 2 * i + 1 + 1 + 1 = (2 * i + 1) + 1 + 1 by omega]
    simpa using this

theorem own_steps {w : World} {base e n : Nat} {v : Value} {l : List (Int × Int)} (h : w.ownsRow base e 2 v n (wCells l)) (hn : n = l.length) (h0 : 0 < n) :
    ∃ g cap, v = .slice (some ⟨g, 0, none⟩) n cap ∧ base ≤ g ∧ g < w.heap.size ∧ ∀ i (hi : i < l.length), w.cell? ⟨g, i * 2, none⟩ = some (.int .i64 l[i].1) ∧ w.cell? ⟨g, i * 2 + 1, none⟩ = some (.int .i64 l[i].2) := by
  have h' := h
  rcases h.2 with ⟨rfl, rfl⟩ | ⟨g, cap, cur, rfl, hg, hh, _⟩
  · omega
  · refine ⟨g, cap, rfl, hg, ?_, fun i hi => ?_⟩
    · rcases Nat.lt_or_ge g w.heap.size with h | h
      · exact h
      · rw [Array.getElem?_eq_none h] at hh; cases hh
    · obtain ⟨e1, e2⟩ := wCells_at l i hi
      rw [h'.cellAt (i * 2) (by omega), h'.cellAt (i * 2 + 1) (by omega), show i * 2 = 2 * i by omega]
      exact ⟨e1, e2⟩

/-- Two steps that follow each other: what leads from one to the other, and their cells. -/
theorem lead_cells {W : Nat → Int} {n : Nat} {p : Int} {l : List (Int × Int)} {w : World} {g : Nat} (hl : Leads W n p l)
    (hc : ∀ i (hi : i < l.length), w.cell? ⟨g, i * 2, none⟩ = some (.int .i64 l[i].1) ∧ w.cell? ⟨g, i * 2 + 1, none⟩ = some (.int .i64 l[i].2)) (j : Nat) (h1 : 1 ≤ j) (h2 : j < l.length) :
    ∃ X Y : Int × Int, gE W n X.1 X.2 = 0 ∧ gT W n X.1 X.2 = true ∧ gF W n X.1 X.2 = Y.1 ∧ w.cell? ⟨g, (j - 1) * 2, none⟩ = some (.int .i64 X.1) ∧ w.cell? ⟨g, (j - 1) * 2 + 1, none⟩ = some (.int .i64 X.2) ∧ w.cell? ⟨g, j * 2, none⟩ = some (.int .i64 Y.1) := by
  obtain ⟨i, rfl⟩ : ∃ i, j = i + 1 := ⟨j - 1, by omega⟩
  obtain ⟨q0, q1, q2⟩ := hl.at i h2
  exact ⟨l[i], l[i + 1], q0, q1, q2, (hc i (by omega)).1, (hc i (by omega)).2, (hc (i + 1) h2).1⟩

theorem below_undrew {B : Nat} {w w' : World} (h : Below B w.drew w') : Below B w w' := ⟨h.os, h.tape, h.output, h.size, h.block⟩

/-! ### A walk hangs on its own places alone -/
theorem walkL_same (W W' : Nat → Int) (n : Nat) (p : Int) : ∀ (k : Nat) (f : Int),
    (∀ x ∈ (walkL W n p k f).st, gE W' n x.1 x.2 = gE W n x.1 x.2 ∧ gV W' n x.1 x.2 = gV W n x.1 x.2 ∧ gW W' n x.1 x.2 = gW W n x.1 x.2 ∧ gT W' n x.1 x.2 = gT W n x.1 x.2 ∧ gF W' n x.1 x.2 = gF W n x.1 x.2) →
    walkL W' n p k f = walkL W n p k f
  | 0, f, _ => rfl
  | k + 1, f, h => by
    have hmem : (f, idxI p (2 - (k : Int))) ∈ (walkL W n p (k + 1) f).st := by
      obtain ⟨r, hr⟩ := (walkL_st W n p (k + 1) f).2 (by omega)
      have e : (2 - (k : Int)) = 3 - ((k + 1 : Nat) : Int) := by omega
      rw [hr, e]; simp
    obtain ⟨h1, h2, h3, h4, h5⟩ := h _ hmem
    simp only [walkL] at h ⊢
    simp only at h1 h2 h3 h4 h5
    rw [h1, h2, h3, h4, h5]
    split
    · rfl
    · rename_i a1
      split
      · rfl
      · rename_i a2
        split
        · rfl
        · rename_i a3
          split
          · rfl
          · rename_i a4
            rw [if_neg a1, if_neg a2, if_neg a3, if_neg a4] at h
            rw [walkL_same W W' n p k _ (fun x hx => h x (by simp [hx]))]

theorem walkL_place (W : Nat → Int) (n : Nat) (p : Int) : ∀ (k : Nat) (f : Int) (i : Nat) (h : i < (walkL W n p k f).st.length), ((walkL W n p k f).st[i]).2 = idxI p (3 - (k : Int) + (i : Int))
  | 0, f, i, h => by simp [walkL] at h
  | k + 1, f, i, h => by
    have e : (2 - (k : Int)) = 3 - ((k + 1 : Nat) : Int) := by omega
    cases i with
    | zero =>
      obtain ⟨r, hr⟩ := (walkL_st W n p (k + 1) f).2 (by omega)
      simp only [hr]
      simp
    | succ i =>
      by_cases hh : (walkL W n p (k + 1) f).st = (f, idxI p (2 - (k : Int))) :: (walkL W n p k (gF W n f (idxI p (2 - (k : Int))))).st
      · simp only [hh] at h ⊢
        have := walkL_place W n p k (gF W n f (idxI p (2 - (k : Int)))) i (by simpa using h)
        simp only [List.getElem_cons_succ]
        rw [this]
        congr 1
        omega
      · exfalso
        apply hh
        have hl : 1 < (walkL W n p (k + 1) f).st.length := by omega
        clear hh h
        revert hl
        simp only [walkL]
        split
        · simp
        · split
          · simp
          · split
            · simp
            · split
              · simp
              · simp

/-- The words behind k entries that are put where no step is. -/
def ownB (S : List (Int × Int)) (o : Op7) : Bool := S.any fun x => x.1 == o.f && x.2 == o.p
def putsO (W : Nat → Int) (S : List (Int × Int)) (L : Nat → Op7) : Nat → (Nat → Int)
  | 0 => W
  | k + 1 => if ownB S (L k) then putsO W S L k else putW (putsO W S L k) 4 (L k).f (L k).p (L k).v (L k).wr (L k).tb (L k).fr

theorem putsO_same (W : Nat → Int) (S : List (Int × Int)) (L : Nat → Op7) (x : Int × Int) (hx : x ∈ S) : ∀ k,
    gE (putsO W S L k) 4 x.1 x.2 = gE W 4 x.1 x.2 ∧ gV (putsO W S L k) 4 x.1 x.2 = gV W 4 x.1 x.2 ∧ gW (putsO W S L k) 4 x.1 x.2 = gW W 4 x.1 x.2 ∧ gT (putsO W S L k) 4 x.1 x.2 = gT W 4 x.1 x.2 ∧ gF (putsO W S L k) 4 x.1 x.2 = gF W 4 x.1 x.2
  | 0 => ⟨rfl, rfl, rfl, rfl, rfl⟩
  | k + 1 => by
    have ih := putsO_same W S L x hx k
    unfold putsO
    split
    · exact ih
    · rename_i hn
      have hne : ¬ (x.1 = (L k).f ∧ x.2 = (L k).p) := fun h => hn (List.any_eq_true.2 ⟨x, hx, by simp [h.1, h.2]⟩)
      obtain ⟨a, b, c, d, e⟩ := get_put_other (putsO W S L k) 4 (L k).f (L k).p x.1 x.2 (L k).v (L k).wr (L k).tb (L k).fr hne
      rw [a, b, c, d, e]
      exact ih

theorem walkM_own (W : Nat → Int) (L : Nat → Op7) (p : Int) (k : Nat) : walkM (putsO W (walkM W 4 0 p).st L k) 4 0 p = walkM W 4 0 p := by
  unfold walkM
  split
  · rename_i h
    apply walkL_same
    intro x hx
    have := putsO_same W (walkL W 4 p 3 0).st L x hx k
    simpa [h] using this
  · rfl

theorem ownB_take (S : List (Int × Int)) (o : Op7) (k : Nat) (h : k < S.length) : ownB (S.take (k + 1)) o = (ownB (S.take k) o || (S[k].1 == o.f && S[k].2 == o.p)) := by
  unfold ownB
  rw [List.take_succ_eq_append_getElem h, List.any_append]
  simp only [List.any_cons, List.any_nil, Bool.or_false]

/-- The steps' cells: nothing, or what lies at an address. -/
def StepsArg (w : World) (a : Option Addr) (len : Nat) (S : List (Int × Int)) : Prop :=
  len = S.length ∧ (len = 0 ∨ ∃ g, a = some ⟨g, 0, none⟩ ∧ g < w.heap.size ∧ ∀ i (hi : i < S.length), w.cell? ⟨g, i * 2, none⟩ = some (.int .i64 S[i].1) ∧ w.cell? ⟨g, i * 2 + 1, none⟩ = some (.int .i64 S[i].2))

theorem drewN_cell {w : World} (q : Nat) {b o : Nat} {v : Value} (h : w.cell? ⟨b, o, none⟩ = some v) : (w.drewN q).cell? ⟨b, o, none⟩ = some v := h

end Go.Proofs.Ytnodcmmifbcbiaa
