/- Windows: lists of them, in order of where they begin; slices.SortFunc over them. -/
import Derived.Test.YtjacbcephokbbaaDoorSep
import Derived.Test.YtjacbcephokbbaaDoorSortW
import Derived.Shelf.SlSortCmp.WholeK
namespace Go.Proofs.YtjacbcephokbbaaDoor
set_option linter.unusedSimpArgs false
set_option linter.unusedVariables false
set_option maxRecDepth 100000
open Go.RowKit Go.Sort Go.Shelf
set_option maxHeartbeats 1000000

/-- A window: whose, where it begins, how long it is. -/
structure Win where
  p : Int
  f : Int
  l : Int
instance : Inhabited Win := ⟨⟨0, 0, 0⟩⟩
def encW (x : Win) : List Value := [.int .i64 x.p, .int .i64 x.f, .int .i64 x.l]
def winCells (L : List Win) : List Value := L.flatMap encW
theorem winCells_length (L : List Win) : (winCells L).length = L.length * 3 := by
  induction L with
  | nil => rfl
  | cons a l ih => simp only [winCells, List.flatMap_cons, List.length_append] at *; rw [ih]; simp [encW]; omega
theorem winCells_snoc (L : List Win) (x : Win) : winCells (L ++ [x]) = winCells L ++ encW x := by simp [winCells]
theorem winCells_at : ∀ (L : List Win) (i : Nat) (h : i < L.length), (winCells L)[i * 3]? = some (.int .i64 L[i].p) ∧ (winCells L)[i * 3 + 1]? = some (.int .i64 L[i].f) ∧ (winCells L)[i * 3 + 2]? = some (.int .i64 L[i].l)
  | [], i, h => by simp at h
  | x :: L, 0, h => by simp [winCells, encW]
  | x :: L, i + 1, h => by
    have ih := winCells_at L i (by simpa using h)
    have e : winCells (x :: L) = encW x ++ winCells L := rfl
    have h3 : (encW x).length = 3 := rfl
    rw [e]
    have g : ∀ j, (encW x ++ winCells L)[(i + 1) * 3 + j]? = (winCells L)[i * 3 + j]? := fun j => by
      rw [List.getElem?_append_right (by omega)]; congr 1; omega
    have g0 := g 0
    simp only [Nat.add_zero] at g0
    rw [g0, g 1, g 2]
    exact ih

/-- In their order: each begins behind the one ahead of it. -/
def Rising (L : List Win) : Prop := L.Pairwise fun a b => a.f < b.f
def insW (x : Win) : List Win → List Win
  | [] => [x]
  | y :: L => if x.f < y.f then x :: y :: L else y :: insW x L
theorem insW_perm (x : Win) : ∀ L, (insW x L).Perm (x :: L)
  | [] => List.Perm.refl _
  | y :: L => by
    unfold insW
    split
    · exact List.Perm.refl _
    · exact ((insW_perm x L).cons y).trans (List.Perm.swap x y L)
theorem insW_rising (x : Win) : ∀ L, Rising L → (∀ y ∈ L, y.f ≠ x.f) → Rising (insW x L)
  | [], _, _ => by unfold insW Rising; simp
  | y :: L, h, hx => by
    unfold insW
    have h1 := List.pairwise_cons.1 h
    have hy := hx y (by simp)
    split
    · rename_i hlt
      refine List.pairwise_cons.2 ⟨fun z hz => ?_, h⟩
      rcases List.mem_cons.1 hz with rfl | hz
      · exact hlt
      · have := h1.1 z hz; omega
    · refine List.pairwise_cons.2 ⟨fun z hz => ?_, insW_rising x L h1.2 (fun z hz => hx z (by simp [hz]))⟩
      rcases List.mem_cons.1 ((insW_perm x L).mem_iff.1 hz) with rfl | hz
      · omega
      · exact h1.1 z hz
theorem rising_eq : ∀ {L M : List Win}, L.Perm M → Rising L → Rising M → L = M
  | [], M, h, _, _ => (List.nil_perm.1 h).symm
  | a :: L, [], h, _, _ => absurd h.length_eq (by simp)
  | a :: L, b :: M, h, h1, h2 => by
    have p1 := List.pairwise_cons.1 h1
    have p2 := List.pairwise_cons.1 h2
    have ha : a ∈ b :: M := h.mem_iff.1 (by simp)
    have hb : b ∈ a :: L := h.mem_iff.2 (by simp)
    have hab : a = b := by
      rcases List.mem_cons.1 ha with e | e
      · exact e
      · rcases List.mem_cons.1 hb with e' | e'
        · exact e'.symm
        · have := p2.1 a e; have := p1.1 b e'; omega
    subst hab
    rw [rising_eq (List.Perm.cons_inv h) p1.2 p2.2]

/-! ### The sort -/
theorem lt_win (x y : Win) : ltOf (fun x y : Win => Lib.compareInt x.f y.f) x y = decide (x.f < y.f) := by
  unfold ltOf Lib.compareInt
  by_cases h1 : x.f < y.f
  · simp [h1]
  · by_cases h2 : y.f < x.f <;> simp [h1, h2]
theorem swo_win : SWO (ltOf fun x y : Win => Lib.compareInt x.f y.f) where
  irrefl x := by rw [lt_win]; simp
  trans x y z h1 h2 := by rw [lt_win] at *; simp at *; omega
  ntrans x y z h1 h2 := by rw [lt_win] at *; simp at *; omega

theorem begins_any (x y : Win) (W : World) : Calls Tryd.prog 29 #[.agg #[.int .i64 x.p, .int .i64 x.f, .int .i64 x.l], .agg #[.int .i64 y.p, .int .i64 y.f, .int .i64 y.l]] W fun e w' => e = .returned (.int .i64 (Lib.compareInt x.f y.f)) ∧ ∃ q os', w' = Sort.grow (W.drewN q) os' := by
  have hcon := fun W' => AnyG.cmp_Compare_int Tryd.cmpInt x.f y.f W'
  change ∀ W', Calls Tryd.prog 37 _ _ _ at hcon
  generalize Lib.compareInt x.f y.f = r at hcon ⊢
  go_enter Tryd.func29, Tryd.ntmps29
  go_wp2_with (go_at_call 37; refine (hcon _).mono ?_; rintro e w' ⟨rfl, rfl⟩)
  go_ret
  exact ⟨rfl, 0, _, by rw [alloc_eq_grow, alloc_eq_grow, grow_grow]; rfl⟩
theorem begins_lays (blk off size : Nat) (w : World) : CmpLays Tryd.prog 29 #[] encW 3 (fun x y => Lib.compareInt x.f y.f) blk off size w :=
  fun _ _ _ _ x y => begins_any x y _

theorem own_holds {w : World} {base e g n cap : Nat} {L : List Win} (h : w.ownsRow base e 3 (.slice (some ⟨g, 0, none⟩) n cap) n (winCells L)) (hn : L.length = n) : HoldsK encW 3 w g 0 L.toArray := by
  intro j hj
  rw [size_flatK] at hj
  have hjn : j < n * 3 := by simpa [hn] using hj
  have hc := h.cellAt j hjn
  rw [Nat.zero_add]
  refine ⟨?_, ?_⟩
  · rw [hc, get_flatK _ _ _ _ hj]
    have hi : j / 3 < L.length := by omega
    obtain ⟨a, b, c⟩ := winCells_at L (j / 3) hi
    have hL : L.toArray[j / 3]! = L[j / 3] := by simp [hi]
    rw [hL]
    have h3 : j % 3 = 0 ∨ j % 3 = 1 ∨ j % 3 = 2 := by omega
    rcases h3 with h3 | h3 | h3
    · rw [show (winCells L)[j]? = (winCells L)[j / 3 * 3]? by congr 1; omega, a, h3]; rfl
    · rw [show (winCells L)[j]? = (winCells L)[j / 3 * 3 + 1]? by congr 1; omega, b, h3]; rfl
    · rw [show (winCells L)[j]? = (winCells L)[j / 3 * 3 + 2]? by congr 1; omega, c, h3]; rfl
  · exact h.frozenAt j

/-- A row that has been sorted: the windows in their order. -/
theorem own_sorted {w : World} {base e g n cap : Nat} {L : List Win} (h : w.ownsRow base e 3 (.slice (some ⟨g, 0, none⟩) n cap) n (winCells L)) (d' : Array Win) (hs : d'.size = n) (m : Nat) (os : Array Obj) :
    (sortWorldK encW 3 w g 0 m d' os).ownsRow base e 3 (.slice (some ⟨g, 0, none⟩) n cap) n (winCells d'.toList) ∧ Touch (· = g) w (sortWorldK encW 3 w g 0 m d' os) := by
  rcases h.2 with ⟨h1, _⟩ | ⟨g', cap', cur, h1, hb, h2, h3, h4, h5, h6⟩
  · cases h1
  · cases h1
    have hg := heap_lt h2
    have hh : (sortWorldK encW 3 w g 0 m d' os).heap[g]? = some (.cells (putCells id 0 (flatK encW 3 d') cur) e (0, 0)) := by
      unfold sortWorldK putRowK putRow mapBlock Sort.grow Sort.ahead
      simp only [Array.getElem?_append, Array.size_modify, hg, if_true, Array.getElem?_modify, h2, Option.map_some, onCells]
    refine ⟨⟨by rw [winCells_length]; simp [hs], Or.inr ⟨g, cap, _, rfl, hb, hh, h3, h4, by simp [putCells, h5], ?_⟩⟩, ⟨rfl, rfl, rfl, by unfold sortWorldK putRowK putRow mapBlock Sort.grow Sort.ahead; simp, fun k hk hne => ?_⟩⟩
    · apply List.ext_getElem?
      intro j
      rw [List.getElem?_take]
      by_cases hj : j < n * 3
      · have hc : j < cur.size := by rw [h5]; omega
        rw [if_pos hj]
        have e1 : (putCells id 0 (flatK encW 3 d') cur).toList[j]? = some ((flatK encW 3 d')[j]!) := by
          unfold putCells
          rw [Array.getElem?_toList, Array.getElem?_mapIdx, Array.getElem?_eq_getElem hc, Option.map_some, if_pos ⟨by omega, by simp [hs]; omega⟩]
          rfl
        rw [e1, get_flatK _ _ _ _ (by rw [hs]; exact hj)]
        have hi : j / 3 < d'.toList.length := by simp [hs]; omega
        obtain ⟨a, b, c⟩ := winCells_at d'.toList (j / 3) hi
        have hL : d'[j / 3]! = d'.toList[j / 3] := by simp at hi; simp [hi]
        rw [hL]
        have h3 : j % 3 = 0 ∨ j % 3 = 1 ∨ j % 3 = 2 := by omega
        rcases h3 with h3 | h3 | h3
        · rw [show (winCells d'.toList)[j]? = (winCells d'.toList)[j / 3 * 3]? by congr 1; omega, a, h3]; rfl
        · rw [show (winCells d'.toList)[j]? = (winCells d'.toList)[j / 3 * 3 + 1]? by congr 1; omega, b, h3]; rfl
        · rw [show (winCells d'.toList)[j]? = (winCells d'.toList)[j / 3 * 3 + 2]? by congr 1; omega, c, h3]; rfl
      · rw [if_neg hj, List.getElem?_eq_none]
        rw [winCells_length]; simp [hs]; omega
    · unfold sortWorldK putRowK putRow mapBlock Sort.grow Sort.ahead
      have hne' : ¬ g = k := fun e => hne e.symm
      simp only [Array.getElem?_append, Array.size_modify, hk, if_true, Array.getElem?_modify, hne', if_false]

/-- slices.SortFunc over windows that begin apart: they come into their order. -/
def Sorted3 (w : World) (base e g n cap : Nat) (L : List Win) (e' : Ending) (w' : World) : Prop :=
  e' = .returned (.tuple #[]) ∧ ∃ M : List Win, M.Perm L ∧ (∀ i j (hi : i < j) (hj : j < M.length), ¬ M[j].f < M[i].f) ∧ w'.ownsRow base e 3 (.slice (some ⟨g, 0, none⟩) n cap) n (winCells M) ∧ Touch (· = g) w w'
theorem sort_any (base e g n cap : Nat) (L : List Win) (w : World) (h : w.ownsRow base e 3 (.slice (some ⟨g, 0, none⟩) n cap) n (winCells L)) (hn : L.length = n) (hsz : n < 1000000) :
    Calls Tryd.prog 28 #[.slice (some ⟨g, 0, none⟩) n cap, .func (.func 29) #[] #[]] w (Sorted3 w base e g n cap L) := by
  have eg : ∀ args w, (callFunc 29 args).run Tryd.prog w = .ok (.enter 29 args) w := enters_of Tryd.func29 (by kernel_rfl) rfl
  have hg : g < w.heap.size := by
    rcases h.2 with ⟨h1, _⟩ | ⟨g', cap', cur, h1, hb, h2, _⟩
    · cases h1
    · cases h1; exact heap_lt h2
  have hsn : L.toArray.size = n := by simp [hn]
  have hcon := AnyQ.slices_SortFunc Tryd.sortWin 3 Tryd.isAgg58 Tryd.sizeOf58 encW (fun _ => rfl) (fun x v hv => by simp [encW] at hv; rcases hv with rfl | rfl | rfl <;> rfl) (fun x y => Lib.compareInt x.f y.f) swo_win 29 #[] g 0 cap L.toArray w eg (begins_lays g 0 L.toArray.size w) (own_holds h hn) hg (by omega)
  change Calls Tryd.prog 28 _ _ _ at hcon
  rw [hsn] at hcon
  refine hcon.mono fun e' w' ⟨he, d', m, os, hp, hs, hw⟩ => ⟨he, d'.toList, ?_, fun i j hi hj => ?_, ?_⟩
  · have := hp.2.2
    have e1 : d'.extract 0 n = d' := by rw [show n = d'.size by rw [hp.1, hsn]]; simp
    have e2 : L.toArray.extract 0 n = L.toArray := by rw [← hsn]; simp
    rw [e1, e2] at this
    simpa using this
  · have hj' : j < n := by rw [← hsn, ← hp.1]; simpa using hj
    have := hs i j (by omega) hi hj'
    rw [lt_win] at this
    have hjd : j < d'.size := by simpa using hj
    have hid : i < d'.size := by omega
    simp only [decide_eq_false_iff_not] at this
    simpa [hjd, hid] using this
  · rw [hw]
    exact own_sorted h d' (by rw [hp.1, hsn]) m os

end Go.Proofs.YtjacbcephokbbaaDoor
