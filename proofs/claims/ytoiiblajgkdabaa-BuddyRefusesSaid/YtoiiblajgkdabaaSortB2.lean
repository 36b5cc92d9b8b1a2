/- Lists of blocks: in the order of their frames; slices.SortFunc over them. -/
import Derived.Test.YtoiiblajgkdabaaMapB
import Derived.Test.YtoiiblajgkdabaaSortB
import Derived.Test.YtoiiblajgkdabaaBase
import Derived.Shelf.SlSortCmp.WholeK
namespace Go.Proofs.Ytoiiblajgkdabaa
set_option linter.unusedSimpArgs false
set_option linter.unusedVariables false
set_option maxRecDepth 100000
open Go.RowKit Go.Sort Go.Shelf
set_option maxHeartbeats 1000000

def encL (x : Blk) : List Value := [.int .i64 x.1, .int .i64 x.2]
def blkCells (L : List Blk) : List Value := L.flatMap encL
theorem blkCells_length (L : List Blk) : (blkCells L).length = L.length * 2 := by
  induction L with
  | nil => rfl
  | cons a l ih => simp only [blkCells, List.flatMap_cons, List.length_append] at *; rw [ih]; simp [encL]; omega
theorem blkCells_snoc (L : List Blk) (x : Blk) : blkCells (L ++ [x]) = blkCells L ++ encL x := by simp [blkCells]
theorem blkCells_append (L M : List Blk) : blkCells (L ++ M) = blkCells L ++ blkCells M := by simp [blkCells]
theorem blkCells_at : ∀ (L : List Blk) (i : Nat) (h : i < L.length), (blkCells L)[i * 2]? = some (.int .i64 L[i].1) ∧ (blkCells L)[i * 2 + 1]? = some (.int .i64 L[i].2)
  | [], i, h => by simp at h
  | x :: L, 0, h => by simp [blkCells, encL]
  | x :: L, i + 1, h => by
    have ih := blkCells_at L i (by simpa using h)
    have e : blkCells (x :: L) = encL x ++ blkCells L := rfl
    have h3 : (encL x).length = 2 := rfl
    rw [e]
    have g : ∀ j, (encL x ++ blkCells L)[(i + 1) * 2 + j]? = (blkCells L)[i * 2 + j]? := fun j => by
      rw [List.getElem?_append_right (by omega)]; congr 1; omega
    have g0 := g 0
    simp only [Nat.add_zero] at g0
    rw [g0, g 1]
    exact ih

/-- In the order of their frames. -/
def RiseB (L : List Blk) : Prop := L.Pairwise fun a b => a.1 < b.1
theorem riseB_eq : ∀ {L M : List Blk}, (∀ x, x ∈ L ↔ x ∈ M) → RiseB L → RiseB M → L = M
  | [], [], _, _, _ => rfl
  | [], b :: M, h, _, _ => absurd ((h b).2 (by simp)) (by simp)
  | a :: L, [], h, _, _ => absurd ((h a).1 (by simp)) (by simp)
  | a :: L, b :: M, h, h1, h2 => by
    have p1 := List.pairwise_cons.1 h1
    have p2 := List.pairwise_cons.1 h2
    have hab : a = b := by
      rcases List.mem_cons.1 ((h a).1 (by simp)) with e | e
      · exact e
      · rcases List.mem_cons.1 ((h b).2 (by simp)) with e' | e'
        · exact e'.symm
        · have := p2.1 a e; have := p1.1 b e'; omega
    subst hab
    rw [riseB_eq (fun x => ?_) p1.2 p2.2]
    have hx := h x
    simp only [List.mem_cons] at hx
    constructor
    · intro hm
      rcases hx.1 (Or.inr hm) with rfl | h3
      · have := p1.1 x hm; omega
      · exact h3
    · intro hm
      rcases hx.2 (Or.inr hm) with rfl | h3
      · have := p2.1 x hm; omega
      · exact h3

/-! ### The sort -/
theorem lt_blk (x y : Blk) : ltOf (fun x y : Blk => Lib.compareInt x.1 y.1) x y = decide (x.1 < y.1) := by
  unfold ltOf Lib.compareInt
  by_cases h1 : x.1 < y.1
  · simp [h1]
  · by_cases h2 : y.1 < x.1 <;> simp [h1, h2]
theorem swo_blk : SWO (ltOf fun x y : Blk => Lib.compareInt x.1 y.1) where
  irrefl x := by rw [lt_blk]; simp
  trans x y z h1 h2 := by rw [lt_blk] at *; simp at *; omega
  ntrans x y z h1 h2 := by rw [lt_blk] at *; simp at *; omega

theorem by_any (x y : Blk) (W : World) : Calls Try.prog 52 #[.agg #[.int .i64 x.1, .int .i64 x.2], .agg #[.int .i64 y.1, .int .i64 y.2]] W fun e w' => e = .returned (.int .i64 (Lib.compareInt x.1 y.1)) ∧ ∃ q os', w' = Sort.grow (W.drewN q) os' := by
  have hcon := fun W' => AnyG.cmp_Compare_int Try.cmpInt x.1 y.1 W'
  change ∀ W', Calls Try.prog 80 _ _ _ at hcon
  generalize Lib.compareInt x.1 y.1 = r at hcon ⊢
  go_enter Try.func52, Try.ntmps52
  go_wp2_with (go_at_call 80; refine (hcon _).mono ?_; rintro e w' ⟨rfl, rfl⟩)
  go_ret
  exact ⟨rfl, 0, _, by rw [alloc_eq_grow, alloc_eq_grow, grow_grow]; rfl⟩
theorem cBlocks_any (x y : Blk) (W : World) : Calls Try.prog 53 #[.agg #[.int .i64 x.1, .int .i64 x.2], .agg #[.int .i64 y.1, .int .i64 y.2]] W fun e w' => e = .returned (.int .i64 (Lib.compareInt x.1 y.1)) ∧ ∃ q os', w' = Sort.grow (W.drewN q) os' := by
  have hcon := fun W' => by_any x y W'
  generalize Lib.compareInt x.1 y.1 = r at hcon ⊢
  go_enter Try.func53, Try.ntmps53
  go_wp2_with (fail)
  refine (hcon _).mono ?_
  rintro e w' ⟨rfl, q, os', rfl⟩
  go_wp2_with (fail)
  go_ret
  exact ⟨rfl, q, _, by rw [alloc_eq_grow, alloc_eq_grow, grow_grow, show ∀ (w : World) (os : Array Obj), (grow w os).drewN q = grow (w.drewN q) os from fun _ _ => rfl, grow_grow]⟩
theorem cHeld_any (x y : Blk) (W : World) : Calls Try.prog 51 #[.agg #[.int .i64 x.1, .int .i64 x.2], .agg #[.int .i64 y.1, .int .i64 y.2]] W fun e w' => e = .returned (.int .i64 (Lib.compareInt x.1 y.1)) ∧ ∃ q os', w' = Sort.grow (W.drewN q) os' := by
  have hcon := fun W' => by_any x y W'
  generalize Lib.compareInt x.1 y.1 = r at hcon ⊢
  go_enter Try.func51, Try.ntmps51
  go_wp2_with (fail)
  refine (hcon _).mono ?_
  rintro e w' ⟨rfl, q, os', rfl⟩
  go_wp2_with (fail)
  go_ret
  exact ⟨rfl, q, _, by rw [alloc_eq_grow, alloc_eq_grow, grow_grow, show ∀ (w : World) (os : Array Obj), (grow w os).drewN q = grow (w.drewN q) os from fun _ _ => rfl, grow_grow]⟩
theorem cBlocks_lays (blk off size : Nat) (w : World) : CmpLays Try.prog 53 #[] encL 2 (fun x y : Blk => Lib.compareInt x.1 y.1) blk off size w :=
  fun _ _ _ _ x y => cBlocks_any x y _
theorem cHeld_lays (blk off size : Nat) (w : World) : CmpLays Try.prog 51 #[] encL 2 (fun x y : Blk => Lib.compareInt x.1 y.1) blk off size w :=
  fun _ _ _ _ x y => cHeld_any x y _
theorem ownB_holds {w : World} {base e g n cap : Nat} {L : List Blk} (h : w.ownsRow base e 2 (.slice (some ⟨g, 0, none⟩) n cap) n (blkCells L)) (hn : L.length = n) : HoldsK encL 2 w g 0 L.toArray := by
  intro j hj
  rw [size_flatK] at hj
  have hjn : j < n * 2 := by simpa [hn] using hj
  have hc := h.cellAt j hjn
  rw [Nat.zero_add]
  refine ⟨?_, ?_⟩
  · rw [hc, get_flatK _ _ _ _ hj]
    have hi : j / 2 < L.length := by omega
    obtain ⟨a, b⟩ := blkCells_at L (j / 2) hi
    have hL : L.toArray[j / 2]! = L[j / 2] := by simp [hi]
    rw [hL]
    have h3 : j % 2 = 0 ∨ j % 2 = 1 := by omega
    rcases h3 with h3 | h3
    · rw [show (blkCells L)[j]? = (blkCells L)[j / 2 * 2]? by congr 1; omega, a, h3]; rfl
    · rw [show (blkCells L)[j]? = (blkCells L)[j / 2 * 2 + 1]? by congr 1; omega, b, h3]; rfl
  · exact h.frozenAt j

/-- A row that has been sorted: the windows in their order. -/
theorem ownB_sorted {w : World} {base e g n cap : Nat} {L : List Blk} (h : w.ownsRow base e 2 (.slice (some ⟨g, 0, none⟩) n cap) n (blkCells L)) (d' : Array Blk) (hs : d'.size = n) (m : Nat) (os : Array Obj) :
    (sortWorldK encL 2 w g 0 m d' os).ownsRow base e 2 (.slice (some ⟨g, 0, none⟩) n cap) n (blkCells d'.toList) ∧ Touch (· = g) w (sortWorldK encL 2 w g 0 m d' os) := by
  rcases h.2 with ⟨h1, _⟩ | ⟨g', cap', cur, h1, hb, h2, h3, h4, h5, h6⟩
  · cases h1
  · cases h1
    have hg := heap_lt h2
    have hh : (sortWorldK encL 2 w g 0 m d' os).heap[g]? = some (.cells (putCells id 0 (flatK encL 2 d') cur) e (0, 0)) := by
      unfold sortWorldK putRowK putRow mapBlock Sort.grow Sort.ahead
      simp only [Array.getElem?_append, Array.size_modify, hg, if_true, Array.getElem?_modify, h2, Option.map_some, onCells]
    refine ⟨⟨by rw [blkCells_length]; simp [hs], Or.inr ⟨g, cap, _, rfl, hb, hh, h3, h4, by simp [putCells, h5], ?_⟩⟩, ⟨rfl, rfl, rfl, by unfold sortWorldK putRowK putRow mapBlock Sort.grow Sort.ahead; simp, fun k hk hne => ?_⟩⟩
    · apply List.ext_getElem?
      intro j
      rw [List.getElem?_take]
      by_cases hj : j < n * 2
      · have hc : j < cur.size := by rw [h5]; omega
        rw [if_pos hj]
        have e1 : (putCells id 0 (flatK encL 2 d') cur).toList[j]? = some ((flatK encL 2 d')[j]!) := by
          unfold putCells
          rw [Array.getElem?_toList, Array.getElem?_mapIdx, Array.getElem?_eq_getElem hc, Option.map_some, if_pos ⟨by omega, by simp [hs]; omega⟩]
          rfl
        rw [e1, get_flatK _ _ _ _ (by rw [hs]; exact hj)]
        have hi : j / 2 < d'.toList.length := by simp [hs]; omega
        obtain ⟨a, b⟩ := blkCells_at d'.toList (j / 2) hi
        have hL : d'[j / 2]! = d'.toList[j / 2] := by simp at hi; simp [hi]
        rw [hL]
        have h3 : j % 2 = 0 ∨ j % 2 = 1 := by omega
        rcases h3 with h3 | h3
        · rw [show (blkCells d'.toList)[j]? = (blkCells d'.toList)[j / 2 * 2]? by congr 1; omega, a, h3]; rfl
        · rw [show (blkCells d'.toList)[j]? = (blkCells d'.toList)[j / 2 * 2 + 1]? by congr 1; omega, b, h3]; rfl
      · rw [if_neg hj, List.getElem?_eq_none]
        rw [blkCells_length]; simp [hs]; omega
    · unfold sortWorldK putRowK putRow mapBlock Sort.grow Sort.ahead
      have hne' : ¬ g = k := fun e => hne e.symm
      simp only [Array.getElem?_append, Array.size_modify, hk, if_true, Array.getElem?_modify, hne', if_false]

/-- slices.SortFunc over blocks: they come into their order. -/
def SortedB (w : World) (base e g n cap : Nat) (L : List Blk) (e' : Ending) (w' : World) : Prop :=
  e' = .returned (.tuple #[]) ∧ ∃ M : List Blk, M.Perm L ∧ (∀ i j (hi : i < j) (hj : j < M.length), ¬ M[j].1 < M[i].1) ∧ w'.ownsRow base e 2 (.slice (some ⟨g, 0, none⟩) n cap) n (blkCells M) ∧ Touch (· = g) w w'
theorem sortBlocks (base e g n cap : Nat) (L : List Blk) (w : World) (h : w.ownsRow base e 2 (.slice (some ⟨g, 0, none⟩) n cap) n (blkCells L)) (hn : L.length = n) (hsz : n < 1000000) :
    Calls Try.prog 50 #[.slice (some ⟨g, 0, none⟩) n cap, .func (.func 53) #[] #[]] w (SortedB w base e g n cap L) := by
  have eg : ∀ args w, (callFunc 53 args).run Try.prog w = .ok (.enter 53 args) w := enters_of Try.func53 (by kernel_rfl) rfl
  have hg : g < w.heap.size := by
    rcases h.2 with ⟨h1, _⟩ | ⟨g', cap', cur, h1, hb, h2, _⟩
    · cases h1
    · cases h1; exact heap_lt h2
  have hsn : L.toArray.size = n := by simp [hn]
  have hcon := AnyQ.slices_SortFunc Try.sortBlk 2 Try.isAgg39 Try.sizeOf39 encL (fun _ => rfl) (fun x v hv => by simp [encL] at hv; rcases hv with rfl | rfl <;> rfl) (fun x y : Blk => Lib.compareInt x.1 y.1) swo_blk 53 #[] g 0 cap L.toArray w eg (cBlocks_lays g 0 L.toArray.size w) (ownB_holds h hn) hg (by omega)
  change Calls Try.prog 50 _ _ _ at hcon
  rw [hsn] at hcon
  refine hcon.mono fun e' w' ⟨he, d', m, os, hp, hs, hw⟩ => ⟨he, d'.toList, ?_, fun i j hi hj => ?_, ?_⟩
  · have := hp.2.2
    have e1 : d'.extract 0 n = d' := by rw [show n = d'.size by rw [hp.1, hsn]]; simp
    have e2 : L.toArray.extract 0 n = L.toArray := by rw [← hsn]; simp
    rw [e1, e2] at this
    simpa using this
  · have hj' : j < n := by rw [← hsn, ← hp.1]; simpa using hj
    have := hs i j (by omega) hi hj'
    rw [lt_blk] at this
    have hjd : j < d'.size := by simpa using hj
    have hid : i < d'.size := by omega
    simp only [decide_eq_false_iff_not] at this
    simpa [hjd, hid] using this
  · rw [hw]
    exact ownB_sorted h d' (by rw [hp.1, hsn]) m os
theorem sortHeld (base e g n cap : Nat) (L : List Blk) (w : World) (h : w.ownsRow base e 2 (.slice (some ⟨g, 0, none⟩) n cap) n (blkCells L)) (hn : L.length = n) (hsz : n < 1000000) :
    Calls Try.prog 50 #[.slice (some ⟨g, 0, none⟩) n cap, .func (.func 51) #[] #[]] w (SortedB w base e g n cap L) := by
  have eg : ∀ args w, (callFunc 51 args).run Try.prog w = .ok (.enter 51 args) w := enters_of Try.func51 (by kernel_rfl) rfl
  have hg : g < w.heap.size := by
    rcases h.2 with ⟨h1, _⟩ | ⟨g', cap', cur, h1, hb, h2, _⟩
    · cases h1
    · cases h1; exact heap_lt h2
  have hsn : L.toArray.size = n := by simp [hn]
  have hcon := AnyQ.slices_SortFunc Try.sortBlk 2 Try.isAgg39 Try.sizeOf39 encL (fun _ => rfl) (fun x v hv => by simp [encL] at hv; rcases hv with rfl | rfl <;> rfl) (fun x y : Blk => Lib.compareInt x.1 y.1) swo_blk 51 #[] g 0 cap L.toArray w eg (cHeld_lays g 0 L.toArray.size w) (ownB_holds h hn) hg (by omega)
  change Calls Try.prog 50 _ _ _ at hcon
  rw [hsn] at hcon
  refine hcon.mono fun e' w' ⟨he, d', m, os, hp, hs, hw⟩ => ⟨he, d'.toList, ?_, fun i j hi hj => ?_, ?_⟩
  · have := hp.2.2
    have e1 : d'.extract 0 n = d' := by rw [show n = d'.size by rw [hp.1, hsn]]; simp
    have e2 : L.toArray.extract 0 n = L.toArray := by rw [← hsn]; simp
    rw [e1, e2] at this
    simpa using this
  · have hj' : j < n := by rw [← hsn, ← hp.1]; simpa using hj
    have := hs i j (by omega) hi hj'
    rw [lt_blk] at this
    have hjd : j < d'.size := by simpa using hj
    have hid : i < d'.size := by omega
    simp only [decide_eq_false_iff_not] at this
    simpa [hjd, hid] using this
  · rw [hw]
    exact ownB_sorted h d' (by rw [hp.1, hsn]) m os

end Go.Proofs.Ytoiiblajgkdabaa
