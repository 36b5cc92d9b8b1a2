/- Part 2 of the proofs: SeqI, SeqI2, Class, Bud. -/
import Derived.Test.YtoiiblajgkdabaaP1
import Derived.Test.YtoiiblajgkdabaaShelf
import Derived.Test.YtoiiblajgkdabaaInsI
import Derived.Shelf.Spec.SlicesInsertGrow
import Derived.Deep.Upon
import Derived.Lib.Hide
import Derived.StillTail
import Derived.Deep.Quiet
import Derived.BigQuiet
import Derived.Deep.CutBlock
namespace Go.Proofs.Ytoiiblajgkdabaa
set_option linter.unusedSimpArgs false
set_option linter.unusedVariables false
set_option maxRecDepth 100000
open Go.RowKit Go.Lib
set_option maxHeartbeats 1000000

def iCells (L : List Int) : List Value := L.map (Value.int .i64)
theorem iCells_len (L : List Int) : (iCells L).length = L.length := by simp [iCells]
theorem iCells_one (L : List Int) : ∀ u ∈ iCells L, u.oneCell' = true := fun u hu => by
  obtain ⟨x, _, rfl⟩ := List.mem_map.1 hu; rfl
/-- A list of ints of the program's own: its value v, its elements L. -/
def RowI (w : World) (base : Nat) (v : Value) (L : List Int) : Prop := w.ownsRow base 3 1 v L.length (iCells L)
theorem RowI.nil (w : World) (base : Nat) : RowI w base (.slice none 0 0) [] := World.ownsRow_nil _ _ _ _
theorem setCells_frame (b : Nat) : ∀ (vs : List Value) (o : Nat) (w : World), (w.setCells b o vs).os = w.os ∧ (w.setCells b o vs).tape = w.tape ∧ (w.setCells b o vs).output = w.output ∧ (w.setCells b o vs).heap.size = w.heap.size ∧ (∀ k, k ≠ b → (w.setCells b o vs).heap[k]? = w.heap[k]?) ∧
    ∀ cur e fr, w.heap[b]? = some (.cells cur e fr) → ∃ cur', (w.setCells b o vs).heap[b]? = some (.cells cur' e fr) ∧ cur'.size = cur.size
  | [], _, w => ⟨rfl, rfl, rfl, rfl, fun _ _ => rfl, fun cur e fr h => ⟨cur, h, rfl⟩⟩
  | v :: vs, o, w => by
    obtain ⟨h1, h2, h3, h4, h5, h6⟩ := setCells_frame b vs (o + 1) (w.setCell ⟨b, o, none⟩ v)
    refine ⟨h1, h2, h3, by rw [World.setCells, h4]; simp, fun k hk => ?_, fun cur e fr h => ?_⟩
    · rw [World.setCells, h5 k hk, Below.heap_setCell _ _ _ _ hk]
    · have h0 : (w.setCell ⟨b, o, none⟩ v).heap[b]? = some (.cells (cur.setIfInBounds o v) e fr) := by
        simp [World.setCell, Array.getElem?_modify, h]
      obtain ⟨cur', g1, g2⟩ := h6 _ _ _ h0
      exact ⟨cur', g1, by rw [g2]; simp⟩
theorem setCells_touch (b o : Nat) (vs : List Value) (w : World) : Touch (· = b) w (w.setCells b o vs) := by
  obtain ⟨h1, h2, h3, h4, h5, _⟩ := setCells_frame b vs o w
  exact ⟨h1, h2, h3, Nat.le_of_eq h4.symm, fun k _ hk => h5 k hk⟩
theorem list_eq_of {xs ys : List Value} (hl : xs.length = ys.length) (h : ∀ j, j < ys.length → xs[j]? = ys[j]?) : xs = ys := by
  apply List.ext_getElem? fun j => ?_
  by_cases hj : j < ys.length
  · exact h j hj
  · rw [List.getElem?_eq_none (by omega), List.getElem?_eq_none (by omega)]
/-- A row whose cells are told one by one. -/
theorem row_of_cells {w : World} {g n cap base : Nat} {cur : Array Value} {e : TypeId} {xs : List Value} (hb : base ≤ g) (hh : w.heap[g]? = some (.cells cur e (0, 0))) (hn : n ≤ cap) (hc : cap ≤ maxLen) (hs : cur.size = cap) (hx : xs.length = n)
    (h : ∀ j, j < n → w.cell? ⟨g, j, none⟩ = xs[j]?) : w.ownsRow base e 1 (.slice (some ⟨g, 0, none⟩) n cap) n xs := by
  refine ⟨by omega, Or.inr ⟨g, cap, cur, rfl, hb, hh, hn, hc, by omega, ?_⟩⟩
  refine list_eq_of (by rw [List.length_take, Array.length_toList]; omega) fun j hj => ?_
  have := h j (by omega)
  rw [cell_of_row w g j cur e (0, 0) hh] at this
  rw [List.getElem?_take_of_lt (by omega), Array.getElem?_toList, this]
theorem iCells_get (L : List Int) (j : Nat) (h : j < L.length) : (iCells L)[j]? = some (.int .i64 (L.getD j 0)) := by
  simp [iCells, List.getElem?_map, h]

/-- What a function leaves behind that has turned a list. -/
def SeqPost (w : World) (v : Value) (L' : List Int) (e : Ending) (w' : World) : Prop := ∃ a cap, e = .returned (.slice a L'.length cap) ∧ RowI w' 0 (.slice a L'.length cap) L' ∧ Touch (fun k => v.ownBlock = some k) w w' ∧ ∀ k, Value.ownBlock (.slice a L'.length cap) = some k → v.ownBlock = some k ∨ w.heap.size ≤ k
def insL (L : List Int) (i : Nat) (x : Int) : List Int := L.take i ++ x :: L.drop i
theorem insL_len (L : List Int) (i : Nat) (x : Int) (h : i ≤ L.length) : (insL L i x).length = L.length + 1 := by
  simp [insL]; omega
theorem insL_cells (L : List Int) (i : Nat) (x : Int) : iCells (insL L i x) = (iCells L).take i ++ .int .i64 x :: (iCells L).drop i := by
  simp [iCells, insL]
theorem cell_isSome_of {w : World} {g : Nat} {cur : Array Value} {e : TypeId} (hh : w.heap[g]? = some (.cells cur e (0, 0))) {j : Nat} (hj : j < cur.size) : (w.cell? ⟨g, j, none⟩).isSome = true := by
  rw [cell_of_row w g j cur e (0, 0) hh]; simp [hj]
theorem shape_cells {w : World} {g : Nat} {cur : Array Value} {e : TypeId} {fr : Nat × Nat} (hh : w.heap[g]? = some (.cells cur e fr)) : w.shape? g = some (e, cur.size) := by
  simp [World.shape?, hh]

theorem ins_get (A : List Value) (i j : Nat) (u : Value) (hi : i ≤ A.length) : (A.take i ++ u :: A.drop i)[j]? = if j < i then A[j]? else if j = i then some u else A[j - 1]? := by
  have hl : (A.take i).length = i := by rw [List.length_take]; omega
  by_cases h : j < i
  · rw [if_pos h, List.getElem?_append_left (by omega), List.getElem?_take_of_lt h]
  · rw [if_neg h, List.getElem?_append_right (by omega), hl]
    by_cases e : j = i
    · subst e; simp
    · rw [if_neg e]
      obtain ⟨q, hq⟩ : ∃ q, j - i = q + 1 := ⟨j - i - 1, by omega⟩
      rw [hq, List.getElem?_cons_succ, List.getElem?_drop]
      congr 1; omega
theorem set_one {w : World} {g o : Nat} {cur : Array Value} {e : TypeId} (hh : w.heap[g]? = some (.cells cur e (0, 0))) (vs : List Value) (hs : o + vs.length ≤ cur.size) (j : Nat) :
    (w.setCells g o vs).cell? ⟨g, j, none⟩ = if o ≤ j ∧ j < o + vs.length then vs[j - o]? else w.cell? ⟨g, j, none⟩ := by
  by_cases h : o ≤ j ∧ j < o + vs.length
  · rw [if_pos h]
    have := World.cell?_setCells_in g vs o w (fun q hq => cell_isSome_of hh (by omega)) (j - o) (by omega)
    rw [show o + (j - o) = j by omega] at this
    rw [this, List.getElem?_eq_getElem (by omega)]
  · rw [if_neg h]
    exact World.cell?_setCells_out g vs o w ⟨g, j, none⟩ (fun _ _ => by show j < o ∨ o + vs.length ≤ j; omega)
/-- The list A with u at i, stored over A's own cells. -/
theorem two_set {X Y Z : World} {g i n : Nat} {cur : Array Value} {e : TypeId} {A : List Value} {u : Value} (hA : A.length = n) (hi : i ≤ n) (hh : X.heap[g]? = some (.cells cur e (0, 0))) (hs : n + 1 ≤ cur.size) (hc : ∀ j, j < i → X.cell? ⟨g, j, none⟩ = A[j]?)
    (hy : (Y.heap = (X.setCells g (i + 1) (A.drop i)).heap ∧ Z.heap = (Y.setCells g i [u]).heap) ∨ (Y.heap = (X.setCells g i [u]).heap ∧ Z.heap = (Y.setCells g (i + 1) (A.drop i)).heap)) :
    (∃ cur', Z.heap[g]? = some (.cells cur' e (0, 0)) ∧ cur'.size = cur.size) ∧ ∀ j, j < n + 1 → Z.cell? ⟨g, j, none⟩ = (A.take i ++ u :: A.drop i)[j]? := by
  have hdl : (A.drop i).length = n - i := by rw [List.length_drop, hA]
  rcases hy with ⟨h1, h2⟩ | ⟨h1, h2⟩
  · obtain ⟨cy, k1, k2⟩ := (setCells_frame g (A.drop i) (i + 1) X).2.2.2.2.2 _ _ _ hh
    rw [← h1] at k1
    obtain ⟨cz, k3, k4⟩ := (setCells_frame g [u] i Y).2.2.2.2.2 _ _ _ k1
    rw [← h2] at k3
    refine ⟨⟨cz, k3, by omega⟩, fun j hj => ?_⟩
    rw [cell_of_heap (w := Y.setCells g i [u]) (by rw [h2]), set_one k1 [u] (by simp; omega), cell_of_heap (w := X.setCells g (i + 1) (A.drop i)) (by rw [h1]), set_one hh (A.drop i) (by omega), ins_get A i j u (by omega)]
    by_cases e1 : j < i
    · rw [if_neg (by simp; omega), if_neg (by omega), if_pos e1]; exact hc j e1
    · rw [if_neg e1]
      by_cases e2 : j = i
      · subst e2; simp
      · rw [if_neg (by simp; omega), if_pos (by omega), if_neg e2, List.getElem?_drop]; congr 1; omega
  · obtain ⟨cy, k1, k2⟩ := (setCells_frame g [u] i X).2.2.2.2.2 _ _ _ hh
    rw [← h1] at k1
    obtain ⟨cz, k3, k4⟩ := (setCells_frame g (A.drop i) (i + 1) Y).2.2.2.2.2 _ _ _ k1
    rw [← h2] at k3
    refine ⟨⟨cz, k3, by omega⟩, fun j hj => ?_⟩
    rw [cell_of_heap (w := Y.setCells g (i + 1) (A.drop i)) (by rw [h2]), set_one k1 (A.drop i) (by omega), cell_of_heap (w := X.setCells g i [u]) (by rw [h1]), set_one hh [u] (by simp; omega), ins_get A i j u (by omega)]
    by_cases e1 : j < i
    · rw [if_neg (by omega), if_neg (by simp; omega), if_pos e1]; exact hc j e1
    · rw [if_neg e1]
      by_cases e2 : j = i
      · subst e2; rw [if_neg (by omega)]; simp
      · rw [if_pos (by omega), if_neg e2, List.getElem?_drop]; congr 1; omega
theorem seq_done {w w' : World} {v : Value} {L' : List Int} {g cap : Nat} {cur' : Array Value} (hh : w'.heap[g]? = some (.cells cur' 3 (0, 0))) (hs : cur'.size = cap) (hn : L'.length ≤ cap) (hm : cap ≤ maxLen) (hc : ∀ j, j < L'.length → w'.cell? ⟨g, j, none⟩ = (iCells L')[j]?)
    (ht : Touch (fun k => v.ownBlock = some k) w w') (hg : v.ownBlock = some g ∨ w.heap.size ≤ g) : SeqPost w v L' (.returned (.slice (some ⟨g, 0, none⟩) L'.length cap)) w' :=
  ⟨_, cap, rfl, row_of_cells (Nat.zero_le _) hh hn hm hs (iCells_len _) hc, ht, fun k hk => by simp [Value.ownBlock] at hk; subst hk; exact hg⟩
theorem touch_setCells {S : Nat → Prop} {w X : World} (h : Touch S w X) (g o : Nat) (vs : List Value) (hg : S g ∨ w.heap.size ≤ g) : Touch S w (X.setCells g o vs) := by
  obtain ⟨h1, h2, h3, h4, h5, _⟩ := setCells_frame g vs o X
  exact ⟨h1.trans h.os, h2.trans h.tape, h3.trans h.output, by rw [h4]; exact h.size, fun k hk hs => (h5 k (fun e => by subst e; rcases hg with hg | hg; exact hs hg; omega)).trans (h.block k hk hs)⟩

theorem ins_any (v : Value) (L : List Int) (i : Nat) (x : Int) (vb : Nat) (w : World) (h : RowI w 0 v L) (hi : i ≤ L.length) (hL : L.length ≤ 1000000) (hx : w.heap[vb]? = some (.cells #[.int .i64 x] 3 (0, 0))) (hvb : v.ownBlock ≠ some vb) :
    Calls Try.prog 77 #[v, .int .i64 i, .slice (some ⟨vb, 0, none⟩) 1 1] w (SeqPost w v (insL L i x)) := by
  have hvs : ∀ j u, [Value.int .i64 x][j]? = some u → w.cell? ⟨vb, 0 + j, none⟩ = some u := fun j u hj => by
    rw [cell_of_row w vb _ _ _ _ hx, Nat.zero_add]; simpa using hj
  have h1v : ∀ u ∈ [Value.int .i64 x], u.oneCell' = true := fun u hu => by simp at hu; subst hu; rfl
  have hlen := insL_len L i x hi
  have hren : Try.insInt_ren.t 3 = 3 := rfl
  rcases h.2 with ⟨rfl, h0⟩ | ⟨g, cap, cur, rfl, -, hh, hnc, hcm, hcs, htk⟩
  · obtain rfl : L = [] := List.length_eq_zero_iff.1 h0
    obtain rfl : i = 0 := by simpa using hi
    have hcon := Any2.slices_Insert_int_end_grow Try.insInt none 0 0 vb 0 1 1 [] [.int .i64 x] w (by omega) (by omega) (by omega) (by omega) rfl rfl (fun _ => rfl) (fun a ha => by cases ha) hvs h1v
    change Calls Try.prog 77 _ _ _ at hcon
    rw [hren] at hcon
    refine hcon.mono fun e w' ⟨he, hw⟩ => ?_
    have hcap := grownCap_ge w 1 0 3
    have hcap2 := grownCap_le_maxLen w 1 0 3 (by unfold maxLen; omega)
    rw [Nat.zero_add] at he hw
    have hnew : w'.heap[w.heap.size]? = some (.cells (([] ++ [Value.int .i64 x]).toArray ++ Builtin.zeroCells (Value.int .i64 0).cells (grownCap w 1 0 3 - 1)) 3 (0, 0)) := by
      rw [hw]; exact heap_alloc_new w.drew _
    rw [he]
    have hl1 : (insL [] 0 x).length = 1 := rfl
    refine seq_done (L' := insL [] 0 x) hnew ?_ (by rw [hl1]; exact hcap) hcap2 (fun j hj => ?_) ?_ (Or.inr (Nat.le_refl _))
    · rw [Array.size_append, size_zeroCells]
      show 1 + (grownCap w 1 0 3 - 1) * 1 = _
      omega
    · obtain rfl : j = 0 := by rw [hl1] at hj; omega
      rw [cell_of_row w' _ _ _ _ _ hnew, Array.getElem?_append_left (by simp)]; simp [iCells, insL]
    · rw [hw]; exact (Touch.refl _ w).drew.alloc _
  · have hn1 : cur.size = cap := by omega
    have hcells : ∀ j, j < L.length → w.cell? ⟨g, j, none⟩ = (iCells L)[j]? := fun j hj => World.ownsRow.cellAt h j (by omega)
    have hcs' : ∀ j u, (iCells L)[j]? = some u → w.cell? ⟨g, 0 + j, none⟩ = some u := fun j u hj => by
      have := (List.getElem?_eq_some_iff.1 hj).1
      rw [Nat.zero_add, hcells j (by rw [iCells_len] at this; exact this)]; exact hj
    have hgv : vb ≠ g := fun e => hvb (by rw [e]; rfl)
    have hfree : ∀ j, w.frozen? ⟨g, 0 + j, none⟩ = false := fun j => by rw [Nat.zero_add]; exact World.ownsRow.frozenAt h j
    have hcl := iCells_len L
    by_cases hroom : L.length + 1 ≤ cap
    · by_cases hlt : i < L.length
      · have hcon := Any2.slices_Insert_int_shift Try.insInt g 0 L.length cap i vb 0 1 1 (iCells L) [.int .i64 x] w hlt (by omega) hroom (by unfold maxLen at hcm; omega) hgv hcl rfl hcs' (fun j hj => by rw [Nat.zero_add]; exact cell_isSome_of hh (by omega)) (fun j _ => hfree j) hvs (iCells_one L) h1v
          _ _ 1 cur.size (shape_cells hx) (shape_cells hh) (by omega) (by simp [World.frozen?, hx]) (by simp [World.frozen?, hx])
        change Calls Try.prog 77 _ _ _ at hcon
        refine hcon.mono fun e w' ⟨he, hw⟩ => ?_
        simp only [Nat.zero_add] at hw
        obtain ⟨⟨cz, k1, k2⟩, k3⟩ := two_set (X := w.drew) (Y := w.drew.setCells g (i + 1) ((iCells L).drop i)) (Z := w') (u := .int .i64 x) hcl (by omega) hh (by omega) (fun j hj => hcells j (by omega)) (Or.inl ⟨rfl, by rw [hw]⟩)
        rw [he]
        suffices hq : SeqPost w (.slice (some ⟨g, 0, none⟩) L.length cap) (insL L i x) (.returned (.slice (some ⟨g, 0, none⟩) (insL L i x).length cap)) w' by rwa [hlen] at hq
        refine seq_done k1 (by omega) (by omega) hcm (fun j hj => by rw [insL_cells]; exact k3 j (by omega)) ?_ (Or.inl rfl)
        rw [hw]
        exact touch_setCells (touch_setCells (Touch.refl (fun k => Value.ownBlock (.slice (some ⟨g, 0, none⟩) L.length cap) = some k) w).drew g _ _ (Or.inl rfl)) g _ _ (Or.inl rfl)
      · obtain rfl : i = L.length := by omega
        have hcon := Any2.slices_Insert_int_end_room Try.insInt g 0 L.length cap vb 0 1 1 [.int .i64 x] w (by omega) hroom (by unfold maxLen at hcm; omega) rfl (fun j hj => by rw [Nat.zero_add]; exact cell_isSome_of hh (by omega)) (fun j _ => by rw [Nat.add_assoc]; exact hfree _) hvs h1v
        change Calls Try.prog 77 _ _ _ at hcon
        refine hcon.mono fun e w' ⟨he, hw⟩ => ?_
        simp only [Nat.zero_add] at hw
        obtain ⟨⟨cz, k1, k2⟩, k3⟩ := two_set (X := w) (Y := w) (Z := w') (u := .int .i64 x) hcl (Nat.le_refl _) hh (by omega) (fun j hj => hcells j (by omega)) (Or.inl ⟨by rw [List.drop_of_length_le (by omega)]; rfl, by rw [hw]⟩)
        rw [he]
        suffices hq : SeqPost w (.slice (some ⟨g, 0, none⟩) L.length cap) (insL L L.length x) (.returned (.slice (some ⟨g, 0, none⟩) (insL L L.length x).length cap)) w' by rwa [hlen] at hq
        refine seq_done k1 (by omega) (by omega) hcm (fun j hj => by rw [insL_cells]; exact k3 j (by omega)) ?_ (Or.inl rfl)
        rw [hw]
        exact touch_setCells (Touch.refl (fun k => Value.ownBlock (.slice (some ⟨g, 0, none⟩) L.length cap) = some k) w) g _ _ (Or.inl rfl)
    · have hcap := grownCap_ge w (L.length + 1) cap 3
      have hcap2 := grownCap_le_maxLen w (L.length + 1) cap 3 (by unfold maxLen; omega)
      by_cases hlt : i < L.length
      · have hcon := Any2.slices_Insert_int_grow Try.insInt g 0 L.length cap i vb 0 1 1 (iCells L) [.int .i64 x] w hlt (by omega) hnc (by omega) (by omega) hcl rfl hcs' hvs (iCells_one L) h1v
        change Calls Try.prog 77 _ _ _ at hcon
        rw [hren] at hcon
        refine hcon.mono fun e w' ⟨he, hw⟩ => ?_
        obtain ⟨cn, hcn⟩ : ∃ cn, cn = ((iCells L).take i).toArray ++ Builtin.zeroCells (Value.int .i64 0).cells (L.length + 1 - i) ++ Builtin.zeroCells (Value.int .i64 0).cells (grownCap w (L.length + 1) cap 3 - (L.length + 1)) := ⟨_, rfl⟩
        rw [← hcn] at hw
        have hsz : cn.size = grownCap w (L.length + 1) cap 3 := by
          rw [hcn, Array.size_append, Array.size_append, size_zeroCells, size_zeroCells]
          show ((iCells L).take i).toArray.size + (L.length + 1 - i) * 1 + (grownCap w (L.length + 1) cap 3 - (L.length + 1)) * 1 = _
          rw [List.size_toArray, List.length_take]
          omega
        have hX : (w.alloc (.cells cn 3)).drew.heap[w.heap.size]? = some (.cells cn 3 (0, 0)) := heap_alloc_new w _
        obtain ⟨⟨cz, k1, k2⟩, k3⟩ := two_set (X := (w.alloc (.cells cn 3)).drew) (Y := ((w.alloc (.cells cn 3)).drew.setCells w.heap.size i [.int .i64 x]).drew) (Z := w') (u := .int .i64 x) hcl (by omega) hX (by omega) (fun j hj => by
          rw [cell_of_row _ _ _ _ _ _ hX, hcn, Array.getElem?_append_left (by simp; omega), Array.getElem?_append_left (by simp; omega), List.getElem?_toArray, List.getElem?_take_of_lt hj]) (Or.inr ⟨rfl, by rw [hw]⟩)
        rw [he]
        suffices hq : SeqPost w (.slice (some ⟨g, 0, none⟩) L.length cap) (insL L i x) (.returned (.slice (some ⟨w.heap.size, 0, none⟩) (insL L i x).length (grownCap w (L.length + 1) cap 3))) w' by rwa [hlen] at hq
        refine seq_done k1 (by omega) (by omega) hcap2 (fun j hj => by rw [insL_cells]; exact k3 j (by omega)) ?_ (Or.inr (Nat.le_refl _))
        rw [hw]
        exact touch_setCells (touch_setCells ((Touch.refl (fun k => Value.ownBlock (.slice (some ⟨g, 0, none⟩) L.length cap) = some k) w).alloc _).drew w.heap.size _ _ (Or.inr (Nat.le_refl _))).drew w.heap.size _ _ (Or.inr (Nat.le_refl _))
      · obtain rfl : i = L.length := by omega
        have hcon := Any2.slices_Insert_int_end_grow Try.insInt (some ⟨g, 0, none⟩) L.length cap vb 0 1 1 (iCells L) [.int .i64 x] w (by omega) hnc (by omega) (by omega) hcl rfl (fun e => by cases e) (fun a ha j u hj => by
          injection ha with ha; subst ha
          have : (⟨g, 0, none⟩ : Addr).add j = ⟨g, 0 + j, none⟩ := by unfold Addr.add; split <;> simp_all
          rw [this]; exact hcs' j u hj) hvs h1v
        change Calls Try.prog 77 _ _ _ at hcon
        rw [hren] at hcon
        refine hcon.mono fun e w' ⟨he, hw⟩ => ?_
        obtain ⟨cn, hcn⟩ : ∃ cn, cn = (iCells L ++ [Value.int .i64 x]).toArray ++ Builtin.zeroCells (Value.int .i64 0).cells (grownCap w (L.length + 1) cap 3 - (L.length + 1)) := ⟨_, rfl⟩
        rw [← hcn] at hw
        have hsz : cn.size = grownCap w (L.length + 1) cap 3 := by
          rw [hcn, Array.size_append, size_zeroCells]
          show (iCells L ++ [Value.int .i64 x]).toArray.size + (grownCap w (L.length + 1) cap 3 - (L.length + 1)) * 1 = _
          rw [List.size_toArray, List.length_append, hcl]
          simp; omega
        have hX : w'.heap[w.heap.size]? = some (.cells cn 3 (0, 0)) := by rw [hw]; exact heap_alloc_new w.drew _
        rw [he]
        suffices hq : SeqPost w (.slice (some ⟨g, 0, none⟩) L.length cap) (insL L L.length x) (.returned (.slice (some ⟨w.heap.size, 0, none⟩) (insL L L.length x).length (grownCap w (L.length + 1) cap 3))) w' by rwa [hlen] at hq
        refine seq_done hX (by omega) (by omega) hcap2 (fun j hj => ?_) ?_ (Or.inr (Nat.le_refl _))
        · rw [cell_of_row _ _ _ _ _ _ hX, hcn, Array.getElem?_append_left (by simp [iCells]; omega), List.getElem?_toArray, insL_cells, List.take_of_length_le (by omega), List.drop_of_length_le (by omega)]
        · rw [hw]; exact ((Touch.refl (fun k => Value.ownBlock (.slice (some ⟨g, 0, none⟩) L.length cap) = some k) w).drew).alloc _

end Go.Proofs.Ytoiiblajgkdabaa

namespace Go.Proofs.Ytoiiblajgkdabaa
set_option linter.unusedSimpArgs false
set_option linter.unusedVariables false
set_option maxRecDepth 100000
open Go.RowKit Go.Lib
set_option maxHeartbeats 1000000

theorem iCells_cell {w : World} {g cap : Nat} {L : List Int} (h : RowI w 0 (.slice (some ⟨g, 0, none⟩) L.length cap) L) (j : Nat) (hj : j < L.length) : w.cell? ⟨g, 0 + j, none⟩ = some (.int .i64 (L.getD j 0)) := by
  rw [Nat.zero_add, World.ownsRow.cellAt h j (by omega), iCells_get L j hj]
theorem search_any (v : Value) (L : List Int) (x : Int) (w : World) (h : RowI w 0 v L) (hs : L.Pairwise (· ≤ ·)) (hL : L.length ≤ 1000000) :
    Calls Try.prog 75 #[v, .int .i64 x] w fun e w' => e = .returned (.tuple #[.int .i64 (L.countP (· < x) : Nat), .bool (L.contains x)]) ∧ ∃ q, w' = w.drewN q := by
  rcases h.2 with ⟨rfl, h0⟩ | ⟨g, cap, cur, rfl, -, hh, hnc, hcm, hcs, htk⟩
  · obtain rfl : L = [] := List.length_eq_zero_iff.1 h0
    exact (Try.slices_BinarySearch_int_empty none 0 x w).mono fun e w' ⟨he, hw⟩ => ⟨he, 0, hw⟩
  · have := Try.slices_BinarySearch_int g 0 L.length cap L x w (Nat.le_refl _) (by omega) (fun j hj => iCells_cell h j hj) (by rw [List.take_length]; exact hs)
    rw [List.take_length] at this
    exact this
theorem touch_drewN {S : Nat → Prop} {w : World} (q : Nat) : Touch S w (w.drewN q) := (Touch.refl _ _).drewN q
theorem del_any (v : Value) (L : List Int) (i : Nat) (w : World) (h : RowI w 0 v L) (hi : i < L.length) (hL : L.length ≤ 1000000) :
    Calls Try.prog 76 #[v, .int .i64 i, .int .i64 (i + 1)] w (SeqPost w v (L.eraseIdx i)) := by
  rcases h.2 with ⟨rfl, h0⟩ | ⟨g, cap, cur, rfl, -, hh, hnc, hcm, hcs, htk⟩
  · omega
  · have hcon := Try.slices_Delete_int_cells g 0 L.length cap i (i + 1) L w (Nat.le_refl _) hnc (by unfold maxLen at hcm; omega) (by omega) (by omega) (fun j hj => iCells_cell h j hj) (fun j _ => by rw [Nat.zero_add]; exact World.ownsRow.frozenAt h j)
    have hlen : (L.eraseIdx i).length = L.length - 1 := List.length_eraseIdx_of_lt hi
    refine hcon.mono fun e w' ⟨he, q, hw⟩ => ?_
    rw [List.take_length] at hw
    have hds : L.eraseIdx i = L.take i ++ L.drop (i + 1) := List.eraseIdx_eq_take_drop_succ L i
    obtain ⟨X, hX⟩ : ∃ X, X = (L.take i ++ L.drop (i + 1) ++ List.replicate (i + 1 - i) (0 : Int)).map (Value.int .i64) := ⟨_, rfl⟩
    rw [← hX] at hw
    have hXl : X.length = L.length := by rw [hX]; simp; omega
    have hhq : (w.drewN q).heap[g]? = some (.cells cur 3 (0, 0)) := hh
    obtain ⟨cz, k1, k2⟩ := (setCells_frame g X 0 (w.drewN q)).2.2.2.2.2 _ _ _ hhq
    rw [← hw] at k1
    rw [he]
    suffices hq : SeqPost w (.slice (some ⟨g, 0, none⟩) L.length cap) (L.eraseIdx i) (.returned (.slice (some ⟨g, 0, none⟩) (L.eraseIdx i).length cap)) w' by
      rw [hlen] at hq
      rw [show L.length - (i + 1 - i) = L.length - 1 by omega]; exact hq
    refine seq_done k1 (by omega) (by omega) hcm (fun j hj => ?_) ?_ (Or.inl rfl)
    · rw [hw, set_one hhq X (by omega), if_pos (by omega), hX, hds, Nat.sub_zero, List.map_append, List.getElem?_append_left (by rw [List.length_map, ← hds]; exact hj)]
      rfl
    · rw [hw]
      exact touch_setCells (touch_drewN q) g _ _ (Or.inl rfl)

/-! ### Plain: where an element stands in a rising list -/
theorem count_rise : ∀ (L : List Int) (x : Int), L.Pairwise (· < ·) → ∃ i, L.countP (· < x) = i ∧ i ≤ L.length ∧ (∀ y ∈ L.take i, y < x) ∧ (∀ y ∈ L.drop i, x ≤ y)
  | [], x, _ => ⟨0, rfl, Nat.le_refl _, by simp, by simp⟩
  | y :: L, x, h => by
    obtain ⟨h1, h2⟩ := List.pairwise_cons.1 h
    obtain ⟨i, hi, hl, ha, hb⟩ := count_rise L x h2
    by_cases hy : y < x
    · refine ⟨i + 1, by rw [List.countP_cons_of_pos (by simpa using hy), hi], by simp; omega, fun z hz => ?_, fun z hz => ?_⟩
      · rw [List.take_succ_cons, List.mem_cons] at hz
        rcases hz with rfl | hz
        · exact hy
        · exact ha z hz
      · rw [List.drop_succ_cons] at hz; exact hb z hz
    · have h0 : L.countP (· < x) = 0 := List.countP_eq_zero.2 fun z hz => by have := h1 z hz; simp; omega
      refine ⟨0, by rw [List.countP_cons_of_neg (by simpa using hy), h0], by simp, by simp, fun z hz => ?_⟩
      rw [List.drop_zero, List.mem_cons] at hz
      rcases hz with rfl | hz
      · omega
      · have := h1 z hz; omega
/-- A rising list with an element more. -/
def addL (L : List Int) (x : Int) : List Int := insL L (L.countP (· < x)) x
theorem mem_addL (L : List Int) (x y : Int) : y ∈ addL L x ↔ y = x ∨ y ∈ L := by
  unfold addL insL
  rw [List.mem_append, List.mem_cons]
  constructor
  · rintro (h | h | h)
    · exact Or.inr (List.mem_of_mem_take h)
    · exact Or.inl h
    · exact Or.inr (List.mem_of_mem_drop h)
  · rintro (h | h)
    · exact Or.inr (Or.inl h)
    · rw [← List.take_append_drop (L.countP (· < x)) L, List.mem_append] at h
      rcases h with h | h
      · exact Or.inl h
      · exact Or.inr (Or.inr h)
theorem rise_addL (L : List Int) (x : Int) (h : L.Pairwise (· < ·)) (hx : x ∉ L) : (addL L x).Pairwise (· < ·) := by
  obtain ⟨i, hi, hl, ha, hb⟩ := count_rise L x h
  unfold addL insL
  rw [hi]
  have hd : (L.drop i).Pairwise (· < ·) := h.sublist (List.drop_sublist i L)
  have ht : (L.take i).Pairwise (· < ·) := h.sublist (List.take_sublist i L)
  refine List.pairwise_append.2 ⟨ht, List.pairwise_cons.2 ⟨fun y hy => ?_, hd⟩, fun y hy z hz => ?_⟩
  · have h1 := hb y hy
    have h2 : y ≠ x := fun e => hx (e ▸ List.mem_of_mem_drop hy)
    omega
  · rw [List.mem_cons] at hz
    rcases hz with rfl | hz
    · exact ha y hy
    · have h1 := ha y hy
      have h2 := hb z hz
      omega
/-- A rising list without an element of it. -/
def delL (L : List Int) (x : Int) : List Int := L.eraseIdx (L.countP (· < x))
theorem at_count (L : List Int) (x : Int) (h : L.Pairwise (· < ·)) (hx : x ∈ L) : ∃ hi : L.countP (· < x) < L.length, L[L.countP (· < x)] = x := by
  obtain ⟨i, hi, hl, ha, hb⟩ := count_rise L x h
  have hm : x ∈ L.drop i := by
    have h1 := hx
    rw [← List.take_append_drop i L, List.mem_append] at h1
    rcases h1 with h1 | h1
    · have := ha x h1; omega
    · exact h1
  obtain ⟨j, hj, hje⟩ := List.getElem_of_mem hm
  rw [List.getElem_drop] at hje
  rw [List.length_drop] at hj
  have hil : i < L.length := by omega
  have hj0 : j = 0 := by
    by_cases h0 : j = 0
    · exact h0
    · exfalso
      have hlt : L[i] < L[i + j] := List.pairwise_iff_getElem.1 h i (i + j) hil (by omega) (by omega)
      have hge : x ≤ L[i] := hb L[i] (by rw [List.drop_eq_getElem_cons hil]; exact List.mem_cons_self)
      omega
  subst hj0
  simp only [Nat.add_zero] at hje
  rw [hi]
  exact ⟨hil, hje⟩
theorem mem_delL (L : List Int) (x y : Int) (h : L.Pairwise (· < ·)) (hx : x ∈ L) : y ∈ delL L x ↔ y ≠ x ∧ y ∈ L := by
  obtain ⟨hi, he⟩ := at_count L x h hx
  unfold delL
  rw [List.mem_eraseIdx_iff_getElem?]
  constructor
  · rintro ⟨j, hj, hy⟩
    obtain ⟨hjl, rfl⟩ := List.getElem?_eq_some_iff.1 hy
    refine ⟨fun e => hj ?_, List.getElem_mem hjl⟩
    rcases Nat.lt_trichotomy j (L.countP (· < x)) with h1 | h1 | h1
    · have := List.pairwise_iff_getElem.1 h j _ hjl hi h1; omega
    · exact h1
    · have := List.pairwise_iff_getElem.1 h _ j hi hjl h1; omega
  · rintro ⟨hne, hy⟩
    obtain ⟨j, hjl, rfl⟩ := List.getElem_of_mem hy
    exact ⟨j, fun e => hne (by subst e; exact he), List.getElem?_eq_getElem hjl⟩
theorem rise_delL (L : List Int) (x : Int) (h : L.Pairwise (· < ·)) : (delL L x).Pairwise (· < ·) := h.sublist (List.eraseIdx_sublist _ _)

end Go.Proofs.Ytoiiblajgkdabaa

namespace Go.Proofs.Ytoiiblajgkdabaa
set_option linter.unusedSimpArgs false
set_option linter.unusedVariables false
set_option maxRecDepth 100000
open Go.RowKit

/-- A world of which I holds. -/
structure Wc (I : World → Prop) where
  w : World
  h : I w
def InC (I : World → Prop) : World → Prop := fun w' => ∃ p : Wc I, w' = p.w
theorem class_call {P : Program} {f : FuncId} {args : Array Value} {I : World → Prop} {p : Wc I} {v : Value}
    (h : Calls P f args p.w fun e w' => e = .returned v ∧ I w') : Calls P f args p.w fun e w'' => e = .returned v ∧ ∃ p' : Wc I, w'' = p'.w :=
  h.mono fun _ _ ⟨x, y⟩ => ⟨x, ⟨_, y⟩, rfl⟩
/-- .. of a callee that leaves the world alone. -/
theorem class_same {P : Program} {f : FuncId} {args : Array Value} {I : World → Prop} {p : Wc I} {v : Value}
    (h : Calls P f args p.w fun e w' => e = .returned v ∧ p.w = w') : Calls P f args p.w fun e w'' => e = .returned v ∧ ∃ p' : Wc I, w'' = p'.w :=
  h.mono fun _ _ ⟨x, y⟩ => ⟨x, p, y.symm⟩

section
variable {P : Program} {ops : Array Oper} {md : Region.Mode} {C : World → Prop}

/-- The head's operations in whatever order, each over the class; then what L says. -/
def headQ (P : Program) (md : Region.Mode) (ops : Array Oper) (C : World → Prop) (n : Nat) (L : Array Bool → Act → Prop) : Nat → Array Bool → Act → Prop
  | 0, listed, a => L listed a
  | f + 1, listed, a => Region.ready md ops listed ≠ [] ∧ ∀ i ∈ Region.ready md ops listed, i < n ∧ qOp P ops C i (headQ P md ops C n L f (listed.setIfInBounds i true)) a

theorem any_of_headQ {n g : Nat} {L : Array Bool → Act → Prop} {Q' : Exit → Act → World → Prop} (hL : ∀ listed a w, C w → L listed a → wpAny P md ops Q' g listed a w) :
    ∀ (f : Nat) (listed : Array Bool) (a : Act) (w : World), C w → headQ P md ops C n L f listed a → wpAny P md ops Q' (f + g) listed a w
  | 0, listed, a, w, hw, h => by rw [Nat.zero_add]; exact hL _ _ _ hw h
  | f + 1, listed, a, w, hw, h => by
    rw [show f + 1 + g = (f + g) + 1 by omega]
    exact ⟨fun h0 => absurd h0 h.1, fun i hi => wpOp_of_qOp hw (fun a' w' hw' => any_of_headQ hL f _ a' w' hw') (h.2 i hi).2⟩

theorem headQ_first {n i : Nat} {oi : Oper} {v : Value} {L : Array Bool → Act → Prop} (hi : ops[i]? = some oi) (hsel : ∀ (j : Nat) (o : Oper) cs b, ops[j]? = some o → o.op ≠ .select cs b)
    (hs : Region.sinkB md ops n = true) (hc : Region.chainB md ops n = true) (hn : n < ops.size) (hin : i < n) (hdone : ∀ listed a, L listed a → ∀ j ∈ Region.ready md ops listed, n ≤ j) :
    ∀ (f : Nat) (listed : Array Bool) (a : Act), HeadInv md ops n listed →
      (∀ j oj, ops[j]? = some oj → j ≠ i → listed.getD j true = false → (∀ e ∈ oj.after, Region.binds md e = true → e.on ≠ i) → oi.apart ops oj = true) →
      i ∈ Region.ready md ops listed → YieldsIn P ops C oi v a →
      headQ P md ops C n L f (listed.setIfInBounds i true) (a.put oi.dst v) → headQ P md ops C n L (f + 1) listed a := by
  intro f
  induction f with
  | zero =>
    intro listed a inv _ hr hy H
    have hun := (mem_ready.1 hr).1
    refine ⟨fun h => (by rw [h] at hr; cases hr), fun j hj => ?_⟩
    have hjn : j < n := Nat.lt_of_not_le fun h => tail_waits hs hc hn inv _ i rfl hin hun j h hj
    refine ⟨hjn, ?_⟩
    by_cases hji : j = i
    · subst hji; exact hy.qOp hi H
    · have := hdone _ _ H j (ready_mono hj hji)
      omega
  | succ f ih =>
    intro listed a inv hfree hr hy H
    have hun := (mem_ready.1 hr).1
    refine ⟨fun h => (by rw [h] at hr; cases hr), fun j hj => ?_⟩
    have hjn : j < n := Nat.lt_of_not_le fun h => tail_waits hs hc hn inv _ i rfl hin hun j h hj
    refine ⟨hjn, ?_⟩
    by_cases hji : j = i
    · subst hji; exact hy.qOp hi H
    · have h1 := (H.2 j (ready_mono hj hji)).2
      obtain ⟨hjun, oj, hoj, hall⟩ := mem_ready.1 hj
      have hnot : ∀ e ∈ oj.after, Region.binds md e = true → e.on ≠ i := fun e he hb heq => by
        have h1 := hall e he hb
        rw [heq, getD_both hun] at h1
        cases h1
      have h2 := qOp_put hoj (hfree j oj hoj hji hjun hnot) (fun cs b => hsel i oi cs b hi) (fun cs b => hsel j oj cs b hoj) hy h1
      refine qOp_mono (fun a' h3 => ih (listed.setIfInBounds j true) a' (inv.set hj hjn) (fun k ok hk hki hun hno => ?_) (ready_mono hr (Ne.symm hji)) h3.1 ?_) h2
      · refine hfree k ok hk hki ?_ hno
        by_cases hjk : j = k
        · subst hjk; exact hjun
        · rw [getD_set_ne true hjk] at hun; exact hun
      · rw [Array.setIfInBounds_comm _ _ hji]
        exact h3.2

theorem headQ_lex {n g : Nat} {Lq : Act → Prop} (hsel : Region.noSelect ops = true) (hs : Region.sinkB md ops n = true) (hc : Region.chainB md ops n = true) (hn : n < ops.size) :
    ∀ (l : List Oper) (k : Nat) (listed : Array Bool) (a : Act), (∀ j, j < l.length → l[j]? = ops[k + j]?) → k + l.length = n → HeadInv md ops n listed →
    Region.lexHead md ops g l.length k listed = true → wpQuiet P ops C Lq l a →
    headQ P md ops C n (fun listed' a' => Region.seqB md ops g n listed' = true ∧ Lq a') l.length listed a
  | [], k, listed, a, _, hk, _, hB, h => by
    have : k = n := by simpa using hk
    subst this
    exact ⟨by simpa [Region.lexHead] using hB, h⟩
  | o :: l, k, listed, a, hl, hk, inv, hB, h => by
    have h0 : ops[k]? = some o := by simpa using (hl 0 (by simp)).symm
    simp only [List.length_cons, Region.lexHead, Bool.and_eq_true] at hB
    obtain ⟨⟨hr, hf⟩, hB'⟩ := hB
    have hkn : k < n := by simp only [List.length_cons] at hk; omega
    have hr' : k ∈ Region.ready md ops listed := by simpa using hr
    have hst : qOp P ops C k (wpQuiet P ops C Lq l) a := by unfold qOp; simp only [h0]; exact h
    obtain ⟨v, hy, hK⟩ := yieldsIn_of_qOp h0 hst
    exact headQ_first h0 (Region.noSelect_spec hsel) hs hc hn hkn (fun listed' a' hL => seqB_ready hL.1) l.length listed a inv (Region.free_spec h0 hf) hr' hy
      (headQ_lex hsel hs hc hn l (k + 1) _ _ (fun j hj => by have := hl (j + 1) (by simp; omega); simpa [Nat.add_assoc, Nat.add_comm 1 j] using this) (by simp only [List.length_cons] at hk; omega) (inv.set hr' hkn) hB' hK)
end

/-- A region of reads and calls over the worlds of which I holds. -/
theorem region_class {P : Program} {id : Nat} {Q : Exit → Act → World → Prop} {a : Act} {w : World} {l : List Oper} (I : World → Prop) (hm : P.follows .mixedOrders = true) (hB : Region.lexB .any l.toArray = true) (h0 : I w.drew)
    (h : Nonempty (Wc I) → wpQuiet P l.toArray (fun w' => ∃ p : Wc I, w' = p.w) (fun a' => ∀ w', I w' → Q .normal a' w') l a) : (Code.region id l.toArray true).wp P Q a w :=
  wp_region_quiet (C := fun w' => ∃ p : Wc I, w' = p.w) hm hB ⟨⟨w.drew, h0⟩, rfl⟩ (by
    have e : (fun a' => ∀ w', (∃ p : Wc I, w' = p.w) → Q .normal a' w') = (fun a' => ∀ w', I w' → Q .normal a' w') := by
      funext a'
      exact propext ⟨fun h w' hw => h w' ⟨⟨w', hw⟩, rfl⟩, fun h w' ⟨p, hp⟩ => by rw [hp]; exact h p.w p.h⟩
    have h := h ⟨⟨w.drew, h0⟩⟩
    rw [e]; simpa using h)
/-- The same, with a last part that comes in its own order. -/
theorem region_tail {P : Program} {id : Nat} {Q : Exit → Act → World → Prop} {a : Act} {w : World} {l : List Oper} (I : World → Prop) (n : Nat) (hm : P.follows .mixedOrders = true) (hB : Region.lexTailB .any l.toArray n = true) (h0 : I w.drew)
    (h : Nonempty (Wc I) → wpQuiet P l.toArray (fun w' => ∃ p : Wc I, w' = p.w) (fun a' => ∀ w', I w' → wpList P l.toArray Q (l.drop n) a' w') (l.take n) a) : (Code.region id l.toArray true).wp P Q a w := by
  have h := h ⟨⟨w.drew, h0⟩⟩
  simp only [Region.lexTailB, Bool.and_eq_true, decide_eq_true_eq] at hB
  obtain ⟨⟨⟨⟨hsel, hn⟩, hs⟩, hc⟩, hlex⟩ := hB
  have hn' : n < l.length := by simpa using hn
  have htl : (l.take n).length = n := by simp; omega
  have hdl : (l.drop n).length = l.toArray.size - n := by simp
  have inv0 : HeadInv .any l.toArray n (Array.replicate l.toArray.size false) :=
    ⟨by simp, fun j oj _ hl => (by rw [getD_replicate_false] at hl; cases hl), fun t _ ht => getD_in (by simpa using ht) (getD_replicate_false _ _)⟩
  have H := headQ_lex (md := .any) (g := l.toArray.size - n) hsel hs hc hn (l.take n) 0 _ a (fun j hj => by
    have hj' : j < n := by rw [htl] at hj; exact hj
    simp [hj']) (by simpa using htl) inv0 (by rw [htl]; exact hlex) h
  refine wp_region_any hm ?_
  have := any_of_headQ (Q' := Q) (g := l.toArray.size - n) (fun listed a' w' ⟨p, hp⟩ hL => by
    have := wpAny_of_seq (md := .any) (Q' := Q) (l.drop n) n listed a' w' (fun j => by simp [List.getElem?_drop]) (by rw [hdl]; exact hL.1) (hL.2 w' (by rw [hp]; exact p.h))
    rwa [hdl] at this) _ _ _ w.drew ⟨⟨w.drew, h0⟩, rfl⟩ H
  rw [htl, show n + (l.toArray.size - n) = l.toArray.size by omega] at this
  exact this

end Go.Proofs.Ytoiiblajgkdabaa

namespace Go.Proofs.Ytoiiblajgkdabaa
set_option linter.unusedSimpArgs false
set_option linter.unusedVariables false
set_option maxRecDepth 100000
open Go.RowKit
set_option maxHeartbeats 4000000

def budS (pb hb : Nat) (V : Nat → Value) (k : Nat) : Prop := k = pb ∨ k = hb ∨ ∃ i, i < 9 ∧ (V i).ownBlock = some k
structure BudIn (w : World) (pb pm hb : Nat) (V : Nat → Value) (F : Nat → List Int) (H : List Blk) : Prop where
  c0 : w.cell? ⟨pb, 0, none⟩ = some (.pointer (some ⟨pm, 0, none⟩))
  cl : ∀ i, i < 9 → w.cell? ⟨pb, 1 + i, none⟩ = some (V i)
  cm : w.cell? ⟨pb, 10, none⟩ = some (.map (some hb))
  free : ∀ j, j < 11 → w.frozen? ⟨pb, j, none⟩ = false
  rows : ∀ i, i < 9 → RowI w 0 (V i) (F i)
  apart : ∀ i j k, i < 9 → j < 9 → (V i).ownBlock = some k → (V j).ownBlock = some k → i = j
  nepb : ∀ i, i < 9 → (V i).ownBlock ≠ some pb
  nehb : ∀ i, i < 9 → (V i).ownBlock ≠ some hb
  ne : hb ≠ pb
  held : MapB w hb H
  lt : pb < w.heap.size
theorem own_heap' {w w' : World} {base e size n : Nat} {v : Value} {xs : List Value} (h : w.ownsRow base e size v n xs) (t : ∀ g, v.ownBlock = some g → w'.heap[g]? = w.heap[g]?) : w'.ownsRow base e size v n xs := by
  obtain ⟨h1, h2⟩ := h
  refine ⟨h1, ?_⟩
  rcases h2 with h2 | ⟨g, cap, cur, hv, hg, hh, r⟩
  · exact Or.inl h2
  · exact Or.inr ⟨g, cap, cur, hv, hg, (t g (by rw [hv]; rfl)).trans hh, r⟩
theorem heap_ltO {w w' : World} {k : Nat} (e : w'.heap[k]? = w.heap[k]?) (h : k < w.heap.size) : k < w'.heap.size := by
  rcases Nat.lt_or_ge k w'.heap.size with h' | h'
  · exact h'
  · rw [Array.getElem?_eq_none h', Array.getElem?_eq_getElem h] at e; cases e
theorem BudIn.heap {w w' : World} {pb pm hb : Nat} {V : Nat → Value} {F : Nat → List Int} {H : List Blk} (h : BudIn w pb pm hb V F H) (e : ∀ k, budS pb hb V k → w'.heap[k]? = w.heap[k]?) : BudIn w' pb pm hb V F H :=
  have ep := e pb (Or.inl rfl)
  ⟨(cell_of_heap ep _).trans h.c0, fun i hi => (cell_of_heap ep _).trans (h.cl i hi), (cell_of_heap ep _).trans h.cm, fun j hj => (frozen_of_heap ep _).trans (h.free j hj), fun i hi => own_heap' (h.rows i hi) (fun g hg => e g (Or.inr (Or.inr ⟨i, hi, hg⟩))),
   h.apart, h.nepb, h.nehb, h.ne, h.held.heap (e hb (Or.inr (Or.inl rfl))), heap_ltO ep h.lt⟩
theorem BudIn.slt {w : World} {pb pm hb : Nat} {V : Nat → Value} {F : Nat → List Int} {H : List Blk} (h : BudIn w pb pm hb V F H) : ∀ k, budS pb hb V k → k < w.heap.size := fun k hk => by
  rcases hk with rfl | rfl | ⟨i, hi, hk⟩
  · exact h.lt
  · exact h.held.lt
  · exact (World.ownsRow.lt (h.rows i hi) k hk).2
theorem BudIn.below {w w' : World} {pb pm hb : Nat} {V : Nat → Value} {F : Nat → List Int} {H : List Blk} (h : BudIn w pb pm hb V F H) (t : Below w.heap.size w w') : BudIn w' pb pm hb V F H := h.heap fun k hk => t.block k (h.slt k hk)
def upd {α : Type} (V : Nat → α) (o : Nat) (v : α) : Nat → α := fun i => if i = o then v else V i
theorem upd_same {α : Type} (V : Nat → α) (o : Nat) (v : α) : upd V o v o = v := by simp [upd]
theorem upd_other {α : Type} (V : Nat → α) {o i : Nat} (v : α) (h : i ≠ o) : upd V o v i = V i := by simp [upd, h]
/-- What a step leaves behind that has turned a Buddy. -/
def BudPost (w : World) (pb pm hb : Nat) (V : Nat → Value) (F' : Nat → List Int) (H' : List Blk) (w' : World) : Prop :=
  ∃ V', BudIn w' pb pm hb V' F' H' ∧ Touch (budS pb hb V) w w' ∧ ∀ k, budS pb hb V' k → budS pb hb V k ∨ w.heap.size ≤ k
theorem set_far (w : World) (b i j : Nat) (u : Value) (h : i ≠ j) : (w.setCell ⟨b, j, none⟩ u).cell? ⟨b, i, none⟩ = w.cell? ⟨b, i, none⟩ := World.cell?_setCell_other w ⟨b, j, none⟩ ⟨b, i, none⟩ u (fun e => by simp at e <;> omega)
/-- A list is another one now: in its place stands what a function has handed back. -/
theorem BudIn.list {w0 w w1 : World} {pb pm hb : Nat} {V : Nat → Value} {F : Nat → List Int} {H : List Blk} (h0 : BudIn w0 pb pm hb V F H) (hb0 : Below w0.heap.size w0 w) {o : Nat} (ho : o < 9) {L' : List Int} {a : Option Addr} {cap : Nat}
    (hr : RowI w1 0 (.slice a L'.length cap) L') (ht : Touch (fun k => (V o).ownBlock = some k) w w1) (hn : ∀ k, Value.ownBlock (.slice a L'.length cap) = some k → (V o).ownBlock = some k ∨ w.heap.size ≤ k) :
    BudPost w0 pb pm hb V (upd F o L') H (w1.setCell ⟨pb, 1 + o, none⟩ (.slice a L'.length cap)) := by
  have h := h0.below hb0
  have hk1 : ∀ k, budS pb hb V k → (V o).ownBlock ≠ some k → w1.heap[k]? = w.heap[k]? := fun k hk hne => ht.block k (h.slt k hk) hne
  have ep := hk1 pb (Or.inl rfl) (h.nepb o ho)
  have eh := hk1 hb (Or.inr (Or.inl rfl)) (h.nehb o ho)
  obtain ⟨u, hu⟩ : ∃ u, u = Value.slice a L'.length cap := ⟨_, rfl⟩
  rw [← hu] at hr hn ⊢
  have hset : ∀ k, k ≠ pb → (w1.setCell ⟨pb, 1 + o, none⟩ u).heap[k]? = w1.heap[k]? := fun k hk => Below.heap_setCell _ _ _ _ hk
  have hupb : ∀ k, u.ownBlock = some k → k ≠ pb ∧ k ≠ hb := fun k hk => by
    rcases hn k hk with e | e
    · exact ⟨fun e' => h.nepb o ho (e' ▸ e), fun e' => h.nehb o ho (e' ▸ e)⟩
    · have h1 := h.lt; have h2 := h.held.lt; exact ⟨by omega, by omega⟩
  have hV : ∀ i k, i < 9 → (upd V o u i).ownBlock = some k → (i = o ∧ u.ownBlock = some k) ∨ (i ≠ o ∧ (V i).ownBlock = some k) := fun i k _ hk => by
    by_cases e : i = o
    · subst e; rw [upd_same] at hk; exact Or.inl ⟨rfl, hk⟩
    · rw [upd_other V u e] at hk; exact Or.inr ⟨e, hk⟩
  have hcross : ∀ i k, i < 9 → i ≠ o → u.ownBlock = some k → (V i).ownBlock ≠ some k := fun i k hi hne hk he => by
    rcases hn k hk with e | e
    · exact hne (h.apart i o k hi ho he e)
    · have := h.slt k (Or.inr (Or.inr ⟨i, hi, he⟩)); omega
  refine ⟨upd V o u, ⟨?_, fun i hi => ?_, ?_, fun j hj => ?_, fun i hi => ?_, fun i j k hi hj h1 h2 => ?_, fun i hi e => ?_, fun i hi e => ?_, h.ne, (h.held.heap eh).heap (hset hb h.ne), ?_⟩, ?_, fun k hk => ?_⟩
  · have h1 := (cell_of_heap ep 0).trans h.c0
    rw [set_far _ _ _ _ _ (by omega)]; exact h1
  · by_cases e : i = o
    · subst e
      rw [upd_same]
      have := (cell_of_heap ep (1 + i)).trans (h.cl i hi)
      exact World.cell?_setCell_same' _ _ _ (by rw [this]; rfl)
    · rw [upd_other V u e]
      rw [set_far _ _ _ _ _ (by omega)]; exact (cell_of_heap ep _).trans (h.cl i hi)
  · rw [set_far _ _ _ _ _ (by omega)]; exact (cell_of_heap ep _).trans h.cm
  · rw [World.frozen?_setCell]; exact (frozen_of_heap ep _).trans (h.free j hj)
  · by_cases e : i = o
    · subst e
      rw [upd_same, upd_same]
      exact own_heap' hr (fun g hg => hset g (hupb g hg).1)
    · rw [upd_other V u e, upd_other F L' e]
      refine own_heap' (h.rows i hi) (fun g hg => (hset g (fun e' => h.nepb i hi (e' ▸ hg))).trans (hk1 g (Or.inr (Or.inr ⟨i, hi, hg⟩)) (fun e' => e (h.apart i o g hi ho hg e'))))
  · rcases hV i k hi h1 with ⟨e1, q1⟩ | ⟨e1, q1⟩ <;> rcases hV j k hj h2 with ⟨e2, q2⟩ | ⟨e2, q2⟩
    · rw [e1, e2]
    · exact absurd q2 (hcross j k hj e2 q1)
    · exact absurd q1 (hcross i k hi e1 q2)
    · exact h.apart i j k hi hj q1 q2
  · rcases hV i pb hi e with ⟨_, q⟩ | ⟨_, q⟩
    · exact (hupb pb q).1 rfl
    · exact h.nepb i hi q
  · rcases hV i hb hi e with ⟨_, q⟩ | ⟨_, q⟩
    · exact (hupb hb q).2 rfl
    · exact h.nehb i hi q
  · have := Nat.lt_of_lt_of_le h.lt ht.size
    simpa using this
  · refine ((Touch.of_below hb0).trans ((ht.mono (fun k _ hk => ?_)).setCell ?_ _))
    · exact Or.inr (Or.inr ⟨o, ho, hk⟩)
    · exact Or.inl (Or.inl rfl)
  · have hs := hb0.size
    rcases hk with rfl | rfl | ⟨i, hi, hk⟩
    · exact Or.inl (Or.inl rfl)
    · exact Or.inl (Or.inr (Or.inl rfl))
    · rcases hV i k hi hk with ⟨_, q⟩ | ⟨_, q⟩
      · rcases hn k q with e | e
        · exact Or.inl (Or.inr (Or.inr ⟨o, ho, e⟩))
        · exact Or.inr (by omega)
      · exact Or.inl (Or.inr (Or.inr ⟨i, hi, q⟩))

theorem bput_any (pb pm hb : Nat) (V : Nat → Value) (F : Nat → List Int) (H : List Blk) (f : Int) (o : Nat) (w : World) (h : BudIn w pb pm hb V F H) (ho : o < 9) (hs : (F o).Pairwise (· < ·)) (hl : (F o).length ≤ 1000000) :
    Calls Try.prog 49 #[.pointer (some ⟨pb, 0, none⟩), .agg #[.int .i64 f, .int .i64 o]] w fun e w' => e = .returned (.tuple #[]) ∧ BudPost w pb pm hb V (upd F o (addL (F o) f)) H w' := by
  obtain ⟨w1, hw1⟩ : ∃ w1, w1 = w.alloc (.cells #[.int .i64 f, .int .i64 o] 39) := ⟨_, rfl⟩
  have hb1 : Below w.heap.size w w1 := by rw [hw1]; repeat (first | with_reducible exact Below.refl _ _ | with_reducible assumption | with_reducible refine below_drewN ?_ _ | with_reducible refine Below.alloc ?_ (by simp <;> omega) _)
  have h1 := h.below hb1
  have d0 : w1.cell? ⟨w.heap.size, 0, none⟩ = some (.int .i64 f) := by rw [hw1]; simp [go_sem]
  have d1 : w1.cell? ⟨w.heap.size, 1, none⟩ = some (.int .i64 o) := by rw [hw1]; simp [go_sem]
  have hsz : w.heap.size < w1.heap.size := by rw [hw1]; simp
  obtain ⟨a, cap, hv⟩ := own_slice (h1.rows o ho)
  have gl := h1.cl o ho
  rw [hv] at gl
  have o0 : (0 : Int) ≤ (o : Int) := by omega
  have o9 : (o : Int) < 9 := by omega
  have hrow := h1.rows o ho
  rw [hv] at hrow
  have HV := Lib.hid hv
  have hown : ∀ k, (V o).ownBlock = some k → k < w.heap.size := fun k hk => h.slt k (Or.inr (Or.inr ⟨o, ho, hk⟩))
  have HO := Lib.hid hown
  have hnpb : w.heap.size ≠ pb := by have := h.lt; omega
  have hfz := h1.free (1 + o) (by omega)
  have hsr : (F o).Pairwise (· ≤ ·) := hs.imp (fun h => Int.le_of_lt h)
  obtain ⟨i, hi⟩ : ∃ i, (F o).countP (· < f) = i := ⟨_, rfl⟩
  have hil : i ≤ (F o).length := by rw [← hi]; exact List.countP_le_length
  have hadd : addL (F o) f = insL (F o) i f := by unfold addL; rw [hi]
  have hsea : ∀ w', w'.heap = w1.heap → Calls Try.prog 75 #[.slice a (F o).length cap, .int .i64 f] w' fun e w'' => e = .returned (.tuple #[.int .i64 i, .bool ((F o).contains f)]) ∧ ∃ q, w'' = w'.drewN q := fun w' hw => by
    have := search_any (.slice a (F o).length cap) (F o) f w' (own_heap' hrow (fun g _ => by rw [hw])) hsr hl
    rwa [hi] at this
  generalize (F o).contains f = is at hsea
  have HSEA := Lib.hid hsea
  have HADD := Lib.hid hadd
  have HROW := Lib.hid hrow
  clear hs hsr hi hadd hsea hrow hv hown
  have c1 : ∀ p : Wc (fun w' => w1.drew = w'), p.w.cell? ⟨w.heap.size, 1, none⟩ = some (.int .i64 o) := fun p => by rw [← p.h]; exact d1
  have c2 : ∀ p : Wc (fun w' => w1.drew = w'), p.w.cell? ⟨pb, 1 + o, none⟩ = some (.slice a (F o).length cap) := fun p => by rw [← p.h]; exact gl
  go_enter Try.func49, Try.ntmps49
  go_wp2_with (fail)
  rw [← hw1]
  clear hw1
  (refine region_class (fun w' => w1.drew = w') (by kernel_rfl) (by kernel_rfl) (rfl) ?_; intro _; (repeat (first | go_big_quiet_step (fail) | quiet_step (fail))); refine wpQuiet_nil ?_; intro wz hz)
  obtain rfl := hz
  clear c1 c2
  go_wp2_with (fail)
  refine (HSEA.out w1.drew rfl).mono ?_
  rintro e w' ⟨rfl, q, hw'⟩
  obtain ⟨w2, hw2⟩ : ∃ w2, w2 = w1.drew.drewN q := ⟨_, rfl⟩
  rw [hw', ← hw2]
  have hb2 : Below w1.heap.size w1 w2 := by rw [hw2]; repeat (first | with_reducible exact Below.refl _ _ | with_reducible assumption | with_reducible refine below_drewN ?_ _ | with_reducible refine Below.drew ?_ | with_reducible refine Below.setCell ?_ (by first | omega | (simp <;> omega)) _ | with_reducible refine Below.alloc ?_ (by first | omega | (simp <;> omega)) _)
  clear hw2 hw'
  have hbw2 : Below w.heap.size w w2 := hb1.trans (hb2.mono hb1.size)
  have hz2 := hb2.size
  have HSB : Hid (∀ w', Below w1.heap.size w1 w' → w'.cell? ⟨w.heap.size, 0, none⟩ = some (.int .i64 f) ∧ w'.cell? ⟨w.heap.size, 1, none⟩ = some (.int .i64 o)) := Lib.hid fun w' hb => ⟨keep hb hsz d0, keep hb hsz d1⟩
  have hfar : ∀ (w' : World) (u : Value) (j : Nat), (w'.setCell ⟨pb, 1 + o, none⟩ u).cell? ⟨w.heap.size, j, none⟩ = w'.cell? ⟨w.heap.size, j, none⟩ := fun w' u j => World.cell?_setCell_other w' ⟨pb, 1 + o, none⟩ ⟨w.heap.size, j, none⟩ u (fun e => by simp at e <;> first | exact hnpb e.1 | exact hnpb e.1.symm)
  have HFAR := Lib.hid hfar
  clear hfar d0 d1
  have fin : ∀ (w3 w4 : World) (a4 : Option Addr) (cap4 : Nat), Below w1.heap.size w1 w3 → RowI w4 0 (.slice a4 (insL (F o) i f).length cap4) (insL (F o) i f) → Touch (fun k => Value.ownBlock (.slice a (F o).length cap) = some k) w3 w4 →
      (∀ k, Value.ownBlock (.slice a4 (insL (F o) i f).length cap4) = some k → Value.ownBlock (.slice a (F o).length cap) = some k ∨ w3.heap.size ≤ k) → BudPost w pb pm hb V (upd F o (addL (F o) f)) H (w4.setCell ⟨pb, 1 + o, none⟩ (.slice a4 (insL (F o) i f).length cap4)) := fun w3 w4 a4 cap4 hb3 hr ht hn => by
    rw [HADD.out]
    rw [← HV.out] at ht hn
    exact h.list (hb1.trans (hb3.mono hb1.size)) ho hr ht hn
  have FIN := Lib.hid fin
  clear fin
  go_wp2_with (fail)
  go_region_held3 (fun w' => w'.cell? ⟨w.heap.size, 0, none⟩ = some (.int .i64 f) ∧ w'.cell? ⟨w.heap.size, 1, none⟩ = some (.int .i64 o)) (first | (refine HSB.out _ ?_; (repeat (first | with_reducible exact Below.refl _ _ | with_reducible assumption | with_reducible refine below_drewN ?_ _ | with_reducible refine Below.drew ?_ | with_reducible refine Below.setCell ?_ (by first | omega | (simp <;> omega)) _ | with_reducible refine Below.alloc ?_ (by first | omega | (simp <;> omega)) _)); done) | exact ⟨d40, d41⟩ | exact ⟨(HFAR.out _ _ _).trans d40, (HFAR.out _ _ _).trans d41⟩)
    ((go_at_call 77
      refine (ins_any (.slice a (F o).length cap) (F o) i f _ _ (by exact own_heap' HROW.out (fun g hg => Below.block (B := w1.heap.size) (by repeat (first | with_reducible exact Below.refl _ _ | with_reducible assumption | with_reducible refine below_drewN ?_ _ | with_reducible refine Below.drew ?_ | with_reducible refine Below.setCell ?_ (by first | omega | (simp <;> omega)) _ | with_reducible refine Below.alloc ?_ (by first | omega | (simp <;> omega)) _)) g (World.ownsRow.lt HROW.out g hg).2)) hil hl (by exact heap_alloc_new _ _) (fun e => by have h5 : w2.heap.size < w.heap.size := HO.out _ (by rw [HV.out]; exact e); have := hb1.size; omega)).mono ?_
      rintro e w4 ⟨a4, cap4, rfl, hr4, ht4, hn4⟩
      have hz4 := ht4.size
      have hnb : ∀ k, k < w1.heap.size → Value.ownBlock (.slice a (F o).length cap) ≠ some k → w4.heap[k]? = w1.heap[k]? := fun k hk hne => (ht4.block k (by simp; omega) hne).trans ((Below.block (B := w1.heap.size) (by repeat (first | with_reducible exact Below.refl _ _ | with_reducible assumption | with_reducible refine below_drewN ?_ _ | with_reducible refine Below.drew ?_ | with_reducible refine Below.setCell ?_ (by first | omega | (simp <;> omega)) _ | with_reducible refine Below.alloc ?_ (by first | omega | (simp <;> omega)) _)) k hk))
      have hno : Value.ownBlock (.slice a (F o).length cap) ≠ some w.heap.size := fun e => by have := HO.out _ (by rw [HV.out]; exact e); omega
      have d40 := (cell_of_heap (hnb _ hsz hno) 0).trans (HSB.out _ (Below.refl _ _)).1
      have d41 := (cell_of_heap (hnb _ hsz hno) 1).trans (HSB.out _ (Below.refl _ _)).2
      have hnp : Value.ownBlock (.slice a (F o).length cap) ≠ some pb := by rw [← HV.out]; exact h1.nepb o ho
      have e4 := (cell_of_heap (hnb _ h1.lt hnp) (1 + o)).trans gl
      have f4 := (frozen_of_heap (hnb _ h1.lt hnp) (1 + o)).trans hfz))
  all_goals
    go_wp2_with (fail)
    go_end0
    exact ⟨rfl, FIN.out _ _ _ _ (by repeat (first | with_reducible exact Below.refl _ _ | with_reducible assumption | with_reducible refine below_drewN ?_ _ | with_reducible refine Below.drew ?_ | with_reducible refine Below.setCell ?_ (by first | omega | (simp <;> omega)) _ | with_reducible refine Below.alloc ?_ (by first | omega | (simp <;> omega)) _)) hr4 ht4 hn4⟩

end Go.Proofs.Ytoiiblajgkdabaa
