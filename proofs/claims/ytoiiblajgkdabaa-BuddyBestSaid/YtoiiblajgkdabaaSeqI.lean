/- Lists of ints of the program's own: BinarySearch, Insert, Delete of package slices over them. -/
import Derived.Test.YtoiiblajgkdabaaSep
import Derived.Test.YtoiiblajgkdabaaShelf
import Derived.Test.YtoiiblajgkdabaaInsI
import Derived.Shelf.Spec.SlicesInsertGrow
import Derived.Deep.Upon
import Derived.Lib.Hide
namespace Go.Proofs.Ytoiiblajgkdabaa
set_option linter.unusedSimpArgs false
set_option linter.unusedVariables false
set_option maxRecDepth 100000
open Go.RowKit Go.Lib
set_option maxHeartbeats 1000000

def iCells (L : List Int) : List Value := L.map (Value.int .i64)
theorem iCells_len (L : List Int) : (iCells L).length = L.length := by simp [iCells]
theorem iCells_one (L : List Int) : ∀ u ∈ iCells L, u.oneCell' = true := fun u hu => by
  obtain ⟨x, _, rfl⟩ := List.mem_map.1 hu; rfl
/-- A list of ints of the program's own: its value v, its elements L. -/
def RowI (w : World) (base : Nat) (v : Value) (L : List Int) : Prop := w.ownsRow base 3 1 v L.length (iCells L)
theorem RowI.nil (w : World) (base : Nat) : RowI w base (.slice none 0 0) [] := World.ownsRow_nil _ _ _ _
theorem setCells_frame (b : Nat) : ∀ (vs : List Value) (o : Nat) (w : World), (w.setCells b o vs).os = w.os ∧ (w.setCells b o vs).tape = w.tape ∧ (w.setCells b o vs).output = w.output ∧ (w.setCells b o vs).heap.size = w.heap.size ∧ (∀ k, k ≠ b → (w.setCells b o vs).heap[k]? = w.heap[k]?) ∧
    ∀ cur e fr, w.heap[b]? = some (.cells cur e fr) → ∃ cur', (w.setCells b o vs).heap[b]? = some (.cells cur' e fr) ∧ cur'.size = cur.size
  | [], _, w => ⟨rfl, rfl, rfl, rfl, fun _ _ => rfl, fun cur e fr h => ⟨cur, h, rfl⟩⟩
  | v :: vs, o, w => by
    obtain ⟨h1, h2, h3, h4, h5, h6⟩ := setCells_frame b vs (o + 1) (w.setCell ⟨b, o, none⟩ v)
    refine ⟨h1, h2, h3, by rw [World.setCells, h4]; simp, fun k hk => ?_, fun cur e fr h => ?_⟩
    · rw [World.setCells, h5 k hk, Below.heap_setCell _ _ _ _ hk]
    · have h0 : (w.setCell ⟨b, o, none⟩ v).heap[b]? = some (.cells (cur.setIfInBounds o v) e fr) := by
        simp [World.setCell, Array.getElem?_modify, h]
      obtain ⟨cur', g1, g2⟩ := h6 _ _ _ h0
      exact ⟨cur', g1, by rw [g2]; simp⟩
theorem setCells_touch (b o : Nat) (vs : List Value) (w : World) : Touch (· = b) w (w.setCells b o vs) := by
  obtain ⟨h1, h2, h3, h4, h5, _⟩ := setCells_frame b vs o w
  exact ⟨h1, h2, h3, Nat.le_of_eq h4.symm, fun k _ hk => h5 k hk⟩
theorem list_eq_of {xs ys : List Value} (hl : xs.length = ys.length) (h : ∀ j, j < ys.length → xs[j]? = ys[j]?) : xs = ys := by
  apply List.ext_getElem? fun j => ?_
  by_cases hj : j < ys.length
  · exact h j hj
  · rw [List.getElem?_eq_none (by omega), List.getElem?_eq_none (by omega)]
/-- A row whose cells are told one by one. -/
theorem row_of_cells {w : World} {g n cap base : Nat} {cur : Array Value} {e : TypeId} {xs : List Value} (hb : base ≤ g) (hh : w.heap[g]? = some (.cells cur e (0, 0))) (hn : n ≤ cap) (hc : cap ≤ maxLen) (hs : cur.size = cap) (hx : xs.length = n)
    (h : ∀ j, j < n → w.cell? ⟨g, j, none⟩ = xs[j]?) : w.ownsRow base e 1 (.slice (some ⟨g, 0, none⟩) n cap) n xs := by
  refine ⟨by omega, Or.inr ⟨g, cap, cur, rfl, hb, hh, hn, hc, by omega, ?_⟩⟩
  refine list_eq_of (by rw [List.length_take, Array.length_toList]; omega) fun j hj => ?_
  have := h j (by omega)
  rw [cell_of_row w g j cur e (0, 0) hh] at this
  rw [List.getElem?_take_of_lt (by omega), Array.getElem?_toList, this]
theorem iCells_get (L : List Int) (j : Nat) (h : j < L.length) : (iCells L)[j]? = some (.int .i64 (L.getD j 0)) := by
  simp [iCells, List.getElem?_map, h]

/-- What a function leaves behind that has turned a list. -/
def SeqPost (w : World) (v : Value) (L' : List Int) (e : Ending) (w' : World) : Prop := ∃ a cap, e = .returned (.slice a L'.length cap) ∧ RowI w' 0 (.slice a L'.length cap) L' ∧ Touch (fun k => v.ownBlock = some k) w w' ∧ ∀ k, Value.ownBlock (.slice a L'.length cap) = some k → v.ownBlock = some k ∨ w.heap.size ≤ k
def insL (L : List Int) (i : Nat) (x : Int) : List Int := L.take i ++ x :: L.drop i
theorem insL_len (L : List Int) (i : Nat) (x : Int) (h : i ≤ L.length) : (insL L i x).length = L.length + 1 := by
  simp [insL]; omega
theorem insL_cells (L : List Int) (i : Nat) (x : Int) : iCells (insL L i x) = (iCells L).take i ++ .int .i64 x :: (iCells L).drop i := by
  simp [iCells, insL]
theorem cell_isSome_of {w : World} {g : Nat} {cur : Array Value} {e : TypeId} (hh : w.heap[g]? = some (.cells cur e (0, 0))) {j : Nat} (hj : j < cur.size) : (w.cell? ⟨g, j, none⟩).isSome = true := by
  rw [cell_of_row w g j cur e (0, 0) hh]; simp [hj]
theorem shape_cells {w : World} {g : Nat} {cur : Array Value} {e : TypeId} {fr : Nat × Nat} (hh : w.heap[g]? = some (.cells cur e fr)) : w.shape? g = some (e, cur.size) := by
  simp [World.shape?, hh]

theorem ins_get (A : List Value) (i j : Nat) (u : Value) (hi : i ≤ A.length) : (A.take i ++ u :: A.drop i)[j]? = if j < i then A[j]? else if j = i then some u else A[j - 1]? := by
  have hl : (A.take i).length = i := by rw [List.length_take]; omega
  by_cases h : j < i
  · rw [if_pos h, List.getElem?_append_left (by omega), List.getElem?_take_of_lt h]
  · rw [if_neg h, List.getElem?_append_right (by omega), hl]
    by_cases e : j = i
    · subst e; simp
    · rw [if_neg e]
      obtain ⟨q, hq⟩ : ∃ q, j - i = q + 1 := ⟨j - i - 1, by omega⟩
      rw [hq, List.getElem?_cons_succ, List.getElem?_drop]
      congr 1; omega
theorem set_one {w : World} {g o : Nat} {cur : Array Value} {e : TypeId} (hh : w.heap[g]? = some (.cells cur e (0, 0))) (vs : List Value) (hs : o + vs.length ≤ cur.size) (j : Nat) :
    (w.setCells g o vs).cell? ⟨g, j, none⟩ = if o ≤ j ∧ j < o + vs.length then vs[j - o]? else w.cell? ⟨g, j, none⟩ := by
  by_cases h : o ≤ j ∧ j < o + vs.length
  · rw [if_pos h]
    have := World.cell?_setCells_in g vs o w (fun q hq => cell_isSome_of hh (by omega)) (j - o) (by omega)
    rw [show o + (j - o) = j by omega] at this
    rw [this, List.getElem?_eq_getElem (by omega)]
  · rw [if_neg h]
    exact World.cell?_setCells_out g vs o w ⟨g, j, none⟩ (fun _ _ => by show j < o ∨ o + vs.length ≤ j; omega)
/-- The list A with u at i, stored over A's own cells. -/
theorem two_set {X Y Z : World} {g i n : Nat} {cur : Array Value} {e : TypeId} {A : List Value} {u : Value} (hA : A.length = n) (hi : i ≤ n) (hh : X.heap[g]? = some (.cells cur e (0, 0))) (hs : n + 1 ≤ cur.size) (hc : ∀ j, j < i → X.cell? ⟨g, j, none⟩ = A[j]?)
    (hy : (Y.heap = (X.setCells g (i + 1) (A.drop i)).heap ∧ Z.heap = (Y.setCells g i [u]).heap) ∨ (Y.heap = (X.setCells g i [u]).heap ∧ Z.heap = (Y.setCells g (i + 1) (A.drop i)).heap)) :
    (∃ cur', Z.heap[g]? = some (.cells cur' e (0, 0)) ∧ cur'.size = cur.size) ∧ ∀ j, j < n + 1 → Z.cell? ⟨g, j, none⟩ = (A.take i ++ u :: A.drop i)[j]? := by
  have hdl : (A.drop i).length = n - i := by rw [List.length_drop, hA]
  rcases hy with ⟨h1, h2⟩ | ⟨h1, h2⟩
  · obtain ⟨cy, k1, k2⟩ := (setCells_frame g (A.drop i) (i + 1) X).2.2.2.2.2 _ _ _ hh
    rw [← h1] at k1
    obtain ⟨cz, k3, k4⟩ := (setCells_frame g [u] i Y).2.2.2.2.2 _ _ _ k1
    rw [← h2] at k3
    refine ⟨⟨cz, k3, by omega⟩, fun j hj => ?_⟩
    rw [cell_of_heap (w := Y.setCells g i [u]) (by rw [h2]), set_one k1 [u] (by simp; omega), cell_of_heap (w := X.setCells g (i + 1) (A.drop i)) (by rw [h1]), set_one hh (A.drop i) (by omega), ins_get A i j u (by omega)]
    by_cases e1 : j < i
    · rw [if_neg (by simp; omega), if_neg (by omega), if_pos e1]; exact hc j e1
    · rw [if_neg e1]
      by_cases e2 : j = i
      · subst e2; simp
      · rw [if_neg (by simp; omega), if_pos (by omega), if_neg e2, List.getElem?_drop]; congr 1; omega
  · obtain ⟨cy, k1, k2⟩ := (setCells_frame g [u] i X).2.2.2.2.2 _ _ _ hh
    rw [← h1] at k1
    obtain ⟨cz, k3, k4⟩ := (setCells_frame g (A.drop i) (i + 1) Y).2.2.2.2.2 _ _ _ k1
    rw [← h2] at k3
    refine ⟨⟨cz, k3, by omega⟩, fun j hj => ?_⟩
    rw [cell_of_heap (w := Y.setCells g (i + 1) (A.drop i)) (by rw [h2]), set_one k1 (A.drop i) (by omega), cell_of_heap (w := X.setCells g i [u]) (by rw [h1]), set_one hh [u] (by simp; omega), ins_get A i j u (by omega)]
    by_cases e1 : j < i
    · rw [if_neg (by omega), if_neg (by simp; omega), if_pos e1]; exact hc j e1
    · rw [if_neg e1]
      by_cases e2 : j = i
      · subst e2; rw [if_neg (by omega)]; simp
      · rw [if_pos (by omega), if_neg e2, List.getElem?_drop]; congr 1; omega
theorem seq_done {w w' : World} {v : Value} {L' : List Int} {g cap : Nat} {cur' : Array Value} (hh : w'.heap[g]? = some (.cells cur' 3 (0, 0))) (hs : cur'.size = cap) (hn : L'.length ≤ cap) (hm : cap ≤ maxLen) (hc : ∀ j, j < L'.length → w'.cell? ⟨g, j, none⟩ = (iCells L')[j]?)
    (ht : Touch (fun k => v.ownBlock = some k) w w') (hg : v.ownBlock = some g ∨ w.heap.size ≤ g) : SeqPost w v L' (.returned (.slice (some ⟨g, 0, none⟩) L'.length cap)) w' :=
  ⟨_, cap, rfl, row_of_cells (Nat.zero_le _) hh hn hm hs (iCells_len _) hc, ht, fun k hk => by simp [Value.ownBlock] at hk; subst hk; exact hg⟩
theorem touch_setCells {S : Nat → Prop} {w X : World} (h : Touch S w X) (g o : Nat) (vs : List Value) (hg : S g ∨ w.heap.size ≤ g) : Touch S w (X.setCells g o vs) := by
  obtain ⟨h1, h2, h3, h4, h5, _⟩ := setCells_frame g vs o X
  exact ⟨h1.trans h.os, h2.trans h.tape, h3.trans h.output, by rw [h4]; exact h.size, fun k hk hs => (h5 k (fun e => by subst e; rcases hg with hg | hg; exact hs hg; omega)).trans (h.block k hk hs)⟩

theorem ins_any (v : Value) (L : List Int) (i : Nat) (x : Int) (vb : Nat) (w : World) (h : RowI w 0 v L) (hi : i ≤ L.length) (hL : L.length ≤ 1000000) (hx : w.heap[vb]? = some (.cells #[.int .i64 x] 3 (0, 0))) (hvb : v.ownBlock ≠ some vb) :
    Calls Try.prog 77 #[v, .int .i64 i, .slice (some ⟨vb, 0, none⟩) 1 1] w (SeqPost w v (insL L i x)) := by
  have hvs : ∀ j u, [Value.int .i64 x][j]? = some u → w.cell? ⟨vb, 0 + j, none⟩ = some u := fun j u hj => by
    rw [cell_of_row w vb _ _ _ _ hx, Nat.zero_add]; simpa using hj
  have h1v : ∀ u ∈ [Value.int .i64 x], u.oneCell' = true := fun u hu => by simp at hu; subst hu; rfl
  have hlen := insL_len L i x hi
  have hren : Try.insInt_ren.t 3 = 3 := rfl
  rcases h.2 with ⟨rfl, h0⟩ | ⟨g, cap, cur, rfl, -, hh, hnc, hcm, hcs, htk⟩
  · obtain rfl : L = [] := List.length_eq_zero_iff.1 h0
    obtain rfl : i = 0 := by simpa using hi
    have hcon := Any2.slices_Insert_int_end_grow Try.insInt none 0 0 vb 0 1 1 [] [.int .i64 x] w (by omega) (by omega) (by omega) (by omega) rfl rfl (fun _ => rfl) (fun a ha => by cases ha) hvs h1v
    change Calls Try.prog 77 _ _ _ at hcon
    rw [hren] at hcon
    refine hcon.mono fun e w' ⟨he, hw⟩ => ?_
    have hcap := grownCap_ge w 1 0 3
    have hcap2 := grownCap_le_maxLen w 1 0 3 (by unfold maxLen; omega)
    rw [Nat.zero_add] at he hw
    have hnew : w'.heap[w.heap.size]? = some (.cells (([] ++ [Value.int .i64 x]).toArray ++ Builtin.zeroCells (Value.int .i64 0).cells (grownCap w 1 0 3 - 1)) 3 (0, 0)) := by
      rw [hw]; exact heap_alloc_new w.drew _
    rw [he]
    have hl1 : (insL [] 0 x).length = 1 := rfl
    refine seq_done (L' := insL [] 0 x) hnew ?_ (by rw [hl1]; exact hcap) hcap2 (fun j hj => ?_) ?_ (Or.inr (Nat.le_refl _))
    · rw [Array.size_append, size_zeroCells]
      show 1 + (grownCap w 1 0 3 - 1) * 1 = _
      omega
    · obtain rfl : j = 0 := by rw [hl1] at hj; omega
      rw [cell_of_row w' _ _ _ _ _ hnew, Array.getElem?_append_left (by simp)]; simp [iCells, insL]
    · rw [hw]; exact (Touch.refl _ w).drew.alloc _
  · have hn1 : cur.size = cap := by omega
    have hcells : ∀ j, j < L.length → w.cell? ⟨g, j, none⟩ = (iCells L)[j]? := fun j hj => World.ownsRow.cellAt h j (by omega)
    have hcs' : ∀ j u, (iCells L)[j]? = some u → w.cell? ⟨g, 0 + j, none⟩ = some u := fun j u hj => by
      have := (List.getElem?_eq_some_iff.1 hj).1
      rw [Nat.zero_add, hcells j (by rw [iCells_len] at this; exact this)]; exact hj
    have hgv : vb ≠ g := fun e => hvb (by rw [e]; rfl)
    have hfree : ∀ j, w.frozen? ⟨g, 0 + j, none⟩ = false := fun j => by rw [Nat.zero_add]; exact World.ownsRow.frozenAt h j
    have hcl := iCells_len L
    by_cases hroom : L.length + 1 ≤ cap
    · by_cases hlt : i < L.length
      · have hcon := Any2.slices_Insert_int_shift Try.insInt g 0 L.length cap i vb 0 1 1 (iCells L) [.int .i64 x] w hlt (by omega) hroom (by unfold maxLen at hcm; omega) hgv hcl rfl hcs' (fun j hj => by rw [Nat.zero_add]; exact cell_isSome_of hh (by omega)) (fun j _ => hfree j) hvs (iCells_one L) h1v
          _ _ 1 cur.size (shape_cells hx) (shape_cells hh) (by omega) (by simp [World.frozen?, hx]) (by simp [World.frozen?, hx])
        change Calls Try.prog 77 _ _ _ at hcon
        refine hcon.mono fun e w' ⟨he, hw⟩ => ?_
        simp only [Nat.zero_add] at hw
        obtain ⟨⟨cz, k1, k2⟩, k3⟩ := two_set (X := w.drew) (Y := w.drew.setCells g (i + 1) ((iCells L).drop i)) (Z := w') (u := .int .i64 x) hcl (by omega) hh (by omega) (fun j hj => hcells j (by omega)) (Or.inl ⟨rfl, by rw [hw]⟩)
        rw [he]
        suffices hq : SeqPost w (.slice (some ⟨g, 0, none⟩) L.length cap) (insL L i x) (.returned (.slice (some ⟨g, 0, none⟩) (insL L i x).length cap)) w' by rwa [hlen] at hq
        refine seq_done k1 (by omega) (by omega) hcm (fun j hj => by rw [insL_cells]; exact k3 j (by omega)) ?_ (Or.inl rfl)
        rw [hw]
        exact touch_setCells (touch_setCells (Touch.refl (fun k => Value.ownBlock (.slice (some ⟨g, 0, none⟩) L.length cap) = some k) w).drew g _ _ (Or.inl rfl)) g _ _ (Or.inl rfl)
      · obtain rfl : i = L.length := by omega
        have hcon := Any2.slices_Insert_int_end_room Try.insInt g 0 L.length cap vb 0 1 1 [.int .i64 x] w (by omega) hroom (by unfold maxLen at hcm; omega) rfl (fun j hj => by rw [Nat.zero_add]; exact cell_isSome_of hh (by omega)) (fun j _ => by rw [Nat.add_assoc]; exact hfree _) hvs h1v
        change Calls Try.prog 77 _ _ _ at hcon
        refine hcon.mono fun e w' ⟨he, hw⟩ => ?_
        simp only [Nat.zero_add] at hw
        obtain ⟨⟨cz, k1, k2⟩, k3⟩ := two_set (X := w) (Y := w) (Z := w') (u := .int .i64 x) hcl (Nat.le_refl _) hh (by omega) (fun j hj => hcells j (by omega)) (Or.inl ⟨by rw [List.drop_of_length_le (by omega)]; rfl, by rw [hw]⟩)
        rw [he]
        suffices hq : SeqPost w (.slice (some ⟨g, 0, none⟩) L.length cap) (insL L L.length x) (.returned (.slice (some ⟨g, 0, none⟩) (insL L L.length x).length cap)) w' by rwa [hlen] at hq
        refine seq_done k1 (by omega) (by omega) hcm (fun j hj => by rw [insL_cells]; exact k3 j (by omega)) ?_ (Or.inl rfl)
        rw [hw]
        exact touch_setCells (Touch.refl (fun k => Value.ownBlock (.slice (some ⟨g, 0, none⟩) L.length cap) = some k) w) g _ _ (Or.inl rfl)
    · have hcap := grownCap_ge w (L.length + 1) cap 3
      have hcap2 := grownCap_le_maxLen w (L.length + 1) cap 3 (by unfold maxLen; omega)
      by_cases hlt : i < L.length
      · have hcon := Any2.slices_Insert_int_grow Try.insInt g 0 L.length cap i vb 0 1 1 (iCells L) [.int .i64 x] w hlt (by omega) hnc (by omega) (by omega) hcl rfl hcs' hvs (iCells_one L) h1v
        change Calls Try.prog 77 _ _ _ at hcon
        rw [hren] at hcon
        refine hcon.mono fun e w' ⟨he, hw⟩ => ?_
        obtain ⟨cn, hcn⟩ : ∃ cn, cn = ((iCells L).take i).toArray ++ Builtin.zeroCells (Value.int .i64 0).cells (L.length + 1 - i) ++ Builtin.zeroCells (Value.int .i64 0).cells (grownCap w (L.length + 1) cap 3 - (L.length + 1)) := ⟨_, rfl⟩
        rw [← hcn] at hw
        have hsz : cn.size = grownCap w (L.length + 1) cap 3 := by
          rw [hcn, Array.size_append, Array.size_append, size_zeroCells, size_zeroCells]
          show ((iCells L).take i).toArray.size + (L.length + 1 - i) * 1 + (grownCap w (L.length + 1) cap 3 - (L.length + 1)) * 1 = _
          rw [List.size_toArray, List.length_take]
          omega
        have hX : (w.alloc (.cells cn 3)).drew.heap[w.heap.size]? = some (.cells cn 3 (0, 0)) := heap_alloc_new w _
        obtain ⟨⟨cz, k1, k2⟩, k3⟩ := two_set (X := (w.alloc (.cells cn 3)).drew) (Y := ((w.alloc (.cells cn 3)).drew.setCells w.heap.size i [.int .i64 x]).drew) (Z := w') (u := .int .i64 x) hcl (by omega) hX (by omega) (fun j hj => by
          rw [cell_of_row _ _ _ _ _ _ hX, hcn, Array.getElem?_append_left (by simp; omega), Array.getElem?_append_left (by simp; omega), List.getElem?_toArray, List.getElem?_take_of_lt hj]) (Or.inr ⟨rfl, by rw [hw]⟩)
        rw [he]
        suffices hq : SeqPost w (.slice (some ⟨g, 0, none⟩) L.length cap) (insL L i x) (.returned (.slice (some ⟨w.heap.size, 0, none⟩) (insL L i x).length (grownCap w (L.length + 1) cap 3))) w' by rwa [hlen] at hq
        refine seq_done k1 (by omega) (by omega) hcap2 (fun j hj => by rw [insL_cells]; exact k3 j (by omega)) ?_ (Or.inr (Nat.le_refl _))
        rw [hw]
        exact touch_setCells (touch_setCells ((Touch.refl (fun k => Value.ownBlock (.slice (some ⟨g, 0, none⟩) L.length cap) = some k) w).alloc _).drew w.heap.size _ _ (Or.inr (Nat.le_refl _))).drew w.heap.size _ _ (Or.inr (Nat.le_refl _))
      · obtain rfl : i = L.length := by omega
        have hcon := Any2.slices_Insert_int_end_grow Try.insInt (some ⟨g, 0, none⟩) L.length cap vb 0 1 1 (iCells L) [.int .i64 x] w (by omega) hnc (by omega) (by omega) hcl rfl (fun e => by cases e) (fun a ha j u hj => by
          injection ha with ha; subst ha
          have : (⟨g, 0, none⟩ : Addr).add j = ⟨g, 0 + j, none⟩ := by unfold Addr.add; split <;> simp_all
          rw [this]; exact hcs' j u hj) hvs h1v
        change Calls Try.prog 77 _ _ _ at hcon
        rw [hren] at hcon
        refine hcon.mono fun e w' ⟨he, hw⟩ => ?_
        obtain ⟨cn, hcn⟩ : ∃ cn, cn = (iCells L ++ [Value.int .i64 x]).toArray ++ Builtin.zeroCells (Value.int .i64 0).cells (grownCap w (L.length + 1) cap 3 - (L.length + 1)) := ⟨_, rfl⟩
        rw [← hcn] at hw
        have hsz : cn.size = grownCap w (L.length + 1) cap 3 := by
          rw [hcn, Array.size_append, size_zeroCells]
          show (iCells L ++ [Value.int .i64 x]).toArray.size + (grownCap w (L.length + 1) cap 3 - (L.length + 1)) * 1 = _
          rw [List.size_toArray, List.length_append, hcl]
          simp; omega
        have hX : w'.heap[w.heap.size]? = some (.cells cn 3 (0, 0)) := by rw [hw]; exact heap_alloc_new w.drew _
        rw [he]
        suffices hq : SeqPost w (.slice (some ⟨g, 0, none⟩) L.length cap) (insL L L.length x) (.returned (.slice (some ⟨w.heap.size, 0, none⟩) (insL L L.length x).length (grownCap w (L.length + 1) cap 3))) w' by rwa [hlen] at hq
        refine seq_done hX (by omega) (by omega) hcap2 (fun j hj => ?_) ?_ (Or.inr (Nat.le_refl _))
        · rw [cell_of_row _ _ _ _ _ _ hX, hcn, Array.getElem?_append_left (by simp [iCells]; omega), List.getElem?_toArray, insL_cells, List.take_of_length_le (by omega), List.drop_of_length_le (by omega)]
        · rw [hw]; exact ((Touch.refl (fun k => Value.ownBlock (.slice (some ⟨g, 0, none⟩) L.length cap) = some k) w).drew).alloc _

end Go.Proofs.Ytoiiblajgkdabaa
