/- slices.Delete of one window, by a walk over its text. -/
import Derived.Test.YtjacbcephokbbaaDoorTab
import Derived.Test.YtjacbcephokbbaaDoorClass
import Derived.Lib.SliceRun
import Derived.Deep.RegionLaw
namespace Go.Proofs.YtjacbcephokbbaaDoor
set_option linter.unusedSimpArgs false
set_option linter.unusedVariables false
set_option maxRecDepth 100000
open Go.RowKit
set_option maxHeartbeats 8000000

/-- A block of which some cells in a row are written. -/
theorem heap_setCells {g : Nat} {t : TypeId} : ∀ (vs : List Value) (o : Nat) (w : World) (cur : Array Value), w.heap[g]? = some (.cells cur t (0, 0)) → o + vs.length ≤ cur.size →
    ∃ cur' : Array Value, (w.setCells g o vs).heap[g]? = some (.cells cur' t (0, 0)) ∧ cur'.size = cur.size ∧ ∀ j : Nat, cur'[j]? = if o ≤ j ∧ j < o + vs.length then vs[j - o]? else cur[j]?
  | [], o, w, cur, h, _ => ⟨cur, h, rfl, fun j => by rw [if_neg (fun hx => by have h2 := hx.2; simp only [List.length_nil] at h2; omega)]⟩
  | v :: vs, o, w, cur, h, hl => by
    have hl' : o + (vs.length + 1) ≤ cur.size := hl
    have h1 : (w.setCell ⟨g, o, none⟩ v).heap[g]? = some (.cells (cur.setIfInBounds o v) t (0, 0)) := by
      simp [World.setCell, Array.getElem?_modify, h]
    obtain ⟨cur', h2, h3, h4⟩ := heap_setCells vs (o + 1) (w.setCell ⟨g, o, none⟩ v) (cur.setIfInBounds o v) h1 (by simp; omega)
    refine ⟨cur', h2, by rw [h3]; simp, fun j => ?_⟩
    rw [h4 j, List.length_cons]
    by_cases e : j = o
    · subst e
      rw [if_neg (by omega), if_pos ⟨by omega, by omega⟩]
      rw [Nat.sub_self, List.getElem?_cons_zero]
      rw [Array.getElem?_setIfInBounds_self_of_lt (by omega)]
    · by_cases e2 : o + 1 ≤ j ∧ j < o + 1 + vs.length
      · rw [if_pos e2, if_pos ⟨by omega, by omega⟩, show j - o = (j - (o + 1)) + 1 by omega]
        simp
      · rw [if_neg e2, if_neg (by omega)]
        simp [Ne.symm e]
theorem touch_setCells {g : Nat} : ∀ (vs : List Value) (o : Nat) (w : World), Touch (· = g) w (w.setCells g o vs)
  | [], _, w => Touch.refl _ _
  | v :: vs, o, w => (Touch.setCell (S := (· = g)) (Touch.refl _ _) (p := ⟨g, o, none⟩) (Or.inl rfl) v).trans (touch_setCells vs (o + 1) _)
theorem zeroWin (w : World) : (zeroValue 58).run Tryd.prog w = .ok (.agg #[.int .i64 0, .int .i64 0, .int .i64 0]) w := by kernel_rfl
theorem clear_one (w : World) (g o c : Nat) (ty : TypeId) (hc : ∀ j, j < 3 → (w.cell? ⟨g, o + j, none⟩).isSome = true) (hf : ∀ j, j < 3 → w.frozen? ⟨g, o + j, none⟩ = false) :
    (Builtin.clear_ #[54] ty #[.slice (some ⟨g, o, none⟩) 1 c]).run Tryd.prog w = .ok (.tuple #[]) (w.setCells g o [.int .i64 0, .int .i64 0, .int .i64 0]) := by
  have hz : (Builtin.zeroCells (Value.agg #[.int .i64 0, .int .i64 0, .int .i64 0]).cells 1).toList = [.int .i64 0, .int .i64 0, .int .i64 0] := by kernel_rfl
  have hst := run_storeCells_cells (P := Tryd.prog) g o [.int .i64 0, .int .i64 0, .int .i64 0] 0 w (by simpa using hc) (by simpa using hf) (by intro v hv; simp at hv; rw [hv]; rfl)
  simp only [Nat.add_zero] at hst
  simp [Builtin.clear_, run_underlying Tryd.underlying54, zeroWin, hz, hst]

def DelPost (w : World) (g cap n i : Nat) (L : List Win) (e : Ending) (w' : World) : Prop :=
  e = .returned (.slice (some ⟨g, 0, none⟩) (n - 1) cap) ∧ w'.ownsRow 0 58 3 (.slice (some ⟨g, 0, none⟩) (n - 1) cap) (n - 1) (winCells (L.eraseIdx i)) ∧ Touch (· = g) w w'
theorem winCells_app (L M : List Win) : winCells (L ++ M) = winCells L ++ winCells M := by simp [winCells]
theorem winCells_drop3 (L : List Win) (k : Nat) (hk : k ≤ L.length) : (winCells L).drop (k * 3) = winCells (L.drop k) := by
  have h := winCells_app (L.take k) (L.drop k)
  rw [List.take_append_drop] at h
  have hl : (winCells (L.take k)).length = k * 3 := by rw [winCells_length, List.length_take, Nat.min_eq_left hk]
  rw [h, ← hl, List.drop_left]
theorem winCells_take3 (L : List Win) (k : Nat) (hk : k ≤ L.length) : (winCells L).take (k * 3) = winCells (L.take k) := by
  have h := winCells_app (L.take k) (L.drop k)
  rw [List.take_append_drop] at h
  have hl : (winCells (L.take k)).length = k * 3 := by rw [winCells_length, List.length_take, Nat.min_eq_left hk]
  rw [h, ← hl, List.take_left]
/-- What the two writes leave. -/
theorem del_own {w : World} {g cap n i : Nat} {L : List Win} {e : TypeId} (h : w.ownsRow 0 e 3 (.slice (some ⟨g, 0, none⟩) n cap) n (winCells L)) (hn : L.length = n) (hi : i < n) :
    ((w.setCells g (i * 3) (winCells (L.drop (i + 1)))).setCells g ((n - 1) * 3) [.int .i64 0, .int .i64 0, .int .i64 0]).ownsRow 0 e 3 (.slice (some ⟨g, 0, none⟩) (n - 1) cap) (n - 1) (winCells (L.eraseIdx i)) := by
  rcases h.2 with ⟨h1, _⟩ | ⟨g', cap', cur, h1, _, h2, h3, h4, h5, h6⟩
  · cases h1
  · cases h1
    have hlen : (winCells (L.drop (i + 1))).length = (n - (i + 1)) * 3 := by rw [winCells_length, List.length_drop, hn]
    obtain ⟨c1, k1, k2, k3⟩ := heap_setCells (winCells (L.drop (i + 1))) (i * 3) w cur h2 (by rw [hlen, h5]; omega)
    obtain ⟨c2, l1, l2, l3⟩ := heap_setCells [.int .i64 0, .int .i64 0, .int .i64 0] ((n - 1) * 3) _ c1 k1 (by rw [k2, h5]; simp; omega)
    refine ⟨by rw [winCells_length, List.length_eraseIdx_of_lt (by omega), hn], Or.inr ⟨g, cap, c2, rfl, Nat.zero_le _, l1, by omega, h4, by rw [l2, k2, h5], ?_⟩⟩
    apply List.ext_getElem?
    intro j
    rw [List.getElem?_take]
    have hsz : (winCells (L.eraseIdx i)).length = (n - 1) * 3 := by rw [winCells_length, List.length_eraseIdx_of_lt (by omega), hn]
    by_cases hj : j < (n - 1) * 3
    · rw [if_pos hj, Array.getElem?_toList, l3 j, if_neg (by simp; omega), k3 j, hlen]
      have he : winCells (L.eraseIdx i) = winCells (L.take i) ++ winCells (L.drop (i + 1)) := by rw [List.eraseIdx_eq_take_drop_succ, winCells_app]
      have hti : (winCells (L.take i)).length = i * 3 := by rw [winCells_length, List.length_take, Nat.min_eq_left (by omega)]
      rw [he]
      by_cases hji : j < i * 3
      · rw [if_neg (by omega), List.getElem?_append_left (by omega), ← winCells_take3 L i (by omega), List.getElem?_take_of_lt hji, ← h6, List.getElem?_take_of_lt (by omega), Array.getElem?_toList]
      · rw [if_pos ⟨by omega, by omega⟩, List.getElem?_append_right (by omega), hti]
    · rw [if_neg hj, List.getElem?_eq_none (by omega)]
theorem delete_any (g cap n i : Nat) (L : List Win) (w : World) (h : w.ownsRow 0 58 3 (.slice (some ⟨g, 0, none⟩) n cap) n (winCells L)) (hn : L.length = n) (hi : i < n) (hsz : n ≤ 256) :
    Calls Tryd.prog 31 #[.slice (some ⟨g, 0, none⟩) n cap, .int .i64 i, .int .i64 ((i : Int) + 1)] w (DelPost w g cap n i L) := by
  obtain ⟨i0, hi0, hz0, hz1, hz2⟩ := info_parts infoWin
  obtain ⟨k, rfl⟩ : ∃ k, n = k + 1 := ⟨n - 1, by omega⟩
  obtain ⟨hnc, hcm⟩ : k + 1 ≤ cap ∧ cap ≤ maxLen := by
    rcases h.2 with ⟨h1, _⟩ | ⟨g', cap', cur, h1, _, _, h3, h4, _⟩
    · cases h1
    · cases h1; exact ⟨h3, h4⟩
  unfold maxLen at hcm
  have hcells : ∀ j, j < (k + 1) * 3 → (w.drew.cell? ⟨g, j, none⟩).isSome = true ∧ w.drew.frozen? ⟨g, j, none⟩ = false := fun j hj => by
    refine ⟨?_, h.frozenAt j⟩
    have := h.cellAt j hj
    show (w.cell? ⟨g, j, none⟩).isSome = true
    rw [this, List.getElem?_eq_getElem (by rw [winCells_length]; omega)]; rfl
  obtain ⟨news, hnews⟩ : ∃ news, news = winCells (L.drop (i + 1)) := ⟨_, rfl⟩
  have hlen : news.length = (k - i) * 3 := by rw [hnews, winCells_length, List.length_drop, hn]; congr 1; omega
  obtain ⟨A, hA, hsrc⟩ : ∃ A : Addr, (if cap = i + 1 then some (⟨g, 0, none⟩ : Addr) else some ⟨g, (i + 1) * 3, none⟩) = some A ∧ Hid (∀ t u, news[t]? = some u → w.drew.cell? (A.add t) = some u) := by
    by_cases hc : cap = i + 1
    · refine ⟨⟨g, 0, none⟩, by simp [hc], Lib.hid fun t u hu => ?_⟩
      have h0 : news.length = 0 := by rw [hlen]; omega
      rw [List.length_eq_zero_iff.1 h0] at hu
      simp at hu
    · refine ⟨⟨g, (i + 1) * 3, none⟩, by simp [hc], Lib.hid fun t u hu => ?_⟩
      have ht : t < (k - i) * 3 := by
        have := (List.getElem?_eq_some_iff.1 hu).1
        rwa [hlen] at this
      rw [Addr.add_lit]
      have := h.cellAt ((i + 1) * 3 + t) (by omega)
      show w.cell? ⟨g, (i + 1) * 3 + t, none⟩ = some u
      rw [this]
      rw [hnews, ← winCells_drop3 L (i + 1) (by omega), List.getElem?_drop] at hu
      exact hu
  have s1 : Hid (news.length = (k - i) * 3) := Lib.hid hlen
  have s2 : Hid (∀ u ∈ news, u.oneCell' = true) := Lib.hid fun u hu => by
    rw [hnews] at hu
    obtain ⟨x, _, hx⟩ := List.mem_flatMap.1 hu
    simp [encW] at hx
    rcases hx with rfl | rfl | rfl <;> rfl
  have s3 : Hid (∀ t, t < news.length → (w.drew.cell? ⟨g, 0 + i * 3 + t, none⟩).isSome = true ∧ w.drew.frozen? ⟨g, 0 + i * 3 + t, none⟩ = false) := Lib.hid fun t ht => by
    rw [hlen] at ht
    rw [Nat.zero_add]
    exact hcells _ (by omega)
  obtain ⟨W1, hW1⟩ : ∃ W1, W1 = w.drew.setCells g (0 + i * 3) news := ⟨_, rfl⟩
  have hown : Hid ((W1.setCells g (k * 3) [.int .i64 0, .int .i64 0, .int .i64 0]).ownsRow 0 58 3 (.slice (some ⟨g, 0, none⟩) k cap) k (winCells (L.eraseIdx i)) ∧ Touch (· = g) w (W1.setCells g (k * 3) [.int .i64 0, .int .i64 0, .int .i64 0])) := Lib.hid (by
    have hd := del_own (w := w.drew) h hn hi
    simp only [Nat.add_sub_cancel] at hd
    rw [hW1, hnews, Nat.zero_add]
    exact ⟨hd, (Touch.drew (Touch.refl _ _)).trans ((touch_setCells _ _ _).trans (touch_setCells _ _ _))⟩)
  have hcl : ∀ ty c, (Builtin.clear_ #[54] ty #[.slice (some ⟨g, k * 3, none⟩) 1 c]).run Tryd.prog W1 = .ok (.tuple #[]) (W1.setCells g (k * 3) [.int .i64 0, .int .i64 0, .int .i64 0]) := fun ty c => by
    have hcc : ∀ j, j < (k + 1) * 3 → (W1.cell? ⟨g, j, none⟩).isSome = true ∧ W1.frozen? ⟨g, j, none⟩ = false := fun j hj => by
      rcases h.2 with ⟨h1, _⟩ | ⟨g', cap', cur, h1, _, h2, h3, h4, h5, h6⟩
      · cases h1
      · cases h1
        obtain ⟨c1, k1, k2, _⟩ := heap_setCells news (0 + i * 3) w.drew cur h2 (by rw [hlen, h5]; omega)
        rw [← hW1] at k1
        refine ⟨?_, by simp [World.frozen?, k1]⟩
        have : j < c1.size := by rw [k2, h5]; omega
        simp [World.cell?, k1, this]
    exact clear_one W1 g (k * 3) c ty (fun j hj => (hcc _ (by omega)).1) (fun j hj => (hcc _ (by omega)).2)
  have hW : Hid (W1 = w.drew.setCells g (0 + i * 3) news) := Lib.hid hW1
  have HCL := Lib.hid hcl
  have e1 : i + (k - i) = k := by omega
  have E1 := Lib.hid e1
  have hic : i ≤ cap := by omega
  have hjc : i + 1 ≤ cap := by omega
  have j0 : (0 : Int) ≤ (i : Int) + 1 := by omega
  have j1 : (i : Int) + 1 ≤ (k : Int) + 1 := by omega
  clear hW1 hcells hnews hlen h hn hcl e1
  go_enter Tryd.func31, Tryd.ntmps31
  go_wp2_with fail
  go_region_law (refine step_append_room rfl (.tmp 22) (.tmp 25) 54 rfl 58 i0 3 Tryd.underlying54 hi0 hz1 g 0 i cap (by simp [Act.eval, Act.put]) A (k - i) (cap - (i + 1)) news (by simp [Act.eval, Act.put]) s1.out hsrc.out s2.out (by omega) s3.out ?_; rw [← hW.out])
  rw [E1.out]
  have hcl := HCL.out
  have hck : ¬ cap = k := by omega
  have hkk : k + 1 - k = 1 := by omega
  have hcz : 1 ≤ cap - k := by omega
  go_wp2_with fail
  go_ret
  unfold DelPost
  rw [Nat.add_sub_cancel]
  exact ⟨rfl, hown.out⟩

end Go.Proofs.YtjacbcephokbbaaDoor
