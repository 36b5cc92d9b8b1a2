/- A table of windows as a part of a world, and what Copy of package slots makes. -/
import Derived.Test.YtjacbcephokbbaaDoorRemove
import Derived.Test.YtjacbcephokbbaaDoorCloneW
namespace Go.Proofs.YtjacbcephokbbaaDoor
set_option linter.unusedSimpArgs false
set_option linter.unusedVariables false
set_option maxRecDepth 100000
open Go.RowKit
set_option maxHeartbeats 4000000

theorem clone_any (v : Value) (L : List Win) (w : World) (h : w.ownsRow 0 58 3 v L.length (winCells L)) (hlen : L.length ≤ 256) :
    Calls Tryd.prog 33 #[v] w fun e w' => ∃ v', e = .returned v' ∧ w'.ownsRow w.heap.size 58 3 v' L.length (winCells L) ∧ Below w.heap.size w w' := by
  rcases h.2 with ⟨rfl, h0⟩ | ⟨g, cap, cur, rfl, _, hh, _⟩
  · have hL : L = [] := List.length_eq_zero_iff.1 h0
    subst hL
    have hcon := AnyE.slices_Clone_nil Tryd.cloneWin 0 0 w
    change Calls Tryd.prog 33 _ _ _ at hcon
    exact hcon.mono fun e w' ⟨he, hw⟩ => ⟨_, he, hw ▸ World.ownsRow_nil _ _ _ _, hw ▸ Below.refl _ _⟩
  · obtain ⟨i0, hi, hz0, hz1, hz2⟩ := info_parts infoWin
    have hcon := AnyE.slices_Clone Tryd.cloneWin i0 (.agg #[.int .i64 0, .int .i64 0, .int .i64 0]) 3 24 hi hz0 hz1 hz2 rfl (by omega) Tryd.sizeOf58 g 0 L.length cap (winCells L) w (winCells_length L) (by unfold maxLen; omega) (by omega)
      (fun j u hj => by
        have hjl := (List.getElem?_eq_some_iff.1 hj).1
        rw [winCells_length] at hjl
        rw [Nat.zero_add, h.cellAt j hjl]; exact hj)
      (fun u hu => by
        unfold winCells at hu
        obtain ⟨x, _, hx⟩ := List.mem_flatMap.1 hu
        simp [encW] at hx
        rcases hx with rfl | rfl | rfl <;> rfl)
    change Calls Tryd.prog 33 _ _ _ at hcon
    exact hcon.mono fun e w' ⟨v', he, ho, _, hb⟩ => ⟨v', he, ho, hb⟩

def CopyPost (w : World) (n : Int) (S : Nat → Bool) (L : List Win) (e : Ending) (w' : World) : Prop :=
  ∃ pc v', e = .returned (.pointer (some ⟨pc, 0, none⟩)) ∧ TabIn w' pc v' n S L ∧ Below w.heap.size w w' ∧ w.heap.size ≤ pc ∧ ∀ k, v'.ownBlock = some k → w.heap.size ≤ k
theorem slots_copy (pt : Nat) (v : Value) (n : Int) (S : Nat → Bool) (L : List Win) (w : World) (h : TabIn w pt v n S L) (hlen : L.length ≤ 256) :
    Calls Tryd.prog 22 #[.pointer (some ⟨pt, 0, none⟩)] w (CopyPost w n S L) := by
  have c0 := h.c0
  have b0 : w.cell? ⟨pt, 1, none⟩ = some (.int .u64 (wordB S 0)) := h.bm.cell 0 (by omega)
  have b1 : w.cell? ⟨pt, 2, none⟩ = some (.int .u64 (wordB S 1)) := h.bm.cell 1 (by omega)
  have b2 : w.cell? ⟨pt, 3, none⟩ = some (.int .u64 (wordB S 2)) := h.bm.cell 2 (by omega)
  have b3 : w.cell? ⟨pt, 4, none⟩ = some (.int .u64 (wordB S 3)) := h.bm.cell 3 (by omega)
  have c5 := h.c5
  have hlt := h.lt
  have hne : ¬ pt = w.heap.size := by omega
  obtain ⟨wa, hwa⟩ : ∃ wa, wa = w.alloc (.cells #[.int .i64 n, .int .u64 (wordB S 0), .int .u64 (wordB S 1), .int .u64 (wordB S 2), .int .u64 (wordB S 3), v] 56) := ⟨_, rfl⟩
  have hba : Below w.heap.size w wa := by rw [hwa]; repeat (first | with_reducible exact Below.refl _ _ | with_reducible assumption | with_reducible refine below_drewN ?_ _ | with_reducible refine Below.alloc ?_ (by simp <;> omega) _)
  have a0 : wa.cell? ⟨w.heap.size, 0, none⟩ = some (.int .i64 n) := by rw [hwa]; simp [go_sem]
  have a1 : ∀ j, j < 4 → wa.cell? ⟨w.heap.size, 1 + j, none⟩ = some (.int .u64 (wordB S j)) := fun j hj => by
    rw [hwa]; rcases four hj with h | h | h | h <;> subst h <;> simp [go_sem]
  have a5 : wa.cell? ⟨w.heap.size, 5, none⟩ = some v := by rw [hwa]; simp [go_sem]
  have af : ∀ j, wa.frozen? ⟨w.heap.size, j, none⟩ = false := fun j => by rw [hwa]; simp [go_sem]
  have al : w.heap.size < wa.heap.size := by rw [hwa]; simp
  have hta := h.below hba
  have hpa := hta.c5
  have hra := hta.row
  have ha1 := Lib.hid a1
  have haf := Lib.hid af
  clear a1 af h
  obtain ⟨a, cap, hv, _⟩ := own_wins hra rfl
  have hcl := clone_any v L wa hra hlen
  rw [hv] at hcl
  rw [hv] at c5 hwa hpa
  clear hv
  go_enter Tryd.func22, Tryd.ntmps22
  go_wp2_with (fail)
  rw [← hwa]
  clear hwa
  refine hcl.mono ?_
  clear hcl
  rintro e w2 ⟨v', rfl, hown, hb2⟩
  have kb : Below w.heap.size w w2 := hba.trans (hb2.mono hba.size)
  have d0 := keep hb2 al a0
  have d5 := keep hb2 al a5
  have df5 : w2.frozen? ⟨w.heap.size, 5, none⟩ = false := keepF hb2 al (haf.out 5)
  have dl : w.heap.size < w2.heap.size := Nat.lt_of_lt_of_le al hb2.size
  obtain ⟨a', cap', hv'⟩ := own_slice hown
  have hgl : ∀ g, v'.ownBlock = some g → wa.heap.size ≤ g := fun g hg => by
    rw [hv'] at hg hown
    exact (hown.lt g hg).1
  have HG := Lib.hid hgl
  rw [hv'] at hown ⊢
  rw [hv'] at hgl
  clear HG hv'
  go_wp2_with (fail)
  go_ret
  refine ⟨w.heap.size, .slice a' L.length cap', rfl, ⟨by rw [setCell_other5 (by omega)]; exact d0, ⟨fun j hj => by rw [setCell_other5 (by omega)]; exact keep hb2 al (ha1.out j hj), fun j hj => ?_⟩, by simp [go_sem, d5], by simp [go_sem, df5], ?_, fun e => ?_, by simpa using dl⟩, ?_, Nat.le_refl _, fun k hk => ?_⟩
  · rw [show ∀ u, (w2.setCell ⟨w.heap.size, 5, none⟩ u).frozen? ⟨w.heap.size, 1 + j, none⟩ = w2.frozen? ⟨w.heap.size, 1 + j, none⟩ from fun u => by simp [go_sem]]
    exact keepF hb2 al (haf.out _)
  · exact own_heap (own_base0 hown) (fun g hg => Below.heap_setCell _ _ _ _ (fun e => by have := hgl g hg; have e' : g = w.heap.size := e; omega))
  · have := hgl _ e; omega
  · exact Below.setCell kb (Nat.le_refl _) _
  · have := hgl k hk; omega

/-! ### A part of a world -/
def tabP (pt : Nat) (n : Int) (L : List Win) : HP := exP fun x : Value × (Nat → Bool) => ownP (tabS pt x.1) (fun w => TabIn w pt x.1 n x.2 L ∧ TabOk n x.2 L)
theorem loc_tab (pt : Nat) (v : Value) (n : Int) (S : Nat → Bool) (L : List Win) : Loc (tabS pt v) (fun w => TabIn w pt v n S L ∧ TabOk n S L) := fun _ _ h e => ⟨h.1.heap e, h.2⟩
theorem Sat.tab {g w : World} {pt : Nat} {n : Int} {L : List Win} {R : HP} (h : Sat g w (tabP pt n L * R)) :
    ∃ v S, TabIn w pt v n S L ∧ TabOk n S L ∧ ∀ w' L', TabPost w pt v n L' w' → Sat g w' (tabP pt n L' * R) := by
  obtain ⟨⟨v, S⟩, h⟩ := h.ex
  have hi : TabIn w pt v n S L ∧ TabOk n S L := h.inv
  refine ⟨v, S, hi.1, hi.2, fun w' L' ⟨v', S', h1, h2, h3, h4⟩ => Sat.ex' (v', S') (h.touch h3 ⟨h1, h2⟩ (loc_tab _ _ _ _ _) (fun k hk => ?_) h1.slt)⟩
  rcases hk with rfl | hk
  · exact Or.inl (Or.inl rfl)
  · rcases h4 k hk with h5 | h5
    · exact Or.inl (Or.inr h5)
    · exact Or.inr h5
theorem Sat.tab_new {g w w' : World} {pt : Nat} {v : Value} {n : Int} {S : Nat → Bool} {L : List Win} {R : HP} (h : Sat g w R) (b : Below w.heap.size w w') (t : TabIn w' pt v n S L) (ok : TabOk n S L) (h1 : w.heap.size ≤ pt) (h2 : ∀ k, v.ownBlock = some k → w.heap.size ≤ k) : Sat g w' (tabP pt n L * R) :=
  Sat.ex' (v, S) (h.new b ⟨t, ok⟩ (loc_tab _ _ _ _ _) (fun k hk => by rcases hk with rfl | hk; exact h1; exact h2 k hk) t.slt)

theorem s_at (pt : Nat) (n : Int) (L : List Win) (t : Int) (g w : World) (R : HP) (h : Sat g w (tabP pt n L * R)) :
    Calls Tryd.prog 11 #[.pointer (some ⟨pt, 0, none⟩), .int .i64 t] w fun e w' => e = .returned (.int .i64 (atW L t)) ∧ Below w.heap.size w w' := by
  obtain ⟨v, S, hi, ok, _⟩ := h.tab
  exact slots_at pt v n S L t _ w hi ok.sm rfl (by have := ok.len; omega)
theorem s_ticks (pt : Nat) (n : Int) (L : List Win) (g w : World) (R : HP) (h : Sat g w (tabP pt n L * R)) :
    Calls Tryd.prog 24 #[.pointer (some ⟨pt, 0, none⟩)] w fun e w' => e = .returned (.int .i64 n) ∧ w = w' := by
  obtain ⟨v, S, hi, ok, _⟩ := h.tab
  exact ticks_any pt v n S L w hi
theorem s_slots (pt : Nat) (n : Int) (L : List Win) (g w : World) (R : HP) (h : Sat g w (tabP pt n L * R)) :
    Calls Tryd.prog 14 #[.pointer (some ⟨pt, 0, none⟩)] w (SlotsPost w w.heap.size L) := by
  obtain ⟨v, S, hi, ok, _⟩ := h.tab
  exact slots_slots pt v n S L w hi ok.len
theorem s_remove (pt : Nat) (n : Int) (L : List Win) (part : Int) (g w : World) (R : HP) (h : Sat g w (tabP pt n L * R)) :
    Calls Tryd.prog 15 #[.pointer (some ⟨pt, 0, none⟩), .int .i64 part] w fun e w' => e = .returned (.int .i64 (cntP part L)) ∧ Sat g w' (tabP pt n (notP part L) * R) := by
  obtain ⟨v, S, hi, ok, hc⟩ := h.tab
  exact (slots_remove pt v n S L part w hi ok).mono fun e w' ⟨h1, h2⟩ => ⟨h1, hc w' _ h2⟩
theorem s_place (pt : Nat) (n : Int) (L : List Win) (p f m : Int) (g w : World) (R : HP) (h : Sat g w (tabP pt n L * R)) :
    Calls Tryd.prog 10 #[.pointer (some ⟨pt, 0, none⟩), .int .i64 p, .int .i64 f, .int .i64 m] w fun e w' => e = .returned (.int .i64 (placeE n L p f m)) ∧ Sat g w' (tabP pt n (placeL n L p f m) * R) := by
  obtain ⟨v, S, hi, ok, hc⟩ := h.tab
  unfold placeE placeL
  cases hp : placeOk n p f m
  · exact (place_bad pt v n S L p f m w hi ok.n1 ok.n2 hp).mono fun e w' ⟨h1, h2⟩ => ⟨h1, h2 ▸ h⟩
  · obtain ⟨_, m1, _⟩ := placeOk_iff.1 hp
    obtain ⟨k, rfl⟩ := Int.eq_ofNat_of_zero_le (show 0 ≤ m by omega)
    rw [Int.toNat_natCast]
    cases hf : freeB L f k
    · exact (place_gap pt v n S L p f k w hi ok hp hf).mono fun e w' ⟨h1, h2⟩ => ⟨h1, h2 ▸ h⟩
    · exact (place_yes pt v n S L p f k w hi ok hp hf).mono fun e w' ⟨h1, h2⟩ => ⟨h1, hc w' _ h2⟩
def TabMade (g : World) (n : Int) (L : List Win) (R : HP) (e : Ending) (w' : World) : Prop := ∃ pc, e = .returned (.pointer (some ⟨pc, 0, none⟩)) ∧ Sat g w' (tabP pc n L * R)
theorem s_copy (pt : Nat) (n : Int) (L : List Win) (g w : World) (R : HP) (h : Sat g w (tabP pt n L * R)) :
    Calls Tryd.prog 22 #[.pointer (some ⟨pt, 0, none⟩)] w (TabMade g n L (tabP pt n L * R)) := by
  obtain ⟨v, S, hi, ok, hc⟩ := h.tab
  exact (slots_copy pt v n S L w hi ok.len).mono fun e w' ⟨pc, v', h1, h2, h3, h4, h5⟩ => ⟨pc, h1, h.tab_new h3 h2 ok h4 h5⟩
def TabNew (g : World) (n : Int) (R : HP) (e : Ending) (w' : World) : Prop := ∃ pc, e = .returned (.tuple #[.pointer (some ⟨pc, 0, none⟩), .int .i64 0]) ∧ Sat g w' (tabP pc n [] * R)
theorem s_slotsnew (n : Int) (g w : World) (R : HP) (h : Sat g w R) (h1 : 1 ≤ n) (h2 : n ≤ 256) : Calls Tryd.prog 9 #[.int .i64 n] w (TabNew g n R) :=
  (slots_new_yes n w h1 h2).mono fun e w' ⟨e1, ht, hb⟩ => ⟨_, e1, h.tab_new hb ht (tabOk_new h1 h2) (Nat.le_refl _) (fun k hk => by cases hk)⟩
theorem Sat.tabOk {g w : World} {pt : Nat} {n : Int} {L : List Win} {R : HP} (h : Sat g w (tabP pt n L * R)) : ∃ S, TabOk n S L := by
  obtain ⟨v, S, _, ok, _⟩ := h.tab
  exact ⟨S, ok⟩

end Go.Proofs.YtjacbcephokbbaaDoor
