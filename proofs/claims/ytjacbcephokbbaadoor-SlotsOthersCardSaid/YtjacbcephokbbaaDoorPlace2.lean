/- What Place of package slots returns and writes where its window may be: by walks over its text. -/
import Derived.Test.YtjacbcephokbbaaDoorPlace
namespace Go.Proofs.YtjacbcephokbbaaDoor
set_option linter.unusedSimpArgs false
set_option linter.unusedVariables false
set_option maxRecDepth 100000
open Go.RowKit
set_option maxHeartbeats 4000000

theorem has_occ {n : Int} {S : Nat → Bool} {L : List Win} (h : TabOk n S L) (t : Int) (h0 : 0 ≤ t) (h1 : t < 256) : hasS S t = occ L t := by
  unfold hasS
  have e : ((t.toNat : Nat) : Int) = t := by omega
  rw [h.oc t.toNat (by omega), e]
  simp; omega

theorem place_gap (pt : Nat) (v : Value) (n : Int) (S : Nat → Bool) (L : List Win) (p f : Int) (m : Nat) (w : World) (h : TabIn w pt v n S L) (ok : TabOk n S L) (hp : placeOk n p f m = true) (hf : freeB L f m = false) :
    Calls Tryd.prog 10 #[.pointer (some ⟨pt, 0, none⟩), .int .i64 p, .int .i64 f, .int .i64 m] w fun e w' => e = .returned (.int .i64 8) ∧ w = w' := by
  obtain ⟨⟨p0, p1⟩, m1, m2, f0, f1⟩ := placeOk_iff.1 hp
  have hn2 := ok.n2
  have c0 := h.c0
  have hm : (decide (0 ≤ p) && decide (p < 8)) = true := by simp [p0, p1]
  have HM := Lib.hid hm
  have hbm := h.bm
  have hoc := fun (t : Int) (a : 0 ≤ t) (b : t < 256) => has_occ ok t a b
  have HO := Lib.hid hoc
  have HF := Lib.hid hf
  clear hm hoc hf hp h ok
  go_enter Tryd.func10, Tryd.ntmps10
  go_wp2_with (go_at_call 25; refine (may_any _ _).mono ?_; rintro e w' ⟨rfl, rfl⟩; rw [HM.out])
  go_loop [41] (fun i => ∃ k : Nat, k ≤ m ∧ i = .int .i64 k ∧ Hid (∀ j, j < k → occ L (f + (j : Nat)) = false)) (fun i => m - (intOf i).toNat)
  case atStart => exact ⟨0, by omega, rfl, Lib.hid (fun j hj => by omega)⟩
  case round =>
    obtain ⟨k, hk, rfl, HK⟩ := hrel
    by_cases hlt : k < m
    · have hcall : Calls Tryd.prog 26 #[.pointer (some ⟨pt, 1, none⟩), .int .i64 (f + k)] w fun e w' => e = .returned (.bool (occ L (f + (k : Nat)))) ∧ w = w' := by
        rw [← HO.out (f + k) (by omega) (by omega)]
        exact bm_has pt 1 S (f + k) w hbm
      have hki : (k : Int) < m := by omega
      cases ho : occ L (f + (k : Nat))
      · rw [ho] at hcall
        have HN : Hid (∀ j, j < k + 1 → occ L (f + (j : Nat)) = false) := Lib.hid fun j hj => by
          by_cases e : j = k
          · rw [e]; exact ho
          · exact HK.out j (by omega)
        have HC := Lib.hid hcall
        clear hcall ho
        go_wp2_with (fail)
        refine (HC.out).mono ?_
        rintro e w1 ⟨rfl, rfl⟩
        go_wp2_with (fail)
        go_round
        case rel => exact ⟨k + 1, by omega, by go_num, HN⟩
        case measure => simp [intOf]; omega
      · rw [ho] at hcall
        have HC := Lib.hid hcall
        clear hcall ho
        go_wp2_with (fail)
        refine (HC.out).mono ?_
        rintro e w1 ⟨rfl, rfl⟩
        go_wp2_with (fail)
        go_ret
        exact ⟨rfl, rfl⟩
    · obtain rfl : k = m := by omega
      exfalso
      have := (freeB_iff L f k).2 HK.out
      rw [HF.out] at this
      cases this

theorem setCell_other5 {w : World} {b i j : Nat} {v : Value} (hi : i ≠ j) : (w.setCell ⟨b, j, none⟩ v).cell? ⟨b, i, none⟩ = w.cell? ⟨b, i, none⟩ := by
  have : (⟨b, i, none⟩ : Addr) ≠ ⟨b, j, none⟩ := by simp [hi]
  simp [go_sem, hi, this]
/-- A block that is written behind: one of the table's, or a new one. -/
theorem Touch.trans6 {w w5 w6 : World} {pt g : Nat} {v : Value} (h : Touch (tabS pt v) w w5) (k : Touch (· = g) w5 w6) (hg : v.ownBlock = some g ∨ w.heap.size ≤ g) : Touch (tabS pt v) w w6 :=
  ⟨k.os.trans h.os, k.tape.trans h.tape, k.output.trans h.output, Nat.le_trans h.size k.size, fun i hi hs => (k.block i (Nat.lt_of_lt_of_le hi h.size) (fun e => by
    rcases hg with hg | hg
    · exact hs (Or.inr (by rw [e]; exact hg))
    · omega)).trans (h.block i hi hs)⟩
/-- A window more behind the table's windows. -/
def PlaceCut (w2 : World) (pt : Nat) (v : Value) (L : List Win) (x : Win) (wx : World) : Prop := ∃ g cap, wx.cell? ⟨pt, 5, none⟩ = some (.slice (some ⟨g, 0, none⟩) (L.length + 1) cap) ∧ wx.frozen? ⟨pt, 5, none⟩ = false ∧
  wx.ownsRow 0 58 3 (.slice (some ⟨g, 0, none⟩) (L.length + 1) cap) (L.length + 1) (winCells (L ++ [x])) ∧ (v.ownBlock = some g ∨ w2.heap.size ≤ g) ∧ ¬ g = pt ∧
  (∀ j, j ≠ 5 → wx.cell? ⟨pt, j, none⟩ = w2.cell? ⟨pt, j, none⟩ ∧ wx.frozen? ⟨pt, j, none⟩ = w2.frozen? ⟨pt, j, none⟩) ∧ Touch (tabS pt v) w2 wx
theorem place_yes (pt : Nat) (v : Value) (n : Int) (S : Nat → Bool) (L : List Win) (p f : Int) (m : Nat) (w : World) (h : TabIn w pt v n S L) (ok : TabOk n S L) (hp : placeOk n p f m = true) (hf : freeB L f m = true) :
    Calls Tryd.prog 10 #[.pointer (some ⟨pt, 0, none⟩), .int .i64 p, .int .i64 f, .int .i64 m] w fun e w' => e = .returned (.int .i64 0) ∧ TabPost w pt v n (insW ⟨p, f, m⟩ L) w' := by
  obtain ⟨i0, hi, hz0, hz1, hz2⟩ := info_parts infoWin
  obtain ⟨⟨p0, p1⟩, m1, m2, f0, f1⟩ := placeOk_iff.1 hp
  have hn2 := ok.n2
  have hlen := ok.len
  have c0 := h.c0
  have hpt := h.lt
  have hm : (decide (0 ≤ p) && decide (p < 8)) = true := by simp [p0, p1]
  have HM := Lib.hid hm
  have hbm := h.bm
  have hoc := fun (t : Int) (a : 0 ≤ t) (b : t < 256) => has_occ ok t a b
  have HO := Lib.hid hoc
  have hok' := ok.place hp (by rw [Int.toNat_natCast]; exact hf)
  have hxf : ∀ y ∈ L, y.f ≠ f := fun y hy e => by
    have hl := (ok.bd y hy).2.2.1
    have := free_apart hf (by omega) hy hl
    omega
  have HOK := Lib.hid hok'
  have HXF := Lib.hid hxf
  have HRI := Lib.hid ok.rising
  have HT := Lib.hid h
  have HF := Lib.hid hf
  clear hm hoc hf hp hok' hxf ok h
  go_enter Tryd.func10, Tryd.ntmps10
  go_wp2_with (go_at_call 25; refine (may_any _ _).mono ?_; rintro e w' ⟨rfl, rfl⟩; rw [HM.out])
  go_loop [41] (fun i => ∃ k : Nat, k ≤ m ∧ i = .int .i64 k) (fun i => m - (intOf i).toNat)
  case atStart => exact ⟨0, by omega, rfl⟩
  case round =>
    obtain ⟨k, hk, rfl⟩ := hrel
    by_cases hlt : k < m
    · have hcall : Calls Tryd.prog 26 #[.pointer (some ⟨pt, 1, none⟩), .int .i64 (f + k)] w fun e w' => e = .returned (.bool false) ∧ w = w' := by
        rw [← (freeB_iff L f m).1 HF.out k hlt, ← HO.out (f + k) (by omega) (by omega)]
        exact bm_has pt 1 S (f + k) w hbm
      have hki : (k : Int) < m := by omega
      have HC := Lib.hid hcall
      clear hcall
      go_wp2_with (fail)
      refine (HC.out).mono ?_
      rintro e w1 ⟨rfl, rfl⟩
      go_wp2_with (fail)
      go_round
      case rel => exact ⟨k + 1, by omega, by go_num⟩
      case measure => simp [intOf]; omega
    · obtain rfl : k = m := by omega
      have hne : ¬ pt = w.heap.size := by omega
      have hne' : ¬ w.heap.size = pt := by omega
      obtain ⟨w1, hw1⟩ : ∃ w1, w1 = w.alloc (.cells #[.int .i64 p, .int .i64 f, .int .i64 k] 58) := ⟨_, rfl⟩
      have b1 : Below w.heap.size w w1 := by rw [hw1]; repeat (first | with_reducible exact Below.refl _ _ | with_reducible assumption | with_reducible refine below_drewN ?_ _ | with_reducible refine Below.alloc ?_ (by simp <;> omega) _)
      have x0 : w1.cell? ⟨w.heap.size, 0, none⟩ = some (.int .i64 p) := by rw [hw1]; simp [go_sem]
      have x1 : w1.cell? ⟨w.heap.size, 1, none⟩ = some (.int .i64 f) := by rw [hw1]; simp [go_sem]
      have x2 : w1.cell? ⟨w.heap.size, 2, none⟩ = some (.int .i64 k) := by rw [hw1]; simp [go_sem]
      have bl : w.heap.size < w1.heap.size := by rw [hw1]; simp
      have h1 := HT.out.below b1
      have hmark := slots_mark pt S ⟨p, f, k⟩ true w1 h1.bm h1.lt f0 (by show (0 : Int) ≤ k; omega) (by show f + (k : Int) ≤ 256; omega)
      have HMK := Lib.hid hmark
      clear hmark
      go_wp2_with (fail)
      rw [← hw1]
      clear hw1
      refine (HMK.out).mono ?_
      rintro e w2 ⟨rfl, hB2, hO2, hT2⟩
      have hv := HT.out.ne
      have hvpt : ∀ g, v.ownBlock = some g → g ≠ pt := fun g hg e => hv (by rw [hg, e])
      have h2c5 : w2.cell? ⟨pt, 5, none⟩ = some v := (hO2 5 (by omega)).1.trans h1.c5
      have h2f5 : w2.frozen? ⟨pt, 5, none⟩ = false := (hO2 5 (by omega)).2.trans h1.f5
      have h2c0 : w2.cell? ⟨pt, 0, none⟩ = some (.int .i64 n) := (hO2 0 (by omega)).1.trans h1.c0
      have h2row : w2.ownsRow 0 58 3 v L.length (winCells L) := own_heap h1.row (fun g hg => hT2.block g (own_lt h1.row hg) (hvpt g hg))
      have y0 := keepT hT2 bl hne' x0
      have y1 := keepT hT2 bl hne' x1
      have y2 := keepT hT2 bl hne' x2
      have bl2 : w.heap.size < w2.heap.size := Nat.lt_of_lt_of_le bl hT2.size
      have hpt2 : pt < w2.heap.size := by omega
      have hvl : ∀ g, v.ownBlock = some g → g < w.heap.size := fun g hg => own_lt HT.out.row hg
      clear x0 x1 x2 h1 HMK
      go_wp2_with (fail)
      have hG : ∀ w3 w4, Below w2.heap.size w2 w3 → w3.grownBy w4 v.ownBlock → w4.cell? ⟨pt, 5, none⟩ = some v := fun w3 w4 hb hg => by
        have ht : Touch (fun j => v.ownBlock = some j) w3 w4 := Touch.grown (Touch.refl _ _) hg (fun j hj => Or.inl hj)
        have l3 := hb.size
        exact keepT ht (by omega) hv (keep hb hpt2 h2c5)
      have hne2 : ¬ pt = w2.heap.size := by omega
      have hGf : ∀ w3 w4, Below w2.heap.size w2 w3 → w3.grownBy w4 v.ownBlock → w4.frozen? ⟨pt, 5, none⟩ = false ∧ Touch (fun j => v.ownBlock = some j) w2 w4 := fun w3 w4 hb hg => by
        have ht : Touch (fun j => v.ownBlock = some j) w2 w4 := Touch.grown (Touch.of_below hb) hg (fun j hj => Or.inl hj)
        exact ⟨(frozen_of_heap (ht.block pt hpt2 hv) 5).trans h2f5, ht⟩
      go_cut [] (fun wx => PlaceCut w2 pt v L ⟨p, f, k⟩ wx)
      case first =>
        go_region_law
          ((refine step_append_lies _ (by rfl) _ _ _ (by rfl) 0 58 i0 (.agg #[.int .i64 0, .int .i64 0, .int .i64 0]) 3 24 Tryd.underlying54 hi hz0 hz1 hz2 rfl (by omega) v L.length (winCells L) (by rfl) ((h2row.alloc _).drew)
              ⟨w2.heap.size, 0, none⟩ 1 1 [.int .i64 p, .int .i64 f, .int .i64 k] (by rfl) (by rfl) (World.news_of_block (cs := #[.int .i64 p, .int .i64 f, .int .i64 k]) (t := 58) (fr := (0, 0)) (heap_alloc_new w2 _)) (by simp [Value.oneCell'])
              (by omega) (by unfold maxLen; omega) (by omega) (by simp) (w2.heap.size + 1) (by simp) ?_; intro g cap w4 hown4 hgrow hat hlt4; obtain ⟨f4, T4⟩ := hGf _ _ (Below.drew (Below.alloc (Below.refl _ _) (Nat.le_refl _) _)) hgrow; have hcc5 := hG _ _ (Below.drew (Below.alloc (Below.refl _ _) (Nat.le_refl _) _)) hgrow; have hgpt : ¬ g = pt := (fun e => by rcases hat with h | h; exact hvpt g h e; omega); have hgpt' : ¬ pt = g := fun e => hgpt e.symm))
        all_goals
          go_wp2_with (fail)
          go_meet
          refine ⟨g, cap, by simp [go_sem, hcc5], by simp [go_sem, f4], ?_, by rcases hat with h | h; exact Or.inl h; exact Or.inr (by omega), hgpt, fun j hj => ⟨?_, ?_⟩, ?_⟩
          · rw [winCells_snoc]
            exact own_heap hown4 (fun g' hg' => by
              have e : g' = g := by simpa [Value.ownBlock] using hg'.symm
              subst e
              exact Below.heap_setCell _ _ _ _ hgpt)
          · rw [setCell_other5 hj]; exact cell_of_heap (T4.block pt hpt2 hv) j
          · rw [show (w4.setCell ⟨pt, 5, none⟩ (.slice (some ⟨g, 0, none⟩) (L.length + 1) cap)).frozen? ⟨pt, j, none⟩ = w4.frozen? ⟨pt, j, none⟩ by simp [go_sem]]; exact frozen_of_heap (T4.block pt hpt2 hv) j
          · exact Touch.setCell (S := tabS pt v) (T4.mono (fun j _ hj => Or.inr hj)) (Or.inl (Or.inl rfl)) _
      case rest =>
        obtain ⟨g, cap, q5, qf, hown5, hgl2, hgpt, hoth, T25⟩ := hcut
        have hgpt' : ¬ pt = g := fun e => hgpt e.symm
        have T5 : Touch (tabS pt v) w wc := (((Touch.of_below b1).trans (hT2.mono (fun j _ hj => Or.inl hj))).trans T25)
        have q0 : wc.cell? ⟨pt, 0, none⟩ = some (.int .i64 n) := (hoth 0 (by omega)).1.trans h2c0
        have qb : BmIn wc pt 1 (markS S ⟨p, f, k⟩ true (k : Int).toNat) := ⟨fun j hj => (hoth _ (by omega)).1.trans (hB2.cell j hj), fun j hj => (hoth _ (by omega)).2.trans (hB2.free j hj)⟩
        have hl5 : pt < wc.heap.size := by have := T25.size; omega
        have hgl : v.ownBlock = some g ∨ w.heap.size ≤ g := by
          rcases hgl2 with h | h
          · exact Or.inl h
          · exact Or.inr (by omega)
        clear hG hGf hgl2 hoth
        go_wp2_with (fail)
        refine (sort_any 0 58 g (L.length + 1) cap (L ++ [⟨p, f, k⟩]) _ hown5 (by simp) (by omega)).mono ?_
        rintro e w6 ⟨rfl, M, hpm, hso, hown6, hT6⟩
        have hM : M = insW ⟨p, f, k⟩ L := sorted_ins HRI.out (fun y hy => HXF.out y hy) hpm hso
        subst hM
        have hl6 : L.length + 1 = (insW ⟨p, f, k⟩ L).length := by rw [(insW_perm _ L).length_eq]; rfl
        have e6 := hT6.block pt hl5 hgpt'
        go_wp2_with (fail)
        go_ret
        refine ⟨rfl, .slice (some ⟨g, 0, none⟩) (L.length + 1) cap, _, ⟨(cell_of_heap e6 _).trans q0, qb.heap e6, (cell_of_heap e6 _).trans q5, (frozen_of_heap e6 _).trans qf, by rw [← hl6]; exact hown6, fun h => hgpt (by simpa [Value.ownBlock] using h), heap_lt' e6 hl5⟩, HOK.out, T5.trans6 hT6 hgl, fun j hj => ?_⟩
        have e : j = g := by simpa [Value.ownBlock] using hj.symm
        rw [e]; exact hgl

end Go.Proofs.YtjacbcephokbbaaDoor
