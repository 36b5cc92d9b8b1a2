/- Part 7 of the proofs: Ref07. -/
import Derived.Test.YteehghjdifbjbaaQ4
import Derived.Test.YteehghjdifbjbaaQ6
namespace Go.Proofs.Yteehghjdifbjbaa
set_option linter.unusedSimpArgs false
set_option linter.unusedVariables false
set_option maxRecDepth 100000
open Go.RowKit
set_option maxHeartbeats 4000000

theorem r07_put_in (pm bk n : Nat) (W : Nat → Int) (f p : Int) (v wr tb : Bool) (fr : Int) (w : World) (hm : RefIn w pm bk n W) (h : inT n f p) (hr : rightB v wr tb fr = true) :
    Calls Try.prog 11 #[.pointer (some ⟨pm, 0, none⟩), .int .i64 f, .int .i64 p, .agg #[.bool v, .bool wr, .bool tb, .int .i64 fr]] w fun e w' => e = .returned (.int .i64 0) ∧ RefIn w' pm bk n (setW W (16 * f + p).toNat (wordI v wr tb fr)) ∧ Touch (· = bk) w w' := by
  obtain ⟨⟨f0, f1⟩, ⟨p0, p1⟩⟩ := h
  have hn := hm.n2
  have hE : wE v wr tb fr = 0 := by simp [wE, hr]
  have hI : wI v wr tb fr = wordI v wr tb fr := by simp [wI, hr]
  obtain ⟨b0, b1⟩ := word_bd v wr tb fr hr
  have HE := Lib.hid hE; have HI := Lib.hid hI
  clear hE hI
  go_enter Try.func11, Try.ntmps11
  go_wp2_with (fail)
  refine (r06_word _ _ _ _ _).mono ?_
  rintro e w1 ⟨rfl, hb⟩
  rw [HE.out, HI.out]
  have k1 : Below w.heap.size w w1 := ((Below.refl _ _).alloc (Nat.le_refl _) _).trans (hb.mono (by simp))
  have hm1 := hm.below k1
  have hp := hm1.ptr
  have hc := hm1.cell (16 * f + p).toNat (by omega)
  have hf := hm1.free (16 * f + p).toNat (by omega)
  have hs := hm1.store (16 * f + p).toNat (by omega) (wordI v wr tb fr) b0 (by omega)
  go_wp2_with (fail)
  refine (r02_has_yes pm bk n W _ _ hm1 f0 f1).mono ?_
  rintro e w2 ⟨rfl, rfl⟩
  go_wp2_with (fail)
  go_ret
  exact ⟨rfl, hs.1, (Touch.of_below k1).trans hs.2⟩

theorem r07_put_out (pm bk n : Nat) (W : Nat → Int) (f p : Int) (v wr tb : Bool) (fr : Int) (w : World) (hm : RefIn w pm bk n W) (h : ¬ (inT n f p ∧ rightB v wr tb fr = true)) :
    Calls Try.prog 11 #[.pointer (some ⟨pm, 0, none⟩), .int .i64 f, .int .i64 p, .agg #[.bool v, .bool wr, .bool tb, .int .i64 fr]] w fun e w' => e = .returned (.int .i64 1) ∧ Below w.heap.size w w' := by
  have hh : ¬ (0 ≤ f ∧ f < n) ∨ ((0 ≤ f ∧ f < n) ∧ p < 0) ∨ ((0 ≤ f ∧ f < n) ∧ ¬ p < 0 ∧ 15 < p) ∨ ((0 ≤ f ∧ f < n) ∧ ¬ p < 0 ∧ ¬ 15 < p ∧ rightB v wr tb fr = false) := by
    by_cases h1 : inT n f p
    · have h2 : ¬ rightB v wr tb fr = true := fun h2 => h ⟨h1, h2⟩
      unfold inT at h1
      right; right; right
      exact ⟨h1.1, by omega, by omega, by simpa using h2⟩
    · unfold inT at h1; omega
  clear h
  rcases hh with hf | ⟨hf, h1⟩ | ⟨hf, h1, h2⟩ | ⟨hf, h1, h2, hr⟩
  case inr.inr.inr =>
    have hE : wE v wr tb fr = 1 := by simp [wE, hr]
    have HE := Lib.hid hE
    clear hE
    go_enter Try.func11, Try.ntmps11
    go_wp2_with (fail)
    refine (r06_word _ _ _ _ _).mono ?_
    rintro e w1 ⟨rfl, hb⟩
    rw [HE.out]
    have k1 : Below w.heap.size w w1 := ((Below.refl _ _).alloc (Nat.le_refl _) _).trans (hb.mono (by simp))
    have hm1 := hm.below k1
    go_wp2_with (fail)
    refine (r02_has_yes pm bk n W _ _ hm1 hf.1 hf.2).mono ?_
    rintro e w2 ⟨rfl, rfl⟩
    go_wp2_with (fail)
    go_ret
    exact ⟨rfl, k1⟩
  all_goals
    go_enter Try.func11, Try.ntmps11
    go_wp2_with (fail)
    refine (r06_word _ _ _ _ _).mono ?_
    rintro e w1 ⟨rfl, hb⟩
    have k1 : Below w.heap.size w w1 := ((Below.refl _ _).alloc (Nat.le_refl _) _).trans (hb.mono (by simp))
    have hm1 := hm.below k1
    go_wp2_with (fail)
    first
      | (refine (r02_has_no pm bk n W _ _ hm1 hf).mono ?_; rintro e w2 ⟨rfl, rfl⟩)
      | (refine (r02_has_yes pm bk n W _ _ hm1 hf.1 hf.2).mono ?_; rintro e w2 ⟨rfl, rfl⟩)
    go_wp2_with (fail)
    go_ret
    exact ⟨rfl, k1⟩

theorem r07_get_in (pm bk n : Nat) (W : Nat → Int) (f p : Int) (w : World) (hm : RefIn w pm bk n W) (h : inT n f p) (E : Int) (hE : oE (W (16 * f + p).toNat) = E) (v wr tb : Bool) (fr : Int)
    (hv : oV (W (16 * f + p).toNat) = v) (hwr : oW (W (16 * f + p).toNat) = wr) (htb : oT (W (16 * f + p).toNat) = tb) (hfr : oF (W (16 * f + p).toNat) = fr) (hz : E ≠ 0 → v = false ∧ wr = false ∧ tb = false ∧ fr = 0) :
    Calls Try.prog 84 #[.pointer (some ⟨pm, 0, none⟩), .int .i64 f, .int .i64 p] w fun e w' => e = .returned (.tuple #[.agg #[.bool v, .bool wr, .bool tb, .int .i64 fr], .int .i64 (if E = 0 then 0 else 11)]) ∧ Below w.heap.size w w' := by
  obtain ⟨⟨f0, f1⟩, ⟨p0, p1⟩⟩ := h
  have hn := hm.n2
  have hlo := hm.lo (16 * f + p).toNat
  have hhi := hm.hi (16 * f + p).toNat
  have HE := Lib.hid hE; have HV := Lib.hid hv; have HW := Lib.hid hwr; have HT := Lib.hid htb; have HF := Lib.hid hfr
  clear hE hv hwr htb hfr
  have hm1 : RefIn (w.alloc (.cells #[.bool false, .bool false, .bool false, .int .i64 0] 34)) pm bk n W := hm.below ((Below.refl _ _).alloc (Nat.le_refl _) _)
  have hp := hm1.ptr
  have hc := hm1.cell (16 * f + p).toNat (by omega)
  go_enter Try.func84, Try.ntmps84
  go_wp2_with (fail)
  refine (r02_has_yes pm bk n W _ _ hm1 f0 f1).mono ?_
  rintro e w1 ⟨rfl, rfl⟩
  go_wp2_with (fail)
  refine (r06_of _ _ hlo (by omega)).mono ?_
  rintro e w1 ⟨rfl, hb⟩
  obtain ⟨⟨c0, c1, c2, c3⟩, ⟨d0, d1, d2, d3⟩, z1, k1⟩ := ret_ent rfl hb
  rw [HE.out, HV.out, HW.out, HT.out, HF.out]
  by_cases hE : E = 0
  · have hE' : (E != 0) = false := by simp [hE]
    have H0 := Lib.hid hE
    clear hE
    go_wp2_with (fail)
    refine bodyPost_ret (v := .tuple #[.agg #[.bool v, .bool wr, .bool tb, .int .i64 fr], .int .i64 0]) (by simp [results, Try.results84, go_sem, c0, c1, c2, c3, z1]) rfl ⟨by simp [H0.out], ?_⟩
    repeat (first | with_reducible exact k1 | with_reducible refine Below.setCell ?_ (by simp) _ | with_reducible refine Below.alloc ?_ (by have := k1.size; simp <;> omega) _)
  · have hE' : (E != 0) = true := by simp [hE]
    obtain ⟨rfl, rfl, rfl, rfl⟩ := hz hE
    have H0 := Lib.hid hE
    clear hE
    go_wp2_with (fail)
    refine bodyPost_ret (v := .tuple #[.agg #[.bool false, .bool false, .bool false, .int .i64 0], .int .i64 11]) (by simp [results, Try.results84, go_sem, c0, c1, c2, c3, z1]) rfl ⟨by simp [H0.out], ?_⟩
    repeat (first | with_reducible exact k1 | with_reducible refine Below.setCell ?_ (by simp) _ | with_reducible refine Below.alloc ?_ (by have := k1.size; simp <;> omega) _)

theorem r07_get_out (pm bk n : Nat) (W : Nat → Int) (f p : Int) (w : World) (hm : RefIn w pm bk n W) (h : ¬ inT n f p) :
    Calls Try.prog 84 #[.pointer (some ⟨pm, 0, none⟩), .int .i64 f, .int .i64 p] w fun e w' => e = .returned (.tuple #[.agg #[.bool false, .bool false, .bool false, .int .i64 0], .int .i64 1]) ∧ Below w.heap.size w w' := by
  have hm1 : RefIn (w.alloc (.cells #[.bool false, .bool false, .bool false, .int .i64 0] 34)) pm bk n W := hm.below ((Below.refl _ _).alloc (Nat.le_refl _) _)
  have hh : ¬ (0 ≤ f ∧ f < n) ∨ ((0 ≤ f ∧ f < n) ∧ p < 0) ∨ ((0 ≤ f ∧ f < n) ∧ ¬ p < 0 ∧ 15 < p) := by unfold inT at h; omega
  clear h
  rcases hh with hf | ⟨hf, h1⟩ | ⟨hf, h1, h2⟩
  all_goals
    go_enter Try.func84, Try.ntmps84
    go_wp2_with (fail)
    first
      | (refine (r02_has_no pm bk n W _ _ hm1 hf).mono ?_; rintro e w2 ⟨rfl, rfl⟩)
      | (refine (r02_has_yes pm bk n W _ _ hm1 hf.1 hf.2).mono ?_; rintro e w2 ⟨rfl, rfl⟩)
    go_wp2_with (fail)
    refine bodyPost_ret (v := .tuple #[.agg #[.bool false, .bool false, .bool false, .int .i64 0], .int .i64 1]) (by simp [results, Try.results84, go_sem]) rfl ⟨rfl, ?_⟩
    repeat (first | with_reducible exact Below.refl _ _ | with_reducible refine Below.setCell ?_ (by simp) _ | with_reducible refine Below.alloc ?_ (by simp <;> omega) _)

theorem r07_get (pm bk n : Nat) (W : Nat → Int) (f p : Int) (w : World) (hm : RefIn w pm bk n W) :
    Calls Try.prog 84 #[.pointer (some ⟨pm, 0, none⟩), .int .i64 f, .int .i64 p] w fun e w' => e = .returned (.tuple #[.agg #[.bool (gV W n f p), .bool (gW W n f p), .bool (gT W n f p), .int .i64 (gF W n f p)], .int .i64 (gE W n f p)]) ∧ Below w.heap.size w w' := by
  unfold gV gW gT gF gE
  by_cases h : inT n f p
  · simp only [h, decide_true, Bool.true_and, if_true]
    exact r07_get_in pm bk n W f p w hm h _ rfl _ _ _ _ rfl rfl rfl rfl (fun hE => by
      have ho : ofB (W (16 * f + p).toNat) = false := by
        cases hb : ofB (W (16 * f + p).toNat) with
        | false => rfl
        | true => exact absurd (by simp [oE, hb]) hE
      simp [oV, oW, oT, oF, ho])
  · simp only [h, decide_false, Bool.false_and, if_false]
    exact r07_get_out pm bk n W f p w hm h

theorem infoRStep : (Try.prog.info? 155).map (fun i => (i.zero, i.size, i.bytes)) = some (some (.agg #[.int .i64 0, .int .i64 0]), 2, 16) := by kernel_rfl

theorem r07_walk_in (pm bk n : Nat) (W : Nat → Int) (r p : Int) (w : World) (hm : RefIn w pm bk n W) (h0 : 0 ≤ r) (h1 : r < n) (h2 : 0 ≤ p) (h3 : p < 4096) (R : WRes) (hR : walkL W n p 3 r = R) :
    Calls Try.prog 60 #[.pointer (some ⟨pm, 0, none⟩), .int .i64 r, .int .i64 p] w fun e w' => ∃ v, e = .returned (.tuple #[.agg #[.bool R.v, .bool R.wr, .bool R.tb, .int .i64 R.fr], v, .int .i64 R.e]) ∧ w'.ownsRow (w.heap.size + 1) 155 2 v R.st.length (wCells R.st) ∧ Below w.heap.size w w' := by
  obtain ⟨i0, hi, hz0, hz1, hz2⟩ := info_parts infoRStep
  have hn2 := hm.n2
  have hRH := Lib.hid hR
  clear hR
  go_enter Try.func60, Try.ntmps60
  go_wp2_with (fail)
  refine (r02_has_yes pm bk n W _ _ (hm.below ((Below.refl _ _).alloc (Nat.le_refl _) _)) h0 h1).mono ?_
  rintro e w1 ⟨rfl, rfl⟩
  go_wp2_with (fail)
  go_loopw [9, 10, 11] (fun v fv i wr => ∃ (k : Nat) (f : Int) (d : List (Int × Int)), k ≤ 3 ∧ i = .int .i64 k ∧ fv = .int .i64 f ∧ d.length = k ∧ Hid (behind d (walkL W n p (3 - k) f) = R) ∧ wr.ownsRow (w.heap.size + 1) 155 2 v d.length (wCells d) ∧ Below (w.heap.size + 1) (w.alloc (.cells #[.bool false, .bool false, .bool false, .int .i64 0] 34)) wr) (fun _ _ i _ => 3 - (intOf i).toNat)
  case atStart => exact ⟨0, r, [], by omega, rfl, rfl, rfl, by rw [← hRH.out]; rfl, World.ownsRow_nil _ _ _ _, Below.refl _ _⟩
  case round =>
    obtain ⟨k, f, d, hk, rfl, rfl, hd, HR, hown, hb⟩ := hrel
    have hbs : w.heap.size < wr.heap.size := by have := hb.size; simp at this; omega
    have kb : Below w.heap.size w wr := ((Below.refl _ _).alloc (Nat.le_refl _) _).trans (hb.mono (by omega))
    have hmr := hm.below kb
    by_cases hlt : k < 3
    · obtain ⟨q0, q1⟩ := idx_bd p k h2 h3
      have hwl := wl_eq W n p k f hlt
      have HD := Lib.hid hd
      clear hd
      by_cases hE : gE W n f (idxI p k) = 0
      · have HE := Lib.hid hE
        rw [if_neg (by simp [hE])] at hwl
        clear hE
        cases hV : gV W n f (idxI p k)
        · rw [if_pos hV] at hwl
          have HR2 : Hid (behind d ⟨false, false, false, 0, [(f, idxI p k)], 10⟩ = R) := by rw [← hwl]; exact HR
          have HV := Lib.hid hV
          clear hwl hV HR
          go_wp2_with (fail)
          refine (r06_index _ _ _ (by omega) (by omega) (by omega) (by omega)).mono ?_
          rintro e w1 ⟨rfl, rfl⟩
          go_wp2_with (at_builtin; refine wpList_append_own _ rfl _ _ 115 rfl (w.heap.size + 1) 155 i0 (.agg #[.int .i64 0, .int .i64 0]) 2 16 Try.underlying115 hi hz0 hz1 hz2 rfl (by decide) _ _ _ rfl (hown.alloc _) ⟨wr.heap.size, 0, none⟩ 1 1 [.int .i64 f, .int .i64 (idxI p k)] rfl rfl (cell_two_new _ _ _ _) (fun x hx => by simp at hx; rcases hx with rfl | rfl <;> rfl) (by unfold maxLen; have := HD.out; omega) (by have := HD.out; omega) (by simp; omega) ?_; intro v' w3 hown' hgrow3 hnil3)
          have hb3 : Below (w.heap.size + 1) (w.alloc (.cells #[.bool false, .bool false, .bool false, .int .i64 0] 34)) w3 := Below.grown (hb.alloc (by omega) _) hgrow3 (by simp; omega) (fun j hj => (hown.lt _ hj).1)
          have hs3 : w.heap.size < w3.heap.size := by have := hb3.size; simp at this; omega
          have kb3 : Below w.heap.size w w3 := ((Below.refl _ _).alloc (Nat.le_refl _) _).trans (hb3.mono (by omega))
          have hm3 := hm.below kb3
          rw [← wCells_snoc] at hown'
          refine (r07_get pm bk n W _ _ _ hm3).mono ?_
          rintro e w4 ⟨rfl, hb4⟩
          have hb4' := hb3.trans (hb4.mono (by omega))
          have kb4 := kb3.trans (hb4.mono kb3.size)
          have c0 : w4.cell? ⟨w.heap.size, 0, none⟩ = some (.bool false) := keep hb4' (by omega) (by simp [go_sem])
          have c1 : w4.cell? ⟨w.heap.size, 1, none⟩ = some (.bool false) := keep hb4' (by omega) (by simp [go_sem])
          have c2 : w4.cell? ⟨w.heap.size, 2, none⟩ = some (.bool false) := keep hb4' (by omega) (by simp [go_sem])
          have c3 : w4.cell? ⟨w.heap.size, 3, none⟩ = some (.int .i64 0) := keep hb4' (by omega) (by simp [go_sem])
          have g0 : w4.frozen? ⟨w.heap.size, 0, none⟩ = false := keepF hb4' (by omega) (by simp [go_sem])
          have g1 : w4.frozen? ⟨w.heap.size, 1, none⟩ = false := keepF hb4' (by omega) (by simp [go_sem])
          have g2 : w4.frozen? ⟨w.heap.size, 2, none⟩ = false := keepF hb4' (by omega) (by simp [go_sem])
          have g3 : w4.frozen? ⟨w.heap.size, 3, none⟩ = false := keepF hb4' (by omega) (by simp [go_sem])
          have hs4 : w.heap.size < w4.heap.size := by have := hb4'.size; simp at this; omega
          have hw4 : w4.ownsRow (w.heap.size + 1) 155 2 v' (d.length + 1) (wCells (d ++ [(f, idxI p k)])) := own_below hown' hb4
          rw [HE.out, HV.out]
          go_wp2_with (fail)
          have hRe := HR2.out
          subst hRe
          refine bodyPost_ret (v := .tuple #[.agg #[.bool false, .bool false, .bool false, .int .i64 0], v', .int .i64 10]) (by simp [results, Try.results60, go_sem, c0, c1, c2, c3, hs4]) rfl ⟨v', by simp [behind], ?_, ?_⟩
          · simp only [behind, List.length_append, List.length_cons, List.length_nil]
            repeat (first | with_reducible exact hw4 | with_reducible refine ownsRow_setCell_below ?_ (by simp) _ | with_reducible refine World.ownsRow.alloc ?_ _)
          · repeat (first | with_reducible exact kb4 | with_reducible refine Below.setCell ?_ (by simp) _ | with_reducible refine Below.alloc ?_ (by have := kb4.size; simp <;> omega) _)
        · rw [if_neg (by simp [hV])] at hwl
          have HV := Lib.hid hV
          clear hV
          by_cases hT : gT W n f (idxI p k) = decide (k < 2)
          · rw [if_neg (by simp [hT])] at hwl
            by_cases hk2 : k = 2
            · have hT2 : gT W n f (idxI p k) = false := by rw [hT, hk2]; rfl
              rw [if_pos hk2] at hwl
              have HR2 : Hid (behind d ⟨true, gW W n f (idxI p k), false, gF W n f (idxI p k), [(f, idxI p k)], 0⟩ = R) := by rw [← hwl]; exact HR
              have HT := Lib.hid hT2
              have hk2' : ¬ k < 2 := by omega
              clear hwl hT hT2 HR hk2
              go_wp2_with (fail)
              refine (r06_index _ _ _ (by omega) (by omega) (by omega) (by omega)).mono ?_
              rintro e w1 ⟨rfl, rfl⟩
              go_wp2_with (at_builtin; refine wpList_append_own _ rfl _ _ 115 rfl (w.heap.size + 1) 155 i0 (.agg #[.int .i64 0, .int .i64 0]) 2 16 Try.underlying115 hi hz0 hz1 hz2 rfl (by decide) _ _ _ rfl (hown.alloc _) ⟨wr.heap.size, 0, none⟩ 1 1 [.int .i64 f, .int .i64 (idxI p k)] rfl rfl (cell_two_new _ _ _ _) (fun x hx => by simp at hx; rcases hx with rfl | rfl <;> rfl) (by unfold maxLen; have := HD.out; omega) (by have := HD.out; omega) (by simp; omega) ?_; intro v' w3 hown' hgrow3 hnil3)
              have hb3 : Below (w.heap.size + 1) (w.alloc (.cells #[.bool false, .bool false, .bool false, .int .i64 0] 34)) w3 := Below.grown (hb.alloc (by omega) _) hgrow3 (by simp; omega) (fun j hj => (hown.lt _ hj).1)
              have hs3 : w.heap.size < w3.heap.size := by have := hb3.size; simp at this; omega
              have kb3 : Below w.heap.size w w3 := ((Below.refl _ _).alloc (Nat.le_refl _) _).trans (hb3.mono (by omega))
              have hm3 := hm.below kb3
              rw [← wCells_snoc] at hown'
              refine (r07_get pm bk n W _ _ _ hm3).mono ?_
              rintro e w4 ⟨rfl, hb4⟩
              have hb4' := hb3.trans (hb4.mono (by omega))
              have kb4 := kb3.trans (hb4.mono kb3.size)
              have c0 : w4.cell? ⟨w.heap.size, 0, none⟩ = some (.bool false) := keep hb4' (by omega) (by simp [go_sem])
              have c1 : w4.cell? ⟨w.heap.size, 1, none⟩ = some (.bool false) := keep hb4' (by omega) (by simp [go_sem])
              have c2 : w4.cell? ⟨w.heap.size, 2, none⟩ = some (.bool false) := keep hb4' (by omega) (by simp [go_sem])
              have c3 : w4.cell? ⟨w.heap.size, 3, none⟩ = some (.int .i64 0) := keep hb4' (by omega) (by simp [go_sem])
              have g0 : w4.frozen? ⟨w.heap.size, 0, none⟩ = false := keepF hb4' (by omega) (by simp [go_sem])
              have g1 : w4.frozen? ⟨w.heap.size, 1, none⟩ = false := keepF hb4' (by omega) (by simp [go_sem])
              have g2 : w4.frozen? ⟨w.heap.size, 2, none⟩ = false := keepF hb4' (by omega) (by simp [go_sem])
              have g3 : w4.frozen? ⟨w.heap.size, 3, none⟩ = false := keepF hb4' (by omega) (by simp [go_sem])
              have hs4 : w.heap.size < w4.heap.size := by have := hb4'.size; simp at this; omega
              have hw4 : w4.ownsRow (w.heap.size + 1) 155 2 v' (d.length + 1) (wCells (d ++ [(f, idxI p k)])) := own_below hown' hb4
              rw [HE.out, HV.out, HT.out]
              go_wp2_with (fail)
              have hRe := HR2.out
              subst hRe
              refine bodyPost_ret (v := .tuple #[.agg #[.bool true, .bool (gW W n f (idxI p k)), .bool false, .int .i64 (gF W n f (idxI p k))], v', .int .i64 0]) (by simp [results, Try.results60, go_sem, c0, c1, c2, c3, hs4]) rfl ⟨v', by simp [behind], ?_, ?_⟩
              · simp only [behind, List.length_append, List.length_cons, List.length_nil]
                repeat (first | with_reducible exact hw4 | with_reducible refine ownsRow_setCell_below ?_ (by simp) _ | with_reducible refine World.ownsRow.alloc ?_ _)
              · repeat (first | with_reducible exact kb4 | with_reducible refine Below.setCell ?_ (by simp) _ | with_reducible refine Below.alloc ?_ (by have := kb4.size; simp <;> omega) _)
            · have hk2' : k < 2 := by omega
              have hk2d : decide ((k : Int) < 2) = true := by simp; omega
              have hT2 : gT W n f (idxI p k) = true := by rw [hT]; simp [hk2']
              rw [if_neg hk2] at hwl
              have HR2 : Hid (behind (d ++ [(f, idxI p k)]) (walkL W n p (3 - (k + 1)) (gF W n f (idxI p k))) = R) := by
                show _ = _
                rw [← HR.out, hwl]
                simp [behind]
              have HT := Lib.hid hT2
              clear hwl hT hT2 HR hk2
              go_wp2_with (fail)
              refine (r06_index _ _ _ (by omega) (by omega) (by omega) (by omega)).mono ?_
              rintro e w1 ⟨rfl, rfl⟩
              go_wp2_with (at_builtin; refine wpList_append_own _ rfl _ _ 115 rfl (w.heap.size + 1) 155 i0 (.agg #[.int .i64 0, .int .i64 0]) 2 16 Try.underlying115 hi hz0 hz1 hz2 rfl (by decide) _ _ _ rfl (hown.alloc _) ⟨wr.heap.size, 0, none⟩ 1 1 [.int .i64 f, .int .i64 (idxI p k)] rfl rfl (cell_two_new _ _ _ _) (fun x hx => by simp at hx; rcases hx with rfl | rfl <;> rfl) (by unfold maxLen; have := HD.out; omega) (by have := HD.out; omega) (by simp; omega) ?_; intro v' w3 hown' hgrow3 hnil3)
              have hb3 : Below (w.heap.size + 1) (w.alloc (.cells #[.bool false, .bool false, .bool false, .int .i64 0] 34)) w3 := Below.grown (hb.alloc (by omega) _) hgrow3 (by simp; omega) (fun j hj => (hown.lt _ hj).1)
              have hs3 : w.heap.size < w3.heap.size := by have := hb3.size; simp at this; omega
              have kb3 : Below w.heap.size w w3 := ((Below.refl _ _).alloc (Nat.le_refl _) _).trans (hb3.mono (by omega))
              have hm3 := hm.below kb3
              rw [← wCells_snoc] at hown'
              refine (r07_get pm bk n W _ _ _ hm3).mono ?_
              rintro e w4 ⟨rfl, hb4⟩
              have hb4' := hb3.trans (hb4.mono (by omega))
              have kb4 := kb3.trans (hb4.mono kb3.size)
              have c0 : w4.cell? ⟨w.heap.size, 0, none⟩ = some (.bool false) := keep hb4' (by omega) (by simp [go_sem])
              have c1 : w4.cell? ⟨w.heap.size, 1, none⟩ = some (.bool false) := keep hb4' (by omega) (by simp [go_sem])
              have c2 : w4.cell? ⟨w.heap.size, 2, none⟩ = some (.bool false) := keep hb4' (by omega) (by simp [go_sem])
              have c3 : w4.cell? ⟨w.heap.size, 3, none⟩ = some (.int .i64 0) := keep hb4' (by omega) (by simp [go_sem])
              have g0 : w4.frozen? ⟨w.heap.size, 0, none⟩ = false := keepF hb4' (by omega) (by simp [go_sem])
              have g1 : w4.frozen? ⟨w.heap.size, 1, none⟩ = false := keepF hb4' (by omega) (by simp [go_sem])
              have g2 : w4.frozen? ⟨w.heap.size, 2, none⟩ = false := keepF hb4' (by omega) (by simp [go_sem])
              have g3 : w4.frozen? ⟨w.heap.size, 3, none⟩ = false := keepF hb4' (by omega) (by simp [go_sem])
              have hs4 : w.heap.size < w4.heap.size := by have := hb4'.size; simp at this; omega
              have hw4 : w4.ownsRow (w.heap.size + 1) 155 2 v' (d.length + 1) (wCells (d ++ [(f, idxI p k)])) := own_below hown' hb4
              rw [HE.out, HV.out, HT.out]
              go_wp2_with (fail)
              go_roundw
              case measure => simp [intOf]; omega
              refine ⟨k + 1, gF W n f (idxI p k), d ++ [(f, idxI p k)], by omega, by go_num, rfl, by simp [HD.out], HR2, ?_, ?_⟩
              · simp only [List.length_append, List.length_cons, List.length_nil]
                repeat (first | with_reducible exact hw4 | with_reducible refine ownsRow_setCell_below ?_ (by simp) _ | with_reducible refine World.ownsRow.alloc ?_ _)
              · repeat (first | with_reducible exact hb4' | with_reducible refine Below.alloc ?_ (by omega) _)
          · have hT3 : (gT W n f (idxI p k) != decide (k < 2)) = true := by simpa using hT
            rw [if_pos hT] at hwl
            have HR2 : Hid (behind d ⟨false, false, false, 0, [(f, idxI p k)], 11⟩ = R) := by rw [← hwl]; exact HR
            clear hwl hT HR
            by_cases hk2 : k < 2
            · have hT4 : gT W n f (idxI p k) = false := by simpa [hk2] using hT3
              have HT := Lib.hid hT4
              clear hT3 hT4
              go_wp2_with (fail)
              refine (r06_index _ _ _ (by omega) (by omega) (by omega) (by omega)).mono ?_
              rintro e w1 ⟨rfl, rfl⟩
              go_wp2_with (at_builtin; refine wpList_append_own _ rfl _ _ 115 rfl (w.heap.size + 1) 155 i0 (.agg #[.int .i64 0, .int .i64 0]) 2 16 Try.underlying115 hi hz0 hz1 hz2 rfl (by decide) _ _ _ rfl (hown.alloc _) ⟨wr.heap.size, 0, none⟩ 1 1 [.int .i64 f, .int .i64 (idxI p k)] rfl rfl (cell_two_new _ _ _ _) (fun x hx => by simp at hx; rcases hx with rfl | rfl <;> rfl) (by unfold maxLen; have := HD.out; omega) (by have := HD.out; omega) (by simp; omega) ?_; intro v' w3 hown' hgrow3 hnil3)
              have hb3 : Below (w.heap.size + 1) (w.alloc (.cells #[.bool false, .bool false, .bool false, .int .i64 0] 34)) w3 := Below.grown (hb.alloc (by omega) _) hgrow3 (by simp; omega) (fun j hj => (hown.lt _ hj).1)
              have hs3 : w.heap.size < w3.heap.size := by have := hb3.size; simp at this; omega
              have kb3 : Below w.heap.size w w3 := ((Below.refl _ _).alloc (Nat.le_refl _) _).trans (hb3.mono (by omega))
              have hm3 := hm.below kb3
              rw [← wCells_snoc] at hown'
              refine (r07_get pm bk n W _ _ _ hm3).mono ?_
              rintro e w4 ⟨rfl, hb4⟩
              have hb4' := hb3.trans (hb4.mono (by omega))
              have kb4 := kb3.trans (hb4.mono kb3.size)
              have c0 : w4.cell? ⟨w.heap.size, 0, none⟩ = some (.bool false) := keep hb4' (by omega) (by simp [go_sem])
              have c1 : w4.cell? ⟨w.heap.size, 1, none⟩ = some (.bool false) := keep hb4' (by omega) (by simp [go_sem])
              have c2 : w4.cell? ⟨w.heap.size, 2, none⟩ = some (.bool false) := keep hb4' (by omega) (by simp [go_sem])
              have c3 : w4.cell? ⟨w.heap.size, 3, none⟩ = some (.int .i64 0) := keep hb4' (by omega) (by simp [go_sem])
              have g0 : w4.frozen? ⟨w.heap.size, 0, none⟩ = false := keepF hb4' (by omega) (by simp [go_sem])
              have g1 : w4.frozen? ⟨w.heap.size, 1, none⟩ = false := keepF hb4' (by omega) (by simp [go_sem])
              have g2 : w4.frozen? ⟨w.heap.size, 2, none⟩ = false := keepF hb4' (by omega) (by simp [go_sem])
              have g3 : w4.frozen? ⟨w.heap.size, 3, none⟩ = false := keepF hb4' (by omega) (by simp [go_sem])
              have hs4 : w.heap.size < w4.heap.size := by have := hb4'.size; simp at this; omega
              have hw4 : w4.ownsRow (w.heap.size + 1) 155 2 v' (d.length + 1) (wCells (d ++ [(f, idxI p k)])) := own_below hown' hb4
              rw [HE.out, HV.out, HT.out]
              go_wp2_with (fail)
              have hRe := HR2.out
              subst hRe
              refine bodyPost_ret (v := .tuple #[.agg #[.bool false, .bool false, .bool false, .int .i64 0], v', .int .i64 11]) (by simp [results, Try.results60, go_sem, c0, c1, c2, c3, hs4]) rfl ⟨v', by simp [behind], ?_, ?_⟩
              · simp only [behind, List.length_append, List.length_cons, List.length_nil]
                repeat (first | with_reducible exact hw4 | with_reducible refine ownsRow_setCell_below ?_ (by simp) _ | with_reducible refine World.ownsRow.alloc ?_ _)
              · repeat (first | with_reducible exact kb4 | with_reducible refine Below.setCell ?_ (by simp) _ | with_reducible refine Below.alloc ?_ (by have := kb4.size; simp <;> omega) _)
            · have hT4 : gT W n f (idxI p k) = true := by simpa [hk2] using hT3
              have hk2d : decide ((k : Int) < 2) = false := by simp; omega
              have HT := Lib.hid hT4
              clear hT3 hT4
              go_wp2_with (fail)
              refine (r06_index _ _ _ (by omega) (by omega) (by omega) (by omega)).mono ?_
              rintro e w1 ⟨rfl, rfl⟩
              go_wp2_with (at_builtin; refine wpList_append_own _ rfl _ _ 115 rfl (w.heap.size + 1) 155 i0 (.agg #[.int .i64 0, .int .i64 0]) 2 16 Try.underlying115 hi hz0 hz1 hz2 rfl (by decide) _ _ _ rfl (hown.alloc _) ⟨wr.heap.size, 0, none⟩ 1 1 [.int .i64 f, .int .i64 (idxI p k)] rfl rfl (cell_two_new _ _ _ _) (fun x hx => by simp at hx; rcases hx with rfl | rfl <;> rfl) (by unfold maxLen; have := HD.out; omega) (by have := HD.out; omega) (by simp; omega) ?_; intro v' w3 hown' hgrow3 hnil3)
              have hb3 : Below (w.heap.size + 1) (w.alloc (.cells #[.bool false, .bool false, .bool false, .int .i64 0] 34)) w3 := Below.grown (hb.alloc (by omega) _) hgrow3 (by simp; omega) (fun j hj => (hown.lt _ hj).1)
              have hs3 : w.heap.size < w3.heap.size := by have := hb3.size; simp at this; omega
              have kb3 : Below w.heap.size w w3 := ((Below.refl _ _).alloc (Nat.le_refl _) _).trans (hb3.mono (by omega))
              have hm3 := hm.below kb3
              rw [← wCells_snoc] at hown'
              refine (r07_get pm bk n W _ _ _ hm3).mono ?_
              rintro e w4 ⟨rfl, hb4⟩
              have hb4' := hb3.trans (hb4.mono (by omega))
              have kb4 := kb3.trans (hb4.mono kb3.size)
              have c0 : w4.cell? ⟨w.heap.size, 0, none⟩ = some (.bool false) := keep hb4' (by omega) (by simp [go_sem])
              have c1 : w4.cell? ⟨w.heap.size, 1, none⟩ = some (.bool false) := keep hb4' (by omega) (by simp [go_sem])
              have c2 : w4.cell? ⟨w.heap.size, 2, none⟩ = some (.bool false) := keep hb4' (by omega) (by simp [go_sem])
              have c3 : w4.cell? ⟨w.heap.size, 3, none⟩ = some (.int .i64 0) := keep hb4' (by omega) (by simp [go_sem])
              have g0 : w4.frozen? ⟨w.heap.size, 0, none⟩ = false := keepF hb4' (by omega) (by simp [go_sem])
              have g1 : w4.frozen? ⟨w.heap.size, 1, none⟩ = false := keepF hb4' (by omega) (by simp [go_sem])
              have g2 : w4.frozen? ⟨w.heap.size, 2, none⟩ = false := keepF hb4' (by omega) (by simp [go_sem])
              have g3 : w4.frozen? ⟨w.heap.size, 3, none⟩ = false := keepF hb4' (by omega) (by simp [go_sem])
              have hs4 : w.heap.size < w4.heap.size := by have := hb4'.size; simp at this; omega
              have hw4 : w4.ownsRow (w.heap.size + 1) 155 2 v' (d.length + 1) (wCells (d ++ [(f, idxI p k)])) := own_below hown' hb4
              rw [HE.out, HV.out, HT.out]
              go_wp2_with (fail)
              have hRe := HR2.out
              subst hRe
              refine bodyPost_ret (v := .tuple #[.agg #[.bool false, .bool false, .bool false, .int .i64 0], v', .int .i64 11]) (by simp [results, Try.results60, go_sem, c0, c1, c2, c3, hs4]) rfl ⟨v', by simp [behind], ?_, ?_⟩
              · simp only [behind, List.length_append, List.length_cons, List.length_nil]
                repeat (first | with_reducible exact hw4 | with_reducible refine ownsRow_setCell_below ?_ (by simp) _ | with_reducible refine World.ownsRow.alloc ?_ _)
              · repeat (first | with_reducible exact kb4 | with_reducible refine Below.setCell ?_ (by simp) _ | with_reducible refine Below.alloc ?_ (by have := kb4.size; simp <;> omega) _)
      · have hE' : (gE W n f (idxI p k) != 0) = true := by simp [hE]
        rw [if_pos hE] at hwl
        have HR2 : Hid (behind d ⟨false, false, false, 0, [(f, idxI p k)], 11⟩ = R) := by rw [← hwl]; exact HR
        clear hwl hE HR
        go_wp2_with (fail)
        refine (r06_index _ _ _ (by omega) (by omega) (by omega) (by omega)).mono ?_
        rintro e w1 ⟨rfl, rfl⟩
        go_wp2_with (at_builtin; refine wpList_append_own _ rfl _ _ 115 rfl (w.heap.size + 1) 155 i0 (.agg #[.int .i64 0, .int .i64 0]) 2 16 Try.underlying115 hi hz0 hz1 hz2 rfl (by decide) _ _ _ rfl (hown.alloc _) ⟨wr.heap.size, 0, none⟩ 1 1 [.int .i64 f, .int .i64 (idxI p k)] rfl rfl (cell_two_new _ _ _ _) (fun x hx => by simp at hx; rcases hx with rfl | rfl <;> rfl) (by unfold maxLen; have := HD.out; omega) (by have := HD.out; omega) (by simp; omega) ?_; intro v' w3 hown' hgrow3 hnil3)
        have hb3 : Below (w.heap.size + 1) (w.alloc (.cells #[.bool false, .bool false, .bool false, .int .i64 0] 34)) w3 := Below.grown (hb.alloc (by omega) _) hgrow3 (by simp; omega) (fun j hj => (hown.lt _ hj).1)
        have hs3 : w.heap.size < w3.heap.size := by have := hb3.size; simp at this; omega
        have kb3 : Below w.heap.size w w3 := ((Below.refl _ _).alloc (Nat.le_refl _) _).trans (hb3.mono (by omega))
        have hm3 := hm.below kb3
        rw [← wCells_snoc] at hown'
        refine (r07_get pm bk n W _ _ _ hm3).mono ?_
        rintro e w4 ⟨rfl, hb4⟩
        have hb4' := hb3.trans (hb4.mono (by omega))
        have kb4 := kb3.trans (hb4.mono kb3.size)
        have c0 : w4.cell? ⟨w.heap.size, 0, none⟩ = some (.bool false) := keep hb4' (by omega) (by simp [go_sem])
        have c1 : w4.cell? ⟨w.heap.size, 1, none⟩ = some (.bool false) := keep hb4' (by omega) (by simp [go_sem])
        have c2 : w4.cell? ⟨w.heap.size, 2, none⟩ = some (.bool false) := keep hb4' (by omega) (by simp [go_sem])
        have c3 : w4.cell? ⟨w.heap.size, 3, none⟩ = some (.int .i64 0) := keep hb4' (by omega) (by simp [go_sem])
        have g0 : w4.frozen? ⟨w.heap.size, 0, none⟩ = false := keepF hb4' (by omega) (by simp [go_sem])
        have g1 : w4.frozen? ⟨w.heap.size, 1, none⟩ = false := keepF hb4' (by omega) (by simp [go_sem])
        have g2 : w4.frozen? ⟨w.heap.size, 2, none⟩ = false := keepF hb4' (by omega) (by simp [go_sem])
        have g3 : w4.frozen? ⟨w.heap.size, 3, none⟩ = false := keepF hb4' (by omega) (by simp [go_sem])
        have hs4 : w.heap.size < w4.heap.size := by have := hb4'.size; simp at this; omega
        have hw4 : w4.ownsRow (w.heap.size + 1) 155 2 v' (d.length + 1) (wCells (d ++ [(f, idxI p k)])) := own_below hown' hb4
        go_wp2_with (fail)
        have hRe := HR2.out
        subst hRe
        refine bodyPost_ret (v := .tuple #[.agg #[.bool false, .bool false, .bool false, .int .i64 0], v', .int .i64 11]) (by simp [results, Try.results60, go_sem, c0, c1, c2, c3, hs4]) rfl ⟨v', by simp [behind], ?_, ?_⟩
        · simp only [behind, List.length_append, List.length_cons, List.length_nil]
          repeat (first | with_reducible exact hw4 | with_reducible refine ownsRow_setCell_below ?_ (by simp) _ | with_reducible refine World.ownsRow.alloc ?_ _)
        · repeat (first | with_reducible exact kb4 | with_reducible refine Below.setCell ?_ (by simp) _ | with_reducible refine Below.alloc ?_ (by have := kb4.size; simp <;> omega) _)
    · have hk3 : k = 3 := by omega
      subst hk3
      have HR2 : Hid (behind d ⟨false, false, false, 0, [], 11⟩ = R) := HR
      clear HR
      have c0 : wr.cell? ⟨w.heap.size, 0, none⟩ = some (.bool false) := keep hb (by omega) (by simp [go_sem])
      have c1 : wr.cell? ⟨w.heap.size, 1, none⟩ = some (.bool false) := keep hb (by omega) (by simp [go_sem])
      have c2 : wr.cell? ⟨w.heap.size, 2, none⟩ = some (.bool false) := keep hb (by omega) (by simp [go_sem])
      have c3 : wr.cell? ⟨w.heap.size, 3, none⟩ = some (.int .i64 0) := keep hb (by omega) (by simp [go_sem])
      have g0 : wr.frozen? ⟨w.heap.size, 0, none⟩ = false := keepF hb (by omega) (by simp [go_sem])
      have g1 : wr.frozen? ⟨w.heap.size, 1, none⟩ = false := keepF hb (by omega) (by simp [go_sem])
      have g2 : wr.frozen? ⟨w.heap.size, 2, none⟩ = false := keepF hb (by omega) (by simp [go_sem])
      have g3 : wr.frozen? ⟨w.heap.size, 3, none⟩ = false := keepF hb (by omega) (by simp [go_sem])
      have HD := Lib.hid hd
      clear hd
      go_wp2_with (fail)
      have hRe := HR2.out
      subst hRe
      refine bodyPost_ret (v := .tuple #[.agg #[.bool false, .bool false, .bool false, .int .i64 0], u9, .int .i64 11]) (by simp [results, Try.results60, go_sem, c0, c1, c2, c3, hbs]) rfl ⟨u9, by simp [behind], ?_, ?_⟩
      · simp only [behind, List.append_nil]
        repeat (first | with_reducible exact hown | with_reducible refine ownsRow_setCell_below ?_ (by simp) _ | with_reducible refine World.ownsRow.alloc ?_ _)
      · repeat (first | with_reducible exact kb | with_reducible refine Below.setCell ?_ (by simp) _ | with_reducible refine Below.alloc ?_ (by have := kb.size; simp <;> omega) _)

theorem r07_walk_out (pm bk n : Nat) (W : Nat → Int) (r p : Int) (w : World) (hm : RefIn w pm bk n W) (h : ¬ ((0 ≤ r ∧ r < n) ∧ (0 ≤ p ∧ p < 4096))) :
    Calls Try.prog 60 #[.pointer (some ⟨pm, 0, none⟩), .int .i64 r, .int .i64 p] w fun e w' => e = .returned (.tuple #[.agg #[.bool false, .bool false, .bool false, .int .i64 0], .slice none 0 0, .int .i64 1]) ∧ Below w.heap.size w w' := by
  have hm1 : RefIn (w.alloc (.cells #[.bool false, .bool false, .bool false, .int .i64 0] 34)) pm bk n W := hm.below ((Below.refl _ _).alloc (Nat.le_refl _) _)
  have hh : ¬ (0 ≤ r ∧ r < n) ∨ ((0 ≤ r ∧ r < n) ∧ p < 0) ∨ ((0 ≤ r ∧ r < n) ∧ ¬ p < 0 ∧ 4095 < p) := by omega
  clear h
  rcases hh with hf | ⟨hf, h1⟩ | ⟨hf, h1, h2⟩
  all_goals
    go_enter Try.func60, Try.ntmps60
    go_wp2_with (fail)
    first
      | (refine (r02_has_no pm bk n W _ _ hm1 hf).mono ?_; rintro e w1 ⟨rfl, rfl⟩)
      | (refine (r02_has_yes pm bk n W _ _ hm1 hf.1 hf.2).mono ?_; rintro e w1 ⟨rfl, rfl⟩)
    go_wp2_with (fail)
    refine bodyPost_ret (v := .tuple #[.agg #[.bool false, .bool false, .bool false, .int .i64 0], .slice none 0 0, .int .i64 1]) (by simp [results, Try.results60, go_sem]) rfl ⟨rfl, ?_⟩
    repeat (first | with_reducible exact Below.refl _ _ | with_reducible refine Below.setCell ?_ (by simp) _ | with_reducible refine Below.alloc ?_ (by simp <;> omega) _)

theorem r07_walk (pm bk n : Nat) (W : Nat → Int) (r p : Int) (w : World) (hm : RefIn w pm bk n W) (R : WRes) (hR : walkM W n r p = R) :
    Calls Try.prog 60 #[.pointer (some ⟨pm, 0, none⟩), .int .i64 r, .int .i64 p] w fun e w' => ∃ v, e = .returned (.tuple #[.agg #[.bool R.v, .bool R.wr, .bool R.tb, .int .i64 R.fr], v, .int .i64 R.e]) ∧ w'.ownsRow (w.heap.size + 1) 155 2 v R.st.length (wCells R.st) ∧ Below w.heap.size w w' := by
  by_cases h : (0 ≤ r ∧ r < n) ∧ (0 ≤ p ∧ p < 4096)
  · rw [walkM, if_pos h] at hR
    exact r07_walk_in pm bk n W r p w hm h.1.1 h.1.2 h.2.1 h.2.2 R hR
  · rw [walkM, if_neg h] at hR
    subst hR
    refine (r07_walk_out pm bk n W r p w hm h).mono fun e w' ⟨he, hb⟩ => ⟨_, he, World.ownsRow_nil _ _ _ _, hb⟩

end Go.Proofs.Yteehghjdifbjbaa
