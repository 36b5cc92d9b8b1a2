/- Part 4 of the proofs: Walk2, Mmu, Mmu2. -/
import Derived.Test.YteehghjdifbjbaaQ3
import Derived.Test.YteehghjdifbjbaaQ1
import Derived.Test.YteehghjdifbjbaaQ2
namespace Go.Proofs.Yteehghjdifbjbaa
set_option linter.unusedSimpArgs false
set_option linter.unusedVariables false
set_option maxRecDepth 100000
open Go.RowKit
set_option maxHeartbeats 4000000

theorem word_zero (x : Int) : (oE x = 0 ∧ oV x = false) ↔ x = 0 := by
  constructor
  · rintro ⟨h1, h2⟩
    cases hb : ofB x with
    | false => simp [oE, hb] at h1
    | true =>
      obtain ⟨r1, r2⟩ := of_right x hb
      have hv : pV x = false := by simpa [oV, hb] using h2
      rw [hv] at r1 r2
      obtain ⟨a, b, c⟩ : pW x = false ∧ pT x = false ∧ pF x = 0 := by simpa [rightB, and_assoc] using r1
      rw [a, b, c] at r2
      rw [← r2]; simp [wordI, flagI]
  · rintro rfl; decide

theorem get_blank (W : Nat → Int) (n : Nat) (f p : Int) (h : inT n f p) : (gE W n f p = 0 ∧ gV W n f p = false) ↔ W (16 * f + p).toNat = 0 := by
  have hw := word_zero (W (16 * f + p).toNat)
  unfold gE gV
  rw [if_pos h]
  simp only [h, decide_true, Bool.true_and]
  by_cases h' : oE (W (16 * f + p).toNat) = 0
  · simp only [h', if_true, true_and] at hw ⊢; exact hw
  · simp only [h', if_false, false_and] at hw ⊢; simp at hw ⊢; exact hw

theorem blank_in (pm bk n : Nat) (W : Nat → Int) (f : Int) (w : World) (hm : MemIn w pm bk n W) (h0 : 0 ≤ f) (h1 : f < n) :
    Calls Try.prog 72 #[.pointer (some ⟨pm, 0, none⟩), .int .i64 f] w fun e w' => e = .returned (.bool (blankB W n f)) ∧ Below w.heap.size w w' := by
  have hB : Hid (blankB W n f = zerosB W (16 * f).toNat 16) := by show _ = _; simp [blankB, h0, h1]
  go_enter Try.func72, Try.ntmps72
  go_wp2_with (fail)
  refine (wk_has_yes pm bk n W _ _ hm h0 h1).mono ?_
  rintro e w1 ⟨rfl, rfl⟩
  go_wp2_with (fail)
  go_loopw [12] (fun i wr => ∃ k : Nat, k ≤ 16 ∧ i = .int .i64 k ∧ zerosB W (16 * f).toNat k = true ∧ Below w.heap.size w wr) (fun i _ => 16 - (intOf i).toNat)
  case atStart => exact ⟨0, by omega, rfl, by simp [zerosB], Below.refl _ _⟩
  case round =>
    obtain ⟨k, hk, rfl, hz, hb⟩ := hrel
    have hmr := hm.below hb
    have HZ := Lib.hid hz
    clear hz
    by_cases hlt : k < 16
    · have hin : inT n f k := ⟨⟨h0, h1⟩, by omega, by omega⟩
      have hg := get_blank W n f k hin
      have hkk : (16 * f + (k : Int)).toNat = (16 * f).toNat + k := by omega
      rw [hkk] at hg
      by_cases hx : W ((16 * f).toNat + k) = 0
      · obtain ⟨hE, hV⟩ := hg.2 hx
        have HN : Hid (zerosB W (16 * f).toNat (k + 1) = true) := by
          show _ = _
          rw [zerosB_iff]; intro i hi
          rcases Nat.lt_or_ge i k with h | h
          · exact (zerosB_iff _ _ _).1 HZ.out i h
          · rw [show i = k by omega]; exact hx
        have HE := Lib.hid hE; have HV := Lib.hid hV
        clear hE hV hg hx hkk
        go_wp2_with (fail)
        refine (get_any pm bk n W _ _ _ hmr).mono ?_
        rintro e w2 ⟨rfl, hb2⟩
        rw [HE.out, HV.out]
        go_wp2_with (fail)
        exact ⟨⟨k + 1, by omega, by go_num, HN.out, (hb.trans (hb2.mono hb.size)).alloc (by have := hb.size; have := hb2.size; omega) _⟩, by simp [intOf]; omega⟩
      · have hN : blankB W n f = false := by
          rw [hB.out]
          cases hz : zerosB W (16 * f).toNat 16 with
          | false => rfl
          | true => exact absurd ((zerosB_iff _ _ _).1 hz k hlt) hx
        have HN := Lib.hid hN
        have hne : ¬ (gE W n f k = 0 ∧ gV W n f k = false) := fun h => hx (hg.1 h)
        clear hN hx hkk hg
        by_cases hE : gE W n f k = 0
        · have hV : gV W n f k = true := by
            cases hv : gV W n f k with
            | true => rfl
            | false => exact absurd ⟨hE, hv⟩ hne
          have HE := Lib.hid hE; have HV := Lib.hid hV
          clear hE hV hne
          go_wp2_with (fail)
          refine (get_any pm bk n W _ _ _ hmr).mono ?_
          rintro e w2 ⟨rfl, hb2⟩
          rw [HE.out, HV.out]
          go_wp2_with (fail)
          go_ret
          exact ⟨by rw [HN.out]; rfl, (hb.trans (hb2.mono hb.size)).alloc (by have := hb.size; have := hb2.size; omega) _⟩
        · have hE' : (gE W n f k != 0) = true := by simp [hE]
          clear hE hne
          go_wp2_with (fail)
          refine (get_any pm bk n W _ _ _ hmr).mono ?_
          rintro e w2 ⟨rfl, hb2⟩
          go_wp2_with (fail)
          go_ret
          exact ⟨by rw [HN.out]; rfl, (hb.trans (hb2.mono hb.size)).alloc (by have := hb.size; have := hb2.size; omega) _⟩
    · have hk16 : k = 16 := by omega
      have hN : blankB W n f = true := by rw [hB.out, ← hk16]; exact HZ.out
      have HN := Lib.hid hN
      clear hN
      subst hk16
      go_wp2_with (fail)
      go_ret
      exact ⟨by rw [HN.out]; rfl, hb⟩

theorem blank_any (pm bk n : Nat) (W : Nat → Int) (f : Int) (w : World) (hm : MemIn w pm bk n W) :
    Calls Try.prog 72 #[.pointer (some ⟨pm, 0, none⟩), .int .i64 f] w fun e w' => e = .returned (.bool (blankB W n f)) ∧ Below w.heap.size w w' := by
  by_cases h : 0 ≤ f ∧ f < n
  · exact blank_in pm bk n W f w hm h.1 h.2
  · have hN := blank_false W n f h
    have HN := Lib.hid hN
    clear hN
    go_enter Try.func72, Try.ntmps72
    go_wp2_with (go_at_call 43; refine (wk_has_no pm bk n W _ _ hm h).mono ?_; rintro e w1 ⟨rfl, rfl⟩)
    go_ret
    exact ⟨by rw [HN.out]; rfl, Below.refl _ _⟩

/-- What a walk finds: the entry's parts, the steps, the error. -/
structure WRes where
  v : Bool
  wr : Bool
  tb : Bool
  fr : Int
  st : List (Int × Int)
  e : Int

/-- The walk from a frame on, k tables still to be looked at. -/
def walkL (W : Nat → Int) (n : Nat) (p : Int) : Nat → Int → WRes
  | 0, _ => ⟨false, false, false, 0, [], 11⟩
  | k + 1, f =>
    let q := idxI p (2 - (k : Int))
    if gE W n f q ≠ 0 then ⟨false, false, false, 0, [(f, q)], 11⟩
    else if gV W n f q = false then ⟨false, false, false, 0, [(f, q)], 10⟩
    else if gT W n f q ≠ decide (0 < k) then ⟨false, false, false, 0, [(f, q)], 11⟩
    else if k = 0 then ⟨true, gW W n f q, false, gF W n f q, [(f, q)], 0⟩
    else let r := walkL W n p k (gF W n f q); { r with st := (f, q) :: r.st }

def wCells (l : List (Int × Int)) : List Value := l.flatMap fun x => [.int .i64 x.1, .int .i64 x.2]
theorem wCells_snoc (l : List (Int × Int)) (f q : Int) : wCells (l ++ [(f, q)]) = wCells l ++ [.int .i64 f, .int .i64 q] := by simp [wCells]
theorem wCells_len (l : List (Int × Int)) : (wCells l).length = l.length * 2 := by
  induction l with
  | nil => rfl
  | cons x l ih => simp [wCells] at ih ⊢; omega

/-- The walk that is left, behind steps that were made. -/
def behind (d : List (Int × Int)) (r : WRes) : WRes := { r with st := d ++ r.st }

theorem infoStep : (Try.prog.info? 140).map (fun i => (i.zero, i.size, i.bytes)) = some (some (.agg #[.int .i64 0, .int .i64 0]), 2, 16) := by kernel_rfl

theorem idx_bd (p l : Int) (h0 : 0 ≤ p) (h1 : p < 4096) : 0 ≤ idxI p l ∧ idxI p l < 16 := by unfold idxI; split <;> (try split) <;> omega

theorem wl_eq (W : Nat → Int) (n : Nat) (p : Int) (k : Nat) (f : Int) (hk : k < 3) : walkL W n p (3 - k) f =
    if gE W n f (idxI p k) ≠ 0 then ⟨false, false, false, 0, [(f, idxI p k)], 11⟩
    else if gV W n f (idxI p k) = false then ⟨false, false, false, 0, [(f, idxI p k)], 10⟩
    else if gT W n f (idxI p k) ≠ decide (k < 2) then ⟨false, false, false, 0, [(f, idxI p k)], 11⟩
    else if k = 2 then ⟨true, gW W n f (idxI p k), false, gF W n f (idxI p k), [(f, idxI p k)], 0⟩
    else behind [(f, idxI p k)] (walkL W n p (3 - (k + 1)) (gF W n f (idxI p k))) := by
  obtain ⟨m, hm⟩ : ∃ m, m = 2 - k := ⟨_, rfl⟩
  have e1 : 3 - k = m + 1 := by omega
  have e2 : 3 - (k + 1) = m := by omega
  have e3 : (2 - (m : Int)) = (k : Int) := by omega
  have e4 : decide (0 < m) = decide (k < 2) := by rw [Bool.eq_iff_iff]; simp; omega
  have e5 : (m = 0) = (k = 2) := by apply propext; omega
  rw [e1, e2]
  simp only [walkL, e3, e4, e5]
  rfl

theorem own_below {w w' : World} {base e size n : Nat} {v : Value} {xs : List Value} (h : w.ownsRow base e size v n xs) (hb : Below w.heap.size w w') : w'.ownsRow base e size v n xs := by
  obtain ⟨h1, h2⟩ := h
  refine ⟨h1, ?_⟩
  rcases h2 with h2 | ⟨g, cap, cur, hv, hg, hh, r⟩
  · exact Or.inl h2
  · refine Or.inr ⟨g, cap, cur, hv, hg, ?_, r⟩
    rw [hb.block g (by rcases Nat.lt_or_ge g w.heap.size with h | h; exact h; rw [Array.getElem?_eq_none h] at hh; cases hh)]
    exact hh

theorem walk_in (pm bk n : Nat) (W : Nat → Int) (r p : Int) (w : World) (hm : MemIn w pm bk n W) (h0 : 0 ≤ r) (h1 : r < n) (h2 : 0 ≤ p) (h3 : p < 4096) (R : WRes) (hR : walkL W n p 3 r = R) :
    Calls Try.prog 66 #[.pointer (some ⟨pm, 0, none⟩), .int .i64 r, .int .i64 p] w fun e w' => ∃ v, e = .returned (.tuple #[.agg #[.bool R.v, .bool R.wr, .bool R.tb, .int .i64 R.fr], v, .int .i64 R.e]) ∧ w'.ownsRow (w.heap.size + 1) 140 2 v R.st.length (wCells R.st) ∧ Below w.heap.size w w' := by
  obtain ⟨i0, hi, hz0, hz1, hz2⟩ := info_parts infoStep
  have hn2 := hm.n2
  have hRH := Lib.hid hR
  clear hR
  go_enter Try.func66, Try.ntmps66
  go_wp2_with (fail)
  go_step3
  go_wp2_with (fail)
  refine (wk_has_yes pm bk n W _ _ (hm.below ((Below.refl _ _).alloc (Nat.le_refl _) _)) h0 h1).mono ?_
  rintro e w1 ⟨rfl, rfl⟩
  go_wp2_with (fail)
  go_step3
  go_wp2_with (fail)
  go_loopw [9, 10, 11, 31] (fun v fv b i wr => ∃ (k : Nat) (f : Int) (d : List (Int × Int)), k ≤ 3 ∧ i = .int .i64 k ∧ fv = .int .i64 f ∧ b = .int .i64 11 ∧ d.length = k ∧ Hid (behind d (walkL W n p (3 - k) f) = R) ∧ wr.ownsRow (w.heap.size + 1) 140 2 v d.length (wCells d) ∧ Below (w.heap.size + 1) (w.alloc (.cells #[.bool false, .bool false, .bool false, .int .i64 0] 34)) wr) (fun _ _ _ i _ => 3 - (intOf i).toNat)
  case atStart => exact ⟨0, r, [], by omega, rfl, rfl, rfl, rfl, by rw [← hRH.out]; rfl, World.ownsRow_nil _ _ _ _, Below.refl _ _⟩
  case round =>
    obtain ⟨k, f, d, hk, rfl, rfl, rfl, hd, HR, hown, hb⟩ := hrel
    have hbs : w.heap.size < wr.heap.size := by have := hb.size; simp at this; omega
    have kb : Below w.heap.size w wr := ((Below.refl _ _).alloc (Nat.le_refl _) _).trans (hb.mono (by omega))
    have hmr := hm.below kb
    by_cases hlt : k < 3
    · obtain ⟨q0, q1⟩ := idx_bd p k h2 h3
      have hwl := wl_eq W n p k f hlt
      have HD := Lib.hid hd
      clear hd
      by_cases hE : gE W n f (idxI p k) = 0
      · have HE := Lib.hid hE
        rw [if_neg (by simp [hE])] at hwl
        clear hE
        cases hV : gV W n f (idxI p k)
        · rw [if_pos hV] at hwl
          have HR2 : Hid (behind d ⟨false, false, false, 0, [(f, idxI p k)], 10⟩ = R) := by rw [← hwl]; exact HR
          have HV := Lib.hid hV
          clear hwl hV HR
          go_wp2_with (fail)
          refine (index_yes _ _ _ (by omega) (by omega) (by omega) (by omega)).mono ?_
          rintro e w1 ⟨rfl, rfl⟩
          go_wp2_with (at_builtin; refine wpList_append_own _ rfl _ _ 133 rfl (w.heap.size + 1) 140 i0 (.agg #[.int .i64 0, .int .i64 0]) 2 16 Try.underlying133 hi hz0 hz1 hz2 rfl (by decide) _ _ _ rfl (hown.alloc _) ⟨wr.heap.size, 0, none⟩ 1 1 [.int .i64 f, .int .i64 (idxI p k)] rfl rfl (cell_two_new _ _ _ _) (fun x hx => by simp at hx; rcases hx with rfl | rfl <;> rfl) (by unfold maxLen; have := HD.out; omega) (by have := HD.out; omega) (by simp; omega) ?_; intro v' w3 hown' hgrow3 hnil3)
          have hb3 : Below (w.heap.size + 1) (w.alloc (.cells #[.bool false, .bool false, .bool false, .int .i64 0] 34)) w3 := Below.grown (hb.alloc (by omega) _) hgrow3 (by simp; omega) (fun j hj => (hown.lt _ hj).1)
          have hs3 : w.heap.size < w3.heap.size := by have := hb3.size; simp at this; omega
          have kb3 : Below w.heap.size w w3 := ((Below.refl _ _).alloc (Nat.le_refl _) _).trans (hb3.mono (by omega))
          have hm3 := hm.below kb3
          rw [← wCells_snoc] at hown'
          refine (get_any pm bk n W _ _ _ hm3).mono ?_
          rintro e w4 ⟨rfl, hb4⟩
          have hb4' := hb3.trans (hb4.mono (by omega))
          have kb4 := kb3.trans (hb4.mono kb3.size)
          have c0 : w4.cell? ⟨w.heap.size, 0, none⟩ = some (.bool false) := keep hb4' (by omega) (by simp [go_sem])
          have c1 : w4.cell? ⟨w.heap.size, 1, none⟩ = some (.bool false) := keep hb4' (by omega) (by simp [go_sem])
          have c2 : w4.cell? ⟨w.heap.size, 2, none⟩ = some (.bool false) := keep hb4' (by omega) (by simp [go_sem])
          have c3 : w4.cell? ⟨w.heap.size, 3, none⟩ = some (.int .i64 0) := keep hb4' (by omega) (by simp [go_sem])
          have g0 : w4.frozen? ⟨w.heap.size, 0, none⟩ = false := keepF hb4' (by omega) (by simp [go_sem])
          have g1 : w4.frozen? ⟨w.heap.size, 1, none⟩ = false := keepF hb4' (by omega) (by simp [go_sem])
          have g2 : w4.frozen? ⟨w.heap.size, 2, none⟩ = false := keepF hb4' (by omega) (by simp [go_sem])
          have g3 : w4.frozen? ⟨w.heap.size, 3, none⟩ = false := keepF hb4' (by omega) (by simp [go_sem])
          have hs4 : w.heap.size < w4.heap.size := by have := hb4'.size; simp at this; omega
          have hw4 : w4.ownsRow (w.heap.size + 1) 140 2 v' (d.length + 1) (wCells (d ++ [(f, idxI p k)])) := own_below hown' hb4
          rw [HE.out, HV.out]
          go_wp2_with (fail)
          rw [Exit.noGoto_ret]
          have hRe := HR2.out
          subst hRe
          refine bodyPost_ret (v := .tuple #[.agg #[.bool false, .bool false, .bool false, .int .i64 0], v', .int .i64 10]) (by simp [results, Try.results66, go_sem, c0, c1, c2, c3, hs4]) rfl ⟨v', by simp [behind], ?_, ?_⟩
          · simp only [behind, List.length_append, List.length_cons, List.length_nil]
            repeat (first | with_reducible exact hw4 | with_reducible refine ownsRow_setCell_below ?_ (by simp) _ | with_reducible refine World.ownsRow.alloc ?_ _)
          · repeat (first | with_reducible exact kb4 | with_reducible refine Below.setCell ?_ (by simp) _ | with_reducible refine Below.alloc ?_ (by have := kb4.size; simp <;> omega) _)
        · rw [if_neg (by simp [hV])] at hwl
          have HV := Lib.hid hV
          clear hV
          by_cases hT : gT W n f (idxI p k) = decide (k < 2)
          · rw [if_neg (by simp [hT])] at hwl
            by_cases hk2 : k = 2
            · have hT2 : gT W n f (idxI p k) = false := by rw [hT, hk2]; rfl
              rw [if_pos hk2] at hwl
              have HR2 : Hid (behind d ⟨true, gW W n f (idxI p k), false, gF W n f (idxI p k), [(f, idxI p k)], 0⟩ = R) := by rw [← hwl]; exact HR
              have HT := Lib.hid hT2
              have hk2' : ¬ k < 2 := by omega
              clear hwl hT hT2 HR hk2
              go_wp2_with (fail)
              refine (index_yes _ _ _ (by omega) (by omega) (by omega) (by omega)).mono ?_
              rintro e w1 ⟨rfl, rfl⟩
              go_wp2_with (at_builtin; refine wpList_append_own _ rfl _ _ 133 rfl (w.heap.size + 1) 140 i0 (.agg #[.int .i64 0, .int .i64 0]) 2 16 Try.underlying133 hi hz0 hz1 hz2 rfl (by decide) _ _ _ rfl (hown.alloc _) ⟨wr.heap.size, 0, none⟩ 1 1 [.int .i64 f, .int .i64 (idxI p k)] rfl rfl (cell_two_new _ _ _ _) (fun x hx => by simp at hx; rcases hx with rfl | rfl <;> rfl) (by unfold maxLen; have := HD.out; omega) (by have := HD.out; omega) (by simp; omega) ?_; intro v' w3 hown' hgrow3 hnil3)
              have hb3 : Below (w.heap.size + 1) (w.alloc (.cells #[.bool false, .bool false, .bool false, .int .i64 0] 34)) w3 := Below.grown (hb.alloc (by omega) _) hgrow3 (by simp; omega) (fun j hj => (hown.lt _ hj).1)
              have hs3 : w.heap.size < w3.heap.size := by have := hb3.size; simp at this; omega
              have kb3 : Below w.heap.size w w3 := ((Below.refl _ _).alloc (Nat.le_refl _) _).trans (hb3.mono (by omega))
              have hm3 := hm.below kb3
              rw [← wCells_snoc] at hown'
              refine (get_any pm bk n W _ _ _ hm3).mono ?_
              rintro e w4 ⟨rfl, hb4⟩
              have hb4' := hb3.trans (hb4.mono (by omega))
              have kb4 := kb3.trans (hb4.mono kb3.size)
              have c0 : w4.cell? ⟨w.heap.size, 0, none⟩ = some (.bool false) := keep hb4' (by omega) (by simp [go_sem])
              have c1 : w4.cell? ⟨w.heap.size, 1, none⟩ = some (.bool false) := keep hb4' (by omega) (by simp [go_sem])
              have c2 : w4.cell? ⟨w.heap.size, 2, none⟩ = some (.bool false) := keep hb4' (by omega) (by simp [go_sem])
              have c3 : w4.cell? ⟨w.heap.size, 3, none⟩ = some (.int .i64 0) := keep hb4' (by omega) (by simp [go_sem])
              have g0 : w4.frozen? ⟨w.heap.size, 0, none⟩ = false := keepF hb4' (by omega) (by simp [go_sem])
              have g1 : w4.frozen? ⟨w.heap.size, 1, none⟩ = false := keepF hb4' (by omega) (by simp [go_sem])
              have g2 : w4.frozen? ⟨w.heap.size, 2, none⟩ = false := keepF hb4' (by omega) (by simp [go_sem])
              have g3 : w4.frozen? ⟨w.heap.size, 3, none⟩ = false := keepF hb4' (by omega) (by simp [go_sem])
              have hs4 : w.heap.size < w4.heap.size := by have := hb4'.size; simp at this; omega
              have hw4 : w4.ownsRow (w.heap.size + 1) 140 2 v' (d.length + 1) (wCells (d ++ [(f, idxI p k)])) := own_below hown' hb4
              rw [HE.out, HV.out, HT.out]
              go_wp2_with (fail)
              rw [Exit.noGoto_ret]
              have hRe := HR2.out
              subst hRe
              refine bodyPost_ret (v := .tuple #[.agg #[.bool true, .bool (gW W n f (idxI p k)), .bool false, .int .i64 (gF W n f (idxI p k))], v', .int .i64 0]) (by simp [results, Try.results66, go_sem, c0, c1, c2, c3, hs4]) rfl ⟨v', by simp [behind], ?_, ?_⟩
              · simp only [behind, List.length_append, List.length_cons, List.length_nil]
                repeat (first | with_reducible exact hw4 | with_reducible refine ownsRow_setCell_below ?_ (by simp) _ | with_reducible refine World.ownsRow.alloc ?_ _)
              · repeat (first | with_reducible exact kb4 | with_reducible refine Below.setCell ?_ (by simp) _ | with_reducible refine Below.alloc ?_ (by have := kb4.size; simp <;> omega) _)
            · have hk2' : k < 2 := by omega
              have hk2d : decide ((k : Int) < 2) = true := by simp; omega
              have hT2 : gT W n f (idxI p k) = true := by rw [hT]; simp [hk2']
              rw [if_neg hk2] at hwl
              have HR2 : Hid (behind (d ++ [(f, idxI p k)]) (walkL W n p (3 - (k + 1)) (gF W n f (idxI p k))) = R) := by
                show _ = _
                rw [← HR.out, hwl]
                simp [behind]
              have HT := Lib.hid hT2
              clear hwl hT hT2 HR hk2
              go_wp2_with (fail)
              refine (index_yes _ _ _ (by omega) (by omega) (by omega) (by omega)).mono ?_
              rintro e w1 ⟨rfl, rfl⟩
              go_wp2_with (at_builtin; refine wpList_append_own _ rfl _ _ 133 rfl (w.heap.size + 1) 140 i0 (.agg #[.int .i64 0, .int .i64 0]) 2 16 Try.underlying133 hi hz0 hz1 hz2 rfl (by decide) _ _ _ rfl (hown.alloc _) ⟨wr.heap.size, 0, none⟩ 1 1 [.int .i64 f, .int .i64 (idxI p k)] rfl rfl (cell_two_new _ _ _ _) (fun x hx => by simp at hx; rcases hx with rfl | rfl <;> rfl) (by unfold maxLen; have := HD.out; omega) (by have := HD.out; omega) (by simp; omega) ?_; intro v' w3 hown' hgrow3 hnil3)
              have hb3 : Below (w.heap.size + 1) (w.alloc (.cells #[.bool false, .bool false, .bool false, .int .i64 0] 34)) w3 := Below.grown (hb.alloc (by omega) _) hgrow3 (by simp; omega) (fun j hj => (hown.lt _ hj).1)
              have hs3 : w.heap.size < w3.heap.size := by have := hb3.size; simp at this; omega
              have kb3 : Below w.heap.size w w3 := ((Below.refl _ _).alloc (Nat.le_refl _) _).trans (hb3.mono (by omega))
              have hm3 := hm.below kb3
              rw [← wCells_snoc] at hown'
              refine (get_any pm bk n W _ _ _ hm3).mono ?_
              rintro e w4 ⟨rfl, hb4⟩
              have hb4' := hb3.trans (hb4.mono (by omega))
              have kb4 := kb3.trans (hb4.mono kb3.size)
              have c0 : w4.cell? ⟨w.heap.size, 0, none⟩ = some (.bool false) := keep hb4' (by omega) (by simp [go_sem])
              have c1 : w4.cell? ⟨w.heap.size, 1, none⟩ = some (.bool false) := keep hb4' (by omega) (by simp [go_sem])
              have c2 : w4.cell? ⟨w.heap.size, 2, none⟩ = some (.bool false) := keep hb4' (by omega) (by simp [go_sem])
              have c3 : w4.cell? ⟨w.heap.size, 3, none⟩ = some (.int .i64 0) := keep hb4' (by omega) (by simp [go_sem])
              have g0 : w4.frozen? ⟨w.heap.size, 0, none⟩ = false := keepF hb4' (by omega) (by simp [go_sem])
              have g1 : w4.frozen? ⟨w.heap.size, 1, none⟩ = false := keepF hb4' (by omega) (by simp [go_sem])
              have g2 : w4.frozen? ⟨w.heap.size, 2, none⟩ = false := keepF hb4' (by omega) (by simp [go_sem])
              have g3 : w4.frozen? ⟨w.heap.size, 3, none⟩ = false := keepF hb4' (by omega) (by simp [go_sem])
              have hs4 : w.heap.size < w4.heap.size := by have := hb4'.size; simp at this; omega
              have hw4 : w4.ownsRow (w.heap.size + 1) 140 2 v' (d.length + 1) (wCells (d ++ [(f, idxI p k)])) := own_below hown' hb4
              rw [HE.out, HV.out, HT.out]
              go_wp2_with (fail)
              go_roundw
              case measure => simp [intOf]; omega
              refine ⟨k + 1, gF W n f (idxI p k), d ++ [(f, idxI p k)], by omega, by go_num, rfl, rfl, by simp [HD.out], HR2, ?_, ?_⟩
              · simp only [List.length_append, List.length_cons, List.length_nil]
                repeat (first | with_reducible exact hw4 | with_reducible refine ownsRow_setCell_below ?_ (by simp) _ | with_reducible refine World.ownsRow.alloc ?_ _)
              · repeat (first | with_reducible exact hb4' | with_reducible refine Below.alloc ?_ (by omega) _)
          · have hT3 : (gT W n f (idxI p k) != decide (k < 2)) = true := by simpa using hT
            rw [if_pos hT] at hwl
            have HR2 : Hid (behind d ⟨false, false, false, 0, [(f, idxI p k)], 11⟩ = R) := by rw [← hwl]; exact HR
            clear hwl hT HR
            by_cases hk2 : k < 2
            · have hT4 : gT W n f (idxI p k) = false := by simpa [hk2] using hT3
              have HT := Lib.hid hT4
              clear hT3 hT4
              go_wp2_with (fail)
              refine (index_yes _ _ _ (by omega) (by omega) (by omega) (by omega)).mono ?_
              rintro e w1 ⟨rfl, rfl⟩
              go_wp2_with (at_builtin; refine wpList_append_own _ rfl _ _ 133 rfl (w.heap.size + 1) 140 i0 (.agg #[.int .i64 0, .int .i64 0]) 2 16 Try.underlying133 hi hz0 hz1 hz2 rfl (by decide) _ _ _ rfl (hown.alloc _) ⟨wr.heap.size, 0, none⟩ 1 1 [.int .i64 f, .int .i64 (idxI p k)] rfl rfl (cell_two_new _ _ _ _) (fun x hx => by simp at hx; rcases hx with rfl | rfl <;> rfl) (by unfold maxLen; have := HD.out; omega) (by have := HD.out; omega) (by simp; omega) ?_; intro v' w3 hown' hgrow3 hnil3)
              have hb3 : Below (w.heap.size + 1) (w.alloc (.cells #[.bool false, .bool false, .bool false, .int .i64 0] 34)) w3 := Below.grown (hb.alloc (by omega) _) hgrow3 (by simp; omega) (fun j hj => (hown.lt _ hj).1)
              have hs3 : w.heap.size < w3.heap.size := by have := hb3.size; simp at this; omega
              have kb3 : Below w.heap.size w w3 := ((Below.refl _ _).alloc (Nat.le_refl _) _).trans (hb3.mono (by omega))
              have hm3 := hm.below kb3
              rw [← wCells_snoc] at hown'
              refine (get_any pm bk n W _ _ _ hm3).mono ?_
              rintro e w4 ⟨rfl, hb4⟩
              have hb4' := hb3.trans (hb4.mono (by omega))
              have kb4 := kb3.trans (hb4.mono kb3.size)
              have c0 : w4.cell? ⟨w.heap.size, 0, none⟩ = some (.bool false) := keep hb4' (by omega) (by simp [go_sem])
              have c1 : w4.cell? ⟨w.heap.size, 1, none⟩ = some (.bool false) := keep hb4' (by omega) (by simp [go_sem])
              have c2 : w4.cell? ⟨w.heap.size, 2, none⟩ = some (.bool false) := keep hb4' (by omega) (by simp [go_sem])
              have c3 : w4.cell? ⟨w.heap.size, 3, none⟩ = some (.int .i64 0) := keep hb4' (by omega) (by simp [go_sem])
              have g0 : w4.frozen? ⟨w.heap.size, 0, none⟩ = false := keepF hb4' (by omega) (by simp [go_sem])
              have g1 : w4.frozen? ⟨w.heap.size, 1, none⟩ = false := keepF hb4' (by omega) (by simp [go_sem])
              have g2 : w4.frozen? ⟨w.heap.size, 2, none⟩ = false := keepF hb4' (by omega) (by simp [go_sem])
              have g3 : w4.frozen? ⟨w.heap.size, 3, none⟩ = false := keepF hb4' (by omega) (by simp [go_sem])
              have hs4 : w.heap.size < w4.heap.size := by have := hb4'.size; simp at this; omega
              have hw4 : w4.ownsRow (w.heap.size + 1) 140 2 v' (d.length + 1) (wCells (d ++ [(f, idxI p k)])) := own_below hown' hb4
              rw [HE.out, HV.out, HT.out]
              go_wp2_with (fail)
              rw [Exit.noGoto_ret]
              have hRe := HR2.out
              subst hRe
              refine bodyPost_ret (v := .tuple #[.agg #[.bool false, .bool false, .bool false, .int .i64 0], v', .int .i64 11]) (by simp [results, Try.results66, go_sem, c0, c1, c2, c3, hs4]) rfl ⟨v', by simp [behind], ?_, ?_⟩
              · simp only [behind, List.length_append, List.length_cons, List.length_nil]
                repeat (first | with_reducible exact hw4 | with_reducible refine ownsRow_setCell_below ?_ (by simp) _ | with_reducible refine World.ownsRow.alloc ?_ _)
              · repeat (first | with_reducible exact kb4 | with_reducible refine Below.setCell ?_ (by simp) _ | with_reducible refine Below.alloc ?_ (by have := kb4.size; simp <;> omega) _)
            · have hT4 : gT W n f (idxI p k) = true := by simpa [hk2] using hT3
              have hk2d : decide ((k : Int) < 2) = false := by simp; omega
              have HT := Lib.hid hT4
              clear hT3 hT4
              go_wp2_with (fail)
              refine (index_yes _ _ _ (by omega) (by omega) (by omega) (by omega)).mono ?_
              rintro e w1 ⟨rfl, rfl⟩
              go_wp2_with (at_builtin; refine wpList_append_own _ rfl _ _ 133 rfl (w.heap.size + 1) 140 i0 (.agg #[.int .i64 0, .int .i64 0]) 2 16 Try.underlying133 hi hz0 hz1 hz2 rfl (by decide) _ _ _ rfl (hown.alloc _) ⟨wr.heap.size, 0, none⟩ 1 1 [.int .i64 f, .int .i64 (idxI p k)] rfl rfl (cell_two_new _ _ _ _) (fun x hx => by simp at hx; rcases hx with rfl | rfl <;> rfl) (by unfold maxLen; have := HD.out; omega) (by have := HD.out; omega) (by simp; omega) ?_; intro v' w3 hown' hgrow3 hnil3)
              have hb3 : Below (w.heap.size + 1) (w.alloc (.cells #[.bool false, .bool false, .bool false, .int .i64 0] 34)) w3 := Below.grown (hb.alloc (by omega) _) hgrow3 (by simp; omega) (fun j hj => (hown.lt _ hj).1)
              have hs3 : w.heap.size < w3.heap.size := by have := hb3.size; simp at this; omega
              have kb3 : Below w.heap.size w w3 := ((Below.refl _ _).alloc (Nat.le_refl _) _).trans (hb3.mono (by omega))
              have hm3 := hm.below kb3
              rw [← wCells_snoc] at hown'
              refine (get_any pm bk n W _ _ _ hm3).mono ?_
              rintro e w4 ⟨rfl, hb4⟩
              have hb4' := hb3.trans (hb4.mono (by omega))
              have kb4 := kb3.trans (hb4.mono kb3.size)
              have c0 : w4.cell? ⟨w.heap.size, 0, none⟩ = some (.bool false) := keep hb4' (by omega) (by simp [go_sem])
              have c1 : w4.cell? ⟨w.heap.size, 1, none⟩ = some (.bool false) := keep hb4' (by omega) (by simp [go_sem])
              have c2 : w4.cell? ⟨w.heap.size, 2, none⟩ = some (.bool false) := keep hb4' (by omega) (by simp [go_sem])
              have c3 : w4.cell? ⟨w.heap.size, 3, none⟩ = some (.int .i64 0) := keep hb4' (by omega) (by simp [go_sem])
              have g0 : w4.frozen? ⟨w.heap.size, 0, none⟩ = false := keepF hb4' (by omega) (by simp [go_sem])
              have g1 : w4.frozen? ⟨w.heap.size, 1, none⟩ = false := keepF hb4' (by omega) (by simp [go_sem])
              have g2 : w4.frozen? ⟨w.heap.size, 2, none⟩ = false := keepF hb4' (by omega) (by simp [go_sem])
              have g3 : w4.frozen? ⟨w.heap.size, 3, none⟩ = false := keepF hb4' (by omega) (by simp [go_sem])
              have hs4 : w.heap.size < w4.heap.size := by have := hb4'.size; simp at this; omega
              have hw4 : w4.ownsRow (w.heap.size + 1) 140 2 v' (d.length + 1) (wCells (d ++ [(f, idxI p k)])) := own_below hown' hb4
              rw [HE.out, HV.out, HT.out]
              go_wp2_with (fail)
              rw [Exit.noGoto_ret]
              have hRe := HR2.out
              subst hRe
              refine bodyPost_ret (v := .tuple #[.agg #[.bool false, .bool false, .bool false, .int .i64 0], v', .int .i64 11]) (by simp [results, Try.results66, go_sem, c0, c1, c2, c3, hs4]) rfl ⟨v', by simp [behind], ?_, ?_⟩
              · simp only [behind, List.length_append, List.length_cons, List.length_nil]
                repeat (first | with_reducible exact hw4 | with_reducible refine ownsRow_setCell_below ?_ (by simp) _ | with_reducible refine World.ownsRow.alloc ?_ _)
              · repeat (first | with_reducible exact kb4 | with_reducible refine Below.setCell ?_ (by simp) _ | with_reducible refine Below.alloc ?_ (by have := kb4.size; simp <;> omega) _)
      · have hE' : (gE W n f (idxI p k) != 0) = true := by simp [hE]
        rw [if_pos hE] at hwl
        have HR2 : Hid (behind d ⟨false, false, false, 0, [(f, idxI p k)], 11⟩ = R) := by rw [← hwl]; exact HR
        clear hwl hE HR
        go_wp2_with (fail)
        refine (index_yes _ _ _ (by omega) (by omega) (by omega) (by omega)).mono ?_
        rintro e w1 ⟨rfl, rfl⟩
        go_wp2_with (at_builtin; refine wpList_append_own _ rfl _ _ 133 rfl (w.heap.size + 1) 140 i0 (.agg #[.int .i64 0, .int .i64 0]) 2 16 Try.underlying133 hi hz0 hz1 hz2 rfl (by decide) _ _ _ rfl (hown.alloc _) ⟨wr.heap.size, 0, none⟩ 1 1 [.int .i64 f, .int .i64 (idxI p k)] rfl rfl (cell_two_new _ _ _ _) (fun x hx => by simp at hx; rcases hx with rfl | rfl <;> rfl) (by unfold maxLen; have := HD.out; omega) (by have := HD.out; omega) (by simp; omega) ?_; intro v' w3 hown' hgrow3 hnil3)
        have hb3 : Below (w.heap.size + 1) (w.alloc (.cells #[.bool false, .bool false, .bool false, .int .i64 0] 34)) w3 := Below.grown (hb.alloc (by omega) _) hgrow3 (by simp; omega) (fun j hj => (hown.lt _ hj).1)
        have hs3 : w.heap.size < w3.heap.size := by have := hb3.size; simp at this; omega
        have kb3 : Below w.heap.size w w3 := ((Below.refl _ _).alloc (Nat.le_refl _) _).trans (hb3.mono (by omega))
        have hm3 := hm.below kb3
        rw [← wCells_snoc] at hown'
        refine (get_any pm bk n W _ _ _ hm3).mono ?_
        rintro e w4 ⟨rfl, hb4⟩
        have hb4' := hb3.trans (hb4.mono (by omega))
        have kb4 := kb3.trans (hb4.mono kb3.size)
        have c0 : w4.cell? ⟨w.heap.size, 0, none⟩ = some (.bool false) := keep hb4' (by omega) (by simp [go_sem])
        have c1 : w4.cell? ⟨w.heap.size, 1, none⟩ = some (.bool false) := keep hb4' (by omega) (by simp [go_sem])
        have c2 : w4.cell? ⟨w.heap.size, 2, none⟩ = some (.bool false) := keep hb4' (by omega) (by simp [go_sem])
        have c3 : w4.cell? ⟨w.heap.size, 3, none⟩ = some (.int .i64 0) := keep hb4' (by omega) (by simp [go_sem])
        have g0 : w4.frozen? ⟨w.heap.size, 0, none⟩ = false := keepF hb4' (by omega) (by simp [go_sem])
        have g1 : w4.frozen? ⟨w.heap.size, 1, none⟩ = false := keepF hb4' (by omega) (by simp [go_sem])
        have g2 : w4.frozen? ⟨w.heap.size, 2, none⟩ = false := keepF hb4' (by omega) (by simp [go_sem])
        have g3 : w4.frozen? ⟨w.heap.size, 3, none⟩ = false := keepF hb4' (by omega) (by simp [go_sem])
        have hs4 : w.heap.size < w4.heap.size := by have := hb4'.size; simp at this; omega
        have hw4 : w4.ownsRow (w.heap.size + 1) 140 2 v' (d.length + 1) (wCells (d ++ [(f, idxI p k)])) := own_below hown' hb4
        go_wp2_with (fail)
        rw [Exit.noGoto_ret]
        have hRe := HR2.out
        subst hRe
        refine bodyPost_ret (v := .tuple #[.agg #[.bool false, .bool false, .bool false, .int .i64 0], v', .int .i64 11]) (by simp [results, Try.results66, go_sem, c0, c1, c2, c3, hs4]) rfl ⟨v', by simp [behind], ?_, ?_⟩
        · simp only [behind, List.length_append, List.length_cons, List.length_nil]
          repeat (first | with_reducible exact hw4 | with_reducible refine ownsRow_setCell_below ?_ (by simp) _ | with_reducible refine World.ownsRow.alloc ?_ _)
        · repeat (first | with_reducible exact kb4 | with_reducible refine Below.setCell ?_ (by simp) _ | with_reducible refine Below.alloc ?_ (by have := kb4.size; simp <;> omega) _)
    · have hk3 : k = 3 := by omega
      subst hk3
      have HR2 : Hid (behind d ⟨false, false, false, 0, [], 11⟩ = R) := HR
      clear HR
      have c0 : wr.cell? ⟨w.heap.size, 0, none⟩ = some (.bool false) := keep hb (by omega) (by simp [go_sem])
      have c1 : wr.cell? ⟨w.heap.size, 1, none⟩ = some (.bool false) := keep hb (by omega) (by simp [go_sem])
      have c2 : wr.cell? ⟨w.heap.size, 2, none⟩ = some (.bool false) := keep hb (by omega) (by simp [go_sem])
      have c3 : wr.cell? ⟨w.heap.size, 3, none⟩ = some (.int .i64 0) := keep hb (by omega) (by simp [go_sem])
      have g0 : wr.frozen? ⟨w.heap.size, 0, none⟩ = false := keepF hb (by omega) (by simp [go_sem])
      have g1 : wr.frozen? ⟨w.heap.size, 1, none⟩ = false := keepF hb (by omega) (by simp [go_sem])
      have g2 : wr.frozen? ⟨w.heap.size, 2, none⟩ = false := keepF hb (by omega) (by simp [go_sem])
      have g3 : wr.frozen? ⟨w.heap.size, 3, none⟩ = false := keepF hb (by omega) (by simp [go_sem])
      have HD := Lib.hid hd
      clear hd
      go_wp2_with (fail)
      rw [Exit.noGoto_ret]
      have hRe := HR2.out
      subst hRe
      refine bodyPost_ret (v := .tuple #[.agg #[.bool false, .bool false, .bool false, .int .i64 0], u9, .int .i64 11]) (by simp [results, Try.results66, go_sem, c0, c1, c2, c3, hbs]) rfl ⟨u9, by simp [behind], ?_, ?_⟩
      · simp only [behind, List.append_nil]
        repeat (first | with_reducible exact hown | with_reducible refine ownsRow_setCell_below ?_ (by simp) _ | with_reducible refine World.ownsRow.alloc ?_ _)
      · repeat (first | with_reducible exact kb | with_reducible refine Below.setCell ?_ (by simp) _ | with_reducible refine Below.alloc ?_ (by have := kb.size; simp <;> omega) _)

/-- What walk.Walk finds. -/
def walkM (W : Nat → Int) (n : Nat) (r p : Int) : WRes :=
  if (0 ≤ r ∧ r < n) ∧ (0 ≤ p ∧ p < 4096) then walkL W n p 3 r else ⟨false, false, false, 0, [], 1⟩

theorem walk_out (pm bk n : Nat) (W : Nat → Int) (r p : Int) (w : World) (hm : MemIn w pm bk n W) (h : ¬ ((0 ≤ r ∧ r < n) ∧ (0 ≤ p ∧ p < 4096))) :
    Calls Try.prog 66 #[.pointer (some ⟨pm, 0, none⟩), .int .i64 r, .int .i64 p] w fun e w' => e = .returned (.tuple #[.agg #[.bool false, .bool false, .bool false, .int .i64 0], .slice none 0 0, .int .i64 1]) ∧ Below w.heap.size w w' := by
  have hm1 : MemIn (w.alloc (.cells #[.bool false, .bool false, .bool false, .int .i64 0] 34)) pm bk n W := hm.below ((Below.refl _ _).alloc (Nat.le_refl _) _)
  have hh : ¬ (0 ≤ r ∧ r < n) ∨ ((0 ≤ r ∧ r < n) ∧ p < 0) ∨ ((0 ≤ r ∧ r < n) ∧ ¬ p < 0 ∧ 4096 ≤ p) := by omega
  clear h
  rcases hh with hf | ⟨hf, h1⟩ | ⟨hf, h1, h2⟩
  all_goals
    go_enter Try.func66, Try.ntmps66
    go_wp2_with (fail)
    go_step3
    go_wp2_with (fail)
    first
      | (refine (wk_has_no pm bk n W _ _ hm1 hf).mono ?_; rintro e w1 ⟨rfl, rfl⟩)
      | (refine (wk_has_yes pm bk n W _ _ hm1 hf.1 hf.2).mono ?_; rintro e w1 ⟨rfl, rfl⟩)
    go_wp2_with (fail)
    rw [Exit.noGoto_ret]
    refine bodyPost_ret (v := .tuple #[.agg #[.bool false, .bool false, .bool false, .int .i64 0], .slice none 0 0, .int .i64 1]) (by simp [results, Try.results66, go_sem]) rfl ⟨rfl, ?_⟩
    repeat (first | with_reducible exact Below.refl _ _ | with_reducible refine Below.setCell ?_ (by simp) _ | with_reducible refine Below.alloc ?_ (by simp <;> omega) _)

theorem walk_any (pm bk n : Nat) (W : Nat → Int) (r p : Int) (w : World) (hm : MemIn w pm bk n W) (R : WRes) (hR : walkM W n r p = R) :
    Calls Try.prog 66 #[.pointer (some ⟨pm, 0, none⟩), .int .i64 r, .int .i64 p] w fun e w' => ∃ v, e = .returned (.tuple #[.agg #[.bool R.v, .bool R.wr, .bool R.tb, .int .i64 R.fr], v, .int .i64 R.e]) ∧ w'.ownsRow (w.heap.size + 1) 140 2 v R.st.length (wCells R.st) ∧ Below w.heap.size w w' := by
  by_cases h : (0 ≤ r ∧ r < n) ∧ (0 ≤ p ∧ p < 4096)
  · rw [walkM, if_pos h] at hR
    exact walk_in pm bk n W r p w hm h.1.1 h.1.2 h.2.1 h.2.2 R hR
  · rw [walkM, if_neg h] at hR
    subst hR
    refine (walk_out pm bk n W r p w hm h).mono fun e w' ⟨he, hb⟩ => ⟨_, he, World.ownsRow_nil _ _ _ _, hb⟩

end Go.Proofs.Yteehghjdifbjbaa

namespace Go.Proofs.Yteehghjdifbjbaa
set_option linter.unusedSimpArgs false
set_option linter.unusedVariables false
set_option maxRecDepth 100000
open Go.RowKit
set_option maxHeartbeats 4000000

/-- A unit at pu: of a memory, of a buffer; a root, a number. -/
structure UnitIn (w : World) (pu pm pb : Nat) (root asid : Int) : Prop where
  c0 : w.cell? ⟨pu, 0, none⟩ = some (.pointer (some ⟨pm, 0, none⟩))
  c1 : w.cell? ⟨pu, 1, none⟩ = some (.pointer (some ⟨pb, 0, none⟩))
  c2 : w.cell? ⟨pu, 2, none⟩ = some (.int .i64 root)
  c3 : w.cell? ⟨pu, 3, none⟩ = some (.int .i64 asid)
  f2 : w.frozen? ⟨pu, 2, none⟩ = false
  f3 : w.frozen? ⟨pu, 3, none⟩ = false
  lt : pu < w.heap.size
theorem heap_size {w w' : World} {k : Nat} (e : w'.heap[k]? = w.heap[k]?) (h : k < w.heap.size) : k < w'.heap.size := by
  rcases Nat.lt_or_ge k w'.heap.size with h' | h'
  · exact h'
  · rw [Array.getElem?_eq_none h', Array.getElem?_eq_getElem h] at e; cases e
theorem UnitIn.heap {w w' : World} {pu pm pb : Nat} {root asid : Int} (h : UnitIn w pu pm pb root asid) (e : w'.heap[pu]? = w.heap[pu]?) : UnitIn w' pu pm pb root asid :=
  ⟨(cell_of_heap e _).trans h.c0, (cell_of_heap e _).trans h.c1, (cell_of_heap e _).trans h.c2, (cell_of_heap e _).trans h.c3, (frozen_of_heap e _).trans h.f2, (frozen_of_heap e _).trans h.f3, heap_size e h.lt⟩
theorem UnitIn.below {w w' : World} {pu pm pb : Nat} {root asid : Int} (h : UnitIn w pu pm pb root asid) (t : Below w.heap.size w w') : UnitIn w' pu pm pb root asid := h.heap (t.block pu h.lt)

def hasB (n : Nat) (f : Int) : Bool := decide (0 ≤ f) && decide (f < n)
theorem hasB_yes {n : Nat} {f : Int} (h : hasB n f = true) : 0 ≤ f ∧ f < n := by simpa [hasB] using h
theorem hasB_no {n : Nat} {f : Int} (h : hasB n f = false) : ¬ (0 ≤ f ∧ f < n) := by simp [hasB] at h; omega

theorem mmu_has (pu pm pb : Nat) (root asid : Int) (bk n : Nat) (W : Nat → Int) (f : Int) (w : World) (hu : UnitIn w pu pm pb root asid) (hm : MemIn w pm bk n W) :
    Calls Try.prog 49 #[.pointer (some ⟨pu, 0, none⟩), .int .i64 f] w fun e w' => e = .returned (.bool (hasB n f)) ∧ w = w' := by
  have c0 := hu.c0
  by_cases h : 0 ≤ f
  · have hd : decide (0 ≤ f) = true := by simpa using h
    have hB : hasB n f = decide (f < (n : Int)) := by unfold hasB; rw [hd]; rfl
    have HB := Lib.hid hB
    clear hB hd
    go_enter Try.func49, Try.ntmps49
    go_wp2_with (go_at_call 62; refine (frames_any pm bk n W _ hm).mono ?_; rintro e w' ⟨rfl, rfl⟩)
    go_ret
    exact ⟨by rw [HB.out]; simp, rfl⟩
  · have hd : decide (0 ≤ f) = false := by simpa using h
    have hB : hasB n f = false := by unfold hasB; rw [hd]; rfl
    have HB := Lib.hid hB
    clear hB
    go_enter Try.func49, Try.ntmps49
    go_wp2_with (go_at_call 62; refine (frames_any pm bk n W _ hm).mono ?_; rintro e w' ⟨rfl, rfl⟩)
    go_ret
    exact ⟨by rw [HB.out]; simp [*], rfl⟩

theorem UnitIn.use {w : World} {pu pm pb : Nat} {root asid : Int} (h : UnitIn w pu pm pb root asid) (r a : Int) :
    UnitIn ((w.setCell ⟨pu, 2, none⟩ (.int .i64 r)).setCell ⟨pu, 3, none⟩ (.int .i64 a)) pu pm pb r a := by
  have c0 := h.c0; have c1 := h.c1; have c2 := h.c2; have c3 := h.c3; have f2 := h.f2; have f3 := h.f3; have lt := h.lt
  exact ⟨by simp [go_sem, c0], by simp [go_sem, c1], by simp [go_sem, c2], by simp [go_sem, c3], by simp [go_sem, f2], by simp [go_sem, f3], by simpa using lt⟩

def useB (n : Nat) (r a : Int) : Bool := hasB n r && decide (1 ≤ a) && decide (a ≤ 8)
theorem mmu_use_yes (pu pm pb : Nat) (root asid : Int) (bk n : Nat) (W : Nat → Int) (r a : Int) (w : World) (hu : UnitIn w pu pm pb root asid) (hm : MemIn w pm bk n W) (h : useB n r a = true) :
    Calls Try.prog 18 #[.pointer (some ⟨pu, 0, none⟩), .int .i64 r, .int .i64 a] w fun e w' => e = .returned (.int .i64 0) ∧ UnitIn w' pu pm pb r a ∧ Touch (· = pu) w w' := by
  obtain ⟨⟨h1, h2⟩, h3⟩ : (hasB n r = true ∧ 1 ≤ a) ∧ a ≤ 8 := by simpa [useB] using h
  clear h
  have hfin := hu.use r a
  have htt : Touch (· = pu) w ((w.setCell ⟨pu, 2, none⟩ (.int .i64 r)).setCell ⟨pu, 3, none⟩ (.int .i64 a)) := by
    repeat (first | exact Touch.refl _ _ | refine Touch.setCell (S := (· = pu)) ?_ (Or.inl rfl) _)
  have c2 := hu.c2; have c3 := hu.c3; have f2 := hu.f2; have f3 := hu.f3
  have HF := Lib.hid (And.intro hfin htt)
  clear hfin htt
  have H1 := Lib.hid h1
  clear h1
  go_enter Try.func18, Try.ntmps18
  go_wp2_with (go_at_call 49; refine (mmu_has pu pm pb root asid bk n W _ _ hu hm).mono ?_; rintro e w' ⟨rfl, rfl⟩; rw [H1.out])
  go_ret
  exact ⟨rfl, HF.out⟩
theorem mmu_use_no (pu pm pb : Nat) (root asid : Int) (bk n : Nat) (W : Nat → Int) (r a : Int) (w : World) (hu : UnitIn w pu pm pb root asid) (hm : MemIn w pm bk n W) (h : useB n r a = false) :
    Calls Try.prog 18 #[.pointer (some ⟨pu, 0, none⟩), .int .i64 r, .int .i64 a] w fun e w' => e = .returned (.int .i64 1) ∧ w = w' := by
  have hh : hasB n r = false ∨ (hasB n r = true ∧ a < 1) ∨ (hasB n r = true ∧ ¬ a < 1 ∧ 8 < a) := by
    unfold useB at h
    cases h1 : hasB n r
    · exact Or.inl rfl
    · rw [h1] at h; simp at h
      by_cases q : a < 1
      · exact Or.inr (Or.inl ⟨rfl, q⟩)
      · exact Or.inr (Or.inr ⟨rfl, q, by omega⟩)
  clear h
  rcases hh with h1 | ⟨h1, h2⟩ | ⟨h1, h2, h3⟩
  all_goals
    have H1 := Lib.hid h1
    clear h1
    go_enter Try.func18, Try.ntmps18
    go_wp2_with (go_at_call 49; refine (mmu_has pu pm pb root asid bk n W _ _ hu hm).mono ?_; rintro e w' ⟨rfl, rfl⟩; rw [H1.out])
    go_ret
    exact ⟨rfl, rfl⟩

/-- The buffer with a line put. -/
def tPutL (L : Nat → Option Ln) (l : Ln) (at_ : Int) : Nat → Option Ln := fun i => if (i : Int) = tPlace L l at_ then some l else L i
theorem tPlace_bd (L : Nat → Option Ln) (l : Ln) (at_ : Int) (h0 : 0 ≤ at_) (h1 : at_ < 8) : ∃ k : Nat, k < 8 ∧ tPlace L l at_ = k := by
  unfold tPlace
  split
  · rcases firstI_spec (fun i => isB l.a l.p (L i)) with ⟨e1, _⟩ | ⟨j, hj, e1, _, _⟩
    · have : tAt L l.a l.p = -1 := e1
      omega
    · exact ⟨j, hj, e1⟩
  · split
    · rcases firstI_spec (fun i => (L i).isNone) with ⟨e1, _⟩ | ⟨j, hj, e1, _, _⟩
      · have : tFree L = -1 := e1
        omega
      · exact ⟨j, hj, e1⟩
    · exact ⟨at_.toNat, by omega, by omega⟩
theorem tPutL_eq (L : Nat → Option Ln) (l : Ln) (at_ : Int) (k : Nat) (h : tPlace L l at_ = k) : tPutL L l at_ = fun i => if i = k then some l else L i := by
  funext i; unfold tPutL; rw [h]
  by_cases e : i = k
  · rw [if_pos e, if_pos (by omega)]
  · rw [if_neg e, if_neg (by omega)]

/-- The line of a page; the buffer behind. -/
def mLine (n : Nat) (W : Nat → Int) (L : Nat → Option Ln) (root asid page : Int) : Option Ln := match tFind L asid page with
  | some l => some l
  | none => if (walkM W n root page).e = 0 ∧ hasB n (walkM W n root page).fr = true then some ⟨asid, page, (walkM W n root page).fr, (walkM W n root page).wr⟩ else none
def mTlb (n : Nat) (W : Nat → Int) (L : Nat → Option Ln) (root asid page at_ : Int) : Nat → Option Ln := match tFind L asid page with
  | some _ => L
  | none => match mLine n W L root asid page with
    | none => L
    | some l => tPutL L l at_

theorem mmu_line_hit (pu pm pb : Nat) (root asid : Int) (lb : Nat → Nat) (L : Nat → Option Ln) (page at_ : Int) (l : Ln) (w : World) (hu : UnitIn w pu pm pb root asid) (ht : TlbIn w pb lb L) (hl : tFind L asid page = some l) :
    Calls Try.prog 58 #[.pointer (some ⟨pu, 0, none⟩), .int .i64 page, .int .i64 at_] w fun e w' => e = .returned (lnV (some l)) ∧ Below w.heap.size w w' := by
  have c1 := hu.c1
  have c3 := hu.c3
  have hlt := hu.lt
  have hne : ¬ pu = w.heap.size := by omega
  have ht1 := ht.below (w' := w.alloc (.cells #[.int .i64 0, .int .i64 0, .int .i64 0, .bool false] 41)) (by repeat (first | with_reducible exact Below.refl _ _ | with_reducible assumption | with_reducible refine below_drewN ?_ _ | with_reducible refine Below.alloc ?_ (by simp <;> omega) _))
  go_enter Try.func58, Try.ntmps58
  go_wp2_with (fail)
  refine (tlb_find pb lb L asid page _ ht1).mono ?_
  rintro e w1 ⟨rfl, hb⟩
  rw [hl]
  unfold lnV
  have kb : Below w.heap.size w w1 := (Below.alloc (Below.refl _ _) (Nat.le_refl _) _).trans (hb.mono (by simp))
  have hz : w.heap.size < w1.heap.size := by have := hb.size; simp at this; omega
  have z0 : w1.cell? ⟨w.heap.size, 0, none⟩ = some (.int .i64 0) := keep hb (by simp) (by simp [go_sem])
  have z1 : w1.cell? ⟨w.heap.size, 1, none⟩ = some (.int .i64 0) := keep hb (by simp) (by simp [go_sem])
  have z2 : w1.cell? ⟨w.heap.size, 2, none⟩ = some (.int .i64 0) := keep hb (by simp) (by simp [go_sem])
  have z3 : w1.cell? ⟨w.heap.size, 3, none⟩ = some (.bool false) := keep hb (by simp) (by simp [go_sem])
  have y0 : w1.frozen? ⟨w.heap.size, 0, none⟩ = false := keepF hb (by simp) (by simp [go_sem])
  have y1 : w1.frozen? ⟨w.heap.size, 1, none⟩ = false := keepF hb (by simp) (by simp [go_sem])
  have y2 : w1.frozen? ⟨w.heap.size, 2, none⟩ = false := keepF hb (by simp) (by simp [go_sem])
  have y3 : w1.frozen? ⟨w.heap.size, 3, none⟩ = false := keepF hb (by simp) (by simp [go_sem])
  have hne2 : ¬ w.heap.size = w1.heap.size := by omega
  go_wp2_with (fail)
  refine bodyPost_ret (v := .agg #[.int .i64 l.a, .int .i64 l.p, .int .i64 l.f, .bool l.w]) (by simp [results, Try.results58, go_sem, z0, z1, z2, z3, hne2, hz]) rfl ⟨rfl, ?_⟩
  repeat (first | with_reducible exact Below.refl _ _ | with_reducible assumption | with_reducible refine below_drewN ?_ _ | with_reducible refine Below.drew ?_ | with_reducible refine Below.setCell ?_ (by first | omega | (simp <;> omega)) _ | with_reducible refine Below.alloc ?_ (by first | omega | (simp <;> omega)) _)

end Go.Proofs.Yteehghjdifbjbaa

namespace Go.Proofs.Yteehghjdifbjbaa
set_option linter.unusedSimpArgs false
set_option linter.unusedVariables false
set_option maxRecDepth 100000
open Go.RowKit
set_option maxHeartbeats 2000000

theorem below_un {B : Nat} {w w' : World} (h : Below B w.drew w') : Below B w w' := ⟨h.os, h.tape, h.output, h.size, h.block⟩
theorem mmu_line_miss (pu pm pb : Nat) (root asid : Int) (bk n : Nat) (W : Nat → Int) (lb : Nat → Nat) (L : Nat → Option Ln) (page at_ : Int) (w : World) (hu : UnitIn w pu pm pb root asid) (hm : MemIn w pm bk n W) (ht : TlbIn w pb lb L)
    (hl : tFind L asid page = none) (hR : ¬ ((walkM W n root page).e = 0 ∧ hasB n (walkM W n root page).fr = true)) :
    Calls Try.prog 58 #[.pointer (some ⟨pu, 0, none⟩), .int .i64 page, .int .i64 at_] w fun e w' => e = .returned (lnV none) ∧ Below w.heap.size w w' := by
  have c0 := hu.c0
  have c1 := hu.c1
  have c2 := hu.c2
  have c3 := hu.c3
  have hlt := hu.lt
  have hne : ¬ pu = w.heap.size := by omega
  have ht1 := ht.below (w' := w.alloc (.cells #[.int .i64 0, .int .i64 0, .int .i64 0, .bool false] 41)) (by repeat (first | with_reducible exact Below.refl _ _ | with_reducible assumption | with_reducible refine below_drewN ?_ _ | with_reducible refine Below.alloc ?_ (by simp <;> omega) _))
  obtain ⟨R, hRR⟩ : ∃ R, walkM W n root page = R := ⟨_, rfl⟩
  rw [hRR] at hR
  have hR' : (R.e != 0) = true ∨ ((R.e != 0) = false ∧ hasB n R.fr = false) := by
    by_cases q : R.e = 0
    · refine Or.inr ⟨by simp [q], ?_⟩
      cases h : hasB n R.fr
      · rfl
      · exact absurd ⟨q, h⟩ hR
    · exact Or.inl (by simp [q])
  clear hR
  go_enter Try.func58, Try.ntmps58
  go_wp2_with (fail)
  refine (tlb_find pb lb L asid page _ ht1).mono ?_
  rintro e w1 ⟨rfl, hb⟩
  rw [hl]
  unfold lnV
  have kb : Below w.heap.size w w1 := (Below.alloc (Below.refl _ _) (Nat.le_refl _) _).trans (hb.mono (by simp))
  have hz : w.heap.size < w1.heap.size := by have := hb.size; simp at this; omega
  have hu1 := hu.below kb
  have hm1 := hm.below kb
  have z0 : w1.cell? ⟨w.heap.size, 0, none⟩ = some (.int .i64 0) := keep hb (by simp) (by simp [go_sem])
  have z1 : w1.cell? ⟨w.heap.size, 1, none⟩ = some (.int .i64 0) := keep hb (by simp) (by simp [go_sem])
  have z2 : w1.cell? ⟨w.heap.size, 2, none⟩ = some (.int .i64 0) := keep hb (by simp) (by simp [go_sem])
  have z3 : w1.cell? ⟨w.heap.size, 3, none⟩ = some (.bool false) := keep hb (by simp) (by simp [go_sem])
  have y0 : w1.frozen? ⟨w.heap.size, 0, none⟩ = false := keepF hb (by simp) (by simp [go_sem])
  have y1 : w1.frozen? ⟨w.heap.size, 1, none⟩ = false := keepF hb (by simp) (by simp [go_sem])
  have y2 : w1.frozen? ⟨w.heap.size, 2, none⟩ = false := keepF hb (by simp) (by simp [go_sem])
  have y3 : w1.frozen? ⟨w.heap.size, 3, none⟩ = false := keepF hb (by simp) (by simp [go_sem])
  have hne1 : ¬ w.heap.size = w1.heap.size := by omega
  have hne2 : ¬ pu = w1.heap.size := by have := hu1.lt; omega
  obtain ⟨w2, hw2⟩ : ∃ w2, w2 = w1.alloc (.cells #[.int .i64 0, .int .i64 0, .int .i64 0, .bool false] 41) := ⟨_, rfl⟩
  have kb2 : Below w.heap.size w w2 := by rw [hw2]; repeat (first | with_reducible exact Below.refl _ _ | with_reducible assumption | with_reducible refine below_drewN ?_ _ | with_reducible refine Below.drew ?_ | with_reducible refine Below.setCell ?_ (by first | omega | (simp <;> omega)) _ | with_reducible refine Below.alloc ?_ (by first | omega | (simp <;> omega)) _)
  have kbb2 : Below w1.heap.size w1 w2 := by rw [hw2]; repeat (first | with_reducible exact Below.refl _ _ | with_reducible assumption | with_reducible refine below_drewN ?_ _ | with_reducible refine Below.drew ?_ | with_reducible refine Below.setCell ?_ (by first | omega | (simp <;> omega)) _ | with_reducible refine Below.alloc ?_ (by first | omega | (simp <;> omega)) _)
  have zz : w1.heap.size < w2.heap.size := by rw [hw2]; simp
  have hu2 := hu.below kb2
  have hm2 := hm.below kb2
  have d0 := hu2.c0
  have d2 := hu2.c2
  have hlt2 := hu2.lt
  have hne3 : ¬ pu = w2.heap.size := by omega
  have hS : ∀ w', Below w2.heap.size w2 w' → w'.cell? ⟨pu, 0, none⟩ = some (.pointer (some ⟨pm, 0, none⟩)) ∧ w'.cell? ⟨pu, 2, none⟩ = some (.int .i64 root) := fun w' h => ⟨keep h hlt2 d0, keep h hlt2 d2⟩
  go_wp2_with (fail)
  rw [← hw2]
  clear hw2
  go_region_held3 (fun w' => w'.cell? ⟨pu, 0, none⟩ = some (.pointer (some ⟨pm, 0, none⟩)) ∧ w'.cell? ⟨pu, 2, none⟩ = some (.int .i64 root)) (exact hS _ (by repeat (first | with_reducible exact Below.refl _ _ | with_reducible assumption | with_reducible refine below_drewN ?_ _ | with_reducible refine Below.drew ?_ | with_reducible refine Below.setCell ?_ (by first | omega | (simp <;> omega)) _ | with_reducible refine Below.alloc ?_ (by first | omega | (simp <;> omega)) _)))
    ((go_at_call 66
      refine (walk_any pm bk n W root page _ (hm2.below (by repeat (first | with_reducible exact Below.refl _ _ | with_reducible assumption | with_reducible refine below_drewN ?_ _ | with_reducible refine Below.drew ?_ | with_reducible refine Below.setCell ?_ (by first | omega | (simp <;> omega)) _ | with_reducible refine Below.alloc ?_ (by first | omega | (simp <;> omega)) _))) R hRR).mono ?_
      rintro e w3 ⟨v, rfl, hown3, hb3'⟩
      first
        | (have hE := ret_ent rfl (below_un hb3'); obtain ⟨⟨e0, e1, e2, e3⟩, ⟨g0, g1, g2, g3⟩, hz3, hb3⟩ := hE; have hs3 := hb3.size)
        | (have hb3 : Below w2.heap.size w2 w3 := below_un hb3'; have hs3 := hb3.size)))
  all_goals
    have kb13 : Below w1.heap.size w1 w3 := kbb2.trans (hb3.mono kbb2.size)
    have kb3 : Below w.heap.size w w3 := kb2.trans (hb3.mono kb2.size)
    have hu3 := hu.below kb3
    have hm3 := hm.below kb3
    have x0 := keep kb13 hz z0
    have x1 := keep kb13 hz z1
    have x2 := keep kb13 hz z2
    have x3 := keep kb13 hz z3
    have x4 := keepF kb13 hz y0
    have x5 := keepF kb13 hz y1
    have x6 := keepF kb13 hz y2
    have x7 := keepF kb13 hz y3
    have xz : w.heap.size < w3.heap.size := by omega
    have xn : ¬ w.heap.size = w2.heap.size := by omega
    have xn' : ¬ w.heap.size = w3.heap.size := by omega
    clear z0 z1 z2 z3 y0 y1 y2 y3 hS
    rcases hR' with hR | ⟨hR, hh⟩
    · go_wp2_with (fail)
      refine bodyPost_ret (v := .agg #[.int .i64 0, .int .i64 0, .int .i64 0, .bool false]) (by simp [results, Try.results58, go_sem, x0, x1, x2, x3, xz, xn, xn']) rfl ⟨rfl, ?_⟩
      repeat (first | with_reducible exact Below.refl _ _ | with_reducible assumption | with_reducible refine below_drewN ?_ _ | with_reducible refine Below.drew ?_ | with_reducible refine Below.setCell ?_ (by first | omega | (simp <;> omega)) _ | with_reducible refine Below.alloc ?_ (by first | omega | (simp <;> omega)) _)
    · go_wp2_with (go_at_call 49; refine (mmu_has pu pm pb root asid bk n W _ _ (hu.below (by repeat (first | with_reducible exact Below.refl _ _ | with_reducible assumption | with_reducible refine below_drewN ?_ _ | with_reducible refine Below.drew ?_ | with_reducible refine Below.setCell ?_ (by first | omega | (simp <;> omega)) _ | with_reducible refine Below.alloc ?_ (by first | omega | (simp <;> omega)) _))) (hm.below (by repeat (first | with_reducible exact Below.refl _ _ | with_reducible assumption | with_reducible refine below_drewN ?_ _ | with_reducible refine Below.drew ?_ | with_reducible refine Below.setCell ?_ (by first | omega | (simp <;> omega)) _ | with_reducible refine Below.alloc ?_ (by first | omega | (simp <;> omega)) _)))).mono ?_; rintro e w' ⟨rfl, rfl⟩; rw [hh])
      refine bodyPost_ret (v := .agg #[.int .i64 0, .int .i64 0, .int .i64 0, .bool false]) (by simp [results, Try.results58, go_sem, x0, x1, x2, x3, xz, xn, xn']) rfl ⟨rfl, ?_⟩
      repeat (first | with_reducible exact Below.refl _ _ | with_reducible assumption | with_reducible refine below_drewN ?_ _ | with_reducible refine Below.drew ?_ | with_reducible refine Below.setCell ?_ (by first | omega | (simp <;> omega)) _ | with_reducible refine Below.alloc ?_ (by first | omega | (simp <;> omega)) _)

end Go.Proofs.Yteehghjdifbjbaa
