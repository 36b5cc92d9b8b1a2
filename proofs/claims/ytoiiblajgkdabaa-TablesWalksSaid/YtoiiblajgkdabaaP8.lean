/- Part 8 of the proofs: Walk2, Law07, Sp. -/
import Derived.Test.YtoiiblajgkdabaaP7
import Derived.Test.YtoiiblajgkdabaaP3
import Derived.Test.YtoiiblajgkdabaaP6
namespace Go.Proofs.Ytoiiblajgkdabaa
set_option linter.unusedSimpArgs false
set_option linter.unusedVariables false
set_option maxRecDepth 100000
open Go.RowKit
set_option maxHeartbeats 4000000

theorem word_zero (x : Int) : (oE x = 0 ∧ oV x = false) ↔ x = 0 := by
  constructor
  · rintro ⟨h1, h2⟩
    cases hb : ofB x with
    | false => simp [oE, hb] at h1
    | true =>
      obtain ⟨r1, r2⟩ := of_right x hb
      have hv : pV x = false := by simpa [oV, hb] using h2
      rw [hv] at r1 r2
      obtain ⟨a, b, c⟩ : pW x = false ∧ pT x = false ∧ pF x = 0 := by simpa [rightB, and_assoc] using r1
      rw [a, b, c] at r2
      rw [← r2]; simp [wordI, flagI]
  · rintro rfl; decide

theorem get_blank (W : Nat → Int) (n : Nat) (f p : Int) (h : inT n f p) : (gE W n f p = 0 ∧ gV W n f p = false) ↔ W (16 * f + p).toNat = 0 := by
  have hw := word_zero (W (16 * f + p).toNat)
  unfold gE gV
  rw [if_pos h]
  simp only [h, decide_true, Bool.true_and]
  by_cases h' : oE (W (16 * f + p).toNat) = 0
  · simp only [h', if_true, true_and] at hw ⊢; exact hw
  · simp only [h', if_false, false_and] at hw ⊢; simp at hw ⊢; exact hw

theorem blank_in (pm bk n : Nat) (W : Nat → Int) (f : Int) (w : World) (hm : MemIn w pm bk n W) (h0 : 0 ≤ f) (h1 : f < n) :
    Calls Try.prog 62 #[.pointer (some ⟨pm, 0, none⟩), .int .i64 f] w fun e w' => e = .returned (.bool (blankB W n f)) ∧ Below w.heap.size w w' := by
  have hB : Hid (blankB W n f = zerosB W (16 * f).toNat 16) := by show _ = _; simp [blankB, h0, h1]
  go_enter Try.func62, Try.ntmps62
  go_wp2_with (fail)
  refine (wk_has_yes pm bk n W _ _ hm h0 h1).mono ?_
  rintro e w1 ⟨rfl, rfl⟩
  go_wp2_with (fail)
  go_loopw [12] (fun i wr => ∃ k : Nat, k ≤ 16 ∧ i = .int .i64 k ∧ zerosB W (16 * f).toNat k = true ∧ Below w.heap.size w wr) (fun i _ => 16 - (intOf i).toNat)
  case atStart => exact ⟨0, by omega, rfl, by simp [zerosB], Below.refl _ _⟩
  case round =>
    obtain ⟨k, hk, rfl, hz, hb⟩ := hrel
    have hmr := hm.below hb
    have HZ := Lib.hid hz
    clear hz
    by_cases hlt : k < 16
    · have hin : inT n f k := ⟨⟨h0, h1⟩, by omega, by omega⟩
      have hg := get_blank W n f k hin
      have hkk : (16 * f + (k : Int)).toNat = (16 * f).toNat + k := by omega
      rw [hkk] at hg
      by_cases hx : W ((16 * f).toNat + k) = 0
      · obtain ⟨hE, hV⟩ := hg.2 hx
        have HN : Hid (zerosB W (16 * f).toNat (k + 1) = true) := by
          show _ = _
          rw [zerosB_iff]; intro i hi
          rcases Nat.lt_or_ge i k with h | h
          · exact (zerosB_iff _ _ _).1 HZ.out i h
          · rw [show i = k by omega]; exact hx
        have HE := Lib.hid hE; have HV := Lib.hid hV
        clear hE hV hg hx hkk
        go_wp2_with (fail)
        refine (get_any pm bk n W _ _ _ hmr).mono ?_
        rintro e w2 ⟨rfl, hb2⟩
        rw [HE.out, HV.out]
        go_wp2_with (fail)
        exact ⟨⟨k + 1, by omega, by go_num, HN.out, (hb.trans (hb2.mono hb.size)).alloc (by have := hb.size; have := hb2.size; omega) _⟩, by simp [intOf]; omega⟩
      · have hN : blankB W n f = false := by
          rw [hB.out]
          cases hz : zerosB W (16 * f).toNat 16 with
          | false => rfl
          | true => exact absurd ((zerosB_iff _ _ _).1 hz k hlt) hx
        have HN := Lib.hid hN
        have hne : ¬ (gE W n f k = 0 ∧ gV W n f k = false) := fun h => hx (hg.1 h)
        clear hN hx hkk hg
        by_cases hE : gE W n f k = 0
        · have hV : gV W n f k = true := by
            cases hv : gV W n f k with
            | true => rfl
            | false => exact absurd ⟨hE, hv⟩ hne
          have HE := Lib.hid hE; have HV := Lib.hid hV
          clear hE hV hne
          go_wp2_with (fail)
          refine (get_any pm bk n W _ _ _ hmr).mono ?_
          rintro e w2 ⟨rfl, hb2⟩
          rw [HE.out, HV.out]
          go_wp2_with (fail)
          go_ret
          exact ⟨by rw [HN.out]; rfl, (hb.trans (hb2.mono hb.size)).alloc (by have := hb.size; have := hb2.size; omega) _⟩
        · have hE' : (gE W n f k != 0) = true := by simp [hE]
          clear hE hne
          go_wp2_with (fail)
          refine (get_any pm bk n W _ _ _ hmr).mono ?_
          rintro e w2 ⟨rfl, hb2⟩
          go_wp2_with (fail)
          go_ret
          exact ⟨by rw [HN.out]; rfl, (hb.trans (hb2.mono hb.size)).alloc (by have := hb.size; have := hb2.size; omega) _⟩
    · have hk16 : k = 16 := by omega
      have hN : blankB W n f = true := by rw [hB.out, ← hk16]; exact HZ.out
      have HN := Lib.hid hN
      clear hN
      subst hk16
      go_wp2_with (fail)
      go_ret
      exact ⟨by rw [HN.out]; rfl, hb⟩

theorem blank_any (pm bk n : Nat) (W : Nat → Int) (f : Int) (w : World) (hm : MemIn w pm bk n W) :
    Calls Try.prog 62 #[.pointer (some ⟨pm, 0, none⟩), .int .i64 f] w fun e w' => e = .returned (.bool (blankB W n f)) ∧ Below w.heap.size w w' := by
  by_cases h : 0 ≤ f ∧ f < n
  · exact blank_in pm bk n W f w hm h.1 h.2
  · have hN := blank_false W n f h
    have HN := Lib.hid hN
    clear hN
    go_enter Try.func62, Try.ntmps62
    go_wp2_with (go_at_call 72; refine (wk_has_no pm bk n W _ _ hm h).mono ?_; rintro e w1 ⟨rfl, rfl⟩)
    go_ret
    exact ⟨by rw [HN.out]; rfl, Below.refl _ _⟩

/-- What a walk finds: the entry's parts, the steps, the error. -/
structure WRes where
  v : Bool
  wr : Bool
  tb : Bool
  fr : Int
  st : List (Int × Int)
  e : Int

/-- The walk from a frame on, k tables still to be looked at. -/
def walkL (W : Nat → Int) (n : Nat) (p : Int) : Nat → Int → WRes
  | 0, _ => ⟨false, false, false, 0, [], 11⟩
  | k + 1, f =>
    let q := idxI p (2 - (k : Int))
    if gE W n f q ≠ 0 then ⟨false, false, false, 0, [(f, q)], 11⟩
    else if gV W n f q = false then ⟨false, false, false, 0, [(f, q)], 10⟩
    else if gT W n f q ≠ decide (0 < k) then ⟨false, false, false, 0, [(f, q)], 11⟩
    else if k = 0 then ⟨true, gW W n f q, false, gF W n f q, [(f, q)], 0⟩
    else let r := walkL W n p k (gF W n f q); { r with st := (f, q) :: r.st }

def wCells (l : List (Int × Int)) : List Value := l.flatMap fun x => [.int .i64 x.1, .int .i64 x.2]
theorem wCells_snoc (l : List (Int × Int)) (f q : Int) : wCells (l ++ [(f, q)]) = wCells l ++ [.int .i64 f, .int .i64 q] := by simp [wCells]
theorem wCells_len (l : List (Int × Int)) : (wCells l).length = l.length * 2 := by
  induction l with
  | nil => rfl
  | cons x l ih => simp [wCells] at ih ⊢; omega

/-- The walk that is left, behind steps that were made. -/
def behind (d : List (Int × Int)) (r : WRes) : WRes := { r with st := d ++ r.st }

theorem infoStep : (Try.prog.info? 109).map (fun i => (i.zero, i.size, i.bytes)) = some (some (.agg #[.int .i64 0, .int .i64 0]), 2, 16) := by kernel_rfl

theorem idx_bd (p l : Int) (h0 : 0 ≤ p) (h1 : p < 4096) : 0 ≤ idxI p l ∧ idxI p l < 16 := by unfold idxI; split <;> (try split) <;> omega

theorem wl_eq (W : Nat → Int) (n : Nat) (p : Int) (k : Nat) (f : Int) (hk : k < 3) : walkL W n p (3 - k) f =
    if gE W n f (idxI p k) ≠ 0 then ⟨false, false, false, 0, [(f, idxI p k)], 11⟩
    else if gV W n f (idxI p k) = false then ⟨false, false, false, 0, [(f, idxI p k)], 10⟩
    else if gT W n f (idxI p k) ≠ decide (k < 2) then ⟨false, false, false, 0, [(f, idxI p k)], 11⟩
    else if k = 2 then ⟨true, gW W n f (idxI p k), false, gF W n f (idxI p k), [(f, idxI p k)], 0⟩
    else behind [(f, idxI p k)] (walkL W n p (3 - (k + 1)) (gF W n f (idxI p k))) := by
  obtain ⟨m, hm⟩ : ∃ m, m = 2 - k := ⟨_, rfl⟩
  have e1 : 3 - k = m + 1 := by omega
  have e2 : 3 - (k + 1) = m := by omega
  have e3 : (2 - (m : Int)) = (k : Int) := by omega
  have e4 : decide (0 < m) = decide (k < 2) := by rw [Bool.eq_iff_iff]; simp; omega
  have e5 : (m = 0) = (k = 2) := by apply propext; omega
  rw [e1, e2]
  simp only [walkL, e3, e4, e5]
  rfl

theorem own_below {w w' : World} {base e size n : Nat} {v : Value} {xs : List Value} (h : w.ownsRow base e size v n xs) (hb : Below w.heap.size w w') : w'.ownsRow base e size v n xs := by
  obtain ⟨h1, h2⟩ := h
  refine ⟨h1, ?_⟩
  rcases h2 with h2 | ⟨g, cap, cur, hv, hg, hh, r⟩
  · exact Or.inl h2
  · refine Or.inr ⟨g, cap, cur, hv, hg, ?_, r⟩
    rw [hb.block g (by rcases Nat.lt_or_ge g w.heap.size with h | h; exact h; rw [Array.getElem?_eq_none h] at hh; cases hh)]
    exact hh

theorem walk_in (pm bk n : Nat) (W : Nat → Int) (r p : Int) (w : World) (hm : MemIn w pm bk n W) (h0 : 0 ≤ r) (h1 : r < n) (h2 : 0 ≤ p) (h3 : p < 4096) (R : WRes) (hR : walkL W n p 3 r = R) :
    Calls Try.prog 44 #[.pointer (some ⟨pm, 0, none⟩), .int .i64 r, .int .i64 p] w fun e w' => ∃ v, e = .returned (.tuple #[.agg #[.bool R.v, .bool R.wr, .bool R.tb, .int .i64 R.fr], v, .int .i64 R.e]) ∧ w'.ownsRow (w.heap.size + 1) 109 2 v R.st.length (wCells R.st) ∧ Below w.heap.size w w' := by
  obtain ⟨i0, hi, hz0, hz1, hz2⟩ := info_parts infoStep
  have hn2 := hm.n2
  have hRH := Lib.hid hR
  clear hR
  go_enter Try.func44, Try.ntmps44
  go_wp2_with (fail)
  go_step3
  go_wp2_with (fail)
  refine (wk_has_yes pm bk n W _ _ (hm.below ((Below.refl _ _).alloc (Nat.le_refl _) _)) h0 h1).mono ?_
  rintro e w1 ⟨rfl, rfl⟩
  go_wp2_with (fail)
  go_step3
  go_wp2_with (fail)
  go_loopw [9, 10, 11, 31] (fun v fv b i wr => ∃ (k : Nat) (f : Int) (d : List (Int × Int)), k ≤ 3 ∧ i = .int .i64 k ∧ fv = .int .i64 f ∧ b = .int .i64 11 ∧ d.length = k ∧ Hid (behind d (walkL W n p (3 - k) f) = R) ∧ wr.ownsRow (w.heap.size + 1) 109 2 v d.length (wCells d) ∧ Below (w.heap.size + 1) (w.alloc (.cells #[.bool false, .bool false, .bool false, .int .i64 0] 78)) wr) (fun _ _ _ i _ => 3 - (intOf i).toNat)
  case atStart => exact ⟨0, r, [], by omega, rfl, rfl, rfl, rfl, by rw [← hRH.out]; rfl, World.ownsRow_nil _ _ _ _, Below.refl _ _⟩
  case round =>
    obtain ⟨k, f, d, hk, rfl, rfl, rfl, hd, HR, hown, hb⟩ := hrel
    have hbs : w.heap.size < wr.heap.size := by have := hb.size; simp at this; omega
    have kb : Below w.heap.size w wr := ((Below.refl _ _).alloc (Nat.le_refl _) _).trans (hb.mono (by omega))
    have hmr := hm.below kb
    by_cases hlt : k < 3
    · obtain ⟨q0, q1⟩ := idx_bd p k h2 h3
      have hwl := wl_eq W n p k f hlt
      have HD := Lib.hid hd
      clear hd
      by_cases hE : gE W n f (idxI p k) = 0
      · have HE := Lib.hid hE
        rw [if_neg (by simp [hE])] at hwl
        clear hE
        cases hV : gV W n f (idxI p k)
        · rw [if_pos hV] at hwl
          have HR2 : Hid (behind d ⟨false, false, false, 0, [(f, idxI p k)], 10⟩ = R) := by rw [← hwl]; exact HR
          have HV := Lib.hid hV
          clear hwl hV HR
          go_wp2_with (fail)
          refine (index_yes _ _ _ (by omega) (by omega) (by omega) (by omega)).mono ?_
          rintro e w1 ⟨rfl, rfl⟩
          go_wp2_with (at_builtin; refine wpList_append_own _ rfl _ _ 81 rfl (w.heap.size + 1) 109 i0 (.agg #[.int .i64 0, .int .i64 0]) 2 16 Try.underlying81 hi hz0 hz1 hz2 rfl (by decide) _ _ _ rfl (hown.alloc _) ⟨wr.heap.size, 0, none⟩ 1 1 [.int .i64 f, .int .i64 (idxI p k)] rfl rfl (cell_two_new _ _ _ _) (fun x hx => by simp at hx; rcases hx with rfl | rfl <;> rfl) (by unfold maxLen; have := HD.out; omega) (by have := HD.out; omega) (by simp; omega) ?_; intro v' w3 hown' hgrow3 hnil3)
          have hb3 : Below (w.heap.size + 1) (w.alloc (.cells #[.bool false, .bool false, .bool false, .int .i64 0] 78)) w3 := Below.grown (hb.alloc (by omega) _) hgrow3 (by simp; omega) (fun j hj => (hown.lt _ hj).1)
          have hs3 : w.heap.size < w3.heap.size := by have := hb3.size; simp at this; omega
          have kb3 : Below w.heap.size w w3 := ((Below.refl _ _).alloc (Nat.le_refl _) _).trans (hb3.mono (by omega))
          have hm3 := hm.below kb3
          rw [← wCells_snoc] at hown'
          refine (get_any pm bk n W _ _ _ hm3).mono ?_
          rintro e w4 ⟨rfl, hb4⟩
          have hb4' := hb3.trans (hb4.mono (by omega))
          have kb4 := kb3.trans (hb4.mono kb3.size)
          have c0 : w4.cell? ⟨w.heap.size, 0, none⟩ = some (.bool false) := keep hb4' (by omega) (by simp [go_sem])
          have c1 : w4.cell? ⟨w.heap.size, 1, none⟩ = some (.bool false) := keep hb4' (by omega) (by simp [go_sem])
          have c2 : w4.cell? ⟨w.heap.size, 2, none⟩ = some (.bool false) := keep hb4' (by omega) (by simp [go_sem])
          have c3 : w4.cell? ⟨w.heap.size, 3, none⟩ = some (.int .i64 0) := keep hb4' (by omega) (by simp [go_sem])
          have g0 : w4.frozen? ⟨w.heap.size, 0, none⟩ = false := keepF hb4' (by omega) (by simp [go_sem])
          have g1 : w4.frozen? ⟨w.heap.size, 1, none⟩ = false := keepF hb4' (by omega) (by simp [go_sem])
          have g2 : w4.frozen? ⟨w.heap.size, 2, none⟩ = false := keepF hb4' (by omega) (by simp [go_sem])
          have g3 : w4.frozen? ⟨w.heap.size, 3, none⟩ = false := keepF hb4' (by omega) (by simp [go_sem])
          have hs4 : w.heap.size < w4.heap.size := by have := hb4'.size; simp at this; omega
          have hw4 : w4.ownsRow (w.heap.size + 1) 109 2 v' (d.length + 1) (wCells (d ++ [(f, idxI p k)])) := own_below hown' hb4
          rw [HE.out, HV.out]
          go_wp2_with (fail)
          rw [Exit.noGoto_ret]
          have hRe := HR2.out
          subst hRe
          refine bodyPost_ret (v := .tuple #[.agg #[.bool false, .bool false, .bool false, .int .i64 0], v', .int .i64 10]) (by simp [results, Try.results44, go_sem, c0, c1, c2, c3, hs4]) rfl ⟨v', by simp [behind], ?_, ?_⟩
          · simp only [behind, List.length_append, List.length_cons, List.length_nil]
            repeat (first | with_reducible exact hw4 | with_reducible refine ownsRow_setCell_below ?_ (by simp) _ | with_reducible refine World.ownsRow.alloc ?_ _)
          · repeat (first | with_reducible exact kb4 | with_reducible refine Below.setCell ?_ (by simp) _ | with_reducible refine Below.alloc ?_ (by have := kb4.size; simp <;> omega) _)
        · rw [if_neg (by simp [hV])] at hwl
          have HV := Lib.hid hV
          clear hV
          by_cases hT : gT W n f (idxI p k) = decide (k < 2)
          · rw [if_neg (by simp [hT])] at hwl
            by_cases hk2 : k = 2
            · have hT2 : gT W n f (idxI p k) = false := by rw [hT, hk2]; rfl
              rw [if_pos hk2] at hwl
              have HR2 : Hid (behind d ⟨true, gW W n f (idxI p k), false, gF W n f (idxI p k), [(f, idxI p k)], 0⟩ = R) := by rw [← hwl]; exact HR
              have HT := Lib.hid hT2
              have hk2' : ¬ k < 2 := by omega
              clear hwl hT hT2 HR hk2
              go_wp2_with (fail)
              refine (index_yes _ _ _ (by omega) (by omega) (by omega) (by omega)).mono ?_
              rintro e w1 ⟨rfl, rfl⟩
              go_wp2_with (at_builtin; refine wpList_append_own _ rfl _ _ 81 rfl (w.heap.size + 1) 109 i0 (.agg #[.int .i64 0, .int .i64 0]) 2 16 Try.underlying81 hi hz0 hz1 hz2 rfl (by decide) _ _ _ rfl (hown.alloc _) ⟨wr.heap.size, 0, none⟩ 1 1 [.int .i64 f, .int .i64 (idxI p k)] rfl rfl (cell_two_new _ _ _ _) (fun x hx => by simp at hx; rcases hx with rfl | rfl <;> rfl) (by unfold maxLen; have := HD.out; omega) (by have := HD.out; omega) (by simp; omega) ?_; intro v' w3 hown' hgrow3 hnil3)
              have hb3 : Below (w.heap.size + 1) (w.alloc (.cells #[.bool false, .bool false, .bool false, .int .i64 0] 78)) w3 := Below.grown (hb.alloc (by omega) _) hgrow3 (by simp; omega) (fun j hj => (hown.lt _ hj).1)
              have hs3 : w.heap.size < w3.heap.size := by have := hb3.size; simp at this; omega
              have kb3 : Below w.heap.size w w3 := ((Below.refl _ _).alloc (Nat.le_refl _) _).trans (hb3.mono (by omega))
              have hm3 := hm.below kb3
              rw [← wCells_snoc] at hown'
              refine (get_any pm bk n W _ _ _ hm3).mono ?_
              rintro e w4 ⟨rfl, hb4⟩
              have hb4' := hb3.trans (hb4.mono (by omega))
              have kb4 := kb3.trans (hb4.mono kb3.size)
              have c0 : w4.cell? ⟨w.heap.size, 0, none⟩ = some (.bool false) := keep hb4' (by omega) (by simp [go_sem])
              have c1 : w4.cell? ⟨w.heap.size, 1, none⟩ = some (.bool false) := keep hb4' (by omega) (by simp [go_sem])
              have c2 : w4.cell? ⟨w.heap.size, 2, none⟩ = some (.bool false) := keep hb4' (by omega) (by simp [go_sem])
              have c3 : w4.cell? ⟨w.heap.size, 3, none⟩ = some (.int .i64 0) := keep hb4' (by omega) (by simp [go_sem])
              have g0 : w4.frozen? ⟨w.heap.size, 0, none⟩ = false := keepF hb4' (by omega) (by simp [go_sem])
              have g1 : w4.frozen? ⟨w.heap.size, 1, none⟩ = false := keepF hb4' (by omega) (by simp [go_sem])
              have g2 : w4.frozen? ⟨w.heap.size, 2, none⟩ = false := keepF hb4' (by omega) (by simp [go_sem])
              have g3 : w4.frozen? ⟨w.heap.size, 3, none⟩ = false := keepF hb4' (by omega) (by simp [go_sem])
              have hs4 : w.heap.size < w4.heap.size := by have := hb4'.size; simp at this; omega
              have hw4 : w4.ownsRow (w.heap.size + 1) 109 2 v' (d.length + 1) (wCells (d ++ [(f, idxI p k)])) := own_below hown' hb4
              rw [HE.out, HV.out, HT.out]
              go_wp2_with (fail)
              rw [Exit.noGoto_ret]
              have hRe := HR2.out
              subst hRe
              refine bodyPost_ret (v := .tuple #[.agg #[.bool true, .bool (gW W n f (idxI p k)), .bool false, .int .i64 (gF W n f (idxI p k))], v', .int .i64 0]) (by simp [results, Try.results44, go_sem, c0, c1, c2, c3, hs4]) rfl ⟨v', by simp [behind], ?_, ?_⟩
              · simp only [behind, List.length_append, List.length_cons, List.length_nil]
                repeat (first | with_reducible exact hw4 | with_reducible refine ownsRow_setCell_below ?_ (by simp) _ | with_reducible refine World.ownsRow.alloc ?_ _)
              · repeat (first | with_reducible exact kb4 | with_reducible refine Below.setCell ?_ (by simp) _ | with_reducible refine Below.alloc ?_ (by have := kb4.size; simp <;> omega) _)
            · have hk2' : k < 2 := by omega
              have hk2d : decide ((k : Int) < 2) = true := by simp; omega
              have hT2 : gT W n f (idxI p k) = true := by rw [hT]; simp [hk2']
              rw [if_neg hk2] at hwl
              have HR2 : Hid (behind (d ++ [(f, idxI p k)]) (walkL W n p (3 - (k + 1)) (gF W n f (idxI p k))) = R) := by
                show _ = _
                rw [← HR.out, hwl]
                simp [behind]
              have HT := Lib.hid hT2
              clear hwl hT hT2 HR hk2
              go_wp2_with (fail)
              refine (index_yes _ _ _ (by omega) (by omega) (by omega) (by omega)).mono ?_
              rintro e w1 ⟨rfl, rfl⟩
              go_wp2_with (at_builtin; refine wpList_append_own _ rfl _ _ 81 rfl (w.heap.size + 1) 109 i0 (.agg #[.int .i64 0, .int .i64 0]) 2 16 Try.underlying81 hi hz0 hz1 hz2 rfl (by decide) _ _ _ rfl (hown.alloc _) ⟨wr.heap.size, 0, none⟩ 1 1 [.int .i64 f, .int .i64 (idxI p k)] rfl rfl (cell_two_new _ _ _ _) (fun x hx => by simp at hx; rcases hx with rfl | rfl <;> rfl) (by unfold maxLen; have := HD.out; omega) (by have := HD.out; omega) (by simp; omega) ?_; intro v' w3 hown' hgrow3 hnil3)
              have hb3 : Below (w.heap.size + 1) (w.alloc (.cells #[.bool false, .bool false, .bool false, .int .i64 0] 78)) w3 := Below.grown (hb.alloc (by omega) _) hgrow3 (by simp; omega) (fun j hj => (hown.lt _ hj).1)
              have hs3 : w.heap.size < w3.heap.size := by have := hb3.size; simp at this; omega
              have kb3 : Below w.heap.size w w3 := ((Below.refl _ _).alloc (Nat.le_refl _) _).trans (hb3.mono (by omega))
              have hm3 := hm.below kb3
              rw [← wCells_snoc] at hown'
              refine (get_any pm bk n W _ _ _ hm3).mono ?_
              rintro e w4 ⟨rfl, hb4⟩
              have hb4' := hb3.trans (hb4.mono (by omega))
              have kb4 := kb3.trans (hb4.mono kb3.size)
              have c0 : w4.cell? ⟨w.heap.size, 0, none⟩ = some (.bool false) := keep hb4' (by omega) (by simp [go_sem])
              have c1 : w4.cell? ⟨w.heap.size, 1, none⟩ = some (.bool false) := keep hb4' (by omega) (by simp [go_sem])
              have c2 : w4.cell? ⟨w.heap.size, 2, none⟩ = some (.bool false) := keep hb4' (by omega) (by simp [go_sem])
              have c3 : w4.cell? ⟨w.heap.size, 3, none⟩ = some (.int .i64 0) := keep hb4' (by omega) (by simp [go_sem])
              have g0 : w4.frozen? ⟨w.heap.size, 0, none⟩ = false := keepF hb4' (by omega) (by simp [go_sem])
              have g1 : w4.frozen? ⟨w.heap.size, 1, none⟩ = false := keepF hb4' (by omega) (by simp [go_sem])
              have g2 : w4.frozen? ⟨w.heap.size, 2, none⟩ = false := keepF hb4' (by omega) (by simp [go_sem])
              have g3 : w4.frozen? ⟨w.heap.size, 3, none⟩ = false := keepF hb4' (by omega) (by simp [go_sem])
              have hs4 : w.heap.size < w4.heap.size := by have := hb4'.size; simp at this; omega
              have hw4 : w4.ownsRow (w.heap.size + 1) 109 2 v' (d.length + 1) (wCells (d ++ [(f, idxI p k)])) := own_below hown' hb4
              rw [HE.out, HV.out, HT.out]
              go_wp2_with (fail)
              go_roundw
              case measure => simp [intOf]; omega
              refine ⟨k + 1, gF W n f (idxI p k), d ++ [(f, idxI p k)], by omega, by go_num, rfl, rfl, by simp [HD.out], HR2, ?_, ?_⟩
              · simp only [List.length_append, List.length_cons, List.length_nil]
                repeat (first | with_reducible exact hw4 | with_reducible refine ownsRow_setCell_below ?_ (by simp) _ | with_reducible refine World.ownsRow.alloc ?_ _)
              · repeat (first | with_reducible exact hb4' | with_reducible refine Below.alloc ?_ (by omega) _)
          · have hT3 : (gT W n f (idxI p k) != decide (k < 2)) = true := by simpa using hT
            rw [if_pos hT] at hwl
            have HR2 : Hid (behind d ⟨false, false, false, 0, [(f, idxI p k)], 11⟩ = R) := by rw [← hwl]; exact HR
            clear hwl hT HR
            by_cases hk2 : k < 2
            · have hT4 : gT W n f (idxI p k) = false := by simpa [hk2] using hT3
              have HT := Lib.hid hT4
              clear hT3 hT4
              go_wp2_with (fail)
              refine (index_yes _ _ _ (by omega) (by omega) (by omega) (by omega)).mono ?_
              rintro e w1 ⟨rfl, rfl⟩
              go_wp2_with (at_builtin; refine wpList_append_own _ rfl _ _ 81 rfl (w.heap.size + 1) 109 i0 (.agg #[.int .i64 0, .int .i64 0]) 2 16 Try.underlying81 hi hz0 hz1 hz2 rfl (by decide) _ _ _ rfl (hown.alloc _) ⟨wr.heap.size, 0, none⟩ 1 1 [.int .i64 f, .int .i64 (idxI p k)] rfl rfl (cell_two_new _ _ _ _) (fun x hx => by simp at hx; rcases hx with rfl | rfl <;> rfl) (by unfold maxLen; have := HD.out; omega) (by have := HD.out; omega) (by simp; omega) ?_; intro v' w3 hown' hgrow3 hnil3)
              have hb3 : Below (w.heap.size + 1) (w.alloc (.cells #[.bool false, .bool false, .bool false, .int .i64 0] 78)) w3 := Below.grown (hb.alloc (by omega) _) hgrow3 (by simp; omega) (fun j hj => (hown.lt _ hj).1)
              have hs3 : w.heap.size < w3.heap.size := by have := hb3.size; simp at this; omega
              have kb3 : Below w.heap.size w w3 := ((Below.refl _ _).alloc (Nat.le_refl _) _).trans (hb3.mono (by omega))
              have hm3 := hm.below kb3
              rw [← wCells_snoc] at hown'
              refine (get_any pm bk n W _ _ _ hm3).mono ?_
              rintro e w4 ⟨rfl, hb4⟩
              have hb4' := hb3.trans (hb4.mono (by omega))
              have kb4 := kb3.trans (hb4.mono kb3.size)
              have c0 : w4.cell? ⟨w.heap.size, 0, none⟩ = some (.bool false) := keep hb4' (by omega) (by simp [go_sem])
              have c1 : w4.cell? ⟨w.heap.size, 1, none⟩ = some (.bool false) := keep hb4' (by omega) (by simp [go_sem])
              have c2 : w4.cell? ⟨w.heap.size, 2, none⟩ = some (.bool false) := keep hb4' (by omega) (by simp [go_sem])
              have c3 : w4.cell? ⟨w.heap.size, 3, none⟩ = some (.int .i64 0) := keep hb4' (by omega) (by simp [go_sem])
              have g0 : w4.frozen? ⟨w.heap.size, 0, none⟩ = false := keepF hb4' (by omega) (by simp [go_sem])
              have g1 : w4.frozen? ⟨w.heap.size, 1, none⟩ = false := keepF hb4' (by omega) (by simp [go_sem])
              have g2 : w4.frozen? ⟨w.heap.size, 2, none⟩ = false := keepF hb4' (by omega) (by simp [go_sem])
              have g3 : w4.frozen? ⟨w.heap.size, 3, none⟩ = false := keepF hb4' (by omega) (by simp [go_sem])
              have hs4 : w.heap.size < w4.heap.size := by have := hb4'.size; simp at this; omega
              have hw4 : w4.ownsRow (w.heap.size + 1) 109 2 v' (d.length + 1) (wCells (d ++ [(f, idxI p k)])) := own_below hown' hb4
              rw [HE.out, HV.out, HT.out]
              go_wp2_with (fail)
              rw [Exit.noGoto_ret]
              have hRe := HR2.out
              subst hRe
              refine bodyPost_ret (v := .tuple #[.agg #[.bool false, .bool false, .bool false, .int .i64 0], v', .int .i64 11]) (by simp [results, Try.results44, go_sem, c0, c1, c2, c3, hs4]) rfl ⟨v', by simp [behind], ?_, ?_⟩
              · simp only [behind, List.length_append, List.length_cons, List.length_nil]
                repeat (first | with_reducible exact hw4 | with_reducible refine ownsRow_setCell_below ?_ (by simp) _ | with_reducible refine World.ownsRow.alloc ?_ _)
              · repeat (first | with_reducible exact kb4 | with_reducible refine Below.setCell ?_ (by simp) _ | with_reducible refine Below.alloc ?_ (by have := kb4.size; simp <;> omega) _)
            · have hT4 : gT W n f (idxI p k) = true := by simpa [hk2] using hT3
              have hk2d : decide ((k : Int) < 2) = false := by simp; omega
              have HT := Lib.hid hT4
              clear hT3 hT4
              go_wp2_with (fail)
              refine (index_yes _ _ _ (by omega) (by omega) (by omega) (by omega)).mono ?_
              rintro e w1 ⟨rfl, rfl⟩
              go_wp2_with (at_builtin; refine wpList_append_own _ rfl _ _ 81 rfl (w.heap.size + 1) 109 i0 (.agg #[.int .i64 0, .int .i64 0]) 2 16 Try.underlying81 hi hz0 hz1 hz2 rfl (by decide) _ _ _ rfl (hown.alloc _) ⟨wr.heap.size, 0, none⟩ 1 1 [.int .i64 f, .int .i64 (idxI p k)] rfl rfl (cell_two_new _ _ _ _) (fun x hx => by simp at hx; rcases hx with rfl | rfl <;> rfl) (by unfold maxLen; have := HD.out; omega) (by have := HD.out; omega) (by simp; omega) ?_; intro v' w3 hown' hgrow3 hnil3)
              have hb3 : Below (w.heap.size + 1) (w.alloc (.cells #[.bool false, .bool false, .bool false, .int .i64 0] 78)) w3 := Below.grown (hb.alloc (by omega) _) hgrow3 (by simp; omega) (fun j hj => (hown.lt _ hj).1)
              have hs3 : w.heap.size < w3.heap.size := by have := hb3.size; simp at this; omega
              have kb3 : Below w.heap.size w w3 := ((Below.refl _ _).alloc (Nat.le_refl _) _).trans (hb3.mono (by omega))
              have hm3 := hm.below kb3
              rw [← wCells_snoc] at hown'
              refine (get_any pm bk n W _ _ _ hm3).mono ?_
              rintro e w4 ⟨rfl, hb4⟩
              have hb4' := hb3.trans (hb4.mono (by omega))
              have kb4 := kb3.trans (hb4.mono kb3.size)
              have c0 : w4.cell? ⟨w.heap.size, 0, none⟩ = some (.bool false) := keep hb4' (by omega) (by simp [go_sem])
              have c1 : w4.cell? ⟨w.heap.size, 1, none⟩ = some (.bool false) := keep hb4' (by omega) (by simp [go_sem])
              have c2 : w4.cell? ⟨w.heap.size, 2, none⟩ = some (.bool false) := keep hb4' (by omega) (by simp [go_sem])
              have c3 : w4.cell? ⟨w.heap.size, 3, none⟩ = some (.int .i64 0) := keep hb4' (by omega) (by simp [go_sem])
              have g0 : w4.frozen? ⟨w.heap.size, 0, none⟩ = false := keepF hb4' (by omega) (by simp [go_sem])
              have g1 : w4.frozen? ⟨w.heap.size, 1, none⟩ = false := keepF hb4' (by omega) (by simp [go_sem])
              have g2 : w4.frozen? ⟨w.heap.size, 2, none⟩ = false := keepF hb4' (by omega) (by simp [go_sem])
              have g3 : w4.frozen? ⟨w.heap.size, 3, none⟩ = false := keepF hb4' (by omega) (by simp [go_sem])
              have hs4 : w.heap.size < w4.heap.size := by have := hb4'.size; simp at this; omega
              have hw4 : w4.ownsRow (w.heap.size + 1) 109 2 v' (d.length + 1) (wCells (d ++ [(f, idxI p k)])) := own_below hown' hb4
              rw [HE.out, HV.out, HT.out]
              go_wp2_with (fail)
              rw [Exit.noGoto_ret]
              have hRe := HR2.out
              subst hRe
              refine bodyPost_ret (v := .tuple #[.agg #[.bool false, .bool false, .bool false, .int .i64 0], v', .int .i64 11]) (by simp [results, Try.results44, go_sem, c0, c1, c2, c3, hs4]) rfl ⟨v', by simp [behind], ?_, ?_⟩
              · simp only [behind, List.length_append, List.length_cons, List.length_nil]
                repeat (first | with_reducible exact hw4 | with_reducible refine ownsRow_setCell_below ?_ (by simp) _ | with_reducible refine World.ownsRow.alloc ?_ _)
              · repeat (first | with_reducible exact kb4 | with_reducible refine Below.setCell ?_ (by simp) _ | with_reducible refine Below.alloc ?_ (by have := kb4.size; simp <;> omega) _)
      · have hE' : (gE W n f (idxI p k) != 0) = true := by simp [hE]
        rw [if_pos hE] at hwl
        have HR2 : Hid (behind d ⟨false, false, false, 0, [(f, idxI p k)], 11⟩ = R) := by rw [← hwl]; exact HR
        clear hwl hE HR
        go_wp2_with (fail)
        refine (index_yes _ _ _ (by omega) (by omega) (by omega) (by omega)).mono ?_
        rintro e w1 ⟨rfl, rfl⟩
        go_wp2_with (at_builtin; refine wpList_append_own _ rfl _ _ 81 rfl (w.heap.size + 1) 109 i0 (.agg #[.int .i64 0, .int .i64 0]) 2 16 Try.underlying81 hi hz0 hz1 hz2 rfl (by decide) _ _ _ rfl (hown.alloc _) ⟨wr.heap.size, 0, none⟩ 1 1 [.int .i64 f, .int .i64 (idxI p k)] rfl rfl (cell_two_new _ _ _ _) (fun x hx => by simp at hx; rcases hx with rfl | rfl <;> rfl) (by unfold maxLen; have := HD.out; omega) (by have := HD.out; omega) (by simp; omega) ?_; intro v' w3 hown' hgrow3 hnil3)
        have hb3 : Below (w.heap.size + 1) (w.alloc (.cells #[.bool false, .bool false, .bool false, .int .i64 0] 78)) w3 := Below.grown (hb.alloc (by omega) _) hgrow3 (by simp; omega) (fun j hj => (hown.lt _ hj).1)
        have hs3 : w.heap.size < w3.heap.size := by have := hb3.size; simp at this; omega
        have kb3 : Below w.heap.size w w3 := ((Below.refl _ _).alloc (Nat.le_refl _) _).trans (hb3.mono (by omega))
        have hm3 := hm.below kb3
        rw [← wCells_snoc] at hown'
        refine (get_any pm bk n W _ _ _ hm3).mono ?_
        rintro e w4 ⟨rfl, hb4⟩
        have hb4' := hb3.trans (hb4.mono (by omega))
        have kb4 := kb3.trans (hb4.mono kb3.size)
        have c0 : w4.cell? ⟨w.heap.size, 0, none⟩ = some (.bool false) := keep hb4' (by omega) (by simp [go_sem])
        have c1 : w4.cell? ⟨w.heap.size, 1, none⟩ = some (.bool false) := keep hb4' (by omega) (by simp [go_sem])
        have c2 : w4.cell? ⟨w.heap.size, 2, none⟩ = some (.bool false) := keep hb4' (by omega) (by simp [go_sem])
        have c3 : w4.cell? ⟨w.heap.size, 3, none⟩ = some (.int .i64 0) := keep hb4' (by omega) (by simp [go_sem])
        have g0 : w4.frozen? ⟨w.heap.size, 0, none⟩ = false := keepF hb4' (by omega) (by simp [go_sem])
        have g1 : w4.frozen? ⟨w.heap.size, 1, none⟩ = false := keepF hb4' (by omega) (by simp [go_sem])
        have g2 : w4.frozen? ⟨w.heap.size, 2, none⟩ = false := keepF hb4' (by omega) (by simp [go_sem])
        have g3 : w4.frozen? ⟨w.heap.size, 3, none⟩ = false := keepF hb4' (by omega) (by simp [go_sem])
        have hs4 : w.heap.size < w4.heap.size := by have := hb4'.size; simp at this; omega
        have hw4 : w4.ownsRow (w.heap.size + 1) 109 2 v' (d.length + 1) (wCells (d ++ [(f, idxI p k)])) := own_below hown' hb4
        go_wp2_with (fail)
        rw [Exit.noGoto_ret]
        have hRe := HR2.out
        subst hRe
        refine bodyPost_ret (v := .tuple #[.agg #[.bool false, .bool false, .bool false, .int .i64 0], v', .int .i64 11]) (by simp [results, Try.results44, go_sem, c0, c1, c2, c3, hs4]) rfl ⟨v', by simp [behind], ?_, ?_⟩
        · simp only [behind, List.length_append, List.length_cons, List.length_nil]
          repeat (first | with_reducible exact hw4 | with_reducible refine ownsRow_setCell_below ?_ (by simp) _ | with_reducible refine World.ownsRow.alloc ?_ _)
        · repeat (first | with_reducible exact kb4 | with_reducible refine Below.setCell ?_ (by simp) _ | with_reducible refine Below.alloc ?_ (by have := kb4.size; simp <;> omega) _)
    · have hk3 : k = 3 := by omega
      subst hk3
      have HR2 : Hid (behind d ⟨false, false, false, 0, [], 11⟩ = R) := HR
      clear HR
      have c0 : wr.cell? ⟨w.heap.size, 0, none⟩ = some (.bool false) := keep hb (by omega) (by simp [go_sem])
      have c1 : wr.cell? ⟨w.heap.size, 1, none⟩ = some (.bool false) := keep hb (by omega) (by simp [go_sem])
      have c2 : wr.cell? ⟨w.heap.size, 2, none⟩ = some (.bool false) := keep hb (by omega) (by simp [go_sem])
      have c3 : wr.cell? ⟨w.heap.size, 3, none⟩ = some (.int .i64 0) := keep hb (by omega) (by simp [go_sem])
      have g0 : wr.frozen? ⟨w.heap.size, 0, none⟩ = false := keepF hb (by omega) (by simp [go_sem])
      have g1 : wr.frozen? ⟨w.heap.size, 1, none⟩ = false := keepF hb (by omega) (by simp [go_sem])
      have g2 : wr.frozen? ⟨w.heap.size, 2, none⟩ = false := keepF hb (by omega) (by simp [go_sem])
      have g3 : wr.frozen? ⟨w.heap.size, 3, none⟩ = false := keepF hb (by omega) (by simp [go_sem])
      have HD := Lib.hid hd
      clear hd
      go_wp2_with (fail)
      rw [Exit.noGoto_ret]
      have hRe := HR2.out
      subst hRe
      refine bodyPost_ret (v := .tuple #[.agg #[.bool false, .bool false, .bool false, .int .i64 0], u9, .int .i64 11]) (by simp [results, Try.results44, go_sem, c0, c1, c2, c3, hbs]) rfl ⟨u9, by simp [behind], ?_, ?_⟩
      · simp only [behind, List.append_nil]
        repeat (first | with_reducible exact hown | with_reducible refine ownsRow_setCell_below ?_ (by simp) _ | with_reducible refine World.ownsRow.alloc ?_ _)
      · repeat (first | with_reducible exact kb | with_reducible refine Below.setCell ?_ (by simp) _ | with_reducible refine Below.alloc ?_ (by have := kb.size; simp <;> omega) _)

/-- What walk.Walk finds. -/
def walkM (W : Nat → Int) (n : Nat) (r p : Int) : WRes :=
  if (0 ≤ r ∧ r < n) ∧ (0 ≤ p ∧ p < 4096) then walkL W n p 3 r else ⟨false, false, false, 0, [], 1⟩

theorem walk_out (pm bk n : Nat) (W : Nat → Int) (r p : Int) (w : World) (hm : MemIn w pm bk n W) (h : ¬ ((0 ≤ r ∧ r < n) ∧ (0 ≤ p ∧ p < 4096))) :
    Calls Try.prog 44 #[.pointer (some ⟨pm, 0, none⟩), .int .i64 r, .int .i64 p] w fun e w' => e = .returned (.tuple #[.agg #[.bool false, .bool false, .bool false, .int .i64 0], .slice none 0 0, .int .i64 1]) ∧ Below w.heap.size w w' := by
  have hm1 : MemIn (w.alloc (.cells #[.bool false, .bool false, .bool false, .int .i64 0] 78)) pm bk n W := hm.below ((Below.refl _ _).alloc (Nat.le_refl _) _)
  have hh : ¬ (0 ≤ r ∧ r < n) ∨ ((0 ≤ r ∧ r < n) ∧ p < 0) ∨ ((0 ≤ r ∧ r < n) ∧ ¬ p < 0 ∧ 4096 ≤ p) := by omega
  clear h
  rcases hh with hf | ⟨hf, h1⟩ | ⟨hf, h1, h2⟩
  all_goals
    go_enter Try.func44, Try.ntmps44
    go_wp2_with (fail)
    go_step3
    go_wp2_with (fail)
    first
      | (refine (wk_has_no pm bk n W _ _ hm1 hf).mono ?_; rintro e w1 ⟨rfl, rfl⟩)
      | (refine (wk_has_yes pm bk n W _ _ hm1 hf.1 hf.2).mono ?_; rintro e w1 ⟨rfl, rfl⟩)
    go_wp2_with (fail)
    rw [Exit.noGoto_ret]
    refine bodyPost_ret (v := .tuple #[.agg #[.bool false, .bool false, .bool false, .int .i64 0], .slice none 0 0, .int .i64 1]) (by simp [results, Try.results44, go_sem]) rfl ⟨rfl, ?_⟩
    repeat (first | with_reducible exact Below.refl _ _ | with_reducible refine Below.setCell ?_ (by simp) _ | with_reducible refine Below.alloc ?_ (by simp <;> omega) _)

theorem walk_any (pm bk n : Nat) (W : Nat → Int) (r p : Int) (w : World) (hm : MemIn w pm bk n W) (R : WRes) (hR : walkM W n r p = R) :
    Calls Try.prog 44 #[.pointer (some ⟨pm, 0, none⟩), .int .i64 r, .int .i64 p] w fun e w' => ∃ v, e = .returned (.tuple #[.agg #[.bool R.v, .bool R.wr, .bool R.tb, .int .i64 R.fr], v, .int .i64 R.e]) ∧ w'.ownsRow (w.heap.size + 1) 109 2 v R.st.length (wCells R.st) ∧ Below w.heap.size w w' := by
  by_cases h : (0 ≤ r ∧ r < n) ∧ (0 ≤ p ∧ p < 4096)
  · rw [walkM, if_pos h] at hR
    exact walk_in pm bk n W r p w hm h.1.1 h.1.2 h.2.1 h.2.2 R hR
  · rw [walkM, if_neg h] at hR
    subst hR
    refine (walk_out pm bk n W r p w hm h).mono fun e w' ⟨he, hb⟩ => ⟨_, he, World.ownsRow_nil _ _ _ _, hb⟩

end Go.Proofs.Ytoiiblajgkdabaa

namespace Go.Proofs.Ytoiiblajgkdabaa
set_option linter.unusedSimpArgs false
set_option linter.unusedVariables false
set_option maxRecDepth 100000
open Go.RowKit
set_option maxHeartbeats 4000000

/-- The words behind an entry that is put; the error. -/
def putW (W : Nat → Int) (n : Nat) (f p : Int) (v wr tb : Bool) (fr : Int) : Nat → Int := if inT n f p ∧ rightB v wr tb fr = true then setW W (16 * f + p).toNat (wordI v wr tb fr) else W
def putE (n : Nat) (f p : Int) (v wr tb : Bool) (fr : Int) : Int := if inT n f p ∧ rightB v wr tb fr = true then 0 else 1

theorem put_any (pm bk n : Nat) (W : Nat → Int) (f p : Int) (v wr tb : Bool) (fr : Int) (w : World) (hm : MemIn w pm bk n W) :
    Calls Try.prog 61 #[.pointer (some ⟨pm, 0, none⟩), .int .i64 f, .int .i64 p, .agg #[.bool v, .bool wr, .bool tb, .int .i64 fr]] w fun e w' => e = .returned (.int .i64 (putE n f p v wr tb fr)) ∧ MemIn w' pm bk n (putW W n f p v wr tb fr) ∧ Touch (· = bk) w w' := by
  unfold putW putE
  by_cases h : inT n f p ∧ rightB v wr tb fr = true
  · simp only [h, and_self, if_true]
    exact put_in pm bk n W f p v wr tb fr w hm h.1 h.2
  · simp only [h, if_false]
    exact (put_out pm bk n W f p v wr tb fr w hm h).mono fun e w' ⟨he, hb⟩ => ⟨he, hm.below hb, Touch.of_below hb⟩

/-- The words behind the three entries that the laws put first. -/
def tabW (W : Nat → Int) (n : Nat) : Nat → Int := putW (putW (putW W n 0 1 true false true 1) n 1 2 true false true 2) n 2 3 true true false 7

def Z0 : Nat → Int := fun _ => 0
theorem aw1 : (walkM (tabW Z0 4) 4 0 291).e = 0 ∧ (walkM (tabW Z0 4) 4 0 291).fr = 7 ∧ (walkM (tabW Z0 4) 4 0 291).wr = true ∧ (walkM (tabW Z0 4) 4 0 291).st.length = 3 := by decide +kernel
theorem aw2 : (walkM (tabW Z0 4) 4 0 547).e = 10 ∧ (walkM (tabW Z0 4) 4 0 547).st.length = 1 := by decide +kernel
theorem aw3 : blankB (tabW Z0 4) 4 3 = true ∧ blankB (tabW Z0 4) 4 1 = false := by decide +kernel

theorem own_len {w : World} {base e size n : Nat} {v : Value} {xs : List Value} (h : w.ownsRow base e size v n xs) : ∃ a cap, v = .slice a n cap := by
  rcases h.2 with ⟨rfl, rfl⟩ | ⟨g, cap, cur, rfl, _⟩
  · exact ⟨_, _, rfl⟩
  · exact ⟨_, _, rfl⟩

/-! ### WalkPut -/
theorem putW_mem (W : Nat → Int) (n : Nat) (f p : Int) (v wr tb : Bool) (fr : Int) (h : putE n f p v wr tb fr ≠ 0) : putW W n f p v wr tb fr = W := by
  unfold putE at h; unfold putW
  split at h
  · exact absurd rfl h
  · rename_i hn; rw [if_neg hn]
theorem putE_zero (n : Nat) (f p : Int) (v wr tb : Bool) (fr : Int) : putE n f p v wr tb fr = 0 ↔ inT n f p ∧ rightB v wr tb fr = true := by
  unfold putE; split <;> simp_all

/-- All words are entries' words. -/
def Fine (W : Nat → Int) : Prop := ∀ a, ofB (W a) = true
theorem fine_Z0 : Fine Z0 := fun _ => by show ofB 0 = true; decide
theorem fine_put {W : Nat → Int} (h : Fine W) (n : Nat) (f p : Int) (v wr tb : Bool) (fr : Int) : Fine (putW W n f p v wr tb fr) := by
  unfold putW
  split
  · rename_i hr
    intro a
    unfold setW
    split
    · exact word_ofB _ _ _ _ hr.2
    · exact h a
  · exact h
theorem fine_tab {W : Nat → Int} (h : Fine W) (n : Nat) : Fine (tabW W n) := fine_put (fine_put (fine_put h _ _ _ _ _ _ _) _ _ _ _ _ _ _) _ _ _ _ _ _ _
theorem fine_gE {W : Nat → Int} (h : Fine W) {n : Nat} {f p : Int} (hi : inT n f p) : gE W n f p = 0 := by
  unfold gE; rw [if_pos hi]; simp [oE, h _]
theorem out_gE (W : Nat → Int) {n : Nat} {f p : Int} (hi : ¬ inT n f p) : gE W n f p = 1 ∧ gV W n f p = false ∧ gW W n f p = false ∧ gT W n f p = false ∧ gF W n f p = 0 := by
  unfold gE gV gW gT gF; simp [hi]

theorem get_put_same (W : Nat → Int) (n : Nat) (f p : Int) (v wr tb : Bool) (fr : Int) (hi : inT n f p) (hr : rightB v wr tb fr = true) :
    gE (putW W n f p v wr tb fr) n f p = 0 ∧ gV (putW W n f p v wr tb fr) n f p = v ∧ gW (putW W n f p v wr tb fr) n f p = wr ∧ gT (putW W n f p v wr tb fr) n f p = tb ∧ gF (putW W n f p v wr tb fr) n f p = fr := by
  obtain ⟨a, b, c, d⟩ := parts_of_word v wr tb fr hr
  have ho := word_ofB v wr tb fr hr
  unfold gE gV gW gT gF
  simp [hi, putW, hr, setW, oE, oV, oW, oT, oF, ho, a, b, c, d]

theorem get_put_other (W : Nat → Int) (n : Nat) (f p f' p' : Int) (v wr tb : Bool) (fr : Int) (hne : ¬ (f' = f ∧ p' = p)) :
    gE (putW W n f p v wr tb fr) n f' p' = gE W n f' p' ∧ gV (putW W n f p v wr tb fr) n f' p' = gV W n f' p' ∧ gW (putW W n f p v wr tb fr) n f' p' = gW W n f' p' ∧ gT (putW W n f p v wr tb fr) n f' p' = gT W n f' p' ∧ gF (putW W n f p v wr tb fr) n f' p' = gF W n f' p' := by
  by_cases hi : inT n f' p'
  · have : putW W n f p v wr tb fr (16 * f' + p').toNat = W (16 * f' + p').toNat := by
      unfold putW
      split
      · rename_i h
        unfold setW
        rw [if_neg]
        have h1 := h.1
        unfold inT at h1 hi
        omega
      · rfl
    unfold gE gV gW gT gF
    rw [this]
    simp
  · obtain ⟨a, b, c, d, e⟩ := out_gE W hi
    obtain ⟨a', b', c', d', e'⟩ := out_gE (putW W n f p v wr tb fr) hi
    simp [a, b, c, d, e, a', b', c', d', e']

end Go.Proofs.Ytoiiblajgkdabaa

namespace Go.Proofs.Ytoiiblajgkdabaa
set_option linter.unusedSimpArgs false
set_option linter.unusedVariables false
set_option maxRecDepth 100000
open Go.RowKit
set_option maxHeartbeats 4000000

theorem un_drew {B : Nat} {w w' : World} (h : Below B w.drew w') : Below B w w' := ⟨h.os, h.tape, h.output, h.size, h.block⟩
/-- An entry that stands in a variable. -/
structure EnAt (w : World) (b : Nat) (v wr tb : Bool) (fr : Int) : Prop where
  c0 : w.cell? ⟨b, 0, none⟩ = some (.bool v)
  c1 : w.cell? ⟨b, 1, none⟩ = some (.bool wr)
  c2 : w.cell? ⟨b, 2, none⟩ = some (.bool tb)
  c3 : w.cell? ⟨b, 3, none⟩ = some (.int .i64 fr)
  f0 : w.frozen? ⟨b, 0, none⟩ = false
  f1 : w.frozen? ⟨b, 1, none⟩ = false
  f2 : w.frozen? ⟨b, 2, none⟩ = false
  f3 : w.frozen? ⟨b, 3, none⟩ = false
  lt : b < w.heap.size
theorem EnAt.heap {w w' : World} {b : Nat} {v wr tb : Bool} {fr : Int} (h : EnAt w b v wr tb fr) (e : w'.heap[b]? = w.heap[b]?) : EnAt w' b v wr tb fr :=
  ⟨(cell_of_heap e _).trans h.c0, (cell_of_heap e _).trans h.c1, (cell_of_heap e _).trans h.c2, (cell_of_heap e _).trans h.c3, (frozen_of_heap e _).trans h.f0, (frozen_of_heap e _).trans h.f1, (frozen_of_heap e _).trans h.f2, (frozen_of_heap e _).trans h.f3, heap_ltO e h.lt⟩
theorem EnAt.below {w w' : World} {b : Nat} {v wr tb : Bool} {fr : Int} {B : Nat} (h : EnAt w b v wr tb fr) (t : Below B w w') (hB : b < B) : EnAt w' b v wr tb fr := h.heap (t.block b hB)
theorem EnAt.put {w : World} {b : Nat} {v wr tb : Bool} {fr : Int} (h : EnAt w b v wr tb fr) (v' wr' tb' : Bool) (fr' : Int) : EnAt ((((w.setCell ⟨b, 0, none⟩ (.bool v')).setCell ⟨b, 1, none⟩ (.bool wr')).setCell ⟨b, 2, none⟩ (.bool tb')).setCell ⟨b, 3, none⟩ (.int .i64 fr')) b v' wr' tb' fr' := by
  have c0 := h.c0; have c1 := h.c1; have c2 := h.c2; have c3 := h.c3; have f0 := h.f0; have f1 := h.f1; have f2 := h.f2; have f3 := h.f3; have lt := h.lt
  exact ⟨by simp [go_sem, c0], by simp [go_sem, c1], by simp [go_sem, c2], by simp [go_sem, c3], by simp [go_sem, f0], by simp [go_sem, f1], by simp [go_sem, f2], by simp [go_sem, f3], by simpa using lt⟩
theorem EnAt.new (w : World) (v wr tb : Bool) (fr : Int) (t : TypeId) : EnAt (w.alloc (.cells #[.bool v, .bool wr, .bool tb, .int .i64 fr] t)) w.heap.size v wr tb fr :=
  ⟨by simp [go_sem], by simp [go_sem], by simp [go_sem], by simp [go_sem], by simp [go_sem], by simp [go_sem], by simp [go_sem], by simp [go_sem], by simp⟩

/-- An address space. -/
structure SpIn (w : World) (ps pm pb r : Nat) : Prop where
  c0 : w.cell? ⟨ps, 0, none⟩ = some (.pointer (some ⟨pm, 0, none⟩))
  c1 : w.cell? ⟨ps, 1, none⟩ = some (.pointer (some ⟨pb, 0, none⟩))
  c2 : w.cell? ⟨ps, 2, none⟩ = some (.int .i64 r)
  lt : ps < w.heap.size
theorem SpIn.heap {w w' : World} {ps pm pb r : Nat} (h : SpIn w ps pm pb r) (e : w'.heap[ps]? = w.heap[ps]?) : SpIn w' ps pm pb r :=
  ⟨(cell_of_heap e _).trans h.c0, (cell_of_heap e _).trans h.c1, (cell_of_heap e _).trans h.c2, heap_ltO e h.lt⟩
theorem SpIn.below {w w' : World} {ps pm pb r : Nat} (h : SpIn w ps pm pb r) (b : Below w.heap.size w w') : SpIn w' ps pm pb r := h.heap (b.block ps h.lt)
def spP (ps pm pb r : Nat) : HP := ownP (fun k => k = ps) (fun w => SpIn w ps pm pb r)
theorem loc_sp (ps pm pb r : Nat) : Loc (fun k => k = ps) (fun w => SpIn w ps pm pb r) := fun _ _ h e => h.heap (e ps rfl)
theorem has_sp (ps pm pb r : Nat) : Has (spP ps pm pb r) ps := has_own rfl
theorem Sat.sp {g w : World} {ps pm pb r : Nat} {R : HP} (h : Sat g w (spP ps pm pb r * R)) : SpIn w ps pm pb r := Sat.inv h
theorem s_wput (pm n : Nat) (W : Nat → Int) (f p : Int) (v wr tb : Bool) (fr : Int) (g w : World) (R : HP) (h : Sat g w (memP pm n W * R)) :
    Calls Try.prog 61 #[.pointer (some ⟨pm, 0, none⟩), .int .i64 f, .int .i64 p, .agg #[.bool v, .bool wr, .bool tb, .int .i64 fr]] w fun e w' => e = .returned (.int .i64 (putE n f p v wr tb fr)) ∧ Sat g w' (memP pm n (putW W n f p v wr tb fr) * R) := by
  obtain ⟨bk, hm, _, hc⟩ := h.mem
  exact (put_any pm bk n W f p v wr tb fr w hm).mono fun e w' ⟨h1, h2, h3⟩ => ⟨h1, hc w' _ h3 h2⟩

theorem s_root (ps pm pb r : Nat) (g w : World) (R : HP) (h : Sat g w (spP ps pm pb r * R)) :
    Calls Try.prog 45 #[.pointer (some ⟨ps, 0, none⟩)] w fun e w' => e = .returned (.int .i64 r) ∧ w = w' := by
  have c2 := h.sp.c2
  go_enter Try.func45, Try.ntmps45
  go_wp2_with (fail)
  go_ret
  exact ⟨rfl, rfl⟩
theorem is_any (p : Int) (w : World) : Calls Try.prog 63 #[.int .i64 p] w fun e w' => e = .returned (.bool (decide (0 ≤ p) && decide (p < 4096))) ∧ w = w' := by
  by_cases h0 : 0 ≤ p
  · have g : decide (0 ≤ p) = true := decide_eq_true h0
    rw [g]
    go_enter Try.func63, Try.ntmps63
    go_wp2_with (fail)
    go_ret
    exact ⟨by simp, rfl⟩
  · have g : decide (0 ≤ p) = false := decide_eq_false h0
    rw [g]
    go_enter Try.func63, Try.ntmps63
    go_wp2_with (fail)
    go_ret
    exact ⟨by simp, rfl⟩

/-- What stands in the variables behind a Walk. -/
def WalkCut (w : World) (R : WRes) (s v e : Value) (wx : World) : Prop := ∃ be, s = .pointer (some ⟨be, 0, none⟩) ∧ e = .int .i64 R.e ∧ w.heap.size ≤ be ∧ EnAt wx be R.v R.wr R.tb R.fr ∧ wx.ownsRow w.heap.size 109 2 v R.st.length (wCells R.st) ∧ Below w.heap.size w wx ∧ v.ownBlock ≠ some be
theorem walkCut_new {w w3 : World} {B : Nat} {Q : WRes} {v : Value} (hB : w.heap.size ≤ B) (ho : w3.ownsRow B 109 2 v Q.st.length (wCells Q.st)) (hb : Below w.heap.size w w3) :
    WalkCut w Q (.pointer (some ⟨w3.heap.size, 0, none⟩)) v (.int .i64 Q.e) (w3.alloc (.cells #[.bool Q.v, .bool Q.wr, .bool Q.tb, .int .i64 Q.fr] 78)) :=
  ⟨_, rfl, rfl, hb.size, EnAt.new w3 _ _ _ _ _, own_low (ho.alloc _) hB, hb.alloc hb.size _, fun e => by have := (World.ownsRow.lt ho _ e).2; omega⟩
theorem walkCut_put {w w3 : World} {B : Nat} {Q : WRes} {v : Value} {v0 wr0 tb0 : Bool} {fr0 : Int} (hB : w.heap.size < B) (ho : w3.ownsRow B 109 2 v Q.st.length (wCells Q.st)) (he : EnAt w3 w.heap.size v0 wr0 tb0 fr0) (hb : Below w.heap.size w w3) :
    WalkCut w Q (.pointer (some ⟨w.heap.size, 0, none⟩)) v (.int .i64 Q.e) ((((w3.setCell ⟨w.heap.size, 0, none⟩ (.bool Q.v)).setCell ⟨w.heap.size, 1, none⟩ (.bool Q.wr)).setCell ⟨w.heap.size, 2, none⟩ (.bool Q.tb)).setCell ⟨w.heap.size, 3, none⟩ (.int .i64 Q.fr)) := by
  have ht : Touch (· = w.heap.size) w3 ((((w3.setCell ⟨w.heap.size, 0, none⟩ (.bool Q.v)).setCell ⟨w.heap.size, 1, none⟩ (.bool Q.wr)).setCell ⟨w.heap.size, 2, none⟩ (.bool Q.tb)).setCell ⟨w.heap.size, 3, none⟩ (.int .i64 Q.fr)) :=
    Touch.setCell (S := (· = w.heap.size)) (Touch.setCell (S := (· = w.heap.size)) (Touch.setCell (S := (· = w.heap.size)) (Touch.setCell (S := (· = w.heap.size)) (Touch.refl _ _) (Or.inl rfl) _) (Or.inl rfl) _) (Or.inl rfl) _) (Or.inl rfl) _
  exact ⟨_, rfl, rfl, Nat.le_refl _, he.put _ _ _ _, own_low (own_touch ho ht (fun g hg e => by omega)) (by omega), (((hb.setCell (Nat.le_refl _) _).setCell (Nat.le_refl _) _).setCell (Nat.le_refl _) _).setCell (Nat.le_refl _) _, fun e => by have := (World.ownsRow.lt ho _ e).1; omega⟩
theorem s_walk (pm n : Nat) (M : Nat → Int) (r : Nat) (p : Int) (g w : World) (R : HP) (h : Sat g w (memP pm n M * R)) (Q : WRes) (hQ : walkM M n r p = Q) :
    Calls Try.prog 44 #[.pointer (some ⟨pm, 0, none⟩), .int .i64 r, .int .i64 p] w fun e w' => ∃ v, e = .returned (.tuple #[.agg #[.bool Q.v, .bool Q.wr, .bool Q.tb, .int .i64 Q.fr], v, .int .i64 Q.e]) ∧ w'.ownsRow w.heap.size 109 2 v Q.st.length (wCells Q.st) ∧ Below w.heap.size w w' := by
  obtain ⟨bk, hm, _⟩ := h.mem
  exact (walk_any pm bk n M r p w hm Q hQ).mono fun e w' ⟨v, he, ho, hb⟩ => ⟨v, he, own_low ho (by omega), hb⟩

theorem s_find8 (ps pm pb r n : Nat) (M : Nat → Int) (p : Int) (g w : World) (R : HP) (h : Sat g w (spP ps pm pb r * (memP pm n M * R))) (Q : WRes) (hQ : walkM M n r p = Q) :
    Calls Try.prog 43 #[.pointer (some ⟨ps, 0, none⟩), .int .i64 p] w fun e w' => e = .returned (.tuple #[.agg #[.bool Q.v, .bool Q.wr, .bool Q.tb, .int .i64 Q.fr], .int .i64 Q.e]) ∧ Below w.heap.size w w' := by
  have HW : Hid (∀ w', Below w.heap.size w w' → Calls Try.prog 44 #[.pointer (some ⟨pm, 0, none⟩), .int .i64 r, .int .i64 p] w' fun e w2 => ∃ v, e = .returned (.tuple #[.agg #[.bool Q.v, .bool Q.wr, .bool Q.tb, .int .i64 Q.fr], v, .int .i64 Q.e]) ∧ w2.ownsRow w'.heap.size 109 2 v Q.st.length (wCells Q.st) ∧ Below w'.heap.size w' w2) := Lib.hid fun w' hb => s_walk pm n M r p g w' _ (h.below hb).swap Q hQ
  have hs := h.sp
  have c0 := hs.c0
  have c2 := hs.c2
  have hlt := hs.lt
  clear hQ
  have hne : ¬ ps = w.heap.size := by omega
  go_enter Try.func43, Try.ntmps43
  go_upto_region 1 with (fail)
  obtain ⟨w1, hw1⟩ : ∃ w1, w1 = w.alloc (.cells #[.bool false, .bool false, .bool false, .int .i64 0] 78) := ⟨_, rfl⟩
  have hb1 : Below w.heap.size w w1 := by rw [hw1]; repeat (first | with_reducible exact Below.refl _ _ | with_reducible assumption | with_reducible refine below_drewN ?_ _ | with_reducible refine Below.alloc ?_ (by simp <;> omega) _)
  have he1 := EnAt.new w false false false 0 78
  have hsz : w.heap.size < w1.heap.size := by rw [hw1]; simp
  rw [← hw1] at he1 ⊢
  clear hw1
  have hS : ∀ w', Below w1.heap.size w1 w' → w'.cell? ⟨ps, 0, none⟩ = some (.pointer (some ⟨pm, 0, none⟩)) ∧ w'.cell? ⟨ps, 2, none⟩ = some (.int .i64 r) := fun w' hb => ⟨keep (hb1.trans (hb.mono hb1.size)) hlt c0, keep (hb1.trans (hb.mono hb1.size)) hlt c2⟩
  go_cut [6, 7, 8] (fun s6 s7 s8 wx => WalkCut w1 Q s6 s7 s8 wx)
  case first =>
    go_region_held3 (fun w' => w'.cell? ⟨ps, 0, none⟩ = some (.pointer (some ⟨pm, 0, none⟩)) ∧ w'.cell? ⟨ps, 2, none⟩ = some (.int .i64 r)) (exact hS _ (by repeat (first | with_reducible exact Below.refl _ _ | with_reducible assumption | with_reducible refine below_drewN ?_ _ | with_reducible refine Below.drew ?_ | with_reducible refine Below.setCell ?_ (by first | omega | (simp <;> omega)) _ | with_reducible refine Below.alloc ?_ (by first | omega | (simp <;> omega)) _)))
      ((go_at_call 44
        refine (HW.out _ (hb1.trans (Below.mono (by repeat (first | with_reducible exact Below.refl _ _ | with_reducible assumption | with_reducible refine below_drewN ?_ _ | with_reducible refine Below.drew ?_ | with_reducible refine Below.setCell ?_ (by first | omega | (simp <;> omega)) _ | with_reducible refine Below.alloc ?_ (by first | omega | (simp <;> omega)) _)) hb1.size))).mono ?_
        rintro e w3 ⟨v, rfl, hown3, hb3'⟩
        first
          | (have hb4 := un_drew hb3'; have he := (EnAt.new w1 false false false 0 78).below hb4 (by simp); have hb3 : Below w1.heap.size w1 w3 := (Below.alloc (Below.refl _ _) (Nat.le_refl _) _).trans (hb4.mono (by simp)); have hs3 := hb3.size; have g0 := he.c0; have g1 := he.c1; have g2 := he.c2; have g3 := he.c3; have g4 := he.f0; have g5 := he.f1; have g6 := he.f2; have g7 := he.f3)
          | (have hb3 : Below w1.heap.size w1 w3 := un_drew hb3'; have hs3 := hb3.size)))
    · go_wp2_with (fail)
      go_meet
      exact walkCut_new (by simp) hown3 hb3
    · go_wp2_with (fail)
      go_meet
      exact walkCut_put (by simp) hown3 he hb3
  case rest =>
    obtain ⟨be, rfl, rfl, hbe, he, _, hb, _⟩ := hcut
    have x0 := he.c0; have x1 := he.c1; have x2 := he.c2; have x3 := he.c3
    have he2 := he1.below hb hsz
    have y0 := he2.c0; have y1 := he2.c1; have y2 := he2.c2; have y3 := he2.c3; have z0 := he2.f0; have z1 := he2.f1; have z2 := he2.f2; have z3 := he2.f3
    have hl2 := he2.lt
    clear hS HW
    go_wp2_with (fail)
    refine bodyPost_ret (v := .tuple #[.agg #[.bool Q.v, .bool Q.wr, .bool Q.tb, .int .i64 Q.fr], .int .i64 Q.e]) (by simp [results, Try.results43, go_sem, *]) rfl ⟨rfl, ?_⟩
    have hb2 := hb1.trans (hb.mono hb1.size)
    repeat (first | with_reducible exact Below.refl _ _ | with_reducible assumption | with_reducible refine below_drewN ?_ _ | with_reducible refine Below.drew ?_ | with_reducible refine Below.setCell ?_ (by first | omega | (simp <;> omega)) _ | with_reducible refine Below.alloc ?_ (by first | omega | (simp <;> omega)) _)

end Go.Proofs.Ytoiiblajgkdabaa
