/- What the functions of package walk return and write, by walks over their text. -/
import Derived.Test.YteehghjdifbjbaaEntryOf
import Derived.Test.YteehghjdifbjbaaMem
namespace Go.Proofs.Yteehghjdifbjbaa
set_option linter.unusedSimpArgs false
set_option linter.unusedVariables false
set_option maxRecDepth 100000
open Go.RowKit
set_option maxHeartbeats 1000000

theorem wk_has_yes (pm bk n : Nat) (W : Nat → Int) (f : Int) (w : World) (hm : MemIn w pm bk n W) (h0 : 0 ≤ f) (h1 : f < n) :
    Calls Try.prog 43 #[.pointer (some ⟨pm, 0, none⟩), .int .i64 f] w fun e w' => e = .returned (.bool true) ∧ w = w' := by
  go_enter Try.func43, Try.ntmps43
  go_wp2_with (go_at_call 62; refine (frames_any pm bk n W _ hm).mono ?_; rintro e w' ⟨rfl, rfl⟩)
  go_ret
  exact ⟨rfl, rfl⟩
theorem wk_has_no (pm bk n : Nat) (W : Nat → Int) (f : Int) (w : World) (hm : MemIn w pm bk n W) (h : ¬ (0 ≤ f ∧ f < n)) :
    Calls Try.prog 43 #[.pointer (some ⟨pm, 0, none⟩), .int .i64 f] w fun e w' => e = .returned (.bool false) ∧ w = w' := by
  have hh : f < 0 ∨ (¬ f < 0 ∧ n ≤ f) := by omega
  clear h
  rcases hh with h | ⟨h, h'⟩
  all_goals
    go_enter Try.func43, Try.ntmps43
    go_wp2_with (go_at_call 62; refine (frames_any pm bk n W _ hm).mono ?_; rintro e w' ⟨rfl, rfl⟩)
    go_ret
    exact ⟨by simp <;> omega, rfl⟩

/-- Is there such a place? -/
def inT (n : Nat) (f p : Int) : Prop := (0 ≤ f ∧ f < n) ∧ (0 ≤ p ∧ p < 16)
instance (n : Nat) (f p : Int) : Decidable (inT n f p) := by unfold inT; exact inferInstance

theorem ret_ent {w w1 : World} {o : Obj} (ho : o = .cells #[.bool false, .bool false, .bool false, .int .i64 0] 34) (hb : Below (w.alloc o).heap.size (w.alloc o) w1) :
    (w1.cell? ⟨w.heap.size, 0, none⟩ = some (.bool false) ∧ w1.cell? ⟨w.heap.size, 1, none⟩ = some (.bool false) ∧ w1.cell? ⟨w.heap.size, 2, none⟩ = some (.bool false) ∧ w1.cell? ⟨w.heap.size, 3, none⟩ = some (.int .i64 0)) ∧
    (w1.frozen? ⟨w.heap.size, 0, none⟩ = false ∧ w1.frozen? ⟨w.heap.size, 1, none⟩ = false ∧ w1.frozen? ⟨w.heap.size, 2, none⟩ = false ∧ w1.frozen? ⟨w.heap.size, 3, none⟩ = false) ∧ w.heap.size < w1.heap.size ∧ Below w.heap.size w w1 := by
  subst ho
  refine ⟨⟨keep hb (by simp) (by simp [go_sem]), keep hb (by simp) (by simp [go_sem]), keep hb (by simp) (by simp [go_sem]), keep hb (by simp) (by simp [go_sem])⟩,
    ⟨keepF hb (by simp) (by simp [go_sem]), keepF hb (by simp) (by simp [go_sem]), keepF hb (by simp) (by simp [go_sem]), keepF hb (by simp) (by simp [go_sem])⟩, ?_, ?_⟩
  · have := hb.size; simp at this; omega
  · exact ((Below.refl _ _).alloc (Nat.le_refl _) _).trans (hb.mono (by simp))

theorem get_in (pm bk n : Nat) (W : Nat → Int) (f p : Int) (w : World) (hm : MemIn w pm bk n W) (h : inT n f p) (E : Int) (hE : oE (W (16 * f + p).toNat) = E) (v wr tb : Bool) (fr : Int)
    (hv : oV (W (16 * f + p).toNat) = v) (hwr : oW (W (16 * f + p).toNat) = wr) (htb : oT (W (16 * f + p).toNat) = tb) (hfr : oF (W (16 * f + p).toNat) = fr) (hz : E ≠ 0 → v = false ∧ wr = false ∧ tb = false ∧ fr = 0) :
    Calls Try.prog 10 #[.pointer (some ⟨pm, 0, none⟩), .int .i64 f, .int .i64 p] w fun e w' => e = .returned (.tuple #[.agg #[.bool v, .bool wr, .bool tb, .int .i64 fr], .int .i64 (if E = 0 then 0 else 11)]) ∧ Below w.heap.size w w' := by
  obtain ⟨⟨f0, f1⟩, ⟨p0, p1⟩⟩ := h
  have hn := hm.n2
  have hlo := hm.lo (16 * f + p).toNat
  have hhi := hm.hi (16 * f + p).toNat
  have HE := Lib.hid hE; have HV := Lib.hid hv; have HW := Lib.hid hwr; have HT := Lib.hid htb; have HF := Lib.hid hfr
  clear hE hv hwr htb hfr
  have hx : Hid ((f * 16 + p).toNat = (16 * f + p).toNat) := by show _ = _; omega
  go_enter Try.func10, Try.ntmps10
  go_wp2_with (fail)
  refine (wk_has_yes pm bk n W _ _ ?_ f0 f1).mono ?_
  · exact hm.below ((Below.refl _ _).alloc (Nat.le_refl _) _)
  rintro e w1 ⟨rfl, rfl⟩
  go_wp2_with (fail)
  refine (read_yes pm bk n W _ _ ?_ (by omega) (by omega)).mono ?_
  · exact hm.below ((Below.refl _ _).alloc (Nat.le_refl _) _)
  rintro e w1 ⟨rfl, rfl⟩
  rw [hx.out]
  go_wp2_with (fail)
  refine (of_any _ _ hlo (by omega)).mono ?_
  rintro e w1 ⟨rfl, hb⟩
  obtain ⟨⟨c0, c1, c2, c3⟩, ⟨d0, d1, d2, d3⟩, z1, k1⟩ := ret_ent rfl hb
  rw [HE.out, HV.out, HW.out, HT.out, HF.out]
  by_cases hE : E = 0
  · have hE' : (E != 0) = false := by simp [hE]
    have H0 := Lib.hid hE
    clear hE
    go_wp2_with (fail)
    refine bodyPost_ret (v := .tuple #[.agg #[.bool v, .bool wr, .bool tb, .int .i64 fr], .int .i64 0]) (by simp [results, Try.results10, go_sem, c0, c1, c2, c3, z1]) rfl ⟨by simp [H0.out], ?_⟩
    repeat (first | exact k1 | refine Below.setCell ?_ (by simp) _ | refine Below.alloc ?_ (by have := k1.size; simp <;> omega) _)
  · have hE' : (E != 0) = true := by simp [hE]
    obtain ⟨rfl, rfl, rfl, rfl⟩ := hz hE
    have H0 := Lib.hid hE
    clear hE
    go_wp2_with (fail)
    refine bodyPost_ret (v := .tuple #[.agg #[.bool false, .bool false, .bool false, .int .i64 0], .int .i64 11]) (by simp [results, Try.results10, go_sem, c0, c1, c2, c3, z1]) rfl ⟨by simp [H0.out], ?_⟩
    repeat (first | exact k1 | refine Below.setCell ?_ (by simp) _ | refine Below.alloc ?_ (by have := k1.size; simp <;> omega) _)

theorem get_out (pm bk n : Nat) (W : Nat → Int) (f p : Int) (w : World) (hm : MemIn w pm bk n W) (h : ¬ inT n f p) :
    Calls Try.prog 10 #[.pointer (some ⟨pm, 0, none⟩), .int .i64 f, .int .i64 p] w fun e w' => e = .returned (.tuple #[.agg #[.bool false, .bool false, .bool false, .int .i64 0], .int .i64 1]) ∧ Below w.heap.size w w' := by
  have hm1 : MemIn (w.alloc (.cells #[.bool false, .bool false, .bool false, .int .i64 0] 34)) pm bk n W := hm.below ((Below.refl _ _).alloc (Nat.le_refl _) _)
  by_cases hf : 0 ≤ f ∧ f < n
  · obtain ⟨f0, f1⟩ := hf
    have hh : p < 0 ∨ (¬ p < 0 ∧ 16 ≤ p) := by
      by_cases p < 0
      · left; assumption
      · right
        refine ⟨by assumption, ?_⟩
        by_cases p < 16
        · exact absurd ⟨⟨f0, f1⟩, by omega, by assumption⟩ h
        · omega
    clear h
    rcases hh with h | ⟨h, h'⟩
    all_goals
      go_enter Try.func10, Try.ntmps10
      go_wp2_with (fail)
      refine (wk_has_yes pm bk n W _ _ hm1 f0 f1).mono ?_
      rintro e w1 ⟨rfl, rfl⟩
      go_wp2_with (fail)
      refine bodyPost_ret (v := .tuple #[.agg #[.bool false, .bool false, .bool false, .int .i64 0], .int .i64 1]) (by simp [results, Try.results10, go_sem]) rfl ⟨rfl, ?_⟩
      repeat (first | exact Below.refl _ _ | refine Below.setCell ?_ (by simp) _ | refine Below.alloc ?_ (by simp <;> omega) _)
  · go_enter Try.func10, Try.ntmps10
    go_wp2_with (fail)
    refine (wk_has_no pm bk n W _ _ hm1 hf).mono ?_
    rintro e w1 ⟨rfl, rfl⟩
    go_wp2_with (fail)
    refine bodyPost_ret (v := .tuple #[.agg #[.bool false, .bool false, .bool false, .int .i64 0], .int .i64 1]) (by simp [results, Try.results10, go_sem]) rfl ⟨rfl, ?_⟩
    repeat (first | exact Below.refl _ _ | refine Below.setCell ?_ (by simp) _ | refine Below.alloc ?_ (by simp <;> omega) _)

/-- What walk.Get returns: the entry's parts, and the error. -/
def gV (W : Nat → Int) (n : Nat) (f p : Int) : Bool := decide (inT n f p) && oV (W (16 * f + p).toNat)
def gW (W : Nat → Int) (n : Nat) (f p : Int) : Bool := decide (inT n f p) && oW (W (16 * f + p).toNat)
def gT (W : Nat → Int) (n : Nat) (f p : Int) : Bool := decide (inT n f p) && oT (W (16 * f + p).toNat)
def gF (W : Nat → Int) (n : Nat) (f p : Int) : Int := if inT n f p then oF (W (16 * f + p).toNat) else 0
def gE (W : Nat → Int) (n : Nat) (f p : Int) : Int := if inT n f p then (if oE (W (16 * f + p).toNat) = 0 then 0 else 11) else 1

theorem get_any (pm bk n : Nat) (W : Nat → Int) (f p : Int) (w : World) (hm : MemIn w pm bk n W) :
    Calls Try.prog 10 #[.pointer (some ⟨pm, 0, none⟩), .int .i64 f, .int .i64 p] w fun e w' => e = .returned (.tuple #[.agg #[.bool (gV W n f p), .bool (gW W n f p), .bool (gT W n f p), .int .i64 (gF W n f p)], .int .i64 (gE W n f p)]) ∧ Below w.heap.size w w' := by
  unfold gV gW gT gF gE
  by_cases h : inT n f p
  · simp only [h, decide_true, Bool.true_and, if_true]
    exact get_in pm bk n W f p w hm h _ rfl _ _ _ _ rfl rfl rfl rfl (fun hE => by
      have ho : ofB (W (16 * f + p).toNat) = false := by
        cases hb : ofB (W (16 * f + p).toNat) with
        | false => rfl
        | true => exact absurd (by simp [oE, hb]) hE
      simp [oV, oW, oT, oF, ho])
  · simp only [h, decide_false, Bool.false_and, if_false]
    exact get_out pm bk n W f p w hm h

theorem put_in (pm bk n : Nat) (W : Nat → Int) (f p : Int) (v wr tb : Bool) (fr : Int) (w : World) (hm : MemIn w pm bk n W) (h : inT n f p) (hr : rightB v wr tb fr = true) :
    Calls Try.prog 17 #[.pointer (some ⟨pm, 0, none⟩), .int .i64 f, .int .i64 p, .agg #[.bool v, .bool wr, .bool tb, .int .i64 fr]] w fun e w' => e = .returned (.int .i64 0) ∧ MemIn w' pm bk n (setW W (16 * f + p).toNat (wordI v wr tb fr)) ∧ Touch (· = bk) w w' := by
  obtain ⟨⟨f0, f1⟩, ⟨p0, p1⟩⟩ := h
  have hn := hm.n2
  have hE : wE v wr tb fr = 0 := by simp [wE, hr]
  have hI : wI v wr tb fr = wordI v wr tb fr := by simp [wI, hr]
  obtain ⟨b0, b1⟩ := word_bd v wr tb fr hr
  have HE := Lib.hid hE; have HI := Lib.hid hI
  clear hE hI
  have hx : Hid ((f * 16 + p).toNat = (16 * f + p).toNat) := by show _ = _; omega
  go_enter Try.func17, Try.ntmps17
  go_wp2_with (fail)
  refine (word_any _ _ _ _ _).mono ?_
  rintro e w1 ⟨rfl, hb⟩
  rw [HE.out, HI.out]
  have k1 : Below w.heap.size w w1 := ((Below.refl _ _).alloc (Nat.le_refl _) _).trans (hb.mono (by simp))
  have hm1 := hm.below k1
  go_wp2_with (fail)
  refine (wk_has_yes pm bk n W _ _ hm1 f0 f1).mono ?_
  rintro e w2 ⟨rfl, rfl⟩
  go_wp2_with (fail)
  refine (write_yes pm bk n W _ _ _ hm1 (by omega) (by omega) b0 (by omega)).mono ?_
  rintro e w2 ⟨rfl, hm2, ht⟩
  rw [hx.out] at hm2
  go_wp2_with (fail)
  go_ret
  exact ⟨rfl, hm2, (Touch.of_below k1).trans ht⟩

theorem put_out (pm bk n : Nat) (W : Nat → Int) (f p : Int) (v wr tb : Bool) (fr : Int) (w : World) (hm : MemIn w pm bk n W) (h : ¬ (inT n f p ∧ rightB v wr tb fr = true)) :
    Calls Try.prog 17 #[.pointer (some ⟨pm, 0, none⟩), .int .i64 f, .int .i64 p, .agg #[.bool v, .bool wr, .bool tb, .int .i64 fr]] w fun e w' => e = .returned (.int .i64 1) ∧ Below w.heap.size w w' := by
  cases hr : rightB v wr tb fr
  · have hE : wE v wr tb fr = 1 := by simp [wE, hr]
    have HE := Lib.hid hE
    clear hE
    go_enter Try.func17, Try.ntmps17
    go_wp2_with (fail)
    refine (word_any _ _ _ _ _).mono ?_
    rintro e w1 ⟨rfl, hb⟩
    rw [HE.out]
    have k1 : Below w.heap.size w w1 := ((Below.refl _ _).alloc (Nat.le_refl _) _).trans (hb.mono (by simp))
    go_wp2_with (fail)
    go_ret
    exact ⟨rfl, k1⟩
  · have hE : wE v wr tb fr = 0 := by simp [wE, hr]
    have HE := Lib.hid hE
    clear hE
    have h' : ¬ inT n f p := fun hi => h ⟨hi, hr⟩
    have hh : ¬ (0 ≤ f ∧ f < n) ∨ ((0 ≤ f ∧ f < n) ∧ p < 0) ∨ ((0 ≤ f ∧ f < n) ∧ ¬ p < 0 ∧ 16 ≤ p) := by unfold inT at h'; omega
    clear h h'
    rcases hh with hf | ⟨hf, h1⟩ | ⟨hf, h1, h2⟩
    all_goals
      go_enter Try.func17, Try.ntmps17
      go_wp2_with (fail)
      refine (word_any _ _ _ _ _).mono ?_
      rintro e w1 ⟨rfl, hb⟩
      rw [HE.out]
      have k1 : Below w.heap.size w w1 := ((Below.refl _ _).alloc (Nat.le_refl _) _).trans (hb.mono (by simp))
      have hm1 := hm.below k1
      go_wp2_with (fail)
      first
        | (refine (wk_has_no pm bk n W _ _ hm1 hf).mono ?_; rintro e w2 ⟨rfl, rfl⟩)
        | (refine (wk_has_yes pm bk n W _ _ hm1 hf.1 hf.2).mono ?_; rintro e w2 ⟨rfl, rfl⟩)
      go_wp2_with (fail)
      go_ret
      exact ⟨rfl, k1⟩

end Go.Proofs.Yteehghjdifbjbaa
