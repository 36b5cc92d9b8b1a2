/- Part 8 of the proofs: Ref11, Law07, Parts, Loads. -/
import Derived.Test.YteehghjdifbjbaaQ5
import Derived.Test.YteehghjdifbjbaaQ6
import Derived.Test.YteehghjdifbjbaaQ7
import Derived.Test.YteehghjdifbjbaaQ4
import Derived.Test.YteehghjdifbjbaaQ1
namespace Go.Proofs.Yteehghjdifbjbaa
set_option linter.unusedSimpArgs false
set_option linter.unusedVariables false
set_option maxRecDepth 100000
open Go.RowKit
set_option maxHeartbeats 4000000

/-- A line in a block of its own. -/
structure LineAt (w : World) (b : Nat) (l : Ln) : Prop where
  c0 : w.cell? ⟨b, 0, none⟩ = some (.int .i64 l.a)
  c1 : w.cell? ⟨b, 1, none⟩ = some (.int .i64 l.p)
  c2 : w.cell? ⟨b, 2, none⟩ = some (.int .i64 l.f)
  c3 : w.cell? ⟨b, 3, none⟩ = some (.bool l.w)
  f0 : w.frozen? ⟨b, 0, none⟩ = false
  f1 : w.frozen? ⟨b, 1, none⟩ = false
  f2 : w.frozen? ⟨b, 2, none⟩ = false
  f3 : w.frozen? ⟨b, 3, none⟩ = false
  lt : b < w.heap.size
theorem LineAt.heap {w w' : World} {b : Nat} {l : Ln} (h : LineAt w b l) (e : w'.heap[b]? = w.heap[b]?) : LineAt w' b l :=
  ⟨(cell_of_heap e _).trans h.c0, (cell_of_heap e _).trans h.c1, (cell_of_heap e _).trans h.c2, (cell_of_heap e _).trans h.c3, (frozen_of_heap e _).trans h.f0, (frozen_of_heap e _).trans h.f1, (frozen_of_heap e _).trans h.f2, (frozen_of_heap e _).trans h.f3, heap_size e h.lt⟩
theorem LineAt.below {w w' : World} {b : Nat} {l : Ln} {B : Nat} (h : LineAt w b l) (t : Below B w w') (hB : b < B) : LineAt w' b l := h.heap (t.block b hB)
theorem LineAt.touch {w w' : World} {b : Nat} {l : Ln} {S : Nat → Prop} (h : LineAt w b l) (t : Touch S w w') (hB : ¬ S b) : LineAt w' b l := h.heap (t.block b h.lt hB)
theorem LineAt.put {w : World} {b : Nat} {l : Ln} (h : LineAt w b l) (m : Ln) : LineAt ((((w.setCell ⟨b, 0, none⟩ (.int .i64 m.a)).setCell ⟨b, 1, none⟩ (.int .i64 m.p)).setCell ⟨b, 2, none⟩ (.int .i64 m.f)).setCell ⟨b, 3, none⟩ (.bool m.w)) b m := by
  have c0 := h.c0; have c1 := h.c1; have c2 := h.c2; have c3 := h.c3; have f0 := h.f0; have f1 := h.f1; have f2 := h.f2; have f3 := h.f3; have lt := h.lt
  exact ⟨by simp [go_sem, c0], by simp [go_sem, c1], by simp [go_sem, c2], by simp [go_sem, c3], by simp [go_sem, f0], by simp [go_sem, f1], by simp [go_sem, f2], by simp [go_sem, f3], by simpa using lt⟩
theorem LineAt.new (w : World) (l : Ln) (t : TypeId) : LineAt (w.alloc (.cells #[.int .i64 l.a, .int .i64 l.p, .int .i64 l.f, .bool l.w] t)) w.heap.size l :=
  ⟨by simp [go_sem], by simp [go_sem], by simp [go_sem], by simp [go_sem], by simp [go_sem], by simp [go_sem], by simp [go_sem], by simp [go_sem], by simp⟩
def zeroLn : Ln := ⟨0, 0, 0, false⟩
theorem lnV_get (l : Option Ln) : lnV l = .agg #[.int .i64 (l.getD zeroLn).a, .int .i64 (l.getD zeroLn).p, .int .i64 (l.getD zeroLn).f, .bool (l.getD zeroLn).w] := by cases l <;> rfl

theorem r11_use_yes (pu pm pb : Nat) (root asid : Int) (br n : Nat) (W : Nat → Int) (r a : Int) (w : World) (hu : UnitIn w pu pm pb root asid) (hm : RefIn w pm br n W) (h : useB n r a = true) :
    Calls Try.prog 12 #[.pointer (some ⟨pu, 0, none⟩), .int .i64 r, .int .i64 a] w fun e w' => e = .returned (.int .i64 0) ∧ UnitIn w' pu pm pb r a ∧ Touch (· = pu) w w' := by
  obtain ⟨⟨h1, h2⟩, h3⟩ : (hasB n r = true ∧ 1 ≤ a) ∧ a ≤ 8 := by simpa [useB] using h
  clear h
  obtain ⟨h4, h5⟩ := hasB_yes h1
  clear h1
  have hfin := hu.use r a
  have htt : Touch (· = pu) w ((w.setCell ⟨pu, 2, none⟩ (.int .i64 r)).setCell ⟨pu, 3, none⟩ (.int .i64 a)) := by
    repeat (first | with_reducible exact Touch.refl _ _ | refine Touch.setCell (S := (· = pu)) ?_ (Or.inl rfl) _)
  have c0 := hu.c0; have c2 := hu.c2; have c3 := hu.c3; have f2 := hu.f2; have f3 := hu.f3
  have HF := Lib.hid (And.intro hfin htt)
  clear hfin htt
  go_enter Try.func12, Try.ntmps12
  go_wp2_with (go_at_call 46; refine (r02_has_yes pm br n W _ _ hm h4 h5).mono ?_; rintro e w' ⟨rfl, rfl⟩)
  go_ret
  exact ⟨rfl, HF.out⟩
theorem r11_use_no (pu pm pb : Nat) (root asid : Int) (br n : Nat) (W : Nat → Int) (r a : Int) (w : World) (hu : UnitIn w pu pm pb root asid) (hm : RefIn w pm br n W) (h : useB n r a = false) :
    Calls Try.prog 12 #[.pointer (some ⟨pu, 0, none⟩), .int .i64 r, .int .i64 a] w fun e w' => e = .returned (.int .i64 1) ∧ w = w' := by
  have c0 := hu.c0
  cases h1 : hasB n r
  · have h2 := hasB_no h1
    clear h h1
    go_enter Try.func12, Try.ntmps12
    go_wp2_with (go_at_call 46; refine (r02_has_no pm br n W _ _ hm h2).mono ?_; rintro e w' ⟨rfl, rfl⟩)
    go_ret
    exact ⟨rfl, rfl⟩
  · have hh : a < 1 ∨ (¬ a < 1 ∧ 8 < a) := by
      unfold useB at h
      rw [h1] at h; simp at h
      omega
    obtain ⟨h4, h5⟩ := hasB_yes h1
    clear h h1
    rcases hh with h1 | ⟨h1, h2⟩
    all_goals
      go_enter Try.func12, Try.ntmps12
      go_wp2_with (go_at_call 46; refine (r02_has_yes pm br n W _ _ hm h4 h5).mono ?_; rintro e w' ⟨rfl, rfl⟩)
      go_ret
      exact ⟨rfl, rfl⟩

theorem r11_find_bad (pu pm pb : Nat) (root asid : Int) (addr : Int) (wr : Bool) (at_ : Int) (w : World) (hu : UnitIn w pu pm pb root asid) (h : fOk asid addr at_ = false) :
    Calls Try.prog 24 #[.pointer (some ⟨pu, 0, none⟩), .int .i64 addr, .bool wr, .int .i64 at_] w fun e w' => e = .returned (.tuple #[.int .i64 0, .int .i64 0, .int .i64 1]) ∧ w = w' := by
  have c3 := hu.c3
  have hh : (asid == 0) = true ∨ ((asid == 0) = false ∧ addr < 0) ∨ ((asid == 0) = false ∧ ¬ addr < 0 ∧ 65535 < addr) ∨ ((asid == 0) = false ∧ ¬ addr < 0 ∧ ¬ 65535 < addr ∧ at_ < 0) ∨ ((asid == 0) = false ∧ ¬ addr < 0 ∧ ¬ 65535 < addr ∧ ¬ at_ < 0 ∧ 7 < at_) := by
    by_cases q : asid = 0
    · exact Or.inl (by simp [q])
    · right
      have q' : (asid == 0) = false := by simp [q]
      simp [fOk, q] at h
      simp [q']
      omega
  clear h
  rcases hh with h | ⟨h, h1⟩ | ⟨h, h1, h2⟩ | ⟨h, h1, h2, h3⟩ | ⟨h, h1, h2, h3, h4⟩
  all_goals
    go_enter Try.func24, Try.ntmps24
    go_wp2_with (fail)
    go_ret3
    exact ⟨rfl, rfl⟩

/-- An entry in a block of its own. -/
structure EntAt (w : World) (b : Nat) (v wr tb : Bool) (fr : Int) : Prop where
  c0 : w.cell? ⟨b, 0, none⟩ = some (.bool v)
  c1 : w.cell? ⟨b, 1, none⟩ = some (.bool wr)
  c2 : w.cell? ⟨b, 2, none⟩ = some (.bool tb)
  c3 : w.cell? ⟨b, 3, none⟩ = some (.int .i64 fr)
  f0 : w.frozen? ⟨b, 0, none⟩ = false
  f1 : w.frozen? ⟨b, 1, none⟩ = false
  f2 : w.frozen? ⟨b, 2, none⟩ = false
  f3 : w.frozen? ⟨b, 3, none⟩ = false
  lt : b < w.heap.size
theorem EntAt.heap {w w' : World} {b : Nat} {v wr tb : Bool} {fr : Int} (h : EntAt w b v wr tb fr) (e : w'.heap[b]? = w.heap[b]?) : EntAt w' b v wr tb fr :=
  ⟨(cell_of_heap e _).trans h.c0, (cell_of_heap e _).trans h.c1, (cell_of_heap e _).trans h.c2, (cell_of_heap e _).trans h.c3, (frozen_of_heap e _).trans h.f0, (frozen_of_heap e _).trans h.f1, (frozen_of_heap e _).trans h.f2, (frozen_of_heap e _).trans h.f3, heap_size e h.lt⟩
theorem EntAt.below {w w' : World} {b : Nat} {v wr tb : Bool} {fr : Int} {B : Nat} (h : EntAt w b v wr tb fr) (t : Below B w w') (hB : b < B) : EntAt w' b v wr tb fr := h.heap (t.block b hB)
theorem EntAt.put {w : World} {b : Nat} {v wr tb : Bool} {fr : Int} (h : EntAt w b v wr tb fr) (v' wr' tb' : Bool) (fr' : Int) : EntAt ((((w.setCell ⟨b, 0, none⟩ (.bool v')).setCell ⟨b, 1, none⟩ (.bool wr')).setCell ⟨b, 2, none⟩ (.bool tb')).setCell ⟨b, 3, none⟩ (.int .i64 fr')) b v' wr' tb' fr' := by
  have c0 := h.c0; have c1 := h.c1; have c2 := h.c2; have c3 := h.c3; have f0 := h.f0; have f1 := h.f1; have f2 := h.f2; have f3 := h.f3; have lt := h.lt
  exact ⟨by simp [go_sem, c0], by simp [go_sem, c1], by simp [go_sem, c2], by simp [go_sem, c3], by simp [go_sem, f0], by simp [go_sem, f1], by simp [go_sem, f2], by simp [go_sem, f3], by simpa using lt⟩
theorem EntAt.new (w : World) (v wr tb : Bool) (fr : Int) (t : TypeId) : EntAt (w.alloc (.cells #[.bool v, .bool wr, .bool tb, .int .i64 fr] t)) w.heap.size v wr tb fr :=
  ⟨by simp [go_sem], by simp [go_sem], by simp [go_sem], by simp [go_sem], by simp [go_sem], by simp [go_sem], by simp [go_sem], by simp [go_sem], by simp⟩

/-- The reference's buffer behind a call. -/
def R9Post (w : World) (pr : Nat) (L' : Nat → Option Ln) (w' : World) : Prop := ∃ M' I', R9In w' pr M' I' ∧ L9 M' I' = L' ∧ Touch (· = pr) w w'
def CutA (w : World) (l : Option Ln) (s12 s13 : Value) (wx : World) : Prop := ∃ bl, s12 = .pointer (some ⟨bl, 0, none⟩) ∧ s13 = .bool l.isSome ∧ LineAt wx bl (l.getD zeroLn) ∧ w.heap.size ≤ bl ∧ Below w.heap.size w wx
def CutC (w : World) (bl : Nat) (l : Ln) (R : WRes) (s14 s16 : Value) (wx : World) : Prop := ∃ be, s14 = .pointer (some ⟨be, 0, none⟩) ∧ s16 = .int .i64 R.e ∧ EntAt wx be R.v R.wr R.tb R.fr ∧ bl < be ∧ LineAt wx bl l ∧ Below w.heap.size w wx
def CutB (w : World) (pr bl : Nat) (l : Ln) (L' : Nat → Option Ln) (wx : World) : Prop := LineAt wx bl l ∧ R9Post w pr L' wx

theorem L9_put (M : Nat → Ln) (I : Nat → Bool) (k : Nat) (l : Ln) : L9 (fun i => if i = k then l else M i) (fun i => if i = k then true else I i) = fun i => if i = k then some l else L9 M I i := by
  funext i
  unfold L9
  by_cases e : i = k
  · simp [e]
  · simp [e]
theorem r11_find_ok (pu pm pr : Nat) (root asid : Int) (br n : Nat) (W : Nat → Int) (M : Nat → Ln) (I : Nat → Bool) (addr : Int) (wr : Bool) (at_ : Int) (F : FRes) (w : World) (hu : UnitIn w pu pm pr root asid) (hm : RefIn w pm br n W) (ht : R9In w pr M I)
    (ha : 1 ≤ asid) (ha' : asid ≤ 8) (hpu : pu ≠ pr) (hpm : pm ≠ pr) (hbr : br ≠ pr) (h : fOk asid addr at_ = true) (hF : fRes n W (L9 M I) root asid addr wr at_ = F) :
    Calls Try.prog 24 #[.pointer (some ⟨pu, 0, none⟩), .int .i64 addr, .bool wr, .int .i64 at_] w fun e w' => e = .returned (.tuple #[.int .i64 F.f, .int .i64 F.p, .int .i64 F.e]) ∧ R9Post w pr (mTlb n W (L9 M I) root asid (addr / 16) at_) w' := by
  have c0 := hu.c0
  have c1 := hu.c1
  have c2 := hu.c2
  have c3 := hu.c3
  have ult := hu.lt
  obtain ⟨⟨a0, a1⟩, az, b0, b1⟩ := fOk_yes h
  have az' : (asid == 0) = false := by simp [az]
  have q0 : 0 ≤ addr / 16 := by omega
  have q1 : addr / 16 < 4096 := by omega
  unfold fRes at hF
  rw [if_pos h] at hF
  have HFF := Lib.hid hF
  clear hF h az
  have hne : ¬ pu = w.heap.size := by omega
  obtain ⟨T, hT⟩ : ∃ T, tFind (L9 M I) asid (addr / 16) = T := ⟨_, rfl⟩
  have HT := Lib.hid hT
  clear hT
  have hS : ∀ w', Below w.heap.size w w' → w'.cell? ⟨pu, 1, none⟩ = some (.pointer (some ⟨pr, 0, none⟩)) ∧ w'.cell? ⟨pu, 3, none⟩ = some (.int .i64 asid) := fun w' h => ⟨keep h ult c1, keep h ult c3⟩
  go_enter Try.func24, Try.ntmps24
  go_upto_region 4 with fail
  go_cut [12, 13] (fun s12 s13 wx => CutA w T s12 s13 wx)
  case first =>
    go_region_held3 (fun w' => w'.cell? ⟨pu, 1, none⟩ = some (.pointer (some ⟨pr, 0, none⟩)) ∧ w'.cell? ⟨pu, 3, none⟩ = some (.int .i64 asid)) (exact hS _ (by repeat (first | with_reducible exact Below.refl _ _ | with_reducible assumption | with_reducible refine below_drewN ?_ _ | with_reducible refine Below.drew ?_ | with_reducible refine Below.setCell ?_ (by first | omega | (simp <;> omega)) _ | with_reducible refine Below.alloc ?_ (by first | omega | (simp <;> omega)) _)))
      ((go_at_call 59
        refine (r09_find pr M I asid (addr / 16) _ (ht.below (by repeat (first | with_reducible exact Below.refl _ _ | with_reducible assumption | with_reducible refine below_drewN ?_ _ | with_reducible refine Below.drew ?_ | with_reducible refine Below.setCell ?_ (by first | omega | (simp <;> omega)) _ | with_reducible refine Below.alloc ?_ (by first | omega | (simp <;> omega)) _)))).mono ?_
        rintro e w3 ⟨rfl, hb3'⟩
        rw [HT.out, lnV_get]
        first
          | (have hb4 := below_un hb3'; have hl := (LineAt.new w zeroLn 41).below hb4 (by simp); have hb3 : Below w.heap.size w w3 := (Below.alloc (Below.refl _ _) (Nat.le_refl _) _).trans (hb4.mono (by simp)); have hs3 := hb3.size; have g0 := hl.c0; have g1 := hl.c1; have g2 := hl.c2; have g3 := hl.c3; have g4 := hl.f0; have g5 := hl.f1; have g6 := hl.f2; have g7 := hl.f3)
          | (have hb3 : Below w.heap.size w w3 := below_un hb3'; have hs3 := hb3.size)))
    · have lp := (LineAt.new w3 (T.getD zeroLn) 41)
      go_wp2_with (fail)
      go_meet
      exact ⟨w3.heap.size, rfl, rfl, lp, by omega, by repeat (first | with_reducible exact Below.refl _ _ | with_reducible assumption | with_reducible refine below_drewN ?_ _ | with_reducible refine Below.drew ?_ | with_reducible refine Below.setCell ?_ (by first | omega | (simp <;> omega)) _ | with_reducible refine Below.alloc ?_ (by first | omega | (simp <;> omega)) _)⟩
    · have lp := hl.put (T.getD zeroLn)
      go_wp2_with (fail)
      go_meet
      exact ⟨w.heap.size, rfl, rfl, lp, by omega, by repeat (first | with_reducible exact Below.refl _ _ | with_reducible assumption | with_reducible refine below_drewN ?_ _ | with_reducible refine Below.drew ?_ | with_reducible refine Below.setCell ?_ (by first | omega | (simp <;> omega)) _ | with_reducible refine Below.alloc ?_ (by first | omega | (simp <;> omega)) _)⟩
  case rest =>
    obtain ⟨bl, rfl, rfl, hl, hbl, kb⟩ := hcut
    go_upto_if 54 with (fail)
    go_cut [] (fun wx => ∃ l, mLine n W (L9 M I) root asid (addr / 16) = some l ∧ CutB w pr bl l (mTlb n W (L9 M I) root asid (addr / 16) at_) wx)
    case first =>
      have hx0 := hl.c0
      cases T with
      | some l0 =>
        have e1 : mLine n W (L9 M I) root asid (addr / 16) = some l0 := by unfold mLine; rw [HT.out]
        have e2 : mTlb n W (L9 M I) root asid (addr / 16) at_ = L9 M I := by unfold mTlb; rw [HT.out]
        have E1 := Lib.hid e1
        have E2 := Lib.hid e2
        clear e1 e2 hx0
        go_wp2_with (fail)
        go_meet
        exact ⟨l0, E1.out, hl, M, I, ht.below kb, E2.out.symm, Touch.of_below kb⟩
      | none =>
        obtain ⟨R, hR⟩ : ∃ R, walkM W n root (addr / 16) = R := ⟨_, rfl⟩
        have HR := Lib.hid hR
        clear hR hx0
        have hm1 := hm.below kb
        have ult1 : pu < wc.heap.size := Nat.lt_of_lt_of_le ult kb.size
        have d0 := keep kb ult c0
        have d2 := keep kb ult c2
        have hS2 : ∀ w', Below wc.heap.size wc w' → w'.cell? ⟨pu, 0, none⟩ = some (.pointer (some ⟨pm, 0, none⟩)) ∧ w'.cell? ⟨pu, 2, none⟩ = some (.int .i64 root) := fun w' h => ⟨keep h ult1 d0, keep h ult1 d2⟩
        have hblt := hl.lt
        go_upto_region 6 with fail
        go_cut [14, 16] (fun s14 s16 wx => CutC w bl zeroLn R s14 s16 wx)
        case first =>
          go_region_held3 (fun w' => w'.cell? ⟨pu, 0, none⟩ = some (.pointer (some ⟨pm, 0, none⟩)) ∧ w'.cell? ⟨pu, 2, none⟩ = some (.int .i64 root)) (exact hS2 _ (by repeat (first | with_reducible exact Below.refl _ _ | with_reducible assumption | with_reducible refine below_drewN ?_ _ | with_reducible refine Below.drew ?_ | with_reducible refine Below.setCell ?_ (by first | omega | (simp <;> omega)) _ | with_reducible refine Below.alloc ?_ (by first | omega | (simp <;> omega)) _)))
            ((go_at_call 60
              refine (r07_walk pm br n W root (addr / 16) _ (hm1.below (by repeat (first | with_reducible exact Below.refl _ _ | with_reducible assumption | with_reducible refine below_drewN ?_ _ | with_reducible refine Below.drew ?_ | with_reducible refine Below.setCell ?_ (by first | omega | (simp <;> omega)) _ | with_reducible refine Below.alloc ?_ (by first | omega | (simp <;> omega)) _))) R HR.out).mono ?_
              rintro e w3 ⟨v, rfl, hown3, hb3'⟩
              first
                | (have hb4 := below_un hb3'; have he := (EntAt.new wc false false false 0 34).below hb4 (by simp); have hb3 : Below wc.heap.size wc w3 := (Below.alloc (Below.refl _ _) (Nat.le_refl _) _).trans (hb4.mono (by simp)); have hs3 := hb3.size; have g0 := he.c0; have g1 := he.c1; have g2 := he.c2; have g3 := he.c3; have g4 := he.f0; have g5 := he.f1; have g6 := he.f2; have g7 := he.f3)
                | (have hb3 : Below wc.heap.size wc w3 := below_un hb3'; have hs3 := hb3.size)))
          · have lp := EntAt.new w3 R.v R.wr R.tb R.fr 34
            have kk : Below wc.heap.size wc (w3.alloc (.cells #[.bool R.v, .bool R.wr, .bool R.tb, .int .i64 R.fr] 34)) := by repeat (first | with_reducible exact Below.refl _ _ | with_reducible assumption | with_reducible refine below_drewN ?_ _ | with_reducible refine Below.drew ?_ | with_reducible refine Below.setCell ?_ (by first | omega | (simp <;> omega)) _ | with_reducible refine Below.alloc ?_ (by first | omega | (simp <;> omega)) _)
            go_wp2_with (fail)
            go_meet
            exact ⟨w3.heap.size, rfl, rfl, lp, by omega, hl.below kk hblt, kb.trans (kk.mono kb.size)⟩
          · have lp := he.put R.v R.wr R.tb R.fr
            obtain ⟨w4, hw4⟩ : ∃ w4, w4 = (((w3.setCell ⟨wc.heap.size, 0, none⟩ (.bool R.v)).setCell ⟨wc.heap.size, 1, none⟩ (.bool R.wr)).setCell ⟨wc.heap.size, 2, none⟩ (.bool R.tb)).setCell ⟨wc.heap.size, 3, none⟩ (.int .i64 R.fr) := ⟨_, rfl⟩
            have kk : Below wc.heap.size wc w4 := by rw [hw4]; repeat (first | with_reducible exact Below.refl _ _ | with_reducible assumption | with_reducible refine below_drewN ?_ _ | with_reducible refine Below.drew ?_ | with_reducible refine Below.setCell ?_ (by first | omega | (simp <;> omega)) _ | with_reducible refine Below.alloc ?_ (by first | omega | (simp <;> omega)) _)
            rw [← hw4] at lp ⊢
            clear hw4
            go_wp2_with (fail)
            go_meet
            exact ⟨wc.heap.size, rfl, rfl, lp, by omega, hl.below kk hblt, kb.trans (kk.mono kb.size)⟩
        case rest =>
          clear hl hS2 d0 d2 hm1 hblt ult1 kb
          obtain ⟨be, rfl, rfl, he, hbe, hl, kb⟩ := hcut
          have hu1 := hu.below kb
          have hm1 := hm.below kb
          have d0 := hu1.c0
          have d1 := hu1.c1
          have d3 := hu1.c3
          have hf := he.c3
          have hw := he.c1
          by_cases hRe : R.e = 0
          · have hRe' : (R.e != 0) = false := by simp [hRe]
            cases hh : hasB n R.fr
            · have hn := hasB_no hh
              have e1 : mLine n W (L9 M I) root asid (addr / 16) = none := by unfold mLine; rw [HT.out]; simp only; rw [HR.out, if_neg (by simp [hh])]
              have e2 : mTlb n W (L9 M I) root asid (addr / 16) at_ = L9 M I := by unfold mTlb; rw [HT.out, e1]
              obtain rfl : F = ⟨0, 0, 10⟩ := by rw [← HFF.out, e1]
              have E2 := Lib.hid e2
              have hqq : ∀ q, Calls Try.prog 46 #[.pointer (some ⟨pm, 0, none⟩), .int .i64 R.fr] (wc.drewN q) fun e w' => e = .returned (.bool false) ∧ w' = wc.drewN q := fun q => (r02_has_no pm br n W _ (wc.drewN q) (hm1.below (by repeat (first | with_reducible exact Below.refl _ _ | with_reducible assumption | with_reducible refine below_drewN ?_ _ | with_reducible refine Below.drew ?_ | with_reducible refine Below.setCell ?_ (by first | omega | (simp <;> omega)) _ | with_reducible refine Below.alloc ?_ (by first | omega | (simp <;> omega)) _))) hn).mono fun _ _ ⟨h1, h2⟩ => ⟨h1, h2.symm⟩
              clear e1 e2 hRe hh hn hf
              have hf := he.c3
              go_wp2_with (fail)
              go_quiet ((go_at_call 46; exact Calls.quiet_of_same (hqq _)))
              go_wp2_with (fail)
              go_ret3
              exact ⟨rfl, M, I, (ht.below kb).heap rfl, E2.out.symm, (Touch.of_below kb).drewN _⟩
            · have hn := hasB_yes hh
              have hn2 := hm.n2
              have e1 : mLine n W (L9 M I) root asid (addr / 16) = some ⟨asid, addr / 16, R.fr, R.wr⟩ := by unfold mLine; rw [HT.out]; simp only; rw [HR.out, if_pos ⟨hRe, hh⟩]
              obtain ⟨l, hll⟩ : ∃ l : Ln, l = ⟨asid, addr / 16, R.fr, R.wr⟩ := ⟨_, rfl⟩
              obtain ⟨k, hk, hpl⟩ := tPlace_bd (L9 M I) l at_ b0 b1
              have e2 : mTlb n W (L9 M I) root asid (addr / 16) at_ = fun i => if i = k then some l else L9 M I i := by
                unfold mTlb; rw [HT.out, e1]; simp only; rw [← hll]; exact tPutL_eq _ _ _ k hpl
              have e3 : mLine n W (L9 M I) root asid (addr / 16) = some l := by rw [e1, hll]
              have hr : rightL l = true := by rw [hll]; simp [rightL]; omega
              have hP : ∀ w4, R9In w4 pr M I → Calls Try.prog 22 #[.pointer (some ⟨pr, 0, none⟩), .agg #[.int .i64 asid, .int .i64 (addr / 16), .int .i64 R.fr, .bool R.wr], .int .i64 at_] w4 fun e w' => e = .returned (.int .i64 0) ∧ R9In w' pr (fun i => if i = k then l else M i) (fun i => if i = k then true else I i) ∧ Touch (· = pr) w4 w' := fun w4 h4 => by
                have h5 := r09_put_go pr M I l at_ k w4 h4 hr b0 b1 hk hpl
                rw [show lnV (some l) = .agg #[.int .i64 asid, .int .i64 (addr / 16), .int .i64 R.fr, .bool R.wr] by rw [hll]; rfl] at h5
                exact h5
              have hqq : ∀ q, Calls Try.prog 46 #[.pointer (some ⟨pm, 0, none⟩), .int .i64 R.fr] (wc.drewN q) fun e w' => e = .returned (.bool true) ∧ w' = wc.drewN q := fun q => (r02_has_yes pm br n W _ (wc.drewN q) (hm1.below (by repeat (first | with_reducible exact Below.refl _ _ | with_reducible assumption | with_reducible refine below_drewN ?_ _ | with_reducible refine Below.drew ?_ | with_reducible refine Below.setCell ?_ (by first | omega | (simp <;> omega)) _ | with_reducible refine Below.alloc ?_ (by first | omega | (simp <;> omega)) _))) hn.1 hn.2).mono fun _ _ ⟨h1, h2⟩ => ⟨h1, h2.symm⟩
              have lp : ∀ q, LineAt (((((wc.drewN q).setCell ⟨bl, 0, none⟩ (.int .i64 asid)).setCell ⟨bl, 1, none⟩ (.int .i64 (addr / 16))).setCell ⟨bl, 2, none⟩ (.int .i64 R.fr)).setCell ⟨bl, 3, none⟩ (.bool R.wr)) bl l := fun q => by
                rw [hll]; exact LineAt.put (w := wc.drewN q) (hl.heap rfl) ⟨asid, addr / 16, R.fr, R.wr⟩
              have hlf : l = ⟨asid, addr / 16, R.fr, R.wr⟩ := hll
              have HE2 := Lib.hid e2
              have HE3 := Lib.hid e3
              have HP := Lib.hid hP
              have HLL := Lib.hid hlf
              have z0 := hl.c0; have z1 := hl.c1; have z2 := hl.c2; have z3 := hl.c3
              have y0 := hl.f0; have y1 := hl.f1; have y2 := hl.f2; have y3 := hl.f3
              have nb : ¬ be = bl := by omega
              have nb' : ¬ bl = be := by omega
              have nu : ¬ pu = bl := by omega
              have nu' : ¬ bl = pu := by omega
              have blt := hl.lt
              have npr : ¬ bl = pr := by have := ht.lt; omega
              clear e1 e2 e3 hP hr hlf hll hRe hh
              go_wp2_with (fail)
              go_quiet ((go_at_call 46; exact Calls.quiet_of_same (hqq _)))
              go_wp2_with (fail)
              go_region_held3 (fun w' => w'.cell? ⟨pu, 3, none⟩ = some (.int .i64 asid) ∧ w'.cell? ⟨be, 3, none⟩ = some (.int .i64 R.fr) ∧ w'.cell? ⟨be, 1, none⟩ = some (.bool R.wr)) (first | go_keep | exact ⟨by assumption, by assumption, by assumption⟩) (fail)
              obtain ⟨w4, hw4⟩ : ∃ w4, w4 = ((((wc.drewN (nq + 1)).setCell ⟨bl, 0, none⟩ (.int .i64 asid)).setCell ⟨bl, 1, none⟩ (.int .i64 (addr / 16))).setCell ⟨bl, 2, none⟩ (.int .i64 R.fr)).setCell ⟨bl, 3, none⟩ (.bool R.wr) := ⟨_, rfl⟩
              have kk : Below w.heap.size w w4 := by rw [hw4]; exact Below.setCell (Below.setCell (Below.setCell (Below.setCell (below_drewN kb _) (by simpa using hbl) _) (by simpa using hbl) _) (by simpa using hbl) _) (by simpa using hbl) _
              have lp4 : LineAt w4 bl l := by rw [hw4]; exact lp _
              have ht4 := ht.below kk
              have v1 := keep kk ult c1
              have q0 := lp4.c0; have q1 := lp4.c1; have q2 := lp4.c2; have q3 := lp4.c3
              rw [HLL.out] at q0 q1 q2 q3
              clear z0 z1 z2 z3 y0 y1 y2 y3 lp hl
              go_wp2_with (fail)
              rw [← hw4]
              clear hw4
              have npu : ¬ pu = pr := hpu
              go_region_held3 (fun w' => w'.cell? ⟨pu, 1, none⟩ = some (.pointer (some ⟨pr, 0, none⟩)) ∧ w'.cell? ⟨bl, 0, none⟩ = some (.int .i64 asid) ∧ w'.cell? ⟨bl, 1, none⟩ = some (.int .i64 (addr / 16)) ∧ w'.cell? ⟨bl, 2, none⟩ = some (.int .i64 R.fr) ∧ w'.cell? ⟨bl, 3, none⟩ = some (.bool R.wr)) (first | go_keep | exact ⟨by assumption, by assumption, by assumption, by assumption, by assumption⟩)
                ((go_at_call 22
                  refine (HP.out _ (ht4.heap (by rfl))).mono ?_
                  rintro e w6 ⟨rfl, hr6, htt6⟩
                  have ht6 : Touch (· = pr) w4 w6 := ⟨htt6.os, htt6.tape, htt6.output, htt6.size, htt6.block⟩
                  have v1 := keepT ht6 (Nat.lt_of_lt_of_le ult kk.size) npu v1
                  have q0 := keepT ht6 lp4.lt npr q0
                  have q1 := keepT ht6 lp4.lt npr q1
                  have q2 := keepT ht6 lp4.lt npr q2
                  have q3 := keepT ht6 lp4.lt npr q3))
              go_wp2_with (fail)
              go_meet
              refine ⟨l, HE3.out, lp4.touch ht6 npr, _, _, hr6, ?_, (Touch.of_below kk).trans ht6⟩
              rw [HE2.out]
              exact L9_put M I k l
          · have hRe' : (R.e != 0) = true := by simp [hRe]
            have e1 : mLine n W (L9 M I) root asid (addr / 16) = none := by unfold mLine; rw [HT.out]; simp only; rw [HR.out, if_neg (by simp [hRe])]
            have e2 : mTlb n W (L9 M I) root asid (addr / 16) at_ = L9 M I := by unfold mTlb; rw [HT.out, e1]
            obtain rfl : F = ⟨0, 0, 10⟩ := by rw [← HFF.out, e1]
            have E2 := Lib.hid e2
            clear e1 e2 hRe
            go_wp2_with (fail)
            go_quiet (fail)
            go_wp2_with (fail)
            go_ret3
            exact ⟨rfl, M, I, (ht.below kb).heap rfl, E2.out.symm, (Touch.of_below kb).drewN _⟩
    case rest =>
      clear hl kb
      obtain ⟨l, hml, hl, M', I', ht', hL', tt⟩ := hcut
      have hu1 := hu.heap (tt.block pu ult hpu)
      have hm1 := hm.touch tt hpm hbr
      have d0 := hu1.c0
      have hf := hl.c2
      have hw := hl.c3
      have hF := HFF.out
      rw [hml] at hF
      have HL := Lib.hid hL'
      clear hL' hml HFF
      have hcond : (wr = true ∧ l.w = false) ∨ ((wr = false ∨ l.w = true) ∧ hasB n l.f = false) ∨ ((wr = false ∨ l.w = true) ∧ hasB n l.f = true) := by
        cases wr <;> cases l.w <;> cases hasB n l.f <;> simp
      rcases hcond with ⟨h1, h2⟩ | ⟨h1, h2⟩ | ⟨h1, h2⟩
      · subst h1
        obtain rfl : F = ⟨0, 0, 9⟩ := by rw [← hF]; simp [h2]
        clear hF
        rw [h2] at hw
        go_wp2_with (fail)
        go_ret3
        exact ⟨rfl, M', I', ht', HL.out, tt⟩
      · obtain rfl : F = ⟨0, 0, 10⟩ := by
          rw [← hF]; rcases h1 with h1 | h1 <;> simp [h1, h2]
        clear hF
        have hn := hasB_no h2
        have hqq : ∀ q, Calls Try.prog 46 #[.pointer (some ⟨pm, 0, none⟩), .int .i64 l.f] (wc.drewN q) fun e w' => e = .returned (.bool false) ∧ w' = wc.drewN q := fun q => (r02_has_no pm br n W _ (wc.drewN q) (hm1.below (by repeat (first | with_reducible exact Below.refl _ _ | with_reducible assumption | with_reducible refine below_drewN ?_ _ | with_reducible refine Below.drew ?_ | with_reducible refine Below.setCell ?_ (by first | omega | (simp <;> omega)) _ | with_reducible refine Below.alloc ?_ (by first | omega | (simp <;> omega)) _))) hn).mono fun _ _ ⟨h1, h2⟩ => ⟨h1, h2.symm⟩
        clear h2 hn
        rcases h1 with h1 | h1
        all_goals
          go_wp2_with (fail)
          all_goals
            go_quiet ((go_at_call 46; exact Calls.quiet_of_same (hqq _)))
            go_wp2_with (fail)
            go_ret3
            exact ⟨rfl, M', I', ht'.heap rfl, HL.out, tt.drewN _⟩
      · obtain rfl : F = ⟨l.f, addr % 16, 0⟩ := by
          rw [← hF]; rcases h1 with h1 | h1 <;> simp [h1, h2]
        clear hF
        have hn := hasB_yes h2
        have hqq : ∀ q, Calls Try.prog 46 #[.pointer (some ⟨pm, 0, none⟩), .int .i64 l.f] (wc.drewN q) fun e w' => e = .returned (.bool true) ∧ w' = wc.drewN q := fun q => (r02_has_yes pm br n W _ (wc.drewN q) (hm1.below (by repeat (first | with_reducible exact Below.refl _ _ | with_reducible assumption | with_reducible refine below_drewN ?_ _ | with_reducible refine Below.drew ?_ | with_reducible refine Below.setCell ?_ (by first | omega | (simp <;> omega)) _ | with_reducible refine Below.alloc ?_ (by first | omega | (simp <;> omega)) _))) hn.1 hn.2).mono fun _ _ ⟨h1, h2⟩ => ⟨h1, h2.symm⟩
        clear h2 hn
        rcases h1 with h1 | h1
        all_goals
          go_wp2_with (fail)
          all_goals
            go_quiet ((go_at_call 46; exact Calls.quiet_of_same (hqq _)))
            go_wp2_with (fail)
            go_ret3
            exact ⟨rfl, M', I', ht'.heap rfl, HL.out, tt.drewN _⟩

end Go.Proofs.Yteehghjdifbjbaa

namespace Go.Proofs.Yteehghjdifbjbaa
set_option linter.unusedSimpArgs false
set_option linter.unusedVariables false
set_option maxRecDepth 100000
open Go.RowKit
set_option maxHeartbeats 4000000

/-- The words behind an entry that is put; the error. -/
def putW (W : Nat → Int) (n : Nat) (f p : Int) (v wr tb : Bool) (fr : Int) : Nat → Int := if inT n f p ∧ rightB v wr tb fr = true then setW W (16 * f + p).toNat (wordI v wr tb fr) else W
def putE (n : Nat) (f p : Int) (v wr tb : Bool) (fr : Int) : Int := if inT n f p ∧ rightB v wr tb fr = true then 0 else 1

theorem put_any (pm bk n : Nat) (W : Nat → Int) (f p : Int) (v wr tb : Bool) (fr : Int) (w : World) (hm : MemIn w pm bk n W) :
    Calls Try.prog 17 #[.pointer (some ⟨pm, 0, none⟩), .int .i64 f, .int .i64 p, .agg #[.bool v, .bool wr, .bool tb, .int .i64 fr]] w fun e w' => e = .returned (.int .i64 (putE n f p v wr tb fr)) ∧ MemIn w' pm bk n (putW W n f p v wr tb fr) ∧ Touch (· = bk) w w' := by
  unfold putW putE
  by_cases h : inT n f p ∧ rightB v wr tb fr = true
  · simp only [h, and_self, if_true]
    exact put_in pm bk n W f p v wr tb fr w hm h.1 h.2
  · simp only [h, if_false]
    exact (put_out pm bk n W f p v wr tb fr w hm h).mono fun e w' ⟨he, hb⟩ => ⟨he, hm.below hb, Touch.of_below hb⟩

/-- The words behind the three entries that the laws put first. -/
def tabW (W : Nat → Int) (n : Nat) : Nat → Int := putW (putW (putW W n 0 1 true false true 1) n 1 2 true false true 2) n 2 3 true true false 7

def Z0 : Nat → Int := fun _ => 0
theorem aw1 : (walkM (tabW Z0 4) 4 0 291).e = 0 ∧ (walkM (tabW Z0 4) 4 0 291).fr = 7 ∧ (walkM (tabW Z0 4) 4 0 291).wr = true ∧ (walkM (tabW Z0 4) 4 0 291).st.length = 3 := by decide +kernel
theorem aw2 : (walkM (tabW Z0 4) 4 0 547).e = 10 ∧ (walkM (tabW Z0 4) 4 0 547).st.length = 1 := by decide +kernel
theorem aw3 : blankB (tabW Z0 4) 4 3 = true ∧ blankB (tabW Z0 4) 4 1 = false := by decide +kernel

theorem own_len {w : World} {base e size n : Nat} {v : Value} {xs : List Value} (h : w.ownsRow base e size v n xs) : ∃ a cap, v = .slice a n cap := by
  rcases h.2 with ⟨rfl, rfl⟩ | ⟨g, cap, cur, rfl, _⟩
  · exact ⟨_, _, rfl⟩
  · exact ⟨_, _, rfl⟩

/-! ### WalkPut -/
theorem putW_mem (W : Nat → Int) (n : Nat) (f p : Int) (v wr tb : Bool) (fr : Int) (h : putE n f p v wr tb fr ≠ 0) : putW W n f p v wr tb fr = W := by
  unfold putE at h; unfold putW
  split at h
  · exact absurd rfl h
  · rename_i hn; rw [if_neg hn]
theorem putE_zero (n : Nat) (f p : Int) (v wr tb : Bool) (fr : Int) : putE n f p v wr tb fr = 0 ↔ inT n f p ∧ rightB v wr tb fr = true := by
  unfold putE; split <;> simp_all

/-- All words are entries' words. -/
def Fine (W : Nat → Int) : Prop := ∀ a, ofB (W a) = true
theorem fine_Z0 : Fine Z0 := fun _ => by show ofB 0 = true; decide
theorem fine_put {W : Nat → Int} (h : Fine W) (n : Nat) (f p : Int) (v wr tb : Bool) (fr : Int) : Fine (putW W n f p v wr tb fr) := by
  unfold putW
  split
  · rename_i hr
    intro a
    unfold setW
    split
    · exact word_ofB _ _ _ _ hr.2
    · exact h a
  · exact h
theorem fine_tab {W : Nat → Int} (h : Fine W) (n : Nat) : Fine (tabW W n) := fine_put (fine_put (fine_put h _ _ _ _ _ _ _) _ _ _ _ _ _ _) _ _ _ _ _ _ _
theorem fine_gE {W : Nat → Int} (h : Fine W) {n : Nat} {f p : Int} (hi : inT n f p) : gE W n f p = 0 := by
  unfold gE; rw [if_pos hi]; simp [oE, h _]
theorem out_gE (W : Nat → Int) {n : Nat} {f p : Int} (hi : ¬ inT n f p) : gE W n f p = 1 ∧ gV W n f p = false ∧ gW W n f p = false ∧ gT W n f p = false ∧ gF W n f p = 0 := by
  unfold gE gV gW gT gF; simp [hi]

theorem get_put_same (W : Nat → Int) (n : Nat) (f p : Int) (v wr tb : Bool) (fr : Int) (hi : inT n f p) (hr : rightB v wr tb fr = true) :
    gE (putW W n f p v wr tb fr) n f p = 0 ∧ gV (putW W n f p v wr tb fr) n f p = v ∧ gW (putW W n f p v wr tb fr) n f p = wr ∧ gT (putW W n f p v wr tb fr) n f p = tb ∧ gF (putW W n f p v wr tb fr) n f p = fr := by
  obtain ⟨a, b, c, d⟩ := parts_of_word v wr tb fr hr
  have ho := word_ofB v wr tb fr hr
  unfold gE gV gW gT gF
  simp [hi, putW, hr, setW, oE, oV, oW, oT, oF, ho, a, b, c, d]

theorem get_put_other (W : Nat → Int) (n : Nat) (f p f' p' : Int) (v wr tb : Bool) (fr : Int) (hne : ¬ (f' = f ∧ p' = p)) :
    gE (putW W n f p v wr tb fr) n f' p' = gE W n f' p' ∧ gV (putW W n f p v wr tb fr) n f' p' = gV W n f' p' ∧ gW (putW W n f p v wr tb fr) n f' p' = gW W n f' p' ∧ gT (putW W n f p v wr tb fr) n f' p' = gT W n f' p' ∧ gF (putW W n f p v wr tb fr) n f' p' = gF W n f' p' := by
  by_cases hi : inT n f' p'
  · have : putW W n f p v wr tb fr (16 * f' + p').toNat = W (16 * f' + p').toNat := by
      unfold putW
      split
      · rename_i h
        unfold setW
        rw [if_neg]
        have h1 := h.1
        unfold inT at h1 hi
        omega
      · rfl
    unfold gE gV gW gT gF
    rw [this]
    simp
  · obtain ⟨a, b, c, d, e⟩ := out_gE W hi
    obtain ⟨a', b', c', d', e'⟩ := out_gE (putW W n f p v wr tb fr) hi
    simp [a, b, c, d, e, a', b', c', d', e']

end Go.Proofs.Yteehghjdifbjbaa

namespace Go.Proofs.Yteehghjdifbjbaa
set_option linter.unusedSimpArgs false
set_option linter.unusedVariables false
set_option maxRecDepth 100000
open Go.RowKit
set_option maxHeartbeats 1000000

/-! ### The memory -/
def tlbS (pb : Nat) (lb : Nat → Nat) (L : Nat → Option Ln) (k : Nat) : Prop := k = pb ∨ ∃ i l, i < 8 ∧ L i = some l ∧ k = lb i
def tlbP (pb : Nat) (L : Nat → Option Ln) : HP := exP fun lb : Nat → Nat => ownP (tlbS pb lb L) (fun w => TlbIn w pb lb L)
theorem loc_tlb (pb : Nat) (lb : Nat → Nat) (L : Nat → Option Ln) : Loc (tlbS pb lb L) (fun w => TlbIn w pb lb L) := fun w w' h e =>
  ⟨fun i hi hn => (cell_of_heap (e pb (Or.inl rfl)) _).trans (h.none_ i hi hn), fun i l hi hl => by
    obtain ⟨a, b, c, d1, d2, d3, d4⟩ := h.some_ i l hi hl
    have el := e (lb i) (Or.inr ⟨i, l, hi, hl, rfl⟩)
    exact ⟨(cell_of_heap (e pb (Or.inl rfl)) _).trans a, heap_size el b, c, (cell_of_heap el _).trans d1, (cell_of_heap el _).trans d2, (cell_of_heap el _).trans d3, (cell_of_heap el _).trans d4⟩,
   fun i hi => (frozen_of_heap (e pb (Or.inl rfl)) _).trans (h.free i hi), heap_size (e pb (Or.inl rfl)) h.lt⟩
theorem has_tlb (pb : Nat) (L : Nat → Option Ln) : Has (tlbP pb L) pb := has_ex fun _ => has_own (Or.inl rfl)
theorem TlbIn.slt {w : World} {pb : Nat} {lb : Nat → Nat} {L : Nat → Option Ln} (h : TlbIn w pb lb L) : ∀ k, tlbS pb lb L k → k < w.heap.size := fun k hk => by
  rcases hk with rfl | ⟨i, l, hi, hl, rfl⟩
  · exact h.lt
  · exact (h.some_ i l hi hl).2.1
theorem Sat.tlb {g w : World} {pb : Nat} {L : Nat → Option Ln} {R : HP} (h : Sat g w (tlbP pb L * R)) :
    ∃ lb, TlbIn w pb lb L ∧ ∀ w' L', TlbPost w pb lb L L' w' → Sat g w' (tlbP pb L' * R) := by
  obtain ⟨lb, h⟩ := h.ex
  have hi : TlbIn w pb lb L := h.inv
  refine ⟨lb, hi, fun w' L' ⟨lb', h1, h2, h3⟩ => Sat.ex' lb' (h.touch (h3.mono fun k _ hk => Or.inl hk) h1 (loc_tlb _ _ _) (fun k hk => ?_) h1.slt)⟩
  rcases hk with rfl | ⟨i, l, hi, hl, rfl⟩
  · exact Or.inl (Or.inl rfl)
  · rcases h2 i l hi hl with ⟨h4, h5⟩ | h4
    · left; right
      cases hL : L i with
      | none => exact absurd hL h4
      | some m => exact ⟨i, m, hi, hL, h5⟩
    · exact Or.inr h4
theorem Sat.tlb_new {g w w' : World} {pb : Nat} {R : HP} (h : Sat g w R) (b : Below w.heap.size w w') (m : TlbIn w' pb (fun _ => 0) (fun _ => none)) (h1 : w.heap.size ≤ pb) : Sat g w' (tlbP pb (fun _ => none) * R) :=
  Sat.ex' (fun _ => 0) (h.new b m (loc_tlb _ _ _) (fun k hk => by rcases hk with rfl | ⟨i, l, hi, hl, rfl⟩; exact h1; cases hl) m.slt)

/-! ### The reference's buffer -/
def r09P (pr : Nat) (L : Nat → Option Ln) : HP := exP fun x : (Nat → Ln) × (Nat → Bool) => ownP (fun k => k = pr) (fun w => R9In w pr x.1 x.2 ∧ L9 x.1 x.2 = L)
theorem loc_r09 (pr : Nat) (M : Nat → Ln) (I : Nat → Bool) (L : Nat → Option Ln) : Loc (fun k => k = pr) (fun w => R9In w pr M I ∧ L9 M I = L) := fun w w' h e => ⟨h.1.heap (e pr rfl), h.2⟩
theorem has_r09 (pr : Nat) (L : Nat → Option Ln) : Has (r09P pr L) pr := has_ex fun _ => has_own rfl
theorem Sat.r09 {g w : World} {pr : Nat} {L : Nat → Option Ln} {R : HP} (h : Sat g w (r09P pr L * R)) :
    ∃ M I, R9In w pr M I ∧ L9 M I = L ∧ ∀ w' L', R9Post w pr L' w' → Sat g w' (r09P pr L' * R) := by
  obtain ⟨⟨M, I⟩, h⟩ := h.ex
  have hi : R9In w pr M I ∧ L9 M I = L := h.inv
  exact ⟨M, I, hi.1, hi.2, fun w' L' ⟨M', I', h1, h2, h3⟩ => Sat.ex' (M', I') (h.touch h3 ⟨h1, h2⟩ (loc_r09 _ _ _ _) (fun k hk => Or.inl hk) (fun k hk => by rw [hk]; exact h1.lt))⟩
theorem Sat.r09_new {g w w' : World} {pr : Nat} {M : Nat → Ln} {I : Nat → Bool} {R : HP} (h : Sat g w R) (b : Below w.heap.size w w') (m : R9In w' pr M I) (h1 : w.heap.size ≤ pr) : Sat g w' (r09P pr (L9 M I) * R) :=
  Sat.ex' (M, I) (h.new b ⟨m, rfl⟩ (loc_r09 _ _ _ _) (fun k hk => by rw [hk]; exact h1) (fun k hk => by rw [hk]; exact m.lt))

/-! ### A unit -/
def unitP (pu pm pb : Nat) (root asid : Int) : HP := ownP (fun k => k = pu) (fun w => UnitIn w pu pm pb root asid)
theorem loc_unit (pu pm pb : Nat) (root asid : Int) : Loc (fun k => k = pu) (fun w => UnitIn w pu pm pb root asid) := fun w w' h e => h.heap (e pu rfl)
theorem has_unit (pu pm pb : Nat) (root asid : Int) : Has (unitP pu pm pb root asid) pu := has_own rfl
theorem Sat.unit {g w : World} {pu pm pb : Nat} {root asid : Int} {R : HP} (h : Sat g w (unitP pu pm pb root asid * R)) : UnitIn w pu pm pb root asid := h.inv
theorem Sat.unit_set {g w w' : World} {pu pm pb : Nat} {root asid r a : Int} {R : HP} (h : Sat g w (unitP pu pm pb root asid * R)) (t : Touch (· = pu) w w') (u : UnitIn w' pu pm pb r a) : Sat g w' (unitP pu pm pb r a * R) :=
  h.touch t u (loc_unit _ _ _ _ _) (fun k hk => Or.inl hk) (fun k hk => by rw [hk]; exact u.lt)
theorem Sat.unit_new {g w w' : World} {pu pm pb : Nat} {root asid : Int} {R : HP} (h : Sat g w R) (b : Below w.heap.size w w') (u : UnitIn w' pu pm pb root asid) (h1 : w.heap.size ≤ pu) : Sat g w' (unitP pu pm pb root asid * R) :=
  h.new b u (loc_unit _ _ _ _ _) (fun k hk => by rw [hk]; exact h1) (fun k hk => by rw [hk]; exact u.lt)

/-! ### Calls upon the parts -/
theorem s_read (pm n : Nat) (W : Nat → Int) (a : Int) (g w : World) (R : HP) (h : Sat g w (memP pm n W * R)) (h0 : 0 ≤ a) (h1 : a < 16 * n) :
    Calls Try.prog 28 #[.pointer (some ⟨pm, 0, none⟩), .int .i64 a] w fun e w' => e = .returned (.tuple #[.int .u64 (W a.toNat), .int .i64 0]) ∧ w = w' := by
  obtain ⟨bk, hm, _, _⟩ := h.mem
  exact read_yes pm bk n W a w hm h0 h1
theorem s_put (pm n : Nat) (W : Nat → Int) (f p : Int) (v wr tb : Bool) (fr : Int) (g w : World) (R : HP) (h : Sat g w (memP pm n W * R)) :
    Calls Try.prog 17 #[.pointer (some ⟨pm, 0, none⟩), .int .i64 f, .int .i64 p, .agg #[.bool v, .bool wr, .bool tb, .int .i64 fr]] w fun e w' => e = .returned (.int .i64 (putE n f p v wr tb fr)) ∧ Sat g w' (memP pm n (putW W n f p v wr tb fr) * R) := by
  obtain ⟨bk, hm, _, hc⟩ := h.mem
  exact (put_any pm bk n W f p v wr tb fr w hm).mono fun e w' ⟨h1, h2, h3⟩ => ⟨h1, hc w' _ h3 h2⟩
theorem r07_put' (pm bk n : Nat) (W : Nat → Int) (f p : Int) (v wr tb : Bool) (fr : Int) (w : World) (hm : RefIn w pm bk n W) :
    Calls Try.prog 11 #[.pointer (some ⟨pm, 0, none⟩), .int .i64 f, .int .i64 p, .agg #[.bool v, .bool wr, .bool tb, .int .i64 fr]] w fun e w' => e = .returned (.int .i64 (putE n f p v wr tb fr)) ∧ RefIn w' pm bk n (putW W n f p v wr tb fr) ∧ Touch (· = bk) w w' := by
  unfold putW putE
  by_cases h : inT n f p ∧ rightB v wr tb fr = true
  · simp only [h, and_self, if_true]
    exact r07_put_in pm bk n W f p v wr tb fr w hm h.1 h.2
  · simp only [h, if_false]
    exact (r07_put_out pm bk n W f p v wr tb fr w hm h).mono fun e w' ⟨he, hb⟩ => ⟨he, hm.below hb, Touch.of_below hb⟩
theorem s_rput (pm n : Nat) (W : Nat → Int) (f p : Int) (v wr tb : Bool) (fr : Int) (g w : World) (R : HP) (h : Sat g w (refP pm n W * R)) :
    Calls Try.prog 11 #[.pointer (some ⟨pm, 0, none⟩), .int .i64 f, .int .i64 p, .agg #[.bool v, .bool wr, .bool tb, .int .i64 fr]] w fun e w' => e = .returned (.int .i64 (putE n f p v wr tb fr)) ∧ Sat g w' (refP pm n (putW W n f p v wr tb fr) * R) := by
  obtain ⟨bk, hm, _, hc⟩ := h.ref
  exact (r07_put' pm bk n W f p v wr tb fr w hm).mono fun e w' ⟨h1, h2, h3⟩ => ⟨h1, hc w' _ h3 h2⟩
theorem s_use (pu pm pb n : Nat) (root asid r a : Int) (W : Nat → Int) (g w : World) (R : HP) (h : Sat g w (unitP pu pm pb root asid * (memP pm n W * R))) :
    Calls Try.prog 18 #[.pointer (some ⟨pu, 0, none⟩), .int .i64 r, .int .i64 a] w fun e w' => e = .returned (.int .i64 (if useB n r a then 0 else 1)) ∧ Sat g w' (unitP pu pm pb (if useB n r a then r else root) (if useB n r a then a else asid) * (memP pm n W * R)) := by
  obtain ⟨bk, hm, _, _⟩ := h.swap.mem
  cases hb : useB n r a
  · exact (mmu_use_no pu pm pb root asid bk n W r a w h.unit hm hb).mono fun e w' ⟨h1, h2⟩ => ⟨h1, h2 ▸ h⟩
  · exact (mmu_use_yes pu pm pb root asid bk n W r a w h.unit hm hb).mono fun e w' ⟨h1, h2, h3⟩ => ⟨h1, h.unit_set h3 h2⟩
theorem s_ruse (pu pm pb n : Nat) (root asid r a : Int) (W : Nat → Int) (g w : World) (R : HP) (h : Sat g w (unitP pu pm pb root asid * (refP pm n W * R))) :
    Calls Try.prog 12 #[.pointer (some ⟨pu, 0, none⟩), .int .i64 r, .int .i64 a] w fun e w' => e = .returned (.int .i64 (if useB n r a then 0 else 1)) ∧ Sat g w' (unitP pu pm pb (if useB n r a then r else root) (if useB n r a then a else asid) * (refP pm n W * R)) := by
  obtain ⟨bk, hm, _, _⟩ := h.swap.ref
  cases hb : useB n r a
  · exact (r11_use_no pu pm pb root asid bk n W r a w h.unit hm hb).mono fun e w' ⟨h1, h2⟩ => ⟨h1, h2 ▸ h⟩
  · exact (r11_use_yes pu pm pb root asid bk n W r a w h.unit hm hb).mono fun e w' ⟨h1, h2, h3⟩ => ⟨h1, h.unit_set h3 h2⟩

theorem s_flush (pb : Nat) (L : Nat → Option Ln) (asid : Int) (g w : World) (R : HP) (h : Sat g w (tlbP pb L * R)) :
    Calls Try.prog 19 #[.pointer (some ⟨pb, 0, none⟩), .int .i64 asid] w fun e w' => e = .returned (.int .i64 (dropN (fun l => l.a == asid) L 8)) ∧ Sat g w' (tlbP pb (dropL (fun l => l.a == asid) L 8) * R) := by
  obtain ⟨lb, hi, hc⟩ := h.tlb
  refine (tlb_flush pb lb L asid w hi).mono fun e w' ⟨h1, h2, h3⟩ => ⟨h1, hc w' _ ⟨lb, h2, fun i l hi hl => Or.inl ⟨fun hn => ?_, rfl⟩, h3⟩⟩
  unfold dropL at hl
  rw [hn] at hl
  simp at hl
theorem s_rflush (pr : Nat) (L : Nat → Option Ln) (asid : Int) (g w : World) (R : HP) (h : Sat g w (r09P pr L * R)) :
    Calls Try.prog 20 #[.pointer (some ⟨pr, 0, none⟩), .int .i64 asid] w fun e w' => e = .returned (.int .i64 (dropN (fun l => l.a == asid) L 8)) ∧ Sat g w' (r09P pr (dropL (fun l => l.a == asid) L 8) * R) := by
  obtain ⟨M, I, hi, rfl, hc⟩ := h.r09
  exact (r09_flush pr M I asid w hi).mono fun e w' ⟨h1, h2, h3⟩ => ⟨h1, hc w' _ ⟨M, _, h2, L9_drop _ _ _ _, h3⟩⟩

/-- The buffer with a line put, if it may be; the error. -/
def lpOk (l : Ln) (at_ : Int) : Bool := rightL l && decide (0 ≤ at_) && decide (at_ < 8)
def lpL (L : Nat → Option Ln) (l : Ln) (at_ : Int) : Nat → Option Ln := if lpOk l at_ then tPutL L l at_ else L
theorem lpOk_iff (l : Ln) (at_ : Int) : lpOk l at_ = true ↔ (rightL l = true ∧ 0 ≤ at_ ∧ at_ < 8) := by simp [lpOk, and_assoc]
theorem s_lput (pb : Nat) (L : Nat → Option Ln) (l : Ln) (at_ : Int) (g w : World) (R : HP) (h : Sat g w (tlbP pb L * R)) :
    Calls Try.prog 21 #[.pointer (some ⟨pb, 0, none⟩), lnV (some l), .int .i64 at_] w fun e w' => e = .returned (.int .i64 (if lpOk l at_ then 0 else 1)) ∧ Sat g w' (tlbP pb (lpL L l at_) * R) := by
  obtain ⟨lb, hi, hc⟩ := h.tlb
  unfold lpL
  by_cases q : lpOk l at_ = true
  · rw [if_pos q, if_pos q]
    rw [lpOk_iff] at q
    obtain ⟨k, hk, hp⟩ := tPlace_bd L l at_ q.2.1 q.2.2
    rw [tPutL_eq L l at_ k hp]
    refine (tlb_put_go pb lb L l at_ k w hi q.1 q.2.1 q.2.2 hk hp).mono fun e w' ⟨h1, h2, h3, h4⟩ => ⟨h1, hc w' _ ⟨_, h2, fun i m hi hl => ?_, h4⟩⟩
    by_cases e : i = k
    · right; simp only [e, if_true]; exact Nat.le_refl _
    · left; simp only [e, if_false] at hl ⊢; exact ⟨by rw [hl]; simp, trivial⟩
  · rw [if_neg q, if_neg q]
    exact (tlb_put_no pb L l at_ w (fun hh => q ((lpOk_iff l at_).2 hh))).mono fun e w' ⟨h1, h2⟩ => ⟨h1, h.below h2⟩
theorem s_rlput (pr : Nat) (L : Nat → Option Ln) (l : Ln) (at_ : Int) (g w : World) (R : HP) (h : Sat g w (r09P pr L * R)) :
    Calls Try.prog 22 #[.pointer (some ⟨pr, 0, none⟩), lnV (some l), .int .i64 at_] w fun e w' => e = .returned (.int .i64 (if lpOk l at_ then 0 else 1)) ∧ Sat g w' (r09P pr (lpL L l at_) * R) := by
  obtain ⟨M, I, hi, rfl, hc⟩ := h.r09
  unfold lpL
  by_cases q : lpOk l at_ = true
  · rw [if_pos q, if_pos q]
    rw [lpOk_iff] at q
    obtain ⟨k, hk, hp⟩ := tPlace_bd (L9 M I) l at_ q.2.1 q.2.2
    rw [tPutL_eq (L9 M I) l at_ k hp]
    exact (r09_put_go pr M I l at_ k w hi q.1 q.2.1 q.2.2 hk hp).mono fun e w' ⟨h1, h2, h3⟩ => ⟨h1, hc w' _ ⟨_, _, h2, L9_put _ _ _ _, h3⟩⟩
  · rw [if_neg q, if_neg q]
    exact (r09_put_no pr l at_ w (fun hh => q ((lpOk_iff l at_).2 hh))).mono fun e w' ⟨h1, h2⟩ => ⟨h1, h.below h2⟩

theorem s_find (pu pm pb n : Nat) (root asid : Int) (W : Nat → Int) (L : Nat → Option Ln) (addr : Int) (wr : Bool) (at_ : Int) (g w : World) (R : HP) (h : Sat g w (unitP pu pm pb root asid * (memP pm n W * (tlbP pb L * R)))) (ha : 0 ≤ asid) (ha' : asid ≤ 8) (F : FRes) (hF : fRes n W L root asid addr wr at_ = F) :
    Calls Try.prog 23 #[.pointer (some ⟨pu, 0, none⟩), .int .i64 addr, .bool wr, .int .i64 at_] w fun e w' => e = .returned (.tuple #[.int .i64 F.f, .int .i64 F.p, .int .i64 F.e]) ∧ Sat g w' (unitP pu pm pb root asid * (memP pm n W * (tlbP pb (fTlb n W L root asid addr at_) * R))) := by
  unfold fTlb
  cases hb : fOk asid addr at_
  · subst hF
    unfold fRes
    rw [hb]
    exact (mmu_find_bad pu pm pb root asid addr wr at_ w h.unit hb).mono fun e w' ⟨h1, h2⟩ => ⟨h1, h2 ▸ h⟩
  · obtain ⟨bk, hm, hne, _⟩ := h.swap.mem
    have h3 := h.up3
    obtain ⟨lb, ht, hc⟩ := h3.tlb
    have n1 := hne pb (has_right (has_left (has_tlb _ _)))
    have n2 : pu ≠ pb := h.ne (has_unit _ _ _ _ _) (has_right (has_left (has_tlb _ _)))
    obtain ⟨_, b, _⟩ := fOk_yes hb
    exact (mmu_find_ok pu pm pb root asid bk n W lb L addr wr at_ F w h.unit hm ht (by omega) ha' n2 n1.1 n1.2 hb hF).mono fun e w' ⟨h1, h2⟩ => ⟨h1, (hc w' _ h2).down3⟩
theorem s_rfind (pu pm pr n : Nat) (root asid : Int) (W : Nat → Int) (L : Nat → Option Ln) (addr : Int) (wr : Bool) (at_ : Int) (g w : World) (R : HP) (h : Sat g w (unitP pu pm pr root asid * (refP pm n W * (r09P pr L * R)))) (ha : 0 ≤ asid) (ha' : asid ≤ 8) (F : FRes) (hF : fRes n W L root asid addr wr at_ = F) :
    Calls Try.prog 24 #[.pointer (some ⟨pu, 0, none⟩), .int .i64 addr, .bool wr, .int .i64 at_] w fun e w' => e = .returned (.tuple #[.int .i64 F.f, .int .i64 F.p, .int .i64 F.e]) ∧ Sat g w' (unitP pu pm pr root asid * (refP pm n W * (r09P pr (fTlb n W L root asid addr at_) * R))) := by
  unfold fTlb
  cases hb : fOk asid addr at_
  · subst hF
    unfold fRes
    rw [hb]
    exact (r11_find_bad pu pm pr root asid addr wr at_ w h.unit hb).mono fun e w' ⟨h1, h2⟩ => ⟨h1, h2 ▸ h⟩
  · obtain ⟨bk, hm, hne, _⟩ := h.swap.ref
    have h3 := h.up3
    obtain ⟨M, I, ht, rfl, hc⟩ := h3.r09
    have n1 := hne pr (has_right (has_left (has_r09 _ _)))
    have n2 : pu ≠ pr := h.ne (has_unit _ _ _ _ _) (has_right (has_left (has_r09 _ _)))
    obtain ⟨_, b, _⟩ := fOk_yes hb
    exact (r11_find_ok pu pm pr root asid bk n W M I addr wr at_ F w h.unit hm ht (by omega) ha' n2 n1.1 n1.2 hb hF).mono fun e w' ⟨h1, h2⟩ => ⟨h1, (hc w' _ h2).down3⟩

end Go.Proofs.Yteehghjdifbjbaa

namespace Go.Proofs.Yteehghjdifbjbaa
set_option linter.unusedSimpArgs false
set_option linter.unusedVariables false
set_option maxRecDepth 100000
open Go.RowKit
set_option maxHeartbeats 1000000

theorem fRes_ok {n : Nat} {W : Nat → Int} {L : Nat → Option Ln} {root asid addr : Int} {wr : Bool} {at_ : Int} {F : FRes} (h : fRes n W L root asid addr wr at_ = F) :
    ((F.e != 0) = true ∧ F.f = 0 ∧ F.p = 0) ∨ ((F.e != 0) = false ∧ F.e = 0 ∧ (0 ≤ F.f ∧ F.f < n) ∧ 0 ≤ F.p ∧ F.p < 16) := by
  unfold fRes at h
  cases hb : fOk asid addr at_
  · rw [hb, if_neg (by simp)] at h; subst h; exact Or.inl ⟨rfl, rfl, rfl⟩
  · rw [hb, if_pos rfl] at h
    cases hm : mLine n W L root asid (addr / 16) with
    | none => rw [hm] at h; subst h; exact Or.inl ⟨rfl, rfl, rfl⟩
    | some l =>
      rw [hm] at h
      simp only at h
      split at h
      · subst h; exact Or.inl ⟨rfl, rfl, rfl⟩
      · cases hh : hasB n l.f
        · rw [hh, if_neg (by simp)] at h; subst h; exact Or.inl ⟨rfl, rfl, rfl⟩
        · rw [hh, if_pos rfl] at h; subst h
          have := hasB_yes hh
          exact Or.inr ⟨rfl, rfl, this, by show 0 ≤ addr % 16; omega, by show addr % 16 < 16; omega⟩

/-- The word that a Load tells; the memory behind a Store. -/
def lX (n : Nat) (W : Nat → Int) (L : Nat → Option Ln) (root asid addr at_ : Int) : Int :=
  if (fRes n W L root asid addr false at_).e = 0 then W (16 * (fRes n W L root asid addr false at_).f + (fRes n W L root asid addr false at_).p).toNat else 0
def lE (n : Nat) (W : Nat → Int) (L : Nat → Option Ln) (root asid addr : Int) (wr : Bool) (at_ : Int) : Int := (fRes n W L root asid addr wr at_).e
def sW (n : Nat) (W : Nat → Int) (L : Nat → Option Ln) (root asid addr x at_ : Int) : Nat → Int :=
  if (fRes n W L root asid addr true at_).e = 0 then setW W (16 * (fRes n W L root asid addr true at_).f + (fRes n W L root asid addr true at_).p).toNat x else W

theorem s_load (pu pm pb n : Nat) (root asid : Int) (W : Nat → Int) (L : Nat → Option Ln) (addr : Int) (at_ : Int) (g w : World) (R : HP) (h : Sat g w (unitP pu pm pb root asid * (memP pm n W * (tlbP pb L * R)))) (ha : 0 ≤ asid) (ha' : asid ≤ 8) :
    Calls Try.prog 13 #[.pointer (some ⟨pu, 0, none⟩), .int .i64 addr, .int .i64 at_] w fun e w' => e = .returned (.tuple #[.int .u64 (lX n W L root asid addr at_), .int .i64 (lE n W L root asid addr false at_)]) ∧ Sat g w' (unitP pu pm pb root asid * (memP pm n W * (tlbP pb (fTlb n W L root asid addr at_) * R))) := by
  unfold lX lE
  obtain ⟨F, hF⟩ : ∃ F, fRes n W L root asid addr false at_ = F := ⟨_, rfl⟩
  rw [hF]
  have hok := fRes_ok hF
  have hn := h.swap.mem
  obtain ⟨bk, hm0, _, _⟩ := hn
  have hn2 := hm0.n2
  clear hm0
  have HF := Lib.hid hF
  clear hF
  rcases hok with ⟨h1, h2, h3⟩ | ⟨h1, h2, ⟨h3, h4⟩, h5, h6⟩
  · have h7 : ¬ F.e = 0 := by simpa using h1
    rw [if_neg h7]
    clear h7 h2 h3
    go_enter Try.func13, Try.ntmps13
    go_wp2_with (fail)
    refine (s_find pu pm pb n root asid W L addr false at_ g _ R h ha ha' F HF.out).mono ?_
    rintro e w1 ⟨rfl, hs⟩
    go_wp2_with (fail)
    go_ret2
    exact ⟨rfl, hs⟩
  · rw [if_pos h2]
    have hx : 16 * F.f + F.p = F.f * 16 + F.p := by omega
    rw [hx, h2]
    clear hx
    have H2 := Lib.hid h2
    have H1 := Lib.hid h1
    clear h2 h1
    go_enter Try.func13, Try.ntmps13
    go_wp2_with (fail)
    refine (s_find pu pm pb n root asid W L addr false at_ g _ R h ha ha' F HF.out).mono ?_
    rintro e w1 ⟨rfl, hs⟩
    rw [H2.out]
    have c0 := hs.unit.c0
    go_wp2_with (fail)
    refine (s_read pm n W (F.f * 16 + F.p) g _ _ hs.swap (by omega) (by omega)).mono ?_
    rintro e w2 ⟨rfl, rfl⟩
    go_wp2_with (fail)
    go_ret2
    exact ⟨rfl, hs⟩

theorem s_rload (pu pm pr n : Nat) (root asid : Int) (W : Nat → Int) (L : Nat → Option Ln) (addr : Int) (at_ : Int) (g w : World) (R : HP) (h : Sat g w (unitP pu pm pr root asid * (refP pm n W * (r09P pr L * R)))) (ha : 0 ≤ asid) (ha' : asid ≤ 8) :
    Calls Try.prog 14 #[.pointer (some ⟨pu, 0, none⟩), .int .i64 addr, .int .i64 at_] w fun e w' => e = .returned (.tuple #[.int .u64 (lX n W L root asid addr at_), .int .i64 (lE n W L root asid addr false at_)]) ∧ Sat g w' (unitP pu pm pr root asid * (refP pm n W * (r09P pr (fTlb n W L root asid addr at_) * R))) := by
  unfold lX lE
  obtain ⟨F, hF⟩ : ∃ F, fRes n W L root asid addr false at_ = F := ⟨_, rfl⟩
  rw [hF]
  have hok := fRes_ok hF
  have hn := h.swap.ref
  obtain ⟨bk, hm0, _, _⟩ := hn
  have hn2 := hm0.n2
  clear hm0
  have HF := Lib.hid hF
  clear hF
  rcases hok with ⟨h1, h2, h3⟩ | ⟨h1, h2, ⟨h3, h4⟩, h5, h6⟩
  · have h7 : ¬ F.e = 0 := by simpa using h1
    rw [if_neg h7]
    clear h7 h2 h3
    go_enter Try.func14, Try.ntmps14
    go_wp2_with (fail)
    refine (s_rfind pu pm pr n root asid W L addr false at_ g _ R h ha ha' F HF.out).mono ?_
    rintro e w1 ⟨rfl, hs⟩
    go_wp2_with (fail)
    go_ret2
    exact ⟨rfl, hs⟩
  · rw [if_pos h2]
    rw [h2]
    have H2 := Lib.hid h2
    have H1 := Lib.hid h1
    clear h2 h1
    go_enter Try.func14, Try.ntmps14
    go_wp2_with (fail)
    refine (s_rfind pu pm pr n root asid W L addr false at_ g _ R h ha ha' F HF.out).mono ?_
    rintro e w1 ⟨rfl, hs⟩
    rw [H2.out]
    have c0 := hs.unit.c0
    obtain ⟨br, hm, _, _⟩ := hs.swap.ref
    have hp := hm.ptr
    have hc := hm.cell (16 * F.f + F.p).toNat (by omega)
    go_wp2_with (fail)
    go_ret2
    exact ⟨rfl, hs⟩

theorem s_store (pu pm pb n : Nat) (root asid : Int) (W : Nat → Int) (L : Nat → Option Ln) (addr x : Int) (at_ : Int) (g w : World) (R : HP) (h : Sat g w (unitP pu pm pb root asid * (memP pm n W * (tlbP pb L * R)))) (ha : 0 ≤ asid) (ha' : asid ≤ 8) (hx : 0 ≤ x) (hx' : x < 18446744073709551616) :
    Calls Try.prog 15 #[.pointer (some ⟨pu, 0, none⟩), .int .i64 addr, .int .u64 x, .int .i64 at_] w fun e w' => e = .returned (.int .i64 (lE n W L root asid addr true at_)) ∧ Sat g w' (unitP pu pm pb root asid * (memP pm n (sW n W L root asid addr x at_) * (tlbP pb (fTlb n W L root asid addr at_) * R))) := by
  unfold sW lE
  obtain ⟨F, hF⟩ : ∃ F, fRes n W L root asid addr true at_ = F := ⟨_, rfl⟩
  rw [hF]
  have hok := fRes_ok hF
  have hn := h.swap.mem
  obtain ⟨bk, hm0, _, _⟩ := hn
  have hn2 := hm0.n2
  clear hm0
  have HF := Lib.hid hF
  clear hF
  rcases hok with ⟨h1, h2, h3⟩ | ⟨h1, h2, ⟨h3, h4⟩, h5, h6⟩
  · have h7 : ¬ F.e = 0 := by simpa using h1
    rw [if_neg h7]
    clear h7 h2 h3
    go_enter Try.func15, Try.ntmps15
    go_wp2_with (fail)
    refine (s_find pu pm pb n root asid W L addr true at_ g _ R h ha ha' F HF.out).mono ?_
    rintro e w1 ⟨rfl, hs⟩
    go_wp2_with (fail)
    go_ret
    exact ⟨rfl, hs⟩
  · rw [if_pos h2]
    have hx : 16 * F.f + F.p = F.f * 16 + F.p := by omega
    rw [hx, h2]
    clear hx
    have H2 := Lib.hid h2
    have H1 := Lib.hid h1
    clear h2 h1
    go_enter Try.func15, Try.ntmps15
    go_wp2_with (fail)
    refine (s_find pu pm pb n root asid W L addr true at_ g _ R h ha ha' F HF.out).mono ?_
    rintro e w1 ⟨rfl, hs⟩
    rw [H2.out]
    have c0 := hs.unit.c0
    obtain ⟨bk, hm, _, hc⟩ := hs.swap.mem
    go_wp2_with (fail)
    refine (write_yes pm bk n W (F.f * 16 + F.p) x _ hm (by omega) (by omega) hx hx').mono ?_
    rintro e w2 ⟨rfl, hm2, ht2⟩
    go_wp2_with (fail)
    go_ret
    exact ⟨rfl, (hc _ _ ht2 hm2).swap⟩

theorem s_rstore (pu pm pr n : Nat) (root asid : Int) (W : Nat → Int) (L : Nat → Option Ln) (addr x : Int) (at_ : Int) (g w : World) (R : HP) (h : Sat g w (unitP pu pm pr root asid * (refP pm n W * (r09P pr L * R)))) (ha : 0 ≤ asid) (ha' : asid ≤ 8) (hx : 0 ≤ x) (hx' : x < 18446744073709551616) :
    Calls Try.prog 16 #[.pointer (some ⟨pu, 0, none⟩), .int .i64 addr, .int .u64 x, .int .i64 at_] w fun e w' => e = .returned (.int .i64 (lE n W L root asid addr true at_)) ∧ Sat g w' (unitP pu pm pr root asid * (refP pm n (sW n W L root asid addr x at_) * (r09P pr (fTlb n W L root asid addr at_) * R))) := by
  unfold sW lE
  obtain ⟨F, hF⟩ : ∃ F, fRes n W L root asid addr true at_ = F := ⟨_, rfl⟩
  rw [hF]
  have hok := fRes_ok hF
  have hn := h.swap.ref
  obtain ⟨bk, hm0, _, _⟩ := hn
  have hn2 := hm0.n2
  clear hm0
  have HF := Lib.hid hF
  clear hF
  rcases hok with ⟨h1, h2, h3⟩ | ⟨h1, h2, ⟨h3, h4⟩, h5, h6⟩
  · have h7 : ¬ F.e = 0 := by simpa using h1
    rw [if_neg h7]
    clear h7 h2 h3
    go_enter Try.func16, Try.ntmps16
    go_wp2_with (fail)
    refine (s_rfind pu pm pr n root asid W L addr true at_ g _ R h ha ha' F HF.out).mono ?_
    rintro e w1 ⟨rfl, hs⟩
    go_wp2_with (fail)
    go_ret
    exact ⟨rfl, hs⟩
  · rw [if_pos h2]
    rw [h2]
    have H2 := Lib.hid h2
    have H1 := Lib.hid h1
    clear h2 h1
    go_enter Try.func16, Try.ntmps16
    go_wp2_with (fail)
    refine (s_rfind pu pm pr n root asid W L addr true at_ g _ R h ha ha' F HF.out).mono ?_
    rintro e w1 ⟨rfl, hs⟩
    rw [H2.out]
    have c0 := hs.unit.c0
    obtain ⟨br, hm, _, hc⟩ := hs.swap.ref
    have hp := hm.ptr
    have hcc := hm.cell (16 * F.f + F.p).toNat (by omega)
    have hff := hm.free (16 * F.f + F.p).toNat (by omega)
    have hst := hm.store (16 * F.f + F.p).toNat (by omega) x hx hx'
    go_wp2_with (fail)
    go_ret
    exact ⟨rfl, (hc _ _ hst.2 hst.1).swap⟩

end Go.Proofs.Yteehghjdifbjbaa
