/- What the functions of package trunnionref11 return and write, by walks over their text. -/
import Derived.Test.YteehghjdifbjbaaMmu4
import Derived.Test.YteehghjdifbjbaaRef09b
import Derived.Test.YteehghjdifbjbaaRef07
namespace Go.Proofs.Yteehghjdifbjbaa
set_option linter.unusedSimpArgs false
set_option linter.unusedVariables false
set_option maxRecDepth 100000
open Go.RowKit
set_option maxHeartbeats 4000000

/-- A line in a block of its own. -/
structure LineAt (w : World) (b : Nat) (l : Ln) : Prop where
  c0 : w.cell? ⟨b, 0, none⟩ = some (.int .i64 l.a)
  c1 : w.cell? ⟨b, 1, none⟩ = some (.int .i64 l.p)
  c2 : w.cell? ⟨b, 2, none⟩ = some (.int .i64 l.f)
  c3 : w.cell? ⟨b, 3, none⟩ = some (.bool l.w)
  f0 : w.frozen? ⟨b, 0, none⟩ = false
  f1 : w.frozen? ⟨b, 1, none⟩ = false
  f2 : w.frozen? ⟨b, 2, none⟩ = false
  f3 : w.frozen? ⟨b, 3, none⟩ = false
  lt : b < w.heap.size
theorem LineAt.heap {w w' : World} {b : Nat} {l : Ln} (h : LineAt w b l) (e : w'.heap[b]? = w.heap[b]?) : LineAt w' b l :=
  ⟨(cell_of_heap e _).trans h.c0, (cell_of_heap e _).trans h.c1, (cell_of_heap e _).trans h.c2, (cell_of_heap e _).trans h.c3, (frozen_of_heap e _).trans h.f0, (frozen_of_heap e _).trans h.f1, (frozen_of_heap e _).trans h.f2, (frozen_of_heap e _).trans h.f3, heap_size e h.lt⟩
theorem LineAt.below {w w' : World} {b : Nat} {l : Ln} {B : Nat} (h : LineAt w b l) (t : Below B w w') (hB : b < B) : LineAt w' b l := h.heap (t.block b hB)
theorem LineAt.touch {w w' : World} {b : Nat} {l : Ln} {S : Nat → Prop} (h : LineAt w b l) (t : Touch S w w') (hB : ¬ S b) : LineAt w' b l := h.heap (t.block b h.lt hB)
theorem LineAt.put {w : World} {b : Nat} {l : Ln} (h : LineAt w b l) (m : Ln) : LineAt ((((w.setCell ⟨b, 0, none⟩ (.int .i64 m.a)).setCell ⟨b, 1, none⟩ (.int .i64 m.p)).setCell ⟨b, 2, none⟩ (.int .i64 m.f)).setCell ⟨b, 3, none⟩ (.bool m.w)) b m := by
  have c0 := h.c0; have c1 := h.c1; have c2 := h.c2; have c3 := h.c3; have f0 := h.f0; have f1 := h.f1; have f2 := h.f2; have f3 := h.f3; have lt := h.lt
  exact ⟨by simp [go_sem, c0], by simp [go_sem, c1], by simp [go_sem, c2], by simp [go_sem, c3], by simp [go_sem, f0], by simp [go_sem, f1], by simp [go_sem, f2], by simp [go_sem, f3], by simpa using lt⟩
theorem LineAt.new (w : World) (l : Ln) (t : TypeId) : LineAt (w.alloc (.cells #[.int .i64 l.a, .int .i64 l.p, .int .i64 l.f, .bool l.w] t)) w.heap.size l :=
  ⟨by simp [go_sem], by simp [go_sem], by simp [go_sem], by simp [go_sem], by simp [go_sem], by simp [go_sem], by simp [go_sem], by simp [go_sem], by simp⟩
def zeroLn : Ln := ⟨0, 0, 0, false⟩
theorem lnV_get (l : Option Ln) : lnV l = .agg #[.int .i64 (l.getD zeroLn).a, .int .i64 (l.getD zeroLn).p, .int .i64 (l.getD zeroLn).f, .bool (l.getD zeroLn).w] := by cases l <;> rfl

theorem r11_use_yes (pu pm pb : Nat) (root asid : Int) (br n : Nat) (W : Nat → Int) (r a : Int) (w : World) (hu : UnitIn w pu pm pb root asid) (hm : RefIn w pm br n W) (h : useB n r a = true) :
    Calls Try.prog 12 #[.pointer (some ⟨pu, 0, none⟩), .int .i64 r, .int .i64 a] w fun e w' => e = .returned (.int .i64 0) ∧ UnitIn w' pu pm pb r a ∧ Touch (· = pu) w w' := by
  obtain ⟨⟨h1, h2⟩, h3⟩ : (hasB n r = true ∧ 1 ≤ a) ∧ a ≤ 8 := by simpa [useB] using h
  clear h
  obtain ⟨h4, h5⟩ := hasB_yes h1
  clear h1
  have hfin := hu.use r a
  have htt : Touch (· = pu) w ((w.setCell ⟨pu, 2, none⟩ (.int .i64 r)).setCell ⟨pu, 3, none⟩ (.int .i64 a)) := by
    repeat (first | with_reducible exact Touch.refl _ _ | refine Touch.setCell (S := (· = pu)) ?_ (Or.inl rfl) _)
  have c0 := hu.c0; have c2 := hu.c2; have c3 := hu.c3; have f2 := hu.f2; have f3 := hu.f3
  have HF := Lib.hid (And.intro hfin htt)
  clear hfin htt
  go_enter Try.func12, Try.ntmps12
  go_wp2_with (go_at_call 46; refine (r02_has_yes pm br n W _ _ hm h4 h5).mono ?_; rintro e w' ⟨rfl, rfl⟩)
  go_ret
  exact ⟨rfl, HF.out⟩
theorem r11_use_no (pu pm pb : Nat) (root asid : Int) (br n : Nat) (W : Nat → Int) (r a : Int) (w : World) (hu : UnitIn w pu pm pb root asid) (hm : RefIn w pm br n W) (h : useB n r a = false) :
    Calls Try.prog 12 #[.pointer (some ⟨pu, 0, none⟩), .int .i64 r, .int .i64 a] w fun e w' => e = .returned (.int .i64 1) ∧ w = w' := by
  have c0 := hu.c0
  cases h1 : hasB n r
  · have h2 := hasB_no h1
    clear h h1
    go_enter Try.func12, Try.ntmps12
    go_wp2_with (go_at_call 46; refine (r02_has_no pm br n W _ _ hm h2).mono ?_; rintro e w' ⟨rfl, rfl⟩)
    go_ret
    exact ⟨rfl, rfl⟩
  · have hh : a < 1 ∨ (¬ a < 1 ∧ 8 < a) := by
      unfold useB at h
      rw [h1] at h; simp at h
      omega
    obtain ⟨h4, h5⟩ := hasB_yes h1
    clear h h1
    rcases hh with h1 | ⟨h1, h2⟩
    all_goals
      go_enter Try.func12, Try.ntmps12
      go_wp2_with (go_at_call 46; refine (r02_has_yes pm br n W _ _ hm h4 h5).mono ?_; rintro e w' ⟨rfl, rfl⟩)
      go_ret
      exact ⟨rfl, rfl⟩

theorem r11_find_bad (pu pm pb : Nat) (root asid : Int) (addr : Int) (wr : Bool) (at_ : Int) (w : World) (hu : UnitIn w pu pm pb root asid) (h : fOk asid addr at_ = false) :
    Calls Try.prog 24 #[.pointer (some ⟨pu, 0, none⟩), .int .i64 addr, .bool wr, .int .i64 at_] w fun e w' => e = .returned (.tuple #[.int .i64 0, .int .i64 0, .int .i64 1]) ∧ w = w' := by
  have c3 := hu.c3
  have hh : (asid == 0) = true ∨ ((asid == 0) = false ∧ addr < 0) ∨ ((asid == 0) = false ∧ ¬ addr < 0 ∧ 65535 < addr) ∨ ((asid == 0) = false ∧ ¬ addr < 0 ∧ ¬ 65535 < addr ∧ at_ < 0) ∨ ((asid == 0) = false ∧ ¬ addr < 0 ∧ ¬ 65535 < addr ∧ ¬ at_ < 0 ∧ 7 < at_) := by
    by_cases q : asid = 0
    · exact Or.inl (by simp [q])
    · right
      have q' : (asid == 0) = false := by simp [q]
      simp [fOk, q] at h
      simp [q']
      omega
  clear h
  rcases hh with h | ⟨h, h1⟩ | ⟨h, h1, h2⟩ | ⟨h, h1, h2, h3⟩ | ⟨h, h1, h2, h3, h4⟩
  all_goals
    go_enter Try.func24, Try.ntmps24
    go_wp2_with (fail)
    go_ret3
    exact ⟨rfl, rfl⟩

/-- An entry in a block of its own. -/
structure EntAt (w : World) (b : Nat) (v wr tb : Bool) (fr : Int) : Prop where
  c0 : w.cell? ⟨b, 0, none⟩ = some (.bool v)
  c1 : w.cell? ⟨b, 1, none⟩ = some (.bool wr)
  c2 : w.cell? ⟨b, 2, none⟩ = some (.bool tb)
  c3 : w.cell? ⟨b, 3, none⟩ = some (.int .i64 fr)
  f0 : w.frozen? ⟨b, 0, none⟩ = false
  f1 : w.frozen? ⟨b, 1, none⟩ = false
  f2 : w.frozen? ⟨b, 2, none⟩ = false
  f3 : w.frozen? ⟨b, 3, none⟩ = false
  lt : b < w.heap.size
theorem EntAt.heap {w w' : World} {b : Nat} {v wr tb : Bool} {fr : Int} (h : EntAt w b v wr tb fr) (e : w'.heap[b]? = w.heap[b]?) : EntAt w' b v wr tb fr :=
  ⟨(cell_of_heap e _).trans h.c0, (cell_of_heap e _).trans h.c1, (cell_of_heap e _).trans h.c2, (cell_of_heap e _).trans h.c3, (frozen_of_heap e _).trans h.f0, (frozen_of_heap e _).trans h.f1, (frozen_of_heap e _).trans h.f2, (frozen_of_heap e _).trans h.f3, heap_size e h.lt⟩
theorem EntAt.below {w w' : World} {b : Nat} {v wr tb : Bool} {fr : Int} {B : Nat} (h : EntAt w b v wr tb fr) (t : Below B w w') (hB : b < B) : EntAt w' b v wr tb fr := h.heap (t.block b hB)
theorem EntAt.put {w : World} {b : Nat} {v wr tb : Bool} {fr : Int} (h : EntAt w b v wr tb fr) (v' wr' tb' : Bool) (fr' : Int) : EntAt ((((w.setCell ⟨b, 0, none⟩ (.bool v')).setCell ⟨b, 1, none⟩ (.bool wr')).setCell ⟨b, 2, none⟩ (.bool tb')).setCell ⟨b, 3, none⟩ (.int .i64 fr')) b v' wr' tb' fr' := by
  have c0 := h.c0; have c1 := h.c1; have c2 := h.c2; have c3 := h.c3; have f0 := h.f0; have f1 := h.f1; have f2 := h.f2; have f3 := h.f3; have lt := h.lt
  exact ⟨by simp [go_sem, c0], by simp [go_sem, c1], by simp [go_sem, c2], by simp [go_sem, c3], by simp [go_sem, f0], by simp [go_sem, f1], by simp [go_sem, f2], by simp [go_sem, f3], by simpa using lt⟩
theorem EntAt.new (w : World) (v wr tb : Bool) (fr : Int) (t : TypeId) : EntAt (w.alloc (.cells #[.bool v, .bool wr, .bool tb, .int .i64 fr] t)) w.heap.size v wr tb fr :=
  ⟨by simp [go_sem], by simp [go_sem], by simp [go_sem], by simp [go_sem], by simp [go_sem], by simp [go_sem], by simp [go_sem], by simp [go_sem], by simp⟩

/-- The reference's buffer behind a call. -/
def R9Post (w : World) (pr : Nat) (L' : Nat → Option Ln) (w' : World) : Prop := ∃ M' I', R9In w' pr M' I' ∧ L9 M' I' = L' ∧ Touch (· = pr) w w'
def CutA (w : World) (l : Option Ln) (s12 s13 : Value) (wx : World) : Prop := ∃ bl, s12 = .pointer (some ⟨bl, 0, none⟩) ∧ s13 = .bool l.isSome ∧ LineAt wx bl (l.getD zeroLn) ∧ w.heap.size ≤ bl ∧ Below w.heap.size w wx
def CutC (w : World) (bl : Nat) (l : Ln) (R : WRes) (s14 s16 : Value) (wx : World) : Prop := ∃ be, s14 = .pointer (some ⟨be, 0, none⟩) ∧ s16 = .int .i64 R.e ∧ EntAt wx be R.v R.wr R.tb R.fr ∧ bl < be ∧ LineAt wx bl l ∧ Below w.heap.size w wx
def CutB (w : World) (pr bl : Nat) (l : Ln) (L' : Nat → Option Ln) (wx : World) : Prop := LineAt wx bl l ∧ R9Post w pr L' wx

theorem L9_put (M : Nat → Ln) (I : Nat → Bool) (k : Nat) (l : Ln) : L9 (fun i => if i = k then l else M i) (fun i => if i = k then true else I i) = fun i => if i = k then some l else L9 M I i := by
  funext i
  unfold L9
  by_cases e : i = k
  · simp [e]
  · simp [e]
theorem r11_find_ok (pu pm pr : Nat) (root asid : Int) (br n : Nat) (W : Nat → Int) (M : Nat → Ln) (I : Nat → Bool) (addr : Int) (wr : Bool) (at_ : Int) (F : FRes) (w : World) (hu : UnitIn w pu pm pr root asid) (hm : RefIn w pm br n W) (ht : R9In w pr M I)
    (ha : 1 ≤ asid) (ha' : asid ≤ 8) (hpu : pu ≠ pr) (hpm : pm ≠ pr) (hbr : br ≠ pr) (h : fOk asid addr at_ = true) (hF : fRes n W (L9 M I) root asid addr wr at_ = F) :
    Calls Try.prog 24 #[.pointer (some ⟨pu, 0, none⟩), .int .i64 addr, .bool wr, .int .i64 at_] w fun e w' => e = .returned (.tuple #[.int .i64 F.f, .int .i64 F.p, .int .i64 F.e]) ∧ R9Post w pr (mTlb n W (L9 M I) root asid (addr / 16) at_) w' := by
  have c0 := hu.c0
  have c1 := hu.c1
  have c2 := hu.c2
  have c3 := hu.c3
  have ult := hu.lt
  obtain ⟨⟨a0, a1⟩, az, b0, b1⟩ := fOk_yes h
  have az' : (asid == 0) = false := by simp [az]
  have q0 : 0 ≤ addr / 16 := by omega
  have q1 : addr / 16 < 4096 := by omega
  unfold fRes at hF
  rw [if_pos h] at hF
  have HFF := Lib.hid hF
  clear hF h az
  have hne : ¬ pu = w.heap.size := by omega
  obtain ⟨T, hT⟩ : ∃ T, tFind (L9 M I) asid (addr / 16) = T := ⟨_, rfl⟩
  have HT := Lib.hid hT
  clear hT
  have hS : ∀ w', Below w.heap.size w w' → w'.cell? ⟨pu, 1, none⟩ = some (.pointer (some ⟨pr, 0, none⟩)) ∧ w'.cell? ⟨pu, 3, none⟩ = some (.int .i64 asid) := fun w' h => ⟨keep h ult c1, keep h ult c3⟩
  go_enter Try.func24, Try.ntmps24
  go_upto_region 4 with fail
  go_cut [12, 13] (fun s12 s13 wx => CutA w T s12 s13 wx)
  case first =>
    go_region_held3 (fun w' => w'.cell? ⟨pu, 1, none⟩ = some (.pointer (some ⟨pr, 0, none⟩)) ∧ w'.cell? ⟨pu, 3, none⟩ = some (.int .i64 asid)) (exact hS _ (by repeat (first | with_reducible exact Below.refl _ _ | with_reducible assumption | with_reducible refine below_drewN ?_ _ | with_reducible refine Below.drew ?_ | with_reducible refine Below.setCell ?_ (by first | omega | (simp <;> omega)) _ | with_reducible refine Below.alloc ?_ (by first | omega | (simp <;> omega)) _)))
      ((go_at_call 59
        refine (r09_find pr M I asid (addr / 16) _ (ht.below (by repeat (first | with_reducible exact Below.refl _ _ | with_reducible assumption | with_reducible refine below_drewN ?_ _ | with_reducible refine Below.drew ?_ | with_reducible refine Below.setCell ?_ (by first | omega | (simp <;> omega)) _ | with_reducible refine Below.alloc ?_ (by first | omega | (simp <;> omega)) _)))).mono ?_
        rintro e w3 ⟨rfl, hb3'⟩
        rw [HT.out, lnV_get]
        first
          | (have hb4 := below_un hb3'; have hl := (LineAt.new w zeroLn 41).below hb4 (by simp); have hb3 : Below w.heap.size w w3 := (Below.alloc (Below.refl _ _) (Nat.le_refl _) _).trans (hb4.mono (by simp)); have hs3 := hb3.size; have g0 := hl.c0; have g1 := hl.c1; have g2 := hl.c2; have g3 := hl.c3; have g4 := hl.f0; have g5 := hl.f1; have g6 := hl.f2; have g7 := hl.f3)
          | (have hb3 : Below w.heap.size w w3 := below_un hb3'; have hs3 := hb3.size)))
    · have lp := (LineAt.new w3 (T.getD zeroLn) 41)
      go_wp2_with (fail)
      go_meet
      exact ⟨w3.heap.size, rfl, rfl, lp, by omega, by repeat (first | with_reducible exact Below.refl _ _ | with_reducible assumption | with_reducible refine below_drewN ?_ _ | with_reducible refine Below.drew ?_ | with_reducible refine Below.setCell ?_ (by first | omega | (simp <;> omega)) _ | with_reducible refine Below.alloc ?_ (by first | omega | (simp <;> omega)) _)⟩
    · have lp := hl.put (T.getD zeroLn)
      go_wp2_with (fail)
      go_meet
      exact ⟨w.heap.size, rfl, rfl, lp, by omega, by repeat (first | with_reducible exact Below.refl _ _ | with_reducible assumption | with_reducible refine below_drewN ?_ _ | with_reducible refine Below.drew ?_ | with_reducible refine Below.setCell ?_ (by first | omega | (simp <;> omega)) _ | with_reducible refine Below.alloc ?_ (by first | omega | (simp <;> omega)) _)⟩
  case rest =>
    obtain ⟨bl, rfl, rfl, hl, hbl, kb⟩ := hcut
    go_upto_if 54 with (fail)
    go_cut [] (fun wx => ∃ l, mLine n W (L9 M I) root asid (addr / 16) = some l ∧ CutB w pr bl l (mTlb n W (L9 M I) root asid (addr / 16) at_) wx)
    case first =>
      have hx0 := hl.c0
      cases T with
      | some l0 =>
        have e1 : mLine n W (L9 M I) root asid (addr / 16) = some l0 := by unfold mLine; rw [HT.out]
        have e2 : mTlb n W (L9 M I) root asid (addr / 16) at_ = L9 M I := by unfold mTlb; rw [HT.out]
        have E1 := Lib.hid e1
        have E2 := Lib.hid e2
        clear e1 e2 hx0
        go_wp2_with (fail)
        go_meet
        exact ⟨l0, E1.out, hl, M, I, ht.below kb, E2.out.symm, Touch.of_below kb⟩
      | none =>
        obtain ⟨R, hR⟩ : ∃ R, walkM W n root (addr / 16) = R := ⟨_, rfl⟩
        have HR := Lib.hid hR
        clear hR hx0
        have hm1 := hm.below kb
        have ult1 : pu < wc.heap.size := Nat.lt_of_lt_of_le ult kb.size
        have d0 := keep kb ult c0
        have d2 := keep kb ult c2
        have hS2 : ∀ w', Below wc.heap.size wc w' → w'.cell? ⟨pu, 0, none⟩ = some (.pointer (some ⟨pm, 0, none⟩)) ∧ w'.cell? ⟨pu, 2, none⟩ = some (.int .i64 root) := fun w' h => ⟨keep h ult1 d0, keep h ult1 d2⟩
        have hblt := hl.lt
        go_upto_region 6 with fail
        go_cut [14, 16] (fun s14 s16 wx => CutC w bl zeroLn R s14 s16 wx)
        case first =>
          go_region_held3 (fun w' => w'.cell? ⟨pu, 0, none⟩ = some (.pointer (some ⟨pm, 0, none⟩)) ∧ w'.cell? ⟨pu, 2, none⟩ = some (.int .i64 root)) (exact hS2 _ (by repeat (first | with_reducible exact Below.refl _ _ | with_reducible assumption | with_reducible refine below_drewN ?_ _ | with_reducible refine Below.drew ?_ | with_reducible refine Below.setCell ?_ (by first | omega | (simp <;> omega)) _ | with_reducible refine Below.alloc ?_ (by first | omega | (simp <;> omega)) _)))
            ((go_at_call 60
              refine (r07_walk pm br n W root (addr / 16) _ (hm1.below (by repeat (first | with_reducible exact Below.refl _ _ | with_reducible assumption | with_reducible refine below_drewN ?_ _ | with_reducible refine Below.drew ?_ | with_reducible refine Below.setCell ?_ (by first | omega | (simp <;> omega)) _ | with_reducible refine Below.alloc ?_ (by first | omega | (simp <;> omega)) _))) R HR.out).mono ?_
              rintro e w3 ⟨v, rfl, hown3, hb3'⟩
              first
                | (have hb4 := below_un hb3'; have he := (EntAt.new wc false false false 0 34).below hb4 (by simp); have hb3 : Below wc.heap.size wc w3 := (Below.alloc (Below.refl _ _) (Nat.le_refl _) _).trans (hb4.mono (by simp)); have hs3 := hb3.size; have g0 := he.c0; have g1 := he.c1; have g2 := he.c2; have g3 := he.c3; have g4 := he.f0; have g5 := he.f1; have g6 := he.f2; have g7 := he.f3)
                | (have hb3 : Below wc.heap.size wc w3 := below_un hb3'; have hs3 := hb3.size)))
          · have lp := EntAt.new w3 R.v R.wr R.tb R.fr 34
            have kk : Below wc.heap.size wc (w3.alloc (.cells #[.bool R.v, .bool R.wr, .bool R.tb, .int .i64 R.fr] 34)) := by repeat (first | with_reducible exact Below.refl _ _ | with_reducible assumption | with_reducible refine below_drewN ?_ _ | with_reducible refine Below.drew ?_ | with_reducible refine Below.setCell ?_ (by first | omega | (simp <;> omega)) _ | with_reducible refine Below.alloc ?_ (by first | omega | (simp <;> omega)) _)
            go_wp2_with (fail)
            go_meet
            exact ⟨w3.heap.size, rfl, rfl, lp, by omega, hl.below kk hblt, kb.trans (kk.mono kb.size)⟩
          · have lp := he.put R.v R.wr R.tb R.fr
            obtain ⟨w4, hw4⟩ : ∃ w4, w4 = (((w3.setCell ⟨wc.heap.size, 0, none⟩ (.bool R.v)).setCell ⟨wc.heap.size, 1, none⟩ (.bool R.wr)).setCell ⟨wc.heap.size, 2, none⟩ (.bool R.tb)).setCell ⟨wc.heap.size, 3, none⟩ (.int .i64 R.fr) := ⟨_, rfl⟩
            have kk : Below wc.heap.size wc w4 := by rw [hw4]; repeat (first | with_reducible exact Below.refl _ _ | with_reducible assumption | with_reducible refine below_drewN ?_ _ | with_reducible refine Below.drew ?_ | with_reducible refine Below.setCell ?_ (by first | omega | (simp <;> omega)) _ | with_reducible refine Below.alloc ?_ (by first | omega | (simp <;> omega)) _)
            rw [← hw4] at lp ⊢
            clear hw4
            go_wp2_with (fail)
            go_meet
            exact ⟨wc.heap.size, rfl, rfl, lp, by omega, hl.below kk hblt, kb.trans (kk.mono kb.size)⟩
        case rest =>
          clear hl hS2 d0 d2 hm1 hblt ult1 kb
          obtain ⟨be, rfl, rfl, he, hbe, hl, kb⟩ := hcut
          have hu1 := hu.below kb
          have hm1 := hm.below kb
          have d0 := hu1.c0
          have d1 := hu1.c1
          have d3 := hu1.c3
          have hf := he.c3
          have hw := he.c1
          by_cases hRe : R.e = 0
          · have hRe' : (R.e != 0) = false := by simp [hRe]
            cases hh : hasB n R.fr
            · have hn := hasB_no hh
              have e1 : mLine n W (L9 M I) root asid (addr / 16) = none := by unfold mLine; rw [HT.out]; simp only; rw [HR.out, if_neg (by simp [hh])]
              have e2 : mTlb n W (L9 M I) root asid (addr / 16) at_ = L9 M I := by unfold mTlb; rw [HT.out, e1]
              obtain rfl : F = ⟨0, 0, 10⟩ := by rw [← HFF.out, e1]
              have E2 := Lib.hid e2
              have hqq : ∀ q, Calls Try.prog 46 #[.pointer (some ⟨pm, 0, none⟩), .int .i64 R.fr] (wc.drewN q) fun e w' => e = .returned (.bool false) ∧ w' = wc.drewN q := fun q => (r02_has_no pm br n W _ (wc.drewN q) (hm1.below (by repeat (first | with_reducible exact Below.refl _ _ | with_reducible assumption | with_reducible refine below_drewN ?_ _ | with_reducible refine Below.drew ?_ | with_reducible refine Below.setCell ?_ (by first | omega | (simp <;> omega)) _ | with_reducible refine Below.alloc ?_ (by first | omega | (simp <;> omega)) _))) hn).mono fun _ _ ⟨h1, h2⟩ => ⟨h1, h2.symm⟩
              clear e1 e2 hRe hh hn hf
              have hf := he.c3
              go_wp2_with (fail)
              go_quiet ((go_at_call 46; exact Calls.quiet_of_same (hqq _)))
              go_wp2_with (fail)
              go_ret3
              exact ⟨rfl, M, I, (ht.below kb).heap rfl, E2.out.symm, (Touch.of_below kb).drewN _⟩
            · have hn := hasB_yes hh
              have hn2 := hm.n2
              have e1 : mLine n W (L9 M I) root asid (addr / 16) = some ⟨asid, addr / 16, R.fr, R.wr⟩ := by unfold mLine; rw [HT.out]; simp only; rw [HR.out, if_pos ⟨hRe, hh⟩]
              obtain ⟨l, hll⟩ : ∃ l : Ln, l = ⟨asid, addr / 16, R.fr, R.wr⟩ := ⟨_, rfl⟩
              obtain ⟨k, hk, hpl⟩ := tPlace_bd (L9 M I) l at_ b0 b1
              have e2 : mTlb n W (L9 M I) root asid (addr / 16) at_ = fun i => if i = k then some l else L9 M I i := by
                unfold mTlb; rw [HT.out, e1]; simp only; rw [← hll]; exact tPutL_eq _ _ _ k hpl
              have e3 : mLine n W (L9 M I) root asid (addr / 16) = some l := by rw [e1, hll]
              have hr : rightL l = true := by rw [hll]; simp [rightL]; omega
              have hP : ∀ w4, R9In w4 pr M I → Calls Try.prog 22 #[.pointer (some ⟨pr, 0, none⟩), .agg #[.int .i64 asid, .int .i64 (addr / 16), .int .i64 R.fr, .bool R.wr], .int .i64 at_] w4 fun e w' => e = .returned (.int .i64 0) ∧ R9In w' pr (fun i => if i = k then l else M i) (fun i => if i = k then true else I i) ∧ Touch (· = pr) w4 w' := fun w4 h4 => by
                have h5 := r09_put_go pr M I l at_ k w4 h4 hr b0 b1 hk hpl
                rw [show lnV (some l) = .agg #[.int .i64 asid, .int .i64 (addr / 16), .int .i64 R.fr, .bool R.wr] by rw [hll]; rfl] at h5
                exact h5
              have hqq : ∀ q, Calls Try.prog 46 #[.pointer (some ⟨pm, 0, none⟩), .int .i64 R.fr] (wc.drewN q) fun e w' => e = .returned (.bool true) ∧ w' = wc.drewN q := fun q => (r02_has_yes pm br n W _ (wc.drewN q) (hm1.below (by repeat (first | with_reducible exact Below.refl _ _ | with_reducible assumption | with_reducible refine below_drewN ?_ _ | with_reducible refine Below.drew ?_ | with_reducible refine Below.setCell ?_ (by first | omega | (simp <;> omega)) _ | with_reducible refine Below.alloc ?_ (by first | omega | (simp <;> omega)) _))) hn.1 hn.2).mono fun _ _ ⟨h1, h2⟩ => ⟨h1, h2.symm⟩
              have lp : ∀ q, LineAt (((((wc.drewN q).setCell ⟨bl, 0, none⟩ (.int .i64 asid)).setCell ⟨bl, 1, none⟩ (.int .i64 (addr / 16))).setCell ⟨bl, 2, none⟩ (.int .i64 R.fr)).setCell ⟨bl, 3, none⟩ (.bool R.wr)) bl l := fun q => by
                rw [hll]; exact LineAt.put (w := wc.drewN q) (hl.heap rfl) ⟨asid, addr / 16, R.fr, R.wr⟩
              have hlf : l = ⟨asid, addr / 16, R.fr, R.wr⟩ := hll
              have HE2 := Lib.hid e2
              have HE3 := Lib.hid e3
              have HP := Lib.hid hP
              have HLL := Lib.hid hlf
              have z0 := hl.c0; have z1 := hl.c1; have z2 := hl.c2; have z3 := hl.c3
              have y0 := hl.f0; have y1 := hl.f1; have y2 := hl.f2; have y3 := hl.f3
              have nb : ¬ be = bl := by omega
              have nb' : ¬ bl = be := by omega
              have nu : ¬ pu = bl := by omega
              have nu' : ¬ bl = pu := by omega
              have blt := hl.lt
              have npr : ¬ bl = pr := by have := ht.lt; omega
              clear e1 e2 e3 hP hr hlf hll hRe hh
              go_wp2_with (fail)
              go_quiet ((go_at_call 46; exact Calls.quiet_of_same (hqq _)))
              go_wp2_with (fail)
              go_region_held3 (fun w' => w'.cell? ⟨pu, 3, none⟩ = some (.int .i64 asid) ∧ w'.cell? ⟨be, 3, none⟩ = some (.int .i64 R.fr) ∧ w'.cell? ⟨be, 1, none⟩ = some (.bool R.wr)) (first | go_keep | exact ⟨by assumption, by assumption, by assumption⟩) (fail)
              obtain ⟨w4, hw4⟩ : ∃ w4, w4 = ((((wc.drewN (nq + 1)).setCell ⟨bl, 0, none⟩ (.int .i64 asid)).setCell ⟨bl, 1, none⟩ (.int .i64 (addr / 16))).setCell ⟨bl, 2, none⟩ (.int .i64 R.fr)).setCell ⟨bl, 3, none⟩ (.bool R.wr) := ⟨_, rfl⟩
              have kk : Below w.heap.size w w4 := by rw [hw4]; exact Below.setCell (Below.setCell (Below.setCell (Below.setCell (below_drewN kb _) (by simpa using hbl) _) (by simpa using hbl) _) (by simpa using hbl) _) (by simpa using hbl) _
              have lp4 : LineAt w4 bl l := by rw [hw4]; exact lp _
              have ht4 := ht.below kk
              have v1 := keep kk ult c1
              have q0 := lp4.c0; have q1 := lp4.c1; have q2 := lp4.c2; have q3 := lp4.c3
              rw [HLL.out] at q0 q1 q2 q3
              clear z0 z1 z2 z3 y0 y1 y2 y3 lp hl
              go_wp2_with (fail)
              rw [← hw4]
              clear hw4
              have npu : ¬ pu = pr := hpu
              go_region_held3 (fun w' => w'.cell? ⟨pu, 1, none⟩ = some (.pointer (some ⟨pr, 0, none⟩)) ∧ w'.cell? ⟨bl, 0, none⟩ = some (.int .i64 asid) ∧ w'.cell? ⟨bl, 1, none⟩ = some (.int .i64 (addr / 16)) ∧ w'.cell? ⟨bl, 2, none⟩ = some (.int .i64 R.fr) ∧ w'.cell? ⟨bl, 3, none⟩ = some (.bool R.wr)) (first | go_keep | exact ⟨by assumption, by assumption, by assumption, by assumption, by assumption⟩)
                ((go_at_call 22
                  refine (HP.out _ (ht4.heap (by rfl))).mono ?_
                  rintro e w6 ⟨rfl, hr6, htt6⟩
                  have ht6 : Touch (· = pr) w4 w6 := ⟨htt6.os, htt6.tape, htt6.output, htt6.size, htt6.block⟩
                  have v1 := keepT ht6 (Nat.lt_of_lt_of_le ult kk.size) npu v1
                  have q0 := keepT ht6 lp4.lt npr q0
                  have q1 := keepT ht6 lp4.lt npr q1
                  have q2 := keepT ht6 lp4.lt npr q2
                  have q3 := keepT ht6 lp4.lt npr q3))
              go_wp2_with (fail)
              go_meet
              refine ⟨l, HE3.out, lp4.touch ht6 npr, _, _, hr6, ?_, (Touch.of_below kk).trans ht6⟩
              rw [HE2.out]
              exact L9_put M I k l
          · have hRe' : (R.e != 0) = true := by simp [hRe]
            have e1 : mLine n W (L9 M I) root asid (addr / 16) = none := by unfold mLine; rw [HT.out]; simp only; rw [HR.out, if_neg (by simp [hRe])]
            have e2 : mTlb n W (L9 M I) root asid (addr / 16) at_ = L9 M I := by unfold mTlb; rw [HT.out, e1]
            obtain rfl : F = ⟨0, 0, 10⟩ := by rw [← HFF.out, e1]
            have E2 := Lib.hid e2
            clear e1 e2 hRe
            go_wp2_with (fail)
            go_quiet (fail)
            go_wp2_with (fail)
            go_ret3
            exact ⟨rfl, M, I, (ht.below kb).heap rfl, E2.out.symm, (Touch.of_below kb).drewN _⟩
    case rest =>
      clear hl kb
      obtain ⟨l, hml, hl, M', I', ht', hL', tt⟩ := hcut
      have hu1 := hu.heap (tt.block pu ult hpu)
      have hm1 := hm.touch tt hpm hbr
      have d0 := hu1.c0
      have hf := hl.c2
      have hw := hl.c3
      have hF := HFF.out
      rw [hml] at hF
      have HL := Lib.hid hL'
      clear hL' hml HFF
      have hcond : (wr = true ∧ l.w = false) ∨ ((wr = false ∨ l.w = true) ∧ hasB n l.f = false) ∨ ((wr = false ∨ l.w = true) ∧ hasB n l.f = true) := by
        cases wr <;> cases l.w <;> cases hasB n l.f <;> simp
      rcases hcond with ⟨h1, h2⟩ | ⟨h1, h2⟩ | ⟨h1, h2⟩
      · subst h1
        obtain rfl : F = ⟨0, 0, 9⟩ := by rw [← hF]; simp [h2]
        clear hF
        rw [h2] at hw
        go_wp2_with (fail)
        go_ret3
        exact ⟨rfl, M', I', ht', HL.out, tt⟩
      · obtain rfl : F = ⟨0, 0, 10⟩ := by
          rw [← hF]; rcases h1 with h1 | h1 <;> simp [h1, h2]
        clear hF
        have hn := hasB_no h2
        have hqq : ∀ q, Calls Try.prog 46 #[.pointer (some ⟨pm, 0, none⟩), .int .i64 l.f] (wc.drewN q) fun e w' => e = .returned (.bool false) ∧ w' = wc.drewN q := fun q => (r02_has_no pm br n W _ (wc.drewN q) (hm1.below (by repeat (first | with_reducible exact Below.refl _ _ | with_reducible assumption | with_reducible refine below_drewN ?_ _ | with_reducible refine Below.drew ?_ | with_reducible refine Below.setCell ?_ (by first | omega | (simp <;> omega)) _ | with_reducible refine Below.alloc ?_ (by first | omega | (simp <;> omega)) _))) hn).mono fun _ _ ⟨h1, h2⟩ => ⟨h1, h2.symm⟩
        clear h2 hn
        rcases h1 with h1 | h1
        all_goals
          go_wp2_with (fail)
          all_goals
            go_quiet ((go_at_call 46; exact Calls.quiet_of_same (hqq _)))
            go_wp2_with (fail)
            go_ret3
            exact ⟨rfl, M', I', ht'.heap rfl, HL.out, tt.drewN _⟩
      · obtain rfl : F = ⟨l.f, addr % 16, 0⟩ := by
          rw [← hF]; rcases h1 with h1 | h1 <;> simp [h1, h2]
        clear hF
        have hn := hasB_yes h2
        have hqq : ∀ q, Calls Try.prog 46 #[.pointer (some ⟨pm, 0, none⟩), .int .i64 l.f] (wc.drewN q) fun e w' => e = .returned (.bool true) ∧ w' = wc.drewN q := fun q => (r02_has_yes pm br n W _ (wc.drewN q) (hm1.below (by repeat (first | with_reducible exact Below.refl _ _ | with_reducible assumption | with_reducible refine below_drewN ?_ _ | with_reducible refine Below.drew ?_ | with_reducible refine Below.setCell ?_ (by first | omega | (simp <;> omega)) _ | with_reducible refine Below.alloc ?_ (by first | omega | (simp <;> omega)) _))) hn.1 hn.2).mono fun _ _ ⟨h1, h2⟩ => ⟨h1, h2.symm⟩
        clear h2 hn
        rcases h1 with h1 | h1
        all_goals
          go_wp2_with (fail)
          all_goals
            go_quiet ((go_at_call 46; exact Calls.quiet_of_same (hqq _)))
            go_wp2_with (fail)
            go_ret3
            exact ⟨rfl, M', I', ht'.heap rfl, HL.out, tt.drewN _⟩

end Go.Proofs.Yteehghjdifbjbaa
