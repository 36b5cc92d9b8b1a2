/- What Find, Load, Store of package mmu return and write, by walks over their text. -/
import Derived.Test.YteehghjdifbjbaaMmu3
namespace Go.Proofs.Yteehghjdifbjbaa
set_option linter.unusedSimpArgs false
set_option linter.unusedVariables false
set_option maxRecDepth 100000
open Go.RowKit
set_option maxHeartbeats 4000000

/-- The buffer behind a call: its lines' blocks are those of before, or new. -/
def TlbPost (w : World) (pb : Nat) (lb : Nat → Nat) (L L' : Nat → Option Ln) (w' : World) : Prop :=
  ∃ lb', TlbIn w' pb lb' L' ∧ (∀ i l, i < 8 → L' i = some l → (L i ≠ none ∧ lb' i = lb i) ∨ w.heap.size ≤ lb' i) ∧ Touch (· = pb) w w'
theorem TlbPost.same {w w' : World} {pb : Nat} {lb : Nat → Nat} {L : Nat → Option Ln} (h : TlbIn w pb lb L) (b : Below w.heap.size w w') : TlbPost w pb lb L L w' :=
  ⟨lb, h.below b, fun i l hi hl => Or.inl ⟨(by rw [hl]; simp), rfl⟩, Touch.of_below b⟩
theorem TlbPost.before {w0 w w' : World} {pb : Nat} {lb : Nat → Nat} {L L' : Nat → Option Ln} (b : Below w0.heap.size w0 w) (h : TlbPost w pb lb L L' w') : TlbPost w0 pb lb L L' w' := by
  obtain ⟨lb', h1, h2, h3⟩ := h
  refine ⟨lb', h1, fun i l hi hl => ?_, (Touch.of_below b).trans h3⟩
  rcases h2 i l hi hl with h | h
  · exact Or.inl h
  · exact Or.inr (Nat.le_trans b.size h)
theorem TlbPost.behind {w w' w2 : World} {pb : Nat} {lb : Nat → Nat} {L L' : Nat → Option Ln} (h : TlbPost w pb lb L L' w') (b : Below w'.heap.size w' w2) : TlbPost w pb lb L L' w2 := by
  obtain ⟨lb', h1, h2, h3⟩ := h
  exact ⟨lb', h1.below b, h2, h3.trans (Touch.of_below b)⟩

theorem mLine_is {n : Nat} {W : Nat → Int} {L : Nat → Option Ln} {root asid page : Int} {l : Ln} (h : mLine n W L root asid page = some l) : l.a = asid ∧ l.p = page := by
  unfold mLine at h
  rcases tAt_cases L asid page with ⟨_, e⟩ | ⟨k, l', _, _, _, h1, h2, e⟩
  · rw [e] at h
    simp only at h
    split at h
    · cases h; exact ⟨rfl, rfl⟩
    · cases h
  · rw [e] at h
    simp only at h
    cases h; exact ⟨h1, h2⟩

theorem mmu_line (pu pm pb : Nat) (root asid : Int) (bk n : Nat) (W : Nat → Int) (lb : Nat → Nat) (L : Nat → Option Ln) (page at_ : Int) (w : World) (hu : UnitIn w pu pm pb root asid) (hm : MemIn w pm bk n W) (ht : TlbIn w pb lb L)
    (ha : 1 ≤ asid) (ha' : asid ≤ 8) (hp : 0 ≤ page) (hp' : page < 4096) (h0 : 0 ≤ at_) (h1 : at_ < 8) (hpu : pu ≠ pb) :
    Calls Try.prog 58 #[.pointer (some ⟨pu, 0, none⟩), .int .i64 page, .int .i64 at_] w fun e w' => e = .returned (lnV (mLine n W L root asid page)) ∧ TlbPost w pb lb L (mTlb n W L root asid page at_) w' := by
  cases hl : tFind L asid page with
  | some l =>
    have e1 : mLine n W L root asid page = some l := by unfold mLine; rw [hl]
    have e2 : mTlb n W L root asid page at_ = L := by unfold mTlb; rw [hl]
    rw [e1, e2]
    exact (mmu_line_hit pu pm pb root asid lb L page at_ l w hu ht hl).mono fun e w' ⟨h1, h2⟩ => ⟨h1, TlbPost.same ht h2⟩
  | none =>
    by_cases hR : (walkM W n root page).e = 0 ∧ hasB n (walkM W n root page).fr = true
    · have e1 : mLine n W L root asid page = some ⟨asid, page, (walkM W n root page).fr, (walkM W n root page).wr⟩ := by unfold mLine; rw [hl]; simp only; rw [if_pos hR]
      have e2 : mTlb n W L root asid page at_ = tPutL L ⟨asid, page, (walkM W n root page).fr, (walkM W n root page).wr⟩ at_ := by unfold mTlb; rw [hl, e1]
      obtain ⟨k, hk, hpl⟩ := tPlace_bd L ⟨asid, page, (walkM W n root page).fr, (walkM W n root page).wr⟩ at_ h0 h1
      rw [e1, e2, tPutL_eq _ _ _ k hpl]
      have hf := hasB_yes hR.2
      have hn := hm.n2
      refine (mmu_line_new pu pm pb root asid bk n W lb L page at_ k _ w hu hm ht hl hR.1 hR.2 rfl (by simp [rightL]; omega) h0 h1 hk hpl hpu).mono ?_
      rintro e w' ⟨h1, ⟨nb, h2, h3, h4⟩, h5⟩
      refine ⟨h1, _, h4, fun i l hi hl => ?_, h5⟩
      by_cases q : i = k
      · right; rw [if_pos q]; exact h2
      · left; simp only [q, if_false] at hl ⊢; exact ⟨by rw [hl]; simp, trivial⟩
    · have e1 : mLine n W L root asid page = none := by unfold mLine; rw [hl]; simp only; rw [if_neg hR]
      have e2 : mTlb n W L root asid page at_ = L := by unfold mTlb; rw [hl, e1]
      rw [e1, e2]
      exact (mmu_line_miss pu pm pb root asid bk n W lb L page at_ w hu hm ht hl hR).mono fun e w' ⟨h1, h2⟩ => ⟨h1, TlbPost.same ht h2⟩

/-- May an address be looked for? -/
def fOk (asid addr at_ : Int) : Bool := decide (0 ≤ addr) && decide (addr < 65536) && !decide (asid = 0) && decide (0 ≤ at_) && decide (at_ < 8)
/-- The frame, the place, the error of an address. -/
structure FRes where
  f : Int
  p : Int
  e : Int
def fRes (n : Nat) (W : Nat → Int) (L : Nat → Option Ln) (root asid addr : Int) (wr : Bool) (at_ : Int) : FRes :=
  if fOk asid addr at_ then match mLine n W L root asid (addr / 16) with
    | none => ⟨0, 0, 10⟩
    | some l => if wr && !l.w then ⟨0, 0, 9⟩ else if hasB n l.f then ⟨l.f, addr % 16, 0⟩ else ⟨0, 0, 10⟩
  else ⟨0, 0, 1⟩
def fTlb (n : Nat) (W : Nat → Int) (L : Nat → Option Ln) (root asid addr : Int) (at_ : Int) : Nat → Option Ln := if fOk asid addr at_ then mTlb n W L root asid (addr / 16) at_ else L

theorem mmu_find_bad (pu pm pb : Nat) (root asid : Int) (addr : Int) (wr : Bool) (at_ : Int) (w : World) (hu : UnitIn w pu pm pb root asid) (h : fOk asid addr at_ = false) :
    Calls Try.prog 23 #[.pointer (some ⟨pu, 0, none⟩), .int .i64 addr, .bool wr, .int .i64 at_] w fun e w' => e = .returned (.tuple #[.int .i64 0, .int .i64 0, .int .i64 1]) ∧ w = w' := by
  have c3 := hu.c3
  by_cases ha : 0 ≤ addr ∧ addr < 65536
  · have hh : (asid == 0) = true ∨ ((asid == 0) = false ∧ at_ < 0) ∨ ((asid == 0) = false ∧ ¬ at_ < 0 ∧ 8 ≤ at_) := by
      by_cases q : asid = 0
      · exact Or.inl (by simp [q])
      · by_cases q2 : at_ < 0
        · exact Or.inr (Or.inl ⟨by simp [q], q2⟩)
        · refine Or.inr (Or.inr ⟨by simp [q], q2, ?_⟩)
          simp [fOk, ha, q] at h; omega
    clear h hu
    obtain ⟨ha1, ha2⟩ := ha
    rcases hh with q | ⟨q, q2⟩ | ⟨q, q2, q3⟩
    all_goals
      go_enter Try.func23, Try.ntmps23
      go_wp2_with (go_at_call 57; refine (split_yes _ _ ha1 ha2).mono ?_; rintro e w' ⟨rfl, rfl⟩)
      go_ret3
      exact ⟨rfl, rfl⟩
  · clear h hu
    go_enter Try.func23, Try.ntmps23
    go_wp2_with (go_at_call 57; refine (split_no _ _ ha).mono ?_; rintro e w' ⟨rfl, rfl⟩)
    go_ret3
    exact ⟨rfl, rfl⟩

theorem fOk_yes {asid addr at_ : Int} (h : fOk asid addr at_ = true) : (0 ≤ addr ∧ addr < 65536) ∧ asid ≠ 0 ∧ 0 ≤ at_ ∧ at_ < 8 := by
  simp [fOk] at h; omega

theorem mmu_find_ok (pu pm pb : Nat) (root asid : Int) (bk n : Nat) (W : Nat → Int) (lb : Nat → Nat) (L : Nat → Option Ln) (addr : Int) (wr : Bool) (at_ : Int) (F : FRes) (w : World) (hu : UnitIn w pu pm pb root asid) (hm : MemIn w pm bk n W) (ht : TlbIn w pb lb L)
    (ha : 1 ≤ asid) (ha' : asid ≤ 8) (hpu : pu ≠ pb) (hpm : pm ≠ pb) (hbk : bk ≠ pb) (h : fOk asid addr at_ = true) (hF : fRes n W L root asid addr wr at_ = F) :
    Calls Try.prog 23 #[.pointer (some ⟨pu, 0, none⟩), .int .i64 addr, .bool wr, .int .i64 at_] w fun e w' => e = .returned (.tuple #[.int .i64 F.f, .int .i64 F.p, .int .i64 F.e]) ∧ TlbPost w pb lb L (mTlb n W L root asid (addr / 16) at_) w' := by
  have c3 := hu.c3
  obtain ⟨⟨a0, a1⟩, az, b0, b1⟩ := fOk_yes h
  have az' : (asid == 0) = false := by simp [az]
  have q0 : 0 ≤ addr / 16 := by omega
  have q1 : addr / 16 < 4096 := by omega
  unfold fRes at hF
  rw [if_pos h] at hF
  have hml : ∀ l, mLine n W L root asid (addr / 16) = some l → (l.a == 0) = false := fun l hl => by have := (mLine_is hl).1; simp; omega
  obtain ⟨M, hM⟩ : ∃ M, mLine n W L root asid (addr / 16) = M := ⟨_, rfl⟩
  rw [hM] at hF hml
  have HM := Lib.hid hM
  clear hM h
  obtain ⟨L', hL'⟩ : ∃ L', mTlb n W L root asid (addr / 16) at_ = L' := ⟨_, rfl⟩
  have HL := Lib.hid hL'
  clear hL' az
  rw [HL.out]
  cases M with
  | none =>
    subst hF
    go_enter Try.func23, Try.ntmps23
    go_wp2_with (go_at_call 57; refine (split_yes _ _ a0 a1).mono ?_; rintro e w' ⟨rfl, rfl⟩)
    refine (mmu_line pu pm pb root asid bk n W lb L (addr / 16) at_ _ hu hm ht ha ha' q0 q1 b0 b1 hpu).mono ?_
    rintro e w1 ⟨rfl, hpo⟩
    rw [HM.out]
    rw [HL.out] at hpo
    unfold lnV
    go_wp2_with (fail)
    go_ret3
    exact ⟨rfl, hpo.behind (by repeat (first | with_reducible exact Below.refl _ _ | with_reducible assumption | with_reducible refine below_drewN ?_ _ | with_reducible refine Below.drew ?_ | with_reducible refine Below.setCell ?_ (by first | omega | (simp <;> omega)) _ | with_reducible refine Below.alloc ?_ (by first | omega | (simp <;> omega)) _))⟩
  | some l =>
    have hla := hml l rfl
    clear hml
    have hcond : (wr = true ∧ l.w = false) ∨ ((wr = false ∨ l.w = true) ∧ hasB n l.f = false) ∨ ((wr = false ∨ l.w = true) ∧ hasB n l.f = true) := by
      cases wr <;> cases l.w <;> cases hasB n l.f <;> simp
    have arm : ∀ (w1 : World) (u : Bool), TlbPost w pb lb L L' w1 → Calls Try.prog 49 #[.pointer (some ⟨pu, 0, none⟩), .int .i64 l.f] (w1.alloc (.cells #[.int .i64 l.a, .int .i64 l.p, .int .i64 l.f, .bool u] 41)) fun e w' => e = .returned (.bool (hasB n l.f)) ∧ (w1.alloc (.cells #[.int .i64 l.a, .int .i64 l.p, .int .i64 l.f, .bool u] 41)) = w' := fun w1 u hpo => by
      obtain ⟨lb', p1, p2, p3⟩ := hpo
      refine mmu_has pu pm pb root asid bk n W l.f _ ?_ ?_
      · exact (hu.heap (p3.block pu hu.lt hpu)).below (by repeat (first | with_reducible exact Below.refl _ _ | with_reducible assumption | with_reducible refine below_drewN ?_ _ | with_reducible refine Below.drew ?_ | with_reducible refine Below.setCell ?_ (by first | omega | (simp <;> omega)) _ | with_reducible refine Below.alloc ?_ (by first | omega | (simp <;> omega)) _))
      · exact (hm.touch p3 hpm hbk).below (by repeat (first | with_reducible exact Below.refl _ _ | with_reducible assumption | with_reducible refine below_drewN ?_ _ | with_reducible refine Below.drew ?_ | with_reducible refine Below.setCell ?_ (by first | omega | (simp <;> omega)) _ | with_reducible refine Below.alloc ?_ (by first | omega | (simp <;> omega)) _))
    have HA := Lib.hid arm
    clear arm
    rcases hcond with ⟨h1, h2⟩ | ⟨h1, h2⟩ | ⟨h1, h2⟩
    · subst h1
      have hF' : F = ⟨0, 0, 9⟩ := by rw [← hF]; simp [h2]
      subst hF'
      clear hF
      go_enter Try.func23, Try.ntmps23
      go_wp2_with (go_at_call 57; refine (split_yes _ _ a0 a1).mono ?_; rintro e w' ⟨rfl, rfl⟩)
      refine (mmu_line pu pm pb root asid bk n W lb L (addr / 16) at_ _ hu hm ht ha ha' q0 q1 b0 b1 hpu).mono ?_
      rintro e w1 ⟨rfl, hpo⟩
      rw [HM.out]
      rw [HL.out] at hpo
      unfold lnV
      go_wp2_with (fail)
      go_ret3
      exact ⟨rfl, hpo.behind (by repeat (first | with_reducible exact Below.refl _ _ | with_reducible assumption | with_reducible refine below_drewN ?_ _ | with_reducible refine Below.drew ?_ | with_reducible refine Below.setCell ?_ (by first | omega | (simp <;> omega)) _ | with_reducible refine Below.alloc ?_ (by first | omega | (simp <;> omega)) _))⟩
    · have hF' : F = ⟨0, 0, 10⟩ := by
        rw [← hF]; rcases h1 with h1 | h1 <;> simp [h1, h2]
      subst hF'
      clear hF
      have H2 := Lib.hid h2
      clear h2
      rcases h1 with h1 | h1
      all_goals
        go_enter Try.func23, Try.ntmps23
        go_wp2_with (go_at_call 57; refine (split_yes _ _ a0 a1).mono ?_; rintro e w' ⟨rfl, rfl⟩)
        refine (mmu_line pu pm pb root asid bk n W lb L (addr / 16) at_ _ hu hm ht ha ha' q0 q1 b0 b1 hpu).mono ?_
        rintro e w1 ⟨rfl, hpo⟩
        rw [HM.out]
        rw [HL.out] at hpo
        unfold lnV
        go_wp2_with (fail)
        all_goals
          refine (HA.out w1 _ hpo).mono ?_
          rintro e w2 ⟨rfl, rfl⟩
          rw [H2.out]
          go_wp2_with (fail)
          go_ret3
          exact ⟨rfl, hpo.behind (by repeat (first | with_reducible exact Below.refl _ _ | with_reducible assumption | with_reducible refine below_drewN ?_ _ | with_reducible refine Below.drew ?_ | with_reducible refine Below.setCell ?_ (by first | omega | (simp <;> omega)) _ | with_reducible refine Below.alloc ?_ (by first | omega | (simp <;> omega)) _))⟩
    · have hF' : F = ⟨l.f, addr % 16, 0⟩ := by
        rw [← hF]; rcases h1 with h1 | h1 <;> simp [h1, h2]
      subst hF'
      clear hF
      have H2 := Lib.hid h2
      clear h2
      rcases h1 with h1 | h1
      all_goals
        go_enter Try.func23, Try.ntmps23
        go_wp2_with (go_at_call 57; refine (split_yes _ _ a0 a1).mono ?_; rintro e w' ⟨rfl, rfl⟩)
        refine (mmu_line pu pm pb root asid bk n W lb L (addr / 16) at_ _ hu hm ht ha ha' q0 q1 b0 b1 hpu).mono ?_
        rintro e w1 ⟨rfl, hpo⟩
        rw [HM.out]
        rw [HL.out] at hpo
        unfold lnV
        go_wp2_with (fail)
        all_goals
          refine (HA.out w1 _ hpo).mono ?_
          rintro e w2 ⟨rfl, rfl⟩
          rw [H2.out]
          go_wp2_with (fail)
          go_ret3
          exact ⟨rfl, hpo.behind (by repeat (first | with_reducible exact Below.refl _ _ | with_reducible assumption | with_reducible refine below_drewN ?_ _ | with_reducible refine Below.drew ?_ | with_reducible refine Below.setCell ?_ (by first | omega | (simp <;> omega)) _ | with_reducible refine Below.alloc ?_ (by first | omega | (simp <;> omega)) _))⟩

end Go.Proofs.Yteehghjdifbjbaa
