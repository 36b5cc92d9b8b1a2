/- Load and Store of package mmu and of its reference; what New of these packages makes: by walks over their text. -/
import Derived.Test.YteehghjdifbjbaaParts
namespace Go.Proofs.Yteehghjdifbjbaa
set_option linter.unusedSimpArgs false
set_option linter.unusedVariables false
set_option maxRecDepth 100000
open Go.RowKit
set_option maxHeartbeats 1000000

theorem fRes_ok {n : Nat} {W : Nat → Int} {L : Nat → Option Ln} {root asid addr : Int} {wr : Bool} {at_ : Int} {F : FRes} (h : fRes n W L root asid addr wr at_ = F) :
    ((F.e != 0) = true ∧ F.f = 0 ∧ F.p = 0) ∨ ((F.e != 0) = false ∧ F.e = 0 ∧ (0 ≤ F.f ∧ F.f < n) ∧ 0 ≤ F.p ∧ F.p < 16) := by
  unfold fRes at h
  cases hb : fOk asid addr at_
  · rw [hb, if_neg (by simp)] at h; subst h; exact Or.inl ⟨rfl, rfl, rfl⟩
  · rw [hb, if_pos rfl] at h
    cases hm : mLine n W L root asid (addr / 16) with
    | none => rw [hm] at h; subst h; exact Or.inl ⟨rfl, rfl, rfl⟩
    | some l =>
      rw [hm] at h
      simp only at h
      split at h
      · subst h; exact Or.inl ⟨rfl, rfl, rfl⟩
      · cases hh : hasB n l.f
        · rw [hh, if_neg (by simp)] at h; subst h; exact Or.inl ⟨rfl, rfl, rfl⟩
        · rw [hh, if_pos rfl] at h; subst h
          have := hasB_yes hh
          exact Or.inr ⟨rfl, rfl, this, by show 0 ≤ addr % 16; omega, by show addr % 16 < 16; omega⟩

/-- The word that a Load tells; the memory behind a Store. -/
def lX (n : Nat) (W : Nat → Int) (L : Nat → Option Ln) (root asid addr at_ : Int) : Int :=
  if (fRes n W L root asid addr false at_).e = 0 then W (16 * (fRes n W L root asid addr false at_).f + (fRes n W L root asid addr false at_).p).toNat else 0
def lE (n : Nat) (W : Nat → Int) (L : Nat → Option Ln) (root asid addr : Int) (wr : Bool) (at_ : Int) : Int := (fRes n W L root asid addr wr at_).e
def sW (n : Nat) (W : Nat → Int) (L : Nat → Option Ln) (root asid addr x at_ : Int) : Nat → Int :=
  if (fRes n W L root asid addr true at_).e = 0 then setW W (16 * (fRes n W L root asid addr true at_).f + (fRes n W L root asid addr true at_).p).toNat x else W

theorem s_load (pu pm pb n : Nat) (root asid : Int) (W : Nat → Int) (L : Nat → Option Ln) (addr : Int) (at_ : Int) (g w : World) (R : HP) (h : Sat g w (unitP pu pm pb root asid * (memP pm n W * (tlbP pb L * R)))) (ha : 0 ≤ asid) (ha' : asid ≤ 8) :
    Calls Try.prog 13 #[.pointer (some ⟨pu, 0, none⟩), .int .i64 addr, .int .i64 at_] w fun e w' => e = .returned (.tuple #[.int .u64 (lX n W L root asid addr at_), .int .i64 (lE n W L root asid addr false at_)]) ∧ Sat g w' (unitP pu pm pb root asid * (memP pm n W * (tlbP pb (fTlb n W L root asid addr at_) * R))) := by
  unfold lX lE
  obtain ⟨F, hF⟩ : ∃ F, fRes n W L root asid addr false at_ = F := ⟨_, rfl⟩
  rw [hF]
  have hok := fRes_ok hF
  have hn := h.swap.mem
  obtain ⟨bk, hm0, _, _⟩ := hn
  have hn2 := hm0.n2
  clear hm0
  have HF := Lib.hid hF
  clear hF
  rcases hok with ⟨h1, h2, h3⟩ | ⟨h1, h2, ⟨h3, h4⟩, h5, h6⟩
  · have h7 : ¬ F.e = 0 := by simpa using h1
    rw [if_neg h7]
    clear h7 h2 h3
    go_enter Try.func13, Try.ntmps13
    go_wp2_with (fail)
    refine (s_find pu pm pb n root asid W L addr false at_ g _ R h ha ha' F HF.out).mono ?_
    rintro e w1 ⟨rfl, hs⟩
    go_wp2_with (fail)
    go_ret2
    exact ⟨rfl, hs⟩
  · rw [if_pos h2]
    have hx : 16 * F.f + F.p = F.f * 16 + F.p := by omega
    rw [hx, h2]
    clear hx
    have H2 := Lib.hid h2
    have H1 := Lib.hid h1
    clear h2 h1
    go_enter Try.func13, Try.ntmps13
    go_wp2_with (fail)
    refine (s_find pu pm pb n root asid W L addr false at_ g _ R h ha ha' F HF.out).mono ?_
    rintro e w1 ⟨rfl, hs⟩
    rw [H2.out]
    have c0 := hs.unit.c0
    go_wp2_with (fail)
    refine (s_read pm n W (F.f * 16 + F.p) g _ _ hs.swap (by omega) (by omega)).mono ?_
    rintro e w2 ⟨rfl, rfl⟩
    go_wp2_with (fail)
    go_ret2
    exact ⟨rfl, hs⟩

theorem s_rload (pu pm pr n : Nat) (root asid : Int) (W : Nat → Int) (L : Nat → Option Ln) (addr : Int) (at_ : Int) (g w : World) (R : HP) (h : Sat g w (unitP pu pm pr root asid * (refP pm n W * (r09P pr L * R)))) (ha : 0 ≤ asid) (ha' : asid ≤ 8) :
    Calls Try.prog 14 #[.pointer (some ⟨pu, 0, none⟩), .int .i64 addr, .int .i64 at_] w fun e w' => e = .returned (.tuple #[.int .u64 (lX n W L root asid addr at_), .int .i64 (lE n W L root asid addr false at_)]) ∧ Sat g w' (unitP pu pm pr root asid * (refP pm n W * (r09P pr (fTlb n W L root asid addr at_) * R))) := by
  unfold lX lE
  obtain ⟨F, hF⟩ : ∃ F, fRes n W L root asid addr false at_ = F := ⟨_, rfl⟩
  rw [hF]
  have hok := fRes_ok hF
  have hn := h.swap.ref
  obtain ⟨bk, hm0, _, _⟩ := hn
  have hn2 := hm0.n2
  clear hm0
  have HF := Lib.hid hF
  clear hF
  rcases hok with ⟨h1, h2, h3⟩ | ⟨h1, h2, ⟨h3, h4⟩, h5, h6⟩
  · have h7 : ¬ F.e = 0 := by simpa using h1
    rw [if_neg h7]
    clear h7 h2 h3
    go_enter Try.func14, Try.ntmps14
    go_wp2_with (fail)
    refine (s_rfind pu pm pr n root asid W L addr false at_ g _ R h ha ha' F HF.out).mono ?_
    rintro e w1 ⟨rfl, hs⟩
    go_wp2_with (fail)
    go_ret2
    exact ⟨rfl, hs⟩
  · rw [if_pos h2]
    rw [h2]
    have H2 := Lib.hid h2
    have H1 := Lib.hid h1
    clear h2 h1
    go_enter Try.func14, Try.ntmps14
    go_wp2_with (fail)
    refine (s_rfind pu pm pr n root asid W L addr false at_ g _ R h ha ha' F HF.out).mono ?_
    rintro e w1 ⟨rfl, hs⟩
    rw [H2.out]
    have c0 := hs.unit.c0
    obtain ⟨br, hm, _, _⟩ := hs.swap.ref
    have hp := hm.ptr
    have hc := hm.cell (16 * F.f + F.p).toNat (by omega)
    go_wp2_with (fail)
    go_ret2
    exact ⟨rfl, hs⟩

theorem s_store (pu pm pb n : Nat) (root asid : Int) (W : Nat → Int) (L : Nat → Option Ln) (addr x : Int) (at_ : Int) (g w : World) (R : HP) (h : Sat g w (unitP pu pm pb root asid * (memP pm n W * (tlbP pb L * R)))) (ha : 0 ≤ asid) (ha' : asid ≤ 8) (hx : 0 ≤ x) (hx' : x < 18446744073709551616) :
    Calls Try.prog 15 #[.pointer (some ⟨pu, 0, none⟩), .int .i64 addr, .int .u64 x, .int .i64 at_] w fun e w' => e = .returned (.int .i64 (lE n W L root asid addr true at_)) ∧ Sat g w' (unitP pu pm pb root asid * (memP pm n (sW n W L root asid addr x at_) * (tlbP pb (fTlb n W L root asid addr at_) * R))) := by
  unfold sW lE
  obtain ⟨F, hF⟩ : ∃ F, fRes n W L root asid addr true at_ = F := ⟨_, rfl⟩
  rw [hF]
  have hok := fRes_ok hF
  have hn := h.swap.mem
  obtain ⟨bk, hm0, _, _⟩ := hn
  have hn2 := hm0.n2
  clear hm0
  have HF := Lib.hid hF
  clear hF
  rcases hok with ⟨h1, h2, h3⟩ | ⟨h1, h2, ⟨h3, h4⟩, h5, h6⟩
  · have h7 : ¬ F.e = 0 := by simpa using h1
    rw [if_neg h7]
    clear h7 h2 h3
    go_enter Try.func15, Try.ntmps15
    go_wp2_with (fail)
    refine (s_find pu pm pb n root asid W L addr true at_ g _ R h ha ha' F HF.out).mono ?_
    rintro e w1 ⟨rfl, hs⟩
    go_wp2_with (fail)
    go_ret
    exact ⟨rfl, hs⟩
  · rw [if_pos h2]
    have hx : 16 * F.f + F.p = F.f * 16 + F.p := by omega
    rw [hx, h2]
    clear hx
    have H2 := Lib.hid h2
    have H1 := Lib.hid h1
    clear h2 h1
    go_enter Try.func15, Try.ntmps15
    go_wp2_with (fail)
    refine (s_find pu pm pb n root asid W L addr true at_ g _ R h ha ha' F HF.out).mono ?_
    rintro e w1 ⟨rfl, hs⟩
    rw [H2.out]
    have c0 := hs.unit.c0
    obtain ⟨bk, hm, _, hc⟩ := hs.swap.mem
    go_wp2_with (fail)
    refine (write_yes pm bk n W (F.f * 16 + F.p) x _ hm (by omega) (by omega) hx hx').mono ?_
    rintro e w2 ⟨rfl, hm2, ht2⟩
    go_wp2_with (fail)
    go_ret
    exact ⟨rfl, (hc _ _ ht2 hm2).swap⟩

theorem s_rstore (pu pm pr n : Nat) (root asid : Int) (W : Nat → Int) (L : Nat → Option Ln) (addr x : Int) (at_ : Int) (g w : World) (R : HP) (h : Sat g w (unitP pu pm pr root asid * (refP pm n W * (r09P pr L * R)))) (ha : 0 ≤ asid) (ha' : asid ≤ 8) (hx : 0 ≤ x) (hx' : x < 18446744073709551616) :
    Calls Try.prog 16 #[.pointer (some ⟨pu, 0, none⟩), .int .i64 addr, .int .u64 x, .int .i64 at_] w fun e w' => e = .returned (.int .i64 (lE n W L root asid addr true at_)) ∧ Sat g w' (unitP pu pm pr root asid * (refP pm n (sW n W L root asid addr x at_) * (r09P pr (fTlb n W L root asid addr at_) * R))) := by
  unfold sW lE
  obtain ⟨F, hF⟩ : ∃ F, fRes n W L root asid addr true at_ = F := ⟨_, rfl⟩
  rw [hF]
  have hok := fRes_ok hF
  have hn := h.swap.ref
  obtain ⟨bk, hm0, _, _⟩ := hn
  have hn2 := hm0.n2
  clear hm0
  have HF := Lib.hid hF
  clear hF
  rcases hok with ⟨h1, h2, h3⟩ | ⟨h1, h2, ⟨h3, h4⟩, h5, h6⟩
  · have h7 : ¬ F.e = 0 := by simpa using h1
    rw [if_neg h7]
    clear h7 h2 h3
    go_enter Try.func16, Try.ntmps16
    go_wp2_with (fail)
    refine (s_rfind pu pm pr n root asid W L addr true at_ g _ R h ha ha' F HF.out).mono ?_
    rintro e w1 ⟨rfl, hs⟩
    go_wp2_with (fail)
    go_ret
    exact ⟨rfl, hs⟩
  · rw [if_pos h2]
    rw [h2]
    have H2 := Lib.hid h2
    have H1 := Lib.hid h1
    clear h2 h1
    go_enter Try.func16, Try.ntmps16
    go_wp2_with (fail)
    refine (s_rfind pu pm pr n root asid W L addr true at_ g _ R h ha ha' F HF.out).mono ?_
    rintro e w1 ⟨rfl, hs⟩
    rw [H2.out]
    have c0 := hs.unit.c0
    obtain ⟨br, hm, _, hc⟩ := hs.swap.ref
    have hp := hm.ptr
    have hcc := hm.cell (16 * F.f + F.p).toNat (by omega)
    have hff := hm.free (16 * F.f + F.p).toNat (by omega)
    have hst := hm.store (16 * F.f + F.p).toNat (by omega) x hx hx'
    go_wp2_with (fail)
    go_ret
    exact ⟨rfl, (hc _ _ hst.2 hst.1).swap⟩

end Go.Proofs.Yteehghjdifbjbaa
