/- Insert of package slots: a window in the first gap. -/
import Derived.Test.YtjacbcephokbbaaDoorTab
import Derived.Test.YtjacbcephokbbaaDoorGap
import Derived.Test.YtjacbcephokbbaaDoorClass
namespace Go.Proofs.YtjacbcephokbbaaDoor
set_option linter.unusedSimpArgs false
set_option linter.unusedVariables false
set_option maxRecDepth 100000
open Go.RowKit Go.Shelf
set_option maxHeartbeats 4000000

/-- What Insert finds. -/
inductive InsAt (n : Int) (L : List Win) (p m : Int) : Int → Int → List Win → Prop
  | bad (h : ¬ ((0 ≤ p ∧ p < 8) ∧ 1 ≤ m)) : InsAt n L p m 0 1 L
  | full (hp : (0 ≤ p ∧ p < 8) ∧ 1 ≤ m) (h : ∀ f, 0 ≤ f → f + m ≤ n → freeB L f m.toNat = false) : InsAt n L p m 0 8 L
  | yes (f : Int) (hp : placeOk n p f m = true) (hf : freeB L f m.toNat = true) (h : ∀ f', 0 ≤ f' → f' < f → freeB L f' m.toNat = false) : InsAt n L p m f 0 (insW ⟨p, f, m⟩ L)
def InsPost (g : World) (pt : Nat) (n : Int) (L : List Win) (p m : Int) (R : HP) (e : Ending) (w' : World) : Prop :=
  ∃ f k L', InsAt n L p m f k L' ∧ e = .returned (.tuple #[.int .i64 f, .int .i64 k]) ∧ Sat g w' (tabP pt n L' * R)
theorem free_hit {L : List Win} {n f m : Int} {S : Nat → Bool} (ok : TabOk n S L) (hm : 1 ≤ m) (h0 : 0 ≤ f) (h1 : f + m ≤ n) (h : ∃ k : Nat, S k = true ∧ f ≤ k ∧ (k : Int) < f + m) : freeB L f m.toNat = false := by
  obtain ⟨k, hk, h2, h3⟩ := h
  have hn := ok.n2
  have ho := ok.oc k (by omega)
  cases hf : freeB L f m.toNat with
  | false => rfl
  | true =>
    have := (freeB_iff L f m.toNat).1 hf (k - f.toNat) (by omega)
    rw [show f + ((k - f.toNat : Nat) : Int) = (k : Int) by omega, ← ho, hk] at this
    cases this
theorem free_all {L : List Win} {n f m : Int} {S : Nat → Bool} (ok : TabOk n S L) (h0 : 0 ≤ f) (h1 : f + m ≤ n) (h : ∀ k : Nat, f ≤ k → (k : Int) < f + m → S k = false) : freeB L f m.toNat = true := by
  have hn := ok.n2
  refine (freeB_iff L f m.toNat).2 fun i hi => ?_
  have := h (f.toNat + i) (by omega) (by omega)
  rw [ok.oc _ (by omega)] at this
  rwa [show ((f.toNat + i : Nat) : Int) = f + (i : Nat) by omega] at this

theorem s_insert (pt : Nat) (n : Int) (L : List Win) (p m : Int) (g w : World) (R : HP) (h : Sat g w (tabP pt n L * R)) (hT : TabAt 0 Lib.deBruijn64tab w) (hm : m ≤ 9223372036854775807) :
    Calls Tryd.prog 12 #[.pointer (some ⟨pt, 0, none⟩), .int .i64 p, .int .i64 m] w (InsPost g pt n L p m R) := by
  obtain ⟨v, S, hi, ok, _⟩ := h.tab
  by_cases hb : (0 ≤ p ∧ p < 8) ∧ 1 ≤ m
  · obtain ⟨⟨p0, p1⟩, m1⟩ := hb
    have c0 := hi.c0
    have hn2 := ok.n2
    have hn1 := ok.n1
    have hg := gap_any pt 1 S m n w.drew (hi.bm.heap rfl) hT m1 hm (by omega) hn2
    have HG := Lib.hid hg
    have HOK := Lib.hid ok
    have HS := Lib.hid h
    have d1 : decide (0 ≤ p) = true := decide_eq_true p0
    have d2 : decide (p < 8) = true := decide_eq_true p1
    have k1 : ∀ z : Wc (fun w' => w.drew = w'), z.w.cell? ⟨pt, 0, none⟩ = some (.int .i64 n) := fun z => by rw [← z.h]; exact c0
    clear hg hi ok h hT c0
    go_enter Tryd.func12, Tryd.ntmps12
    go_wp2_with (fail)
    refine (may_any p _).mono ?_
    rintro e w1 ⟨rfl, rfl⟩
    go_wp2_with (fail)
    (refine region_tail (fun w' => w.drew = w') 8 (by kernel_rfl) (by kernel_rfl) (rfl) ?_; intro _; simp only [List.take_succ_cons, List.take_zero, List.drop_succ_cons, List.drop_zero]; (repeat (first | go_big_quiet_step ((fail)) | quiet_step ((fail)))); refine wpQuiet_nil ?_; intro wz hz)
    subst hz
    clear k1
    go_wp2_with (fail)
    refine HG.out.mono ?_
    rintro e w2 ⟨r, rfl, hr, hb2⟩
    have S2 := HS.out.drew.below hb2
    cases hr with
    | no hr hno =>
      subst hr
      have hfull : ∀ f, 0 ≤ f → f + m ≤ n → freeB L f m.toNat = false := fun f h0 h1 => free_hit HOK.out m1 h0 h1 (hno f h0 h1)
      have HF := Lib.hid hfull
      clear hfull hno
      go_wp2_with (fail)
      go_ret2
      exact ⟨0, 8, L, .full ⟨⟨p0, p1⟩, m1⟩ HF.out, rfl, S2⟩
    | yes h0 h1 hfree hfirst =>
      have hp : placeOk n p r m = true := placeOk_iff.2 ⟨⟨p0, p1⟩, m1, by omega, h0, by omega⟩
      have hf : freeB L r m.toNat = true := free_all HOK.out h0 h1 hfree
      have hfi : ∀ f', 0 ≤ f' → f' < r → freeB L f' m.toNat = false := fun f' h3 h4 => free_hit HOK.out m1 h3 (by omega) (hfirst f' h3 h4)
      have HFI := Lib.hid hfi
      have hpl := s_place pt n L p r m g w2 R S2
      unfold placeE placeL at hpl
      rw [hp, hf, if_pos rfl, if_pos rfl, Bool.and_true, if_pos rfl] at hpl
      have HPL := Lib.hid hpl
      have HP := Lib.hid hp
      have HF := Lib.hid hf
      clear hfree hfirst hp hf hfi hpl
      go_wp2_with (fail)
      refine HPL.out.mono ?_
      rintro e w3 ⟨rfl, S3⟩
      go_wp2_with (fail)
      go_ret2
      exact ⟨r, 0, _, .yes r HP.out HF.out HFI.out, rfl, S3⟩
  · have hh : (decide (0 ≤ p) && decide (p < 8)) = false ∨ ((decide (0 ≤ p) && decide (p < 8)) = true ∧ m < 1) := by
      by_cases h1 : 0 ≤ p ∧ p < 8
      · exact Or.inr ⟨by simp [h1], by omega⟩
      · left; simp; omega
    have HB := Lib.hid hb
    clear hb hi ok
    rcases hh with h1 | ⟨h1, h2⟩
    · go_enter Tryd.func12, Tryd.ntmps12
      go_wp2_with (fail)
      refine (may_any p _).mono ?_
      rintro e w1 ⟨rfl, rfl⟩
      rw [h1]
      go_wp2_with (fail)
      go_ret2
      exact ⟨0, 1, L, .bad HB.out, rfl, h⟩
    · go_enter Tryd.func12, Tryd.ntmps12
      go_wp2_with (fail)
      refine (may_any p _).mono ?_
      rintro e w1 ⟨rfl, rfl⟩
      rw [h1]
      go_wp2_with (fail)
      go_ret2
      exact ⟨0, 1, L, .bad HB.out, rfl, h⟩

end Go.Proofs.YtjacbcephokbbaaDoor
