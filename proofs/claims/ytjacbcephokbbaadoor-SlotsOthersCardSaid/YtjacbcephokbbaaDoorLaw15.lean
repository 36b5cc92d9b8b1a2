/- Law 15: the calls that came in; awake; what a place in a table has. -/
import Derived.Test.YtjacbcephokbbaaDoorIns
namespace Go.Proofs.YtjacbcephokbbaaDoor
set_option linter.unusedSimpArgs false
set_option linter.unusedVariables false
set_option maxRecDepth 100000
open Go.RowKit Go.Shelf
set_option maxHeartbeats 4000000

structure Op4 where
  d : Int
  p : Int
  f : Int
  m : Int
structure Op4At (w : World) (b off : Nat) (x : Op4) : Prop where
  c0 : w.cell? ⟨b, off, none⟩ = some (.int .i64 x.d)
  c1 : w.cell? ⟨b, off + 1, none⟩ = some (.int .i64 x.p)
  c2 : w.cell? ⟨b, off + 2, none⟩ = some (.int .i64 x.f)
  c3 : w.cell? ⟨b, off + 3, none⟩ = some (.int .i64 x.m)
def Ops4 (w : World) (a : Option Addr) (len : Nat) (L : Nat → Op4) : Prop := len = 0 ∨ ∃ b off, a = some ⟨b, off, none⟩ ∧ ∀ i, i < len → Op4At w b (off + i * 4) (L i)
theorem cell_lt15 {w : World} {b o : Nat} {v : Value} (h : w.cell? ⟨b, o, none⟩ = some v) : b < w.heap.size := by
  rcases Nat.lt_or_ge b w.heap.size with h' | h'
  · exact h'
  · unfold World.cell? at h; rw [Array.getElem?_eq_none h'] at h; cases h
theorem Ops4.keep {g w : World} {a : Option Addr} {len : Nat} {L : Nat → Op4} (h : Ops4 g a len L) (hb : Below g.heap.size g w) : Ops4 w a len L := by
  rcases h with h | ⟨b, off, rfl, h⟩
  · exact Or.inl h
  · refine Or.inr ⟨b, off, rfl, fun i hi => ?_⟩
    obtain ⟨h0, h1, h2, h3⟩ := h i hi
    have hl := cell_lt15 h0
    exact ⟨Go.Proofs.YtjacbcephokbbaaDoor.keep hb hl h0, Go.Proofs.YtjacbcephokbbaaDoor.keep hb hl h1, Go.Proofs.YtjacbcephokbbaaDoor.keep hb hl h2, Go.Proofs.YtjacbcephokbbaaDoor.keep hb hl h3⟩
/-- What was read of a call stays: at each of them. -/
theorem Ops4.kept {g : World} {a : Option Addr} {len : Nat} {L : Nat → Op4} (h : Ops4 g a len L) : ∀ k, k < len → ∃ b off, a = some ⟨b, off, none⟩ ∧ ∀ w' Q, Sat g w' (Q * whole g) → Op4At w' b (off + k * 4) (L k) := fun k hk => by
  rcases h with h | ⟨b, off, rfl, h⟩
  · omega
  · refine ⟨b, off, rfl, fun w' Q h' => ?_⟩
    rcases Ops4.keep (L := L) (a := some ⟨b, off, none⟩) (len := len) (Or.inr ⟨b, off, rfl, h⟩) (Sat.ends (h'.perm (star_comm _ _))) with h0 | ⟨b', off', e, h2⟩
    · omega
    · simp only [Option.some.injEq, Addr.mk.injEq] at e
      obtain ⟨rfl, rfl, -⟩ := e
      exact h2 k hk

/-- math/bits's table stays. -/
def Tabd (g : World) (R : HP) : Prop := ∀ w' P, Sat g w' (P * R) → TabAt 0 Lib.deBruijn64tab w'
theorem tabd_start {W : World} (h : TabAt 0 Lib.deBruijn64tab W) : Tabd W (whole W) := fun w' P hs j hj => Go.Proofs.YtjacbcephokbbaaDoor.keep (Sat.ends (hs.perm (star_comm _ _))) (cell_lt15 (h 0 (by decide))) (h j hj)
theorem Tabd.star {g : World} {R : HP} (h : Tabd g R) (Q : HP) : Tabd g (Q * R) := fun w' P hs => h w' (P * Q) (hs.perm (by ac_rfl))
theorem s_ins (pt : Nat) (n : Int) (L : List Win) (p m : Int) (g w : World) (R : HP) (hT : Tabd g R) (h : Sat g w (tabP pt n L * R)) (hm : m ≤ 9223372036854775807) :
    Calls Tryd.prog 12 #[.pointer (some ⟨pt, 0, none⟩), .int .i64 p, .int .i64 m] w (InsPost g pt n L p m R) :=
  s_insert pt n L p m g w R h (hT w _ h) hm

/-! ### At -/
theorem at_no {L : List Win} {t : Int} (h : occ L t = false) : atW L t = -1 := by
  induction L with
  | nil => rfl
  | cons x L ih =>
    simp only [occ, List.any_cons, Bool.or_eq_false_iff] at h
    unfold atW
    rw [h.1]
    exact ih h.2
theorem at_yes {L : List Win} {t : Int} (h : occ L t = true) : ∃ x ∈ L, inW x t = true ∧ atW L t = x.p := by
  induction L with
  | nil => cases h
  | cons x L ih =>
    unfold atW
    cases hx : inW x t with
    | true => exact ⟨x, List.mem_cons_self, hx, by simp⟩
    | false =>
      simp only [occ, List.any_cons, hx, Bool.false_or] at h
      obtain ⟨y, h1, h2, h3⟩ := ih h
      exact ⟨y, List.mem_cons_of_mem _ h1, h2, by simpa using h3⟩
theorem apart_one {L : List Win} (h : L.Pairwise fun a b => a.f + a.l ≤ b.f) {x y : Win} (hx : x ∈ L) (hy : y ∈ L) {t : Int} (h1 : inW x t = true) (h2 : inW y t = true) : x = y := by
  simp only [inW, Bool.and_eq_true, decide_eq_true_eq] at h1 h2
  induction L with
  | nil => cases hx
  | cons z L ih =>
    obtain ⟨hz, hL⟩ := List.pairwise_cons.1 h
    rcases List.mem_cons.1 hx with e1 | hx' <;> rcases List.mem_cons.1 hy with e2 | hy'
    · rw [e1, e2]
    · have := hz y hy'; rw [← e1] at this; omega
    · have := hz x hx'; rw [← e2] at this; omega
    · exact ih hL hx' hy'
theorem at_in {L : List Win} (h : L.Pairwise fun a b => a.f + a.l ≤ b.f) {x : Win} (hx : x ∈ L) {t : Int} (h1 : inW x t = true) : atW L t = x.p := by
  obtain ⟨y, hy, h2, h3⟩ := at_yes (L := L) (t := t) (List.any_eq_true.2 ⟨x, hx, h1⟩)
  rw [h3, apart_one h hy hx h2 h1]
theorem Sat.tabOk' {g w : World} {pt : Nat} {n : Int} {L : List Win} {R : HP} (h : Sat g w (tabP pt n L * R)) : ∃ S, TabOk n S L := Sat.tabOk h
theorem insW_mem (x : Win) (L : List Win) (y : Win) : y ∈ insW x L ↔ y = x ∨ y ∈ L := by
  rw [(insW_perm x L).mem_iff, List.mem_cons]

/-! ### awake -/
theorem ins1 {f k : Int} {L' : List Win} (h : InsAt 10 [] 1 4 f k L') : f = 0 ∧ k = 0 ∧ L' = [⟨1, 0, 4⟩] := by
  cases h with
  | bad h => exact absurd (by decide) h
  | full _ h => exact absurd (h 0 (by decide) (by decide)) (by decide)
  | yes _ hp hf h =>
    obtain ⟨_, _, _, h0, _⟩ := placeOk_iff.1 hp
    have : f = 0 := by
      rcases Int.lt_or_eq_of_le h0 with h1 | h1
      · exact absurd (h 0 (by decide) h1) (by decide)
      · exact h1.symm
    subst this
    exact ⟨rfl, rfl, rfl⟩
theorem ins2 {f k : Int} {L' : List Win} (h : InsAt 10 [⟨1, 0, 4⟩] 2 4 f k L') : f = 4 ∧ k = 0 ∧ L' = [⟨1, 0, 4⟩, ⟨2, 4, 4⟩] := by
  cases h with
  | bad h => exact absurd (by decide) h
  | full _ h => exact absurd (h 4 (by decide) (by decide)) (by decide)
  | yes _ hp hf h =>
    obtain ⟨_, _, _, h0, _⟩ := placeOk_iff.1 hp
    have h4 : ¬ 4 < f := fun h1 => absurd (h 4 (by decide) h1) (by decide)
    have hh : f = 0 ∨ f = 1 ∨ f = 2 ∨ f = 3 ∨ f = 4 := by omega
    rcases hh with rfl | rfl | rfl | rfl | rfl
    · exact absurd hf (by decide)
    · exact absurd hf (by decide)
    · exact absurd hf (by decide)
    · exact absurd hf (by decide)
    · exact ⟨rfl, rfl, rfl⟩
theorem ins3 {f k : Int} {L' : List Win} (h : InsAt 10 [⟨2, 4, 4⟩] 3 5 f k L') : k = 8 ∧ L' = [⟨2, 4, 4⟩] := by
  cases h with
  | bad h => exact absurd (by decide) h
  | full _ h => exact ⟨rfl, rfl⟩
  | yes _ hp hf h =>
    exfalso
    obtain ⟨_, _, _, h0, h1⟩ := placeOk_iff.1 hp
    have hh : f = 0 ∨ f = 1 ∨ f = 2 ∨ f = 3 ∨ f = 4 ∨ f = 5 := by omega
    rcases hh with rfl | rfl | rfl | rfl | rfl | rfl <;> exact absurd hf (by decide)
theorem awake15 (g w : World) (R : HP) (hT : Tabd g R) (h : Sat g w R) : Calls Tryd.prog 8 #[] w fun e w' => e = .returned (.bool true) ∧ Sat g w' R := by
  go_enter Tryd.func8, Tryd.ntmps8
  go_wp2_with (fail)
  refine (s_slotsnew 10 g w R h (by omega) (by omega)).mono ?_
  rintro e w1 ⟨pt, rfl, S1⟩
  go_wp2_with (fail)
  refine (s_ins pt 10 [] 1 4 g w1 R hT S1 (by omega)).mono ?_
  rintro e w2 ⟨f1, k1, L1, h1, rfl, S2⟩
  obtain ⟨rfl, rfl, rfl⟩ := ins1 h1
  clear h1
  go_wp2_with (fail)
  refine (s_ins pt 10 _ 2 4 g w2 R hT S2 (by omega)).mono ?_
  rintro e w3 ⟨f2, k2, L2, h2, rfl, S3⟩
  obtain ⟨rfl, rfl, rfl⟩ := ins2 h2
  clear h2
  go_wp2_with (fail)
  refine (s_remove pt 10 _ 1 g w3 R S3).mono ?_
  rintro e w4 ⟨rfl, S4⟩
  have S5 : Sat g w4 (tabP pt 10 [⟨2, 4, 4⟩] * R) := S4
  have hc : (cntP 1 [(⟨1, 0, 4⟩ : Win), ⟨2, 4, 4⟩] : Nat) = 1 := by decide
  rw [hc]
  clear S4 hc
  go_wp2_with (fail)
  refine (s_ins pt 10 _ 3 5 g w4 R hT S5 (by omega)).mono ?_
  rintro e w5 ⟨f3, k3, L3, h3, rfl, S6⟩
  obtain ⟨rfl, rfl⟩ := ins3 h3
  clear h3
  go_wp2_with (fail)
  refine (s_at pt 10 _ 5 g w5 R S6).mono ?_
  rintro e w6 ⟨rfl, hb6⟩
  have hat : atW [(⟨2, 4, 4⟩ : Win)] 5 = 2 := by decide
  rw [hat]
  clear hat
  have S7 := S6.below hb6
  go_wp2_with (fail)
  refine (s_at pt 10 _ 0 g w6 R S7).mono ?_
  rintro e w7 ⟨rfl, hb7⟩
  have hat : atW [(⟨2, 4, 4⟩ : Win)] 0 = -1 := by decide
  rw [hat]
  clear hat
  have S8 := S7.below hb7
  go_wp2_with (fail)
  go_ret
  exact ⟨rfl, S8.right⟩

end Go.Proofs.YtjacbcephokbbaaDoor
