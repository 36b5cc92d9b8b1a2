/- What Place of package slots returns and writes, by a walk over its text. -/
import Derived.Test.YtjacbcephokbbaaDoorSlots
import Derived.Deep.AppendLies
namespace Go.Proofs.YtjacbcephokbbaaDoor
set_option linter.unusedSimpArgs false
set_option linter.unusedVariables false
set_option maxRecDepth 100000
open Go.RowKit
set_option maxHeartbeats 4000000

/-! ### Plain: a window more -/
def freeB (L : List Win) (f : Int) (m : Nat) : Bool := (List.range m).all fun i => !occ L (f + (i : Nat))
theorem freeB_iff (L : List Win) (f : Int) (m : Nat) : freeB L f m = true ↔ ∀ i, i < m → occ L (f + (i : Nat)) = false := by simp [freeB]
def placeOk (n p f m : Int) : Bool := decide (0 ≤ p) && decide (p < 8) && decide (1 ≤ m) && decide (m ≤ n) && decide (0 ≤ f) && decide (f ≤ n - m)
def placeE (n : Int) (L : List Win) (p f m : Int) : Int := if placeOk n p f m then (if freeB L f m.toNat then 0 else 8) else 1
def placeL (n : Int) (L : List Win) (p f m : Int) : List Win := if placeOk n p f m && freeB L f m.toNat then insW ⟨p, f, m⟩ L else L
theorem placeOk_iff {n p f m : Int} : placeOk n p f m = true ↔ (0 ≤ p ∧ p < 8) ∧ 1 ≤ m ∧ m ≤ n ∧ 0 ≤ f ∧ f ≤ n - m := by simp [placeOk]; omega

theorem apart_len : ∀ (L : List Win) (s n : Int), (∀ x ∈ L, 1 ≤ x.l ∧ s ≤ x.f ∧ x.f + x.l ≤ n) → (L.Pairwise fun a b => a.f + a.l ≤ b.f) → s ≤ n → (L.length : Int) ≤ n - s
  | [], s, n, _, _, h => by simp; omega
  | x :: L, s, n, hb, hp, h => by
    have hx := hb x (by simp)
    have h1 := List.pairwise_cons.1 hp
    have ih := apart_len L (x.f + x.l) n (fun y hy => ⟨(hb y (by simp [hy])).1, h1.1 y hy, (hb y (by simp [hy])).2.2⟩) h1.2 (by omega)
    simp only [List.length_cons]
    omega
theorem TabOk.len {n : Int} {S : Nat → Bool} {L : List Win} (h : TabOk n S L) : L.length ≤ 256 := by
  have := apart_len L 0 n (fun x hx => ⟨(h.bd x hx).2.2.1, (h.bd x hx).2.2.2.1, (h.bd x hx).2.2.2.2⟩) h.ap (by have := h.n1; omega)
  have := h.n2
  omega
theorem TabOk.sm {n : Int} {S : Nat → Bool} {L : List Win} (h : TabOk n S L) : ∀ x ∈ L, 0 ≤ x.l ∧ 0 ≤ x.f ∧ x.f + x.l ≤ 256 := fun x hx => by
  have := h.bd x hx; have := h.n2; omega
theorem insW_apart (x : Win) (hx : 1 ≤ x.l) : ∀ L : List Win, (L.Pairwise fun a b => a.f + a.l ≤ b.f) → (∀ y ∈ L, 1 ≤ y.l ∧ (y.f + y.l ≤ x.f ∨ x.f + x.l ≤ y.f)) → (insW x L).Pairwise fun a b => a.f + a.l ≤ b.f
  | [], _, _ => by unfold insW; simp
  | y :: L, h, hd => by
    unfold insW
    have h1 := List.pairwise_cons.1 h
    have hy := hd y (by simp)
    split
    · refine List.pairwise_cons.2 ⟨fun z hz => ?_, h⟩
      rcases List.mem_cons.1 hz with rfl | hz
      · omega
      · have := h1.1 z hz; omega
    · refine List.pairwise_cons.2 ⟨fun z hz => ?_, insW_apart x hx L h1.2 (fun z hz => hd z (by simp [hz]))⟩
      rcases List.mem_cons.1 ((insW_perm x L).mem_iff.1 hz) with rfl | hz
      · omega
      · exact h1.1 z hz
theorem occ_insW (x : Win) (L : List Win) (t : Int) : occ (insW x L) t = (inW x t || occ L t) := by
  unfold occ
  rw [(insW_perm x L).any_eq]; rfl
theorem TabOk.rising {n : Int} {S : Nat → Bool} {L : List Win} (h : TabOk n S L) : Rising L := by
  unfold Rising
  have := h.ap
  refine List.Pairwise.imp_of_mem (fun {a b} ha hb hab => ?_) this
  have := (h.bd a ha).2.2.1
  omega
/-- Two windows without a tick in common lie one behind the other. -/
theorem free_apart {L : List Win} {f : Int} {m : Nat} (h : freeB L f m = true) (hm : 1 ≤ m) {y : Win} (hy : y ∈ L) (hl : 1 ≤ y.l) : y.f + y.l ≤ f ∨ f + m ≤ y.f := by
  rw [freeB_iff] at h
  have hno : ∀ i, i < m → inW y (f + (i : Nat)) = false := fun i hi => by
    have := h i hi
    unfold occ at this
    exact (List.any_eq_false.1 this) y hy |> fun h => by simpa using h
  rcases Int.lt_or_le y.f f with h1 | h1
  · left
    have := hno 0 (by omega)
    simp [inW] at this
    omega
  · right
    rcases Int.lt_or_le y.f (f + m) with h2 | h2
    · exfalso
      have := hno (y.f - f).toNat (by omega)
      simp [inW] at this
      omega
    · exact h2
theorem TabOk.place {n : Int} {S : Nat → Bool} {L : List Win} (h : TabOk n S L) {p f m : Int} (hp : placeOk n p f m = true) (hf : freeB L f m.toNat = true) : TabOk n (markS S ⟨p, f, m⟩ true m.toNat) (insW ⟨p, f, m⟩ L) := by
  obtain ⟨⟨p0, p1⟩, m1, m2, f0, f1⟩ := placeOk_iff.1 hp
  refine ⟨h.n1, h.n2, fun x hx => ?_, insW_apart _ m1 L h.ap (fun y hy => ?_), fun k hk => ?_⟩
  · rcases List.mem_cons.1 ((insW_perm _ L).mem_iff.1 hx) with rfl | hx
    · exact ⟨p0, p1, m1, f0, by show f + m ≤ n; omega⟩
    · exact h.bd x hx
  · have hl := (h.bd y hy).2.2.1
    have := free_apart hf (by omega) hy hl
    refine ⟨hl, ?_⟩
    show y.f + y.l ≤ f ∨ f + m ≤ y.f
    omega
  · rw [occ_insW, ← h.oc k hk]
    unfold markS inW
    by_cases e : f ≤ (k : Int) ∧ (k : Int) < f + (m.toNat : Int)
    · rw [if_pos e]
      have h1 : f ≤ (k : Int) := e.1
      have h2 : (k : Int) < f + m := by omega
      simp [h1, h2]
    · rw [if_neg e]
      have h2 : (decide (f ≤ (k : Int)) && decide ((k : Int) < f + m)) = false := by simp; omega
      rw [h2]; rfl
/-- What the sort makes of windows and one more behind. -/
theorem sorted_ins {L M : List Win} {x : Win} (hL : Rising L) (hx : ∀ y ∈ L, y.f ≠ x.f) (hp : M.Perm (L ++ [x])) (hs : ∀ i j (hi : i < j) (hj : j < M.length), ¬ M[j].f < M[i].f) : M = insW x L := by
  have hp2 : M.Perm (insW x L) := hp.trans ((List.perm_append_comm (l₁ := L) (l₂ := [x])).trans (insW_perm x L).symm)
  have hr := insW_rising x L hL hx
  refine rising_eq hp2 ?_ hr
  have hne : M.Pairwise fun a b => a.f ≠ b.f := (hp2.pairwise_iff (fun {a b} h => fun e => h e.symm)).2 (hr.imp (fun {a b} h => by omega))
  unfold Rising
  rw [List.pairwise_iff_getElem] at hne ⊢
  intro i j hi hj hij
  have := hne i j hi hj hij
  have := hs i j hij hj
  omega

theorem may_any (p : Int) (w : World) : Calls Tryd.prog 25 #[.int .i64 p] w fun e w' => e = .returned (.bool (decide (0 ≤ p) && decide (p < 8))) ∧ w = w' := by
  by_cases h0 : 0 ≤ p
  · have hd : decide (0 ≤ p) = true := by simpa using h0
    go_enter Tryd.func25, Tryd.ntmps25
    go_wp2_with (fail)
    go_ret
    exact ⟨by simp [hd], rfl⟩
  · have hd : decide (0 ≤ p) = false := by simpa using h0
    go_enter Tryd.func25, Tryd.ntmps25
    go_wp2_with (fail)
    go_ret
    exact ⟨by simp [hd], rfl⟩

theorem place_bad (pt : Nat) (v : Value) (n : Int) (S : Nat → Bool) (L : List Win) (p f m : Int) (w : World) (h : TabIn w pt v n S L) (hn1 : 1 ≤ n) (hn2 : n ≤ 256) (hp : placeOk n p f m = false) :
    Calls Tryd.prog 10 #[.pointer (some ⟨pt, 0, none⟩), .int .i64 p, .int .i64 f, .int .i64 m] w fun e w' => e = .returned (.int .i64 1) ∧ w = w' := by
  have c0 := h.c0
  have hh : (decide (0 ≤ p) && decide (p < 8)) = false ∨ ((decide (0 ≤ p) && decide (p < 8)) = true ∧ m < 1) ∨ ((decide (0 ≤ p) && decide (p < 8)) = true ∧ ¬ m < 1 ∧ n < m) ∨ ((decide (0 ≤ p) && decide (p < 8)) = true ∧ ¬ m < 1 ∧ ¬ n < m ∧ f < 0) ∨ ((decide (0 ≤ p) && decide (p < 8)) = true ∧ ¬ m < 1 ∧ ¬ n < m ∧ ¬ f < 0 ∧ n - m < f) := by
    cases hx : (decide (0 ≤ p) && decide (p < 8))
    · exact Or.inl rfl
    · right
      unfold placeOk at hp
      rw [hx] at hp
      simp at hp
      simp only [true_and]
      omega
  clear hp h
  rcases hh with h | ⟨h, h1⟩ | ⟨h, h1, h2⟩ | ⟨h, h1, h2, h3⟩ | ⟨h, h1, h2, h3, h4⟩
  all_goals
    have H := Lib.hid h
    clear h
    go_enter Tryd.func10, Tryd.ntmps10
    go_wp2_with (go_at_call 25; refine (may_any _ _).mono ?_; rintro e w' ⟨rfl, rfl⟩; rw [H.out])
    go_ret
    exact ⟨rfl, rfl⟩

theorem infoWin : (Tryd.prog.info? 58).map (fun i => (i.zero, i.size, i.bytes)) = some (some (.agg #[.int .i64 0, .int .i64 0, .int .i64 0]), 3, 24) := by kernel_rfl
/-- What a table's call leaves: the table with other windows; its blocks are those of before, or new. -/
def TabPost (w : World) (pt : Nat) (v : Value) (n : Int) (L' : List Win) (w' : World) : Prop :=
  ∃ v' S', TabIn w' pt v' n S' L' ∧ TabOk n S' L' ∧ Touch (tabS pt v) w w' ∧ ∀ k, v'.ownBlock = some k → v.ownBlock = some k ∨ w.heap.size ≤ k

end Go.Proofs.YtjacbcephokbbaaDoor
