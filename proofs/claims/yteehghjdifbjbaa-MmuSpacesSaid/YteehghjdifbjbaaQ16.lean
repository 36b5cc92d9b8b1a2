/- Part 16 of the proofs: SpT, SpT2, SpT3, SpOps. -/
import Derived.Test.YteehghjdifbjbaaQ15
namespace Go.Proofs.Yteehghjdifbjbaa
set_option linter.unusedSimpArgs false
set_option linter.unusedVariables false
set_option maxRecDepth 100000
open Go.RowKit
set_option maxHeartbeats 4000000

theorem s_map_twice (ps pm pb r n p fr : Nat) (M : Nat → Int) (bw : Bool) (g w : World) (R : HP) (h : Sat g w (spP ps pm pb r * (memP pm n M * R))) (Q : WRes) (hQ : walkM M n r p = Q) (hQe : Q.e = 0) (hp : p < 4096) (hfr : fr < n) :
    Calls Try.prog 34 #[.pointer (some ⟨ps, 0, none⟩), .int .i64 p, .int .i64 fr, .bool bw] w fun e w' => e = .returned (.int .i64 4) ∧ Sat g w' (spP ps pm pb r * (memP pm n M * R)) := by
  have S0 := (h.pt_new (.cells #[.pointer (some ⟨ps, 0, none⟩)] 73)).perm (show _ = spP ps pm pb r * (memP pm n M * (pt w.heap.size (.cells #[.pointer (some ⟨ps, 0, none⟩)] 73) * R)) by ac_rfl)
  have hd : (decide (0 ≤ (p : Int)) && decide ((p : Int) < 4096)) = true := by simp; omega
  have gf : decide ((fr : Int) < 0) = false := by simp
  have gn : decide ((n : Int) ≤ fr) = false := by simp; omega
  have gn' : decide (n ≤ fr) = false := by simp; omega
  have g0 : (Q.e == 0) = true := by rw [beq_iff_eq]; exact hQe
  obtain ⟨w1, hw1⟩ : ∃ w1, w1 = w.alloc (.cells #[.pointer (some ⟨ps, 0, none⟩)] 73) := ⟨_, rfl⟩
  obtain ⟨sb, hsb⟩ : ∃ sb, sb = w.heap.size := ⟨_, rfl⟩
  rw [← hw1, ← hsb] at S0
  have HS0 := Lib.hid S0
  have HQ := Lib.hid hQ
  have HW1 := Lib.hid hw1
  have HSB := Lib.hid hsb
  clear hQ hQe hw1 hsb S0 h
  go_enter Try.func34, Try.ntmps34
  go_upto_region 1 with (fail)
  rw [← HW1.out, ← HSB.out]
  have S0 := HS0.out
  clear HW1 HSB HS0
  have hcs : ∀ w', Below w1.heap.size w1 w' → w'.cell? ⟨sb, 0, none⟩ = some (.pointer (some ⟨ps, 0, none⟩)) ∧ w'.cell? ⟨ps, 0, none⟩ = some (.pointer (some ⟨pm, 0, none⟩)) ∧ w'.cell? ⟨ps, 2, none⟩ = some (.int .i64 r) := fun w' hb => by
    have S1 := S0.below hb
    have e := (S1.perm (show _ = pt sb (.cells #[.pointer (some ⟨ps, 0, none⟩)] 73) * (spP ps pm pb r * (memP pm n M * R)) by ac_rfl)).pt_heap
    exact ⟨by simp [World.cell?, e], S1.sp.c0, S1.sp.c2⟩
  obtain ⟨q0, q1, q2⟩ := hcs w1 (Below.refl _ _)
  go_wp2_with (fail)
  refine (is_any p _).mono ?_
  rintro e w' ⟨rfl, rfl⟩
  rw [hd]
  go_wp2_with (fail)
  refine (s_frames pm n M g w1 _ S0.swap).mono ?_
  rintro e w' ⟨rfl, rfl⟩
  go_upto_region 3 with (fail)
  have HW : Hid (∀ w', Below w1.heap.size w1 w' → Calls Try.prog 66 #[.pointer (some ⟨pm, 0, none⟩), .int .i64 r, .int .i64 p] w' fun e w2 => ∃ v, e = .returned (.tuple #[.agg #[.bool Q.v, .bool Q.wr, .bool Q.tb, .int .i64 Q.fr], v, .int .i64 Q.e]) ∧ w2.ownsRow w'.heap.size 140 2 v Q.st.length (wCells Q.st) ∧ Below w'.heap.size w' w2) := Lib.hid fun w' hb => s_walk pm n M r p g w' _ (S0.below hb).swap Q HQ.out
  clear q0 q1 q2
  go_cut [9, 10, 11] (fun s6 s7 s8 wx => WalkCut w1 Q s6 s7 s8 wx)
  case first =>
    go_region_held3 (fun w' => w'.cell? ⟨sb, 0, none⟩ = some (.pointer (some ⟨ps, 0, none⟩)) ∧ w'.cell? ⟨ps, 0, none⟩ = some (.pointer (some ⟨pm, 0, none⟩)) ∧ w'.cell? ⟨ps, 2, none⟩ = some (.int .i64 r)) (exact hcs _ (by repeat (first | with_reducible exact Below.refl _ _ | with_reducible assumption | with_reducible refine below_drewN ?_ _ | with_reducible refine Below.drew ?_ | with_reducible refine Below.setCell ?_ (by first | omega | (simp <;> omega)) _ | with_reducible refine Below.alloc ?_ (by first | omega | (simp <;> omega)) _))) ((go_at_call 66; refine (HW.out _ (by repeat (first | with_reducible exact Below.refl _ _ | with_reducible assumption | with_reducible refine below_drewN ?_ _ | with_reducible refine Below.drew ?_ | with_reducible refine Below.setCell ?_ (by first | omega | (simp <;> omega)) _ | with_reducible refine Below.alloc ?_ (by first | omega | (simp <;> omega)) _))).mono ?_; rintro e w3 ⟨v, rfl, hown3, hb3'⟩; first | (have hb4 := un_drew hb3'; have he := (EnAt.new w1 false false false 0 34).below hb4 (by simp); have hb3 : Below w1.heap.size w1 w3 := (Below.alloc (Below.refl _ _) (Nat.le_refl _) _).trans (hb4.mono (by simp)); have hs3 := hb3.size; have g0 := he.c0; have g1 := he.c1; have g2 := he.c2; have g3 := he.c3; have g4 := he.f0; have g5 := he.f1; have g6 := he.f2; have g7 := he.f3) | (have hb3 : Below w1.heap.size w1 w3 := un_drew hb3'; have hs3 := hb3.size)))
    · go_wp2_with (fail)
      go_meet
      exact walkCut_new (by simp) hown3 hb3
    · go_wp2_with (fail)
      go_meet
      exact walkCut_put (by simp) hown3 he hb3
  case rest =>
    obtain ⟨be, rfl, rfl, hbe, he, ho, hb, hne⟩ := hcut
    have S1 := (S0.below hb).perm (show _ = pt sb (.cells #[.pointer (some ⟨ps, 0, none⟩)] 73) * (spP ps pm pb r * (memP pm n M * R)) by ac_rfl)
    go_wp2_with (fail)
    go_ret
    exact ⟨rfl, S1.right⟩

theorem s_newsp (pm pb r0 n : Nat) (T : Nat → Prop) (H : List Blk) (g w : World) (R : HP) (h : Sat g w (midP pb pm T H * R)) (hi : InvB r0 n T H) :
    Calls Try.prog 31 #[.pointer (some ⟨pm, 0, none⟩), .pointer (some ⟨pb, 0, none⟩)] w fun e w' =>
      (e = .returned (.tuple #[.pointer none, .int .i64 6]) ∧ (∀ c, ¬ T c) ∧ Sat g w' (midP pb pm T H * R)) ∨
      ∃ ps c, e = .returned (.tuple #[.pointer (some ⟨ps, 0, none⟩), .int .i64 0]) ∧ NextF T c ∧ Sat g w' (spP ps pm pb c * (midP pb pm (minusQ T c 0) (H ++ [((c : Int), (0 : Int))]) * R)) := by
  go_enter Try.func31, Try.ntmps31
  go_wp2_with (fail)
  refine (s_alloc0 pb pm r0 n T H g _ _ h hi).mono ?_
  intro e w1 hp
  cases hp with
  | no hn he hs =>
    subst he
    have HN := Lib.hid hn
    clear hn
    go_wp2_with (fail)
    go_ret2
    exact Or.inl ⟨rfl, HN.out, hs⟩
  | yes c hc he hs =>
    subst he
    have HN := Lib.hid hc
    clear hc
    have S1 : Sat g (w1.alloc (.cells #[.pointer (some ⟨pm, 0, none⟩), .pointer (some ⟨pb, 0, none⟩), .int .i64 c] 132)) (spP w1.heap.size pm pb c * (midP pb pm (minusQ T c 0) (H ++ [((c : Int), (0 : Int))]) * R)) :=
      hs.new ((Below.refl _ _).alloc (Nat.le_refl _) _) ⟨by simp [go_sem], by simp [go_sem], by simp [go_sem], by simp⟩ (loc_sp _ _ _ _) (fun k hk => by rw [hk]; exact Nat.le_refl _) (fun k hk => by rw [hk]; simp)
    have H1 := Lib.hid S1
    clear S1
    go_wp2_with (fail)
    go_ret2
    exact Or.inr ⟨_, c, rfl, HN.out, H1.out⟩

end Go.Proofs.Yteehghjdifbjbaa

namespace Go.Proofs.Yteehghjdifbjbaa
set_option linter.unusedSimpArgs false
set_option linter.unusedVariables false
set_option maxRecDepth 100000
open Go.RowKit
set_option maxHeartbeats 4000000

/-! ### What stays true of a space -/
/-- No table is empty. -/
structure TreeN (n : Nat) (M : Nat → Int) (t : Tree) : Prop where
  w : TreeW n M t
  dn1 : ∀ i f, t.t1 i = some f → ∃ j, j < 16 ∧ ∃ f2, t.t2 (16 * i + j) = some f2
  dn2 : ∀ q f, t.t2 q = some f → ∃ k, k < 16 ∧ ∃ x, t.pg (16 * q + k) = some x
def HeldT (t : Tree) (H : List Blk) : Prop := ∀ f, isTab t f → ((f : Int), (0 : Int)) ∈ H
/-- What a space's call leaves as it was: the words of all other frames, what was given to others, and that free frames are this space's or were free. -/
structure Apart (t : Tree) (T : Nat → Prop) (H : List Blk) (M : Nat → Int) (t' : Tree) (T' : Nat → Prop) (H' : List Blk) (M' : Nat → Int) : Prop where
  words : ∀ f, ¬ isTab t f → ¬ T f → ∀ k, k < 16 → M' (16 * f + k) = M (16 * f + k)
  free : ∀ f, T' f → T f ∨ isTab t f
  tabs : ∀ f, isTab t' f → isTab t f ∨ T f
  given : ∀ b ∈ H, (∀ f, isTab t f → b ≠ ((f : Int), (0 : Int))) → b ∈ H'
  gave : ∀ b ∈ H', (∃ f, isTab t' f ∧ b = ((f : Int), (0 : Int))) ∨ (b ∈ H ∧ ∀ f, isTab t f → b ≠ ((f : Int), (0 : Int)))
theorem apart_T {r n : Nat} {T : Nat → Prop} {H : List Blk} (h : InvB r n T H) {f : Nat} (hf : ((f : Int), (0 : Int)) ∈ H) : ¬ T f :=
  h.apart _ hf f (by unfold inB; simp)

/-- A space behind a call. -/
structure After (r0 n : Nat) (t : Tree) (T0 : Nat → Prop) (H0 : List Blk) (M0 : Nat → Int) (t' : Tree) (T : Nat → Prop) (H : List Blk) (M : Nat → Int) : Prop where
  tree : TreeN n M t'
  inv : InvB r0 n T H
  zero : ZeroF T M
  held : HeldT t' H
  root : t'.root = t.root
  ap : Apart t T0 H0 M0 t' T H M
theorem Apart.of_rm {t t' : Tree} {T0 T : Nat → Prop} {H0 H : List Blk} {M0 M : Nat → Int} (Rm : Nat → Prop) (h0 : HeldT t H0) (hT : ∀ f, T f ↔ T0 f ∨ Rm f) (hH : ∀ b, b ∈ H ↔ b ∈ H0 ∧ ∀ f, Rm f → b ≠ ((f : Int), (0 : Int))) (hR : ∀ f, Rm f → isTab t f) (hTab : ∀ f, isTab t' f ↔ isTab t f ∧ ¬ Rm f)
    (hW : ∀ f, ¬ isTab t f → ∀ k, k < 16 → M (16 * f + k) = M0 (16 * f + k)) : Apart t T0 H0 M0 t' T H M ∧ HeldT t' H := by
  refine ⟨⟨fun f h1 _ => hW f h1, fun f hf => ((hT f).1 hf).imp id (hR f), fun f hf => Or.inl ((hTab f).1 hf).1, fun b hb hn => (hH b).2 ⟨hb, fun f hf => hn f (hR f hf)⟩, fun b hb => ?_⟩, fun f hf => ?_⟩
  · obtain ⟨h1, h2⟩ := (hH b).1 hb
    by_cases e : ∃ f, isTab t f ∧ b = ((f : Int), (0 : Int))
    · obtain ⟨f, hf, rfl⟩ := e
      exact Or.inl ⟨f, (hTab f).2 ⟨hf, fun hr => h2 f hr rfl⟩, rfl⟩
    · exact Or.inr ⟨h1, fun f hf e2 => e ⟨f, hf, e2⟩⟩
  · obtain ⟨h1, h2⟩ := (hTab f).1 hf
    refine (hH _).2 ⟨h0 f h1, fun f' hr e => h2 ?_⟩
    have e5 : (f : Int) = (f' : Int) := congrArg Prod.fst e
    have : f = f' := by omega
    rw [this]; exact hr
theorem same_scrub (M : Nat → Int) (f : Nat) : SameBut f M (scrubW M f 1) := fun a ha => by
  unfold scrubW
  rw [if_neg (by omega)]
theorem scrub_one (M : Nat → Int) (c : Nat) : scrubW M (c * 2 ^ 0) (2 ^ 0) = scrubW M c 1 := by rw [Nat.pow_zero, Nat.mul_one]
theorem zero_free0 {T : Nat → Prop} {M : Nat → Int} (h : ZeroF T M) (c : Nat) : ZeroF (plusQ T c 0) (scrubW M c 1) := by rw [← scrub_one]; exact zero_free h c 0
theorem inv_free0 {r n : Nat} {T : Nat → Prop} {H : List Blk} (h : InvB r n T H) {c : Nat} (hin : ((c : Int), (0 : Int)) ∈ H) : InvB r n (plusQ T c 0) (H.erase ((c : Int), (0 : Int))) := by
  have e : (((c * 2 ^ 0 : Nat) : Int), ((0 : Nat) : Int)) = ((c : Int), (0 : Int)) := by rw [Nat.pow_zero, Nat.mul_one]; rfl
  have := inv_free (c := c) (o := 0) h (by rw [e]; exact hin)
  rw [e] at this
  exact this
theorem plus0 {T : Nat → Prop} {c x : Nat} : plusQ T c 0 x ↔ T x ∨ x = c := by unfold plusQ; rw [Nat.pow_zero, Nat.div_one]

/-- The levels of Unmap, told by trees. -/
theorem unmap_takes {r0 n : Nat} {T0 : Nat → Prop} {H0 : List Blk} {M0 : Nat → Int} {t : Tree} {p f1 f2 : Nat} {x : Nat × Bool} (ht : TreeN n M0 t) (hi : InvB r0 n T0 H0) (hz : ZeroF T0 M0) (hh : HeldT t H0) (e1 : t.t1 (p / 256) = some f1) (e2 : t.t2 (p / 16) = some f2) (e3 : t.pg p = some x) :
    ∃ I, Takes r0 n (fun j => if j = 0 then t.root else if j = 1 then f1 else f2) (fun j => if j = 0 then p / 256 else if j = 1 then p / 16 % 16 else p % 16) I (fun T H M => ∃ t', After r0 n t T0 H0 M0 t' T H M ∧ t'.pg = updF t.pg p none) ∧ I 2 T0 H0 M0 := by
  have hw := ht.w
  have lp := (hw.ltp _ _ e3).1
  have l1 := hw.lt1 _ _ e1
  have l2 := hw.lt2 _ _ e2
  have hdd : p / 16 / 16 = p / 256 := by omega
  have t0 : isTab t t.root := Or.inl rfl
  have t1 : isTab t f1 := Or.inr (Or.inl ⟨_, e1⟩)
  have t2 : isTab t f2 := Or.inr (Or.inr ⟨_, e2⟩)
  have n01 := hw.a01 _ _ e1
  have n02 := hw.a02 _ _ e2
  have n12 : f1 ≠ f2 := fun e => hw.a12 _ _ _ e1 (e ▸ e2)
  obtain ⟨ta, hta⟩ : ∃ ta : Tree, ta = { t with pg := updF t.pg p none } := ⟨_, rfl⟩
  obtain ⟨tb, htb⟩ : ∃ tb : Tree, tb = { ta with t2 := updF ta.t2 (p / 16) none } := ⟨_, rfl⟩
  obtain ⟨tc, htc⟩ : ∃ tc : Tree, tc = { tb with t1 := updF tb.t1 (p / 256) none } := ⟨_, rfl⟩
  have pa : ta.pg = updF t.pg p none := by rw [hta]
  have pb' : tb.pg = updF t.pg p none := by rw [htb]; exact pa
  have pc : tc.pg = updF t.pg p none := by rw [htc]; exact pb'
  have Tb : ∀ f, isTab tb f ↔ isTab t f ∧ ¬ f = f2 := fun f => by
    rw [htb, hta]
    constructor
    · rintro (h | ⟨i, h⟩ | ⟨q, h⟩)
      · exact ⟨Or.inl h, fun e => n02 (e ▸ h)⟩
      · exact ⟨Or.inr (Or.inl ⟨i, h⟩), fun e => hw.a12 _ _ _ h (e ▸ e2)⟩
      · replace h : updF t.t2 (p / 16) none q = some f := h
        by_cases e : q = p / 16
        · rw [e, updF_same] at h; cases h
        · rw [updF_ne _ _ e] at h
          exact ⟨Or.inr (Or.inr ⟨q, h⟩), fun e' => e (hw.a22 _ _ _ h (e' ▸ e2))⟩
    · rintro ⟨h | ⟨i, h⟩ | ⟨q, h⟩, hn⟩
      · exact Or.inl h
      · exact Or.inr (Or.inl ⟨i, h⟩)
      · refine Or.inr (Or.inr ⟨q, ?_⟩)
        show updF t.t2 (p / 16) none q = some f
        rw [updF_ne _ _ (fun e => hn (by rw [e, e2] at h; exact (Option.some.inj h).symm))]
        exact h
  have Tc : ∀ f, isTab tc f ↔ isTab t f ∧ ¬ (f = f2 ∨ f = f1) := fun f => by
    have hb := Tb f
    rw [htb, hta] at hb
    rw [htc, htb, hta]
    constructor
    · rintro (h | ⟨i, h⟩ | ⟨q, h⟩)
      · exact ⟨Or.inl h, fun e => e.elim (fun e => n02 (e ▸ h)) (fun e => n01 (e ▸ h))⟩
      · replace h : updF t.t1 (p / 256) none i = some f := h
        by_cases e : i = p / 256
        · rw [e, updF_same] at h; cases h
        · rw [updF_ne _ _ e] at h
          exact ⟨Or.inr (Or.inl ⟨i, h⟩), fun e' => e'.elim (fun e' => hw.a12 _ _ _ h (e' ▸ e2)) (fun e' => e (hw.a11 _ _ _ h (e' ▸ e1)))⟩
      · obtain ⟨g1, g2⟩ := hb.1 (Or.inr (Or.inr ⟨q, h⟩))
        replace h : updF t.t2 (p / 16) none q = some f := h
        have hq : t.t2 q = some f := by
          by_cases e : q = p / 16
          · rw [e, updF_same] at h; cases h
          · rw [updF_ne _ _ e] at h; exact h
        exact ⟨g1, fun e' => e'.elim g2 (fun e' => hw.a12 _ _ _ e1 (e' ▸ hq))⟩
    · rintro ⟨h, hn⟩
      rcases hb.2 ⟨h, fun e => hn (Or.inl e)⟩ with h | ⟨i, h⟩ | ⟨q, h⟩
      · exact Or.inl h
      · refine Or.inr (Or.inl ⟨i, ?_⟩)
        show updF t.t1 (p / 256) none i = some f
        replace h : t.t1 i = some f := h
        rw [updF_ne _ _ (fun e => hn (Or.inr (by rw [e, e1] at h; exact (Option.some.inj h).symm)))]
        exact h
      · exact Or.inr (Or.inr ⟨q, h⟩)
  have hold := fun f hf => hh f hf
  have wds : ∀ f F k K (v : Int) (M : Nat → Int), isTab t F → ¬ isTab t f → k < 16 → K < 16 → setW M (16 * F + K) v (16 * f + k) = M (16 * f + k) := fun f F k K v M hF hf hk hK => by
    refine setW_ne _ _ (fun e => hf ?_)
    have : f = F := by omega
    rw [this]; exact hF
  have wsc : ∀ f F k (M : Nat → Int), isTab t F → ¬ isTab t f → k < 16 → scrubW M F 1 (16 * f + k) = M (16 * f + k) := fun f F k M hF hf hk => by
    refine same_scrub M F _ (fun e => hf ?_)
    have : f = F := by omega
    rw [this]; exact hF
  have k2 : p % 16 < 16 := by omega
  have k1 : p / 16 % 16 < 16 := by omega
  have k0 : p / 256 < 16 := by omega
  have hTa : ∀ M, TreeW n M t → TreeW n (setW M (16 * f2 + p % 16) 0) ta := fun M h => by
    rw [hta]; exact h.setPg e2 none (fun y hy => by cases hy)
  have a1 : ta.t1 (p / 16 / 16) = some f1 := by rw [hta, hdd]; exact e1
  have a2 : ta.t2 (p / 16) = some f2 := by rw [hta]; exact e2
  have b1 : tb.t1 (p / 256) = some f1 := by rw [htb, hta]; exact e1
  have b2 : ∀ q, tb.t2 q = if q = p / 16 then none else t.t2 q := fun q => by rw [htb, hta]; rfl
  have c1 : ∀ i, tc.t1 i = if i = p / 256 then none else t.t1 i := fun i => by rw [htc, htb, hta]; rfl
  have c2 : ∀ q, tc.t2 q = if q = p / 16 then none else t.t2 q := fun q => by rw [htc]; exact b2 q
  have pg_ne : ∀ q k, q ≠ p / 16 → k < 16 → updF t.pg p none (16 * q + k) = t.pg (16 * q + k) := fun q k hq hk => updF_ne _ _ (by omega)
  have dnq : ∀ q f, q ≠ p / 16 → t.t2 q = some f → ∃ k, k < 16 ∧ ∃ x, updF t.pg p none (16 * q + k) = some x := fun q f hq hf => by
    obtain ⟨k, hk, y, hy⟩ := ht.dn2 q f hf
    exact ⟨k, hk, y, by rw [pg_ne q k hq hk]; exact hy⟩
  have inH1 : ∀ H, H = H0.erase ((f2 : Int), (0 : Int)) → ((f1 : Int), (0 : Int)) ∈ H := fun H e => by
    rw [e]
    refine (List.mem_erase_of_ne (fun e5 => n12 ?_)).2 (hh f1 t1)
    have e6 : (f1 : Int) = (f2 : Int) := congrArg Prod.fst e5
    omega
  refine ⟨fun j T H M => InvB r0 n T H ∧ ZeroF T M ∧ (∀ f, ¬ isTab t f → ∀ k, k < 16 → M (16 * f + k) = M0 (16 * f + k)) ∧
    ((j = 2 ∧ T = T0 ∧ H = H0 ∧ M = M0) ∨ (j = 1 ∧ T = plusQ T0 f2 0 ∧ H = H0.erase ((f2 : Int), (0 : Int)) ∧ ∃ M1, TreeW n M1 ta ∧ (∀ k, k < 16 → ta.pg (16 * (p / 16) + k) = none) ∧ SameBut f2 M1 M) ∨
     (j = 0 ∧ T = plusQ (plusQ T0 f2 0) f1 0 ∧ H = (H0.erase ((f2 : Int), (0 : Int))).erase ((f1 : Int), (0 : Int)) ∧ ∃ M2, TreeW n M2 tb ∧ (∀ k, k < 16 → tb.t2 (16 * (p / 256) + k) = none) ∧ SameBut f1 M2 M)), ⟨?_, ?_, ?_⟩, hi, hz, fun _ _ _ _ => rfl, Or.inl ⟨rfl, rfl, rfl, rfl⟩⟩
  · intro j hj
    rcases three_lt hj with rfl | rfl | rfl
    · exact ⟨hw.lr, by simp; omega⟩
    · exact ⟨l1.2, by simp; omega⟩
    · exact ⟨l2.2, by simp; omega⟩
  · intro j T H M hj ⟨hI, hZ, hW, hc⟩ hend
    rcases hc with ⟨rfl, rfl, rfl, rfl⟩ | ⟨rfl, rfl, rfl, M1, hM1, hpn, hsm⟩ | ⟨rfl, rfl, rfl, M2, hM2, hpn, hsm⟩
    · have g : blankB (setW M (16 * f2 + p % 16) 0) n f2 = false := hend.resolve_left (by omega)
      show ∃ t', After r0 n t T H M t' T H (setW M (16 * f2 + p % 16) 0) ∧ t'.pg = updF t.pg p none
      have hA := hTa _ hw
      have hne : ¬ ∀ k, k < 16 → ta.pg (16 * (p / 16) + k) = none := fun h => by
        have := (hA.blank2 a2).2 h
        rw [g] at this; cases this
      have hap := Apart.of_rm (t' := ta) (T0 := T) (T := T) (H0 := H) (H := H) (M0 := M) (M := setW M (16 * f2 + p % 16) 0) (fun _ => False) hh (fun f => by simp) (fun b => by simp) (fun f h => h.elim) (fun f => by rw [hta]; simp [isTab]) (fun f hf k hk => wds f f2 k _ _ M t2 hf hk k2)
      refine ⟨ta, ⟨⟨hA, fun i f hf => by rw [hta] at hf ⊢; exact ht.dn1 i f hf, fun q f hf => ?_⟩, hI, zero_set hZ (apart_T hI (hh f2 t2)) k2 0, hap.2, by rw [hta], hap.1⟩, pa⟩
      rw [pa] at hne ⊢
      by_cases hq : q = p / 16
      · rw [hq]
        obtain ⟨k, hk⟩ := Classical.not_forall.1 hne
        obtain ⟨hk16, hk2⟩ := Classical.not_imp.1 hk
        cases e5 : updF t.pg p none (16 * (p / 16) + k) with
        | none => exact absurd e5 hk2
        | some y => exact ⟨k, hk16, y, e5⟩
      · exact dnq q f hq (by rw [hta] at hf; exact hf)
    · have g : blankB (setW M (16 * f1 + p / 16 % 16) 0) n f1 = false := hend.resolve_left (by omega)
      show ∃ t', After r0 n t T0 H0 M0 t' (plusQ T0 f2 0) (H0.erase ((f2 : Int), (0 : Int))) (setW M (16 * f1 + p / 16 % 16) 0) ∧ t'.pg = updF t.pg p none
      have hB : TreeW n (setW M (16 * f1 + p / 16 % 16) 0) tb := by
        rw [htb]; exact hM1.delT2 a1 a2 hpn hsm
      have hne : ¬ ∀ k, k < 16 → tb.t2 (16 * (p / 256) + k) = none := fun h => by
        have := (hB.blank1 b1).2 h
        rw [g] at this; cases this
      have hap := Apart.of_rm (t' := tb) (T := plusQ T0 f2 0) (H := H0.erase ((f2 : Int), (0 : Int))) (M := setW M (16 * f1 + p / 16 % 16) 0) (fun f => f = f2) hh (fun f => plus0) (fun b => by
        rw [hi.nodup.mem_erase_iff, and_comm]; simp) (fun f h => by rw [h]; exact t2) Tb (fun f hf k hk => (wds f f1 k _ _ M t1 hf hk k1).trans (hW f hf k hk))
      refine ⟨tb, ⟨⟨hB, fun i f hf => ?_, fun q f hf => ?_⟩, hI, zero_set hZ (apart_T hI (inH1 _ rfl)) k1 0, hap.2, by rw [htb, hta], hap.1⟩, pb'⟩
      · by_cases hii : i = p / 256
        · rw [hii]
          obtain ⟨k, hk⟩ := Classical.not_forall.1 hne
          obtain ⟨hk16, hk2⟩ := Classical.not_imp.1 hk
          cases e5 : tb.t2 (16 * (p / 256) + k) with
          | none => exact absurd e5 hk2
          | some y => exact ⟨k, hk16, y, e5⟩
        · obtain ⟨j, hj16, y, hy⟩ := ht.dn1 i f (by rw [htb, hta] at hf; exact hf)
          exact ⟨j, hj16, y, by rw [b2, if_neg (by omega)]; exact hy⟩
      · rw [b2] at hf
        by_cases hq : q = p / 16
        · rw [if_pos hq] at hf; cases hf
        · rw [if_neg hq] at hf; rw [pb']; exact dnq q f hq hf
    · show ∃ t', After r0 n t T0 H0 M0 t' (plusQ (plusQ T0 f2 0) f1 0) ((H0.erase ((f2 : Int), (0 : Int))).erase ((f1 : Int), (0 : Int))) (setW M (16 * t.root + p / 256) 0) ∧ t'.pg = updF t.pg p none
      have hC : TreeW n (setW M (16 * t.root + p / 256) 0) tc := by
        have := hM2.delT1 b1 hpn hsm
        have er : tb.root = t.root := by rw [htb, hta]
        rw [htc, ← er]; exact this
      have hap := Apart.of_rm (t' := tc) (T := plusQ (plusQ T0 f2 0) f1 0) (H := (H0.erase ((f2 : Int), (0 : Int))).erase ((f1 : Int), (0 : Int))) (M := setW M (16 * t.root + p / 256) 0) (fun f => f = f2 ∨ f = f1) hh (fun f => by rw [plus0, plus0]; exact or_assoc) (fun b => by
        rw [(hi.nodup.erase _).mem_erase_iff, hi.nodup.mem_erase_iff]
        constructor
        · rintro ⟨g1, g2, g3⟩
          refine ⟨g3, ?_⟩
          rintro f (rfl | rfl)
          · exact g2
          · exact g1
        · rintro ⟨g1, g2⟩
          exact ⟨g2 f1 (Or.inr rfl), g2 f2 (Or.inl rfl), g1⟩) (fun f h => by rcases h with h | h <;> rw [h]; exact t2; exact t1) Tc (fun f hf k hk => (wds f t.root k _ _ M t0 hf hk k0).trans (hW f hf k hk))
      refine ⟨tc, ⟨⟨hC, fun i f hf => ?_, fun q f hf => ?_⟩, hI, zero_set hZ (apart_T hI ?_) k0 0, hap.2, by rw [htc, htb, hta], hap.1⟩, pc⟩
      · rw [c1] at hf
        by_cases hii : i = p / 256
        · rw [if_pos hii] at hf; cases hf
        · rw [if_neg hii] at hf
          obtain ⟨j, hj16, y, hy⟩ := ht.dn1 i f hf
          exact ⟨j, hj16, y, by rw [c2, if_neg (by omega)]; exact hy⟩
      · rw [c2] at hf
        by_cases hq : q = p / 16
        · rw [if_pos hq] at hf; cases hf
        · rw [if_neg hq] at hf; rw [pc]; exact dnq q f hq hf
      · refine (List.mem_erase_of_ne (fun e5 => n01 ?_)).2 ((List.mem_erase_of_ne (fun e5 => n02 ?_)).2 (hh _ t0))
        · have e6 : (t.root : Int) = (f1 : Int) := congrArg Prod.fst e5
          omega
        · have e6 : (t.root : Int) = (f2 : Int) := congrArg Prod.fst e5
          omega
  · intro j T H M hj ⟨hI, hZ, hW, hc⟩ hj0 hbl
    rcases hc with ⟨rfl, rfl, rfl, rfl⟩ | ⟨rfl, rfl, rfl, M1, hM1, hpn, hsm⟩ | ⟨rfl, _⟩
    · replace hbl : blankB (setW M (16 * f2 + p % 16) 0) n f2 = true := hbl
      have hA := hTa _ hw
      have hin := hh f2 t2
      refine ⟨hI, hin, inv_free0 hI hin, zero_free0 (zero_set hZ (apart_T hI hin) k2 0) f2, fun f hf k hk => (wsc f f2 k _ t2 hf hk).trans (wds f f2 k _ _ M t2 hf hk k2), Or.inr (Or.inl ⟨rfl, rfl, rfl, _, hA, (hA.blank2 a2).1 hbl, same_scrub _ _⟩)⟩
    · replace hbl : blankB (setW M (16 * f1 + p / 16 % 16) 0) n f1 = true := hbl
      have hB : TreeW n (setW M (16 * f1 + p / 16 % 16) 0) tb := by
        rw [htb]; exact hM1.delT2 a1 a2 hpn hsm
      have hin := inH1 _ rfl
      refine ⟨hI, hin, inv_free0 hI hin, zero_free0 (zero_set hZ (apart_T hI hin) k1 0) f1, fun f hf k hk => (wsc f f1 k _ t1 hf hk).trans ((wds f f1 k _ _ M t1 hf hk k1).trans (hW f hf k hk)), Or.inr (Or.inr ⟨rfl, rfl, rfl, _, hB, (hB.blank1 b1).1 hbl, same_scrub _ _⟩)⟩
    · omega

end Go.Proofs.Yteehghjdifbjbaa

namespace Go.Proofs.Yteehghjdifbjbaa
set_option linter.unusedSimpArgs false
set_option linter.unusedVariables false
set_option maxRecDepth 100000
open Go.RowKit
set_option maxHeartbeats 4000000

def idxN (p i : Nat) : Nat := if i = 0 then p / 256 else if i = 1 then p / 16 % 16 else p % 16
theorem idxN_eq (p : Nat) : ∀ i : Nat, i < 3 → idxI (p : Int) i = (idxN p i : Int) := fun i hi => by
  rcases three_lt hi with rfl | rfl | rfl
  · exact idx0 p
  · exact idx1 p
  · exact idx2 p
theorem idxN_lt (p : Nat) (hp : p < 4096) (i : Nat) : idxN p i < 16 := by unfold idxN; split; omega; split <;> omega
theorem Got.last {T0 : Nat → Prop} {H0 : List Blk} {F0 K0 : Nat} {idx : Nat → Nat} {k0 : Nat} {l : List Nat} {T : Nat → Prop} {H : List Blk} {E : List (Nat × Nat × Nat)} {F K : Nat} (h : Got T0 H0 F0 K0 idx k0 l T H E F K) :
    (l = [] ∧ T = T0 ∧ H = H0 ∧ E = [] ∧ F = F0 ∧ K = K0) ∨ ∃ l' T' H' c E' F' K', l = l' ++ [c] ∧ T = minusQ T' c 0 ∧ H = H' ++ [((c : Int), (0 : Int))] ∧ E = E' ++ [(F', K', c)] ∧ c = F ∧ K = idx (k0 + l'.length) ∧ NextF T' c ∧ Got T0 H0 F0 K0 idx k0 l' T' H' E' F' K' := by
  cases h with
  | nil => exact Or.inl ⟨rfl, rfl, rfl, rfl, rfl, rfl⟩
  | snoc c h hc => exact Or.inr ⟨_, _, _, _, _, _, _, rfl, rfl, rfl, rfl, rfl, rfl, hc, h⟩
theorem Got.nil_eq {T0 : Nat → Prop} {H0 : List Blk} {F0 K0 : Nat} {idx : Nat → Nat} {k0 : Nat} {T : Nat → Prop} {H : List Blk} {E : List (Nat × Nat × Nat)} {F K : Nat} (h : Got T0 H0 F0 K0 idx k0 [] T H E F K) : T0 = T ∧ H0 = H ∧ [] = E ∧ F0 = F ∧ K0 = K := by
  rcases h.last with ⟨_, a, b, c, d, e⟩ | ⟨l', _, _, _, _, _, _, e, _⟩
  · exact ⟨a.symm, b.symm, c.symm, d.symm, e.symm⟩
  · simp at e
theorem minus0 {T : Nat → Prop} {c x : Nat} : minusQ T c 0 x ↔ T x ∧ x ≠ c := by unfold minusQ; rw [Nat.pow_zero, Nat.div_one]
/-- A space that has got new tables: what stays outside. -/
theorem Apart.of_new {t t' : Tree} {T0 T : Nat → Prop} {H0 H : List Blk} {M0 M : Nat → Int} (Nw : Nat → Prop) (h0 : HeldT t H0) (hN : ∀ f, Nw f → T0 f) (hT : ∀ f, T f → T0 f) (hH : ∀ b, b ∈ H ↔ b ∈ H0 ∨ ∃ f, Nw f ∧ b = ((f : Int), (0 : Int))) (hTab : ∀ f, isTab t' f ↔ isTab t f ∨ Nw f)
    (hW : ∀ f, ¬ isTab t f → ¬ T0 f → ∀ k, k < 16 → M (16 * f + k) = M0 (16 * f + k)) : Apart t T0 H0 M0 t' T H M ∧ HeldT t' H := by
  refine ⟨⟨hW, fun f hf => Or.inl (hT f hf), fun f hf => ((hTab f).1 hf).imp id (hN f), fun b hb _ => (hH b).2 (Or.inl hb), fun b hb => ?_⟩, fun f hf => ?_⟩
  · rcases (hH b).1 hb with h1 | ⟨f, hf, e⟩
    · by_cases e : ∃ f, isTab t f ∧ b = ((f : Int), (0 : Int))
      · obtain ⟨f, hf, rfl⟩ := e
        exact Or.inl ⟨f, (hTab f).2 (Or.inl hf), rfl⟩
      · exact Or.inr ⟨h1, fun f hf e2 => e ⟨f, hf, e2⟩⟩
    · exact Or.inl ⟨f, (hTab f).2 (Or.inr hf), e⟩
  · rcases (hTab f).1 hf with h1 | h1
    · exact (hH _).2 (Or.inl (h0 f h1))
    · exact (hH _).2 (Or.inr ⟨f, h1, rfl⟩)

/-- How many tables a page lacks. -/
def needT (t : Tree) (p : Nat) : Nat := match t.t1 (p / 256) with
  | none => 2
  | some _ => match t.t2 (p / 16) with
    | none => 1
    | some _ => 0
theorem Got.cnt {r0 n : Nat} {T0 : Nat → Prop} {H0 : List Blk} {F0 K0 : Nat} {idx : Nat → Nat} {k0 : Nat} (hi : InvB r0 n T0 H0) (hn : n ≤ 256) {l : List Nat} {T : Nat → Prop} {H : List Blk} {E : List (Nat × Nat × Nat)} {F K : Nat} (h : Got T0 H0 F0 K0 idx k0 l T H E F K) : Go.Proofs.Yteehghjdifbjbaa.cnt T0 256 = Go.Proofs.Yteehghjdifbjbaa.cnt T 256 + l.length := by
  induction h with
  | nil => simp
  | snoc c h hc ih =>
    have hlt := inv_T (h.inv hi) c hc.free
    have := cnt_minus (k := 256) (full0.2 hc.free) (by rw [Nat.pow_zero, Nat.mul_one]; omega)
    rw [Nat.pow_zero] at this
    rw [List.length_append, List.length_singleton]; omega
theorem map_after {r0 n : Nat} {T0 : Nat → Prop} {H0 : List Blk} {M : Nat → Int} {t : Tree} {p fr : Nat} (bw : Bool) (ht : TreeN n M t) (hi : InvB r0 n T0 H0) (hz : ZeroF T0 M) (hh : HeldT t H0) (hp : p < 4096) (e3 : t.pg p = none) (hfr : fr < n) :
    ∃ (d : List (Int × Int)) (F0 K0 : Nat), (walkT t p).e ≠ 0 ∧ (walkT t p).st = d ++ [((F0 : Int), (K0 : Int))] ∧ d.length < 3 ∧ d.length + 1 + needT t p = 3 ∧ F0 < n ∧ K0 < 16 ∧ ∀ l T H E F K, Got T0 H0 F0 K0 (idxN p) (d.length + 1) l T H E F K → d.length + 1 + l.length = 3 →
      ∃ t', After r0 n t T0 H0 M t' T H (setW (putsM M E) (16 * F + K) (wordI true bw false fr)) ∧ t'.pg = updF t.pg p (some (fr, bw)) := by
  have hw := ht.w
  have k2 : p % 16 < 16 := by omega
  have k1 : p / 16 % 16 < 16 := by omega
  have k0 : p / 256 < 16 := by omega
  have hdd : p / 16 / 16 = p / 256 := by omega
  have fresh : ∀ c, T0 c → ¬ isTab t c ∧ c < n ∧ ∀ k, k < 16 → M (16 * c + k) = 0 := fun c hc => ⟨fun h => apart_T hi (hh c h) hc, inv_T hi c hc, fun k hk => hz c hc _ (by omega) (by omega)⟩
  have wd : ∀ f F k K (v : Int) (M : Nat → Int), f ≠ F → k < 16 → K < 16 → setW M (16 * F + K) v (16 * f + k) = M (16 * f + k) := fun f F k K v M hf hk hK => setW_ne _ _ (by omega)
  have hpw : wordI true bw false fr = pWd (some (fr, bw)) := rfl
  have hidx2 : idxN p 2 = p % 16 := rfl
  have hidx1 : idxN p 1 = p / 16 % 16 := rfl
  cases e1 : t.t1 (p / 256) with
  | none =>
    refine ⟨[], t.root, p / 256, by unfold walkT; rw [e1]; simp, by unfold walkT; rw [e1]; rfl, by simp, by unfold needT; rw [e1]; rfl, hw.lr, k0, fun l T H E F K hg hl => ?_⟩
    rcases hg.last with ⟨rfl, _⟩ | ⟨l', T', H', c2, E', F', K', rfl, rfl, rfl, rfl, rfl, rfl, hc2, hg'⟩
    · simp at hl
    rcases hg'.last with ⟨rfl, _⟩ | ⟨l'', T'', H'', c1, E'', F'', K'', rfl, rfl, rfl, rfl, rfl, rfl, hc1, hg''⟩
    · simp at hl
    obtain rfl : l'' = [] := List.eq_nil_of_length_eq_zero (by simp at hl; omega)
    obtain ⟨rfl, rfl, rfl, rfl, rfl⟩ := hg''.nil_eq
    have tc1 := hc1.free
    have tc2 := hc2.free
    obtain ⟨n1, l1, z1⟩ := fresh c1 tc1
    obtain ⟨n2, l2, z2⟩ := fresh c2 (minus0.1 tc2).1
    have n12 : c2 ≠ c1 := (minus0.1 tc2).2
    have nr1 : c1 ≠ t.root := fun e => n1 (Or.inl e)
    have nr2 : c2 ≠ t.root := fun e => n2 (Or.inl e)
    have e2 : t.t2 (p / 16) = none := by
      cases e : t.t2 (p / 16) with
      | none => rfl
      | some f => obtain ⟨f1, hf1⟩ := hw.up2 _ _ e; rw [hdd, e1] at hf1; cases hf1
    have A1 := hw.setT1 k0 e1 l1 n1 z1
    obtain ⟨ta, hta⟩ : ∃ ta : Tree, ta = { t with t1 := updF t.t1 (p / 256) (some c1) } := ⟨_, rfl⟩
    rw [← hta] at A1
    have a1 : ta.t1 (p / 16 / 16) = some c1 := by rw [hta, hdd]; exact updF_same _ _ _
    have a2 : ta.t2 (p / 16) = none := by rw [hta]; exact e2
    have hnt2 : ¬ isTab ta c2 := by
      rw [hta]
      rintro (h | ⟨i, h⟩ | h)
      · exact n2 (Or.inl h)
      · replace h : updF t.t1 (p / 256) (some c1) i = some c2 := h
        by_cases e : i = p / 256
        · rw [e, updF_same] at h; exact n12 (Option.some.inj h).symm
        · rw [updF_ne _ _ e] at h; exact n2 (Or.inr (Or.inl ⟨i, h⟩))
      · exact n2 (Or.inr (Or.inr h))
    have A2 := A1.setT2 a1 a2 l2 hnt2 (fun k hk => by rw [wd _ _ _ _ _ _ nr2 hk k0]; exact z2 k hk)
    obtain ⟨tb, htb⟩ : ∃ tb : Tree, tb = { ta with t2 := updF ta.t2 (p / 16) (some c2) } := ⟨_, rfl⟩
    rw [← htb] at A2
    have b2 : tb.t2 (p / 16) = some c2 := by rw [htb]; exact updF_same _ _ _
    have A3 := A2.setPg b2 (some (fr, bw)) (fun y hy => by cases hy; exact hfr)
    have hM : setW (putsM M (([] ++ [(t.root, p / 256, c1)]) ++ [(c1, idxN p (([] : List (Int × Int)).length + 1 + ([] : List Nat).length), c2)])) (16 * c2 + idxN p (([] : List (Int × Int)).length + 1 + ([] ++ [c1] : List Nat).length)) (wordI true bw false fr) = setW (setW (setW M (16 * t.root + p / 256) (tWd (some c1))) (16 * c1 + p / 16 % 16) (tWd (some c2))) (16 * c2 + p % 16) (pWd (some (fr, bw))) := rfl
    rw [hM]
    have hTab : ∀ f, isTab { tb with pg := updF tb.pg p (some (fr, bw)) } f ↔ isTab t f ∨ (f = c1 ∨ f = c2) := fun f => by
      rw [htb, hta]
      constructor
      · rintro (h | ⟨i, h⟩ | ⟨q, h⟩)
        · exact Or.inl (Or.inl h)
        · replace h : updF t.t1 (p / 256) (some c1) i = some f := h
          by_cases e : i = p / 256
          · rw [e, updF_same] at h; exact Or.inr (Or.inl (Option.some.inj h).symm)
          · rw [updF_ne _ _ e] at h; exact Or.inl (Or.inr (Or.inl ⟨i, h⟩))
        · replace h : updF t.t2 (p / 16) (some c2) q = some f := h
          by_cases e : q = p / 16
          · rw [e, updF_same] at h; exact Or.inr (Or.inr (Option.some.inj h).symm)
          · rw [updF_ne _ _ e] at h; exact Or.inl (Or.inr (Or.inr ⟨q, h⟩))
      · rintro ((h | ⟨i, h⟩ | ⟨q, h⟩) | (h | h))
        · exact Or.inl h
        · refine Or.inr (Or.inl ⟨i, ?_⟩)
          show updF t.t1 (p / 256) (some c1) i = some f
          rw [updF_ne _ _ (fun e => by rw [e, e1] at h; cases h)]; exact h
        · refine Or.inr (Or.inr ⟨q, ?_⟩)
          show updF t.t2 (p / 16) (some c2) q = some f
          rw [updF_ne _ _ (fun e => by rw [e, e2] at h; cases h)]; exact h
        · exact Or.inr (Or.inl ⟨p / 256, by rw [h]; exact updF_same _ _ _⟩)
        · exact Or.inr (Or.inr ⟨p / 16, by rw [h]; exact updF_same _ _ _⟩)
    have hap := Apart.of_new (t := t) (t' := { tb with pg := updF tb.pg p (some (fr, bw)) }) (T0 := T0) (T := minusQ (minusQ T0 c1 0) c2 0) (H0 := H0) (H := (H0 ++ [((c1 : Int), (0 : Int))]) ++ [((c2 : Int), (0 : Int))]) (M0 := M) (M := setW (setW (setW M (16 * t.root + p / 256) (tWd (some c1))) (16 * c1 + p / 16 % 16) (tWd (some c2))) (16 * c2 + p % 16) (pWd (some (fr, bw)))) (fun f => f = c1 ∨ f = c2) hh
      (fun f hf => by rcases hf with rfl | rfl; exact tc1; exact (minus0.1 tc2).1) (fun f hf => (minus0.1 (minus0.1 hf).1).1) (fun b => by
        rw [List.mem_append, List.mem_append, List.mem_singleton, List.mem_singleton]
        constructor
        · rintro ((h | h) | h)
          · exact Or.inl h
          · exact Or.inr ⟨c1, Or.inl rfl, h⟩
          · exact Or.inr ⟨c2, Or.inr rfl, h⟩
        · rintro (h | ⟨f, rfl | rfl, h⟩)
          · exact Or.inl (Or.inl h)
          · exact Or.inl (Or.inr h)
          · exact Or.inr h) hTab (fun f h1 h2 k hk => by
        rw [wd _ _ _ _ _ _ (fun e => h2 (by rw [e]; exact (minus0.1 tc2).1)) hk k2, wd _ _ _ _ _ _ (fun e => h2 (by rw [e]; exact tc1)) hk k1, wd _ _ _ _ _ _ (fun e => h1 (Or.inl e)) hk k0])
    refine ⟨{ tb with pg := updF tb.pg p (some (fr, bw)) }, ⟨⟨A3, fun i f hf => ?_, fun q f hf => ?_⟩, hg.inv hi, ?_, hap.2, by rw [htb, hta], hap.1⟩, by rw [htb, hta]⟩
    · replace hf : ta.t1 i = some f := by rw [htb] at hf; exact hf
      by_cases e : i = p / 256
      · exact ⟨p / 16 % 16, k1, c2, by show tb.t2 _ = _; rw [show 16 * i + p / 16 % 16 = p / 16 by omega]; exact b2⟩
      · rw [hta] at hf
        replace hf : updF t.t1 (p / 256) (some c1) i = some f := hf
        rw [updF_ne _ _ e] at hf
        obtain ⟨j, hj, y, hy⟩ := ht.dn1 i f hf
        refine ⟨j, hj, y, ?_⟩
        show tb.t2 _ = _
        rw [htb, hta]
        show updF t.t2 (p / 16) (some c2) _ = _
        rw [updF_ne _ _ (by omega)]; exact hy
    · by_cases e : q = p / 16
      · exact ⟨p % 16, k2, (fr, bw), by show updF tb.pg p _ _ = _; rw [show 16 * q + p % 16 = p by omega]; exact updF_same _ _ _⟩
      · replace hf : updF t.t2 (p / 16) (some c2) q = some f := by rw [htb, hta] at hf; exact hf
        rw [updF_ne _ _ e] at hf
        obtain ⟨k, hk, y, hy⟩ := ht.dn2 q f hf
        refine ⟨k, hk, y, ?_⟩
        show updF tb.pg p _ _ = _
        rw [updF_ne _ _ (by omega), htb, hta]; exact hy
    · refine zero_set (zero_set (zero_set (zero_minus (zero_minus hz c1 0) c2 0) ?_ k0 _) ?_ k1 _) ?_ k2 _
      · exact fun h => apart_T hi (hh _ (Or.inl rfl)) (minus0.1 (minus0.1 h).1).1
      · exact fun h => (minus0.1 (minus0.1 h).1).2 rfl
      · exact fun h => (minus0.1 h).2 rfl
  | some f1 =>
    have l1 := hw.lt1 _ _ e1
    have tf1 : isTab t f1 := Or.inr (Or.inl ⟨_, e1⟩)
    cases e2 : t.t2 (p / 16) with
    | none =>
      refine ⟨[((t.root : Int), ((p / 256 : Nat) : Int))], f1, p / 16 % 16, by unfold walkT; rw [e1]; simp [e2], by unfold walkT; rw [e1]; simp only [e2]; rfl, by simp, by unfold needT; rw [e1]; simp only [e2]; rfl, l1.2, k1, fun l T H E F K hg hl => ?_⟩
      rcases hg.last with ⟨rfl, _⟩ | ⟨l', T', H', c2, E', F', K', rfl, rfl, rfl, rfl, rfl, rfl, hc2, hg'⟩
      · simp at hl
      obtain rfl : l' = [] := List.eq_nil_of_length_eq_zero (by simp at hl; omega)
      obtain ⟨rfl, rfl, rfl, rfl, rfl⟩ := hg'.nil_eq
      have tc2 := hc2.free
      obtain ⟨n2, l2, z2⟩ := fresh c2 tc2
      have nf1 : c2 ≠ f1 := fun e => n2 (e ▸ tf1)
      have a1 : t.t1 (p / 16 / 16) = some f1 := by rw [hdd]; exact e1
      have A2 := hw.setT2 a1 e2 l2 n2 z2
      obtain ⟨tb, htb⟩ : ∃ tb : Tree, tb = { t with t2 := updF t.t2 (p / 16) (some c2) } := ⟨_, rfl⟩
      rw [← htb] at A2
      have b2 : tb.t2 (p / 16) = some c2 := by rw [htb]; exact updF_same _ _ _
      have A3 := A2.setPg b2 (some (fr, bw)) (fun y hy => by cases hy; exact hfr)
      have hM : setW (putsM M ([] ++ [(f1, p / 16 % 16, c2)])) (16 * c2 + idxN p (([((t.root : Int), ((p / 256 : Nat) : Int))] : List (Int × Int)).length + 1 + ([] : List Nat).length)) (wordI true bw false fr) = setW (setW M (16 * f1 + p / 16 % 16) (tWd (some c2))) (16 * c2 + p % 16) (pWd (some (fr, bw))) := rfl
      rw [hM]
      have hTab : ∀ f, isTab { tb with pg := updF tb.pg p (some (fr, bw)) } f ↔ isTab t f ∨ f = c2 := fun f => by
        rw [htb]
        constructor
        · rintro (h | ⟨i, h⟩ | ⟨q, h⟩)
          · exact Or.inl (Or.inl h)
          · exact Or.inl (Or.inr (Or.inl ⟨i, h⟩))
          · replace h : updF t.t2 (p / 16) (some c2) q = some f := h
            by_cases e : q = p / 16
            · rw [e, updF_same] at h; exact Or.inr (Option.some.inj h).symm
            · rw [updF_ne _ _ e] at h; exact Or.inl (Or.inr (Or.inr ⟨q, h⟩))
        · rintro ((h | ⟨i, h⟩ | ⟨q, h⟩) | h)
          · exact Or.inl h
          · exact Or.inr (Or.inl ⟨i, h⟩)
          · refine Or.inr (Or.inr ⟨q, ?_⟩)
            show updF t.t2 (p / 16) (some c2) q = some f
            rw [updF_ne _ _ (fun e => by rw [e, e2] at h; cases h)]; exact h
          · exact Or.inr (Or.inr ⟨p / 16, by rw [h]; exact updF_same _ _ _⟩)
      have hap := Apart.of_new (t := t) (t' := { tb with pg := updF tb.pg p (some (fr, bw)) }) (T0 := T0) (T := minusQ T0 c2 0) (H0 := H0) (H := H0 ++ [((c2 : Int), (0 : Int))]) (M0 := M) (M := setW (setW M (16 * f1 + p / 16 % 16) (tWd (some c2))) (16 * c2 + p % 16) (pWd (some (fr, bw)))) (fun f => f = c2) hh
        (fun f hf => by rw [hf]; exact tc2) (fun f hf => (minus0.1 hf).1) (fun b => by
          rw [List.mem_append, List.mem_singleton]
          constructor
          · rintro (h | h)
            · exact Or.inl h
            · exact Or.inr ⟨c2, rfl, h⟩
          · rintro (h | ⟨f, rfl, h⟩)
            · exact Or.inl h
            · exact Or.inr h) hTab (fun f h1 h2 k hk => by
          rw [wd _ _ _ _ _ _ (fun e => h2 (by rw [e]; exact tc2)) hk k2, wd _ _ _ _ _ _ (fun e => h1 (by rw [e]; exact tf1)) hk k1])
      refine ⟨{ tb with pg := updF tb.pg p (some (fr, bw)) }, ⟨⟨A3, fun i f hf => ?_, fun q f hf => ?_⟩, hg.inv hi, ?_, hap.2, by rw [htb], hap.1⟩, by rw [htb]⟩
      · replace hf : t.t1 i = some f := by rw [htb] at hf; exact hf
        obtain ⟨j, hj, y, hy⟩ := ht.dn1 i f hf
        refine ⟨j, hj, y, ?_⟩
        show tb.t2 _ = _
        rw [htb]
        show updF t.t2 (p / 16) (some c2) _ = _
        rw [updF_ne _ _ (fun e => by rw [e, e2] at hy; cases hy)]; exact hy
      · by_cases e : q = p / 16
        · exact ⟨p % 16, k2, (fr, bw), by show updF tb.pg p _ _ = _; rw [show 16 * q + p % 16 = p by omega]; exact updF_same _ _ _⟩
        · replace hf : updF t.t2 (p / 16) (some c2) q = some f := by rw [htb] at hf; exact hf
          rw [updF_ne _ _ e] at hf
          obtain ⟨k, hk, y, hy⟩ := ht.dn2 q f hf
          refine ⟨k, hk, y, ?_⟩
          show updF tb.pg p _ _ = _
          rw [updF_ne _ _ (by omega), htb]; exact hy
      · refine zero_set (zero_set (zero_minus hz c2 0) ?_ k1 _) ?_ k2 _
        · exact fun h => apart_T hi (hh _ tf1) (minus0.1 h).1
        · exact fun h => (minus0.1 h).2 rfl
    | some f2 =>
      have l2 := hw.lt2 _ _ e2
      have tf2 : isTab t f2 := Or.inr (Or.inr ⟨_, e2⟩)
      refine ⟨[((t.root : Int), ((p / 256 : Nat) : Int)), ((f1 : Int), ((p / 16 % 16 : Nat) : Int))], f2, p % 16, by unfold walkT; rw [e1]; simp [e2, e3], by unfold walkT; rw [e1]; simp only [e2, e3]; rfl, by simp, by unfold needT; rw [e1]; simp only [e2]; rfl, l2.2, k2, fun l T H E F K hg hl => ?_⟩
      obtain rfl : l = [] := List.eq_nil_of_length_eq_zero (by simp only [List.length_cons, List.length_nil] at hl; omega)
      obtain ⟨rfl, rfl, rfl, rfl, rfl⟩ := hg.nil_eq
      have A3 := hw.setPg e2 (some (fr, bw)) (fun y hy => by cases hy; exact hfr)
      have hM : setW (putsM M []) (16 * f2 + p % 16) (wordI true bw false fr) = setW M (16 * f2 + p % 16) (pWd (some (fr, bw))) := rfl
      rw [hM]
      have hap := Apart.of_new (t := t) (t' := { t with pg := updF t.pg p (some (fr, bw)) }) (T0 := T0) (T := T0) (H0 := H0) (H := H0) (M0 := M) (M := setW M (16 * f2 + p % 16) (pWd (some (fr, bw)))) (fun _ => False) hh
        (fun f hf => hf.elim) (fun f hf => hf) (fun b => by simp) (fun f => by simp [isTab]) (fun f h1 h2 k hk => by
          rw [wd _ _ _ _ _ _ (fun e => h1 (by rw [e]; exact tf2)) hk k2])
      refine ⟨{ t with pg := updF t.pg p (some (fr, bw)) }, ⟨⟨A3, ht.dn1, fun q f hf => ?_⟩, hi, zero_set hz (apart_T hi (hh _ tf2)) k2 _, hap.2, rfl, hap.1⟩, rfl⟩
      by_cases e : q = p / 16
      · exact ⟨p % 16, k2, (fr, bw), by show updF t.pg p _ _ = _; rw [show 16 * q + p % 16 = p by omega]; exact updF_same _ _ _⟩
      · obtain ⟨k, hk, y, hy⟩ := ht.dn2 q f hf
        exact ⟨k, hk, y, by show updF t.pg p _ _ = _; rw [updF_ne _ _ (by omega)]; exact hy⟩

end Go.Proofs.Yteehghjdifbjbaa

namespace Go.Proofs.Yteehghjdifbjbaa
set_option linter.unusedSimpArgs false
set_option linter.unusedVariables false
set_option maxRecDepth 100000
open Go.RowKit
set_option maxHeartbeats 4000000

/-- A space in a world, and what stays true of it. -/
structure SpSt (g : World) (ps pm pb r0 n : Nat) (t : Tree) (T : Nat → Prop) (H : List Blk) (M : Nat → Int) (R : HP) (w : World) : Prop where
  tree : TreeN n M t
  inv : InvB r0 n T H
  zero : ZeroF T M
  held : HeldT t H
  n256 : n ≤ 256
  sat : Sat g w (spP ps pm pb t.root * (midP pb pm T H * (memP pm n M * R)))
theorem SpSt.below {g : World} {ps pm pb r0 n : Nat} {t : Tree} {T : Nat → Prop} {H : List Blk} {M : Nat → Int} {R : HP} {w w' : World} (h : SpSt g ps pm pb r0 n t T H M R w) (hb : Below w.heap.size w w') : SpSt g ps pm pb r0 n t T H M R w' :=
  { h with sat := h.sat.below hb }
theorem SpSt.of {g : World} {ps pm pb r0 n : Nat} {t t' : Tree} {T T' : Nat → Prop} {H H' : List Blk} {M M' : Nat → Int} {R : HP} {w w' : World} (h : SpSt g ps pm pb r0 n t T H M R w) (ha : After r0 n t T H M t' T' H' M') (hs : Sat g w' (spP ps pm pb t.root * (midP pb pm T' H' * (memP pm n M' * R)))) : SpSt g ps pm pb r0 n t' T' H' M' R w' :=
  ⟨ha.tree, ha.inv, ha.zero, ha.held, h.n256, by rw [ha.root]; exact hs⟩

inductive MapT (g : World) (ps pm pb r0 n : Nat) (t : Tree) (T : Nat → Prop) (H : List Blk) (M : Nat → Int) (R : HP) (p fr : Int) (bw : Bool) (e : Ending) (w' : World) : Prop
  | no (k : Int) (hk : k ≠ 0) (hbad : (k = 1 ∧ ¬ ((0 ≤ p ∧ p < 4096) ∧ (0 ≤ fr ∧ fr < n))) ∨ (k = 4 ∧ ∃ q x, p = ((q : Nat) : Int) ∧ t.pg q = some x) ∨ (k = 6 ∧ ∃ q, p = ((q : Nat) : Int) ∧ t.pg q = none ∧ cnt T 256 < needT t q)) (he : e = .returned (.int .i64 k)) (hs : SpSt g ps pm pb r0 n t T H M R w')
  | ok (q f : Nat) (t' : Tree) (T' : Nat → Prop) (H' : List Blk) (M' : Nat → Int) (hp : p = q) (hf : fr = f) (hq : q < 4096) (hx : t.pg q = none) (ha : After r0 n t T H M t' T' H' M') (hpg : t'.pg = updF t.pg q (some (f, bw))) (he : e = .returned (.int .i64 0)) (hs : SpSt g ps pm pb r0 n t' T' H' M' R w')
theorem s_mapT (g : World) (ps pm pb r0 n : Nat) (t : Tree) (T : Nat → Prop) (H : List Blk) (M : Nat → Int) (R : HP) (w : World) (p fr : Int) (bw : Bool) (h : SpSt g ps pm pb r0 n t T H M R w) :
    Calls Try.prog 34 #[.pointer (some ⟨ps, 0, none⟩), .int .i64 p, .int .i64 fr, .bool bw] w (MapT g ps pm pb r0 n t T H M R p fr bw) := by
  have S := h.sat.perm (show _ = spP ps pm pb t.root * (memP pm n M * (midP pb pm T H * R)) by ac_rfl)
  by_cases hb : (0 ≤ p ∧ p < 4096) ∧ (0 ≤ fr ∧ fr < n)
  · obtain ⟨q, rfl⟩ := Int.eq_ofNat_of_zero_le hb.1.1
    obtain ⟨f, rfl⟩ := Int.eq_ofNat_of_zero_le hb.2.1
    have hq : q < 4096 := by omega
    have hf : f < n := by omega
    have hwt := walk_tree h.tree.w h.n256 q hq
    cases e3 : t.pg q with
    | some x =>
      have he0 : (walkT t q).e = 0 := by
        obtain ⟨f2, e2⟩ := h.tree.w.upp _ _ e3
        obtain ⟨f1, e1⟩ := h.tree.w.up2 _ _ e2
        rw [show q / 16 / 16 = q / 256 by omega] at e1
        unfold walkT; rw [e1]; simp only [e2, e3]
      exact (s_map_twice ps pm pb t.root n q f M bw g w _ S _ hwt he0 hq hf).mono fun e w' ⟨he, hs⟩ => .no 4 (by omega) (Or.inr (Or.inl ⟨rfl, q, x, rfl, e3⟩)) he { h with sat := hs.perm (by ac_rfl) }
    | none =>
      obtain ⟨d, F0, K0, h1, h2, h3, h3', h4, h5, h6⟩ := map_after bw h.tree h.inv h.zero h.held hq e3 hf
      refine (s_map ps pm pb t.root r0 n q f T H M F0 K0 (idxN q) d bw g w R h.sat _ hwt h1 h2 h3 hq hf h.n256 h.inv h.zero h4 h5 (idxN_eq q) (idxN_lt q hq)).mono fun e w' hp => ?_
      cases hp with
      | full l T2 H2 E F K hg hl hn he hs =>
        have h7 := hg.cnt h.inv h.n256
        have h8 : cnt T2 256 = 0 := cnt_zero 256 (fun x _ => hn x)
        rw [h8] at h7
        exact .no 6 (by omega) (Or.inr (Or.inr ⟨rfl, q, rfl, e3, by omega⟩)) he { h with sat := hs }
      | ok l T2 H2 E F K hg hl he hs =>
        obtain ⟨t', ha, hpg⟩ := h6 l T2 H2 E F K hg hl
        exact .ok q f t' _ _ _ rfl rfl hq e3 ha hpg he (h.of ha hs)
  · exact (s_map_arg ps pm pb t.root n M p fr bw g w _ S hb).mono fun e w' ⟨he, hw⟩ => .no 1 (by omega) (Or.inl ⟨rfl, hb⟩) he (h.below hw)

inductive UnmapT (g : World) (ps pm pb r0 n : Nat) (t : Tree) (T : Nat → Prop) (H : List Blk) (M : Nat → Int) (R : HP) (p : Int) (e : Ending) (w' : World) : Prop
  | no (k : Int) (hk : k ≠ 0) (hx : ∀ q : Nat, p = q → t.pg q = none) (hk2 : (k = 1 ∧ ¬ (0 ≤ p ∧ p < 4096)) ∨ k = 10) (he : e = .returned (.tuple #[.int .i64 0, .int .i64 k])) (hs : SpSt g ps pm pb r0 n t T H M R w')
  | ok (q : Nat) (x : Nat × Bool) (t' : Tree) (T' : Nat → Prop) (H' : List Blk) (M' : Nat → Int) (hp : p = q) (hq : q < 4096) (hx : t.pg q = some x) (ha : After r0 n t T H M t' T' H' M') (hpg : t'.pg = updF t.pg q none) (he : e = .returned (.tuple #[.int .i64 x.1, .int .i64 0])) (hs : SpSt g ps pm pb r0 n t' T' H' M' R w')
theorem walk_none {n : Nat} {M : Nat → Int} {t : Tree} (h : TreeW n M t) {q : Nat} (e3 : t.pg q = none) : (walkT t q).e = 10 := by
  unfold walkT
  cases e1 : t.t1 (q / 256) with
  | none => rfl
  | some f1 =>
    simp only
    cases e2 : t.t2 (q / 16) with
    | none => rfl
    | some f2 => simp only [e3]
theorem walk_some {n : Nat} {M : Nat → Int} {t : Tree} (h : TreeW n M t) {q : Nat} {x : Nat × Bool} (e3 : t.pg q = some x) : ∃ f1 f2, t.t1 (q / 256) = some f1 ∧ t.t2 (q / 16) = some f2 ∧ walkT t q = ⟨true, x.2, false, x.1, [((t.root : Int), ((q / 256 : Nat) : Int)), ((f1 : Int), ((q / 16 % 16 : Nat) : Int)), ((f2 : Int), ((q % 16 : Nat) : Int))], 0⟩ := by
  obtain ⟨f2, e2⟩ := h.upp _ _ e3
  obtain ⟨f1, e1⟩ := h.up2 _ _ e2
  rw [show q / 16 / 16 = q / 256 by omega] at e1
  exact ⟨f1, f2, e1, e2, by unfold walkT; rw [e1]; simp only [e2, e3]⟩
theorem pg_lt {n : Nat} {M : Nat → Int} {t : Tree} (h : TreeW n M t) {p : Int} (hp : ¬ (0 ≤ p ∧ p < 4096)) : ∀ q : Nat, p = q → t.pg q = none := fun q e => by
  cases e3 : t.pg q with
  | none => rfl
  | some x => have := (h.ltp _ _ e3).1; omega
theorem pg_of {t : Tree} {q q' : Nat} (e : (q : Int) = (q' : Int)) (h : t.pg q = none) : t.pg q' = none := by
  have : q' = q := by omega
  rw [this]; exact h
theorem s_unmapT (g : World) (ps pm pb r0 n : Nat) (t : Tree) (T : Nat → Prop) (H : List Blk) (M : Nat → Int) (R : HP) (w : World) (p : Int) (h : SpSt g ps pm pb r0 n t T H M R w) :
    Calls Try.prog 38 #[.pointer (some ⟨ps, 0, none⟩), .int .i64 p] w (UnmapT g ps pm pb r0 n t T H M R p) := by
  have S := h.sat.perm (show _ = spP ps pm pb t.root * (memP pm n M * (midP pb pm T H * R)) by ac_rfl)
  by_cases hb : 0 ≤ p ∧ p < 4096
  · obtain ⟨q, rfl⟩ := Int.eq_ofNat_of_zero_le hb.1
    have hq : q < 4096 := by omega
    have hwt := walk_tree h.tree.w h.n256 q hq
    cases e3 : t.pg q with
    | none =>
      have he := walk_none h.tree.w e3
      exact (s_unmap_no ps pm pb t.root n M q g w _ S _ hwt (by rw [he]; omega)).mono fun e w' ⟨h1, h2⟩ => .no 10 (by omega) (fun q' e => pg_of e e3) (Or.inr rfl) (by rw [h1, he]) (h.below h2)
    | some x =>
      obtain ⟨f1, f2, e1, e2, ew⟩ := walk_some h.tree.w e3
      rw [ew] at hwt
      obtain ⟨I, hT, h0⟩ := unmap_takes h.tree h.inv h.zero h.held e1 e2 e3
      exact (s_unmap_yes ps pm pb t.root r0 n x.1 T H M q x.2 _ _ I _ hT h0 g w R h.sat hwt).mono fun e w' ⟨he, T', H', M', ⟨t', ha, hpg⟩, hs⟩ => .ok q x t' T' H' M' rfl hq e3 ha hpg he (h.of ha hs)
  · exact (s_unmap_no ps pm pb t.root n M p g w _ S _ (walk_bad hb) (by simp)).mono fun e w' ⟨h1, h2⟩ => .no 1 (by omega) (pg_lt h.tree.w hb) (Or.inl ⟨rfl, hb⟩) h1 (h.below h2)

inductive ProtT (g : World) (ps pm pb r0 n : Nat) (t : Tree) (T : Nat → Prop) (H : List Blk) (M : Nat → Int) (R : HP) (p : Int) (bw : Bool) (e : Ending) (w' : World) : Prop
  | no (k : Int) (hk : k ≠ 0) (hx : ∀ q : Nat, p = q → t.pg q = none) (he : e = .returned (.int .i64 k)) (hs : SpSt g ps pm pb r0 n t T H M R w')
  | ok (q : Nat) (x : Nat × Bool) (t' : Tree) (M' : Nat → Int) (hp : p = q) (hq : q < 4096) (hx : t.pg q = some x) (ha : After r0 n t T H M t' T H M') (hpg : t'.pg = updF t.pg q (some (x.1, bw))) (he : e = .returned (.int .i64 0)) (hs : SpSt g ps pm pb r0 n t' T H M' R w')
theorem s_protT (g : World) (ps pm pb r0 n : Nat) (t : Tree) (T : Nat → Prop) (H : List Blk) (M : Nat → Int) (R : HP) (w : World) (p : Int) (bw : Bool) (h : SpSt g ps pm pb r0 n t T H M R w) :
    Calls Try.prog 39 #[.pointer (some ⟨ps, 0, none⟩), .int .i64 p, .bool bw] w (ProtT g ps pm pb r0 n t T H M R p bw) := by
  have S := h.sat.perm (show _ = spP ps pm pb t.root * (memP pm n M * (midP pb pm T H * R)) by ac_rfl)
  by_cases hb : 0 ≤ p ∧ p < 4096
  · obtain ⟨q, rfl⟩ := Int.eq_ofNat_of_zero_le hb.1
    have hq : q < 4096 := by omega
    have hwt := walk_tree h.tree.w h.n256 q hq
    cases e3 : t.pg q with
    | none =>
      have he := walk_none h.tree.w e3
      exact (s_protect_no ps pm pb t.root n M q bw g w _ S _ hwt (by rw [he]; omega)).mono fun e w' ⟨h1, h2⟩ => .no 10 (by omega) (fun q' e => pg_of e e3) (by rw [h1, he]) (h.below h2)
    | some x =>
      obtain ⟨f1, f2, e1, e2, ew⟩ := walk_some h.tree.w e3
      rw [ew] at hwt
      have l2 := h.tree.w.lt2 _ _ e2
      have lp := h.tree.w.ltp _ _ e3
      have hn := h.n256
      have tf2 : isTab t f2 := Or.inr (Or.inr ⟨_, e2⟩)
      have k2 : q % 16 < 16 := by omega
      have A3 := h.tree.w.setPg e2 (some (x.1, bw)) (fun y hy => by cases hy; exact lp.2)
      have hap := Apart.of_new (t := t) (t' := { t with pg := updF t.pg q (some (x.1, bw)) }) (T0 := T) (T := T) (H0 := H) (H := H) (M0 := M) (M := setW M (16 * f2 + q % 16) (pWd (some (x.1, bw)))) (fun _ => False) h.held
        (fun f hf => hf.elim) (fun f hf => hf) (fun b => by simp) (fun f => by simp [isTab]) (fun f h1 h2 k hk => setW_ne _ _ (fun e => h1 (by
          have : f = f2 := by omega
          rw [this]; exact tf2)))
      have ha : After r0 n t T H M { t with pg := updF t.pg q (some (x.1, bw)) } T H (setW M (16 * f2 + q % 16) (pWd (some (x.1, bw)))) := by
        refine ⟨⟨A3, h.tree.dn1, fun i f hf => ?_⟩, h.inv, zero_set h.zero (apart_T h.inv (h.held _ tf2)) k2 _, hap.2, rfl, hap.1⟩
        by_cases e : i = q / 16
        · exact ⟨q % 16, k2, (x.1, bw), by show updF t.pg q _ _ = _; rw [show 16 * i + q % 16 = q by omega]; exact updF_same _ _ _⟩
        · obtain ⟨k, hk, y, hy⟩ := h.tree.dn2 i f hf
          exact ⟨k, hk, y, by show updF t.pg q _ _ = _; rw [updF_ne _ _ (by omega)]; exact hy⟩
      exact (s_protect_yes ps pm pb t.root n f2 (q % 16) x.1 M q bw x.2 [((t.root : Int), ((q / 256 : Nat) : Int)), ((f1 : Int), ((q / 16 % 16 : Nat) : Int))] g w _ S hwt (by simp) l2.2 k2 (right_pg bw (by omega))).mono fun e w' ⟨he, hs⟩ => .ok q x _ _ rfl hq e3 ha rfl he (h.of ha (hs.perm (by ac_rfl)))
  · exact (s_protect_no ps pm pb t.root n M p bw g w _ S _ (walk_bad hb) (by simp)).mono fun e w' ⟨h1, h2⟩ => .no 1 (by omega) (pg_lt h.tree.w hb) h1 (h.below h2)

/-- What Find tells. -/
def findE (t : Tree) (p : Int) : Int := if 0 ≤ p ∧ p < 4096 then (walkT t p.toNat).e else 1
theorem s_newT (pm pb r0 n : Nat) (T : Nat → Prop) (H : List Blk) (M : Nat → Int) (g w : World) (R : HP) (h : Sat g w (midP pb pm T H * (memP pm n M * R))) (hi : InvB r0 n T H) (hz : ZeroF T M) (hn : n ≤ 256) :
    Calls Try.prog 31 #[.pointer (some ⟨pm, 0, none⟩), .pointer (some ⟨pb, 0, none⟩)] w fun e w' =>
      (e = .returned (.tuple #[.pointer none, .int .i64 6]) ∧ (∀ c, ¬ T c) ∧ Sat g w' (midP pb pm T H * (memP pm n M * R))) ∨
      ∃ ps c, e = .returned (.tuple #[.pointer (some ⟨ps, 0, none⟩), .int .i64 0]) ∧ NextF T c ∧ SpSt g ps pm pb r0 n ⟨c, fun _ => none, fun _ => none, fun _ => none⟩ (minusQ T c 0) (H ++ [((c : Int), (0 : Int))]) M R w' := by
  refine (s_newsp pm pb r0 n T H g w _ h hi).mono fun e w' hp => ?_
  rcases hp with ⟨h1, h2, h3⟩ | ⟨ps, c, h1, h2, h3⟩
  · exact Or.inl ⟨h1, h2, h3⟩
  · have hc := h2.free
    have hi2 := inv_alloc hi (c := c) (o := 0) (by omega) (full0.2 hc)
    rw [Nat.pow_zero, Nat.mul_one] at hi2
    refine Or.inr ⟨ps, c, h1, h2, ⟨⟨⟨inv_T hi c hc, ?_, ?_, ?_, ?_, ?_, ?_, ?_, ?_, ?_, ?_, fun k hk => hz c hc _ (Nat.le_add_right _ _) (by show 16 * c + k < 16 * (c + 1); omega), ?_, ?_⟩, ?_, ?_⟩, hi2, zero_minus hz c 0, fun f hf => ?_, hn, h3⟩⟩
    rotate_right
    · rcases hf with h | ⟨i, h⟩ | ⟨i, h⟩
      · rw [h]; exact List.mem_append_right _ (List.mem_singleton.2 rfl)
      · cases h
      · cases h
    all_goals first | (intro a b hb; cases hb; done) | (intro a b c hb; cases hb; done)

end Go.Proofs.Yteehghjdifbjbaa
