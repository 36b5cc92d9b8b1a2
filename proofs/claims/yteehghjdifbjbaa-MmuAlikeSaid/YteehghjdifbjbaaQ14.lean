/- Part 14 of the proofs: Sp2, Sp3, Sp4. -/
import Derived.Test.YteehghjdifbjbaaQ13
import Derived.Test.YteehghjdifbjbaaQ10
namespace Go.Proofs.Yteehghjdifbjbaa
set_option linter.unusedSimpArgs false
set_option linter.unusedVariables false
set_option maxRecDepth 100000
open Go.RowKit
set_option maxHeartbeats 4000000

theorem put_nat {M : Nat → Int} {n f k : Nat} (hf : f < n) (hk : k < 16) {v wr tb : Bool} {fr : Int} (hr : rightB v wr tb fr = true) : putE n f k v wr tb fr = 0 ∧ putW M n f k v wr tb fr = setW M (16 * f + k) (wordI v wr tb fr) := by
  have h := inT_nat hf hk
  unfold putE putW
  rw [if_pos ⟨h, hr⟩, if_pos ⟨h, hr⟩, at_nat]
  exact ⟨rfl, rfl⟩
theorem word_none : wordI false false false 0 = 0 := by decide
theorem right_none : rightB false false false 0 = true := by decide
/-- What a Walk has left in the variables, as a part of its own. -/
theorem walkCut_part {g w wx : World} {P : HP} {Q : WRes} {s v e : Value} (h : Sat g w P) (hc : WalkCut w Q s v e wx) :
    ∃ (K : HP) (be : Nat) (a : Option Addr) (cap : Nat), s = .pointer (some ⟨be, 0, none⟩) ∧ v = .slice a Q.st.length cap ∧ e = .int .i64 Q.e ∧ Sat g wx (K * P) ∧ ∀ w2 P', Sat g w2 (K * P') → EnAt w2 be Q.v Q.wr Q.tb Q.fr ∧
      (Q.st = [] ∨ ∃ gb, a = some ⟨gb, 0, none⟩ ∧ ∀ i (_ : i < Q.st.length), w2.cell? ⟨gb, i * 2, none⟩ = some (.int .i64 Q.st[i].1) ∧ w2.cell? ⟨gb, i * 2 + 1, none⟩ = some (.int .i64 Q.st[i].2)) := by
  obtain ⟨be, rfl, rfl, hbe, he, ho, hb, _⟩ := hc
  have hbc := blk_cells (L := Q.st) ho
  obtain ⟨a, cap, rfl⟩ := own_slice ho
  refine ⟨ownP (fun k => k = be ∨ (Value.slice a Q.st.length cap).ownBlock = some k) (fun w => w.heap[be]? = wx.heap[be]? ∧ ∀ k, (Value.slice a Q.st.length cap).ownBlock = some k → w.heap[k]? = wx.heap[k]?), be, a, cap, rfl, rfl, rfl, h.new hb ⟨rfl, fun _ _ => rfl⟩ (fun w1 w2 h1 h2 => ⟨(h2 be (Or.inl rfl)).trans h1.1, fun k hk => (h2 k (Or.inr hk)).trans (h1.2 k hk)⟩) (fun k hk => ?_) (fun k hk => ?_), fun w2 P' h2 => ?_⟩
  · rcases hk with rfl | hk
    · exact hbe
    · exact (World.ownsRow.lt ho k hk).1
  · rcases hk with rfl | hk
    · exact he.lt
    · exact (World.ownsRow.lt ho k hk).2
  · obtain ⟨i1, i2⟩ := h2.inv
    refine ⟨he.heap i1, ?_⟩
    rcases hbc with h0 | ⟨gb, cap', hv, hgl, _, hcell⟩
    · exact Or.inl h0
    · simp only [Value.slice.injEq] at hv
      obtain ⟨rfl, -, rfl⟩ := hv
      have e := i2 gb rfl
      exact Or.inr ⟨gb, rfl, fun i hi => ⟨(cell_of_heap e _).trans (hcell i hi).1, (cell_of_heap e _).trans (hcell i hi).2⟩⟩
theorem EnAt.set1 {w : World} {b : Nat} {v wr tb : Bool} {fr : Int} (h : EnAt w b v wr tb fr) (x : Bool) : EnAt (w.setCell ⟨b, 1, none⟩ (.bool x)) b v x tb fr := by
  have c0 := h.c0; have c1 := h.c1; have c2 := h.c2; have c3 := h.c3; have f0 := h.f0; have f1 := h.f1; have f2 := h.f2; have f3 := h.f3; have lt := h.lt
  exact ⟨by simp [go_sem, c0], by simp [go_sem, c1], by simp [go_sem, c2], by simp [go_sem, c3], by simp [go_sem, f0], by simp [go_sem, f1], by simp [go_sem, f2], by simp [go_sem, f3], by simpa using lt⟩
theorem s_blank (pm n : Nat) (M : Nat → Int) (f : Nat) (g w : World) (R : HP) (h : Sat g w (memP pm n M * R)) :
    Calls Try.prog 72 #[.pointer (some ⟨pm, 0, none⟩), .int .i64 f] w fun e w' => e = .returned (.bool (blankB M n f)) ∧ Below w.heap.size w w' := by
  obtain ⟨bk, hm, _⟩ := h.mem
  exact blank_any pm bk n M f w hm

theorem s_protect_no (ps pm pb r n : Nat) (M : Nat → Int) (p : Int) (wr : Bool) (g w : World) (R : HP) (h : Sat g w (spP ps pm pb r * (memP pm n M * R))) (Q : WRes) (hQ : walkM M n r p = Q) (he : Q.e ≠ 0) :
    Calls Try.prog 39 #[.pointer (some ⟨ps, 0, none⟩), .int .i64 p, .bool wr] w fun e w' => e = .returned (.int .i64 Q.e) ∧ Below w.heap.size w w' := by
  have HW : Hid (∀ w', Below w.heap.size w w' → Calls Try.prog 66 #[.pointer (some ⟨pm, 0, none⟩), .int .i64 r, .int .i64 p] w' fun e w2 => ∃ v, e = .returned (.tuple #[.agg #[.bool Q.v, .bool Q.wr, .bool Q.tb, .int .i64 Q.fr], v, .int .i64 Q.e]) ∧ w2.ownsRow w'.heap.size 140 2 v Q.st.length (wCells Q.st) ∧ Below w'.heap.size w' w2) := Lib.hid fun w' hb => s_walk pm n M r p g w' _ (h.below hb).swap Q hQ
  have hs := h.sp
  have hS : ∀ w', Below w.heap.size w w' → w'.cell? ⟨ps, 0, none⟩ = some (.pointer (some ⟨pm, 0, none⟩)) ∧ w'.cell? ⟨ps, 2, none⟩ = some (.int .i64 r) := fun w' hb => ⟨keep hb hs.lt hs.c0, keep hb hs.lt hs.c2⟩
  have g0 : (Q.e != 0) = true := by simpa using he
  clear hQ
  go_enter Try.func39, Try.ntmps39
  go_upto_region 1 with (fail)
  go_cut [7, 8, 9] (fun s6 s7 s8 wx => WalkCut w Q s6 s7 s8 wx)
  case first =>
    go_region_held3 (fun w' => w'.cell? ⟨ps, 0, none⟩ = some (.pointer (some ⟨pm, 0, none⟩)) ∧ w'.cell? ⟨ps, 2, none⟩ = some (.int .i64 r)) (exact hS _ (by repeat (first | with_reducible exact Below.refl _ _ | with_reducible assumption | with_reducible refine below_drewN ?_ _ | with_reducible refine Below.drew ?_ | with_reducible refine Below.setCell ?_ (by first | omega | (simp <;> omega)) _ | with_reducible refine Below.alloc ?_ (by first | omega | (simp <;> omega)) _))) ((go_at_call 66; refine (HW.out _ (by repeat (first | with_reducible exact Below.refl _ _ | with_reducible assumption | with_reducible refine below_drewN ?_ _ | with_reducible refine Below.drew ?_ | with_reducible refine Below.setCell ?_ (by first | omega | (simp <;> omega)) _ | with_reducible refine Below.alloc ?_ (by first | omega | (simp <;> omega)) _))).mono ?_; rintro e w3 ⟨v, rfl, hown3, hb3'⟩; first | (have hb4 := un_drew hb3'; have he := (EnAt.new w false false false 0 34).below hb4 (by simp); have hb3 : Below w.heap.size w w3 := (Below.alloc (Below.refl _ _) (Nat.le_refl _) _).trans (hb4.mono (by simp)); have hs3 := hb3.size; have g0 := he.c0; have g1 := he.c1; have g2 := he.c2; have g3 := he.c3; have g4 := he.f0; have g5 := he.f1; have g6 := he.f2; have g7 := he.f3) | (have hb3 : Below w.heap.size w w3 := un_drew hb3'; have hs3 := hb3.size)))
    · go_wp2_with (fail)
      go_meet
      exact walkCut_new (by simp) hown3 hb3
    · go_wp2_with (fail)
      go_meet
      exact walkCut_put (by simp) hown3 he hb3
  case rest =>
    obtain ⟨be, rfl, rfl, hbe, he, _, hb, _⟩ := hcut
    go_wp2_with (fail)
    go_ret
    exact ⟨rfl, hb⟩

theorem s_protect_yes (ps pm pb r n f2 k2 fr : Nat) (M : Nat → Int) (p : Int) (wr w0 : Bool) (d : List (Int × Int)) (g w : World) (R : HP) (h : Sat g w (spP ps pm pb r * (memP pm n M * R))) (hQ : walkM M n r p = ⟨true, w0, false, fr, d ++ [((f2 : Int), (k2 : Int))], 0⟩) (hd : d.length ≤ 5)
    (hf : f2 < n) (hk : k2 < 16) (hr : rightB true wr false fr = true) :
    Calls Try.prog 39 #[.pointer (some ⟨ps, 0, none⟩), .int .i64 p, .bool wr] w fun e w' => e = .returned (.int .i64 0) ∧ Sat g w' (spP ps pm pb r * (memP pm n (setW M (16 * f2 + k2) (wordI true wr false fr)) * R)) := by
  obtain ⟨Q, hQQ⟩ : ∃ Q, Q = (⟨true, w0, false, fr, d ++ [((f2 : Int), (k2 : Int))], 0⟩ : WRes) := ⟨_, rfl⟩
  rw [← hQQ] at hQ
  have HW : Hid (∀ w', Below w.heap.size w w' → Calls Try.prog 66 #[.pointer (some ⟨pm, 0, none⟩), .int .i64 r, .int .i64 p] w' fun e w2 => ∃ v, e = .returned (.tuple #[.agg #[.bool Q.v, .bool Q.wr, .bool Q.tb, .int .i64 Q.fr], v, .int .i64 Q.e]) ∧ w2.ownsRow w'.heap.size 140 2 v Q.st.length (wCells Q.st) ∧ Below w'.heap.size w' w2) := Lib.hid fun w' hb => s_walk pm n M r p g w' _ (h.below hb).swap Q hQ
  have hs := h.sp
  have hS : ∀ w', Below w.heap.size w w' → w'.cell? ⟨ps, 0, none⟩ = some (.pointer (some ⟨pm, 0, none⟩)) ∧ w'.cell? ⟨ps, 2, none⟩ = some (.int .i64 r) := fun w' hb => ⟨keep hb hs.lt hs.c0, keep hb hs.lt hs.c2⟩
  have HQ := Lib.hid hQQ
  clear hQ hQQ
  go_enter Try.func39, Try.ntmps39
  go_upto_region 1 with (fail)
  go_cut [7, 8, 9] (fun s6 s7 s8 wx => WalkCut w Q s6 s7 s8 wx)
  case first =>
    go_region_held3 (fun w' => w'.cell? ⟨ps, 0, none⟩ = some (.pointer (some ⟨pm, 0, none⟩)) ∧ w'.cell? ⟨ps, 2, none⟩ = some (.int .i64 r)) (exact hS _ (by repeat (first | with_reducible exact Below.refl _ _ | with_reducible assumption | with_reducible refine below_drewN ?_ _ | with_reducible refine Below.drew ?_ | with_reducible refine Below.setCell ?_ (by first | omega | (simp <;> omega)) _ | with_reducible refine Below.alloc ?_ (by first | omega | (simp <;> omega)) _))) ((go_at_call 66; refine (HW.out _ (by repeat (first | with_reducible exact Below.refl _ _ | with_reducible assumption | with_reducible refine below_drewN ?_ _ | with_reducible refine Below.drew ?_ | with_reducible refine Below.setCell ?_ (by first | omega | (simp <;> omega)) _ | with_reducible refine Below.alloc ?_ (by first | omega | (simp <;> omega)) _))).mono ?_; rintro e w3 ⟨v, rfl, hown3, hb3'⟩; first | (have hb4 := un_drew hb3'; have he := (EnAt.new w false false false 0 34).below hb4 (by simp); have hb3 : Below w.heap.size w w3 := (Below.alloc (Below.refl _ _) (Nat.le_refl _) _).trans (hb4.mono (by simp)); have hs3 := hb3.size; have g0 := he.c0; have g1 := he.c1; have g2 := he.c2; have g3 := he.c3; have g4 := he.f0; have g5 := he.f1; have g6 := he.f2; have g7 := he.f3) | (have hb3 : Below w.heap.size w w3 := un_drew hb3'; have hs3 := hb3.size)))
    · go_wp2_with (fail)
      go_meet
      exact walkCut_new (by simp) hown3 hb3
    · go_wp2_with (fail)
      go_meet
      exact walkCut_put (by simp) hown3 he hb3
  case rest =>
    have hQ := HQ.out
    subst hQ
    obtain ⟨be, rfl, rfl, hbe, he, ho, hb, hne⟩ := hcut
    have hbc := blk_cells (L := d ++ [((f2 : Int), (k2 : Int))]) ho
    obtain ⟨a, cap, rfl⟩ := own_slice ho
    have hl : (d ++ [((f2 : Int), (k2 : Int))]).length = d.length + 1 := by simp
    rcases hbc with h0 | ⟨gb, cap', hv, hgl, _, hcell⟩
    · simp at h0
    simp only [Value.slice.injEq] at hv
    obtain ⟨rfl, -, rfl⟩ := hv
    obtain ⟨c0, c1⟩ := hcell d.length (by omega)
    simp only [List.getElem_append_right (Nat.le_refl _), Nat.sub_self, List.getElem_singleton] at c0 c1
    have hge : gb ≠ be := fun e => hne (by rw [e]; rfl)
    have hge' : be ≠ gb := fun e => hge e.symm
    simp only [hl]
    have hw1 : IntKind.i64.wrap (((d.length + 1 : Nat) : Int) - 1) = (d.length : Int) := by rw [IntWalk.i64_in _ ⟨by omega, by omega⟩]; omega
    have hw1' : IntKind.i64.wrap ((d.length : Int) + 1 - 1) = (d.length : Int) := by rw [IntWalk.i64_in _ ⟨by omega, by omega⟩]; omega
    have il : (d.length : Int) < ((d.length + 1 : Nat) : Int) := by omega
    have il' : (d.length : Int) < (d.length : Int) + 1 := by omega
    have y1 := he.c1; have z1 := he.f1
    clear hcell ho hne hl HW hS
    go_upto_region 6 with (fail)
    obtain ⟨w2, hw2⟩ : ∃ w2, w2 = ((wc.setCell ⟨be, 1, none⟩ (.bool wr)).alloc (.cells #[.int .i64 f2, .int .i64 k2] 140)) := ⟨_, rfl⟩
    have hb2 : Below w.heap.size w w2 := by rw [hw2]; repeat (first | with_reducible exact Below.refl _ _ | with_reducible assumption | with_reducible refine below_drewN ?_ _ | with_reducible refine Below.drew ?_ | with_reducible refine Below.setCell ?_ (by first | omega | (simp <;> omega)) _ | with_reducible refine Below.alloc ?_ (by first | omega | (simp <;> omega)) _)
    have S2 := (h.below hb2).swap
    have he2 : EnAt w2 be true wr false fr := by rw [hw2]; exact (he.set1 wr).below ((Below.refl _ _).alloc (Nat.le_refl _) _) (by simpa using he.lt)
    have x0 := he2.c0; have x1 := he2.c1; have x2 := he2.c2; have x3 := he2.c3
    have a0 : w2.cell? ⟨wc.heap.size, 0, none⟩ = some (.int .i64 f2) := by rw [hw2]; simp [go_sem]
    have a1 : w2.cell? ⟨wc.heap.size, 1, none⟩ = some (.int .i64 k2) := by rw [hw2]; simp [go_sem]
    have s0 := keep hb2 hs.lt hs.c0
    rw [← hw2]
    clear hw2 y1 z1 hw1 hw1' il il' c0 c1 he he2 hb hb2
    generalize wc.heap.size = ab at a0 a1 ⊢
    have m0 : ∀ z : Wc (fun w' => w2.drew = w'), z.w.cell? ⟨be, 0, none⟩ = some (.bool true) := fun z => by rw [← z.h]; exact x0
    have m1 : ∀ z : Wc (fun w' => w2.drew = w'), z.w.cell? ⟨be, 1, none⟩ = some (.bool wr) := fun z => by rw [← z.h]; exact x1
    have m2 : ∀ z : Wc (fun w' => w2.drew = w'), z.w.cell? ⟨be, 2, none⟩ = some (.bool false) := fun z => by rw [← z.h]; exact x2
    have m3 : ∀ z : Wc (fun w' => w2.drew = w'), z.w.cell? ⟨be, 3, none⟩ = some (.int .i64 fr) := fun z => by rw [← z.h]; exact x3
    have m4 : ∀ z : Wc (fun w' => w2.drew = w'), z.w.cell? ⟨ab, 0, none⟩ = some (.int .i64 f2) := fun z => by rw [← z.h]; exact a0
    have m5 : ∀ z : Wc (fun w' => w2.drew = w'), z.w.cell? ⟨ab, 1, none⟩ = some (.int .i64 k2) := fun z => by rw [← z.h]; exact a1
    have m6 : ∀ z : Wc (fun w' => w2.drew = w'), z.w.cell? ⟨ps, 0, none⟩ = some (.pointer (some ⟨pm, 0, none⟩)) := fun z => by rw [← z.h]; exact s0
    (refine region_tail (fun w' => w2.drew = w') 9 (by kernel_rfl) (by kernel_rfl) (rfl) ?_; intro _; simp only [List.take_succ_cons, List.take_zero, List.drop_succ_cons, List.drop_zero]; (repeat (first | go_big_quiet_step ((fail)) | quiet_step ((fail)))); refine wpQuiet_nil ?_; intro wz hz)
    subst hz
    clear m0 m1 m2 m3 m4 m5 m6 x0 x1 x2 x3 a0 a1 s0
    go_wp2_with (fail)
    refine (s_wput pm n M f2 k2 true wr false fr g _ _ S2.drew).mono ?_
    rintro e w4 ⟨rfl, S4⟩
    obtain ⟨p1, p2⟩ := put_nat (M := M) hf hk hr
    rw [p2] at S4
    rw [p1]
    clear p1 p2
    go_wp2_with (fail)
    go_ret
    exact ⟨rfl, S4.swap⟩

end Go.Proofs.Yteehghjdifbjbaa

namespace Go.Proofs.Yteehghjdifbjbaa
set_option linter.unusedSimpArgs false
set_option linter.unusedVariables false
set_option maxRecDepth 100000
open Go.RowKit
set_option maxHeartbeats 4000000

theorem s_unmap_no (ps pm pb r n : Nat) (M : Nat → Int) (p : Int) (g w : World) (R : HP) (h : Sat g w (spP ps pm pb r * (memP pm n M * R))) (Q : WRes) (hQ : walkM M n r p = Q) (he : Q.e ≠ 0) :
    Calls Try.prog 38 #[.pointer (some ⟨ps, 0, none⟩), .int .i64 p] w fun e w' => e = .returned (.tuple #[.int .i64 0, .int .i64 Q.e]) ∧ Below w.heap.size w w' := by
  have HW : Hid (∀ w', Below w.heap.size w w' → Calls Try.prog 66 #[.pointer (some ⟨pm, 0, none⟩), .int .i64 r, .int .i64 p] w' fun e w2 => ∃ v, e = .returned (.tuple #[.agg #[.bool Q.v, .bool Q.wr, .bool Q.tb, .int .i64 Q.fr], v, .int .i64 Q.e]) ∧ w2.ownsRow w'.heap.size 140 2 v Q.st.length (wCells Q.st) ∧ Below w'.heap.size w' w2) := Lib.hid fun w' hb => s_walk pm n M r p g w' _ (h.below hb).swap Q hQ
  have hs := h.sp
  have hS : ∀ w', Below w.heap.size w w' → w'.cell? ⟨ps, 0, none⟩ = some (.pointer (some ⟨pm, 0, none⟩)) ∧ w'.cell? ⟨ps, 2, none⟩ = some (.int .i64 r) := fun w' hb => ⟨keep hb hs.lt hs.c0, keep hb hs.lt hs.c2⟩
  have g0 : (Q.e != 0) = true := by simpa using he
  clear hQ
  go_enter Try.func38, Try.ntmps38
  go_upto_region 1 with (fail)
  go_cut [6, 7, 8] (fun s6 s7 s8 wx => WalkCut w Q s6 s7 s8 wx)
  case first =>
    go_region_held3 (fun w' => w'.cell? ⟨ps, 0, none⟩ = some (.pointer (some ⟨pm, 0, none⟩)) ∧ w'.cell? ⟨ps, 2, none⟩ = some (.int .i64 r)) (exact hS _ (by repeat (first | with_reducible exact Below.refl _ _ | with_reducible assumption | with_reducible refine below_drewN ?_ _ | with_reducible refine Below.drew ?_ | with_reducible refine Below.setCell ?_ (by first | omega | (simp <;> omega)) _ | with_reducible refine Below.alloc ?_ (by first | omega | (simp <;> omega)) _))) ((go_at_call 66; refine (HW.out _ (by repeat (first | with_reducible exact Below.refl _ _ | with_reducible assumption | with_reducible refine below_drewN ?_ _ | with_reducible refine Below.drew ?_ | with_reducible refine Below.setCell ?_ (by first | omega | (simp <;> omega)) _ | with_reducible refine Below.alloc ?_ (by first | omega | (simp <;> omega)) _))).mono ?_; rintro e w3 ⟨v, rfl, hown3, hb3'⟩; first | (have hb4 := un_drew hb3'; have he := (EnAt.new w false false false 0 34).below hb4 (by simp); have hb3 : Below w.heap.size w w3 := (Below.alloc (Below.refl _ _) (Nat.le_refl _) _).trans (hb4.mono (by simp)); have hs3 := hb3.size; have g0 := he.c0; have g1 := he.c1; have g2 := he.c2; have g3 := he.c3; have g4 := he.f0; have g5 := he.f1; have g6 := he.f2; have g7 := he.f3) | (have hb3 : Below w.heap.size w w3 := un_drew hb3'; have hs3 := hb3.size)))
    · go_wp2_with (fail)
      go_meet
      exact walkCut_new (by simp) hown3 hb3
    · go_wp2_with (fail)
      go_meet
      exact walkCut_put (by simp) hown3 he hb3
  case rest =>
    obtain ⟨be, rfl, rfl, hbe, he, _, hb, _⟩ := hcut
    go_wp2_with (fail)
    go_ret2
    exact ⟨rfl, hb⟩

/-- What is done where a page is taken away, level by level. -/
structure Takes (r0 n : Nat) (F P : Nat → Nat) (I : Nat → (Nat → Prop) → List Blk → (Nat → Int) → Prop) (D : (Nat → Prop) → List Blk → (Nat → Int) → Prop) : Prop where
  bd : ∀ j, j < 3 → F j < n ∧ P j < 16
  ends : ∀ j T H M, j < 3 → I j T H M → (j = 0 ∨ blankB (setW M (16 * F j + P j) 0) n (F j) = false) → D T H (setW M (16 * F j + P j) 0)
  next : ∀ j T H M, j < 3 → I j T H M → 0 < j → blankB (setW M (16 * F j + P j) 0) n (F j) = true → InvB r0 n T H ∧ ((F j : Int), (0 : Int)) ∈ H ∧ I (j - 1) (plusQ T (F j) 0) (H.erase ((F j : Int), (0 : Int))) (scrubW (setW M (16 * F j + P j) 0) (F j) 1)
theorem three_lt {j : Nat} (h : j < 3) : j = 0 ∨ j = 1 ∨ j = 2 := by omega

theorem s_unmap_yes (ps pm pb r r0 n fr : Nat) (T : Nat → Prop) (H : List Blk) (M : Nat → Int) (p : Int) (w0 : Bool) (F P : Nat → Nat) (I : Nat → (Nat → Prop) → List Blk → (Nat → Int) → Prop) (D : (Nat → Prop) → List Blk → (Nat → Int) → Prop) (hT : Takes r0 n F P I D) (h0 : I 2 T H M) (g w : World) (R : HP)
    (h : Sat g w (spP ps pm pb r * (midP pb pm T H * (memP pm n M * R)))) (hQ : walkM M n r p = ⟨true, w0, false, fr, [((F 0 : Int), (P 0 : Int)), ((F 1 : Int), (P 1 : Int)), ((F 2 : Int), (P 2 : Int))], 0⟩) :
    Calls Try.prog 38 #[.pointer (some ⟨ps, 0, none⟩), .int .i64 p] w fun e w' => e = .returned (.tuple #[.int .i64 fr, .int .i64 0]) ∧ ∃ T' H' M', D T' H' M' ∧ Sat g w' (spP ps pm pb r * (midP pb pm T' H' * (memP pm n M' * R))) := by
  obtain ⟨Q, hQQ⟩ : ∃ Q, Q = (⟨true, w0, false, fr, [((F 0 : Int), (P 0 : Int)), ((F 1 : Int), (P 1 : Int)), ((F 2 : Int), (P 2 : Int))], 0⟩ : WRes) := ⟨_, rfl⟩
  rw [← hQQ] at hQ
  have HW : Hid (∀ w', Below w.heap.size w w' → Calls Try.prog 66 #[.pointer (some ⟨pm, 0, none⟩), .int .i64 r, .int .i64 p] w' fun e w2 => ∃ v, e = .returned (.tuple #[.agg #[.bool Q.v, .bool Q.wr, .bool Q.tb, .int .i64 Q.fr], v, .int .i64 Q.e]) ∧ w2.ownsRow w'.heap.size 140 2 v Q.st.length (wCells Q.st) ∧ Below w'.heap.size w' w2) := Lib.hid fun w' hb => s_walk pm n M r p g w' (spP ps pm pb r * (midP pb pm T H * R)) ((h.below hb).perm (by ac_rfl)) Q hQ
  have hs := h.sp
  have hS : ∀ w', Below w.heap.size w w' → w'.cell? ⟨ps, 0, none⟩ = some (.pointer (some ⟨pm, 0, none⟩)) ∧ w'.cell? ⟨ps, 2, none⟩ = some (.int .i64 r) := fun w' hb => ⟨keep hb hs.lt hs.c0, keep hb hs.lt hs.c2⟩
  have HQ := Lib.hid hQQ
  have HT := Lib.hid hT
  have H0 := Lib.hid h0
  clear hQ hQQ hT h0
  go_enter Try.func38, Try.ntmps38
  go_upto_region 1 with (fail)
  go_cut [6, 7, 8] (fun s6 s7 s8 wx => WalkCut w Q s6 s7 s8 wx)
  case first =>
    go_region_held3 (fun w' => w'.cell? ⟨ps, 0, none⟩ = some (.pointer (some ⟨pm, 0, none⟩)) ∧ w'.cell? ⟨ps, 2, none⟩ = some (.int .i64 r)) (exact hS _ (by repeat (first | with_reducible exact Below.refl _ _ | with_reducible assumption | with_reducible refine below_drewN ?_ _ | with_reducible refine Below.drew ?_ | with_reducible refine Below.setCell ?_ (by first | omega | (simp <;> omega)) _ | with_reducible refine Below.alloc ?_ (by first | omega | (simp <;> omega)) _))) ((go_at_call 66; refine (HW.out _ (by repeat (first | with_reducible exact Below.refl _ _ | with_reducible assumption | with_reducible refine below_drewN ?_ _ | with_reducible refine Below.drew ?_ | with_reducible refine Below.setCell ?_ (by first | omega | (simp <;> omega)) _ | with_reducible refine Below.alloc ?_ (by first | omega | (simp <;> omega)) _))).mono ?_; rintro e w3 ⟨v, rfl, hown3, hb3'⟩; first | (have hb4 := un_drew hb3'; have he := (EnAt.new w false false false 0 34).below hb4 (by simp); have hb3 : Below w.heap.size w w3 := (Below.alloc (Below.refl _ _) (Nat.le_refl _) _).trans (hb4.mono (by simp)); have hs3 := hb3.size; have g0 := he.c0; have g1 := he.c1; have g2 := he.c2; have g3 := he.c3; have g4 := he.f0; have g5 := he.f1; have g6 := he.f2; have g7 := he.f3) | (have hb3 : Below w.heap.size w w3 := un_drew hb3'; have hs3 := hb3.size)))
    · go_wp2_with (fail)
      go_meet
      exact walkCut_new (by simp) hown3 hb3
    · go_wp2_with (fail)
      go_meet
      exact walkCut_put (by simp) hown3 he hb3
  case rest =>
    have hQ := HQ.out
    subst hQ
    obtain ⟨K, be, a, cap, rfl, rfl, rfl, S1, hK⟩ := walkCut_part h hcut
    have HK : Hid (∀ w2 P', Sat g w2 (K * P') → w2.cell? ⟨be, 3, none⟩ = some (.int .i64 fr) ∧ ∃ gb, a = some ⟨gb, 0, none⟩ ∧ ∀ j, j < 3 → w2.cell? ⟨gb, j * 2, none⟩ = some (.int .i64 (F j)) ∧ w2.cell? ⟨gb, j * 2 + 1, none⟩ = some (.int .i64 (P j))) := Lib.hid fun w2 P' h2 => by
      obtain ⟨he, hc⟩ := hK w2 P' h2
      refine ⟨he.c3, ?_⟩
      rcases hc with hc | ⟨gb, h1, hc⟩
      · simp at hc
      · refine ⟨gb, h1, fun j hj => ?_⟩
        have := hc j (by simpa using hj)
        rcases three_lt hj with rfl | rfl | rfl <;> exact this
    clear hK hcut hS HW HQ
    simp only [List.length_cons, List.length_nil]
    go_wp2_with (fail)
    go_loopw [9] (fun i wr => ∃ (j : Nat) (T : Nat → Prop) (H : List Blk) (M : Nat → Int), j < 3 ∧ i = .int .i64 j ∧ Hid (I j T H M) ∧ Sat g wr (K * (spP ps pm pb r * (midP pb pm T H * (memP pm n M * R))))) (fun i _ => (intOf i).toNat)
    case atStart => exact ⟨2, T, H, M, by omega, rfl, H0, S1⟩
    case round =>
      obtain ⟨j, T, H, M, hj, rfl, HI, S2⟩ := hrel
      clear S1
      obtain ⟨x3, gb, rfl, hc⟩ := HK.out wr _ S2
      obtain ⟨c0, c1⟩ := hc j hj
      have ij : (j : Int) < 3 := by omega
      obtain ⟨f, hf⟩ : ∃ f, F j = f := ⟨_, rfl⟩
      obtain ⟨k, hk⟩ : ∃ k, P j = k := ⟨_, rfl⟩
      rw [hf] at c0
      rw [hk] at c1
      have HF := Lib.hid hf
      have HP := Lib.hid hk
      obtain ⟨bf, bk⟩ := HT.out.bd j hj
      rw [hf] at bf
      rw [hk] at bk
      have S3 := (S2.pt_new (.cells #[.int .i64 f, .int .i64 k] 140)).perm (show _ = spP ps pm pb r * (pt wr.heap.size (.cells #[.int .i64 f, .int .i64 k] 140) * (K * (midP pb pm T H * (memP pm n M * R)))) by ac_rfl)
      have HS2 := Lib.hid S2
      clear hf hk hc S2
      go_upto_region 8 with (fail)
      obtain ⟨w2, hw2⟩ : ∃ w2, w2 = wr.alloc (.cells #[.int .i64 f, .int .i64 k] 140) := ⟨_, rfl⟩
      rw [← hw2] at S3 ⊢
      clear hw2 c0 c1 x3
      obtain ⟨ab, hab⟩ : ∃ ab, ab = wr.heap.size := ⟨_, rfl⟩
      rw [← hab] at S3 ⊢
      clear hab HS2
      have hcells : ∀ w' T' H' M', Sat g w' (spP ps pm pb r * (pt ab (.cells #[.int .i64 f, .int .i64 k] 140) * (K * (midP pb pm T' H' * (memP pm n M' * R))))) → w'.cell? ⟨ps, 0, none⟩ = some (.pointer (some ⟨pm, 0, none⟩)) ∧ w'.cell? ⟨ps, 1, none⟩ = some (.pointer (some ⟨pb, 0, none⟩)) ∧ w'.cell? ⟨ab, 0, none⟩ = some (.int .i64 f) ∧ w'.cell? ⟨ab, 1, none⟩ = some (.int .i64 k) := fun w' T' H' M' h' => by
        have e := h'.swap.pt_heap
        exact ⟨h'.sp.c0, h'.sp.c1, by simp [World.cell?, e], by simp [World.cell?, e]⟩
      have HCE := Lib.hid hcells
      clear hcells
      obtain ⟨d0, _, d2, d3⟩ := HCE.out _ _ _ _ S3
      have m0 : ∀ z : Wc (fun w' => w2.drew = w'), z.w.cell? ⟨ps, 0, none⟩ = some (.pointer (some ⟨pm, 0, none⟩)) := fun z => by rw [← z.h]; exact d0
      have m1 : ∀ z : Wc (fun w' => w2.drew = w'), z.w.cell? ⟨ab, 0, none⟩ = some (.int .i64 f) := fun z => by rw [← z.h]; exact d2
      have m2 : ∀ z : Wc (fun w' => w2.drew = w'), z.w.cell? ⟨ab, 1, none⟩ = some (.int .i64 k) := fun z => by rw [← z.h]; exact d3
      (refine region_tail (fun w' => w2.drew = w') 9 (by kernel_rfl) (by kernel_rfl) (rfl) ?_; intro _; simp only [List.take_succ_cons, List.take_zero, List.drop_succ_cons, List.drop_zero]; (repeat (first | go_big_quiet_step ((fail)) | quiet_step ((fail)))); refine wpQuiet_nil ?_; intro wz hz)
      subst hz
      clear m0 m1 m2 d0 d2 d3
      go_wp2_with (fail)
      refine (s_wput pm n M f k false false false 0 g _ _ (S3.drew.perm (show _ = memP pm n M * (spP ps pm pb r * (pt ab (.cells #[.int .i64 f, .int .i64 k] 140) * (K * (midP pb pm T H * R)))) by ac_rfl))).mono ?_
      rintro e w4 ⟨rfl, S4⟩
      obtain ⟨p1, p2⟩ := put_nat (M := M) bf bk right_none
      rw [p2, word_none] at S4
      rw [p1]
      have S5 := S4.perm (show _ = spP ps pm pb r * (pt ab (.cells #[.int .i64 f, .int .i64 k] 140) * (K * (midP pb pm T H * (memP pm n (setW M (16 * f + k) 0) * R)))) by ac_rfl)
      clear p1 p2 S3 S4
      have hends := HT.out.ends j T H M hj HI.out
      have hnext := HT.out.next j T H M hj HI.out
      rw [HF.out, HP.out] at hends hnext
      generalize setW M (16 * f + k) 0 = M1 at S5 hends hnext
      obtain ⟨B, hB⟩ : ∃ B, blankB M1 n f = B := ⟨_, rfl⟩
      rw [hB] at hends hnext
      have HBL : Hid (∀ w', Below w4.heap.size w4 w' → Calls Try.prog 72 #[.pointer (some ⟨pm, 0, none⟩), .int .i64 f] w' fun e w'' => e = .returned (.bool B) ∧ Below w4.heap.size w4 w'') := Lib.hid fun w' hb => (s_blank pm n M1 f g w' (spP ps pm pb r * (pt ab (.cells #[.int .i64 f, .int .i64 k] 140) * (K * (midP pb pm T H * R)))) ((S5.below hb).perm (by ac_rfl))).mono fun e w'' ⟨he, h2⟩ => ⟨by rw [he, hB], hb.trans (h2.mono hb.size)⟩
      have HE := Lib.hid hends
      have HN := Lib.hid hnext
      clear hends hnext hB
      go_upto_region 11 with (fail)
      have q0 : ∀ z : Wc (fun w' => Below w4.heap.size w4 w'), z.w.cell? ⟨ps, 0, none⟩ = some (.pointer (some ⟨pm, 0, none⟩)) := fun z => (HCE.out _ _ _ _ (S5.below z.h)).1
      have q1 : ∀ z : Wc (fun w' => Below w4.heap.size w4 w'), z.w.cell? ⟨ab, 0, none⟩ = some (.int .i64 f) := fun z => (HCE.out _ _ _ _ (S5.below z.h)).2.2.1
      have hfin : ∀ w6, Below w4.heap.size w4 w6 → w6.cell? ⟨be, 3, none⟩ = some (.int .i64 fr) := fun w6 hb => (HK.out w6 (spP ps pm pb r * (pt ab (.cells #[.int .i64 f, .int .i64 k] 140) * (midP pb pm T H * (memP pm n M1 * R)))) ((S5.below hb).perm (by ac_rfl))).1
      have HFI := Lib.hid hfin
      clear hfin
      by_cases hj0 : j = 0
      · have gz : ((j : Int) == 0) = true := by rw [beq_iff_eq]; omega
        have gz' : (j == 0) = true := by rw [beq_iff_eq]; omega
        have hd := HE.out (Or.inl hj0)
        have HD := Lib.hid hd
        clear hd HN HE
        (refine region_class (fun w' => Below w4.heap.size w4 w') (by kernel_rfl) (by kernel_rfl) (below_drew (Below.refl _ _)) ?_; intro _; (repeat (first | go_big_quiet_step ((fail)) | quiet_step ((fail)))); refine wpQuiet_nil ?_; intro wz hz)
        clear q0 q1 gz gz'
        have x3 := HFI.out wz hz
        go_wp2_with (fail)
        go_ret2
        exact ⟨rfl, T, H, M1, HD.out, (S5.below hz).perm (show _ = K * (pt ab (.cells #[.int .i64 f, .int .i64 k] 140) * (spP ps pm pb r * (midP pb pm T H * (memP pm n M1 * R)))) by ac_rfl) |>.right |>.right⟩
      · have gz : ((j : Int) == 0) = false := by rw [beq_eq_false_iff_ne]; omega
        have gz' : (j == 0) = false := by rw [beq_eq_false_iff_ne]; omega
        (refine region_class (fun w' => Below w4.heap.size w4 w') (by kernel_rfl) (by kernel_rfl) (below_drew (Below.refl _ _)) ?_; intro _; (repeat (first | go_big_quiet_step ((go_at_call 72; exact class_call (HBL.out _ (Wc.h _)))) | quiet_step ((go_at_call 72; exact class_call (HBL.out _ (Wc.h _)))))); refine wpQuiet_nil ?_; intro wz hz)
        clear q0 q1 gz gz'
        cases B with
        | false =>
          have hd := HE.out (Or.inr rfl)
          have HD := Lib.hid hd
          clear hd HN HE
          have x3 := HFI.out wz hz
          go_wp2_with (fail)
          go_ret2
          exact ⟨rfl, T, H, M1, HD.out, (S5.below hz).perm (show _ = K * (pt ab (.cells #[.int .i64 f, .int .i64 k] 140) * (spP ps pm pb r * (midP pb pm T H * (memP pm n M1 * R)))) by ac_rfl) |>.right |>.right⟩
        | true =>
          have hnx := HN.out (by omega) rfl
          obtain ⟨hinv, hin, hI⟩ := hnx
          have S6 := S5.below hz
          obtain ⟨_, e1, e2, _⟩ := HCE.out _ _ _ _ S6
          have m1 : ∀ z : Wc (fun w' => wz.drew = w'), z.w.cell? ⟨ps, 1, none⟩ = some (.pointer (some ⟨pb, 0, none⟩)) := fun z => by rw [← z.h]; exact e1
          have m2 : ∀ z : Wc (fun w' => wz.drew = w'), z.w.cell? ⟨ab, 0, none⟩ = some (.int .i64 f) := fun z => by rw [← z.h]; exact e2
          have HFR : Hid (Calls Try.prog 73 #[.pointer (some ⟨pb, 0, none⟩), .int .i64 f, .int .i64 0] wz.drew fun e w'' => e = .returned (.int .i64 0) ∧ Sat g w'' (midP pb pm (plusQ T f 0) (H.erase ((f : Int), (0 : Int))) * (memP pm n (scrubW M1 f 1) * (spP ps pm pb r * (pt ab (.cells #[.int .i64 f, .int .i64 k] 140) * (K * R)))))) := Lib.hid ((s_free_at pb pm r0 n T H M1 f 0 g _ (spP ps pm pb r * (pt ab (.cells #[.int .i64 f, .int .i64 k] 140) * (K * R))) (S6.drew.perm (by ac_rfl)) hinv).mono (by
            intro e w'' hp
            cases hp with
            | no hn _ _ => exact absurd hin hn
            | yes c2 k2 hf2 ho2 _ _ _ _ he2 _ hs2 =>
              obtain rfl : k2 = 0 := by omega
              rw [Nat.pow_zero, Nat.mul_one] at hf2 hs2
              obtain rfl : c2 = f := by omega
              exact ⟨he2, hs2⟩))
          have HI2 := Lib.hid hI
          clear hI hin hinv HN HE
          go_upto_region 12 with (fail)
          (refine region_tail (fun w' => wz.drew = w') 6 (by kernel_rfl) (by kernel_rfl) (rfl) ?_; intro _; simp only [List.take_succ_cons, List.take_zero, List.drop_succ_cons, List.drop_zero]; (repeat (first | go_big_quiet_step ((fail)) | quiet_step ((fail)))); refine wpQuiet_nil ?_; intro wy hy)
          subst hy
          clear m1 m2 e1 e2
          go_wp2_with (fail)
          refine HFR.out.mono ?_
          rintro e w7 ⟨rfl, S7⟩
          go_wp2_with (fail)
          go_roundw
          case rel =>
            (repeat apply Exists.intro)
            refine ⟨⟨j - 1, _, _, _, by omega, ?_, HI2, ?_⟩, rfl⟩
            · have e : (j : Int) - 1 = ((j - 1 : Nat) : Int) := by omega
              rw [← e]
            · exact (S7.perm (show _ = pt ab (.cells #[.int .i64 f, .int .i64 k] 140) * (K * (spP ps pm pb r * (midP pb pm (plusQ T f 0) (H.erase ((f : Int), (0 : Int))) * (memP pm n (scrubW M1 f 1) * R)))) by ac_rfl)).right
          case measure => simp [intOf]; omega

end Go.Proofs.Yteehghjdifbjbaa

namespace Go.Proofs.Yteehghjdifbjbaa
set_option linter.unusedSimpArgs false
set_option linter.unusedVariables false
set_option maxRecDepth 100000
open Go.RowKit
set_option maxHeartbeats 4000000

/-- The frame that Alloc gives for an order of nought. -/
def NextF (T : Nat → Prop) (f : Nat) : Prop := ∃ a k, k ≤ 8 ∧ QCan T a k ∧ (∀ j, j < k → ∀ b, ¬ QCan T b j) ∧ (∀ b, QCan T b k → a ≤ b) ∧ f = a * 2 ^ k
theorem NextF.free {T : Nat → Prop} {f : Nat} (h : NextF T f) : T f := by
  obtain ⟨a, k, _, hc, _, _, rfl⟩ := h
  exact hc.1 _ (in_block a k)
theorem NextF.uniq {T : Nat → Prop} {f f' : Nat} (h : NextF T f) (h' : NextF T f') : f = f' := by
  obtain ⟨a, k, _, hc, hl, hf, rfl⟩ := h
  obtain ⟨a', k', _, hc', hl', hf', rfl⟩ := h'
  have hk : k = k' := by
    rcases Nat.lt_trichotomy k k' with h | h | h
    · exact absurd hc (hl' k h a)
    · exact h
    · exact absurd hc' (hl k' h a')
  subst hk
  have e1 := hf a' hc'
  have e2 := hf' a hc
  have : a = a' := by omega
  rw [this]
inductive Alloc0 (g : World) (pb pm : Nat) (T : Nat → Prop) (H : List Blk) (R : HP) (e : Ending) (w' : World) : Prop
  | no (hn : ∀ c, ¬ T c) (he : e = .returned (.tuple #[.int .i64 0, .int .i64 6])) (hs : Sat g w' (midP pb pm T H * R))
  | yes (f : Nat) (hf : NextF T f) (he : e = .returned (.tuple #[.int .i64 f, .int .i64 0])) (hs : Sat g w' (midP pb pm (minusQ T f 0) (H ++ [((f : Int), (0 : Int))]) * R))
theorem full0 {T : Nat → Prop} {c : Nat} : QFull T c 0 ↔ T c := by
  unfold QFull
  constructor
  · intro h; exact h c (by simp)
  · intro h x hx; rw [Nat.pow_zero, Nat.div_one] at hx; rw [hx]; exact h
theorem s_alloc0 (pb pm r n : Nat) (T : Nat → Prop) (H : List Blk) (g w : World) (R : HP) (h : Sat g w (midP pb pm T H * R)) (hi : InvB r n T H) :
    Calls Try.prog 64 #[.pointer (some ⟨pb, 0, none⟩), .int .i64 0] w (Alloc0 g pb pm T H R) := by
  refine (s_alloc pb pm T H 0 g w R h (by omega) (inv_fresh hi)).mono fun e w' hp => ?_
  cases hp with
  | no he hn hs =>
    refine .no (fun c hc => ?_) he hs
    obtain ⟨b, k, h1, h2, h3, _⟩ := full_can 8 c 0 rfl (full0.2 hc)
    exact hn k h1 h2 b h3
  | yes a k f hk hk8 hc hl hf hff he hs =>
    rw [Nat.pow_zero, Nat.div_one] at hs
    exact .yes f ⟨a, k, hk8, hc, fun j hj => hl j (by omega) hj, hf, hff⟩ he hs

theorem infoI64 : (Try.prog.info? 3).map (fun i => (i.zero, i.size, i.bytes)) = some (some (.int .i64 0), 1, 8) := by kernel_rfl
/-- The tables that were made. -/
structure MadeIn (w : World) (xb ps : Nat) (v : Value) (l : List Int) : Prop where
  c0 : w.cell? ⟨xb, 0, none⟩ = some (.pointer (some ⟨ps, 0, none⟩))
  c1 : w.cell? ⟨xb, 1, none⟩ = some v
  f1 : w.frozen? ⟨xb, 1, none⟩ = false
  row : RowI w 0 v l
  ne : v.ownBlock ≠ some xb
  lt : xb < w.heap.size
def madeS (xb : Nat) (v : Value) (k : Nat) : Prop := k = xb ∨ v.ownBlock = some k
theorem MadeIn.heap {w w' : World} {xb ps : Nat} {v : Value} {l : List Int} (h : MadeIn w xb ps v l) (e : ∀ k, madeS xb v k → w'.heap[k]? = w.heap[k]?) : MadeIn w' xb ps v l :=
  ⟨(cell_of_heap (e xb (Or.inl rfl)) _).trans h.c0, (cell_of_heap (e xb (Or.inl rfl)) _).trans h.c1, (frozen_of_heap (e xb (Or.inl rfl)) _).trans h.f1, own_heap' h.row fun k hk => e k (Or.inr hk), h.ne, heap_ltO (e xb (Or.inl rfl)) h.lt⟩
theorem MadeIn.slt {w : World} {xb ps : Nat} {v : Value} {l : List Int} (h : MadeIn w xb ps v l) : ∀ k, madeS xb v k → k < w.heap.size := fun k hk => by
  rcases hk with rfl | hk
  · exact h.lt
  · exact (World.ownsRow.lt h.row k hk).2
def madeP (xb ps : Nat) (l : List Int) : HP := exP fun v : Value => ownP (madeS xb v) (fun w => MadeIn w xb ps v l)
theorem loc_made (xb ps : Nat) (v : Value) (l : List Int) : Loc (madeS xb v) (fun w => MadeIn w xb ps v l) := fun _ _ h e => h.heap e
theorem Sat.made {g w : World} {xb ps : Nat} {l : List Int} {R : HP} (h : Sat g w (madeP xb ps l * R)) :
    ∃ v, MadeIn w xb ps v l ∧ ∀ w' v' l', Touch (madeS xb v) w w' → MadeIn w' xb ps v' l' → (∀ k, v'.ownBlock = some k → v.ownBlock = some k ∨ w.heap.size ≤ k) → Sat g w' (madeP xb ps l' * R) := by
  obtain ⟨v, h⟩ := h.ex
  exact ⟨v, h.inv, fun w' v' l' t i hk => Sat.ex' v' (h.touch t i (loc_made _ _ _ _) (fun k hk' => by
    rcases hk' with rfl | hk'
    · exact Or.inl (Or.inl rfl)
    · rcases hk k hk' with h1 | h1
      · exact Or.inl (Or.inr h1)
      · exact Or.inr h1) i.slt)⟩
/-- The cells of the tables that were made. -/
theorem made_cells {w : World} {xb ps : Nat} {v : Value} {l : List Int} (h : MadeIn w xb ps v l) : ∃ a cap, v = .slice a l.length cap ∧ (l = [] ∨ ∃ gb, a = some ⟨gb, 0, none⟩ ∧ ∀ j (_ : j < l.length), w.cell? ⟨gb, j, none⟩ = some (.int .i64 l[j])) := by
  have hr := h.row
  rcases hr.2 with ⟨h1, h2⟩ | ⟨gb, cap, cur, h1, _, hh, _⟩
  · exact ⟨none, 0, by rw [h1, h2], Or.inl (List.length_eq_zero_iff.1 h2)⟩
  · refine ⟨some ⟨gb, 0, none⟩, cap, h1, Or.inr ⟨gb, rfl, fun j hj => ?_⟩⟩
    unfold RowI at hr
    rw [h1] at hr
    rw [World.ownsRow.cellAt hr j (by omega), iCells_get _ j hj]
    simp [hj]
theorem lit_srcI (w : World) (f : Int) (t : TypeId) : Src (w.alloc (.cells #[.int .i64 f] t)) 1 (.slice (some ⟨w.heap.size, 0, none⟩) 1 1) 1 [.int .i64 f] :=
  ⟨rfl, Or.inr ⟨w.heap.size, 0, 1, rfl, fun j u hj => by
    cases j with
    | zero => simp at hj; subst hj; simp [go_sem]
    | succ j => simp at hj, fun _ => by simp⟩⟩

inductive MadePost (g : World) (xb ps pm pb r : Nat) (l : List Int) (T : Nat → Prop) (H : List Blk) (R : HP) (e : Ending) (w' : World) : Prop
  | no (hn : ∀ c, ¬ T c) (he : e = .returned (.tuple #[.int .i64 0, .int .i64 6])) (hs : Sat g w' (madeP xb ps l * (spP ps pm pb r * (midP pb pm T H * R))))
  | yes (f : Nat) (hf : NextF T f) (he : e = .returned (.tuple #[.int .i64 f, .int .i64 0])) (hs : Sat g w' (madeP xb ps (l ++ [(f : Int)]) * (spP ps pm pb r * (midP pb pm (minusQ T f 0) (H ++ [((f : Int), (0 : Int))]) * R))))
theorem s_made (xb ps pm pb r r0 n : Nat) (l : List Int) (T : Nat → Prop) (H : List Blk) (g w : World) (R : HP) (h : Sat g w (madeP xb ps l * (spP ps pm pb r * (midP pb pm T H * R)))) (hi : InvB r0 n T H) (hl : l.length ≤ 10) :
    Calls Try.prog 68 #[.pointer (some ⟨xb, 0, none⟩)] w (MadePost g xb ps pm pb r l T H R) := by
  obtain ⟨v, hm, -⟩ := h.made
  have x0 := hm.c0
  have s1 := h.swap.sp.c1
  have S0 := h.perm (show _ = midP pb pm T H * (madeP xb ps l * (spP ps pm pb r * R)) by ac_rfl)
  clear hm
  go_enter Try.func68, Try.ntmps68
  go_wp2_with (fail)
  refine (s_alloc0 pb pm r0 n T H g _ _ S0 hi).mono ?_
  intro e w1 hp
  cases hp with
  | no hn he hs =>
    subst he
    have HN := Lib.hid hn
    clear hn
    go_wp2_with (fail)
    go_ret2
    exact .no HN.out rfl (hs.perm (by ac_rfl))
  | yes f hf he hs =>
    subst he
    have HN := Lib.hid hf
    have S1 := hs.perm (show _ = madeP xb ps l * (spP ps pm pb r * (midP pb pm (minusQ T f 0) (H ++ [((f : Int), (0 : Int))]) * R)) by ac_rfl)
    clear hf hs x0 s1 S0
    obtain ⟨v, hm, back⟩ := S1.made
    have c1 := hm.c1
    have f1 := hm.f1
    obtain ⟨i0, hi0, hzz⟩ := Option.map_eq_some_iff.1 infoI64
    simp only [Prod.mk.injEq] at hzz
    obtain ⟨hz0, hz1, hz2⟩ := hzz
    have HIB := Lib.hid (⟨hi0, hz0, hz1, hz2⟩ : _ ∧ _ ∧ _ ∧ _)
    clear hi0 hz0 hz1 hz2
    have HO := Lib.hid ((show w1.ownsRow 0 3 1 v l.length (iCells l) from hm.row).alloc (.cells #[.int .i64 f] 3))
    have HM := Lib.hid hm
    have HB := Lib.hid back
    have hlt := hm.lt
    clear hm back
    go_wp2_with (at_builtin; go_loud (refine list_app (by rfl) _ _ _ (by rfl) 0 3 i0 (.int .i64 0) 1 8 Try.underlying124 HIB.out.1 HIB.out.2.1 HIB.out.2.2.1 HIB.out.2.2.2 rfl (by decide) _ _ _ (by rfl) HO.out _ 1 [.int .i64 f] (by rfl) (lit_srcI _ f _) (by intro u hu; simp at hu; subst hu; rfl) (maxLen_geB (by omega)) (by omega) (by simp) ?_; refine fun v' w5 ha => Hold.out ?_))
    refine ⟨?_⟩
    have hx5 : w5.heap[xb]? = w1.heap[xb]? := by
      rw [ha.grown.block xb (by simp; omega) (fun e => HM.out.ne e.symm), Below.heap_alloc _ _ _ hlt]
    have hne' : v'.ownBlock ≠ some xb := fun e => by
      rcases ha.at_ with h1 | h1
      · exact HM.out.ne (h1 ▸ e)
      · rw [h1] at e; simp at e; omega
    have d1 : w5.cell? ⟨xb, 1, none⟩ = some v := (cell_of_heap hx5 1).trans c1
    have z1 : w5.frozen? ⟨xb, 1, none⟩ = false := (frozen_of_heap hx5 1).trans f1
    have hmade : MadeIn (w5.setCell ⟨xb, 1, none⟩ v') xb ps v' (l ++ [(f : Int)]) := by
      refine ⟨?_, World.cell?_setCell_same' _ _ _ (by rw [d1]; rfl), by rw [World.frozen?_setCell]; exact z1, ?_, hne', ?_⟩
      · rw [set_far _ _ _ _ _ (by omega)]; exact (cell_of_heap hx5 0).trans HM.out.c0
      · have ho := ha.own
        have e1 : iCells l ++ [.int .i64 (f : Int)] = iCells (l ++ [(f : Int)]) := by simp [iCells]
        have e2 : l.length + 1 = (l ++ [(f : Int)]).length := by simp
        rw [e1, e2] at ho
        exact own_heap' ho fun k hk => Below.heap_setCell _ _ _ _ (fun e => hne' (by rw [hk, e]))
      · have := heap_ltO hx5 hlt
        simpa using this
    have ht : Touch (madeS xb v) w1 (w5.setCell ⟨xb, 1, none⟩ v') :=
      Touch.setCell (Touch.grown ((Touch.refl (madeS xb v) w1).alloc _) ha.grown (fun k hk => Or.inl (Or.inr hk))) (Or.inl (Or.inl rfl)) _
    have S5 := HB.out _ _ _ ht hmade (fun k hk => by
      rcases ha.at_ with h1 | h1
      · exact Or.inl (h1 ▸ hk)
      · rw [h1] at hk; simp at hk; exact Or.inr (by omega))
    obtain ⟨va, vc, rfl⟩ := own_slice ha.own
    clear hmade ht hx5 hne' ha
    go_wp2_with (fail)
    go_ret2
    exact .yes f HN.out rfl S5

/-- What is done where the tables that were made are given back, one by one. -/
theorem s_back (xb ps pm pb r r0 n : Nat) (l : List Nat) (T : Nat → Prop) (H : List Blk) (M : Nat → Int) (J : Nat → (Nat → Prop) → List Blk → (Nat → Int) → Prop)
    (hJ : ∀ k (hk : k < l.length) T H M, J k T H M → InvB r0 n T H ∧ ((l[k] : Int), (0 : Int)) ∈ H ∧ J (k + 1) (plusQ T l[k] 0) (H.erase ((l[k] : Int), (0 : Int))) (scrubW M l[k] 1)) (h0 : J 0 T H M) (hl : l.length ≤ 10)
    (g w : World) (R : HP) (h : Sat g w (madeP xb ps (l.map fun f : Nat => (f : Int)) * (spP ps pm pb r * (midP pb pm T H * (memP pm n M * R))))) :
    Calls Try.prog 67 #[.pointer (some ⟨xb, 0, none⟩)] w fun e w' => e = .returned (.tuple #[]) ∧ ∃ T' H' M', J l.length T' H' M' ∧ Sat g w' (madeP xb ps (l.map fun f : Nat => (f : Int)) * (spP ps pm pb r * (midP pb pm T' H' * (memP pm n M' * R)))) := by
  obtain ⟨v, h⟩ := h.ex
  obtain ⟨MP, hMP⟩ : ∃ MP, MP = ownP (madeS xb v) (fun w => MadeIn w xb ps v (l.map fun f : Nat => (f : Int))) := ⟨_, rfl⟩
  have HC : Hid (∀ w' T' H' M', Sat g w' (MP * (spP ps pm pb r * (midP pb pm T' H' * (memP pm n M' * R)))) → w'.cell? ⟨xb, 0, none⟩ = some (.pointer (some ⟨ps, 0, none⟩)) ∧ w'.cell? ⟨xb, 1, none⟩ = some v ∧ w'.cell? ⟨ps, 1, none⟩ = some (.pointer (some ⟨pb, 0, none⟩)) ∧ ∃ a cap, v = .slice a l.length cap ∧ ∀ j (_ : j < l.length), ∃ gb, a = some ⟨gb, 0, none⟩ ∧ w'.cell? ⟨gb, j, none⟩ = some (.int .i64 l[j])) := Lib.hid fun w' T' H' M' h' => by
    rw [hMP] at h'
    have hm := h'.inv
    obtain ⟨a, cap, e, hc⟩ := made_cells hm
    rw [List.length_map] at e
    refine ⟨hm.c0, hm.c1, h'.swap.sp.c1, a, cap, e, fun j hj => ?_⟩
    rcases hc with h0 | ⟨gb, h1, hc⟩
    · have : l.length = 0 := by simpa using congrArg List.length h0
      omega
    · exact ⟨gb, h1, by have := hc j (by simpa using hj); simpa using this⟩
  have HX : Hid (∀ w' T' H' M', Sat g w' (MP * (spP ps pm pb r * (midP pb pm T' H' * (memP pm n M' * R)))) → Sat g w' (madeP xb ps (l.map fun f : Nat => (f : Int)) * (spP ps pm pb r * (midP pb pm T' H' * (memP pm n M' * R))))) := Lib.hid fun w' T' H' M' h' => by
    rw [hMP] at h'
    exact Sat.ex' v h'
  rw [← hMP] at h
  clear hMP
  have HJ := Lib.hid hJ
  have H0 := Lib.hid h0
  clear hJ h0
  obtain ⟨_, x1, _, a, cap, rfl, _⟩ := HC.out _ _ _ _ h
  obtain ⟨x0, _, _, _⟩ := HC.out _ _ _ _ h
  have S0 := h
  go_enter Try.func67, Try.ntmps67
  go_wp2_with (fail)
  go_loopw [9] (fun i wr => ∃ (k : Nat) (T : Nat → Prop) (H : List Blk) (M : Nat → Int), k ≤ l.length ∧ i = .int .i64 k ∧ Hid (J k T H M) ∧ Sat g wr (MP * (spP ps pm pb r * (midP pb pm T H * (memP pm n M * R))))) (fun i _ => l.length - (intOf i).toNat)
  case atStart => exact ⟨0, T, H, M, by omega, rfl, H0, S0⟩
  case round =>
    obtain ⟨k, T, H, M, hk, rfl, HI, S1⟩ := hrel
    clear S0 h x0 x1
    obtain ⟨x0, _, s1, a', cap', hv, hcell⟩ := HC.out _ _ _ _ S1
    simp only [Value.slice.injEq] at hv
    obtain ⟨rfl, -, rfl⟩ := hv
    by_cases hkl : k < l.length
    · have il : (k : Int) < l.length := by omega
      obtain ⟨gb, rfl, hc⟩ := hcell k hkl
      obtain ⟨hinv, hin, hnx⟩ := HJ.out k hkl T H M HI.out
      generalize l[k] = f at hc hin hnx
      have HFR : Hid (Calls Try.prog 73 #[.pointer (some ⟨pb, 0, none⟩), .int .i64 f, .int .i64 0] wr fun e w'' => e = .returned (.int .i64 0) ∧ Sat g w'' (midP pb pm (plusQ T f 0) (H.erase ((f : Int), (0 : Int))) * (memP pm n (scrubW M f 1) * (spP ps pm pb r * (MP * R))))) := Lib.hid ((s_free_at pb pm r0 n T H M f 0 g _ (spP ps pm pb r * (MP * R)) (S1.perm (by ac_rfl)) hinv).mono (by
        intro e w'' hp
        cases hp with
        | no hn _ _ => exact absurd hin hn
        | yes c2 k2 hf2 ho2 _ _ _ _ he2 _ hs2 =>
          obtain rfl : k2 = 0 := by omega
          rw [Nat.pow_zero, Nat.mul_one] at hf2 hs2
          obtain rfl : c2 = f := by omega
          exact ⟨he2, hs2⟩))
      have HN := Lib.hid hnx
      clear hcell hinv hin hnx
      go_wp2_with (fail)
      refine HFR.out.mono ?_
      rintro e w2 ⟨rfl, S2⟩
      go_wp2_with (fail)
      go_roundw
      case rel => exact ⟨k + 1, _, _, _, by omega, by go_num, HN, S2.perm (by ac_rfl)⟩
      case measure => simp [intOf]; omega
    · obtain rfl : k = l.length := by omega
      clear hcell
      go_wp2_with (fail)
      go_end0
      exact ⟨rfl, T, H, M, HI.out, HX.out _ _ _ _ S1⟩

/-- An entry of a table that is put later. -/
theorem put_later (sb ab fb ps pm pb r n F K c : Nat) (M : Nat → Int) (g w : World) (R : HP) (h : Sat g w (spP ps pm pb r * (memP pm n M * R))) (hs : w.cell? ⟨sb, 0, none⟩ = some (.pointer (some ⟨ps, 0, none⟩))) (h0 : w.cell? ⟨ab, 0, none⟩ = some (.int .i64 F)) (h1 : w.cell? ⟨ab, 1, none⟩ = some (.int .i64 K)) (hf : w.cell? ⟨fb, 0, none⟩ = some (.int .i64 c)) (bF : F < n) (bK : K < 16) (bc : c < 256) :
    Calls Try.prog 69 #[.pointer (some ⟨sb, 0, none⟩), .pointer (some ⟨ab, 0, none⟩), .pointer (some ⟨fb, 0, none⟩)] w fun e w' => e = .returned (.int .i64 0) ∧ Sat g w' (spP ps pm pb r * (memP pm n (setW M (16 * F + K) (wordI true false true c)) * R)) := by
  have s0 := h.sp.c0
  have m0 : ∀ z : Wc (fun w' => w.drew = w'), z.w.cell? ⟨sb, 0, none⟩ = some (.pointer (some ⟨ps, 0, none⟩)) := fun z => by rw [← z.h]; exact hs
  have m1 : ∀ z : Wc (fun w' => w.drew = w'), z.w.cell? ⟨ps, 0, none⟩ = some (.pointer (some ⟨pm, 0, none⟩)) := fun z => by rw [← z.h]; exact s0
  have m2 : ∀ z : Wc (fun w' => w.drew = w'), z.w.cell? ⟨ab, 0, none⟩ = some (.int .i64 F) := fun z => by rw [← z.h]; exact h0
  have m3 : ∀ z : Wc (fun w' => w.drew = w'), z.w.cell? ⟨ab, 1, none⟩ = some (.int .i64 K) := fun z => by rw [← z.h]; exact h1
  have m4 : ∀ z : Wc (fun w' => w.drew = w'), z.w.cell? ⟨fb, 0, none⟩ = some (.int .i64 c) := fun z => by rw [← z.h]; exact hf
  have S := h.swap.drew
  obtain ⟨p1, p2⟩ := put_nat (M := M) bF bK (right_tab bc)
  have HP1 := Lib.hid p1
  have HP2 := Lib.hid p2
  clear hs h0 h1 hf s0 h p1 p2
  go_enter Try.func69, Try.ntmps69
  go_wp2_with (fail)
  (refine region_tail (fun w' => w.drew = w') 10 (by kernel_rfl) (by kernel_rfl) (rfl) ?_; intro _; simp only [List.take_succ_cons, List.take_zero, List.drop_succ_cons, List.drop_zero]; (repeat (first | go_big_quiet_step ((fail)) | quiet_step ((fail)))); refine wpQuiet_nil ?_; intro wz hz)
  subst hz
  clear m0 m1 m2 m3 m4
  go_wp2_with (fail)
  refine (s_wput pm n M F K true false true c g _ _ S).mono ?_
  rintro e w4 ⟨rfl, S4⟩
  rw [HP2.out] at S4
  rw [HP1.out]
  go_wp2_with (fail)
  go_ret
  exact ⟨rfl, S4.swap⟩

end Go.Proofs.Yteehghjdifbjbaa
