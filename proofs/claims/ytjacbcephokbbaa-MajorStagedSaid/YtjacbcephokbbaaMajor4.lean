/- What Next returns and writes. -/
import Derived.Test.YtjacbcephokbbaaMajor3
import Derived.Deep.CutBlock
import Derived.Deep.RegionWith
namespace Go.Proofs.Ytjacbcephokbbaa
set_option linter.unusedSimpArgs false
set_option linter.unusedVariables false
set_option maxRecDepth 100000
open Go.RowKit
set_option maxHeartbeats 4000000

theorem atW_or (L : List Win) (t : Int) (h : ∀ x ∈ L, 0 ≤ x.p ∧ x.p < 8) : atW L t = -1 ∨ (0 ≤ atW L t ∧ atW L t < 8) := by
  induction L with
  | nil => exact Or.inl rfl
  | cons x L ih =>
    rw [atW]
    split
    · exact Or.inr (h x (by simp))
    · exact ih fun y hy => h y (List.mem_cons_of_mem _ hy)
def bump (U : Nat → Int) (p : Int) : Nat → Int := fun i => if (i : Int) = p then U i + 1 else U i
theorem ClockIn.set2 {w : World} {pc pt : Nat} {fv : Value} {n place : Int} {U : Nat → Int} (h : ClockIn w pc pt fv n place U) (n' : Int) : ClockIn (w.setCell ⟨pc, 2, none⟩ (.int .i64 n')) pc pt fv n' place U :=
  ⟨by rw [setCell_other5 (by omega)]; exact h.c0, by rw [setCell_other5 (by omega)]; exact h.c1, by have := h.c2; simp [go_sem, *], by rw [setCell_other5 (by omega)]; exact h.c3, fun i hi => by rw [setCell_other5 (by omega)]; exact h.u i hi, fun j hj => by have := h.free j hj; simpa [go_sem] using this, by simpa [go_sem] using h.lt⟩
theorem ClockIn.set3 {w : World} {pc pt : Nat} {fv : Value} {n place : Int} {U : Nat → Int} (h : ClockIn w pc pt fv n place U) (p' : Int) : ClockIn (w.setCell ⟨pc, 3, none⟩ (.int .i64 p')) pc pt fv n p' U :=
  ⟨by rw [setCell_other5 (by omega)]; exact h.c0, by rw [setCell_other5 (by omega)]; exact h.c1, by rw [setCell_other5 (by omega)]; exact h.c2, by have := h.c3; simp [go_sem, *], fun i hi => by rw [setCell_other5 (by omega)]; exact h.u i hi, fun j hj => by have := h.free j hj; simpa [go_sem] using this, by simpa [go_sem] using h.lt⟩
theorem ClockIn.setU {w : World} {pc pt : Nat} {fv : Value} {n place : Int} {U : Nat → Int} (h : ClockIn w pc pt fv n place U) (k : Nat) (hk : k < 8) : ClockIn (w.setCell ⟨pc, 4 + k, none⟩ (.int .i64 (U k + 1))) pc pt fv n place (bump U k) :=
  ⟨by rw [setCell_other5 (by omega)]; exact h.c0, by rw [setCell_other5 (by omega)]; exact h.c1, by rw [setCell_other5 (by omega)]; exact h.c2, by rw [setCell_other5 (by omega)]; exact h.c3, fun i hi => by
    unfold bump
    by_cases e : i = k
    · subst e; have := h.u i hi; simp [go_sem, *]
    · rw [setCell_other5 (by omega), if_neg (by omega)]; exact h.u i hi, fun j hj => by have := h.free j hj; simpa [go_sem] using this, by simpa [go_sem] using h.lt⟩

/-- What stands behind the first lines: the tick is made. -/
def NextCut (w1 : World) (n place part : Int) (first : Bool) (v : Value) (wx : World) : Prop := ∃ tb, v = .pointer (some ⟨tb, 0, none⟩) ∧ w1.heap.size ≤ tb ∧ tb < wx.heap.size ∧ wx.cell? ⟨tb, 0, none⟩ = some (.int .i64 n) ∧ wx.cell? ⟨tb, 1, none⟩ = some (.int .i64 place) ∧ wx.cell? ⟨tb, 2, none⟩ = some (.int .i64 part) ∧ wx.cell? ⟨tb, 3, none⟩ = some (.bool first) ∧ Below w1.heap.size w1 wx

theorem bump_no (U : Nat → Int) : bump U (-1) = U := by
  funext i; simp [bump]
def BumpCut (w : World) (pc pt : Nat) (fv : Value) (n place : Int) (U : Nat → Int) (part : Int) (wx : World) : Prop := Touch (· = pc) w wx ∧ ClockIn wx pc pt fv n place (bump U part)
theorem tick_keep {a b : World} {tb : Nat} (hb : Below a.heap.size a b) (hh : a.heap[tb]? = some (.cells #[.int .i64 0, .int .i64 0, .int .i64 0, .bool false] 31)) :
    b.heap[tb]? = some (.cells #[.int .i64 0, .int .i64 0, .int .i64 0, .bool false] 31) ∧ tb < b.heap.size ∧ b.cell? ⟨tb, 0, none⟩ = some (.int .i64 0) ∧ b.cell? ⟨tb, 1, none⟩ = some (.int .i64 0) ∧ b.cell? ⟨tb, 2, none⟩ = some (.int .i64 0) ∧ b.cell? ⟨tb, 3, none⟩ = some (.bool false) ∧
      b.frozen? ⟨tb, 0, none⟩ = false ∧ b.frozen? ⟨tb, 1, none⟩ = false ∧ b.frozen? ⟨tb, 2, none⟩ = false ∧ b.frozen? ⟨tb, 3, none⟩ = false := by
  have hh' : b.heap[tb]? = some (.cells #[.int .i64 0, .int .i64 0, .int .i64 0, .bool false] 31) := (hb.block tb (heap_lt hh)).trans hh
  refine ⟨hh', heap_lt hh', ?_, ?_, ?_, ?_, ?_, ?_, ?_, ?_⟩ <;> simp [World.cell?, World.frozen?, hh']

theorem tick_cells {b : World} {tb : Nat} (hh' : b.heap[tb]? = some (.cells #[.int .i64 0, .int .i64 0, .int .i64 0, .bool false] 31)) :
    b.cell? ⟨tb, 0, none⟩ = some (.int .i64 0) ∧ b.cell? ⟨tb, 1, none⟩ = some (.int .i64 0) ∧ b.cell? ⟨tb, 2, none⟩ = some (.int .i64 0) ∧ b.cell? ⟨tb, 3, none⟩ = some (.bool false) ∧
      b.frozen? ⟨tb, 0, none⟩ = false ∧ b.frozen? ⟨tb, 1, none⟩ = false ∧ b.frozen? ⟨tb, 2, none⟩ = false ∧ b.frozen? ⟨tb, 3, none⟩ = false := by
  refine ⟨?_, ?_, ?_, ?_, ?_, ?_, ?_, ?_⟩ <;> simp [World.cell?, World.frozen?, hh']

theorem s_next (pc : Nat) (m : Int) (L : List Win) (stg : Option (Int × List Win)) (n place : Int) (U : Nat → Int) (g w : World) (R : HP) (h : Sat g w (ckP pc m L stg n place U * R))
    (hn : 0 ≤ n) (hn2 : n < 1000000000) (hU : ∀ i, i < 8 → 0 ≤ U i ∧ U i ≤ n) (hp : 0 ≤ place) (hpm : place < m) :
    Calls Try.prog 9 #[.pointer (some ⟨pc, 0, none⟩)] w fun e w' => e = .returned (.agg #[.int .i64 n, .int .i64 place, .int .i64 (atW L place), .bool (L.any fun x => x.f == place)]) ∧
      Sat g w' (ckP pc (turnT m L stg ((place + 1) % m)).1 (turnT m L stg ((place + 1) % m)).2 (turnS stg ((place + 1) % m)) (n + 1) ((place + 1) % m) (bump U (atW L place)) * R) := by
  obtain ⟨pt, fv, X, h1, back⟩ := h.ck
  obtain ⟨S, ok⟩ := h1.swap.tabOk
  have hm1 := ok.n1
  have hm2 := ok.n2
  have hat := atW_or L place fun x hx => ⟨(ok.bd x hx).1, (ok.bd x hx).2.1⟩
  generalize hpart : atW L place = part at hat
  generalize hfirst : (L.any fun x => x.f == place) = first
  have c0 := h1.inv.c0
  have c2 := h1.inv.c2
  have c3 := h1.inv.c3
  have hlt := h1.inv.lt
  go_enter Try.func9, Try.ntmps9
  go_upto_region 1 with fail
  obtain ⟨w1, hw1⟩ : ∃ w1, w1 = (w.alloc (.cells #[.int .i64 0, .int .i64 0, .int .i64 0, .bool false] 31)) := ⟨_, rfl⟩
  have hb1 : Below w.heap.size w w1 := by rw [hw1]; repeat (first | with_reducible exact Below.refl _ _ | with_reducible assumption | with_reducible refine below_drewN ?_ _ | with_reducible refine Below.drew ?_ | with_reducible refine Below.setCell ?_ (by first | omega | (simp <;> omega)) _ | with_reducible refine Below.alloc ?_ (by first | omega | (simp <;> omega)) _)
  have h2 : Sat g w1 (clkP pc pt fv n place U * (tabP pt m L * (X * (Ytjacbcephokbbaa.pt w.heap.size (.cells #[.int .i64 0, .int .i64 0, .int .i64 0, .bool false] 31) * R)))) := by
    rw [hw1]
    exact (h1.pt_new _).perm (by ac_rfl)
  have r0 : w1.heap[w.heap.size]? = some (.cells #[.int .i64 0, .int .i64 0, .int .i64 0, .bool false] 31) := by rw [hw1]; exact heap_alloc_new w _
  rw [← hw1]
  have hs1 : w.heap.size < w1.heap.size := by rw [hw1]; simp
  clear hw1
  have hS : ∀ w', Below w1.heap.size w1 w' → w'.cell? ⟨pc, 0, none⟩ = some (.pointer (some ⟨pt, 0, none⟩)) ∧ w'.cell? ⟨pc, 2, none⟩ = some (.int .i64 n) ∧ w'.cell? ⟨pc, 3, none⟩ = some (.int .i64 place) := fun w' hb =>
    ⟨keep hb (by omega) (keep hb1 hlt c0), keep hb (by omega) (keep hb1 hlt c2), keep hb (by omega) (keep hb1 hlt c3)⟩
  have hA : ∀ w', Below w1.heap.size w1 w' → Calls Try.prog 10 #[.pointer (some ⟨pt, 0, none⟩), .int .i64 place] w' fun e w'' => e = .returned (.int .i64 part) ∧ Below w1.heap.size w1 w'' ∧ Below w'.heap.size w' w'' := fun w' hb =>
    (s_at pt m L place g w' _ (h2.below hb).swap).mono fun e w'' ⟨x, y⟩ => ⟨hpart ▸ x, hb.trans (y.mono hb.size), y⟩
  have hB : ∀ w', Below w1.heap.size w1 w' → Calls Try.prog 26 #[.pointer (some ⟨pc, 0, none⟩), .int .i64 place] w' fun e w'' => e = .returned (.bool first) ∧ Below w1.heap.size w1 w'' ∧ Below w'.heap.size w' w'' := fun w' hb =>
    (s_begins pc pt fv n place U m L place g w' _ (h2.below hb)).mono fun e w'' ⟨x, y⟩ => ⟨hfirst ▸ x, hb.trans (y.mono hb.size), y⟩
  go_cut [3] (fun v wx => NextCut w1 n place part first v wx)
  case first =>
    go_region_held3 (fun w' => w'.cell? ⟨pc, 0, none⟩ = some (.pointer (some ⟨pt, 0, none⟩)) ∧ w'.cell? ⟨pc, 2, none⟩ = some (.int .i64 n) ∧ w'.cell? ⟨pc, 3, none⟩ = some (.int .i64 place)) (exact hS _ (by repeat (first | with_reducible exact Below.refl _ _ | with_reducible assumption | with_reducible refine below_drewN ?_ _ | with_reducible refine Below.drew ?_ | with_reducible refine Below.setCell ?_ (by first | omega | (simp <;> omega)) _ | with_reducible refine Below.alloc ?_ (by first | omega | (simp <;> omega)) _)))
      ((first
        | (go_at_call 10; refine (hA _ (by repeat (first | with_reducible exact Below.refl _ _ | with_reducible assumption | with_reducible refine below_drewN ?_ _ | with_reducible refine Below.drew ?_ | with_reducible refine Below.setCell ?_ (by first | omega | (simp <;> omega)) _ | with_reducible refine Below.alloc ?_ (by first | omega | (simp <;> omega)) _))).mono ?_; rintro e w2 ⟨rfl, hb2, hB2⟩; have hs2 := hb2.size; (have hq := @tick_keep _ _ w1.heap.size hB2); (first | replace hq := hq (heap_alloc_new _ _) | replace hq := hq q0 | clear hq); (try obtain ⟨q0, q1, q2, q3, q4, q5, q6, q7, q8, q9⟩ := hq); clear hB2)
        | (go_at_call 26; refine (hB _ (by repeat (first | with_reducible exact Below.refl _ _ | with_reducible assumption | with_reducible refine below_drewN ?_ _ | with_reducible refine Below.drew ?_ | with_reducible refine Below.setCell ?_ (by first | omega | (simp <;> omega)) _ | with_reducible refine Below.alloc ?_ (by first | omega | (simp <;> omega)) _))).mono ?_; rintro e w3 ⟨rfl, hb3, hB3⟩; have hs3 := hb3.size; (first | ((have hq := @tick_keep _ _ w1.heap.size hB3); (first | replace hq := hq (heap_alloc_new _ _) | replace hq := hq q0 ); (try obtain ⟨q0, q1, q2, q3, q4, q5, q6, q7, q8, q9⟩ := hq)) | ((have hq := @tick_keep _ _ w2.heap.size hB3); (first | replace hq := hq (heap_alloc_new _ _) | replace hq := hq q0 ); (try obtain ⟨q0, q1, q2, q3, q4, q5, q6, q7, q8, q9⟩ := hq)) | skip); clear hB3)))
    all_goals
      go_wp2_with (fail)
      go_meet
      exact ⟨_, rfl, by omega, by simp [go_sem] <;> omega, by simp [go_sem, *], by simp [go_sem, *], by simp [go_sem, *], by simp [go_sem, *], by repeat (first | with_reducible exact Below.refl _ _ | with_reducible assumption | with_reducible refine below_drewN ?_ _ | with_reducible refine Below.drew ?_ | with_reducible refine Below.setCell ?_ (by first | omega | (simp <;> omega)) _ | with_reducible refine Below.alloc ?_ (by first | omega | (simp <;> omega)) _)⟩
  case rest =>
    obtain ⟨tb, rfl, ht1, ht2, t0, t1, t2, t3, hbc⟩ := hcut
    have hb2 : Below w.heap.size w wc := hb1.trans (hbc.mono hb1.size)
    have h3 := h2.below hbc
    have k0 := h3.inv.c0
    have k2 := h3.inv.c2
    have k3 := h3.inv.c3
    have klt := h3.inv.lt
    have kf2 := h3.inv.free 2 (by omega)
    have kf3 := h3.inv.free 3 (by omega)
    have hx1 : ¬ tb = pc := by omega
    have hx2 : ¬ pc = tb := by omega
    have hx3 : ¬ tb = w.heap.size := by omega
    have hx4 : ¬ w.heap.size = tb := by omega
    have hx5 : ¬ pc = w.heap.size := by omega
    have hx6 : ¬ w.heap.size = pc := by omega
    have r1 : wc.heap[w.heap.size]? = some (.cells #[.int .i64 0, .int .i64 0, .int .i64 0, .bool false] 31) := (hbc.block _ hs1).trans r0
    go_upto_if 30 with (fail)
    go_cut [] (fun wx => BumpCut wc pc pt fv n place U part wx)
    case first =>
      rcases hat with rfl | ⟨hp1, hp2⟩
      · go_wp2_with (fail)
        go_meet
        exact ⟨Touch.refl _ _, by rw [bump_no]; exact h3.inv⟩
      · obtain ⟨k, rfl⟩ := Int.eq_ofNat_of_zero_le hp1
        have hk : k < 8 := by omega
        have hu := h3.inv.u k hk
        have hub := hU k hk
        have hfu := h3.inv.free (4 + k) (by omega)
        have hwr : IntKind.i64.wrap (U k + 1) = U k + 1 := IntWalk.i64_in _ ⟨by omega, by omega⟩
        go_upto_region 3 with fail
        go_region
        all_goals
          go_wp2_with (fail)
          go_meet
          exact ⟨by first | exact (Touch.setCell (S := (· = pc)) (Touch.refl _ _) (Or.inl rfl) _) | exact (Touch.setCell (S := (· = pc)) (Touch.refl _ _) (Or.inl rfl) _).drew, (h3.inv.setU k hk).heap rfl⟩
    case rest =>
      obtain ⟨T3, cc⟩ := hcut
      have h4 := h3.clk_set T3 cc
      have t0 := keepT T3 ht2 hx1 t0
      have t1 := keepT T3 ht2 hx1 t1
      have t2 := keepT T3 ht2 hx1 t2
      have t3 := keepT T3 ht2 hx1 t3
      have r1 := (T3.block _ (by have := hbc.size; omega) hx6).trans r1
      have ht2' : tb < wc.heap.size := Nat.lt_of_lt_of_le ht2 T3.size
      clear k0 k2 k3 kf2 kf3 klt
      have k2 := cc.c2
      have kf2 := cc.free 2 (by omega)
      have hwr : IntKind.i64.wrap (n + 1) = n + 1 := IntWalk.i64_in _ ⟨by omega, by omega⟩
      go_upto_region 5 with fail
      clear hwr
      obtain ⟨w5, hw5⟩ : ∃ w5, w5 = wc.setCell ⟨pc, 2, none⟩ (.int .i64 (n + 1)) := ⟨_, rfl⟩
      have T5 : Touch (· = pc) wc w5 := by rw [hw5]; exact Touch.setCell (S := (· = pc)) (Touch.refl _ _) (Or.inl rfl) _
      have cd : ClockIn w5 pc pt fv (n + 1) place (bump U part) := by rw [hw5]; exact cc.set2 _
      rw [← hw5]
      clear hw5
      have h5 := h4.clk_set T5 cd
      have t0 := keepT T5 ht2' hx1 t0
      have t1 := keepT T5 ht2' hx1 t1
      have t2 := keepT T5 ht2' hx1 t2
      have t3 := keepT T5 ht2' hx1 t3
      have r1 := (T5.block _ (by have := hbc.size; have := T3.size; omega) hx6).trans r1
      have ht5 : tb < w5.heap.size := Nat.lt_of_lt_of_le ht2' T5.size
      have k0 := cd.c0
      have k3 := cd.c3
      have kf3 := cd.free 3 (by omega)
      have hT : ∀ w', Below w5.heap.size w5 w' → Calls Try.prog 27 #[.pointer (some ⟨pt, 0, none⟩)] w' fun e w'' => e = .returned (.int .i64 m) ∧ w' = w'' := fun w' hb => s_ticks pt m L g w' _ (h5.below hb).swap
      have hwr : IntKind.i64.wrap (place + 1) = place + 1 := IntWalk.i64_in _ ⟨by omega, by omega⟩
      have hm0 : (m == 0) = false := by simp; omega
      have hrem : (place + 1).tmod m = (place + 1) % m := Int.tmod_eq_emod_of_nonneg (by omega)
      have hq1 : 0 ≤ (place + 1) % m := Int.emod_nonneg _ (by omega)
      have hq2 : (place + 1) % m < m := Int.emod_lt_of_pos _ (by omega)
      have hwr2 : IntKind.i64.wrap ((place + 1) % m) = (place + 1) % m := IntWalk.i64_in _ ⟨by omega, by omega⟩
      go_region_with
        ((go_at_call 27; refine (hT _ (by repeat (first | with_reducible exact Below.refl _ _ | with_reducible assumption | with_reducible refine below_drewN ?_ _ | with_reducible refine Below.drew ?_ | with_reducible refine Below.setCell ?_ (by first | omega | (simp <;> omega)) _ | with_reducible refine Below.alloc ?_ (by first | omega | (simp <;> omega)) _))).mono ?_; rintro e w6 ⟨rfl, rfl⟩))
      clear hwr hwr2 hrem hT
      all_goals
        have T6 : Touch (· = pc) w5 (w5.setCell ⟨pc, 3, none⟩ (.int .i64 ((place + 1) % m))).drew := (Touch.setCell (S := (· = pc)) (Touch.refl _ _) (Or.inl rfl) _).drew
        have ce : ClockIn (w5.setCell ⟨pc, 3, none⟩ (.int .i64 ((place + 1) % m))).drew pc pt fv (n + 1) ((place + 1) % m) (bump U part) := (cd.set3 _).heap rfl
        have h6 := back _ _ _ _ _ (h5.clk_set T6 ce)
        go_wp2_with (fail)
        refine (s_turn pc m L stg (n + 1) ((place + 1) % m) (bump U part) g _ _ h6).mono ?_
        rintro e w7 ⟨rfl, h7, T7⟩
        have T67 := T6.trans T7
        have t0 := keepT T67 ht5 hx1 t0
        have t1 := keepT T67 ht5 hx1 t1
        have t2 := keepT T67 ht5 hx1 t2
        have t3 := keepT T67 ht5 hx1 t3
        have r1 := (T67.block _ (by omega) hx6).trans r1
        obtain ⟨z0, z1, z2, z3, f0, f1, f2, f3⟩ := tick_cells r1
        go_wp2_with (fail)
        have h8 := h7.perm (show _ = Ytjacbcephokbbaa.pt w.heap.size (.cells #[.int .i64 0, .int .i64 0, .int .i64 0, .bool false] 31) * (ckP pc (turnT m L stg ((place + 1) % m)).1 (turnT m L stg ((place + 1) % m)).2 (turnS stg ((place + 1) % m)) (n + 1) ((place + 1) % m) (bump U part) * R) by ac_rfl)
        refine bodyPost_ret (v := .agg #[.int .i64 n, .int .i64 place, .int .i64 part, .bool first]) (by simp [results, Try.results9, go_sem, z0, z1, z2, z3]) rfl ⟨rfl, (h8.touch (S' := fun k => k = w.heap.size) (I' := fun _ => True) ?_ trivial (fun _ _ _ _ => trivial) (fun k hk => Or.inl hk) (fun k hk => ?_)).right⟩
        · exact Touch.setCell (S := (· = w.heap.size)) (Touch.setCell (S := (· = w.heap.size)) (Touch.setCell (S := (· = w.heap.size)) (Touch.setCell (S := (· = w.heap.size)) (Touch.refl _ _) (Or.inl rfl) _) (Or.inl rfl) _) (Or.inl rfl) _) (Or.inl rfl) _
        · subst hk
          have := heap_lt r1
          simpa [go_sem] using this

end Go.Proofs.Ytjacbcephokbbaa
