/- Lists of windows: as parts of a world; Same of package trunnionref15. -/
import Derived.Test.YtjacbcephokbbaaDoorMove
import Derived.Test.YtjacbcephokbbaaDoorClass
namespace Go.Proofs.YtjacbcephokbbaaDoor
set_option linter.unusedSimpArgs false
set_option linter.unusedVariables false
set_option maxRecDepth 100000
open Go.RowKit
set_option maxHeartbeats 8000000

/-- A list of windows that a call has made, as a part of its own. -/
theorem wins_part {g w w' : World} {L : List Win} {e : TypeId} {v : Value} {P : HP} (h : Sat g w P) (hb : Below w.heap.size w w') (hown : w'.ownsRow w.heap.size e 3 v L.length (winCells L)) :
    ∃ (Q : HP) (a : Option Addr) (cap : Nat), v = .slice a L.length cap ∧ Sat g w' (Q * P) ∧ ∀ w2 P', Sat g w2 (Q * P') → WinsAt w2 a L := by
  rcases hown.2 with ⟨h1, h2⟩ | ⟨gb, cap, cur, h1, hge, hh, _⟩
  · exact ⟨emp, none, 0, by rw [h1, h2], (h.below hb).emp, fun _ _ _ => Or.inl (List.length_eq_zero_iff.1 h2)⟩
  · have hgl := heap_lt hh
    refine ⟨YtjacbcephokbbaaDoor.pt gb (.cells cur e (0, 0)), some ⟨gb, 0, none⟩, cap, h1, h.new hb hh (loc_pt _ _) (fun k e => by rw [e]; exact hge) (fun k e => by rw [e]; exact hgl), fun w2 P' h2 => ?_⟩
    have e2 := h2.pt_heap.trans hh.symm
    refine Or.inr ⟨gb, rfl, h2.pt_lt, fun i hi => ?_⟩
    rw [h1] at hown
    obtain ⟨a, b, c⟩ := winCells_at L i hi
    exact ⟨(cell_of_heap e2 _).trans ((hown.cellAt (i * 3) (by omega)).trans a), (cell_of_heap e2 _).trans ((hown.cellAt (i * 3 + 1) (by omega)).trans b), (cell_of_heap e2 _).trans ((hown.cellAt (i * 3 + 2) (by omega)).trans c)⟩
theorem WinsAt.cells {w : World} {a : Option Addr} {L : List Win} (h : WinsAt w a L) {k : Nat} (hk : k < L.length) : ∃ b, a = some ⟨b, 0, none⟩ ∧ w.cell? ⟨b, k * 3, none⟩ = some (.int .i64 L[k].p) ∧ w.cell? ⟨b, k * 3 + 1, none⟩ = some (.int .i64 L[k].f) ∧ w.cell? ⟨b, k * 3 + 2, none⟩ = some (.int .i64 L[k].l) := by
  rcases h with h | ⟨b, rfl, _, h⟩
  · subst h; simp at hk
  · exact ⟨b, rfl, h k hk⟩
def SamePost (A B : List Win) (w : World) (e : Ending) (w' : World) : Prop := ∃ v, e = .returned (.bool v) ∧ (A = B → v = true) ∧ Below w.heap.size w w'
theorem same15 (a b : Option Addr) (ca cb : Nat) (A B : List Win) (w : World) (hA : WinsAt w a A) (hB : WinsAt w b B) (la : A.length ≤ 1000000) :
    Calls Tryd.prog 16 #[.slice a A.length ca, .slice b B.length cb] w (SamePost A B w) := by
  by_cases hl : A.length = B.length
  · have HA : Hid (∀ w', Below w.heap.size w w' → WinsAt w' a A) := Lib.hid fun w' hb => hA.below hb
    have HB : Hid (∀ w', Below w.heap.size w w' → WinsAt w' b B) := Lib.hid fun w' hb => hB.below hb
    clear hA hB
    have HL := Lib.hid hl
    generalize hn : B.length = n at hl ⊢
    have HN := Lib.hid hn
    clear hn
    rw [hl] at la ⊢
    clear hl
    go_enter Tryd.func16, Tryd.ntmps16
    go_wp2_with (fail)
    go_loopw [5] (fun i wr => ∃ k : Nat, k ≤ n ∧ i = .int .i64 k ∧ Below w.heap.size w wr) (fun i _ => n - (intOf i).toNat)
    case atStart => exact ⟨0, by omega, rfl, Below.refl _ _⟩
    case round =>
      obtain ⟨k, hk, rfl, hb⟩ := hrel
      by_cases hkl : k < n
      · have i1 : (k : Int) < n := by omega
        have lA : k < A.length := by have := HL.out; have := HN.out; omega
        have lB : k < B.length := by have := HN.out; omega
        obtain ⟨ba, rfl, p1, p2, p3⟩ := (HA.out wr hb).cells lA
        obtain ⟨bb, rfl, q1, q2, q3⟩ := (HB.out wr hb).cells lB
        have HE2 : Hid (A = B → A[k] = B[k]) := Lib.hid fun e => by subst e; rfl
        generalize A[k] = x at p1 p2 p3 HE2
        generalize B[k] = y at q1 q2 q3 HE2
        have hb2 : Below w.heap.size w wr.drew := below_drew hb
        have m1 : ∀ z : Wc (fun w' => wr.drew = w'), z.w.cell? ⟨ba, k * 3, none⟩ = some (.int .i64 x.p) := fun z => by rw [← z.h]; exact p1
        have m2 : ∀ z : Wc (fun w' => wr.drew = w'), z.w.cell? ⟨ba, k * 3 + 1, none⟩ = some (.int .i64 x.f) := fun z => by rw [← z.h]; exact p2
        have m3 : ∀ z : Wc (fun w' => wr.drew = w'), z.w.cell? ⟨ba, k * 3 + 2, none⟩ = some (.int .i64 x.l) := fun z => by rw [← z.h]; exact p3
        have m4 : ∀ z : Wc (fun w' => wr.drew = w'), z.w.cell? ⟨bb, k * 3, none⟩ = some (.int .i64 y.p) := fun z => by rw [← z.h]; exact q1
        have m5 : ∀ z : Wc (fun w' => wr.drew = w'), z.w.cell? ⟨bb, k * 3 + 1, none⟩ = some (.int .i64 y.f) := fun z => by rw [← z.h]; exact q2
        have m6 : ∀ z : Wc (fun w' => wr.drew = w'), z.w.cell? ⟨bb, k * 3 + 2, none⟩ = some (.int .i64 y.l) := fun z => by rw [← z.h]; exact q3
        clear p1 p2 p3 q1 q2 q3 lA lB
        have hx : (x = y) ∨ ((x.p == y.p) = false) ∨ ((x.p == y.p) = true ∧ (x.f == y.f) = false) ∨ ((x.p == y.p) = true ∧ (x.f == y.f) = true ∧ (x.l == y.l) = false) := by
          by_cases e1 : x.p = y.p
          · by_cases e2 : x.f = y.f
            · by_cases e3 : x.l = y.l
              · exact Or.inl (by cases x; cases y; simp_all)
              · exact Or.inr (Or.inr (Or.inr ⟨by simp [e1], by simp [e2], by rw [beq_eq_false_iff_ne]; exact e3⟩))
            · exact Or.inr (Or.inr (Or.inl ⟨by simp [e1], by rw [beq_eq_false_iff_ne]; exact e2⟩))
          · exact Or.inr (Or.inl (by rw [beq_eq_false_iff_ne]; exact e1))
        rcases hx with hx | hx
        · have e1 : y.p = x.p := by rw [hx]
          have e2 : y.f = x.f := by rw [hx]
          have e3 : y.l = x.l := by rw [hx]
          rw [e1] at m4; rw [e2] at m5; rw [e3] at m6
          clear hx e1 e2 e3 HE2
          go_wp2_with (fail)
          (refine region_class (fun w' => wr.drew = w') (by kernel_rfl) (by kernel_rfl) (rfl) ?_; intro _; (repeat (first | go_big_quiet_step ((fail)) | quiet_step ((fail)))); refine wpQuiet_nil ?_; intro wz hz)
          subst hz
          clear m1 m2 m3 m4 m5 m6
          go_wp2_with (fail)
          go_roundw
          case rel => exact ⟨k + 1, by omega, by go_num, hb2⟩
          case measure => simp [intOf]; omega
        · have hne : A = B → False := fun e => by
            have e2 := HE2.out e
            rw [e2] at hx
            simp at hx
          have HNE := Lib.hid hne
          clear hne HE2
          rcases hx with g1 | ⟨g1, g2⟩ | ⟨g1, g2, g3⟩
          all_goals
            go_wp2_with (fail)
            (refine region_class (fun w' => wr.drew = w') (by kernel_rfl) (by kernel_rfl) (rfl) ?_; intro _; (repeat (first | go_big_quiet_step ((fail)) | quiet_step ((fail)))); refine wpQuiet_nil ?_; intro wz hz)
            subst hz
            clear m1 m2 m3 m4 m5 m6
            go_wp2_with (fail)
            go_ret
            exact ⟨false, rfl, fun e => (HNE.out e).elim, hb2⟩
      · obtain rfl : n = k := by omega
        go_wp2_with (fail)
        go_ret
        exact ⟨true, rfl, fun _ => rfl, hb⟩
  · have hne : A = B → False := fun e => hl (by rw [e])
    have HNE := Lib.hid hne
    have g1 : decide ((A.length : Int) = (B.length : Int)) = false := decide_eq_false (by omega)
    have g2 : ((A.length : Int) != (B.length : Int)) = true := by rw [bne_iff_ne]; omega
    clear hne
    go_enter Tryd.func16, Tryd.ntmps16
    go_wp2_with (fail)
    go_ret
    exact ⟨false, rfl, fun e => (HNE.out e).elim, Below.refl _ _⟩

end Go.Proofs.YtjacbcephokbbaaDoor
