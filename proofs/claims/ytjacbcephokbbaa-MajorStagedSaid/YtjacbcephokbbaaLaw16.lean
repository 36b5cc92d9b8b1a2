/- What table of trunnionlaw16 returns and writes. -/
import Derived.Test.YtjacbcephokbbaaMajor4
namespace Go.Proofs.Ytjacbcephokbbaa
set_option linter.unusedSimpArgs false
set_option linter.unusedVariables false
set_option maxRecDepth 100000
open Go.RowKit
set_option maxHeartbeats 4000000

/-- A list of windows that was handed in lies in a world. -/
def SlotsAt (w : World) (a : Option Addr) (L : List Win) : Prop := L.length = 0 ∨ ∃ b off, a = some ⟨b, off, none⟩ ∧ ∀ i (_ : i < L.length), w.cell? ⟨b, off + i * 3, none⟩ = some (.int .i64 L[i].p) ∧ w.cell? ⟨b, off + i * 3 + 1, none⟩ = some (.int .i64 L[i].f) ∧ w.cell? ⟨b, off + i * 3 + 2, none⟩ = some (.int .i64 L[i].l)
def tabK (n : Int) (L : List Win) (k : Nat) : List Win := (L.take k).foldl (fun M x => placeL n M x.p x.f x.l) []
def tabF (n : Int) (L : List Win) : List Win := L.foldl (fun M x => placeL n M x.p x.f x.l) []
theorem tabK_zero (n : Int) (L : List Win) : tabK n L 0 = [] := by simp [tabK]
theorem tabK_succ (n : Int) (L : List Win) (k : Nat) (h : k < L.length) : tabK n L (k + 1) = placeL n (tabK n L k) L[k].p L[k].f L[k].l := by
  unfold tabK; rw [List.take_succ_eq_append_getElem h, List.foldl_append]; rfl
theorem tabK_all (n : Int) (L : List Win) : tabK n L L.length = tabF n L := by simp [tabK, tabF]

theorem table_no (n : Int) (a : Option Addr) (len cap : Nat) (w : World) (h : n < 1 ∨ 256 < n) : Calls Try.prog 7 #[.int .i64 n, .slice a len cap] w fun e w' => e = .returned (.pointer none) ∧ w = w' := by
  go_enter Try.func7, Try.ntmps7
  go_wp2_with (go_at_call 23; refine (slots_new_no n w (by omega)).mono ?_; rintro e w' ⟨rfl, rfl⟩)
  go_ret
  exact ⟨rfl, rfl⟩

theorem s_table (n : Int) (a : Option Addr) (cap : Nat) (L : List Win) (g w : World) (R : HP) (h : Sat g w R) (hk : ∀ w' Q, Sat g w' (Q * R) → SlotsAt w' a L) (hL : L.length ≤ 9223372036854775807) (h1 : 1 ≤ n) (h2 : n ≤ 256) :
    Calls Try.prog 7 #[.int .i64 n, .slice a L.length cap] w (TabMade g n (tabF n L) R) := by
  go_enter Try.func7, Try.ntmps7
  go_wp2_with (go_at_call 23; refine (s_slotsnew n g w R h h1 h2).mono ?_; rintro e w2 ⟨pt, rfl, h3⟩)
  go_loopw [7] (fun i wr => ∃ k : Nat, k ≤ L.length ∧ i = .int .i64 k ∧ Sat g wr (tabP pt n (tabK n L k) * R)) (fun i _ => L.length - (intOf i).toNat)
  case atStart => exact ⟨0, by omega, rfl, by rw [tabK_zero]; exact h3⟩
  case round =>
    obtain ⟨k, hk1, rfl, hs⟩ := hrel
    by_cases hlt : k < L.length
    · have i1 : (k : Int) < L.length := by omega
      rcases hk wr _ hs with h0 | ⟨b, off, rfl, hc⟩
      · omega
      have hS : ∀ w' M, Sat g w' (tabP pt n M * R) → w'.cell? ⟨b, off + k * 3, none⟩ = some (.int .i64 L[k].p) ∧ w'.cell? ⟨b, off + k * 3 + 1, none⟩ = some (.int .i64 L[k].f) ∧ w'.cell? ⟨b, off + k * 3 + 2, none⟩ = some (.int .i64 L[k].l) := fun w' M hb => by
        rcases hk w' _ hb with h0 | ⟨b', off', e, hc'⟩
        · omega
        · simp only [Option.some.injEq, Addr.mk.injEq] at e
          obtain ⟨rfl, rfl, -⟩ := e
          exact hc' k hlt
      obtain ⟨q0, q1, q2⟩ := hc k hlt
      have hsu := tabK_succ n L k hlt
      obtain ⟨x, hxx⟩ : ∃ x, L[k] = x := ⟨_, rfl⟩
      rw [hxx] at q0 q1 q2 hS hsu
      clear hxx hc
      have HP := Lib.hid (fun w' hb => s_place pt n (tabK n L k) x.p x.f x.l g w' R (Sat.below hs hb))
      have HSU := Lib.hid hsu
      clear hsu
      go_wp2_with (fail)
      go_region_held3 (fun w' => w'.cell? ⟨b, off + k * 3, none⟩ = some (.int .i64 x.p) ∧ w'.cell? ⟨b, off + k * 3 + 1, none⟩ = some (.int .i64 x.f) ∧ w'.cell? ⟨b, off + k * 3 + 2, none⟩ = some (.int .i64 x.l)) (exact hS _ _ (by first | assumption | exact Sat.drew (by assumption)))
        ((go_at_call 24
          refine (HP.out _ (by repeat (first | with_reducible exact Below.refl _ _ | with_reducible assumption | with_reducible refine below_drewN ?_ _ | with_reducible refine Below.drew ?_ | with_reducible refine Below.setCell ?_ (by first | omega | (simp <;> omega)) _ | with_reducible refine Below.alloc ?_ (by first | omega | (simp <;> omega)) _))).mono ?_
          rintro e w4 ⟨rfl, h4⟩))
      rw [← HSU.out] at h4
      go_wp2_with (fail)
      go_roundw
      case rel => exact ⟨k + 1, by omega, by go_num, h4⟩
      case measure => simp [intOf]; omega
    · obtain rfl : k = L.length := by omega
      rw [tabK_all] at hs
      go_wp2_with (fail)
      go_ret
      exact ⟨pt, rfl, hs⟩

end Go.Proofs.Ytjacbcephokbbaa
