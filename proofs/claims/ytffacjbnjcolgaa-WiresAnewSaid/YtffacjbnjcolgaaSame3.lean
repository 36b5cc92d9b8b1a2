/- Same of package trunnionref03: are two lists of numbers alike? -/
import Derived.Test.YtffacjbnjcolgaaBase
import Derived.Test.YtffacjbnjcolgaaClass
namespace Go.Proofs.Ytffacjbnjcolgaa
set_option linter.unusedSimpArgs false
set_option linter.unusedVariables false
set_option maxRecDepth 100000
open Go.RowKit
set_option maxHeartbeats 4000000

/-- The cells of a list of numbers. -/
def ListAt (w : World) (a : Option Addr) (L : List Int) : Prop := L = [] ∨ ∃ b off, a = some ⟨b, off, none⟩ ∧ ∀ j (_ : j < L.length), w.cell? ⟨b, off + j, none⟩ = some (.int .i64 L[j])
theorem cell_lt3 {w : World} {b o : Nat} {v : Value} (h : w.cell? ⟨b, o, none⟩ = some v) : b < w.heap.size := by
  rcases Nat.lt_or_ge b w.heap.size with h' | h'
  · exact h'
  · unfold World.cell? at h
    rw [Array.getElem?_eq_none h'] at h; cases h
theorem ListAt.below {w w' : World} {a : Option Addr} {L : List Int} (h : ListAt w a L) (hb : Below w.heap.size w w') : ListAt w' a L := by
  rcases h with h | ⟨b, off, rfl, h⟩
  · exact Or.inl h
  · exact Or.inr ⟨b, off, rfl, fun j hj => keep hb (cell_lt3 (h j hj)) (h j hj)⟩
theorem ListAt.cell {w : World} {a : Option Addr} {L : List Int} (h : ListAt w a L) {k : Nat} (hk : k < L.length) : ∃ b off, a = some ⟨b, off, none⟩ ∧ w.cell? ⟨b, off + k, none⟩ = some (.int .i64 L[k]) := by
  rcases h with h | ⟨b, off, rfl, h⟩
  · subst h; simp at hk
  · exact ⟨b, off, rfl, h k hk⟩

theorem same3 (a b : Option Addr) (ca cb : Nat) (A B : List Int) (w : World) (hA : ListAt w a A) (hB : ListAt w b B) (la : A.length ≤ 1000000) :
    Calls Try.prog 15 #[.slice a A.length ca, .slice b B.length cb] w fun e w' => e = .returned (.bool (decide (A = B))) ∧ Below w.heap.size w w' := by
  by_cases hl : A.length = B.length
  · have HA : Hid (∀ w', Below w.heap.size w w' → ListAt w' a A) := Lib.hid fun w' hb => hA.below hb
    have HB : Hid (∀ w', Below w.heap.size w w' → ListAt w' b B) := Lib.hid fun w' hb => hB.below hb
    clear hA hB
    have HL := Lib.hid hl
    generalize hn : B.length = n at hl ⊢
    have HN := Lib.hid hn
    clear hn
    rw [hl] at la ⊢
    clear hl
    go_enter Try.func15, Try.ntmps15
    go_wp2_with (fail)
    go_loopw [5] (fun i wr => ∃ k : Nat, k ≤ n ∧ i = .int .i64 k ∧ Hid (∀ j, j < k → A[j]? = B[j]?) ∧ Below w.heap.size w wr) (fun i _ => n - (intOf i).toNat)
    case atStart => exact ⟨0, by omega, rfl, Lib.hid (fun j hj => by omega), Below.refl _ _⟩
    case round =>
      obtain ⟨k, hk, rfl, HK, hb⟩ := hrel
      by_cases hkl : k < n
      · have i1 : (k : Int) < n := by omega
        have lA : k < A.length := by have := HL.out; have := HN.out; omega
        have lB : k < B.length := by have := HN.out; omega
        obtain ⟨ba, oa, rfl, q1⟩ := (HA.out wr hb).cell lA
        obtain ⟨bb, ob, rfl, q2⟩ := (HB.out wr hb).cell lB
        have HE : Hid (A[k] = B[k] → A[k]? = B[k]?) := Lib.hid fun e => by rw [List.getElem?_eq_getElem lA, List.getElem?_eq_getElem lB, e]
        have HE2 : Hid (A = B → A[k] = B[k]) := Lib.hid fun e => by subst e; rfl
        generalize A[k] = x at q1 HE HE2
        generalize B[k] = y at q2 HE HE2
        have hb2 : Below w.heap.size w wr.drew := below_drew hb
        have m1 : ∀ z : Wc (fun w' => wr.drew = w'), z.w.cell? ⟨ba, oa + k, none⟩ = some (.int .i64 x) := fun z => by rw [← z.h]; exact q1
        have m2 : ∀ z : Wc (fun w' => wr.drew = w'), z.w.cell? ⟨bb, ob + k, none⟩ = some (.int .i64 y) := fun z => by rw [← z.h]; exact q2
        clear q1 q2 lA lB
        by_cases hxy : x = y
        · have HK' : Hid (∀ j, j < k + 1 → A[j]? = B[j]?) := Lib.hid fun j hj => by
            by_cases e : j = k
            · subst e; exact HE.out hxy
            · exact HK.out j (by omega)
          have g1 : (x != y) = false := by simp [hxy]
          clear hxy HE HE2
          go_wp2_with (fail)
          (refine region_class (fun w' => wr.drew = w') (by kernel_rfl) (by kernel_rfl) (rfl) ?_; intro _; (repeat (first | go_big_quiet_step ((fail)) | quiet_step ((fail)))); refine wpQuiet_nil ?_; intro wz hz)
          subst hz
          clear m1 m2
          go_wp2_with (fail)
          go_roundw
          case rel => exact ⟨k + 1, by omega, by go_num, HK', hb2⟩
          case measure => simp [intOf]; omega
        · have hne : decide (A = B) = false := decide_eq_false fun e => hxy (HE2.out e)
          have g1 : (x != y) = true := by simp [hxy]
          have HNE := Lib.hid hne
          clear hxy HE HE2 hne
          go_wp2_with (fail)
          (refine region_class (fun w' => wr.drew = w') (by kernel_rfl) (by kernel_rfl) (rfl) ?_; intro _; (repeat (first | go_big_quiet_step ((fail)) | quiet_step ((fail)))); refine wpQuiet_nil ?_; intro wz hz)
          subst hz
          clear m1 m2
          go_wp2_with (fail)
          go_ret
          exact ⟨by rw [HNE.out]; rfl, hb2⟩
      · obtain rfl : n = k := by omega
        have heq : decide (A = B) = true := decide_eq_true (List.ext_getElem? fun j => by
          by_cases hj : j < n
          · exact HK.out j hj
          · rw [List.getElem?_eq_none (by have := HL.out; have := HN.out; omega), List.getElem?_eq_none (by have := HN.out; omega)])
        have HEQ := Lib.hid heq
        clear heq
        go_wp2_with (fail)
        go_ret
        exact ⟨by rw [HEQ.out]; rfl, hb⟩
  · have hne : decide (A = B) = false := decide_eq_false fun e => hl (by rw [e])
    have HNE := Lib.hid hne
    have g1 : decide ((A.length : Int) = (B.length : Int)) = false := decide_eq_false (by omega)
    have g2 : ((A.length : Int) != (B.length : Int)) = true := by rw [bne_iff_ne]; omega
    clear hne
    go_enter Try.func15, Try.ntmps15
    go_wp2_with (fail)
    go_ret
    exact ⟨by rw [HNE.out]; rfl, Below.refl _ _⟩

end Go.Proofs.Ytffacjbnjcolgaa
