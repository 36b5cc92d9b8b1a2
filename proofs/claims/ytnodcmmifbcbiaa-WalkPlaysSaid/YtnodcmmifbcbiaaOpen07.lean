/- Opening a list of entries that came in: its cells. -/
import Derived.Test.YtnodcmmifbcbiaaFrame
import Derived.Test.YtnodcmmifbcbiaaOps07
import Derived.Deep.Slices
namespace Go.Proofs.Ytnodcmmifbcbiaa
set_option linter.unusedSimpArgs false
set_option linter.unusedVariables false
open Go.ChangeShapes Go.WideShapes Go.ChangeAt Go.RowKit Go.Deep

variable {H : Type} {enc : TypeId × Value → H} {w : World} {base : Nat} {spare : Nat → Bool} {held : Bool}
/-- A cell that holds a number of kind k; a truth. -/
theorem scal_int {t : TypeId} {k : IntKind} (hu : Try.prog.underlying t = some (.int k)) {n : Nat} {c : Value} {r : DataW H × List MemPlace} (h : DataW.trod enc Try.prog w base spare held n t [c] = some r) :
    ∃ x, c = .int k x ∧ k.min ≤ x ∧ x ≤ k.max := by
  cases n with
  | zero => simp [DataW.trod] at h
  | succ n =>
    cases c <;> simp [DataW.trod, hu, Lit.wf] at h
    obtain ⟨⟨rfl, h1, h2⟩, _⟩ := h
    exact ⟨_, rfl, h1, h2⟩
theorem scal_bool {t : TypeId} (hu : Try.prog.underlying t = some .bool) {n : Nat} {c : Value} {r : DataW H × List MemPlace} (h : DataW.trod enc Try.prog w base spare held n t [c] = some r) :
    ∃ x, c = .bool x := by
  cases n with
  | zero => simp [DataW.trod] at h
  | succ n =>
    cases c <;> simp [DataW.trod, hu] at h
    exact ⟨_, rfl⟩

theorem entry_open {n : Nat} {cs : List Value} {r : DataW H × List MemPlace} (h : DataW.trod enc Try.prog w base spare held n 34 cs = some r) :
    ∃ (x0 : Bool) (x1 : Bool) (x2 : Bool) (x3 : Int), cs = [.bool x0, .bool x1, .bool x2, .int .i64 x3] ∧ (IntKind.i64.min ≤ x3 ∧ x3 ≤ IntKind.i64.max) := by
  have c34 : Try.prog.cellsOf 34 = 4 := by kernel_rfl
  have c4 : Try.prog.cellsOf 4 = 1 := by kernel_rfl
  have c3 : Try.prog.cellsOf 3 = 1 := by kernel_rfl
  cases n with
  | zero => simp [DataW.trod] at h
  | succ n =>
    simp only [DataW.trod, Try.underlying34] at h
    split at h
    · rename_i hl
      rw [c34] at hl
      match cs, hl with
      | [c_0, c_1, c_2, c_3], _ =>
      simp [c4, c3, List.mapM_cons, Option.bind_eq_some_iff] at h
      obtain ⟨_, _, e0, _, ⟨_, _, e1, _, ⟨_, _, e2, _, ⟨_, _, e3, _⟩, _⟩, _⟩, _⟩ := h
      obtain ⟨y0, rfl⟩ := scal_bool Try.underlying4 e0
      obtain ⟨y1, rfl⟩ := scal_bool Try.underlying4 e1
      obtain ⟨y2, rfl⟩ := scal_bool Try.underlying4 e2
      obtain ⟨y3, rfl, b3⟩ := scal_int Try.underlying3 e3
      exact ⟨y0, y1, y2, y3, rfl, b3⟩
    · cases h

theorem op07_open {n : Nat} {cs : List Value} {r : DataW H × List MemPlace} (h : DataW.trod enc Try.prog w base spare held n 52 cs = some r) :
    ∃ (x0 : Int) (x1 : Int) (x2 : Bool) (x3 : Bool) (x4 : Bool) (x5 : Int) (x6 : Bool) (x7 : Int), cs = [.int .i64 x0, .int .i64 x1, .bool x2, .bool x3, .bool x4, .int .i64 x5, .bool x6, .int .u64 x7] ∧ (IntKind.i64.min ≤ x0 ∧ x0 ≤ IntKind.i64.max) ∧ (IntKind.i64.min ≤ x1 ∧ x1 ≤ IntKind.i64.max) ∧ (IntKind.i64.min ≤ x5 ∧ x5 ≤ IntKind.i64.max) ∧ (IntKind.u64.min ≤ x7 ∧ x7 ≤ IntKind.u64.max) := by
  have c52 : Try.prog.cellsOf 52 = 8 := by kernel_rfl
  have c3 : Try.prog.cellsOf 3 = 1 := by kernel_rfl
  have c34 : Try.prog.cellsOf 34 = 4 := by kernel_rfl
  have c4 : Try.prog.cellsOf 4 = 1 := by kernel_rfl
  have c35 : Try.prog.cellsOf 35 = 1 := by kernel_rfl
  cases n with
  | zero => simp [DataW.trod] at h
  | succ n =>
    simp only [DataW.trod, Try.underlying52] at h
    split at h
    · rename_i hl
      rw [c52] at hl
      match cs, hl with
      | [c_0, c_1, c_2, c_3, c_4, c_5, c_6, c_7], _ =>
      simp [c34, c4, c3, c35, List.mapM_cons, Option.bind_eq_some_iff] at h
      obtain ⟨_, _, e0, _, ⟨_, _, e1, _, ⟨_, _, e2, _, ⟨_, _, e3, _, ⟨_, _, e4, _⟩, _⟩, _⟩, _⟩, _⟩ := h
      obtain ⟨y0, rfl, b0⟩ := scal_int Try.underlying3 e0
      obtain ⟨y1, rfl, b1⟩ := scal_int Try.underlying3 e1
      obtain ⟨y2, y3, y4, y5, g2, b5⟩ := entry_open e2
      simp only [List.cons.injEq, and_true] at g2
      obtain ⟨rfl, rfl, rfl, rfl⟩ := g2
      obtain ⟨y6, rfl⟩ := scal_bool Try.underlying4 e3
      obtain ⟨y7, rfl, b7⟩ := scal_int Try.underlying35 e4
      exact ⟨y0, y1, y2, y3, y4, y5, y6, y7, rfl, b0, b1, b5, b7⟩
    · cases h


theorem add_off (b off i : Nat) : (⟨b, off, none⟩ : Addr).add i = ⟨b, off + i, none⟩ := by
  unfold Addr.add; split
  · subst_vars; rfl
  · rfl

theorem ops_open {W : World} {a : Option Addr} {len cap : Nat} {d : DataW H} {p : List MemPlace} (h : DataW.Trod enc Try.prog W 0 (fun _ => true) true 41 (.slice a len cap) d p) :
    ∃ L : Nat → Op7, OpsArg W a len L ∧ len ≤ 9223372036854775807 ∧ ∀ i, i < len → (L i).ok := by
  obtain ⟨fuel, hf⟩ := h
  have c8 : Try.prog.cellsOf 52 = 8 := by kernel_rfl
  rcases open_slice Try.underlying41 hf with ⟨h1, _⟩ | ⟨ad, len', cap', m, n, D, Pl, h1, _, hl, hm, hmm, _, hel⟩
  · simp [Value.cells] at h1
    obtain ⟨rfl, rfl, rfl⟩ := h1
    exact ⟨fun _ => ⟨0, 0, false, false, false, 0, false, 0⟩, Or.inl rfl, by omega, fun i hi => by omega⟩
  · simp [Value.cells] at h1
    obtain ⟨rfl, rfl, rfl⟩ := h1
    have hm63 : len ≤ 9223372036854775807 := by unfold maxLen at hm; omega
    simp at hmm
    rw [c8] at hel
    by_cases h0 : len = 0
    · exact ⟨fun _ => ⟨0, 0, false, false, false, 0, false, 0⟩, Or.inl h0, hm63, fun i hi => by omega⟩
    · obtain ⟨b, off, spot⟩ := ad
      have hspot : spot = none := by
        obtain ⟨cs, hc, _⟩ := hel 0 (by omega)
        obtain ⟨_, hlen, hcell⟩ := World.cells?_some hc
        have h1 := hcell 0 (by omega)
        rw [List.getElem?_eq_getElem (by omega)] at h1
        simpa [Addr.add] using World.cell?_spot h1
      subst hspot
      have hall : ∀ i, ∃ o : Op7, i < len → (OpsAt W (b) (off + i * 8) 1 (fun _ => o) ∧ o.ok) := by
        intro i
        by_cases hi : i < len
        · obtain ⟨cs, hc, ht⟩ := hel i (by omega)
          obtain ⟨_, hlen, hcell⟩ := World.cells?_some hc
          obtain ⟨x0, x1, x2, x3, x4, x5, x6, x7, rfl, b0, b1, b5, b7⟩ := op07_open ht
          simp only [add_off] at hcell
          refine ⟨⟨x0, x1, x2, x3, x4, x5, x6, x7⟩, fun _ => ⟨fun k hk => ?_, b0, b1, b5, b7⟩⟩
          have hk0 : k = 0 := by omega
          subst hk0
          simp only [Nat.zero_mul, Nat.add_zero]
          exact ⟨by simpa using hcell 0 (by omega), by simpa using hcell 1 (by omega), by simpa using hcell 2 (by omega), by simpa using hcell 3 (by omega), by simpa using hcell 4 (by omega), by simpa using hcell 5 (by omega), by simpa using hcell 6 (by omega), by simpa using hcell 7 (by omega)⟩
        · exact ⟨⟨0, 0, false, false, false, 0, false, 0⟩, fun h => absurd h hi⟩
      obtain ⟨L, hL⟩ := Classical.skolem.1 hall
      have hb : b < W.heap.size := by
        obtain ⟨cs, hc, _⟩ := hel 0 (by omega)
        have := World.cells?_block hc (by omega)
        simpa [add_off] using this
      refine ⟨L, Or.inr ⟨b, off, rfl, hb, fun i hi => ?_⟩, hm63, fun i hi => (hL i hi).2⟩
      have := (hL i hi).1 0 (by omega)
      simpa using this

end Go.Proofs.Ytnodcmmifbcbiaa
