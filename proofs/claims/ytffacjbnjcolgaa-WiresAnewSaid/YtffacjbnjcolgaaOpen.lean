/- Opening a slice that came in: what is known of each of its elements, and their cells. -/
import Derived.Test.YtffacjbnjcolgaaFrame
import Derived.Deep.Slices
namespace Go.Proofs.Ytffacjbnjcolgaa
set_option linter.unusedSimpArgs false
set_option linter.unusedVariables false
set_option maxRecDepth 100000
open Go.ChangeShapes Go.WideShapes Go.ChangeAt Go.RowKit Go.Deep

variable {H : Type} {enc : TypeId × Value → H} {w : World} {base : Nat} {spare : Nat → Bool} {held : Bool}
theorem op_int {t : TypeId} {k : IntKind} (hu : Try.prog.underlying t = some (.int k)) {n : Nat} {c : Value} {r : DataW H × List MemPlace} (h : DataW.trod enc Try.prog w base spare held n t [c] = some r) :
    ∃ x, c = .int k x ∧ k.min ≤ x ∧ x ≤ k.max := by
  cases n with
  | zero => simp [DataW.trod] at h
  | succ n =>
    cases c <;> simp [DataW.trod, hu, Lit.wf] at h
    obtain ⟨⟨rfl, h1, h2⟩, _⟩ := h
    exact ⟨_, rfl, h1, h2⟩
theorem op_bool {t : TypeId} (hu : Try.prog.underlying t = some .bool) {n : Nat} {c : Value} {r : DataW H × List MemPlace} (h : DataW.trod enc Try.prog w base spare held n t [c] = some r) :
    ∃ x, c = .bool x := by
  cases n with
  | zero => simp [DataW.trod] at h
  | succ n =>
    cases c <;> simp [DataW.trod, hu] at h
    exact ⟨_, rfl⟩
theorem op_slice {t e : TypeId} (hu : Try.prog.underlying t = some (.slice e)) {n : Nat} {c : Value} {r : DataW H × List MemPlace} (h : DataW.trod enc Try.prog w base spare held n t [c] = some r) :
    ∃ a len cap, c = .slice a len cap := by
  rcases open_slice hu h with ⟨h1, _⟩ | ⟨ad, len', cap', m, n, D, Pl, h1, _⟩
  · simp at h1; exact ⟨_, _, _, h1⟩
  · simp at h1; exact ⟨_, _, _, h1⟩

theorem op_off (b off i : Nat) : (⟨b, off, none⟩ : Addr).add i = ⟨b, off + i, none⟩ := by
  unfold Addr.add; split
  · subst_vars; rfl
  · rfl

/-- A slice's elements: nothing, or what lies at an address. -/
def RowAt (w : World) (a : Option Addr) (len s : Nat) (P : Nat → List Value → Prop) : Prop :=
  len = 0 ∨ ∃ b off, a = some ⟨b, off, none⟩ ∧ b < w.heap.size ∧ ∀ i, i < len → ∃ cs, P i cs ∧ cs.length = s ∧ ∀ k, k < s → w.cell? ⟨b, off + i * s + k, none⟩ = cs[k]?

theorem row_open {T E : TypeId} {s : Nat} (hu : Try.prog.underlying T = some (.slice E)) (hs : Try.prog.cellsOf E = s) (h0 : 0 < s) {P : List Value → Prop}
    (hP : ∀ n cs r, DataW.trod enc Try.prog w base spare held n E cs = some r → P cs) {fuel : Nat} {a : Option Addr} {len cap : Nat} {r : DataW H × List MemPlace}
    (h : DataW.trod enc Try.prog w base spare held fuel T [.slice a len cap] = some r) : len ≤ cap ∧ cap ≤ maxLen ∧ RowAt w a len s (fun _ => P) := by
  rcases open_slice hu h with ⟨h1, _⟩ | ⟨ad, len', cap', m, n, D, Pl, h1, _, hl, hm, hmm, _, hel⟩
  · simp at h1
    obtain ⟨rfl, rfl, rfl⟩ := h1
    exact ⟨by omega, by unfold maxLen; omega, Or.inl rfl⟩
  · simp at h1
    obtain ⟨rfl, rfl, rfl⟩ := h1
    have hle : len ≤ m := by rw [hmm]; split <;> omega
    refine ⟨hl, hm, ?_⟩
    rw [hs] at hel
    by_cases hz : len = 0
    · exact Or.inl hz
    · obtain ⟨b, off, spot⟩ := ad
      have hspot : spot = none := by
        obtain ⟨cs, hc, _⟩ := hel 0 (by omega)
        obtain ⟨_, hlen, hcell⟩ := World.cells?_some hc
        have h1 := hcell 0 (by omega)
        rw [List.getElem?_eq_getElem (by omega)] at h1
        simpa [Addr.add] using World.cell?_spot h1
      subst hspot
      have hb : b < w.heap.size := by
        obtain ⟨cs, hc, _⟩ := hel 0 (by omega)
        have := World.cells?_block hc (by omega)
        simpa [op_off] using this
      refine Or.inr ⟨b, off, rfl, hb, fun i hi => ?_⟩
      obtain ⟨cs, hc, ht⟩ := hel i (by omega)
      obtain ⟨_, hlen, hcell⟩ := World.cells?_some hc
      refine ⟨cs, hP _ _ _ ht, hlen, fun k hk => ?_⟩
      have := hcell k hk
      simpa only [op_off] using this

/-- One number an element. -/
theorem ints_open {T E : TypeId} {k : IntKind} (hu : Try.prog.underlying T = some (.slice E)) (hE : Try.prog.underlying E = some (.int k)) (hs : Try.prog.cellsOf E = 1) {fuel : Nat} {a : Option Addr} {len cap : Nat} {r : DataW H × List MemPlace}
    (h : DataW.trod enc Try.prog w base spare held fuel T [.slice a len cap] = some r) : len ≤ cap ∧ cap ≤ maxLen ∧ ∃ V : Nat → Int, (∀ i, i < len → k.min ≤ V i ∧ V i ≤ k.max) ∧
      (len = 0 ∨ ∃ b off, a = some ⟨b, off, none⟩ ∧ b < w.heap.size ∧ ∀ i, i < len → w.cell? ⟨b, off + i, none⟩ = some (.int k (V i))) := by
  obtain ⟨h1, h2, h3⟩ := row_open (P := fun cs => ∃ x, cs = [.int k x] ∧ k.min ≤ x ∧ x ≤ k.max) hu hs (by omega) (fun n cs r ht => by
    cases n with
    | zero => simp [DataW.trod] at ht
    | succ n =>
      match cs, ht with
      | [c], ht => obtain ⟨x, rfl, hx⟩ := op_int hE ht; exact ⟨x, rfl, hx⟩
      | [], ht => simp [DataW.trod, hE] at ht
      | _ :: _ :: _, ht => simp [DataW.trod, hE] at ht) h
  refine ⟨h1, h2, ?_⟩
  rcases h3 with h0 | ⟨b, off, rfl, hb, hel⟩
  · exact ⟨fun _ => 0, fun i hi => by omega, Or.inl h0⟩
  · have hall : ∀ i, ∃ x : Int, i < len → (w.cell? ⟨b, off + i, none⟩ = some (.int k x) ∧ k.min ≤ x ∧ x ≤ k.max) := by
      intro i
      by_cases hi : i < len
      · obtain ⟨cs, ⟨x, rfl, hx⟩, _, hc⟩ := hel i hi
        exact ⟨x, fun _ => ⟨by simpa using hc 0 (by omega), hx⟩⟩
      · exact ⟨0, fun h => absurd h hi⟩
    obtain ⟨V, hV⟩ := Classical.skolem.1 hall
    exact ⟨V, fun i hi => (hV i hi).2, Or.inr ⟨b, off, rfl, hb, fun i hi => (hV i hi).1⟩⟩

end Go.Proofs.Ytffacjbnjcolgaa
