/- The calls of layer 19 that came in. -/
import Derived.Test.YtffacjbnjcolgaaWAt
import Derived.Test.YtffacjbnjcolgaaSame17
namespace Go.Proofs.Ytffacjbnjcolgaa
set_option linter.unusedSimpArgs false
set_option linter.unusedVariables false
set_option maxRecDepth 100000
open Go.RowKit
set_option maxHeartbeats 1000000

/-- A call: what is done; wire, from, to, kind, time; words. -/
structure Op19 where
  d : Int
  id : Int
  fr : Int
  to_ : Int
  kind : Int
  now : Int
  v : Value
  ws : List Int
/-- Words that came in. -/
structure ArgW (w : World) (v : Value) (L : List Int) : Prop where
  src : SrcN w v L
  at_ : ∃ a c, v = .slice a L.length c ∧ WordAt w a L
  few : L.length ≤ 9223372036854775807
theorem ArgW.below {w w' : World} {v : Value} {L : List Int} (h : ArgW w v L) (hb : Below w.heap.size w w') : ArgW w' v L :=
  ⟨h.src.below hb, by obtain ⟨a, c, e, h1⟩ := h.at_; exact ⟨a, c, e, h1.below hb⟩, h.few⟩
structure Op19At (w : World) (b off : Nat) (o : Op19) : Prop where
  c0 : w.cell? ⟨b, off, none⟩ = some (.int .i64 o.d)
  c1 : w.cell? ⟨b, off + 1, none⟩ = some (.int .i64 o.id)
  c2 : w.cell? ⟨b, off + 2, none⟩ = some (.int .i64 o.fr)
  c3 : w.cell? ⟨b, off + 3, none⟩ = some (.int .i64 o.to_)
  c4 : w.cell? ⟨b, off + 4, none⟩ = some (.int .i64 o.kind)
  c5 : w.cell? ⟨b, off + 5, none⟩ = some (.int .i64 o.now)
  c6 : w.cell? ⟨b, off + 6, none⟩ = some o.v
  arg : ArgW w o.v o.ws
  bd : o.now ≤ 9223372036854775807
theorem Op19At.below {w w' : World} {b off : Nat} {o : Op19} (h : Op19At w b off o) (hb : Below w.heap.size w w') : Op19At w' b off o :=
  ⟨keep hb (cell_lt17 h.c0) h.c0, keep hb (cell_lt17 h.c0) h.c1, keep hb (cell_lt17 h.c0) h.c2, keep hb (cell_lt17 h.c0) h.c3, keep hb (cell_lt17 h.c0) h.c4, keep hb (cell_lt17 h.c0) h.c5, keep hb (cell_lt17 h.c0) h.c6, h.arg.below hb, h.bd⟩
def Ops19 (w : World) (a : Option Addr) (len : Nat) (L : Nat → Op19) : Prop := len = 0 ∨ ∃ b off, a = some ⟨b, off, none⟩ ∧ b < w.heap.size ∧ ∀ i, i < len → Op19At w b (off + i * 7) (L i)
theorem Ops19.kept {g : World} {a : Option Addr} {len : Nat} {L : Nat → Op19} (h : Ops19 g a len L) : ∀ k, k < len → ∃ b off, a = some ⟨b, off, none⟩ ∧ b < g.heap.size ∧ ∀ w', Below g.heap.size g w' → Op19At w' b (off + k * 7) (L k) := fun k hk => by
  rcases h with h | ⟨b, off, rfl, hb, h⟩
  · omega
  · exact ⟨b, off, rfl, hb, fun w' hw => (h k hk).below hw⟩
/-- The words of a slice whose cells are known. -/
theorem arg_words {w : World} {a : Option Addr} {len cap : Nat} {V : Nat → Int} (hm : len ≤ 9223372036854775807) (h : len = 0 ∨ ∃ b off, a = some ⟨b, off, none⟩ ∧ b < w.heap.size ∧ ∀ i, i < len → w.cell? ⟨b, off + i, none⟩ = some (.int .u64 (V i))) :
    ∃ L : List Int, L.length = len ∧ ArgW w (.slice a len cap) L := by
  refine ⟨(List.range len).map V, by simp, ?_, ⟨a, cap, by simp, ?_⟩, by simpa using hm⟩
  · rcases h with rfl | ⟨b, off, rfl, hb, hc⟩
    · exact Or.inl ⟨rfl, a, cap, rfl⟩
    · refine Or.inr ⟨by simp [uC], Or.inr ⟨b, off, cap, by simp, fun j u hj => ?_, fun _ => hb⟩⟩
      have hl := (List.getElem?_eq_some_iff.1 hj).1
      simp [uC] at hl
      simp [uC, hl] at hj
      rw [← hj]; exact hc j hl
  · rcases h with rfl | ⟨b, off, rfl, hb, hc⟩
    · exact Or.inl rfl
    · refine Or.inr ⟨b, off, rfl, fun j hj => ?_⟩
      simp at hj
      simp
      exact hc j hj

end Go.Proofs.Ytffacjbnjcolgaa
