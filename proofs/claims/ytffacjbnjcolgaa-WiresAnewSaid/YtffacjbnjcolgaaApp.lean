/- append with a source whose cells are known, nil let in; what it leaves alone. -/
import Derived.Test.YtffacjbnjcolgaaBase
import Derived.Maps.AppendAt
import Derived.Laws.AppendOwnNone
import Derived.Deep.RegionHeld3
import Derived.Deep.AppendLies
namespace Go.Proofs.Ytffacjbnjcolgaa
set_option linter.unusedSimpArgs false
set_option linter.unusedVariables false
set_option maxRecDepth 100000
open Go.RowKit

/-- A slice's value whose cells are known. -/
def Src (w : World) (size : Nat) (v : Value) (m : Nat) (xs : List Value) : Prop :=
  xs.length = m * size ∧ ((v = .slice none 0 0 ∧ m = 0) ∨ ∃ b o c, v = .slice (some ⟨b, o, none⟩) m c ∧ (∀ j u, xs[j]? = some u → w.cell? ⟨b, o + j, none⟩ = some u) ∧ (0 < xs.length → b < w.heap.size))
theorem Src.below {w w' : World} {size m : Nat} {v : Value} {xs : List Value} (h : Src w size v m xs) (hb : Below w.heap.size w w') : Src w' size v m xs := by
  refine ⟨h.1, ?_⟩
  rcases h.2 with h | ⟨b, o, c, hv, hc, hl⟩
  · exact Or.inl h
  · exact Or.inr ⟨b, o, c, hv, fun j u hj => by
      have hlt := hl (by have := (List.getElem?_eq_some_iff.1 hj).1; omega)
      rw [hb.cell (p := ⟨b, o + j, none⟩) hlt]; exact hc j u hj, fun h0 => Nat.lt_of_lt_of_le (hl h0) hb.size⟩
theorem Src.keep {w w' : World} {size m : Nat} {v : Value} {xs : List Value} (h : Src w size v m xs) (hb : ∀ b, v.ownBlock = some b → b < w.heap.size → w'.heap[b]? = w.heap[b]?) (hs : w.heap.size ≤ w'.heap.size) : Src w' size v m xs := by
  refine ⟨h.1, ?_⟩
  rcases h.2 with h | ⟨b, o, c, rfl, hc, hl⟩
  · exact Or.inl h
  · exact Or.inr ⟨b, o, c, rfl, fun j u hj => by
      have hlt := hl (by have := (List.getElem?_eq_some_iff.1 hj).1; omega)
      rw [cell_of_heap (hb b rfl hlt)]; exact hc j u hj, fun h0 => Nat.lt_of_lt_of_le (hl h0) hs⟩
theorem Src.own {w : World} {base e size n : Nat} {v : Value} {xs : List Value} (h : w.ownsRow base e size v n xs) : Src w size v n xs := by
  refine ⟨h.1, ?_⟩
  rcases h.2 with h2 | ⟨g, cap, cur, rfl, hg, hh, r⟩
  · exact Or.inl h2
  · refine Or.inr ⟨g, 0, cap, rfl, fun j u hj => ?_, fun _ => ?_⟩
    · have hl := (List.getElem?_eq_some_iff.1 hj).1
      rw [Nat.zero_add, World.ownsRow.cellAt h j (by have := h.1; omega)]; exact hj
    · exact (World.ownsRow.lt h g rfl).2
theorem Src.take {w : World} {size n c : Nat} {a : Option Addr} {xs : List Value} (h : Src w size (.slice a n c) n xs) (k : Nat) (hk : k ≤ n) (hn : 0 < n) : Src w size (.slice a k c) k (xs.take (k * size)) := by
  refine ⟨by rw [List.length_take, h.1]; exact Nat.min_eq_left (Nat.mul_le_mul_right _ hk), ?_⟩
  rcases h.2 with ⟨_, h2⟩ | ⟨b, o, c', hv, hc, hl⟩
  · omega
  · simp only [Value.slice.injEq] at hv
    obtain ⟨rfl, -, rfl⟩ := hv
    refine Or.inr ⟨b, o, c, rfl, fun j u hj => hc j u ?_, fun h0 => hl (by rw [List.length_take] at h0; omega)⟩
    have hl := (List.getElem?_eq_some_iff.1 hj).1
    rw [List.getElem?_take_of_lt (by rw [List.length_take] at hl; omega)] at hj
    exact hj
theorem Src.drop {w : World} {size n c b o : Nat} {xs : List Value} (h : Src w size (.slice (some ⟨b, o, none⟩) n c) n xs) (k : Nat) (hk : k ≤ n) : Src w size (.slice (some ⟨b, o + k * size, none⟩) (n - k) (c - k)) (n - k) (xs.drop (k * size)) := by
  refine ⟨by rw [List.length_drop, h.1, Nat.sub_mul], ?_⟩
  rcases h.2 with ⟨h1, _⟩ | ⟨b', o', c', hv, hc, hl⟩
  · cases h1
  · simp only [Value.slice.injEq, Option.some.injEq, Addr.mk.injEq] at hv
    obtain ⟨⟨rfl, rfl, -⟩, -, rfl⟩ := hv
    refine Or.inr ⟨b, o + k * size, _, rfl, fun j u hj => ?_, fun h0 => hl (by rw [List.length_drop] at h0; omega)⟩
    rw [List.getElem?_drop] at hj
    rw [Nat.add_assoc]; exact hc _ _ hj
theorem Src.nil {w : World} {size : Nat} (a : Option Addr) (c b o : Nat) : Src w size (.slice (some ⟨b, o, none⟩) 0 c) 0 [] := ⟨by simp, Or.inr ⟨b, o, c, rfl, fun j u h => by simp at h, fun h => by simp at h⟩⟩

section
variable {P : Program} {w : World}
theorem run_app (base : Nat) (t ty e : TypeId) (i : TypeInfo) (z : Value) (size bytes : Nat) (ht : P.underlying t = some (.slice e)) (hi : P.info? e = some i) (hz : i.zero = some z)
    (hsize : i.size = size) (hby : i.bytes = bytes) (hzs : z.cells.size = size) (hsz : 0 < size) (v : Value) (n : Nat) (xs : List Value) (hown : w.ownsRow base e size v n xs)
    (x : Value) (m : Nat) (news : List Value) (hr : Src w size x m news) (h1 : ∀ u ∈ news, u.oneCell' = true) (h63 : n + m ≤ maxLen) (hbytes : (n + m) * bytes ≤ 140737488355328) (hbase : base ≤ w.heap.size) :
    ∃ v' w', (Builtin.append_ #[t, t] ty #[v, x]).run P w = .ok v' w' ∧ w'.ownsRow base e size v' (n + m) (xs ++ news) ∧ w.grownBy w' v.ownBlock ∧ (v'.ownBlock = v.ownBlock ∨ v'.ownBlock = some w.heap.size) := by
  rcases hr.2 with ⟨rfl, rfl⟩ | ⟨b, o, c, rfl, hc, _⟩
  · have hn : news = [] := List.eq_nil_of_length_eq_zero (by simpa using hr.1)
    subst hn
    exact ⟨v, w, run_append_owned_none (P := P) (w := w) base t ty e i size ht hi v n xs hown, by simpa using hown, World.grownBy.refl w _, Or.inl rfl⟩
  · obtain ⟨v', w', hrun, h2, h3, _, h5⟩ := run_append_own_at (P := P) w base t ty e i z size bytes ht hi hz hsize hby hzs hsz v n xs hown ⟨b, o, none⟩ m c news hr.1 (fun j u hj => by
      have : (⟨b, o, none⟩ : Addr).add j = ⟨b, o + j, none⟩ := by unfold Addr.add; split <;> simp_all
      rw [this]; exact hc j u hj) h1 h63 hbytes hbase
    exact ⟨v', w', hrun, h2, h3, h5⟩

/-- What is known behind an append onto a row of the call's own. -/
structure Appd (w w' : World) (base e size : Nat) (v v' : Value) (n : Nat) (xs : List Value) : Prop where
  own : w'.ownsRow base e size v' n xs
  grown : w.grownBy w' v.ownBlock
  at_ : v'.ownBlock = v.ownBlock ∨ v'.ownBlock = some w.heap.size
  ge : ∀ k, v.ownBlock = some k → base ≤ k
theorem Appd.on {w0 w w' : World} {base e size n : Nat} {v v' : Value} {xs : List Value} (h : Appd w w' base e size v v' n xs) (hb : Below base w0 w) (hB : base ≤ w.heap.size) : Below base w0 w' :=
  hb.grown h.grown hB h.ge
theorem Appd.below {B : Nat} {w0 w w' : World} {base e size n : Nat} {v v' : Value} {xs : List Value} (h : Appd w w' base e size v v' n xs) (hb : Below B w0 w) (hB : B ≤ w.heap.size) (hv : ∀ k, v.ownBlock = some k → B ≤ k) : Below B w0 w' :=
  hb.grown h.grown hB hv

theorem wp_app {o : Oper} {a : Act} {K : Act → World → Prop} {Q : Exit → Act → World → Prop} (s x : Operand) (t : TypeId)
    (ho : o.op = .call { callee := .builtin .append, args := #[s, x], argTypes := #[t, t] })
    (base : Nat) (e : TypeId) (i : TypeInfo) (z : Value) (size bytes : Nat) (ht : P.underlying t = some (.slice e)) (hi : P.info? e = some i) (hz : i.zero = some z)
    (hsize : i.size = size) (hby : i.bytes = bytes) (hzs : z.cells.size = size) (hsz : 0 < size)
    (v : Value) (n : Nat) (xs : List Value) (hs : a.eval s = v) (hown : w.ownsRow base e size v n xs)
    (y : Value) (m : Nat) (news : List Value) (hx : a.eval x = y) (hr : Src w size y m news) (h1 : ∀ u ∈ news, u.oneCell' = true)
    (h63 : n + m ≤ maxLen) (hbytes : (n + m) * bytes ≤ 140737488355328) (hbase : base ≤ w.heap.size)
    (h : ∀ v' w', Appd w w' base e size v v' (n + m) (xs ++ news) → K (a.put o.dst v') w') : o.wp P a w K Q := by
  obtain ⟨v', w', hrun, h2, h3, h4⟩ := run_app (P := P) (w := w) base t o.type e i z size bytes ht hi hz hsize hby hzs hsz v n xs hown y m news hr h1 h63 hbytes hbase
  unfold Oper.wp execOp
  simp only [ho, resolve, invoke, builtin, Sem.run_bind, Sem.run_pure, Result.andThen_ok, List.map_toArray, List.map_cons, List.map_nil, hs, hx, hrun]
  exact h v' w' ⟨h2, h3, h4, fun k hk => (World.ownsRow.lt hown k hk).1⟩
theorem list_app {ops : Array Oper} {rest : List Oper} {o : Oper} {a : Act} {Q : Exit → Act → World → Prop} (hgd : o.guard = none) (s x : Operand) (t : TypeId)
    (ho : o.op = .call { callee := .builtin .append, args := #[s, x], argTypes := #[t, t] })
    (base : Nat) (e : TypeId) (i : TypeInfo) (z : Value) (size bytes : Nat) (ht : P.underlying t = some (.slice e)) (hi : P.info? e = some i) (hz : i.zero = some z)
    (hsize : i.size = size) (hby : i.bytes = bytes) (hzs : z.cells.size = size) (hsz : 0 < size)
    (v : Value) (n : Nat) (xs : List Value) (hs : a.eval s = v) (hown : w.ownsRow base e size v n xs)
    (y : Value) (m : Nat) (news : List Value) (hx : a.eval x = y) (hr : Src w size y m news) (h1 : ∀ u ∈ news, u.oneCell' = true)
    (h63 : n + m ≤ maxLen) (hbytes : (n + m) * bytes ≤ 140737488355328) (hbase : base ≤ w.heap.size)
    (h : ∀ v' w', Appd w w' base e size v v' (n + m) (xs ++ news) → wpList P ops Q rest (a.put o.dst v') w') : wpList P ops Q (o :: rest) a w :=
  wpList_plain hgd fun _ hK => wp_app s x t ho base e i z size bytes ht hi hz hsize hby hzs hsz v n xs hs hown y m news hx hr h1 h63 hbytes hbase fun v' w' h2 => hK _ _ (h v' w' h2)
theorem step_app {ops : Array Oper} {o : Oper} {a : Act} {K : Act → World → Prop} {Q : Exit → Act → World → Prop} {E : Prop} (hgd : o.guard = none) (s x : Operand) (t : TypeId)
    (ho : o.op = .call { callee := .builtin .append, args := #[s, x], argTypes := #[t, t] })
    (base : Nat) (e : TypeId) (i : TypeInfo) (z : Value) (size bytes : Nat) (ht : P.underlying t = some (.slice e)) (hi : P.info? e = some i) (hz : i.zero = some z)
    (hsize : i.size = size) (hby : i.bytes = bytes) (hzs : z.cells.size = size) (hsz : 0 < size)
    (v : Value) (n : Nat) (xs : List Value) (hs : a.eval s = v) (hown : w.ownsRow base e size v n xs)
    (y : Value) (m : Nat) (news : List Value) (hx : a.eval x = y) (hr : Src w size y m news) (h1 : ∀ u ∈ news, u.oneCell' = true)
    (h63 : n + m ≤ maxLen) (hbytes : (n + m) * bytes ≤ 140737488355328) (hbase : base ≤ w.heap.size)
    (h : ∀ v' w', Appd w w' base e size v v' (n + m) (xs ++ news) → K (a.put o.dst v') w') :
    if Region.wanted o (yielded ops a.tmps) = true then Oper.wp P o a w K Q else E := by
  have hw : Region.wanted o (yielded ops a.tmps) = true := by simp [Region.wanted, hgd]
  rw [if_pos hw]
  exact wp_app s x t ho base e i z size bytes ht hi hz hsize hby hzs hsz v n xs hs hown y m news hx hr h1 h63 hbytes hbase h
end

end Go.Proofs.Ytffacjbnjcolgaa
