/- A select of one case with a default in a function that is walked: the walk goes on behind it. -/
import Derived.Test.YtffacjbnjcolgaaBase
import Derived.Conc.LoneSelect
import Derived.Conc.SmallLaws
namespace Go.Proofs.Ytffacjbnjcolgaa
set_option linter.unusedSimpArgs false
set_option linter.unusedVariables false
set_option maxRecDepth 100000
open Go.RowKit Go.Conc

/-- As wp, in frames of ordinary calls alone. -/
def wpN (P : Program) (c : Code) (Q : Exit → Act → World → Prop) (a : Act) (w : World) : Prop :=
  ∀ (b : Frame) (k : List Item) (cs : List Frame), b.kind = .normal → ∃ e a' w', Q e a' w' ∧ Arrives P (lone (b.at a (.code c :: k)) cs w) b k cs e a' w'
section
variable {P : Program} {Q : Exit → Act → World → Prop} {a : Act} {w : World}
theorem wpN_of {c : Code} (h : c.wp P Q a w) : wpN P c Q a w := fun b k cs _ => h b k cs
theorem wpN_seqN {x y : Code} (h : wpN P x (Exit.then (fun a w => wpN P y Q a w) Q) a w) : wpN P (Code.seq x y) Q a w := by
  intro b k cs hk
  obtain ⟨e, a₁, w₁, hq, harr⟩ := h b (.code y :: k) cs hk
  cases e with
  | normal =>
    obtain ⟨e₂, a₂, w₂, hq₂, harr₂⟩ := hq b k cs hk
    exact ⟨e₂, a₂, w₂, hq₂, .of_steps (.head step_seq harr) harr₂⟩
  | exit id => exact ⟨_, a₁, w₁, hq, .of_steps (.one step_seq) (.pass (x := .code y) rfl (fun _ _ => .inl (by simp)) harr)⟩
  | goto l => exact ⟨_, a₁, w₁, hq, .of_steps (.one step_seq) (.pass (x := .code y) rfl (fun _ _ => .inl (by simp)) harr)⟩
  | ret => exact ⟨_, a₁, w₁, hq, .of_steps (.one step_seq) (.pass (x := .code y) rfl (fun _ _ => .inl (by simp)) harr)⟩
  | panic ch => exact ⟨_, a₁, w₁, hq, .of_steps (.one step_seq) (.pass (x := .code y) rfl (fun _ _ => .inl (by simp)) harr)⟩
  | outgrown => exact ⟨_, a₁, w₁, hq, .of_steps (.one step_seq) (.pass (x := .code y) rfl (fun _ _ => .inl (by simp)) harr)⟩
theorem wpN_seq {x y : Code} (h : x.wp P (Exit.then (fun a w => wpN P y Q a w) Q) a w) : wpN P (Code.seq x y) Q a w := wpN_seqN (wpN_of h)
theorem wpN_tail {x y : Code} (h : wpN P x (Exit.then (fun a w => y.wp P Q a w) Q) a w) : wpN P (Code.seq x y) Q a w := by
  refine wpN_seqN fun b k cs hk => ?_
  obtain ⟨e, a₁, w₁, hq, harr⟩ := h b k cs hk
  exact ⟨e, a₁, w₁, by cases e <;> first | exact wpN_of hq | exact hq, harr⟩
theorem calls_of_wpN {f : FuncId} {fn : Func} {c : Code} {args : Array Value} {R : Ending → World → Prop}
    (hf : P.funcs[f]? = some fn) (hb : fn.body = some c)
    (h : wpN P c (bodyPost P fn R) { tmps := args ++ Array.replicate (fn.ntmps - args.size) undef, defers := [] } w) :
    Calls P f args w R := by
  intro cs
  let b : Frame := { (default : Frame) with fn := f, kind := .normal }
  have henter : Frame.enter P f args .normal =
      b.at { tmps := args ++ Array.replicate (fn.ntmps - args.size) undef, defers := [] } [.code c] := by
    simp [Frame.enter, Frame.at, hf, hb, b]
  obtain ⟨e, a', w', hq, harr⟩ := h b [] cs rfl
  rw [← henter] at harr
  cases e with
  | normal =>
    obtain ⟨hd, v, hr, hR⟩ := hq
    exact ⟨.returned v, w', _, hR, Steps.trans harr (.one step_end), rfl, rfl, hd, rfl, fn, hf, hr⟩
  | ret =>
    obtain ⟨hd, v, hr, hR⟩ := hq
    obtain ⟨todo, hs⟩ := harr
    exact ⟨.returned v, w', _, hR, hs, rfl, rfl, hd, rfl, fn, hf, hr⟩
  | panic chain =>
    obtain ⟨hd, hR⟩ := hq
    obtain ⟨todo, hs⟩ := harr
    exact ⟨.panicked chain, w', _, hR, hs, rfl, rfl, hd, fn, hf⟩
  | exit id => exact hq.elim
  | goto l => exact hq.elim
  | outgrown => exact ⟨.outgrown, w', b, hq, harr.resolve_left (by simp [b]), rfl, trivial⟩

/-- A region that begins with a communication. -/
theorem wpN_comm {id : Nat} {o : Oper} {rest : List Oper} {v : Value} {w' : World}
    (hstep : ∀ (b : Frame) k cs, b.kind ≠ .early → step P (solo (G (b.at a (.inRegion (o :: rest).toArray (0 :: List.range' 1 rest.length) :: k)) cs) w) = .next (solo (G ((b.at a (.inRegion (o :: rest).toArray (0 :: List.range' 1 rest.length) :: k)).finish v) cs) w'))
    (h : wpList P (o :: rest).toArray Q rest (a.put o.dst v) w') : wpN P (Code.region id (o :: rest).toArray false) Q a w := by
  intro b k cs hk
  have hops : wpOps P (o :: rest).toArray Q (List.range' 1 rest.length) (a.put o.dst v) w' := by
    rw [wpOps_eq_wpList rest 1 (fun j => by simp [Nat.add_comm 1 j])]; exact h
  obtain ⟨e, a₁, w₁, hq, harr⟩ := wp_ops _ _ _ hops b k cs
  have h1 := step_region (P := P) (b := b) (a := a) (k := k) (cs := cs) (w := w) (ops := (o :: rest).toArray) (id := id)
  have hr : List.range (o :: rest).toArray.size = 0 :: List.range' 1 rest.length := by
    rw [List.range_eq_range']
    simp [List.range'_succ]
  rw [hr] at h1
  have h2 := hstep b k cs (by rw [hk]; simp)
  rw [Frame.finish_at] at h2
  refine ⟨e, a₁, w₁, hq, .of_steps (.head h1 (.one h2)) ?_⟩
  exact harr

/-- A send with room; without. -/
theorem wpN_send {id : Nat} {o : Oper} {rest : List Oper} {x y : Operand} {el : TypeId} {c cap s r : Nat} {buf : Array Value} {v z : Value} {tm : Bool}
    (hop : o.op = .select #[{ chan := x, send := some y, elem := el }] false) (hg : o.guard = none) (hx : a.eval x = .chan (some c)) (hy : a.eval y = v) (hz : (execOp a.eval o).run P w = .ok (.comm #[scase c v z] false .select) w)
    (hc : w.heap[c]? = some (.chan cap buf false s r tm)) (hroom : buf.size < cap)
    (h : wpList P (o :: rest).toArray Q rest (a.put o.dst (.tuple #[goInt 0, .bool false])) (w.setChan c cap (buf.push v) false (s + 1) r tm)) : wpN P (Code.region id (o :: rest).toArray false) Q a w :=
  wpN_comm (fun b k cs hk => step_lone_select_send_room (stepG_comm (cases := #[scase c v z]) (blocking := false) (shape := .select) (w' := w) rfl (by simp [Region.wanted, hg]) hk hz) hc hroom) h
theorem wpN_send_full {id : Nat} {o : Oper} {rest : List Oper} {c cap s r : Nat} {buf : Array Value} {v z : Value} {tm : Bool}
    (hg : o.guard = none) (hz : (execOp a.eval o).run P w = .ok (.comm #[scase c v z] false .select) w)
    (hc : w.heap[c]? = some (.chan cap buf false s r tm)) (hfull : cap ≤ buf.size)
    (h : wpList P (o :: rest).toArray Q rest (a.put o.dst (.tuple #[goInt (-1), .bool false])) w) : wpN P (Code.region id (o :: rest).toArray false) Q a w :=
  wpN_comm (fun b k cs hk => step_lone_select_send_full (stepG_comm (cases := #[scase c v z]) (blocking := false) (shape := .select) (w' := w) rfl (by simp [Region.wanted, hg]) hk hz) hc hfull) h
theorem wpN_recv {id : Nat} {o : Oper} {rest : List Oper} {c cap s r : Nat} {buf : Array Value} {z : Value} {tm : Bool}
    (hg : o.guard = none) (hz : (execOp a.eval o).run P w = .ok (.comm #[rcase c z] false .select) w)
    (hc : w.heap[c]? = some (.chan cap buf false s r tm)) (hsome : 0 < buf.size)
    (h : wpList P (o :: rest).toArray Q rest (a.put o.dst (.tuple #[goInt 0, .bool true, buf.getD 0 undef])) (w.setChan c cap (buf.extract 1 buf.size) false s (r + 1) tm)) : wpN P (Code.region id (o :: rest).toArray false) Q a w :=
  wpN_comm (fun b k cs hk => step_lone_select_recv_buf (stepG_comm (cases := #[rcase c z]) (blocking := false) (shape := .select) (w' := w) rfl (by simp [Region.wanted, hg]) hk hz) hc hsome) h
theorem wpN_recv_none {id : Nat} {o : Oper} {rest : List Oper} {c cap s r : Nat} {z : Value} {tm : Bool}
    (hg : o.guard = none) (hz : (execOp a.eval o).run P w = .ok (.comm #[rcase c z] false .select) w)
    (hc : w.heap[c]? = some (.chan cap #[] false s r tm))
    (h : wpList P (o :: rest).toArray Q rest (a.put o.dst (.tuple #[goInt (-1), .bool false, z])) w) : wpN P (Code.region id (o :: rest).toArray false) Q a w :=
  wpN_comm (fun b k cs hk => step_lone_select_default (stepG_comm (cases := #[rcase c z]) (blocking := false) (shape := .select) (w' := w) rfl (by simp [Region.wanted, hg]) hk hz) hc) h
end

end Go.Proofs.Ytffacjbnjcolgaa
