/- The frame of a law's row: a law whose call returns true and leaves all memory that was there as it was has its row. -/
import Derived.Test.YtffacjbnjcolgaaRows
import Derived.WalkKit
import Derived.ProofKit
import Derived.OpenShut
import Derived.Carry
import Derived.SizedLaws
namespace Go.Proofs.Ytffacjbnjcolgaa
set_option linter.unusedSimpArgs false
set_option linter.unusedVariables false
set_option maxRecDepth 100000
open Go.ChangeShapes Go.WideShapes Go.ChangeAt Go.RowKit

theorem own : ownKnob Try.prog.godebug = none := by kernel_rfl
theorem laidOut : laidOutB Try.prog = true := by kernel_rfl

theorem trodAll_below {H : Type} {enc : TypeId × Value → H} {W W' : World} (hb : Below W.heap.size W W') :
    ∀ (ts : List TypeId) (vs : List Value) (ds : List (DataW H)) (ps : List MemPlace), (∀ t ∈ ts, Try.prog.readableRec t = true ∧ t < Try.prog.types.size) →
      DataW.TrodAll enc Try.prog W 0 (fun _ => true) true ts vs ds ps → (∀ x ∈ ps, x.block < W.heap.size) →
      DataW.TrodAll enc Try.prog W' 0 (fun b => decide (b < W.heap.size)) true ts vs ds ps
  | [], vs, ds, ps, _, h, _ => by
    obtain ⟨rfl, rfl, rfl⟩ := trodAll_nil h
    exact trodAll_mk0
  | t :: ts, vs, ds, ps, ht, h, hp => by
    obtain ⟨v, vs', d, ds', p, q, rfl, rfl, rfl, h0, h1⟩ := trodAll_cons h
    exact trodAll_cons_mk (Below.trod laidOut (ht t (by simp)).1 (ht t (by simp)).2 h0 hb (fun x hx => hp x (by simp [hx])))
      (trodAll_below hb ts vs' ds' q (fun t h => ht t (by simp [h])) h1 (fun x hx => hp x (by simp [hx])))

/-- What a law's walk is handed, and what it must show. -/
def LawWalk (f : FuncId) (fn : Func) : Prop :=
  ∀ (H : Type) (enc : TypeId × Value → H) (W : World) (base : Nat) (vs : List Value) (ds : List (DataW H)) (ps : List MemPlace),
    (∀ (j : Nat) t v, fn.params.toList[j]? = some t → vs[j]? = some v → Value.okWide Try.prog W .any base t v) →
    DataW.TrodAll enc Try.prog W 0 (fun _ => true) true fn.params.toList vs ds ps →
    (∀ x ∈ ps, x.block < W.heap.size) → (∀ b off, MemPlace.cell b off ∈ ps → W.frozen? ⟨b, off, none⟩ = false) →
    (DataW.weightsEach Try.prog fn.params.toList ds).all (· ≤ reachBytes) = true →
    Calls Try.prog f ⟨vs⟩ W fun e W' => e = .returned (.bool true) ∧ Below W.heap.size W W'

theorem law_lifted {f : FuncId} {fn : Func} {s : ChangeSpec} (hfn : Try.prog.funcs[f]? = some fn) (hn : Try.prog.inits.idxOf? f = none) (hres : fn.resultTypes = #[4])
    (hts : ∀ t ∈ fn.params.toList, Try.prog.readableRec t = true ∧ t < Try.prog.types.size)
    (hvars : s.vars = []) (hs : ∀ (H : Type) (ds : List (DataW H)), ds.length = fn.params.size → s.fn H ds = { results := [.lit (.bool true)], args := ds })
    (hwalk : LawWalk f fn) (os : Os) (started : os.Started) (H : Type) (enc : TypeId × Value → H)
    (witness : ∃ (w : World) (tape : Tape) (i : Input), w.os = os ∧ (w.forCall tape i).Shaped Try.prog ∧ i.vars = [] ∧ Input.okWide Try.prog (w.forCall tape i) .any w.heap.size f i ∧
      s.pre6 enc Try.prog fn [] false (w.forCall tape i).memory i.args ∧ ({} : Assume).holds Try.prog (lone (Frame.enter Try.prog f i.args .normal) [] (w.forCall tape i))) :
    ReturnsInHanded {} Try.checked os f .any (s.pre6 enc Try.prog fn [] false) (s.post enc Try.prog fn false true false false) := by
  refine returnsInHanded_of_change_sized (C := Try.checked) own started hn hfn witness ?_
  intro W base args ds gs before hval hW _ hsz _
  have hW' := hW
  obtain ⟨p, q, hA, hV, rfl, hfz, _⟩ := hW
  have hVn : DataW.TrodVars enc Try.prog W (fun _ => true) [] gs q := by rw [← hvars]; exact hV
  obtain ⟨rfl, rfl⟩ := trodVars_none hVn
  have hA' : DataW.TrodAll enc Try.prog W 0 (fun _ => true) true fn.params.toList args.toList ds p := hA
  simp only [List.append_nil] at hW' hfz hsz
  have hv : s.plain.varTypes Try.prog = [] := by simp [ChangeSpec.plain, DataSpec.varTypes, hvars]
  have hsz' : (DataW.weightsEach Try.prog fn.params.toList ds).all (· ≤ reachBytes) = true := by
    have h := hsz
    change (DataW.weightsEach Try.prog (fn.params.toList ++ s.plain.varTypes Try.prog) ds).all (· ≤ reachBytes) = true at h
    rwa [hv, List.append_nil] at h
  have hlt : ∀ x ∈ p, x.block < W.heap.size := fun x hx => by simpa using hW'.lt x hx
  have hlen : ds.length = fn.params.size := by
    have : ∀ (ts : List TypeId) (vs : List Value) (ds : List (DataW H)) (ps : List MemPlace), DataW.TrodAll enc Try.prog W 0 (fun _ => true) true ts vs ds ps → ds.length = ts.length := by
      intro ts
      induction ts with
      | nil => intro vs ds ps h; obtain ⟨_, rfl, _⟩ := trodAll_nil h; rfl
      | cons t ts ih => intro vs ds ps h; obtain ⟨_, _, _, _, _, _, rfl, rfl, rfl, _, h1⟩ := trodAll_cons h; simp [ih _ _ _ h1]
    have := this _ _ _ _ hA'
    simpa using this
  refine (hwalk H enc W base args.toList ds p (fun j t v h h' => hval j t v (by simpa using h) (by simpa using h')) hA' hlt hfz hsz').mono fun e W' ⟨he, hb⟩ => ?_
  subst he
  have hsd := hs H ds hlen
  refine ⟨_, rfl, ds, [], p, [], p, [], hW', ?_, ?_, ?_, hb.frame _, fun h => by cases h⟩
  · rw [List.append_nil, hsd, hres]; exact trodAll_mk1 (shut_bool Try.underlying4 _)
  · rw [List.append_nil, hsd]; exact trodAll_below hb _ _ _ _ hts hA' hlt
  · rw [hvars, List.append_nil, hsd]; rfl

/-! ### Opening an argument whose cells are all numbers and truths -/
def OkAll (W : World) (base : Nat) : List TypeId → List Value → Prop
  | [], [] => True
  | u :: us, c :: cs => Cell.okWide Try.prog W .any base u c ∧ OkAll W base us cs
  | _, _ => False

theorem okAll_nil {W : World} {base : Nat} {l : List Value} (h : OkAll W base [] l) : l = [] := by cases l <;> simp [OkAll] at h ⊢
theorem okAll_cons {W : World} {base : Nat} {u : TypeId} {us : List TypeId} {l : List Value} (h : OkAll W base (u :: us) l) :
    ∃ c l', l = c :: l' ∧ Cell.okWide Try.prog W .any base u c ∧ OkAll W base us l' := by
  cases l with
  | nil => simp [OkAll] at h
  | cons c l' => exact ⟨c, l', rfl, h.1, h.2⟩

theorem okAll_of {W : World} {base : Nat} : ∀ (ts : List TypeId) (cs : List Value), cs.length = ts.length → (∀ (i : Nat) v, cs[i]? = some v → ∃ u, ts[i]? = some u ∧ Cell.okWide Try.prog W .any base u v) → OkAll W base ts cs
  | [], [], _, _ => trivial
  | [], _ :: _, h, _ => by simp at h
  | _ :: _, [], h, _ => by simp at h
  | u :: us, c :: cs, h, hc => by
    refine ⟨?_, okAll_of us cs (by simpa using h) (fun i v hv => ?_)⟩
    · obtain ⟨u', e, h'⟩ := hc 0 c rfl
      simp at e; subst e; exact h'
    · obtain ⟨u', e, h'⟩ := hc (i + 1) v (by simpa using hv)
      exact ⟨u', by simpa using e, h'⟩

theorem flat_open {W : World} {base : Nat} {t : TypeId} {v : Value} {ts : List TypeId} (hs : (match Try.prog.underlying t with | some (.struct _) | some (.array _ _) => true | _ => false) = true)
    (hc : Try.prog.cellTypes Try.prog.depth t = some ts) (hn : Try.prog.cellsOf t = ts.length) (h : Value.okWide Try.prog W .any base t v) : ∃ l : List Value, v = .agg l.toArray ∧ OkAll W base ts l := by
  have h2 : ∃ cs, v = .agg cs ∧ cs.size = Try.prog.cellsOf t ∧ Row.okWide Try.prog W .any base t cs := by
    unfold Value.okWide at h
    split at h
    · exact h
    · exact h
    · rename_i x h1 h2
      exfalso
      generalize Try.prog.underlying t = o at *
      cases o with
      | none => simp at hs
      | some d => cases d <;> first | (simp at hs; done) | exact h1 _ rfl | exact h2 _ _ rfl
  obtain ⟨cs, rfl, hsz, ts', hts, _, hall⟩ := h2
  rw [hc] at hts
  cases hts
  refine ⟨cs.toList, by simp, okAll_of ts cs.toList (by simp [hsz, hn]) (fun i v hv => ?_)⟩
  obtain ⟨u, hu, ho⟩ := hall i v (by simpa using hv)
  have hi : i < ts.length := by
    have : i < cs.size := by
      rcases Nat.lt_or_ge i cs.size with h | h
      · exact h
      · have : cs.toList[i]? = none := by simp [h]
        rw [this] at hv; cases hv
    omega
  rw [Nat.mod_eq_of_lt hi] at hu
  exact ⟨u, hu, ho⟩

theorem cell_int {W : World} {base : Nat} {u : TypeId} {c : Value} {k : IntKind} (hu : Try.prog.underlying u = some (.int k)) (h : Cell.okWide Try.prog W .any base u c) : ∃ n, c = .int k n ∧ k.min ≤ n ∧ n ≤ k.max := by
  unfold Cell.okWide Cell.ok at h
  rw [hu] at h
  cases c <;> simp at h
  obtain ⟨rfl, h1⟩ := h
  exact ⟨_, rfl, h1⟩
theorem cell_bool {W : World} {base : Nat} {u : TypeId} {c : Value} (hu : Try.prog.underlying u = some .bool) (h : Cell.okWide Try.prog W .any base u c) : ∃ b, c = .bool b := by
  unfold Cell.okWide Cell.ok at h
  rw [hu] at h
  cases c <;> simp at h
  exact ⟨_, rfl⟩
/-- An argument that is one number. -/
theorem arg_int {W : World} {base : Nat} {u : TypeId} {c : Value} {k : IntKind} (hu : Try.prog.underlying u = some (.int k)) (h : Value.okWide Try.prog W .any base u c) : ∃ n, c = .int k n ∧ k.min ≤ n ∧ n ≤ k.max := by
  unfold Value.okWide at h
  rw [hu] at h
  exact cell_int hu h
theorem arg_bool {W : World} {base : Nat} {u : TypeId} {c : Value} (hu : Try.prog.underlying u = some .bool) (h : Value.okWide Try.prog W .any base u c) : ∃ b, c = .bool b := by
  unfold Value.okWide at h
  rw [hu] at h
  exact cell_bool hu h

end Go.Proofs.Ytffacjbnjcolgaa
