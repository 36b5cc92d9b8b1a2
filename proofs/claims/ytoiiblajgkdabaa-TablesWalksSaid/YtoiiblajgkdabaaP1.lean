/- Part 1 of the proofs: Frame, Open, Base, BudPlain, Sep, MapB. -/
import Derived.Test.YtoiiblajgkdabaaRows
import Derived.WalkKit
import Derived.ProofKit
import Derived.OpenShut
import Derived.Carry
import Derived.SizedLaws
import Derived.Deep.Slices
import Derived.Test.YtoiiblajgkdabaaProg
import Derived.WalkSpells
import Derived.WalkLawsBesides
import Derived.Handy
import Derived.Deep.QuietTactic
import Derived.BigQuiet
import Derived.Deep.RegionWith
import Derived.Deep.RegionHeld3
import Derived.StillTailTactics
import Derived.Deep.DeepCutAuto
import Derived.Deep.LoopGhost
import Derived.Deep.RegionLaw
import Derived.Deep.DeepFit
import Derived.Lib.Hide
import Derived.WideKeyRuns
import Derived.Maps.RangeRun
namespace Go.Proofs.Ytoiiblajgkdabaa
set_option linter.unusedSimpArgs false
set_option linter.unusedVariables false
set_option maxRecDepth 100000
open Go.ChangeShapes Go.WideShapes Go.ChangeAt Go.RowKit

theorem own : ownKnob Try.prog.godebug = none := by kernel_rfl
theorem laidOut : laidOutB Try.prog = true := by kernel_rfl

theorem trodAll_below {H : Type} {enc : TypeId × Value → H} {W W' : World} (hb : Below W.heap.size W W') :
    ∀ (ts : List TypeId) (vs : List Value) (ds : List (DataW H)) (ps : List MemPlace), (∀ t ∈ ts, Try.prog.readableRec t = true ∧ t < Try.prog.types.size) →
      DataW.TrodAll enc Try.prog W 0 (fun _ => true) true ts vs ds ps → (∀ x ∈ ps, x.block < W.heap.size) →
      DataW.TrodAll enc Try.prog W' 0 (fun b => decide (b < W.heap.size)) true ts vs ds ps
  | [], vs, ds, ps, _, h, _ => by
    obtain ⟨rfl, rfl, rfl⟩ := trodAll_nil h
    exact trodAll_mk0
  | t :: ts, vs, ds, ps, ht, h, hp => by
    obtain ⟨v, vs', d, ds', p, q, rfl, rfl, rfl, h0, h1⟩ := trodAll_cons h
    exact trodAll_cons_mk (Below.trod laidOut (ht t (by simp)).1 (ht t (by simp)).2 h0 hb (fun x hx => hp x (by simp [hx])))
      (trodAll_below hb ts vs' ds' q (fun t h => ht t (by simp [h])) h1 (fun x hx => hp x (by simp [hx])))

/-- What a law's walk is handed, and what it must show. -/
def LawWalk (f : FuncId) (fn : Func) : Prop :=
  ∀ (H : Type) (enc : TypeId × Value → H) (W : World) (base : Nat) (vs : List Value) (ds : List (DataW H)) (ps : List MemPlace),
    (∀ (j : Nat) t v, fn.params.toList[j]? = some t → vs[j]? = some v → Value.okWide Try.prog W .any base t v) →
    DataW.TrodAll enc Try.prog W 0 (fun _ => true) true fn.params.toList vs ds ps →
    (∀ x ∈ ps, x.block < W.heap.size) → (∀ b off, MemPlace.cell b off ∈ ps → W.frozen? ⟨b, off, none⟩ = false) →
    (DataW.weightsEach Try.prog fn.params.toList ds).all (· ≤ reachBytes) = true →
    Calls Try.prog f ⟨vs⟩ W fun e W' => e = .returned (.bool true) ∧ Below W.heap.size W W'

theorem law_lifted {f : FuncId} {fn : Func} {s : ChangeSpec} (hfn : Try.prog.funcs[f]? = some fn) (hn : Try.prog.inits.idxOf? f = none) (hres : fn.resultTypes = #[4])
    (hts : ∀ t ∈ fn.params.toList, Try.prog.readableRec t = true ∧ t < Try.prog.types.size)
    (hvars : s.vars = []) (hs : ∀ (H : Type) (ds : List (DataW H)), ds.length = fn.params.size → s.fn H ds = { results := [.lit (.bool true)], args := ds })
    (hwalk : LawWalk f fn) (os : Os) (started : os.Started) (H : Type) (enc : TypeId × Value → H)
    (witness : ∃ (w : World) (tape : Tape) (i : Input), w.os = os ∧ (w.forCall tape i).Shaped Try.prog ∧ i.vars = [] ∧ Input.okWide Try.prog (w.forCall tape i) .any w.heap.size f i ∧
      s.pre6 enc Try.prog fn [] false (w.forCall tape i).memory i.args ∧ ({} : Assume).holds Try.prog (lone (Frame.enter Try.prog f i.args .normal) [] (w.forCall tape i))) :
    ReturnsInHanded {} Try.checked os f .any (s.pre6 enc Try.prog fn [] false) (s.post enc Try.prog fn false true false false) := by
  refine returnsInHanded_of_change_sized (C := Try.checked) own started hn hfn witness ?_
  intro W base args ds gs before hval hW _ hsz _
  have hW' := hW
  obtain ⟨p, q, hA, hV, rfl, hfz, _⟩ := hW
  have hVn : DataW.TrodVars enc Try.prog W (fun _ => true) [] gs q := by rw [← hvars]; exact hV
  obtain ⟨rfl, rfl⟩ := trodVars_none hVn
  have hA' : DataW.TrodAll enc Try.prog W 0 (fun _ => true) true fn.params.toList args.toList ds p := hA
  simp only [List.append_nil] at hW' hfz hsz
  have hv : s.plain.varTypes Try.prog = [] := by simp [ChangeSpec.plain, DataSpec.varTypes, hvars]
  have hsz' : (DataW.weightsEach Try.prog fn.params.toList ds).all (· ≤ reachBytes) = true := by
    have h := hsz
    change (DataW.weightsEach Try.prog (fn.params.toList ++ s.plain.varTypes Try.prog) ds).all (· ≤ reachBytes) = true at h
    rwa [hv, List.append_nil] at h
  have hlt : ∀ x ∈ p, x.block < W.heap.size := fun x hx => by simpa using hW'.lt x hx
  have hlen : ds.length = fn.params.size := by
    have : ∀ (ts : List TypeId) (vs : List Value) (ds : List (DataW H)) (ps : List MemPlace), DataW.TrodAll enc Try.prog W 0 (fun _ => true) true ts vs ds ps → ds.length = ts.length := by
      intro ts
      induction ts with
      | nil => intro vs ds ps h; obtain ⟨_, rfl, _⟩ := trodAll_nil h; rfl
      | cons t ts ih => intro vs ds ps h; obtain ⟨_, _, _, _, _, _, rfl, rfl, rfl, _, h1⟩ := trodAll_cons h; simp [ih _ _ _ h1]
    have := this _ _ _ _ hA'
    simpa using this
  refine (hwalk H enc W base args.toList ds p (fun j t v h h' => hval j t v (by simpa using h) (by simpa using h')) hA' hlt hfz hsz').mono fun e W' ⟨he, hb⟩ => ?_
  subst he
  have hsd := hs H ds hlen
  refine ⟨_, rfl, ds, [], p, [], p, [], hW', ?_, ?_, ?_, hb.frame _, fun h => by cases h⟩
  · rw [List.append_nil, hsd, hres]; exact trodAll_mk1 (shut_bool Try.underlying4 _)
  · rw [List.append_nil, hsd]; exact trodAll_below hb _ _ _ _ hts hA' hlt
  · rw [hvars, List.append_nil, hsd]; rfl

/-! ### Opening an argument whose cells are all numbers and truths -/
def OkAll (W : World) (base : Nat) : List TypeId → List Value → Prop
  | [], [] => True
  | u :: us, c :: cs => Cell.okWide Try.prog W .any base u c ∧ OkAll W base us cs
  | _, _ => False

theorem okAll_nil {W : World} {base : Nat} {l : List Value} (h : OkAll W base [] l) : l = [] := by cases l <;> simp [OkAll] at h ⊢
theorem okAll_cons {W : World} {base : Nat} {u : TypeId} {us : List TypeId} {l : List Value} (h : OkAll W base (u :: us) l) :
    ∃ c l', l = c :: l' ∧ Cell.okWide Try.prog W .any base u c ∧ OkAll W base us l' := by
  cases l with
  | nil => simp [OkAll] at h
  | cons c l' => exact ⟨c, l', rfl, h.1, h.2⟩

theorem okAll_of {W : World} {base : Nat} : ∀ (ts : List TypeId) (cs : List Value), cs.length = ts.length → (∀ (i : Nat) v, cs[i]? = some v → ∃ u, ts[i]? = some u ∧ Cell.okWide Try.prog W .any base u v) → OkAll W base ts cs
  | [], [], _, _ => trivial
  | [], _ :: _, h, _ => by simp at h
  | _ :: _, [], h, _ => by simp at h
  | u :: us, c :: cs, h, hc => by
    refine ⟨?_, okAll_of us cs (by simpa using h) (fun i v hv => ?_)⟩
    · obtain ⟨u', e, h'⟩ := hc 0 c rfl
      simp at e; subst e; exact h'
    · obtain ⟨u', e, h'⟩ := hc (i + 1) v (by simpa using hv)
      exact ⟨u', by simpa using e, h'⟩

theorem flat_open {W : World} {base : Nat} {t : TypeId} {v : Value} {ts : List TypeId} (hs : (match Try.prog.underlying t with | some (.struct _) | some (.array _ _) => true | _ => false) = true)
    (hc : Try.prog.cellTypes Try.prog.depth t = some ts) (hn : Try.prog.cellsOf t = ts.length) (h : Value.okWide Try.prog W .any base t v) : ∃ l : List Value, v = .agg l.toArray ∧ OkAll W base ts l := by
  have h2 : ∃ cs, v = .agg cs ∧ cs.size = Try.prog.cellsOf t ∧ Row.okWide Try.prog W .any base t cs := by
    unfold Value.okWide at h
    split at h
    · exact h
    · exact h
    · rename_i x h1 h2
      exfalso
      generalize Try.prog.underlying t = o at *
      cases o with
      | none => simp at hs
      | some d => cases d <;> first | (simp at hs; done) | exact h1 _ rfl | exact h2 _ _ rfl
  obtain ⟨cs, rfl, hsz, ts', hts, _, hall⟩ := h2
  rw [hc] at hts
  cases hts
  refine ⟨cs.toList, by simp, okAll_of ts cs.toList (by simp [hsz, hn]) (fun i v hv => ?_)⟩
  obtain ⟨u, hu, ho⟩ := hall i v (by simpa using hv)
  have hi : i < ts.length := by
    have : i < cs.size := by
      rcases Nat.lt_or_ge i cs.size with h | h
      · exact h
      · have : cs.toList[i]? = none := by simp [h]
        rw [this] at hv; cases hv
    omega
  rw [Nat.mod_eq_of_lt hi] at hu
  exact ⟨u, hu, ho⟩

theorem cell_int {W : World} {base : Nat} {u : TypeId} {c : Value} {k : IntKind} (hu : Try.prog.underlying u = some (.int k)) (h : Cell.okWide Try.prog W .any base u c) : ∃ n, c = .int k n ∧ k.min ≤ n ∧ n ≤ k.max := by
  unfold Cell.okWide Cell.ok at h
  rw [hu] at h
  cases c <;> simp at h
  obtain ⟨rfl, h1⟩ := h
  exact ⟨_, rfl, h1⟩
theorem cell_bool {W : World} {base : Nat} {u : TypeId} {c : Value} (hu : Try.prog.underlying u = some .bool) (h : Cell.okWide Try.prog W .any base u c) : ∃ b, c = .bool b := by
  unfold Cell.okWide Cell.ok at h
  rw [hu] at h
  cases c <;> simp at h
  exact ⟨_, rfl⟩
/-- An argument that is one number. -/
theorem arg_int {W : World} {base : Nat} {u : TypeId} {c : Value} {k : IntKind} (hu : Try.prog.underlying u = some (.int k)) (h : Value.okWide Try.prog W .any base u c) : ∃ n, c = .int k n ∧ k.min ≤ n ∧ n ≤ k.max := by
  unfold Value.okWide at h
  rw [hu] at h
  exact cell_int hu h
theorem arg_bool {W : World} {base : Nat} {u : TypeId} {c : Value} (hu : Try.prog.underlying u = some .bool) (h : Value.okWide Try.prog W .any base u c) : ∃ b, c = .bool b := by
  unfold Value.okWide at h
  rw [hu] at h
  exact cell_bool hu h

end Go.Proofs.Ytoiiblajgkdabaa

namespace Go.Proofs.Ytoiiblajgkdabaa
set_option linter.unusedSimpArgs false
set_option linter.unusedVariables false
set_option maxRecDepth 100000
open Go.ChangeShapes Go.WideShapes Go.ChangeAt Go.RowKit Go.Deep

variable {H : Type} {enc : TypeId × Value → H} {w : World} {base : Nat} {spare : Nat → Bool} {held : Bool}
theorem op_int {t : TypeId} {k : IntKind} (hu : Try.prog.underlying t = some (.int k)) {n : Nat} {c : Value} {r : DataW H × List MemPlace} (h : DataW.trod enc Try.prog w base spare held n t [c] = some r) :
    ∃ x, c = .int k x ∧ k.min ≤ x ∧ x ≤ k.max := by
  cases n with
  | zero => simp [DataW.trod] at h
  | succ n =>
    cases c <;> simp [DataW.trod, hu, Lit.wf] at h
    obtain ⟨⟨rfl, h1, h2⟩, _⟩ := h
    exact ⟨_, rfl, h1, h2⟩
theorem op_bool {t : TypeId} (hu : Try.prog.underlying t = some .bool) {n : Nat} {c : Value} {r : DataW H × List MemPlace} (h : DataW.trod enc Try.prog w base spare held n t [c] = some r) :
    ∃ x, c = .bool x := by
  cases n with
  | zero => simp [DataW.trod] at h
  | succ n =>
    cases c <;> simp [DataW.trod, hu] at h
    exact ⟨_, rfl⟩
theorem op_slice {t e : TypeId} (hu : Try.prog.underlying t = some (.slice e)) {n : Nat} {c : Value} {r : DataW H × List MemPlace} (h : DataW.trod enc Try.prog w base spare held n t [c] = some r) :
    ∃ a len cap, c = .slice a len cap := by
  rcases open_slice hu h with ⟨h1, _⟩ | ⟨ad, len', cap', m, n, D, Pl, h1, _⟩
  · simp at h1; exact ⟨_, _, _, h1⟩
  · simp at h1; exact ⟨_, _, _, h1⟩

theorem op_off (b off i : Nat) : (⟨b, off, none⟩ : Addr).add i = ⟨b, off + i, none⟩ := by
  unfold Addr.add; split
  · subst_vars; rfl
  · rfl

/-- A slice's elements: nothing, or what lies at an address. -/
def RowAt (w : World) (a : Option Addr) (len s : Nat) (P : Nat → List Value → Prop) : Prop :=
  len = 0 ∨ ∃ b off, a = some ⟨b, off, none⟩ ∧ b < w.heap.size ∧ ∀ i, i < len → ∃ cs, P i cs ∧ cs.length = s ∧ ∀ k, k < s → w.cell? ⟨b, off + i * s + k, none⟩ = cs[k]?

theorem row_open {T E : TypeId} {s : Nat} (hu : Try.prog.underlying T = some (.slice E)) (hs : Try.prog.cellsOf E = s) (h0 : 0 < s) {P : List Value → Prop}
    (hP : ∀ n cs r, DataW.trod enc Try.prog w base spare held n E cs = some r → P cs) {fuel : Nat} {a : Option Addr} {len cap : Nat} {r : DataW H × List MemPlace}
    (h : DataW.trod enc Try.prog w base spare held fuel T [.slice a len cap] = some r) : len ≤ cap ∧ cap ≤ maxLen ∧ RowAt w a len s (fun _ => P) := by
  rcases open_slice hu h with ⟨h1, _⟩ | ⟨ad, len', cap', m, n, D, Pl, h1, _, hl, hm, hmm, _, hel⟩
  · simp at h1
    obtain ⟨rfl, rfl, rfl⟩ := h1
    exact ⟨by omega, by unfold maxLen; omega, Or.inl rfl⟩
  · simp at h1
    obtain ⟨rfl, rfl, rfl⟩ := h1
    have hle : len ≤ m := by rw [hmm]; split <;> omega
    refine ⟨hl, hm, ?_⟩
    rw [hs] at hel
    by_cases hz : len = 0
    · exact Or.inl hz
    · obtain ⟨b, off, spot⟩ := ad
      have hspot : spot = none := by
        obtain ⟨cs, hc, _⟩ := hel 0 (by omega)
        obtain ⟨_, hlen, hcell⟩ := World.cells?_some hc
        have h1 := hcell 0 (by omega)
        rw [List.getElem?_eq_getElem (by omega)] at h1
        simpa [Addr.add] using World.cell?_spot h1
      subst hspot
      have hb : b < w.heap.size := by
        obtain ⟨cs, hc, _⟩ := hel 0 (by omega)
        have := World.cells?_block hc (by omega)
        simpa [op_off] using this
      refine Or.inr ⟨b, off, rfl, hb, fun i hi => ?_⟩
      obtain ⟨cs, hc, ht⟩ := hel i (by omega)
      obtain ⟨_, hlen, hcell⟩ := World.cells?_some hc
      refine ⟨cs, hP _ _ _ ht, hlen, fun k hk => ?_⟩
      have := hcell k hk
      simpa only [op_off] using this

/-- One number an element. -/
theorem ints_open {T E : TypeId} {k : IntKind} (hu : Try.prog.underlying T = some (.slice E)) (hE : Try.prog.underlying E = some (.int k)) (hs : Try.prog.cellsOf E = 1) {fuel : Nat} {a : Option Addr} {len cap : Nat} {r : DataW H × List MemPlace}
    (h : DataW.trod enc Try.prog w base spare held fuel T [.slice a len cap] = some r) : len ≤ cap ∧ cap ≤ maxLen ∧ ∃ V : Nat → Int, (∀ i, i < len → k.min ≤ V i ∧ V i ≤ k.max) ∧
      (len = 0 ∨ ∃ b off, a = some ⟨b, off, none⟩ ∧ b < w.heap.size ∧ ∀ i, i < len → w.cell? ⟨b, off + i, none⟩ = some (.int k (V i))) := by
  obtain ⟨h1, h2, h3⟩ := row_open (P := fun cs => ∃ x, cs = [.int k x] ∧ k.min ≤ x ∧ x ≤ k.max) hu hs (by omega) (fun n cs r ht => by
    cases n with
    | zero => simp [DataW.trod] at ht
    | succ n =>
      match cs, ht with
      | [c], ht => obtain ⟨x, rfl, hx⟩ := op_int hE ht; exact ⟨x, rfl, hx⟩
      | [], ht => simp [DataW.trod, hE] at ht
      | _ :: _ :: _, ht => simp [DataW.trod, hE] at ht) h
  refine ⟨h1, h2, ?_⟩
  rcases h3 with h0 | ⟨b, off, rfl, hb, hel⟩
  · exact ⟨fun _ => 0, fun i hi => by omega, Or.inl h0⟩
  · have hall : ∀ i, ∃ x : Int, i < len → (w.cell? ⟨b, off + i, none⟩ = some (.int k x) ∧ k.min ≤ x ∧ x ≤ k.max) := by
      intro i
      by_cases hi : i < len
      · obtain ⟨cs, ⟨x, rfl, hx⟩, _, hc⟩ := hel i hi
        exact ⟨x, fun _ => ⟨by simpa using hc 0 (by omega), hx⟩⟩
      · exact ⟨0, fun h => absurd h hi⟩
    obtain ⟨V, hV⟩ := Classical.skolem.1 hall
    exact ⟨V, fun i hi => (hV i hi).2, Or.inr ⟨b, off, rfl, hb, fun i hi => (hV i hi).1⟩⟩

end Go.Proofs.Ytoiiblajgkdabaa

namespace Go.Proofs.Ytoiiblajgkdabaa
set_option linter.unusedSimpArgs false
set_option linter.unusedVariables false
set_option maxRecDepth 100000
open Go.RowKit
set_option maxHeartbeats 400000

theorem keep {B : Nat} {w w' : World} (hb : Below B w w') {b o : Nat} {v : Value} (h : b < B) (hc : w.cell? ⟨b, o, none⟩ = some v) : w'.cell? ⟨b, o, none⟩ = some v := by
  rw [hb.cell (p := ⟨b, o, none⟩) h]; exact hc
theorem keepF {B : Nat} {w w' : World} (hb : Below B w w') {b o : Nat} {v : Bool} (h : b < B) (hc : w.frozen? ⟨b, o, none⟩ = v) : w'.frozen? ⟨b, o, none⟩ = v := by
  rw [hb.frozen (p := ⟨b, o, none⟩) h]; exact hc
theorem bcell {W w1 : World} (hb : Below W.heap.size W w1) : (∀ b o, b < W.heap.size → w1.cell? ⟨b, o, none⟩ = W.cell? ⟨b, o, none⟩) ∧ (∀ b o, b < W.heap.size → w1.frozen? ⟨b, o, none⟩ = W.frozen? ⟨b, o, none⟩) :=
  ⟨fun b o h => hb.cell (p := ⟨b, o, none⟩) h, fun b o h => hb.frozen (p := ⟨b, o, none⟩) h⟩

/-- The numbers of an int, of a uint64. -/
def I64 (a : Int) : Prop := -9223372036854775808 ≤ a ∧ a ≤ 9223372036854775807
def U64 (a : Int) : Prop := 0 ≤ a ∧ a ≤ 18446744073709551615

/-- What was there is as it was, but for the blocks of S; new blocks may have come. -/
structure Touch (S : Nat → Prop) (w w' : World) : Prop where
  os : w'.os = w.os
  tape : w'.tape = w.tape
  output : w'.output = w.output
  size : w.heap.size ≤ w'.heap.size
  block : ∀ k, k < w.heap.size → ¬ S k → w'.heap[k]? = w.heap[k]?

theorem Touch.refl (S : Nat → Prop) (w : World) : Touch S w w := ⟨rfl, rfl, rfl, Nat.le_refl _, fun _ _ _ => rfl⟩
theorem Touch.trans {S : Nat → Prop} {a b c : World} (h : Touch S a b) (k : Touch S b c) : Touch S a c :=
  ⟨k.os.trans h.os, k.tape.trans h.tape, k.output.trans h.output, Nat.le_trans h.size k.size, fun i hi hs => (k.block i (Nat.lt_of_lt_of_le hi h.size) hs).trans (h.block i hi hs)⟩
theorem Touch.mono {S T : Nat → Prop} {a b : World} (h : Touch S a b) (hs : ∀ k, k < a.heap.size → S k → T k) : Touch T a b :=
  ⟨h.os, h.tape, h.output, h.size, fun i hi ht => h.block i hi (fun s => ht (hs i hi s))⟩
theorem Touch.of_below {S : Nat → Prop} {a b : World} (h : Below a.heap.size a b) : Touch S a b :=
  ⟨h.os, h.tape, h.output, h.size, fun i hi _ => h.block i hi⟩
theorem Touch.below {S : Nat → Prop} {a b : World} (h : Touch S a b) {B : Nat} (hB : B ≤ a.heap.size) (hs : ∀ k, k < B → ¬ S k) : Below B a b :=
  ⟨h.os, h.tape, h.output, h.size, fun i hi => h.block i (by omega) (hs i hi)⟩
theorem Touch.drewN {S : Nat → Prop} {a b : World} (h : Touch S a b) (n : Nat) : Touch S a (b.drewN n) := ⟨h.os, h.tape, h.output, h.size, h.block⟩
theorem Touch.drew {S : Nat → Prop} {a b : World} (h : Touch S a b) : Touch S a b.drew := ⟨h.os, h.tape, h.output, h.size, h.block⟩
theorem Touch.alloc {S : Nat → Prop} {a b : World} (h : Touch S a b) (o : Obj) : Touch S a (b.alloc o) :=
  h.trans ⟨rfl, rfl, rfl, by simp, fun k hk _ => Below.heap_alloc _ _ _ hk⟩
theorem Touch.setCell {S : Nat → Prop} {a b : World} (h : Touch S a b) {p : Addr} (hp : S p.block ∨ a.heap.size ≤ p.block) (u : Value) : Touch S a (b.setCell p u) :=
  ⟨h.os, h.tape, h.output, by have := h.size; simp [World.setCell]; exact this, fun k hk hs => by
    rw [Below.heap_setCell _ _ _ _ (fun e => by subst e; rcases hp with hp | hp; exact hs hp; omega)]
    exact h.block k hk hs⟩

theorem below_drewN {B : Nat} {a b : World} (h : Below B a b) (n : Nat) : Below B a (b.drewN n) := ⟨h.os, h.tape, h.output, h.size, h.block⟩
theorem below_drew {B : Nat} {a b : World} (h : Below B a b) : Below B a b.drew := ⟨h.os, h.tape, h.output, h.size, h.block⟩
theorem cell_of_heap {w w' : World} {b : Nat} (h : w'.heap[b]? = w.heap[b]?) (o : Nat) : w'.cell? ⟨b, o, none⟩ = w.cell? ⟨b, o, none⟩ := World.cell?_of_block (w := w) (a := ⟨b, o, none⟩) h
theorem frozen_of_heap {w w' : World} {b : Nat} (h : w'.heap[b]? = w.heap[b]?) (o : Nat) : w'.frozen? ⟨b, o, none⟩ = w.frozen? ⟨b, o, none⟩ := World.frozen?_of_block (w := w) (a := ⟨b, o, none⟩) h
theorem keepT {S : Nat → Prop} {w w' : World} (ht : Touch S w w') {b o : Nat} {v : Value} (h : b < w.heap.size) (hs : ¬ S b) (hc : w.cell? ⟨b, o, none⟩ = some v) : w'.cell? ⟨b, o, none⟩ = some v := by
  rw [cell_of_heap (ht.block b h hs)]; exact hc

/-- A block of n cells that may be written, and what they hold. -/
structure RowF (w : World) (b n : Nat) (V : Nat → Value) : Prop where
  cell : ∀ j, j < n → w.cell? ⟨b, j, none⟩ = some (V j)
  free : ∀ j, j < n → w.frozen? ⟨b, j, none⟩ = false
  lt : b < w.heap.size
theorem RowF.touch {w w' : World} {b n : Nat} {V : Nat → Value} (h : RowF w b n V) {S : Nat → Prop} (t : Touch S w w') (hs : ¬ S b) : RowF w' b n V :=
  ⟨fun j hj => by rw [cell_of_heap (t.block b h.lt hs)]; exact h.cell j hj, fun j hj => by rw [frozen_of_heap (t.block b h.lt hs)]; exact h.free j hj, Nat.lt_of_lt_of_le h.lt t.size⟩
theorem RowF.below {w w' : World} {b n : Nat} {V : Nat → Value} (h : RowF w b n V) (t : Below w.heap.size w w') : RowF w' b n V :=
  h.touch (S := fun _ => False) (Touch.of_below t) id
theorem RowF.alloc {w : World} {b n : Nat} {V : Nat → Value} (h : RowF w b n V) (o : Obj) : RowF (w.alloc o) b n V := h.below ((Below.refl _ _).alloc (Nat.le_refl _) _)
theorem RowF.drew {w : World} {b n : Nat} {V : Nat → Value} (h : RowF w b n V) : RowF w.drew b n V := ⟨h.cell, h.free, h.lt⟩
theorem RowF.drewN {w : World} {b n : Nat} {V : Nat → Value} (h : RowF w b n V) (q : Nat) : RowF (w.drewN q) b n V := ⟨h.cell, h.free, h.lt⟩
theorem RowF.set {w : World} {b n : Nat} {V : Nat → Value} (h : RowF w b n V) (k : Nat) (hk : k < n) (u : Value) : RowF (w.setCell ⟨b, k, none⟩ u) b n (fun j => if j = k then u else V j) := by
  refine ⟨fun j hj => ?_, fun j hj => by simpa [go_sem] using h.free j hj, by simpa using h.lt⟩
  by_cases e : j = k
  · subst e
    have := h.cell j hj
    simp [go_sem, this]
  · have := h.cell j hj
    have hne : (⟨b, j, none⟩ : Addr) ≠ ⟨b, k, none⟩ := by simp [e]
    simp [go_sem, e, this, hne]
theorem RowF.congr {w : World} {b n : Nat} {V V' : Nat → Value} (h : RowF w b n V) (e : ∀ j, j < n → V j = V' j) : RowF w b n V' := ⟨fun j hj => by rw [← e j hj]; exact h.cell j hj, h.free, h.lt⟩
theorem RowF.set_other {w : World} {b n : Nat} {V : Nat → Value} (h : RowF w b n V) {p : Addr} (hp : p.block ≠ b) (u : Value) : RowF (w.setCell p u) b n V :=
  h.touch (S := fun k => k = p.block) (Touch.setCell (S := fun k => k = p.block) (Touch.refl _ _) (Or.inl rfl) _) (fun e => hp e.symm)
theorem RowF.new (w : World) (cs : List Value) (t : TypeId) : RowF (w.alloc (.cells cs.toArray t)) w.heap.size cs.length (fun j => cs.getD j undef) :=
  ⟨fun j hj => by simp [go_sem, hj], fun j hj => by simp [go_sem], by simp⟩

theorem own_touch {w w' : World} {base e size n : Nat} {v : Value} {xs : List Value} (h : w.ownsRow base e size v n xs) {S : Nat → Prop} (t : Touch S w w') (hs : ∀ g, base ≤ g → ¬ S g) : w'.ownsRow base e size v n xs := by
  obtain ⟨h1, h2⟩ := h
  refine ⟨h1, ?_⟩
  rcases h2 with h2 | ⟨g, cap, cur, hv, hg, hh, r⟩
  · exact Or.inl h2
  · refine Or.inr ⟨g, cap, cur, hv, hg, ?_, r⟩
    rw [t.block g (by rcases Nat.lt_or_ge g w.heap.size with h | h; exact h; rw [Array.getElem?_eq_none h] at hh; cases hh) (hs g hg)]
    exact hh
theorem own_slice {w : World} {base e size n : Nat} {v : Value} {xs : List Value} (h : w.ownsRow base e size v n xs) : ∃ a cap, v = .slice a n cap := by
  rcases h.2 with ⟨rfl, rfl⟩ | ⟨g, cap, cur, rfl, _⟩
  · exact ⟨_, _, rfl⟩
  · exact ⟨_, _, rfl⟩
theorem Touch.grown {S : Nat → Prop} {a w w' : World} {row : Option Nat} (h : Touch S a w) (hg : w.grownBy w' row) (hr : ∀ k, row = some k → S k ∨ a.heap.size ≤ k) : Touch S a w' :=
  ⟨hg.os.trans h.os, hg.tape.trans h.tape, hg.output.trans h.output, Nat.le_trans h.size hg.size, fun k hk hs => (hg.block k (Nat.lt_of_lt_of_le hk h.size) (fun e => by rcases hr k e.symm with h | h; exact hs h; omega)).trans (h.block k hk hs)⟩
theorem one_new (w : World) (v : Value) (t : TypeId) : ∀ j u, [v][j]? = some u → (w.alloc (.cells #[v] t)).cell? ((⟨w.heap.size, 0, none⟩ : Addr).add j) = some u := by
  intro j u h
  cases j with
  | zero => simp at h; subst h; simp [Addr.add, go_sem]
  | succ j => simp at h

/-- A goal that the walk is to leave alone: laid at the end of an arm of go_wp2_with, and taken off behind it. -/
structure Hold (p : Prop) : Prop where
  out : p

/-- A quiet call in a region that draws its order, behind an earlier such region. -/
theorem quiet_again {P : Program} {f : FuncId} {args : Array Value} {w : World} {a b : Nat} {v : Value}
    (h : Calls P f args (w.drewN (a + b)) fun e w' => e = .returned v ∧ w' = w.drewN (a + b)) : Calls P f args (w.drewN (a + b)) fun e w'' => e = .returned v ∧ ∃ m, w'' = w.drewN (a + m) :=
  h.mono fun _ _ ⟨he, hm⟩ => ⟨he, b, hm⟩

end Go.Proofs.Ytoiiblajgkdabaa

namespace Go.Proofs.Ytoiiblajgkdabaa
set_option linter.unusedSimpArgs false
set_option linter.unusedVariables false
set_option maxRecDepth 100000

/-- All numbers of block a of an order (those that come to a divided by its size) are in T. -/
def QFull (T : Nat → Prop) (a o : Nat) : Prop := ∀ x, x / 2 ^ o = a → T x
/-- A block that is free, and not half of one that is. -/
def QCan (T : Nat → Prop) (a o : Nat) : Prop := QFull T a o ∧ (o < 8 → ¬ QFull T (a / 2) (o + 1))
def budQ (a : Nat) : Nat := if a % 2 = 0 then a + 1 else a - 1
theorem budQ_ne (a : Nat) : budQ a ≠ a := by unfold budQ; split <;> omega
theorem budQ_half (a : Nat) : budQ a / 2 = a / 2 := by unfold budQ; split <;> omega
theorem half_two (a b : Nat) (h : b / 2 = a / 2) : b = a ∨ b = budQ a := by unfold budQ; split <;> omega
theorem div_up (x o d : Nat) : x / 2 ^ (o + d) = x / 2 ^ o / 2 ^ d := by rw [Nat.pow_add, Nat.div_div_eq_div_mul]
theorem div_one (x o : Nat) : x / 2 ^ (o + 1) = x / 2 ^ o / 2 := by rw [div_up]
theorem in_block (a o : Nat) : (a * 2 ^ o) / 2 ^ o = a := Nat.mul_div_cancel _ (Nat.two_pow_pos o)
theorem down_block (a d : Nat) : (a * 2 ^ d) / 2 ^ d = a := Nat.mul_div_cancel _ (Nat.two_pow_pos d)

/-- What is in T, and a block besides. -/
def plusQ (T : Nat → Prop) (a o : Nat) : Nat → Prop := fun x => T x ∨ x / 2 ^ o = a
def minusQ (T : Nat → Prop) (a o : Nat) : Nat → Prop := fun x => T x ∧ x / 2 ^ o ≠ a
theorem parent_full {T : Nat → Prop} {a o : Nat} (h : QFull T (a / 2) (o + 1)) : QFull T a o ∧ QFull T (budQ a) o :=
  ⟨fun x hx => h x (by rw [div_one, hx]), fun x hx => h x (by rw [div_one, hx, budQ_half])⟩
theorem full_parent {T : Nat → Prop} {a o : Nat} (h1 : QFull T a o) (h2 : QFull T (budQ a) o) : QFull T (a / 2) (o + 1) := fun x hx => by
  rw [div_one] at hx
  rcases half_two a _ hx with h | h
  · exact h1 x h
  · exact h2 x h
theorem full_up {T : Nat → Prop} {a o d b : Nat} (h : QFull T b (o + d)) (hb : a / 2 ^ d = b) : QFull T a o := fun x hx => h x (by rw [div_up, hx, hb])
theorem full_mono {T U : Nat → Prop} {a o : Nat} (h : QFull T a o) (hi : ∀ x, T x → U x) : QFull U a o := fun x hx => hi x (h x hx)

theorem can_plus {T : Nat → Prop} {a o : Nat} (ho : o ≤ 8) (hdis : ∀ x, x / 2 ^ o = a → ¬ T x) (hbud : o < 8 → ¬ QFull T (budQ a) o) (b j : Nat) (hj : j ≤ 8) :
    QCan (plusQ T a o) b j ↔ QCan T b j ∨ (b = a ∧ j = o) := by
  have hself : QFull (plusQ T a o) a o := fun x hx => Or.inr hx
  -- the half beside the block is not free with it
  have hnb : o < 8 → ¬ QFull (plusQ T a o) (budQ a) o := fun h8 hf => hbud h8 fun x hx => by
    rcases hf x hx with h | h
    · exact h
    · exact absurd (hx.symm.trans h) (budQ_ne a)
  have hnp : o < 8 → ¬ QFull (plusQ T a o) (a / 2) (o + 1) := fun h8 hf => hnb h8 (parent_full hf).2
  -- nothing that is greater than the block and holds it is free
  have hup : ∀ d c, o + d + 1 ≤ 8 → a / 2 ^ (d + 1) = c → ¬ QFull (plusQ T a o) c (o + (d + 1)) := fun d c hd hc hf => by
    refine hnp (by omega) ?_
    have : QFull (plusQ T a o) (a / 2) (o + 1) := full_up (d := d) (b := c) (by rw [show o + 1 + d = o + (d + 1) by omega]; exact hf) (by rw [← hc, Nat.pow_succ, Nat.mul_comm, Nat.div_div_eq_div_mul])
    exact this
  constructor
  · rintro ⟨h1, h2⟩
    rcases Nat.lt_trichotomy j o with hlt | rfl | hgt
    · -- smaller than the block
      obtain ⟨d, rfl⟩ : ∃ d, o = j + (d + 1) := ⟨o - j - 1, by omega⟩
      by_cases hin : b / 2 ^ (d + 1) = a
      · exfalso
        refine h2 (by omega) fun x hx => Or.inr ?_
        rw [show j + (d + 1) = j + 1 + d by omega, div_up, hx, ← hin, Nat.pow_succ, Nat.mul_comm, Nat.div_div_eq_div_mul]
      · left
        have hT : QFull T b j := fun x hx => (h1 x hx).resolve_right fun e => hin (by rw [← e, div_up x j (d + 1), hx])
        exact ⟨hT, fun h8 hf => h2 h8 (full_mono hf fun x => Or.inl)⟩
    · by_cases e : b = a
      · exact Or.inr ⟨e, rfl⟩
      · left
        have hT : QFull T b j := fun x hx => (h1 x hx).resolve_right fun e' => e (hx.symm.trans e')
        exact ⟨hT, fun h8 hf => h2 h8 (full_mono hf fun x => Or.inl)⟩
    · obtain ⟨d, rfl⟩ : ∃ d, j = o + (d + 1) := ⟨j - o - 1, by omega⟩
      by_cases hin : a / 2 ^ (d + 1) = b
      · exact absurd h1 (hup d b (by omega) hin)
      · left
        have hT : QFull T b (o + (d + 1)) := fun x hx => (h1 x hx).resolve_right fun e => hin (by rw [← hx, div_up x o (d + 1), e])
        exact ⟨hT, fun h8 hf => h2 h8 (full_mono hf fun x => Or.inl)⟩
  · rintro (⟨h1, h2⟩ | ⟨rfl, rfl⟩)
    · refine ⟨full_mono h1 fun x => Or.inl, fun h8 hf => ?_⟩
      -- the one that it is half of would be free with the block: so the block lies in the other half
      have hother : QFull (plusQ T a o) (budQ b) j := (parent_full hf).2
      by_cases hTo : QFull T (budQ b) j
      · exact h2 h8 (full_parent h1 hTo)
      · have : ∃ x, x / 2 ^ j = budQ b ∧ ¬ T x := by
          refine Classical.byContradiction fun hn => hTo fun x hx => Classical.byContradiction fun hx' => hn ⟨x, hx, hx'⟩
        obtain ⟨x, hx, hxT⟩ := this
        have hxa : x / 2 ^ o = a := (hother x hx).resolve_left hxT
        rcases Nat.lt_trichotomy j o with hlt | rfl | hgt
        · obtain ⟨d, rfl⟩ : ∃ d, o = j + (d + 1) := ⟨o - j - 1, by omega⟩
          -- the block holds both halves
          have hb : (b * 2 ^ j) / 2 ^ (j + (d + 1)) = a := by
            rw [div_up (b * 2 ^ j) j (d + 1), in_block, ← hxa, div_up x j (d + 1), hx]
            have h2 := budQ_half b
            rw [Nat.pow_succ, Nat.mul_comm, ← Nat.div_div_eq_div_mul, ← Nat.div_div_eq_div_mul, h2]
          exact hdis _ hb (h1 _ (in_block b j))
        · have : budQ b = a := by rw [← hx, hxa]
          refine hbud h8 ?_
          have hbb : budQ a = b := by rw [← this]; unfold budQ; split <;> split <;> omega
          rw [hbb]; exact h1
        · obtain ⟨d, rfl⟩ : ∃ d, j = o + (d + 1) := ⟨j - o - 1, by omega⟩
          have hin : a / 2 ^ (d + 1) = budQ b := by rw [← hx, div_up x o (d + 1), hxa]
          exact hup d _ (by omega) hin hother
    · exact ⟨hself, hnp⟩

theorem can_minus {T : Nat → Prop} {a o : Nat} (ho : o ≤ 8) (hc : QCan T a o) (b j : Nat) (hj : j ≤ 8) :
    QCan (minusQ T a o) b j ↔ QCan T b j ∧ ¬ (b = a ∧ j = o) := by
  -- T is what is left, and the block besides
  have hT : plusQ (minusQ T a o) a o = T := by
    funext x
    apply propext
    unfold plusQ minusQ
    constructor
    · rintro (⟨h, _⟩ | h)
      · exact h
      · exact hc.1 x h
    · intro h
      by_cases e : x / 2 ^ o = a
      · exact Or.inr e
      · exact Or.inl ⟨h, e⟩
  have hdis : ∀ x, x / 2 ^ o = a → ¬ minusQ T a o x := fun x hx h => h.2 hx
  have hbud : o < 8 → ¬ QFull (minusQ T a o) (budQ a) o := fun h8 hf => hc.2 h8 (full_parent hc.1 (full_mono hf fun x h => h.1))
  have h := can_plus ho hdis hbud b j hj
  rw [hT] at h
  constructor
  · intro h1
    refine ⟨h.2 (Or.inl h1), ?_⟩
    rintro ⟨rfl, rfl⟩
    exact hdis _ (in_block b j) (h1.1 _ (in_block b j))
  · rintro ⟨h1, h2⟩
    exact (h.1 h1).resolve_right h2

/-- The half beside a block: free as a whole just if it is one of the free ones. -/
theorem bud_can {T : Nat → Prop} {a o : Nat} (ho : o < 8) (hdis : ∀ x, x / 2 ^ o = a → ¬ T x) : QFull T (budQ a) o ↔ QCan T (budQ a) o := by
  refine ⟨fun h => ⟨h, fun _ hf => ?_⟩, fun h => h.1⟩
  rw [budQ_half] at hf
  exact hdis _ (in_block a o) ((parent_full hf).1 _ (in_block a o))

end Go.Proofs.Ytoiiblajgkdabaa

namespace Go.Proofs.Ytoiiblajgkdabaa
set_option linter.unusedSimpArgs false
set_option linter.unusedVariables false
set_option maxRecDepth 100000
open Go.RowKit

/-- Some of a memory's blocks. -/
def PH : Type := Nat → Option Obj
def PH.apart (a b : PH) : Prop := ∀ k, a k = none ∨ b k = none
def PH.both (a b : PH) : PH := fun k => match a k with | some o => some o | none => b k
/-- What is said of some blocks. -/
def HP : Type := PH → Prop
def HP.star (P Q : HP) : HP := fun h => ∃ a b : PH, a.apart b ∧ h = a.both b ∧ P a ∧ Q b
instance : Mul HP := ⟨HP.star⟩
theorem HP.mul_def (P Q : HP) (h : PH) : (P * Q) h ↔ ∃ a b : PH, a.apart b ∧ h = a.both b ∧ P a ∧ Q b := Iff.rfl
theorem HP.ext {P Q : HP} (h : ∀ x, P x ↔ Q x) : P = Q := funext fun x => propext (h x)
theorem PH.apart.symm {a b : PH} (h : a.apart b) : b.apart a := fun k => (h k).symm
theorem PH.both_comm {a b : PH} (h : a.apart b) : a.both b = b.both a := by
  funext k
  unfold PH.both
  rcases h k with e | e
  · rw [e]; cases b k <;> rfl
  · rw [e]; cases a k <;> rfl
theorem PH.both_assoc (a b c : PH) : (a.both b).both c = a.both (b.both c) := by
  funext k
  unfold PH.both
  cases a k <;> rfl
theorem PH.both_none {a b : PH} {k : Nat} : a.both b k = none ↔ a k = none ∧ b k = none := by
  unfold PH.both
  cases h : a k <;> simp
theorem star_comm (P Q : HP) : P * Q = Q * P := HP.ext fun _ => ⟨fun ⟨a, b, h, e, p, q⟩ => ⟨b, a, h.symm, e.trans (PH.both_comm h), q, p⟩, fun ⟨a, b, h, e, p, q⟩ => ⟨b, a, h.symm, e.trans (PH.both_comm h), q, p⟩⟩
theorem star_assoc (P Q R : HP) : P * Q * R = P * (Q * R) := HP.ext fun x => by
  constructor
  · rintro ⟨ab, c, h1, rfl, ⟨a, b, h2, rfl, p, q⟩, r⟩
    refine ⟨a, b.both c, fun k => ?_, PH.both_assoc _ _ _, p, b, c, fun k => ?_, rfl, q, r⟩
    · rcases h2 k with e | e
      · exact Or.inl e
      · rcases h1 k with e' | e'
        · exact Or.inl (PH.both_none.1 e').1
        · exact Or.inr (PH.both_none.2 ⟨e, e'⟩)
    · rcases h1 k with e' | e'
      · exact Or.inl (PH.both_none.1 e').2
      · exact Or.inr e'
  · rintro ⟨a, bc, h1, rfl, p, b, c, h2, rfl, q, r⟩
    refine ⟨a.both b, c, fun k => ?_, (PH.both_assoc _ _ _).symm, ⟨a, b, fun k => ?_, rfl, p, q⟩, r⟩
    · rcases h2 k with e | e
      · rcases h1 k with e' | e'
        · exact Or.inl (PH.both_none.2 ⟨e', e⟩)
        · exact Or.inr (PH.both_none.1 e').2
      · exact Or.inr e
    · rcases h1 k with e' | e'
      · exact Or.inl e'
      · exact Or.inr (PH.both_none.1 e').1
instance : Std.Commutative (α := HP) (fun P Q => P * Q) := ⟨star_comm⟩
instance : Std.Associative (α := HP) (fun P Q => P * Q) := ⟨star_assoc⟩

def exP {α : Sort _} (P : α → HP) : HP := fun h => ∃ x, P x h
/-- The blocks of S, of which I holds. -/
def ownP (S : Nat → Prop) (I : World → Prop) : HP := fun h => (∀ k, S k ↔ h k ≠ none) ∧ ∀ w : World, (∀ k o, h k = some o → w.heap[k]? = some o) → I w
def pt (b : Nat) (o : Obj) : HP := ownP (fun k => k = b) (fun w => w.heap[b]? = some o)
/-- No block. -/
def emp : HP := ownP (fun _ => False) (fun _ => True)
/-- What is said of worlds hangs on the blocks of S alone. -/
def Loc (S : Nat → Prop) (I : World → Prop) : Prop := ∀ w w' : World, I w → (∀ k, S k → w'.heap[k]? = w.heap[k]?) → I w'

/-- Of some blocks of a world P is said; beside its memory the world is as g is. -/
structure Sat (g w : World) (P : HP) : Prop where
  os : w.os = g.os
  tape : w.tape = g.tape
  output : w.output = g.output
  part : ∃ h : PH, (∀ k o, h k = some o → w.heap[k]? = some o) ∧ P h

theorem Sat.perm {g w : World} {P Q : HP} (h : Sat g w P) (e : P = Q) : Sat g w Q := e ▸ h
theorem Sat.mono {g w : World} {P Q : HP} (h : Sat g w P) (i : ∀ x, P x → Q x) : Sat g w Q :=
  ⟨h.os, h.tape, h.output, h.part.elim fun x hx => ⟨x, hx.1, i x hx.2⟩⟩
theorem star_mono {P P' Q : HP} (i : ∀ x, P x → P' x) : ∀ x, (P * Q) x → (P' * Q) x := fun _ ⟨a, b, h, e, p, q⟩ => ⟨a, b, h, e, i a p, q⟩
theorem Sat.mono_left {g w : World} {P P' R : HP} (h : Sat g w (P * R)) (i : ∀ x, P x → P' x) : Sat g w (P' * R) := h.mono (star_mono i)
theorem Sat.left {g w : World} {P Q : HP} (h : Sat g w (P * Q)) : Sat g w P := by
  obtain ⟨a, b, c, x, hx, p, q, hpq, rfl, hp, hq⟩ := h
  refine ⟨a, b, c, p, fun k o e => hx k o ?_, hp⟩
  unfold PH.both; rw [e]
theorem Sat.right {g w : World} {P Q : HP} (h : Sat g w (P * Q)) : Sat g w Q := (h.perm (star_comm _ _)).left
theorem Sat.ex {g w : World} {α : Sort _} {P : α → HP} {R : HP} (h : Sat g w (exP P * R)) : ∃ x, Sat g w (P x * R) := by
  obtain ⟨a, b, c, x, hx, p, q, hpq, rfl, ⟨y, hp⟩, hq⟩ := h
  exact ⟨y, a, b, c, _, hx, p, q, hpq, rfl, hp, hq⟩
theorem Sat.ex' {g w : World} {α : Sort _} {P : α → HP} {R : HP} (y : α) (h : Sat g w (P y * R)) : Sat g w (exP P * R) := h.mono_left fun _ hx => ⟨y, hx⟩
theorem Sat.inv {g w : World} {S : Nat → Prop} {I : World → Prop} {R : HP} (h : Sat g w (ownP S I * R)) : I w := by
  obtain ⟨_, _, _, x, hx, hs, hi⟩ := h.left
  exact hi w hx
theorem Sat.lt {g w : World} {S : Nat → Prop} {I : World → Prop} {R : HP} (h : Sat g w (ownP S I * R)) : ∀ k, S k → k < w.heap.size := by
  obtain ⟨_, _, _, x, hx, hs, hi⟩ := h.left
  intro k hk
  cases e : x k with
  | none => exact absurd e ((hs k).1 hk)
  | some o =>
    have := hx k o e
    rcases Nat.lt_or_ge k w.heap.size with h | h
    · exact h
    · rw [Array.getElem?_eq_none h] at this; cases this
/-- Blocks of one part are none of another one. -/
theorem Sat.apart {g w : World} {S T : Nat → Prop} {I J : World → Prop} {R : HP} (h : Sat g w (ownP S I * (ownP T J * R))) : ∀ k, S k → ¬ T k := by
  obtain ⟨_, _, _, x, hx, p, q, hpq, rfl, ⟨hp, _⟩, p', q', hpq', rfl, ⟨hp', _⟩, _⟩ := h
  intro k hs ht
  rcases hpq k with e | e
  · exact (hp k).1 hs e
  · exact (hp' k).1 ht (PH.both_none.1 e).1
theorem Sat.of_touch {g w w' : World} {P : HP} (h : Sat g w P) {S : Nat → Prop} (t : Touch S w w') (hs : ∀ k, k < w.heap.size → ¬ S k) : Sat g w' P := by
  obtain ⟨a, b, c, x, hx, p⟩ := h
  refine ⟨t.os.trans a, t.tape.trans b, t.output.trans c, x, fun k o e => ?_, p⟩
  have hk : k < w.heap.size := by
    rcases Nat.lt_or_ge k w.heap.size with h | h
    · exact h
    · have := hx k o e; rw [Array.getElem?_eq_none h] at this; cases this
  rw [t.block k hk (hs k hk)]; exact hx k o e
theorem Sat.below {g w w' : World} {P : HP} (h : Sat g w P) (b : Below w.heap.size w w') : Sat g w' P := h.of_touch (S := fun _ => False) (Touch.of_below b) (fun _ _ => id)
theorem Sat.alloc {g w : World} {P : HP} (h : Sat g w P) (o : Obj) : Sat g (w.alloc o) P := h.below ((Below.refl _ _).alloc (Nat.le_refl _) _)
theorem Sat.drewN {g w : World} {P : HP} (h : Sat g w P) (n : Nat) : Sat g (w.drewN n) P := ⟨h.os, h.tape, h.output, h.part⟩
theorem Sat.drew {g w : World} {P : HP} (h : Sat g w P) : Sat g w.drew P := ⟨h.os, h.tape, h.output, h.part⟩
theorem heap_lt {w : World} {k : Nat} {o : Obj} (h : w.heap[k]? = some o) : k < w.heap.size := by
  rcases Nat.lt_or_ge k w.heap.size with h' | h'
  · exact h'
  · rw [Array.getElem?_eq_none h'] at h; cases h
/-- A part is written, or new blocks come to it; all others stay. -/
theorem Sat.touch {g w w' : World} {S S' : Nat → Prop} {I I' : World → Prop} {R : HP} (h : Sat g w (ownP S I * R)) (t : Touch S w w') (i : I' w') (loc : Loc S' I') (hs : ∀ k, S' k → S k ∨ w.heap.size ≤ k) (hl : ∀ k, S' k → k < w'.heap.size) : Sat g w' (ownP S' I' * R) := by
  have hlt := h.lt
  obtain ⟨a, b, c, x, hx, p, q, hpq, rfl, hp, hq⟩ := h
  classical
  have hq' : ∀ k o, q k = some o → w.heap[k]? = some o ∧ ¬ S k := fun k o e => by
    have hn : p k = none := by rcases hpq k with h | h; exact h; rw [e] at h; cases h
    refine ⟨hx k o (by unfold PH.both; rw [hn]; exact e), fun hsk => (hp.1 k).1 hsk hn⟩
  have hw' : ∀ k o, q k = some o → w'.heap[k]? = some o ∧ ¬ S' k := fun k o e => by
    obtain ⟨h1, h2⟩ := hq' k o e
    refine ⟨by rw [t.block k (heap_lt h1) h2]; exact h1, fun hk => ?_⟩
    rcases hs k hk with h | h
    · exact h2 h
    · have := heap_lt h1; omega
  obtain ⟨r, hr⟩ : ∃ r : PH, ∀ k, r k = if S' k then w'.heap[k]? else none := ⟨fun k => if S' k then w'.heap[k]? else none, fun _ => rfl⟩
  have ry : ∀ k, S' k → r k = some (w'.heap[k]?.getD default) ∧ w'.heap[k]? = some (w'.heap[k]?.getD default) := fun k hk => by
    have hg : w'.heap[k]? = some (w'.heap[k]'(hl k hk)) := Array.getElem?_eq_getElem (hl k hk)
    have h1 := hr k
    rw [if_pos hk] at h1
    rw [h1, hg]; exact ⟨rfl, rfl⟩
  have rn : ∀ k, ¬ S' k → r k = none := fun k hk => by have h1 := hr k; rw [if_neg hk] at h1; exact h1
  refine ⟨t.os.trans a, t.tape.trans b, t.output.trans c, PH.both r q, ?_, r, q, ?_, rfl, ⟨fun k => ?_, ?_⟩, hq⟩
  · intro k o e
    unfold PH.both at e
    by_cases hk : S' k
    · rw [(ry k hk).1] at e
      rw [(ry k hk).2]; exact e
    · rw [rn k hk] at e; exact (hw' k o e).1
  · intro k
    by_cases hk : S' k
    · right
      cases e : q k with
      | none => rfl
      | some o => exact absurd hk (hw' k o e).2
    · left; exact rn k hk
  · by_cases hk : S' k
    · simp [hk, (ry k hk).1]
    · simp [hk, rn k hk]
  · intro w2 h2
    refine loc w' w2 i fun k hk => ?_
    rw [(ry k hk).2]
    exact h2 k _ (ry k hk).1
/-- A part that is not said of becomes one. -/
theorem Sat.emp {g w : World} {P : HP} (h : Sat g w P) : Sat g w (emp * P) := by
  obtain ⟨a, b, c, x, hx, p⟩ := h
  exact ⟨a, b, c, x, hx, fun _ => none, x, fun _ => Or.inl rfl, rfl, ⟨fun k => by simp, fun _ _ => trivial⟩, p⟩
theorem Sat.new {g w w' : World} {S' : Nat → Prop} {I' : World → Prop} {R : HP} (h : Sat g w R) (t : Below w.heap.size w w') (i : I' w') (loc : Loc S' I') (hs : ∀ k, S' k → w.heap.size ≤ k) (hl : ∀ k, S' k → k < w'.heap.size) : Sat g w' (ownP S' I' * R) :=
  h.emp.touch (Touch.of_below t) i loc (fun k hk => Or.inr (hs k hk)) hl
theorem loc_pt (b : Nat) (o : Obj) : Loc (fun k => k = b) (fun w => w.heap[b]? = some o) := fun _ _ h e => (e b rfl).trans h
theorem Sat.pt_new {g w : World} {P : HP} (h : Sat g w P) (o : Obj) : Sat g (w.alloc o) (pt w.heap.size o * P) :=
  h.new ((Below.refl _ _).alloc (Nat.le_refl _) _) (Array.getElem?_push_size (xs := w.heap)) (loc_pt _ _) (fun k e => by rw [e]; exact Nat.le_refl _) (fun k e => by rw [e]; simp)
theorem Sat.pt_heap {g w : World} {b : Nat} {o : Obj} {P : HP} (h : Sat g w (pt b o * P)) : w.heap[b]? = some o := Sat.inv h
theorem Sat.pt_lt {g w : World} {b : Nat} {o : Obj} {P : HP} (h : Sat g w (pt b o * P)) : b < w.heap.size := Sat.lt h b rfl

/-- All that a world had. -/
def whole (g : World) : HP := ownP (fun k => k < g.heap.size) (fun w => ∀ k, k < g.heap.size → w.heap[k]? = g.heap[k]?)
theorem Sat.start (w : World) : Sat w w (whole w) := by
  refine ⟨rfl, rfl, rfl, fun k => w.heap[k]?, fun _ _ h => h, fun k => ?_, fun w' h k hk => ?_⟩
  · by_cases hk : k < w.heap.size
    · simp [hk]
    · simp [hk, Array.getElem?_eq_none (Nat.le_of_not_lt hk)]
  · have hg : w.heap[k]? = some (w.heap[k]'hk) := Array.getElem?_eq_getElem hk
    rw [hg]; exact h k _ hg
theorem Sat.ends {g w : World} {R : HP} (h : Sat g w (whole g * R)) : Below g.heap.size g w :=
  ⟨h.os, h.tape, h.output, by
    rcases Nat.lt_or_ge w.heap.size g.heap.size with e | e
    · have := Sat.inv h w.heap.size e
      rw [Array.getElem?_eq_none (Nat.le_refl _), Array.getElem?_eq_getElem e] at this; cases this
    · exact e, fun k hk => Sat.inv h k hk⟩

end Go.Proofs.Ytoiiblajgkdabaa

namespace Go.Proofs.Ytoiiblajgkdabaa
set_option linter.unusedSimpArgs false
set_option linter.unusedVariables false
set_option maxRecDepth 100000
open Go.RowKit Go.MapKept
set_option maxHeartbeats 1000000

abbrev Blk := Int × Int
def encB (x : Blk) : Value := .agg #[.int .i64 x.1, .int .i64 x.2]
theorem encB_inj {x y : Blk} (h : encB x = encB y) : x = y := by
  simp [encB] at h
  exact Prod.ext h.1 h.2
theorem blk_check' (x : Blk) (em : Bool) (n : Nat) (w : World) : (Instr.checkKey em (n + 1 + 1) 39 (encB x)).run Try.prog w = .ok () w := by
  have h1 := Try.underlying39
  have h2 := Try.underlying3
  have h3 := Try.sizeOf3
  have h4 := Try.isAgg3
  have c1 : ∀ (y : Int) (w : World), (Instr.checkKey em (n + 1) 3 (.int .i64 y)).run Try.prog w = .ok () w := fun y w => run_checkKey h2 (by first | trivial | simp [IsKey]) em n
  unfold Instr.checkKey
  simp only [encB, Sem.run_bind, run_underlying h1, Result.andThen]
  simp [go_sem, h2, h3, h4, c1, part, Result.andThen]
theorem blk_check (x : Blk) (em : Bool) (w : World) : (Instr.checkKey em 10000 39 (encB x)).run Try.prog w = .ok () w := blk_check' x em 9998 w
theorem blk_equal (x y : Blk) (w : World) : (Op.equal 39 (encB x) (encB y)).run Try.prog w = .ok (decide (x = y)) w := by
  have h1 := Try.underlying39
  have h2 := Try.underlying3
  have h3 := Try.sizeOf3
  have h4 := Try.isAgg3
  show (Op.equalIn (9999 + 1) 39 (encB x) (encB y)).run Try.prog w = _
  simp [encB, go_sem, h1, h2, h3, h4]
  by_cases e1 : x.1 = y.1
  · by_cases e2 : x.2 = y.2
    · rw [if_pos e1, if_pos e2, decide_eq_true (Prod.ext e1 e2)]
    · rw [if_pos e1, if_neg e2, decide_eq_false (fun e => e2 (by rw [e]))]
  · rw [if_neg e1, decide_eq_false (fun e => e1 (by rw [e]))]
theorem blk_stays (x : Blk) (w : World) : (Instr.keyThatStays (encB x) (encB x)).run Try.prog w = .ok (encB x) w := by
  have h : Instr.sameBits 10000 (encB x) (encB x) = true := by
    show Instr.sameBits (9998 + 1 + 1) (encB x) (encB x) = true
    simp [Instr.sameBits, encB]
  simp [Instr.keyThatStays, h]

/-- The entries of a map, as keys. -/
def KeysB (es : List MapEntry) (L : List Blk) : Prop := es.map (·.key) = L.map encB
theorem blk_find (x : Blk) (w : World) : ∀ (es : List MapEntry) (L : List Blk) (i : Nat), KeysB es L →
    (Instr.findAsking 39 (encB x) es i).run Try.prog w = .ok ((L.findIdx? (· == x)).bind fun j => (es[j]?).map fun e => (i + j, e.val)) w
  | [], L, i, h => by
    obtain rfl : L = [] := by simpa [KeysB] using h.symm
    simp [Instr.findAsking]
  | e :: es, [], i, h => by simp [KeysB] at h
  | e :: es, y :: L, i, h => by
    simp only [KeysB, List.map_cons, List.cons.injEq] at h
    obtain ⟨h1, h2⟩ := h
    unfold Instr.findAsking
    rw [h1]
    simp only [Sem.run_bind, blk_equal, Result.andThen_ok]
    by_cases hxy : x = y
    · subst hxy
      simp [List.findIdx?_cons]
    · have hyx : ¬ y = x := fun e => hxy e.symm
      have ih := blk_find x w es L (i + 1) h2
      simp only [decide_eq_false hxy, Bool.false_eq_true, if_false, ih, List.findIdx?_cons, beq_iff_eq, hyx]
      cases hf : L.findIdx? (· == x) with
      | none => simp
      | some j => simp; congr 1; funext e; simp; omega
theorem blk_findKey (x : Blk) (w : World) (es : List MapEntry) (L : List Blk) (h : KeysB es L) :
    (Instr.findKey 39 (encB x) es).run Try.prog w = .ok ((L.findIdx? (· == x)).bind fun j => (es[j]?).map fun e => (j, e.val)) w := by
  rw [run_findKey_eq w (by rw [Try.underlying39]), blk_find x w es L 0 h]
  simp

/-- A map at b holds just the blocks of L. -/
structure MapB (w : World) (b : Nat) (L : List Blk) : Prop where
  ex : ∃ es clock, w.heap[b]? = some (.map es clock) ∧ KeysB es.toList L ∧ (∀ e ∈ es.toList, e.val = .bool true) ∧ (es.toList.map (·.born)).Nodup ∧ ∀ e ∈ es.toList, e.born < clock
  nodup : L.Nodup

theorem MapB.heap {w w' : World} {b : Nat} {L : List Blk} (h : MapB w b L) (e : w'.heap[b]? = w.heap[b]?) : MapB w' b L := by
  obtain ⟨⟨es, c, h1, h2⟩, h3⟩ := h
  exact ⟨⟨es, c, e.trans h1, h2⟩, h3⟩
theorem MapB.lt {w : World} {b : Nat} {L : List Blk} (h : MapB w b L) : b < w.heap.size := by
  obtain ⟨⟨es, c, h1, _⟩, _⟩ := h
  exact heap_lt h1
theorem findIdx_mem {L : List Blk} {x : Blk} : (∃ j, L.findIdx? (· == x) = some j ∧ ∃ h : j < L.length, L[j] = x) ∨ (L.findIdx? (· == x) = none ∧ x ∉ L) := by
  cases hf : L.findIdx? (· == x) with
  | none =>
    right
    refine ⟨rfl, fun hx => ?_⟩
    rw [List.findIdx?_eq_none_iff] at hf
    have := hf x hx
    simp at this
  | some j =>
    left
    rw [List.findIdx?_eq_some_iff_getElem] at hf
    obtain ⟨h1, h2, _⟩ := hf
    exact ⟨j, rfl, h1, by simpa using h2⟩

theorem run_lookB {w : World} {b : Nat} {L : List Blk} (h : MapB w b L) (x : Blk) : (Instr.lookup 90 (.map (some b)) (encB x) false).run Try.prog w = .ok (.bool (decide (x ∈ L))) w := by
  obtain ⟨⟨es, c, h1, h2, h3, h4, h5⟩, h6⟩ := h
  have hl : es.toList.length = L.length := by have := congrArg List.length h2; simpa using this
  unfold Instr.lookup
  simp only [Sem.run_bind, run_underlying Try.underlying90, Result.andThen_ok, MapKept.run_getObj_map h1, Sem.run_pure, blk_check, blk_findKey x w es.toList L h2]
  rcases findIdx_mem (L := L) (x := x) with ⟨j, hj, hlt, hx⟩ | ⟨hj, hx⟩
  · have hle : j < es.toList.length := by omega
    have hv := h3 _ (List.getElem_mem hle)
    rw [hj]
    simp only [Option.bind_some, List.getElem?_eq_getElem hle, Option.map_some, Sem.run_pure, Result.andThen_ok, hv, Bool.false_eq_true, if_false]
    rw [decide_eq_true (hx ▸ List.getElem_mem hlt)]
    simp
  · rw [hj]
    have hz := Try.zeroValue4
    simp only [Option.bind_none, Sem.run_bind, hz, Result.andThen_ok, Sem.run_pure, Bool.false_eq_true, if_false]
    rw [decide_eq_false hx]
theorem run_layB {w : World} {b : Nat} {L : List Blk} (h : MapB w b L) (x : Blk) (hx : x ∉ L) : ∃ w', (Instr.mapUpdate 90 (.map (some b)) (encB x) (.bool true)).run Try.prog w = .ok () w' ∧ MapB w' b (L ++ [x]) ∧ Touch (· = b) w w' := by
  obtain ⟨⟨es, c, h1, h2, h3, h4, h5⟩, h6⟩ := h
  have hj : L.findIdx? (· == x) = none := by
    rcases findIdx_mem (L := L) (x := x) with ⟨j, _, hlt, he⟩ | ⟨hj, _⟩
    · exact absurd (he ▸ List.getElem_mem hlt) hx
    · exact hj
  have hlt := heap_lt h1
  refine ⟨{ w with heap := w.heap.setIfInBounds b (.map (es.push ⟨encB x, .bool true, c⟩) (c + 1)) }, ?_, ⟨⟨es.push ⟨encB x, .bool true, c⟩, c + 1, by simp [hlt], ?_, ?_, ?_, ?_⟩, ?_⟩, ⟨rfl, rfl, rfl, by simp, fun k _ hk => ?_⟩⟩
  · unfold Instr.mapUpdate
    simp only [Sem.run_bind, run_underlying Try.underlying90, Result.andThen_ok, MapKept.run_getObj_map h1, Sem.run_pure, blk_check, blk_findKey x w es.toList L h2, hj, Option.bind_none, MapKept.run_setObj_map _ h1]
  · have h2' : es.toList.map (·.key) = L.map encB := h2
    simp [KeysB, ← h2']
  · intro e he
    simp at he
    rcases he with he | rfl
    · exact h3 e (by simpa using he)
    · rfl
  · simp only [Array.toList_push, List.map_append, List.map_cons, List.map_nil]
    refine List.nodup_append.2 ⟨h4, by simp, fun y hy z hz => ?_⟩
    obtain ⟨e, he, rfl⟩ := List.mem_map.1 hy
    simp at hz
    have := h5 e he
    omega
  · intro e he
    simp at he
    rcases he with he | rfl
    · have := h5 e (by simpa using he); omega
    · simp
  · refine List.nodup_append.2 ⟨h6, by simp, fun y hy z hz => ?_⟩
    simp at hz
    exact fun e => hx (by rw [← hz, ← e]; exact hy)
  · have hk' : ¬ b = k := fun e => hk e.symm
    simp [Array.getElem?_setIfInBounds, hk']
theorem map_erase_idx {α β : Type} (f : α → β) : ∀ (l : List α) (j : Nat), (l.eraseIdx j).map f = (l.map f).eraseIdx j
  | [], _ => by simp
  | _ :: _, 0 => by simp
  | _ :: l, j + 1 => by simp [map_erase_idx f l j]
theorem run_delB {ty : TypeId} {w : World} {b : Nat} {L : List Blk} (h : MapB w b L) (x : Blk) (hx : x ∈ L) : ∃ w', (Builtin.delete_ #[90, 39] ty #[.map (some b), encB x]).run Try.prog w = .ok (.tuple #[]) w' ∧ MapB w' b (L.erase x) ∧ Touch (· = b) w w' := by
  obtain ⟨⟨es, c, h1, h2, h3, h4, h5⟩, h6⟩ := h
  have hl : es.toList.length = L.length := by have := congrArg List.length h2; simpa using this
  have hlt := heap_lt h1
  rcases findIdx_mem (L := L) (x := x) with ⟨j, hj, hjl, he⟩ | ⟨_, hn⟩
  · have hle : j < es.toList.length := by omega
    have hje : j < es.size := by simpa using hle
    have herase : L.erase x = L.eraseIdx j := by
      rw [List.erase_eq_eraseIdx]
      have : L.idxOf? x = some j := hj
      rw [this]
    have hes : (es.eraseIdxIfInBounds j).toList = es.toList.eraseIdx j := by simp
    refine ⟨{ w with heap := w.heap.setIfInBounds b (.map (es.eraseIdxIfInBounds j) c) }, ?_, ⟨⟨es.eraseIdxIfInBounds j, c, by simp [hlt], ?_, ?_, ?_, ?_⟩, ?_⟩, ⟨rfl, rfl, rfl, by simp, fun k _ hk => ?_⟩⟩
    · unfold Builtin.delete_
      simp only [List.getElem?_toArray, List.getElem?_cons_zero, List.getElem?_cons_succ]
      simp only [Sem.run_bind, run_underlying Try.underlying90, Result.andThen_ok, MapKept.run_getObj_map h1, Sem.run_pure, blk_check, blk_findKey x w es.toList L h2, hj, Option.bind_some, List.getElem?_eq_getElem hle, Option.map_some, MapKept.run_setObj_map _ h1]
    · have h2' : es.toList.map (·.key) = L.map encB := h2
      unfold KeysB
      rw [hes, herase, map_erase_idx, h2', map_erase_idx]
    · intro e hm
      rw [hes] at hm
      exact h3 e ((List.eraseIdx_sublist _ _).mem hm)
    · rw [hes]
      exact h4.sublist ((List.eraseIdx_sublist _ _).map _)
    · intro e hm
      rw [hes] at hm
      exact h5 e ((List.eraseIdx_sublist _ _).mem hm)
    · exact h6.erase x
    · have hk' : ¬ b = k := fun e => hk e.symm
      simp [Array.getElem?_setIfInBounds, hk']
  · exact absurd hx hn

end Go.Proofs.Ytoiiblajgkdabaa
