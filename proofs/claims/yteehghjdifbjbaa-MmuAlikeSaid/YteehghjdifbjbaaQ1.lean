/- Part 1 of the proofs: Frame, Base, Sep, Sep2, Mem, Ref02, MemP. -/
import Derived.Test.YteehghjdifbjbaaRows
import Derived.WalkKit
import Derived.ProofKit
import Derived.OpenShut
import Derived.Carry
import Derived.SizedLaws
import Derived.Test.YteehghjdifbjbaaProg
import Derived.WalkSpells
import Derived.WalkLawsBesides
import Derived.Handy
import Derived.Deep.QuietTactic
import Derived.BigQuiet
import Derived.Deep.RegionWith
import Derived.Deep.RegionHeld3
import Derived.StillTailTactics
import Derived.Deep.DeepCutAuto
import Derived.Deep.LoopGhost
import Derived.Deep.RegionLaw
import Derived.Deep.DeepFit
import Derived.Lib.Hide
namespace Go.Proofs.Yteehghjdifbjbaa
set_option linter.unusedSimpArgs false
set_option linter.unusedVariables false
set_option maxRecDepth 100000
open Go.ChangeShapes Go.WideShapes Go.ChangeAt Go.RowKit

theorem own : ownKnob Try.prog.godebug = none := by kernel_rfl
theorem laidOut : laidOutB Try.prog = true := by kernel_rfl

theorem trodAll_below {H : Type} {enc : TypeId × Value → H} {W W' : World} (hb : Below W.heap.size W W') :
    ∀ (ts : List TypeId) (vs : List Value) (ds : List (DataW H)) (ps : List MemPlace), (∀ t ∈ ts, Try.prog.readableRec t = true ∧ t < Try.prog.types.size) →
      DataW.TrodAll enc Try.prog W 0 (fun _ => true) true ts vs ds ps → (∀ x ∈ ps, x.block < W.heap.size) →
      DataW.TrodAll enc Try.prog W' 0 (fun b => decide (b < W.heap.size)) true ts vs ds ps
  | [], vs, ds, ps, _, h, _ => by
    obtain ⟨rfl, rfl, rfl⟩ := trodAll_nil h
    exact trodAll_mk0
  | t :: ts, vs, ds, ps, ht, h, hp => by
    obtain ⟨v, vs', d, ds', p, q, rfl, rfl, rfl, h0, h1⟩ := trodAll_cons h
    exact trodAll_cons_mk (Below.trod laidOut (ht t (by simp)).1 (ht t (by simp)).2 h0 hb (fun x hx => hp x (by simp [hx])))
      (trodAll_below hb ts vs' ds' q (fun t h => ht t (by simp [h])) h1 (fun x hx => hp x (by simp [hx])))

/-- What a law's walk is handed, and what it must show. -/
def LawWalk (f : FuncId) (fn : Func) : Prop :=
  ∀ (H : Type) (enc : TypeId × Value → H) (W : World) (base : Nat) (vs : List Value) (ds : List (DataW H)) (ps : List MemPlace),
    (∀ (j : Nat) t v, fn.params.toList[j]? = some t → vs[j]? = some v → Value.okWide Try.prog W .any base t v) →
    DataW.TrodAll enc Try.prog W 0 (fun _ => true) true fn.params.toList vs ds ps →
    (∀ x ∈ ps, x.block < W.heap.size) → (∀ b off, MemPlace.cell b off ∈ ps → W.frozen? ⟨b, off, none⟩ = false) →
    (DataW.weightsEach Try.prog fn.params.toList ds).all (· ≤ reachBytes) = true →
    Calls Try.prog f ⟨vs⟩ W fun e W' => e = .returned (.bool true) ∧ Below W.heap.size W W'

theorem law_lifted {f : FuncId} {fn : Func} {s : ChangeSpec} (hfn : Try.prog.funcs[f]? = some fn) (hn : Try.prog.inits.idxOf? f = none) (hres : fn.resultTypes = #[4])
    (hts : ∀ t ∈ fn.params.toList, Try.prog.readableRec t = true ∧ t < Try.prog.types.size)
    (hvars : s.vars = []) (hs : ∀ (H : Type) (ds : List (DataW H)), ds.length = fn.params.size → s.fn H ds = { results := [.lit (.bool true)], args := ds })
    (hwalk : LawWalk f fn) (os : Os) (started : os.Started) (H : Type) (enc : TypeId × Value → H)
    (witness : ∃ (w : World) (tape : Tape) (i : Input), w.os = os ∧ (w.forCall tape i).Shaped Try.prog ∧ i.vars = [] ∧ Input.okWide Try.prog (w.forCall tape i) .any w.heap.size f i ∧
      s.pre6 enc Try.prog fn [] false (w.forCall tape i).memory i.args ∧ ({} : Assume).holds Try.prog (lone (Frame.enter Try.prog f i.args .normal) [] (w.forCall tape i))) :
    ReturnsInHanded {} Try.checked os f .any (s.pre6 enc Try.prog fn [] false) (s.post enc Try.prog fn false true false false) := by
  refine returnsInHanded_of_change_sized (C := Try.checked) own started hn hfn witness ?_
  intro W base args ds gs before hval hW _ hsz _
  have hW' := hW
  obtain ⟨p, q, hA, hV, rfl, hfz, _⟩ := hW
  have hVn : DataW.TrodVars enc Try.prog W (fun _ => true) [] gs q := by rw [← hvars]; exact hV
  obtain ⟨rfl, rfl⟩ := trodVars_none hVn
  have hA' : DataW.TrodAll enc Try.prog W 0 (fun _ => true) true fn.params.toList args.toList ds p := hA
  simp only [List.append_nil] at hW' hfz hsz
  have hv : s.plain.varTypes Try.prog = [] := by simp [ChangeSpec.plain, DataSpec.varTypes, hvars]
  have hsz' : (DataW.weightsEach Try.prog fn.params.toList ds).all (· ≤ reachBytes) = true := by
    have h := hsz
    change (DataW.weightsEach Try.prog (fn.params.toList ++ s.plain.varTypes Try.prog) ds).all (· ≤ reachBytes) = true at h
    rwa [hv, List.append_nil] at h
  have hlt : ∀ x ∈ p, x.block < W.heap.size := fun x hx => by simpa using hW'.lt x hx
  have hlen : ds.length = fn.params.size := by
    have : ∀ (ts : List TypeId) (vs : List Value) (ds : List (DataW H)) (ps : List MemPlace), DataW.TrodAll enc Try.prog W 0 (fun _ => true) true ts vs ds ps → ds.length = ts.length := by
      intro ts
      induction ts with
      | nil => intro vs ds ps h; obtain ⟨_, rfl, _⟩ := trodAll_nil h; rfl
      | cons t ts ih => intro vs ds ps h; obtain ⟨_, _, _, _, _, _, rfl, rfl, rfl, _, h1⟩ := trodAll_cons h; simp [ih _ _ _ h1]
    have := this _ _ _ _ hA'
    simpa using this
  refine (hwalk H enc W base args.toList ds p (fun j t v h h' => hval j t v (by simpa using h) (by simpa using h')) hA' hlt hfz hsz').mono fun e W' ⟨he, hb⟩ => ?_
  subst he
  have hsd := hs H ds hlen
  refine ⟨_, rfl, ds, [], p, [], p, [], hW', ?_, ?_, ?_, hb.frame _, fun h => by cases h⟩
  · rw [List.append_nil, hsd, hres]; exact trodAll_mk1 (shut_bool Try.underlying4 _)
  · rw [List.append_nil, hsd]; exact trodAll_below hb _ _ _ _ hts hA' hlt
  · rw [hvars, List.append_nil, hsd]; rfl

/-! ### Opening an argument whose cells are all numbers and truths -/
def OkAll (W : World) (base : Nat) : List TypeId → List Value → Prop
  | [], [] => True
  | u :: us, c :: cs => Cell.okWide Try.prog W .any base u c ∧ OkAll W base us cs
  | _, _ => False

theorem okAll_nil {W : World} {base : Nat} {l : List Value} (h : OkAll W base [] l) : l = [] := by cases l <;> simp [OkAll] at h ⊢
theorem okAll_cons {W : World} {base : Nat} {u : TypeId} {us : List TypeId} {l : List Value} (h : OkAll W base (u :: us) l) :
    ∃ c l', l = c :: l' ∧ Cell.okWide Try.prog W .any base u c ∧ OkAll W base us l' := by
  cases l with
  | nil => simp [OkAll] at h
  | cons c l' => exact ⟨c, l', rfl, h.1, h.2⟩

theorem okAll_of {W : World} {base : Nat} : ∀ (ts : List TypeId) (cs : List Value), cs.length = ts.length → (∀ (i : Nat) v, cs[i]? = some v → ∃ u, ts[i]? = some u ∧ Cell.okWide Try.prog W .any base u v) → OkAll W base ts cs
  | [], [], _, _ => trivial
  | [], _ :: _, h, _ => by simp at h
  | _ :: _, [], h, _ => by simp at h
  | u :: us, c :: cs, h, hc => by
    refine ⟨?_, okAll_of us cs (by simpa using h) (fun i v hv => ?_)⟩
    · obtain ⟨u', e, h'⟩ := hc 0 c rfl
      simp at e; subst e; exact h'
    · obtain ⟨u', e, h'⟩ := hc (i + 1) v (by simpa using hv)
      exact ⟨u', by simpa using e, h'⟩

theorem flat_open {W : World} {base : Nat} {t : TypeId} {v : Value} {ts : List TypeId} (hs : (match Try.prog.underlying t with | some (.struct _) | some (.array _ _) => true | _ => false) = true)
    (hc : Try.prog.cellTypes Try.prog.depth t = some ts) (hn : Try.prog.cellsOf t = ts.length) (h : Value.okWide Try.prog W .any base t v) : ∃ l : List Value, v = .agg l.toArray ∧ OkAll W base ts l := by
  have h2 : ∃ cs, v = .agg cs ∧ cs.size = Try.prog.cellsOf t ∧ Row.okWide Try.prog W .any base t cs := by
    unfold Value.okWide at h
    split at h
    · exact h
    · exact h
    · rename_i x h1 h2
      exfalso
      generalize Try.prog.underlying t = o at *
      cases o with
      | none => simp at hs
      | some d => cases d <;> first | (simp at hs; done) | exact h1 _ rfl | exact h2 _ _ rfl
  obtain ⟨cs, rfl, hsz, ts', hts, _, hall⟩ := h2
  rw [hc] at hts
  cases hts
  refine ⟨cs.toList, by simp, okAll_of ts cs.toList (by simp [hsz, hn]) (fun i v hv => ?_)⟩
  obtain ⟨u, hu, ho⟩ := hall i v (by simpa using hv)
  have hi : i < ts.length := by
    have : i < cs.size := by
      rcases Nat.lt_or_ge i cs.size with h | h
      · exact h
      · have : cs.toList[i]? = none := by simp [h]
        rw [this] at hv; cases hv
    omega
  rw [Nat.mod_eq_of_lt hi] at hu
  exact ⟨u, hu, ho⟩

theorem cell_int {W : World} {base : Nat} {u : TypeId} {c : Value} {k : IntKind} (hu : Try.prog.underlying u = some (.int k)) (h : Cell.okWide Try.prog W .any base u c) : ∃ n, c = .int k n ∧ k.min ≤ n ∧ n ≤ k.max := by
  unfold Cell.okWide Cell.ok at h
  rw [hu] at h
  cases c <;> simp at h
  obtain ⟨rfl, h1⟩ := h
  exact ⟨_, rfl, h1⟩
theorem cell_bool {W : World} {base : Nat} {u : TypeId} {c : Value} (hu : Try.prog.underlying u = some .bool) (h : Cell.okWide Try.prog W .any base u c) : ∃ b, c = .bool b := by
  unfold Cell.okWide Cell.ok at h
  rw [hu] at h
  cases c <;> simp at h
  exact ⟨_, rfl⟩
/-- An argument that is one number. -/
theorem arg_int {W : World} {base : Nat} {u : TypeId} {c : Value} {k : IntKind} (hu : Try.prog.underlying u = some (.int k)) (h : Value.okWide Try.prog W .any base u c) : ∃ n, c = .int k n ∧ k.min ≤ n ∧ n ≤ k.max := by
  unfold Value.okWide at h
  rw [hu] at h
  exact cell_int hu h
theorem arg_bool {W : World} {base : Nat} {u : TypeId} {c : Value} (hu : Try.prog.underlying u = some .bool) (h : Value.okWide Try.prog W .any base u c) : ∃ b, c = .bool b := by
  unfold Value.okWide at h
  rw [hu] at h
  exact cell_bool hu h

end Go.Proofs.Yteehghjdifbjbaa

namespace Go.Proofs.Yteehghjdifbjbaa
set_option linter.unusedSimpArgs false
set_option linter.unusedVariables false
set_option maxRecDepth 100000
open Go.RowKit
set_option maxHeartbeats 400000

theorem keep {B : Nat} {w w' : World} (hb : Below B w w') {b o : Nat} {v : Value} (h : b < B) (hc : w.cell? ⟨b, o, none⟩ = some v) : w'.cell? ⟨b, o, none⟩ = some v := by
  rw [hb.cell (p := ⟨b, o, none⟩) h]; exact hc
theorem keepF {B : Nat} {w w' : World} (hb : Below B w w') {b o : Nat} {v : Bool} (h : b < B) (hc : w.frozen? ⟨b, o, none⟩ = v) : w'.frozen? ⟨b, o, none⟩ = v := by
  rw [hb.frozen (p := ⟨b, o, none⟩) h]; exact hc
theorem bcell {W w1 : World} (hb : Below W.heap.size W w1) : (∀ b o, b < W.heap.size → w1.cell? ⟨b, o, none⟩ = W.cell? ⟨b, o, none⟩) ∧ (∀ b o, b < W.heap.size → w1.frozen? ⟨b, o, none⟩ = W.frozen? ⟨b, o, none⟩) :=
  ⟨fun b o h => hb.cell (p := ⟨b, o, none⟩) h, fun b o h => hb.frozen (p := ⟨b, o, none⟩) h⟩

/-- The numbers of an int, of a uint64. -/
def I64 (a : Int) : Prop := -9223372036854775808 ≤ a ∧ a ≤ 9223372036854775807
def U64 (a : Int) : Prop := 0 ≤ a ∧ a ≤ 18446744073709551615

/-- What was there is as it was, but for the blocks of S; new blocks may have come. -/
structure Touch (S : Nat → Prop) (w w' : World) : Prop where
  os : w'.os = w.os
  tape : w'.tape = w.tape
  output : w'.output = w.output
  size : w.heap.size ≤ w'.heap.size
  block : ∀ k, k < w.heap.size → ¬ S k → w'.heap[k]? = w.heap[k]?

theorem Touch.refl (S : Nat → Prop) (w : World) : Touch S w w := ⟨rfl, rfl, rfl, Nat.le_refl _, fun _ _ _ => rfl⟩
theorem Touch.trans {S : Nat → Prop} {a b c : World} (h : Touch S a b) (k : Touch S b c) : Touch S a c :=
  ⟨k.os.trans h.os, k.tape.trans h.tape, k.output.trans h.output, Nat.le_trans h.size k.size, fun i hi hs => (k.block i (Nat.lt_of_lt_of_le hi h.size) hs).trans (h.block i hi hs)⟩
theorem Touch.mono {S T : Nat → Prop} {a b : World} (h : Touch S a b) (hs : ∀ k, k < a.heap.size → S k → T k) : Touch T a b :=
  ⟨h.os, h.tape, h.output, h.size, fun i hi ht => h.block i hi (fun s => ht (hs i hi s))⟩
theorem Touch.of_below {S : Nat → Prop} {a b : World} (h : Below a.heap.size a b) : Touch S a b :=
  ⟨h.os, h.tape, h.output, h.size, fun i hi _ => h.block i hi⟩
theorem Touch.below {S : Nat → Prop} {a b : World} (h : Touch S a b) {B : Nat} (hB : B ≤ a.heap.size) (hs : ∀ k, k < B → ¬ S k) : Below B a b :=
  ⟨h.os, h.tape, h.output, h.size, fun i hi => h.block i (by omega) (hs i hi)⟩
theorem Touch.drewN {S : Nat → Prop} {a b : World} (h : Touch S a b) (n : Nat) : Touch S a (b.drewN n) := ⟨h.os, h.tape, h.output, h.size, h.block⟩
theorem Touch.drew {S : Nat → Prop} {a b : World} (h : Touch S a b) : Touch S a b.drew := ⟨h.os, h.tape, h.output, h.size, h.block⟩
theorem Touch.alloc {S : Nat → Prop} {a b : World} (h : Touch S a b) (o : Obj) : Touch S a (b.alloc o) :=
  h.trans ⟨rfl, rfl, rfl, by simp, fun k hk _ => Below.heap_alloc _ _ _ hk⟩
theorem Touch.setCell {S : Nat → Prop} {a b : World} (h : Touch S a b) {p : Addr} (hp : S p.block ∨ a.heap.size ≤ p.block) (u : Value) : Touch S a (b.setCell p u) :=
  ⟨h.os, h.tape, h.output, by have := h.size; simp [World.setCell]; exact this, fun k hk hs => by
    rw [Below.heap_setCell _ _ _ _ (fun e => by subst e; rcases hp with hp | hp; exact hs hp; omega)]
    exact h.block k hk hs⟩

theorem below_drewN {B : Nat} {a b : World} (h : Below B a b) (n : Nat) : Below B a (b.drewN n) := ⟨h.os, h.tape, h.output, h.size, h.block⟩
theorem below_drew {B : Nat} {a b : World} (h : Below B a b) : Below B a b.drew := ⟨h.os, h.tape, h.output, h.size, h.block⟩
theorem cell_of_heap {w w' : World} {b : Nat} (h : w'.heap[b]? = w.heap[b]?) (o : Nat) : w'.cell? ⟨b, o, none⟩ = w.cell? ⟨b, o, none⟩ := World.cell?_of_block (w := w) (a := ⟨b, o, none⟩) h
theorem frozen_of_heap {w w' : World} {b : Nat} (h : w'.heap[b]? = w.heap[b]?) (o : Nat) : w'.frozen? ⟨b, o, none⟩ = w.frozen? ⟨b, o, none⟩ := World.frozen?_of_block (w := w) (a := ⟨b, o, none⟩) h
theorem keepT {S : Nat → Prop} {w w' : World} (ht : Touch S w w') {b o : Nat} {v : Value} (h : b < w.heap.size) (hs : ¬ S b) (hc : w.cell? ⟨b, o, none⟩ = some v) : w'.cell? ⟨b, o, none⟩ = some v := by
  rw [cell_of_heap (ht.block b h hs)]; exact hc

/-- A block of n cells that may be written, and what they hold. -/
structure RowF (w : World) (b n : Nat) (V : Nat → Value) : Prop where
  cell : ∀ j, j < n → w.cell? ⟨b, j, none⟩ = some (V j)
  free : ∀ j, j < n → w.frozen? ⟨b, j, none⟩ = false
  lt : b < w.heap.size
theorem RowF.touch {w w' : World} {b n : Nat} {V : Nat → Value} (h : RowF w b n V) {S : Nat → Prop} (t : Touch S w w') (hs : ¬ S b) : RowF w' b n V :=
  ⟨fun j hj => by rw [cell_of_heap (t.block b h.lt hs)]; exact h.cell j hj, fun j hj => by rw [frozen_of_heap (t.block b h.lt hs)]; exact h.free j hj, Nat.lt_of_lt_of_le h.lt t.size⟩
theorem RowF.below {w w' : World} {b n : Nat} {V : Nat → Value} (h : RowF w b n V) (t : Below w.heap.size w w') : RowF w' b n V :=
  h.touch (S := fun _ => False) (Touch.of_below t) id
theorem RowF.alloc {w : World} {b n : Nat} {V : Nat → Value} (h : RowF w b n V) (o : Obj) : RowF (w.alloc o) b n V := h.below ((Below.refl _ _).alloc (Nat.le_refl _) _)
theorem RowF.drew {w : World} {b n : Nat} {V : Nat → Value} (h : RowF w b n V) : RowF w.drew b n V := ⟨h.cell, h.free, h.lt⟩
theorem RowF.drewN {w : World} {b n : Nat} {V : Nat → Value} (h : RowF w b n V) (q : Nat) : RowF (w.drewN q) b n V := ⟨h.cell, h.free, h.lt⟩
theorem RowF.set {w : World} {b n : Nat} {V : Nat → Value} (h : RowF w b n V) (k : Nat) (hk : k < n) (u : Value) : RowF (w.setCell ⟨b, k, none⟩ u) b n (fun j => if j = k then u else V j) := by
  refine ⟨fun j hj => ?_, fun j hj => by simpa [go_sem] using h.free j hj, by simpa using h.lt⟩
  by_cases e : j = k
  · subst e
    have := h.cell j hj
    simp [go_sem, this]
  · have := h.cell j hj
    have hne : (⟨b, j, none⟩ : Addr) ≠ ⟨b, k, none⟩ := by simp [e]
    simp [go_sem, e, this, hne]
theorem RowF.congr {w : World} {b n : Nat} {V V' : Nat → Value} (h : RowF w b n V) (e : ∀ j, j < n → V j = V' j) : RowF w b n V' := ⟨fun j hj => by rw [← e j hj]; exact h.cell j hj, h.free, h.lt⟩
theorem RowF.set_other {w : World} {b n : Nat} {V : Nat → Value} (h : RowF w b n V) {p : Addr} (hp : p.block ≠ b) (u : Value) : RowF (w.setCell p u) b n V :=
  h.touch (S := fun k => k = p.block) (Touch.setCell (S := fun k => k = p.block) (Touch.refl _ _) (Or.inl rfl) _) (fun e => hp e.symm)
theorem RowF.new (w : World) (cs : List Value) (t : TypeId) : RowF (w.alloc (.cells cs.toArray t)) w.heap.size cs.length (fun j => cs.getD j undef) :=
  ⟨fun j hj => by simp [go_sem, hj], fun j hj => by simp [go_sem], by simp⟩

theorem own_touch {w w' : World} {base e size n : Nat} {v : Value} {xs : List Value} (h : w.ownsRow base e size v n xs) {S : Nat → Prop} (t : Touch S w w') (hs : ∀ g, base ≤ g → ¬ S g) : w'.ownsRow base e size v n xs := by
  obtain ⟨h1, h2⟩ := h
  refine ⟨h1, ?_⟩
  rcases h2 with h2 | ⟨g, cap, cur, hv, hg, hh, r⟩
  · exact Or.inl h2
  · refine Or.inr ⟨g, cap, cur, hv, hg, ?_, r⟩
    rw [t.block g (by rcases Nat.lt_or_ge g w.heap.size with h | h; exact h; rw [Array.getElem?_eq_none h] at hh; cases hh) (hs g hg)]
    exact hh
theorem own_slice {w : World} {base e size n : Nat} {v : Value} {xs : List Value} (h : w.ownsRow base e size v n xs) : ∃ a cap, v = .slice a n cap := by
  rcases h.2 with ⟨rfl, rfl⟩ | ⟨g, cap, cur, rfl, _⟩
  · exact ⟨_, _, rfl⟩
  · exact ⟨_, _, rfl⟩
theorem Touch.grown {S : Nat → Prop} {a w w' : World} {row : Option Nat} (h : Touch S a w) (hg : w.grownBy w' row) (hr : ∀ k, row = some k → S k ∨ a.heap.size ≤ k) : Touch S a w' :=
  ⟨hg.os.trans h.os, hg.tape.trans h.tape, hg.output.trans h.output, Nat.le_trans h.size hg.size, fun k hk hs => (hg.block k (Nat.lt_of_lt_of_le hk h.size) (fun e => by rcases hr k e.symm with h | h; exact hs h; omega)).trans (h.block k hk hs)⟩
theorem one_new (w : World) (v : Value) (t : TypeId) : ∀ j u, [v][j]? = some u → (w.alloc (.cells #[v] t)).cell? ((⟨w.heap.size, 0, none⟩ : Addr).add j) = some u := by
  intro j u h
  cases j with
  | zero => simp at h; subst h; simp [Addr.add, go_sem]
  | succ j => simp at h

/-- A goal that the walk is to leave alone: laid at the end of an arm of go_wp2_with, and taken off behind it. -/
structure Hold (p : Prop) : Prop where
  out : p

/-- A quiet call in a region that draws its order, behind an earlier such region. -/
theorem quiet_again {P : Program} {f : FuncId} {args : Array Value} {w : World} {a b : Nat} {v : Value}
    (h : Calls P f args (w.drewN (a + b)) fun e w' => e = .returned v ∧ w' = w.drewN (a + b)) : Calls P f args (w.drewN (a + b)) fun e w'' => e = .returned v ∧ ∃ m, w'' = w.drewN (a + m) :=
  h.mono fun _ _ ⟨he, hm⟩ => ⟨he, b, hm⟩

end Go.Proofs.Yteehghjdifbjbaa

namespace Go.Proofs.Yteehghjdifbjbaa
set_option linter.unusedSimpArgs false
set_option linter.unusedVariables false
set_option maxRecDepth 100000
open Go.RowKit

/-- Some of a memory's blocks. -/
def PH : Type := Nat → Option Obj
def PH.apart (a b : PH) : Prop := ∀ k, a k = none ∨ b k = none
def PH.both (a b : PH) : PH := fun k => match a k with | some o => some o | none => b k
/-- What is said of some blocks. -/
def HP : Type := PH → Prop
def HP.star (P Q : HP) : HP := fun h => ∃ a b : PH, a.apart b ∧ h = a.both b ∧ P a ∧ Q b
instance : Mul HP := ⟨HP.star⟩
theorem HP.mul_def (P Q : HP) (h : PH) : (P * Q) h ↔ ∃ a b : PH, a.apart b ∧ h = a.both b ∧ P a ∧ Q b := Iff.rfl
theorem HP.ext {P Q : HP} (h : ∀ x, P x ↔ Q x) : P = Q := funext fun x => propext (h x)
theorem PH.apart.symm {a b : PH} (h : a.apart b) : b.apart a := fun k => (h k).symm
theorem PH.both_comm {a b : PH} (h : a.apart b) : a.both b = b.both a := by
  funext k
  unfold PH.both
  rcases h k with e | e
  · rw [e]; cases b k <;> rfl
  · rw [e]; cases a k <;> rfl
theorem PH.both_assoc (a b c : PH) : (a.both b).both c = a.both (b.both c) := by
  funext k
  unfold PH.both
  cases a k <;> rfl
theorem PH.both_none {a b : PH} {k : Nat} : a.both b k = none ↔ a k = none ∧ b k = none := by
  unfold PH.both
  cases h : a k <;> simp
theorem star_comm (P Q : HP) : P * Q = Q * P := HP.ext fun _ => ⟨fun ⟨a, b, h, e, p, q⟩ => ⟨b, a, h.symm, e.trans (PH.both_comm h), q, p⟩, fun ⟨a, b, h, e, p, q⟩ => ⟨b, a, h.symm, e.trans (PH.both_comm h), q, p⟩⟩
theorem star_assoc (P Q R : HP) : P * Q * R = P * (Q * R) := HP.ext fun x => by
  constructor
  · rintro ⟨ab, c, h1, rfl, ⟨a, b, h2, rfl, p, q⟩, r⟩
    refine ⟨a, b.both c, fun k => ?_, PH.both_assoc _ _ _, p, b, c, fun k => ?_, rfl, q, r⟩
    · rcases h2 k with e | e
      · exact Or.inl e
      · rcases h1 k with e' | e'
        · exact Or.inl (PH.both_none.1 e').1
        · exact Or.inr (PH.both_none.2 ⟨e, e'⟩)
    · rcases h1 k with e' | e'
      · exact Or.inl (PH.both_none.1 e').2
      · exact Or.inr e'
  · rintro ⟨a, bc, h1, rfl, p, b, c, h2, rfl, q, r⟩
    refine ⟨a.both b, c, fun k => ?_, (PH.both_assoc _ _ _).symm, ⟨a, b, fun k => ?_, rfl, p, q⟩, r⟩
    · rcases h2 k with e | e
      · rcases h1 k with e' | e'
        · exact Or.inl (PH.both_none.2 ⟨e', e⟩)
        · exact Or.inr (PH.both_none.1 e').2
      · exact Or.inr e
    · rcases h1 k with e' | e'
      · exact Or.inl e'
      · exact Or.inr (PH.both_none.1 e').1
instance : Std.Commutative (α := HP) (fun P Q => P * Q) := ⟨star_comm⟩
instance : Std.Associative (α := HP) (fun P Q => P * Q) := ⟨star_assoc⟩

def exP {α : Sort _} (P : α → HP) : HP := fun h => ∃ x, P x h
/-- The blocks of S, of which I holds. -/
def ownP (S : Nat → Prop) (I : World → Prop) : HP := fun h => (∀ k, S k ↔ h k ≠ none) ∧ ∀ w : World, (∀ k o, h k = some o → w.heap[k]? = some o) → I w
def pt (b : Nat) (o : Obj) : HP := ownP (fun k => k = b) (fun w => w.heap[b]? = some o)
/-- No block. -/
def emp : HP := ownP (fun _ => False) (fun _ => True)
/-- What is said of worlds hangs on the blocks of S alone. -/
def Loc (S : Nat → Prop) (I : World → Prop) : Prop := ∀ w w' : World, I w → (∀ k, S k → w'.heap[k]? = w.heap[k]?) → I w'

/-- Of some blocks of a world P is said; beside its memory the world is as g is. -/
structure Sat (g w : World) (P : HP) : Prop where
  os : w.os = g.os
  tape : w.tape = g.tape
  output : w.output = g.output
  part : ∃ h : PH, (∀ k o, h k = some o → w.heap[k]? = some o) ∧ P h

theorem Sat.perm {g w : World} {P Q : HP} (h : Sat g w P) (e : P = Q) : Sat g w Q := e ▸ h
theorem Sat.mono {g w : World} {P Q : HP} (h : Sat g w P) (i : ∀ x, P x → Q x) : Sat g w Q :=
  ⟨h.os, h.tape, h.output, h.part.elim fun x hx => ⟨x, hx.1, i x hx.2⟩⟩
theorem star_mono {P P' Q : HP} (i : ∀ x, P x → P' x) : ∀ x, (P * Q) x → (P' * Q) x := fun _ ⟨a, b, h, e, p, q⟩ => ⟨a, b, h, e, i a p, q⟩
theorem Sat.mono_left {g w : World} {P P' R : HP} (h : Sat g w (P * R)) (i : ∀ x, P x → P' x) : Sat g w (P' * R) := h.mono (star_mono i)
theorem Sat.left {g w : World} {P Q : HP} (h : Sat g w (P * Q)) : Sat g w P := by
  obtain ⟨a, b, c, x, hx, p, q, hpq, rfl, hp, hq⟩ := h
  refine ⟨a, b, c, p, fun k o e => hx k o ?_, hp⟩
  unfold PH.both; rw [e]
theorem Sat.right {g w : World} {P Q : HP} (h : Sat g w (P * Q)) : Sat g w Q := (h.perm (star_comm _ _)).left
theorem Sat.ex {g w : World} {α : Sort _} {P : α → HP} {R : HP} (h : Sat g w (exP P * R)) : ∃ x, Sat g w (P x * R) := by
  obtain ⟨a, b, c, x, hx, p, q, hpq, rfl, ⟨y, hp⟩, hq⟩ := h
  exact ⟨y, a, b, c, _, hx, p, q, hpq, rfl, hp, hq⟩
theorem Sat.ex' {g w : World} {α : Sort _} {P : α → HP} {R : HP} (y : α) (h : Sat g w (P y * R)) : Sat g w (exP P * R) := h.mono_left fun _ hx => ⟨y, hx⟩
theorem Sat.inv {g w : World} {S : Nat → Prop} {I : World → Prop} {R : HP} (h : Sat g w (ownP S I * R)) : I w := by
  obtain ⟨_, _, _, x, hx, hs, hi⟩ := h.left
  exact hi w hx
theorem Sat.lt {g w : World} {S : Nat → Prop} {I : World → Prop} {R : HP} (h : Sat g w (ownP S I * R)) : ∀ k, S k → k < w.heap.size := by
  obtain ⟨_, _, _, x, hx, hs, hi⟩ := h.left
  intro k hk
  cases e : x k with
  | none => exact absurd e ((hs k).1 hk)
  | some o =>
    have := hx k o e
    rcases Nat.lt_or_ge k w.heap.size with h | h
    · exact h
    · rw [Array.getElem?_eq_none h] at this; cases this
/-- Blocks of one part are none of another one. -/
theorem Sat.apart {g w : World} {S T : Nat → Prop} {I J : World → Prop} {R : HP} (h : Sat g w (ownP S I * (ownP T J * R))) : ∀ k, S k → ¬ T k := by
  obtain ⟨_, _, _, x, hx, p, q, hpq, rfl, ⟨hp, _⟩, p', q', hpq', rfl, ⟨hp', _⟩, _⟩ := h
  intro k hs ht
  rcases hpq k with e | e
  · exact (hp k).1 hs e
  · exact (hp' k).1 ht (PH.both_none.1 e).1
theorem Sat.of_touch {g w w' : World} {P : HP} (h : Sat g w P) {S : Nat → Prop} (t : Touch S w w') (hs : ∀ k, k < w.heap.size → ¬ S k) : Sat g w' P := by
  obtain ⟨a, b, c, x, hx, p⟩ := h
  refine ⟨t.os.trans a, t.tape.trans b, t.output.trans c, x, fun k o e => ?_, p⟩
  have hk : k < w.heap.size := by
    rcases Nat.lt_or_ge k w.heap.size with h | h
    · exact h
    · have := hx k o e; rw [Array.getElem?_eq_none h] at this; cases this
  rw [t.block k hk (hs k hk)]; exact hx k o e
theorem Sat.below {g w w' : World} {P : HP} (h : Sat g w P) (b : Below w.heap.size w w') : Sat g w' P := h.of_touch (S := fun _ => False) (Touch.of_below b) (fun _ _ => id)
theorem Sat.alloc {g w : World} {P : HP} (h : Sat g w P) (o : Obj) : Sat g (w.alloc o) P := h.below ((Below.refl _ _).alloc (Nat.le_refl _) _)
theorem Sat.drewN {g w : World} {P : HP} (h : Sat g w P) (n : Nat) : Sat g (w.drewN n) P := ⟨h.os, h.tape, h.output, h.part⟩
theorem Sat.drew {g w : World} {P : HP} (h : Sat g w P) : Sat g w.drew P := ⟨h.os, h.tape, h.output, h.part⟩
theorem heap_lt {w : World} {k : Nat} {o : Obj} (h : w.heap[k]? = some o) : k < w.heap.size := by
  rcases Nat.lt_or_ge k w.heap.size with h' | h'
  · exact h'
  · rw [Array.getElem?_eq_none h'] at h; cases h
/-- A part is written, or new blocks come to it; all others stay. -/
theorem Sat.touch {g w w' : World} {S S' : Nat → Prop} {I I' : World → Prop} {R : HP} (h : Sat g w (ownP S I * R)) (t : Touch S w w') (i : I' w') (loc : Loc S' I') (hs : ∀ k, S' k → S k ∨ w.heap.size ≤ k) (hl : ∀ k, S' k → k < w'.heap.size) : Sat g w' (ownP S' I' * R) := by
  have hlt := h.lt
  obtain ⟨a, b, c, x, hx, p, q, hpq, rfl, hp, hq⟩ := h
  classical
  have hq' : ∀ k o, q k = some o → w.heap[k]? = some o ∧ ¬ S k := fun k o e => by
    have hn : p k = none := by rcases hpq k with h | h; exact h; rw [e] at h; cases h
    refine ⟨hx k o (by unfold PH.both; rw [hn]; exact e), fun hsk => (hp.1 k).1 hsk hn⟩
  have hw' : ∀ k o, q k = some o → w'.heap[k]? = some o ∧ ¬ S' k := fun k o e => by
    obtain ⟨h1, h2⟩ := hq' k o e
    refine ⟨by rw [t.block k (heap_lt h1) h2]; exact h1, fun hk => ?_⟩
    rcases hs k hk with h | h
    · exact h2 h
    · have := heap_lt h1; omega
  obtain ⟨r, hr⟩ : ∃ r : PH, ∀ k, r k = if S' k then w'.heap[k]? else none := ⟨fun k => if S' k then w'.heap[k]? else none, fun _ => rfl⟩
  have ry : ∀ k, S' k → r k = some (w'.heap[k]?.getD default) ∧ w'.heap[k]? = some (w'.heap[k]?.getD default) := fun k hk => by
    have hg : w'.heap[k]? = some (w'.heap[k]'(hl k hk)) := Array.getElem?_eq_getElem (hl k hk)
    have h1 := hr k
    rw [if_pos hk] at h1
    rw [h1, hg]; exact ⟨rfl, rfl⟩
  have rn : ∀ k, ¬ S' k → r k = none := fun k hk => by have h1 := hr k; rw [if_neg hk] at h1; exact h1
  refine ⟨t.os.trans a, t.tape.trans b, t.output.trans c, PH.both r q, ?_, r, q, ?_, rfl, ⟨fun k => ?_, ?_⟩, hq⟩
  · intro k o e
    unfold PH.both at e
    by_cases hk : S' k
    · rw [(ry k hk).1] at e
      rw [(ry k hk).2]; exact e
    · rw [rn k hk] at e; exact (hw' k o e).1
  · intro k
    by_cases hk : S' k
    · right
      cases e : q k with
      | none => rfl
      | some o => exact absurd hk (hw' k o e).2
    · left; exact rn k hk
  · by_cases hk : S' k
    · simp [hk, (ry k hk).1]
    · simp [hk, rn k hk]
  · intro w2 h2
    refine loc w' w2 i fun k hk => ?_
    rw [(ry k hk).2]
    exact h2 k _ (ry k hk).1
/-- A part that is not said of becomes one. -/
theorem Sat.emp {g w : World} {P : HP} (h : Sat g w P) : Sat g w (emp * P) := by
  obtain ⟨a, b, c, x, hx, p⟩ := h
  exact ⟨a, b, c, x, hx, fun _ => none, x, fun _ => Or.inl rfl, rfl, ⟨fun k => by simp, fun _ _ => trivial⟩, p⟩
theorem Sat.new {g w w' : World} {S' : Nat → Prop} {I' : World → Prop} {R : HP} (h : Sat g w R) (t : Below w.heap.size w w') (i : I' w') (loc : Loc S' I') (hs : ∀ k, S' k → w.heap.size ≤ k) (hl : ∀ k, S' k → k < w'.heap.size) : Sat g w' (ownP S' I' * R) :=
  h.emp.touch (Touch.of_below t) i loc (fun k hk => Or.inr (hs k hk)) hl
theorem loc_pt (b : Nat) (o : Obj) : Loc (fun k => k = b) (fun w => w.heap[b]? = some o) := fun _ _ h e => (e b rfl).trans h
theorem Sat.pt_new {g w : World} {P : HP} (h : Sat g w P) (o : Obj) : Sat g (w.alloc o) (pt w.heap.size o * P) :=
  h.new ((Below.refl _ _).alloc (Nat.le_refl _) _) (Array.getElem?_push_size (xs := w.heap)) (loc_pt _ _) (fun k e => by rw [e]; exact Nat.le_refl _) (fun k e => by rw [e]; simp)
theorem Sat.pt_heap {g w : World} {b : Nat} {o : Obj} {P : HP} (h : Sat g w (pt b o * P)) : w.heap[b]? = some o := Sat.inv h
theorem Sat.pt_lt {g w : World} {b : Nat} {o : Obj} {P : HP} (h : Sat g w (pt b o * P)) : b < w.heap.size := Sat.lt h b rfl

/-- All that a world had. -/
def whole (g : World) : HP := ownP (fun k => k < g.heap.size) (fun w => ∀ k, k < g.heap.size → w.heap[k]? = g.heap[k]?)
theorem Sat.start (w : World) : Sat w w (whole w) := by
  refine ⟨rfl, rfl, rfl, fun k => w.heap[k]?, fun _ _ h => h, fun k => ?_, fun w' h k hk => ?_⟩
  · by_cases hk : k < w.heap.size
    · simp [hk]
    · simp [hk, Array.getElem?_eq_none (Nat.le_of_not_lt hk)]
  · have hg : w.heap[k]? = some (w.heap[k]'hk) := Array.getElem?_eq_getElem hk
    rw [hg]; exact h k _ hg
theorem Sat.ends {g w : World} {R : HP} (h : Sat g w (whole g * R)) : Below g.heap.size g w :=
  ⟨h.os, h.tape, h.output, by
    rcases Nat.lt_or_ge w.heap.size g.heap.size with e | e
    · have := Sat.inv h w.heap.size e
      rw [Array.getElem?_eq_none (Nat.le_refl _), Array.getElem?_eq_getElem e] at this; cases this
    · exact e, fun k hk => Sat.inv h k hk⟩

end Go.Proofs.Yteehghjdifbjbaa

namespace Go.Proofs.Yteehghjdifbjbaa
set_option linter.unusedSimpArgs false
set_option linter.unusedVariables false
set_option maxRecDepth 100000
open Go.RowKit

/-- A part always has a block. -/
def Has (P : HP) (b : Nat) : Prop := ∀ h : PH, P h → h b ≠ none
theorem has_own {S : Nat → Prop} {I : World → Prop} {b : Nat} (h : S b) : Has (ownP S I) b := fun _ p => (p.1 b).1 h
theorem has_ex {α : Sort _} {P : α → HP} {b : Nat} (h : ∀ x, Has (P x) b) : Has (exP P) b := fun _ ⟨x, p⟩ => h x _ p
theorem has_left {P Q : HP} {b : Nat} (h : Has P b) : Has (P * Q) b := fun _ ⟨x, y, _, e, p, _⟩ => by
  rw [e]; intro hn; exact h x p (PH.both_none.1 hn).1
theorem has_right {P Q : HP} {b : Nat} (h : Has Q b) : Has (P * Q) b := by rw [star_comm]; exact has_left h
theorem Sat.free {g w : World} {S : Nat → Prop} {I : World → Prop} {R : HP} (h : Sat g w (ownP S I * R)) {b : Nat} (hb : Has R b) : ¬ S b := by
  obtain ⟨_, _, _, x, hx, p, q, hpq, rfl, ⟨hp, _⟩, hq⟩ := h
  intro hs
  rcases hpq b with e | e
  · exact (hp b).1 hs e
  · exact hb q hq e
theorem Sat.has_lt {g w : World} {P : HP} (h : Sat g w P) {b : Nat} (hb : Has P b) : b < w.heap.size := by
  obtain ⟨_, _, _, x, hx, p⟩ := h
  cases e : x b with
  | none => exact absurd e (hb x p)
  | some o => exact heap_lt (hx b o e)
theorem Sat.ne {g w : World} {P Q : HP} (h : Sat g w (P * Q)) {a b : Nat} (ha : Has P a) (hb : Has Q b) : a ≠ b := by
  obtain ⟨_, _, _, x, hx, p, q, hpq, rfl, hp, hq⟩ := h
  rintro rfl
  rcases hpq a with e | e
  · exact ha p hp e
  · exact hb q hq e
theorem Sat.swap {g w : World} {A B R : HP} (h : Sat g w (A * (B * R))) : Sat g w (B * (A * R)) := h.perm (by ac_rfl)
theorem Sat.up3 {g w : World} {A B C R : HP} (h : Sat g w (A * (B * (C * R)))) : Sat g w (C * (A * (B * R))) := h.perm (by ac_rfl)
theorem Sat.down3 {g w : World} {A B C R : HP} (h : Sat g w (C * (A * (B * R)))) : Sat g w (A * (B * (C * R))) := h.perm (by ac_rfl)
theorem Sat.up4 {g w : World} {A B C D R : HP} (h : Sat g w (A * (B * (C * (D * R))))) : Sat g w (D * (A * (B * (C * R)))) := h.perm (by ac_rfl)
theorem Sat.down4 {g w : World} {A B C D R : HP} (h : Sat g w (D * (A * (B * (C * R))))) : Sat g w (A * (B * (C * (D * R)))) := h.perm (by ac_rfl)


end Go.Proofs.Yteehghjdifbjbaa

namespace Go.Proofs.Yteehghjdifbjbaa
set_option linter.unusedSimpArgs false
set_option linter.unusedVariables false
set_option maxRecDepth 100000
open Go.RowKit
set_option maxHeartbeats 1000000

/-- A memory of n frames of words: its struct at pm, its words W in the block bk. -/
structure MemIn (w : World) (pm bk n : Nat) (W : Nat → Int) : Prop where
  ptr : w.cell? ⟨pm, 0, none⟩ = some (.slice (some ⟨bk, 0, none⟩) n n)
  cell : ∀ i, i < 16 * n → w.cell? ⟨bk, i, none⟩ = some (.int .u64 (W i))
  free : ∀ i, i < 16 * n → w.frozen? ⟨bk, i, none⟩ = false
  lo : ∀ i, 0 ≤ W i
  hi : ∀ i, W i < 18446744073709551616
  pm_lt : pm < w.heap.size
  bk_lt : bk < w.heap.size
  ne : pm ≠ bk
  n1 : 1 ≤ n
  n2 : n ≤ 256


theorem MemIn.touch {w w' : World} {pm bk n : Nat} {W : Nat → Int} (h : MemIn w pm bk n W) {S : Nat → Prop} (t : Touch S w w') (h1 : ¬ S pm) (h2 : ¬ S bk) : MemIn w' pm bk n W :=
  ⟨by rw [cell_of_heap (t.block pm h.pm_lt h1)]; exact h.ptr, fun i hi => by rw [cell_of_heap (t.block bk h.bk_lt h2)]; exact h.cell i hi,
   fun i hi => by rw [frozen_of_heap (t.block bk h.bk_lt h2)]; exact h.free i hi, h.lo, h.hi, Nat.lt_of_lt_of_le h.pm_lt t.size, Nat.lt_of_lt_of_le h.bk_lt t.size, h.ne, h.n1, h.n2⟩
theorem MemIn.below {w w' : World} {pm bk n : Nat} {W : Nat → Int} (h : MemIn w pm bk n W) (t : Below w.heap.size w w') : MemIn w' pm bk n W :=
  h.touch (S := fun _ => False) (Touch.of_below t) id id

theorem frames_any (pm bk n : Nat) (W : Nat → Int) (w : World) (hm : MemIn w pm bk n W) :
    Calls Try.prog 62 #[.pointer (some ⟨pm, 0, none⟩)] w fun e w' => e = .returned (.int .i64 n) ∧ w = w' := by
  have h1 := hm.ptr
  clear hm
  go_enter Try.func62, Try.ntmps62
  go_wp2
  go_ret
  exact ⟨rfl, rfl⟩

theorem at_yes (pm bk n : Nat) (W : Nat → Int) (a : Int) (w : World) (hm : MemIn w pm bk n W) (h0 : 0 ≤ a) (h1 : a < 16 * n) :
    Calls Try.prog 61 #[.pointer (some ⟨pm, 0, none⟩), .int .i64 a] w fun e w' => e = .returned (.pointer (some ⟨bk, a.toNat, none⟩)) ∧ w = w' := by
  have hp := hm.ptr
  have hn := hm.n2
  clear hm
  have H : Hid ((a / 16).toNat * 16 + (a % 16).toNat = a.toNat) := by show _ = _; omega
  go_enter Try.func61, Try.ntmps61
  go_wp2
  go_ret
  exact ⟨by rw [← H.out]; rfl, rfl⟩

theorem at_no (pm bk n : Nat) (W : Nat → Int) (a : Int) (w : World) (hm : MemIn w pm bk n W) (h : ¬ (0 ≤ a ∧ a < 16 * n)) :
    Calls Try.prog 61 #[.pointer (some ⟨pm, 0, none⟩), .int .i64 a] w fun e w' => e = .returned (.pointer none) ∧ w = w' := by
  have hp := hm.ptr
  have hn := hm.n2
  clear hm
  have hh : a < 0 ∨ (¬ a < 0 ∧ 16 * n ≤ a) := by omega
  clear h
  rcases hh with h | ⟨h, h'⟩
  all_goals
    go_enter Try.func61, Try.ntmps61
    go_wp2
    go_ret
    exact ⟨rfl, rfl⟩

theorem read_yes (pm bk n : Nat) (W : Nat → Int) (a : Int) (w : World) (hm : MemIn w pm bk n W) (h0 : 0 ≤ a) (h1 : a < 16 * n) :
    Calls Try.prog 28 #[.pointer (some ⟨pm, 0, none⟩), .int .i64 a] w fun e w' => e = .returned (.tuple #[.int .u64 (W a.toNat), .int .i64 0]) ∧ w = w' := by
  have hc := hm.cell a.toNat (by omega)
  go_enter Try.func28, Try.ntmps28
  go_wp2_with (go_at_call 61; refine (at_yes pm bk n W _ _ hm h0 h1).mono ?_; rintro e w' ⟨rfl, rfl⟩)
  go_ret2
  exact ⟨rfl, rfl⟩

theorem read_no (pm bk n : Nat) (W : Nat → Int) (a : Int) (w : World) (hm : MemIn w pm bk n W) (h : ¬ (0 ≤ a ∧ a < 16 * n)) :
    Calls Try.prog 28 #[.pointer (some ⟨pm, 0, none⟩), .int .i64 a] w fun e w' => e = .returned (.tuple #[.int .u64 0, .int .i64 1]) ∧ w = w' := by
  go_enter Try.func28, Try.ntmps28
  go_wp2_with (go_at_call 61; refine (at_no pm bk n W _ _ hm h).mono ?_; rintro e w' ⟨rfl, rfl⟩)
  go_ret2
  exact ⟨rfl, rfl⟩

/-- The words with another one at a place. -/
def setW (W : Nat → Int) (a : Nat) (x : Int) : Nat → Int := fun i => if i = a then x else W i

theorem MemIn.store {w : World} {pm bk n : Nat} {W : Nat → Int} (hm : MemIn w pm bk n W) (a : Nat) (ha : a < 16 * n) (x : Int) (hx : 0 ≤ x) (hx' : x < 18446744073709551616) :
    MemIn (w.setCell ⟨bk, a, none⟩ (.int .u64 x)) pm bk n (setW W a x) ∧ Touch (· = bk) w (w.setCell ⟨bk, a, none⟩ (.int .u64 x)) := by
  have ht : Touch (· = bk) w (w.setCell ⟨bk, a, none⟩ (.int .u64 x)) := Touch.setCell (S := (· = bk)) (Touch.refl _ _) (Or.inl rfl) _
  refine ⟨⟨?_, ?_, ?_, ?_, ?_, ?_, ?_, hm.ne, hm.n1, hm.n2⟩, ht⟩
  · rw [cell_of_heap (ht.block pm hm.pm_lt hm.ne)]; exact hm.ptr
  · intro i hi
    unfold setW
    by_cases e : i = a
    · subst e
      have := hm.cell i hi
      rw [if_pos rfl]
      simp [go_sem, this]
    · rw [if_neg e, ← hm.cell i hi]
      have : (⟨bk, i, none⟩ : Addr) ≠ ⟨bk, a, none⟩ := by simp [e]
      simp [go_sem, e, this]
  · intro i hi; simpa [go_sem] using hm.free i hi
  · intro i; unfold setW; split; exact hx; exact hm.lo i
  · intro i; unfold setW; split; exact hx'; exact hm.hi i
  · exact Nat.lt_of_lt_of_le hm.pm_lt ht.size
  · exact Nat.lt_of_lt_of_le hm.bk_lt ht.size

theorem write_yes (pm bk n : Nat) (W : Nat → Int) (a x : Int) (w : World) (hm : MemIn w pm bk n W) (h0 : 0 ≤ a) (h1 : a < 16 * n) (hx : 0 ≤ x) (hx' : x < 18446744073709551616) :
    Calls Try.prog 47 #[.pointer (some ⟨pm, 0, none⟩), .int .i64 a, .int .u64 x] w fun e w' => e = .returned (.int .i64 0) ∧ MemIn w' pm bk n (setW W a.toNat x) ∧ Touch (· = bk) w w' := by
  have hc := hm.cell a.toNat (by omega)
  have hf := hm.free a.toNat (by omega)
  have hs := hm.store a.toNat (by omega) x hx hx'
  go_enter Try.func47, Try.ntmps47
  go_wp2_with (go_at_call 61; refine (at_yes pm bk n W _ _ hm h0 h1).mono ?_; rintro e w' ⟨rfl, rfl⟩)
  go_ret
  exact ⟨rfl, hs⟩

theorem write_no (pm bk n : Nat) (W : Nat → Int) (a x : Int) (w : World) (hm : MemIn w pm bk n W) (h : ¬ (0 ≤ a ∧ a < 16 * n)) :
    Calls Try.prog 47 #[.pointer (some ⟨pm, 0, none⟩), .int .i64 a, .int .u64 x] w fun e w' => e = .returned (.int .i64 1) ∧ w = w' := by
  go_enter Try.func47, Try.ntmps47
  go_wp2_with (go_at_call 61; refine (at_no pm bk n W _ _ hm h).mono ?_; rintro e w' ⟨rfl, rfl⟩)
  go_ret
  exact ⟨rfl, rfl⟩

theorem info16 : (Try.prog.info? 80).map (fun i => (i.zero, i.size, i.bytes)) = some (some (.agg #[.int .u64 0, .int .u64 0, .int .u64 0, .int .u64 0, .int .u64 0, .int .u64 0, .int .u64 0, .int .u64 0, .int .u64 0, .int .u64 0, .int .u64 0, .int .u64 0, .int .u64 0, .int .u64 0, .int .u64 0, .int .u64 0]), 16, 128) := by kernel_rfl

theorem made_zero (z : Array Value) (v : Value) (m : Nat) (hz : 0 < z.size) (h : ∀ k, k < z.size → z[k]! = v) (i : Nat) (hi : i < m) : (madeCells z m)[i]? = some v := by
  unfold madeCells
  simp only [Array.getElem?_map, Array.getElem?_range, hi, if_true, Option.map_some]
  rw [h _ (Nat.mod_lt _ hz)]

theorem new_no (n : Int) (w : World) (h : ¬ (1 ≤ n ∧ n ≤ 256)) :
    Calls Try.prog 29 #[.int .i64 n] w fun e w' => e = .returned (.tuple #[.pointer none, .int .i64 1]) ∧ w = w' := by
  have hh : n < 1 ∨ (¬ n < 1 ∧ 256 < n) := by omega
  clear h
  rcases hh with h | ⟨h, h'⟩
  all_goals
    go_enter Try.func29, Try.ntmps29
    go_wp2
    go_ret2
    exact ⟨rfl, rfl⟩

set_option maxRecDepth 100000 in
theorem new_yes (n : Int) (w : World) (h1 : 1 ≤ n) (h2 : n ≤ 256) :
    Calls Try.prog 29 #[.int .i64 n] w fun e w' => ∃ pm bk, e = .returned (.tuple #[.pointer (some ⟨pm, 0, none⟩), .int .i64 0]) ∧ MemIn w' pm bk n.toNat (fun _ => 0) ∧ w.heap.size ≤ pm ∧ w.heap.size ≤ bk ∧ Below w.heap.size w w' := by
  obtain ⟨i0, hi, hzz⟩ := Option.map_eq_some_iff.1 info16
  simp only [Prod.mk.injEq] at hzz
  obtain ⟨hz, hs, hb⟩ := hzz
  have hmk : ∀ w, (Instr.makeSlice 120 (.int .i64 n) (.int .i64 n)).run Try.prog w = _ := fun w => run_make (P := Try.prog) w 120 80 i0 _ Try.underlying120 hi hz .i64 .i64 n n (by omega) (by omega) (by rw [hb]; omega) (by omega)
  rw [hs] at hmk
  go_enter Try.func29, Try.ntmps29
  go_wp2
  go_ret2
  refine ⟨w.heap.size + 1, w.heap.size, rfl, ?_, by omega, by omega, by repeat (first | exact Below.refl _ _ | refine Below.alloc ?_ (by simp <;> omega) _)⟩
  refine ⟨?_, ?_, ?_, fun _ => by omega, fun _ => by omega, by simp, by simp; omega, by omega, by omega, by omega⟩
  · simp [go_sem]
  · intro i hi
    rw [World.cell?_alloc_past _ _ _ (by simp), World.cell?_alloc_at _ _ _ _ rfl]
    exact made_zero _ _ _ (by decide) (fun k hk => by
      have : k = 0 ∨ k = 1 ∨ k = 2 ∨ k = 3 ∨ k = 4 ∨ k = 5 ∨ k = 6 ∨ k = 7 ∨ k = 8 ∨ k = 9 ∨ k = 10 ∨ k = 11 ∨ k = 12 ∨ k = 13 ∨ k = 14 ∨ k = 15 := by simp at hk; omega
      rcases this with rfl | rfl | rfl | rfl | rfl | rfl | rfl | rfl | rfl | rfl | rfl | rfl | rfl | rfl | rfl | rfl <;> rfl) i (by omega)
  · intro i hi
    rw [World.frozen?_alloc_past _ _ _ (by simp), World.frozen?_alloc_at _ _ _ _ rfl]

end Go.Proofs.Yteehghjdifbjbaa

namespace Go.Proofs.Yteehghjdifbjbaa
set_option linter.unusedSimpArgs false
set_option linter.unusedVariables false
set_option maxRecDepth 100000
open Go.RowKit
set_option maxHeartbeats 1000000

/-- The reference's memory of n frames: its struct at pr, its words W in the block br. -/
structure RefIn (w : World) (pr br n : Nat) (W : Nat → Int) : Prop where
  ptr : w.cell? ⟨pr, 0, none⟩ = some (.slice (some ⟨br, 0, none⟩) (16 * n) (16 * n))
  cell : ∀ i, i < 16 * n → w.cell? ⟨br, i, none⟩ = some (.int .u64 (W i))
  free : ∀ i, i < 16 * n → w.frozen? ⟨br, i, none⟩ = false
  lo : ∀ i, 0 ≤ W i
  hi : ∀ i, W i < 18446744073709551616
  pr_lt : pr < w.heap.size
  br_lt : br < w.heap.size
  ne : pr ≠ br
  n1 : 1 ≤ n
  n2 : n ≤ 256

theorem RefIn.touch {w w' : World} {pm bk n : Nat} {W : Nat → Int} (h : RefIn w pm bk n W) {S : Nat → Prop} (t : Touch S w w') (h1 : ¬ S pm) (h2 : ¬ S bk) : RefIn w' pm bk n W :=
  ⟨by rw [cell_of_heap (t.block pm h.pr_lt h1)]; exact h.ptr, fun i hi => by rw [cell_of_heap (t.block bk h.br_lt h2)]; exact h.cell i hi,
   fun i hi => by rw [frozen_of_heap (t.block bk h.br_lt h2)]; exact h.free i hi, h.lo, h.hi, Nat.lt_of_lt_of_le h.pr_lt t.size, Nat.lt_of_lt_of_le h.br_lt t.size, h.ne, h.n1, h.n2⟩
theorem RefIn.below {w w' : World} {pm bk n : Nat} {W : Nat → Int} (h : RefIn w pm bk n W) (t : Below w.heap.size w w') : RefIn w' pm bk n W :=
  h.touch (S := fun _ => False) (Touch.of_below t) id id

theorem RefIn.store {w : World} {pm bk n : Nat} {W : Nat → Int} (hm : RefIn w pm bk n W) (a : Nat) (ha : a < 16 * n) (x : Int) (hx : 0 ≤ x) (hx' : x < 18446744073709551616) :
    RefIn (w.setCell ⟨bk, a, none⟩ (.int .u64 x)) pm bk n (setW W a x) ∧ Touch (· = bk) w (w.setCell ⟨bk, a, none⟩ (.int .u64 x)) := by
  have ht : Touch (· = bk) w (w.setCell ⟨bk, a, none⟩ (.int .u64 x)) := Touch.setCell (S := (· = bk)) (Touch.refl _ _) (Or.inl rfl) _
  refine ⟨⟨?_, ?_, ?_, ?_, ?_, ?_, ?_, hm.ne, hm.n1, hm.n2⟩, ht⟩
  · rw [cell_of_heap (ht.block pm hm.pr_lt hm.ne)]; exact hm.ptr
  · intro i hi
    unfold setW
    by_cases e : i = a
    · subst e
      have := hm.cell i hi
      rw [if_pos rfl]
      simp [go_sem, this]
    · rw [if_neg e, ← hm.cell i hi]
      have : (⟨bk, i, none⟩ : Addr) ≠ ⟨bk, a, none⟩ := by simp [e]
      simp [go_sem, e, this]
  · intro i hi; simpa [go_sem] using hm.free i hi
  · intro i; unfold setW; split; exact hx; exact hm.lo i
  · intro i; unfold setW; split; exact hx'; exact hm.hi i
  · exact Nat.lt_of_lt_of_le hm.pr_lt ht.size
  · exact Nat.lt_of_lt_of_le hm.br_lt ht.size

theorem infoU64 : (Try.prog.info? 49).map (fun i => (i.zero, i.size, i.bytes)) = some (some (.int .u64 0), 1, 8) := by kernel_rfl

theorem r02_new_no (n : Int) (w : World) (h : ¬ (1 ≤ n ∧ n ≤ 256)) :
    Calls Try.prog 9 #[.int .i64 n] w fun e w' => e = .returned (.tuple #[.pointer none, .int .i64 1]) ∧ w = w' := by
  have hh : n < 1 ∨ (¬ n < 1 ∧ 256 < n) := by omega
  clear h
  rcases hh with h | ⟨h, h'⟩
  all_goals
    go_enter Try.func9, Try.ntmps9
    go_wp2
    go_ret2
    exact ⟨rfl, rfl⟩

set_option maxRecDepth 100000 in
theorem r02_new_yes (n : Int) (w : World) (h1 : 1 ≤ n) (h2 : n ≤ 256) :
    Calls Try.prog 9 #[.int .i64 n] w fun e w' => ∃ pm bk, e = .returned (.tuple #[.pointer (some ⟨pm, 0, none⟩), .int .i64 0]) ∧ RefIn w' pm bk n.toNat (fun _ => 0) ∧ w.heap.size ≤ pm ∧ w.heap.size ≤ bk ∧ Below w.heap.size w w' := by
  obtain ⟨i0, hi, hz, hs, hb⟩ := info_parts infoU64
  have hmk : ∀ w, (Instr.makeSlice 64 (.int .i64 (16 * n)) (.int .i64 (16 * n))).run Try.prog w = _ := fun w => run_make (P := Try.prog) w 64 49 i0 _ Try.underlying64 hi hz .i64 .i64 (16 * n) (16 * n) (by omega) (by omega) (by rw [hb]; omega) (by omega)
  rw [hs] at hmk
  go_enter Try.func9, Try.ntmps9
  go_wp2
  go_ret2
  have e16 : (16 * n).toNat = 16 * n.toNat := by omega
  refine ⟨w.heap.size + 1, w.heap.size, rfl, ?_, by omega, by omega, by repeat (first | exact Below.refl _ _ | refine Below.alloc ?_ (by simp <;> omega) _)⟩
  refine ⟨?_, ?_, ?_, fun _ => by omega, fun _ => by omega, by simp, by simp; omega, by omega, by omega, by omega⟩
  · simp [go_sem, e16]
  · intro i hi
    rw [World.cell?_alloc_past _ _ _ (by simp), World.cell?_alloc_at _ _ _ _ rfl]
    exact made_zero _ _ _ (by decide) (fun k hk => by
      have : k = 0 := by simp at hk; omega
      subst this; rfl) i (by omega)
  · intro i hi
    rw [World.frozen?_alloc_past _ _ _ (by simp), World.frozen?_alloc_at _ _ _ _ rfl]

theorem r02_has_yes (pm bk n : Nat) (W : Nat → Int) (f : Int) (w : World) (hm : RefIn w pm bk n W) (h0 : 0 ≤ f) (h1 : f < n) :
    Calls Try.prog 46 #[.pointer (some ⟨pm, 0, none⟩), .int .i64 f] w fun e w' => e = .returned (.bool true) ∧ w = w' := by
  have hp := hm.ptr
  have hn := hm.n2
  clear hm
  go_enter Try.func46, Try.ntmps46
  go_wp2
  go_ret
  exact ⟨by simp <;> omega, rfl⟩
theorem r02_has_no (pm bk n : Nat) (W : Nat → Int) (f : Int) (w : World) (hm : RefIn w pm bk n W) (h : ¬ (0 ≤ f ∧ f < n)) :
    Calls Try.prog 46 #[.pointer (some ⟨pm, 0, none⟩), .int .i64 f] w fun e w' => e = .returned (.bool false) ∧ w = w' := by
  have hp := hm.ptr
  have hn := hm.n2
  clear hm
  have hh : f < 0 ∨ (¬ f < 0 ∧ n ≤ f) := by omega
  clear h
  rcases hh with h | ⟨h, h'⟩
  all_goals
    go_enter Try.func46, Try.ntmps46
    go_wp2
    go_ret
    exact ⟨by simp <;> omega, rfl⟩

/-- Are so many words from a place on noughts? -/
def zerosB (W : Nat → Int) (a k : Nat) : Bool := (List.range k).all fun i => decide (W (a + i) = 0)
theorem zerosB_iff (W : Nat → Int) (a k : Nat) : zerosB W a k = true ↔ ∀ i, i < k → W (a + i) = 0 := by simp [zerosB]
/-- Is a table blank? -/
def blankB (W : Nat → Int) (n : Nat) (f : Int) : Bool := decide (0 ≤ f) && decide (f < n) && zerosB W (16 * f).toNat 16

theorem blank_false (W : Nat → Int) (n : Nat) (f : Int) (h : ¬ (0 ≤ f ∧ f < n)) : blankB W n f = false := by
  by_cases h0 : 0 ≤ f
  · have h1 : ¬ f < n := fun h1 => h ⟨h0, h1⟩
    simp [blankB, h1]
  · simp [blankB, h0]

end Go.Proofs.Yteehghjdifbjbaa

namespace Go.Proofs.Yteehghjdifbjbaa
set_option linter.unusedSimpArgs false
set_option linter.unusedVariables false
set_option maxRecDepth 100000
open Go.RowKit
set_option maxHeartbeats 4000000

theorem heap_ltm {w w' : World} {k : Nat} (e : w'.heap[k]? = w.heap[k]?) (h : k < w.heap.size) : k < w'.heap.size := by
  rcases Nat.lt_or_ge k w'.heap.size with h' | h'
  · exact h'
  · rw [Array.getElem?_eq_none h', Array.getElem?_eq_getElem h] at e; cases e
def memP (pm n : Nat) (W : Nat → Int) : HP := exP fun bk : Nat => ownP (fun k => k = pm ∨ k = bk) (fun w => MemIn w pm bk n W)
theorem loc_mem (pm bk n : Nat) (W : Nat → Int) : Loc (fun k => k = pm ∨ k = bk) (fun w => MemIn w pm bk n W) := fun w w' h e =>
  ⟨(cell_of_heap (e pm (Or.inl rfl)) _).trans h.ptr, fun i hi => (cell_of_heap (e bk (Or.inr rfl)) _).trans (h.cell i hi), fun i hi => (frozen_of_heap (e bk (Or.inr rfl)) _).trans (h.free i hi), h.lo, h.hi, heap_ltm (e pm (Or.inl rfl)) h.pm_lt, heap_ltm (e bk (Or.inr rfl)) h.bk_lt, h.ne, h.n1, h.n2⟩
theorem has_mem (pm n : Nat) (W : Nat → Int) : Has (memP pm n W) pm := has_ex fun _ => has_own (Or.inl rfl)
theorem Sat.mem {g w : World} {pm n : Nat} {W : Nat → Int} {R : HP} (h : Sat g w (memP pm n W * R)) :
    ∃ bk, MemIn w pm bk n W ∧ (∀ b, Has R b → pm ≠ b ∧ bk ≠ b) ∧ ∀ w' W', Touch (· = bk) w w' → MemIn w' pm bk n W' → Sat g w' (memP pm n W' * R) := by
  obtain ⟨bk, h⟩ := h.ex
  have hi : MemIn w pm bk n W := h.inv
  refine ⟨bk, hi, fun b hb => ⟨fun e => h.free hb (Or.inl e.symm), fun e => h.free hb (Or.inr e.symm)⟩, fun w' W' t m => Sat.ex' bk (h.touch (t.mono fun k _ hk => Or.inr hk) m (loc_mem _ _ _ _) (fun k hk => Or.inl hk) (fun k hk => ?_))⟩
  rcases hk with rfl | rfl
  · exact m.pm_lt
  · exact m.bk_lt
theorem Sat.mem_new {g w w' : World} {pm bk n : Nat} {W : Nat → Int} {R : HP} (h : Sat g w R) (b : Below w.heap.size w w') (m : MemIn w' pm bk n W) (h1 : w.heap.size ≤ pm) (h2 : w.heap.size ≤ bk) : Sat g w' (memP pm n W * R) :=
  Sat.ex' bk (h.new b m (loc_mem _ _ _ _) (fun k hk => by rcases hk with rfl | rfl; exact h1; exact h2) (fun k hk => by rcases hk with rfl | rfl; exact m.pm_lt; exact m.bk_lt))

/-! ### The reference's memory -/
def refP (pm n : Nat) (W : Nat → Int) : HP := exP fun bk : Nat => ownP (fun k => k = pm ∨ k = bk) (fun w => RefIn w pm bk n W)
theorem loc_ref (pm bk n : Nat) (W : Nat → Int) : Loc (fun k => k = pm ∨ k = bk) (fun w => RefIn w pm bk n W) := fun w w' h e =>
  ⟨(cell_of_heap (e pm (Or.inl rfl)) _).trans h.ptr, fun i hi => (cell_of_heap (e bk (Or.inr rfl)) _).trans (h.cell i hi), fun i hi => (frozen_of_heap (e bk (Or.inr rfl)) _).trans (h.free i hi), h.lo, h.hi, heap_ltm (e pm (Or.inl rfl)) h.pr_lt, heap_ltm (e bk (Or.inr rfl)) h.br_lt, h.ne, h.n1, h.n2⟩
theorem has_ref (pm n : Nat) (W : Nat → Int) : Has (refP pm n W) pm := has_ex fun _ => has_own (Or.inl rfl)
theorem Sat.ref {g w : World} {pm n : Nat} {W : Nat → Int} {R : HP} (h : Sat g w (refP pm n W * R)) :
    ∃ bk, RefIn w pm bk n W ∧ (∀ b, Has R b → pm ≠ b ∧ bk ≠ b) ∧ ∀ w' W', Touch (· = bk) w w' → RefIn w' pm bk n W' → Sat g w' (refP pm n W' * R) := by
  obtain ⟨bk, h⟩ := h.ex
  have hi : RefIn w pm bk n W := h.inv
  refine ⟨bk, hi, fun b hb => ⟨fun e => h.free hb (Or.inl e.symm), fun e => h.free hb (Or.inr e.symm)⟩, fun w' W' t m => Sat.ex' bk (h.touch (t.mono fun k _ hk => Or.inr hk) m (loc_ref _ _ _ _) (fun k hk => Or.inl hk) (fun k hk => ?_))⟩
  rcases hk with rfl | rfl
  · exact m.pr_lt
  · exact m.br_lt
theorem Sat.ref_new {g w w' : World} {pm bk n : Nat} {W : Nat → Int} {R : HP} (h : Sat g w R) (b : Below w.heap.size w w') (m : RefIn w' pm bk n W) (h1 : w.heap.size ≤ pm) (h2 : w.heap.size ≤ bk) : Sat g w' (refP pm n W * R) :=
  Sat.ex' bk (h.new b m (loc_ref _ _ _ _) (fun k hk => by rcases hk with rfl | rfl; exact h1; exact h2) (fun k hk => by rcases hk with rfl | rfl; exact m.pr_lt; exact m.br_lt))

/-! ### The buffer -/

end Go.Proofs.Yteehghjdifbjbaa
