/- The frame of a law's card: rows that list math/bits's table. -/
import Derived.Test.YtjacbcephokbbaaDoorFrame
import Derived.Test.YtjacbcephokbbaaDoorTie
import Derived.Test.YtjacbcephokbbaaDoorCards
import Derived.SevenTiedAt
import Derived.LaidMore
import Derived.Stop.Joined
import Derived.Shelf.Spec.TrailingZeros
namespace Go.Proofs.YtjacbcephokbbaaDoor
set_option linter.unusedSimpArgs false
set_option linter.unusedVariables false
set_option maxRecDepth 100000
open Go.ChangeShapes Go.WideShapes Go.ChangeAt Go.RowKit

def laid1 : List (String × DataW Unit) := [("math/bits.deBruijn64tab", Rows.laid_math_bits_deBruijn64tab)]
theorem gTab : Tryd.prog.globalNamed "math/bits.deBruijn64tab" = some 0 := by kernel_rfl
theorem tTab : (Tryd.prog.globals[0]?).map (·.type) = some 96 := by kernel_rfl
theorem listTab : (match (Rows.laid_math_bits_deBruijn64tab : DataW Unit) with | .agg l => l | _ => []) = Lib.deBruijn64tab.map fun n => .lit (.int .u8 (n : Int)) := by rfl
theorem door_met (os : Os) (args : Array Value) : laidMetH Tryd.prog laid1 ((World.doorLaid Tryd.prog 400 os).forCall (fun _ _ => 0) ⟨#[], args, []⟩).memory :=
  laidMetH_of_parts3 (fuel := 8) (laidMet_of_run' 8 (by kernel_rfl) (by kernel_rfl)) (by kernel_rfl) (by kernel_rfl)
/-- What the row's condition gives a walk: the table's cells. -/
theorem tab_of_laid {W : World} (h : laidMetH Tryd.prog laid1 W) : TabAt 0 Lib.deBruijn64tab W := by
  rw [MakeChecks.laidMetH_plain _ _ _ (by kernel_rfl)] at h
  obtain ⟨ps, ⟨g0, t0, cs0, f0, p0, q0, hg0, ht0, hv0, hd0, _, _⟩, _, _⟩ := h
  obtain rfl := Option.some.inj (gTab.symm.trans hg0)
  obtain rfl := Option.some.inj (tTab.symm.trans ht0)
  obtain ⟨xs, m1, rfl, hx1, hlen, hn64, hel⟩ := DataW.trod_array Tryd.underlying96 hd0
  have c1 : Tryd.prog.cellsOf 5 = 1 := by kernel_rfl
  simp only [Prod.mk.injEq] at hx1
  have hl : xs.map (·.1) = Lib.deBruijn64tab.map fun n => .lit (.int .u8 (n : Int)) := by
    rw [← listTab, hx1.1]
  intro j hj
  have hj64 : j < 64 := hj
  have h0 := hel j hj64
  rw [c1, Nat.mul_one] at h0
  have hxj : xs[j]? = some xs[j] := List.getElem?_eq_getElem (by omega)
  rw [hxj] at h0
  obtain ⟨k, e1, e2, _⟩ := DataW.trod_int Tryd.underlying5 h0
  have hm := congrArg (fun l => l[j]?) hl
  simp only [List.getElem?_map, hxj, Option.map_some, e2] at hm
  have hk : k = ((Lib.deBruijn64tab.getD j 0 : Nat) : Int) := by
    rw [List.getElem?_eq_getElem hj] at hm
    simp only [Option.map_some, Option.some.injEq, DataW.lit.injEq, Lit.int.injEq, true_and] at hm
    rw [List.getD_eq_getElem?_getD, List.getElem?_eq_getElem hj]
    exact hm
  subst hk
  have hc := World.var?_cell hg0 hv0 j
  have hcs : cs0[j]? = some (.int .u8 ((Lib.deBruijn64tab.getD j 0 : Nat) : Int)) := by
    have h1 := congrArg (fun l : List Value => l[0]?) e1
    simp only [List.getElem?_take_of_lt (show 0 < 1 by omega), List.getElem?_drop, Nat.add_zero, List.getElem?_cons_zero] at h1
    simpa using h1
  rw [hcs] at hc
  exact hc

/-- What a card's walk is handed, and what it must show. -/
def LawWalkL (f : FuncId) (fn : Func) : Prop :=
  ∀ (H : Type) (enc : TypeId × Value → H) (W : World) (base : Nat) (vs : List Value) (ds : List (DataW H)) (ps : List MemPlace),
    (∀ (j : Nat) t v, fn.params.toList[j]? = some t → vs[j]? = some v → Value.okWide Tryd.prog W .any base t v) →
    DataW.TrodAll enc Tryd.prog W 0 (fun _ => true) true fn.params.toList vs ds ps →
    TabAt 0 Lib.deBruijn64tab W →
    Calls Tryd.prog f ⟨vs⟩ W fun e W' => e = .returned (.bool true) ∧ Below W.heap.size W W'

theorem card_lifted {f : FuncId} {fn : Func} {s : ChangeSpec} (hfn : Tryd.prog.funcs[f]? = some fn) (hn : Tryd.prog.inits.idxOf? f = none) (hres : fn.resultTypes = #[4])
    (hts : ∀ t ∈ fn.params.toList, Tryd.prog.readableRec t = true ∧ t < Tryd.prog.types.size)
    (hvars : s.vars = []) (hs : ∀ (H : Type) (ds : List (DataW H)), ds.length = fn.params.size → s.fn H ds = { results := [.lit (.bool true)], args := ds })
    (hwalk : LawWalkL f fn) (os : Os) (started : os.Started) (H : Type) (enc : TypeId × Value → H)
    (witness : ∃ (w : World) (tape : Tape) (i : Input), w.os = os ∧ (w.forCall tape i).Shaped Tryd.prog ∧ i.vars = [] ∧ Input.okWide Tryd.prog (w.forCall tape i) .any w.heap.size f i ∧
      ((s.pre enc Tryd.prog fn [] false (w.forCall tape i).memory i.args ∧ laidMetH Tryd.prog laid1 (w.forCall tape i).memory) ∧ sizedMet enc Tryd.prog fn (OpenSpec.ofChange s) false (w.forCall tape i).memory i.args) ∧ ({} : Assume).holds Tryd.prog (lone (Frame.enter Tryd.prog f i.args .normal) [] (w.forCall tape i))) :
    ReturnsInHanded {} Tryd.checked os f .any (fun w args => (s.pre enc Tryd.prog fn [] false w args ∧ laidMetH Tryd.prog laid1 w) ∧ sizedMet enc Tryd.prog fn (OpenSpec.ofChange s) false w args) (s.post enc Tryd.prog fn false true false false) := by
  refine returnsInHanded_of_change_and (C := Tryd.checked) (X := fun w _ => laidMetH Tryd.prog laid1 w) (fun _ _ _ hh h => h.of_heap hh) own started hn hfn witness ?_
  intro W base args ds gs before hval hW _ _ hL _
  have hW' := hW
  obtain ⟨p, q, hA, hV, rfl, hfz, _⟩ := hW
  have hVn : DataW.TrodVars enc Tryd.prog W (fun _ => true) [] gs q := by rw [← hvars]; exact hV
  obtain ⟨rfl, rfl⟩ := trodVars_none hVn
  have hA' : DataW.TrodAll enc Tryd.prog W 0 (fun _ => true) true fn.params.toList args.toList ds p := hA
  simp only [List.append_nil] at hW' hfz
  have hlt : ∀ x ∈ p, x.block < W.heap.size := fun x hx => by simpa using hW'.lt x hx
  have hlen : ds.length = fn.params.size := by
    have : ∀ (ts : List TypeId) (vs : List Value) (ds : List (DataW H)) (ps : List MemPlace), DataW.TrodAll enc Tryd.prog W 0 (fun _ => true) true ts vs ds ps → ds.length = ts.length := by
      intro ts
      induction ts with
      | nil => intro vs ds ps h; obtain ⟨_, rfl, _⟩ := trodAll_nil h; rfl
      | cons t ts ih => intro vs ds ps h; obtain ⟨_, _, _, _, _, _, rfl, rfl, rfl, _, h1⟩ := trodAll_cons h; simp [ih _ _ _ h1]
    have := this _ _ _ _ hA'
    simpa using this
  refine (hwalk H enc W base args.toList ds p (fun j t v h h' => hval j t v (by simpa using h) (by simpa using h')) hA' (tab_of_laid hL)).mono fun e W' ⟨he, hb⟩ => ?_
  subst he
  have hsd := hs H ds hlen
  refine ⟨_, rfl, ds, [], p, [], p, [], hW', ?_, ?_, ?_, hb.frame _, fun h => by cases h⟩
  · rw [List.append_nil, hsd, hres]; exact trodAll_mk1 (shut_bool Tryd.underlying4 _)
  · rw [List.append_nil, hsd]; exact trodAll_below hb _ _ _ _ hts hA' hlt
  · rw [hvars, List.append_nil, hsd]; rfl

end Go.Proofs.YtjacbcephokbbaaDoor
