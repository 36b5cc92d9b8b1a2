/- slices.Sorted(maps.Keys(m)) of a map of wires: the numbers, rising. -/
import Derived.Test.YtffacjbnjcolgaaMapW
import Derived.Test.YtffacjbnjcolgaaKeysW
import Derived.Shelf.SlIterI.Nil
import Derived.Shelf.SortM.Plain
import Derived.Shelf.SortM.SortNone
namespace Go.Proofs.Ytffacjbnjcolgaa
set_option linter.unusedSimpArgs false
set_option linter.unusedVariables false
set_option maxRecDepth 100000
open Go.RowKit Go.Maps Go.Sort Go.Shelf Go.MapKept
set_option maxHeartbeats 1000000

def idsW (L : List WEnt) : List Int := L.map (·.1)
def sortK (l : List Int) : List Int := l.mergeSort fun x y => decide (x ≤ y)
theorem sortK_perm (l : List Int) : (sortK l).Perm l := List.mergeSort_perm _ _
theorem sortK_len (l : List Int) : (sortK l).length = l.length := (sortK_perm l).length_eq
theorem sortK_rise (l : List Int) : (sortK l).Pairwise (· ≤ ·) := by
  have := List.pairwise_mergeSort (le := fun x y : Int => decide (x ≤ y)) (fun a b c h1 h2 => by simp at *; omega) (fun a b => by simp; omega) l
  exact this.imp fun h => by simpa using h
theorem sortK_congr {l m : List Int} (h : l.Perm m) : sortK l = sortK m := by
  refine List.Perm.eq_of_pairwise (le := (· ≤ ·)) (fun a b _ _ h1 h2 => Int.le_antisymm h1 h2) (sortK_rise l) (sortK_rise m) (((sortK_perm l).trans h).trans (sortK_perm m).symm)
theorem sortsA (m : Nat) : AnyZI.SortsIn Try.prog Try.sortedA_ren Fence.wide m :=
  ⟨fun blk off cap ss W hH hblk hsz => callsIn_wide.2 (AnyM.slices_Sort_int Try.sortA blk off cap ss W hH hblk hsz),
   fun p cap W => callsIn_wide.2 (AnyM.slices_Sort_int_none Try.sortA p cap W)⟩
theorem keysW (mb : Option Nat) (W : World) : Calls Try.prog 26 #[.map mb] W fun e w' => e = .returned (.func (.func 39) #[] #[.pointer (some ⟨W.heap.size, 0, none⟩)]) ∧ w' = W.alloc (.cells #[.map mb] 55) :=
  (callsIn_wide (n := 5)).1 (AnyZI.keys_in Try.keysA Fence.wide 5 trivial rfl mb W)

/-- A wire's value, as it is read: it is not told. -/
def noneR : Value → Option (DataW Unit × List MemPlace) := fun _ => some (.lit (.bool true), [])
theorem insert_perm {H : Type} (x : Lit × DataW H) : ∀ l, (DataW.insert x l).Perm (x :: l)
  | [] => List.Perm.refl _
  | y :: r => by
    unfold DataW.insert
    split
    · exact List.Perm.refl _
    · exact ((insert_perm x r).cons y).trans (List.Perm.swap x y r)
theorem foldr_perm {H : Type} : ∀ l : List (Lit × DataW H), (l.foldr DataW.insert []).Perm l
  | [] => List.Perm.refl _
  | x :: l => (insert_perm x _).trans ((foldr_perm l).cons x)
theorem id_wf {x : Int} (h : 0 ≤ x ∧ x < 16) : (Lit.int .i64 x).wf = true := WalkArith.wf_i64 (by omega)
theorem sub_lenW {α : Type} : ∀ (l m : List α), l.Nodup → (∀ x ∈ l, x ∈ m) → l.length ≤ m.length
  | [], m, _, _ => by simp
  | a :: l, m, hn, h => by
    obtain ⟨s, t, rfl⟩ := List.append_of_mem (h a List.mem_cons_self)
    have hn' := List.nodup_cons.1 hn
    have := sub_lenW l (s ++ t) hn'.2 (fun x hx => by
      have h1 := h x (List.mem_cons_of_mem _ hx)
      simp only [List.mem_append, List.mem_cons] at h1 ⊢
      rcases h1 with h1 | rfl | h1
      · exact Or.inl h1
      · exact absurd hx hn'.1
      · exact Or.inr h1)
    simp only [List.length_append, List.length_cons] at this ⊢
    omega
/-- Different numbers below sixteen are sixteen at most. -/
theorem ids_few {L : List WEnt} (h : (L.map (·.1)).Nodup) (hid : ∀ y ∈ L, 0 ≤ y.1 ∧ y.1 < 16) : L.length ≤ 16 := by
  have hs : (L.map (·.1)) ⊆ (List.range 16).map (fun k : Nat => (k : Int)) := fun x hx => by
    obtain ⟨y, hy, rfl⟩ := List.mem_map.1 hx
    have := hid y hy
    exact List.mem_map.2 ⟨y.1.toNat, by simp; omega, by omega⟩
  have := sub_lenW _ _ h (fun x hx => hs hx)
  simpa using this
theorem own_map {w : World} {b : Nat} {L : List WEnt} (h : MapW w b L) (hid : ∀ y ∈ L, 0 ≤ y.1 ∧ y.1 < 16) :
    ∃ D : DataW Unit, w.ownsMap Try.prog 3 noneR b L.length D ∧ (intKeys D).Perm (idsW L) ∧ Maps.size D = L.length := by
  obtain ⟨⟨es, c, h1, h2, h4, h5⟩, h6⟩ := h
  have hl : es.toList.length = L.length := by have := congrArg List.length h2; simpa using this
  have hk := ientW_keys h2
  have hrd : ∀ e ∈ es.toList, ∃ x : Int, e.key = .int .i64 x ∧ WideElems.rg Try.prog 3 noneR e = (.int .i64 x, .lit (.bool true)) ∧ WideElems.rd Try.prog 3 noneR e = some (.int .i64 x, .lit (.bool true)) := fun e he => by
    have hm : e.key ∈ es.toList.map (·.key) := List.mem_map.2 ⟨e, he, rfl⟩
    rw [hk] at hm
    obtain ⟨y, hy, e1⟩ := List.mem_map.1 hm
    have hq := Maps.keyOf_int_mk Try.underlying3 (id_wf (hid y hy))
    have hr : WideElems.rd Try.prog 3 noneR e = some (.int .i64 y.1, .lit (.bool true)) := by
      unfold WideElems.rd
      rw [← e1, hq]; rfl
    exact ⟨y.1, e1.symm, by unfold WideElems.rg; rw [hr]; rfl, hr⟩
  refine ⟨.map ((es.toList.map (WideElems.rg Try.prog 3 noneR)).foldr DataW.insert []), ⟨es, c, h1, ⟨?_, ?_, ?_⟩, by simpa using Nat.le_of_eq hl, rfl⟩, ?_, ?_⟩
  · have : es.size = L.length := by simpa using hl
    have h16 := ids_few h6 hid
    unfold maxLen; omega
  · refine ⟨h5, h4, ?_⟩
    rw [hk]
    have : L.map (fun x => Value.int .i64 x.1) = (L.map (·.1)).map (Value.int .i64) := by simp [Function.comp_def]
    rw [this]
    exact h6.map _ (fun a b hab e => hab (by simpa using e))
  · exact fun e he => ⟨_, (hrd e he).choose_spec.2.2⟩
  · unfold intKeys
    have p := (foldr_perm (es.toList.map (WideElems.rg Try.prog 3 noneR))).map (fun p => Go.intOf p.1)
    refine p.trans ?_
    have e : (es.toList.map (WideElems.rg Try.prog 3 noneR)).map (fun p => Go.intOf p.1) = idsW L := by
      have e1 : (es.toList.map (WideElems.rg Try.prog 3 noneR)).map (fun p => Go.intOf p.1) = es.toList.map (fun e => match e.key with | .int _ a => a | _ => 0) := by
        rw [List.map_map]
        refine List.map_congr_left fun e he => ?_
        obtain ⟨x, h7, h8, _⟩ := hrd e he
        simp only [Function.comp_apply, h8, h7]; rfl
      rw [e1]
      have e2 := congrArg (List.map (fun v : Value => match v with | .int _ a => a | _ => 0)) hk
      simp only [List.map_map, Function.comp_def] at e2
      exact e2
    rw [e]
  · unfold Maps.size
    have p := (foldr_perm (es.toList.map (WideElems.rg Try.prog 3 noneR))).length_eq
    show (List.foldr DataW.insert [] _).length = _
    rw [p, List.length_map, hl]

theorem sortedW (Bm b : Nat) (L : List WEnt) (w : World) (hB : Bm < w.heap.size) (hm : w.cell? ⟨Bm, 0, none⟩ = some (.map (some b))) (h : MapW w b L) (hid : ∀ y ∈ L, 0 ≤ y.1 ∧ y.1 < 16) :
    Calls Try.prog 25 #[.func (.func 39) #[] #[.pointer (some ⟨Bm, 0, none⟩)]] w fun e w' => ∃ v, e = .returned v ∧ w'.ownsRow w.heap.size 3 1 v (sortK (idsW L)).length ((sortK (idsW L)).map (Value.int .i64)) ∧ Below w.heap.size w w' := by
  obtain ⟨D, hown, hperm, hsize⟩ := own_map h hid
  have h16 := ids_few h.nodup hid
  have hseq : SeqGives Fence.wide 2 Try.prog 39 #[.pointer (some ⟨Bm, 0, none⟩)] encZ (fun ss => ss.Perm (intKeys D)) (Maps.size D) w :=
    AnyZI.keys_gives (ρ := Try.keysA_ren) { Try.keysA with } Fence.wide _ trivial rfl (by omega) Bm b L.length D _ hB hm hown
  have cS := AnyZI.sorted_in Try.sortedA Fence.wide 5 trivial trivial trivial trivial rfl (by omega) (sortsA _) (enters_of Try.func38 (by kernel_rfl) rfl) 39 #[.pointer (some ⟨Bm, 0, none⟩)] trivial (enters_of Try.func39 (by kernel_rfl) rfl) _ _ (by rw [hsize]; unfold maxLen; omega) (by rw [hsize]; omega) _ hseq
  change CallsIn _ _ Try.prog 25 _ _ _ at cS
  refine ((callsIn_wide (n := 5)).1 cS).mono ?_
  rintro e w' ⟨v, ss, rfl, hS, hrow, hnil, hb⟩
  refine ⟨v, rfl, ?_, hb⟩
  have e1 : ss.mergeSort (fun x y => decide (x ≤ y)) = sortK (idsW L) := sortK_congr (hS.trans hperm)
  rw [e1] at hrow
  have e2 : ss.length = (sortK (idsW L)).length := by rw [sortK_len]; exact (hS.trans hperm).length_eq
  rw [e2] at hrow
  exact hrow

end Go.Proofs.Ytffacjbnjcolgaa
