/- What a drop leaves, told by lists; the array of lists that WiresAnew holds. -/
import Derived.Test.YtffacjbnjcolgaaLaw19
import Derived.Test.YtffacjbnjcolgaaOps19
import Derived.Test.YtffacjbnjcolgaaSame3
import Derived.Laws.BitsLemmas
namespace Go.Proofs.Ytffacjbnjcolgaa
set_option linter.unusedSimpArgs false
set_option linter.unusedVariables false
set_option maxRecDepth 100000
open Go.RowKit
set_option maxHeartbeats 4000000

theorem ids_left (E : List Wr) (L : List Int) : idsE (leftE E L) = (idsE E).filter fun x => !L.contains x := by
  have h1 : (leftE E L).map (·.id) = (E.map (·.id)).filter fun x => !L.contains x := by
    unfold leftE
    rw [List.filter_map]
    rfl
  unfold idsE
  rw [h1]
  exact List.Perm.eq_of_pairwise (le := (· ≤ ·)) (fun a b _ _ h1 h2 => Int.le_antisymm h1 h2) (sortK_rise _) ((sortK_rise _).filter _) ((sortK_perm _).trans ((sortK_perm _).symm.filter _))
theorem hasid_left (E : List Wr) (L : List Int) (n id : Int) : hasId (leftE E L) n id = (hasId E n id && !L.contains id) := by
  unfold hasId leftE
  rw [Bool.eq_iff_iff]
  simp only [List.any_eq_true, List.mem_filter, Bool.and_eq_true, beq_iff_eq, Bool.not_eq_true']
  constructor
  · rintro ⟨x, ⟨h1, h2⟩, h3, h4⟩
    exact ⟨⟨x, h1, h3, h4⟩, by rw [← h3]; exact h2⟩
  · rintro ⟨⟨x, h1, h3, h4⟩, h2⟩
    exact ⟨x, ⟨h1, by rw [h3]; exact h2⟩, h3, h4⟩
theorem of_left (E : List Wr) (L : List Int) (n : Int) : ofL (leftE E L) n = (ofL E n).filter fun x => !L.contains x := by
  unfold ofL
  rw [ids_left, List.filter_filter, List.filter_filter]
  refine List.filter_congr fun x _ => ?_
  rw [hasid_left]
  cases hasId E n x <;> cases L.contains x <;> rfl
theorem of_left_self (E : List Wr) (n : Int) : ofL (leftE E (ofL E n)) n = [] := by
  rw [of_left]
  refine List.filter_eq_nil_iff.2 fun x hx => ?_
  simp [hx]
theorem i64_and1 (n : Int) : bits .and .i64 n 1 = n % 2 := by
  have h31 : (BitVec.ofInt 64 1).toNat = 2 ^ 1 - 1 := by decide
  have key : (BitVec.ofInt 64 n &&& BitVec.ofInt 64 1).toNat = (n % ((2 ^ 64 : Nat) : Int)).toNat % 2 ^ 1 := by
    rw [BitVec.toNat_and, BitVec.toNat_ofInt, h31, Nat.and_two_pow_sub_one_eq_mod]
  show IntKind.i64.wrap ((BitVec.ofInt 64 n &&& BitVec.ofInt 64 1).toNat : Nat) = n % 2
  rw [key, IntKind.wrap_i64]
  omega
theorem IAt.list {w : World} {a : Option Addr} {n c : Nat} {L : List Int} (h : IAt w (.slice a n c) L) : ListAt w a L := by
  rcases h.is with ⟨_, rfl⟩ | ⟨b, cap, e, hb, hc⟩
  · exact Or.inl rfl
  · simp only [Value.slice.injEq] at e
    obtain ⟨rfl, -, -⟩ := e
    exact Or.inr ⟨b, 0, rfl, fun j hj => by rw [Nat.zero_add]; exact hc j hj⟩
theorem IAt.cell {w : World} {a : Option Addr} {n c : Nat} {L : List Int} (h : IAt w (.slice a n c) L) (k : Nat) (hk : k < L.length) : ∃ b, a = some ⟨b, 0, none⟩ ∧ b < w.heap.size ∧ w.cell? ⟨b, k, none⟩ = some (.int .i64 L[k]) := by
  rcases h.is with ⟨_, rfl⟩ | ⟨b, cap, e, hb, hc⟩
  · simp at hk
  · simp only [Value.slice.injEq] at e
    exact ⟨b, e.1, hb, hc k hk⟩
/-- The array: each place's list. -/
def arrP (b : Nat) (V : Nat → Value) : HP := ownP (fun k => k = b) (fun w => RowF w b 8 V)
def listsP (E : List Wr) (V : Nat → Value) (k : Nat) : HP := starL ((List.range k).map fun n => intsP (V n) (ofL E n))
theorem lists_succ (E : List Wr) (V : Nat → Value) (k : Nat) (v : Value) : listsP E (fun j => if j = k then v else V j) (k + 1) = intsP v (ofL E k) * listsP E V k := by
  unfold listsP
  rw [List.range_succ, List.map_append, List.map_singleton, starL_snoc]
  simp only [if_true]
  congr 2
  refine List.map_congr_left fun j hj => ?_
  have := List.mem_range.1 hj
  simp [show j ≠ k by omega]
theorem lists_at {g w : World} {E : List Wr} {V : Nat → Value} {k : Nat} {R : HP} (h : Sat g w (listsP E V k * R)) (n : Nat) (hn : n < k) : IAt w (V n) (ofL E n) := by
  unfold listsP at h
  have hl : n < ((List.range k).map fun n => intsP (V n) (ofL E n)).length := by simpa using hn
  rw [starL_pick _ n hl] at h
  have e : ((List.range k).map fun n : Nat => intsP (V n) (ofL E n))[n] = intsP (V n) (ofL E n) := by simp
  rw [e] at h
  exact (h.perm (star_assoc _ _ _)).ints
theorem loc_arr (b : Nat) (V : Nat → Value) : Loc (fun k => k = b) (fun w => RowF w b 8 V) := fun w w' h e =>
  ⟨fun j hj => (cell_of_heap (e b rfl) _).trans (h.cell j hj), fun j hj => (frozen_of_heap (e b rfl) _).trans (h.free j hj), heap_ltW (e b rfl) h.lt⟩
theorem arr_set {g w : World} {b : Nat} {V : Nat → Value} {R : HP} (h : Sat g w (arrP b V * R)) (k : Nat) (hk : k < 8) (v : Value) : Sat g (w.setCell ⟨b, k, none⟩ v) (arrP b (fun j => if j = k then v else V j) * R) :=
  h.touch (S' := fun k => k = b) (Touch.setCell (S := fun k => k = b) (Touch.refl _ w) (p := ⟨b, k, none⟩) (Or.inl rfl) v) ((Sat.inv h).set k hk v) (loc_arr _ _) (fun k hk => Or.inl hk) (fun j hj => by subst hj; exact ((Sat.inv h).set k hk v).lt)
/-- Any bind, any send: there are wires behind it. -/
theorem any_bind (pw : Nat) (E : List Wr) (id fr to_ kind : Int) (g w : World) (R : HP) (h : Sat g w (wiP pw E * R)) :
    Calls Try.prog 9 #[.pointer (some ⟨pw, 0, none⟩), .int .i64 id, .int .i64 fr, .int .i64 to_, .int .i64 kind] w fun e w' => ∃ k, e = .returned (.int .i64 k) ∧ ∃ E', Sat g w' (wiP pw E' * R) := by
  refine (s_bind pw E id fr to_ kind g w _ h).mono fun e w' hp => ?_
  cases hp with
  | bad _ he hs => exact ⟨_, he, E, hs⟩
  | twice _ _ _ _ he hs => exact ⟨_, he, E, hs⟩
  | ok y _ _ _ he hs => exact ⟨_, he, _, hs⟩
theorem any_send (pw : Nat) (E : List Wr) (id part : Int) (v : Value) (L : List Int) (now : Int) (g w : World) (R : HP) (h : Sat g w (wiP pw E * R)) (hv : SrcN w v L) :
    Calls Try.prog 11 #[.pointer (some ⟨pw, 0, none⟩), .int .i64 id, .int .i64 part, v, .int .i64 now] w fun e w' => ∃ k, e = .returned (.int .i64 k) ∧ ∃ E', Sat g w' (wiP pw E' * R) := by
  refine (s_wsend pw E id part v L now g w _ h hv).mono fun e w' hp => ?_
  cases hp with
  | none _ he hs => exact ⟨_, he, E, hs⟩
  | perm _ _ _ _ he hs => exact ⟨_, he, E, hs⟩
  | ok j hj hi _ he hs => exact ⟨_, he, _, hs⟩
theorem new_some (k : Int) : ∃ x, newPort (k % 2) = some x ∧ recvE x 50 = 2 := by
  have : k % 2 = 0 ∨ k % 2 = 1 := by omega
  rcases this with h | h
  · exact ⟨.samp none, by unfold newPort; rw [if_pos h], rfl⟩
  · exact ⟨.queue [], by unfold newPort; rw [if_neg (by omega), if_pos h], rfl⟩
/-- What is bound behind the drop is none of what will be. -/
def Fresh19 (O : List Int) (k : Nat) (E : List Wr) : Prop := ∀ id ∈ O.drop k, ∀ y ∈ E, y.id ≠ id
theorem fresh_start (E : List Wr) (O : List Int) : Fresh19 O 0 (leftE E O) := fun id hid y hy e => by
  have h2 := (List.mem_filter.1 hy).2
  rw [e] at h2
  rw [List.drop_zero] at hid
  simp [hid] at h2
theorem fresh_step {O : List Int} (hn : O.Nodup) {k : Nat} (hk : k < O.length) {E : List Wr} (h : Fresh19 O k E) (fr to_ : Int) (x : PortS) : Fresh19 O (k + 1) (E ++ [⟨O[k], fr, to_, x⟩]) := fun id hid y hy => by
  have hd : O.drop k = O[k] :: O.drop (k + 1) := List.drop_eq_getElem_cons hk
  rcases List.mem_append.1 hy with hy | hy
  · exact h id (by rw [hd]; exact List.mem_cons_of_mem _ hid) y hy
  · obtain rfl := List.mem_singleton.1 hy
    have hn2 := hn.sublist (List.drop_sublist k O)
    rw [hd] at hn2
    intro e
    have e' : O[k] = id := e
    exact (List.nodup_cons.1 hn2).1 (by rw [e']; exact hid)
theorem recv_new (pw : Nat) (E : List Wr) (id fr to_ : Int) (x : PortS) (hx : recvE x 50 = 2) (g w : World) (R : HP) (h : Sat g w (wiP pw (E ++ [⟨id, fr, to_, x⟩]) * R)) :
    Calls Try.prog 12 #[.pointer (some ⟨pw, 0, none⟩), .int .i64 id, .int .i64 to_, .int .i64 50] w fun e w' => e = .returned (.tuple #[.slice none 0 0, .bool false, .int .i64 2]) ∧ Sat g w' (wiP pw (E ++ [⟨id, fr, to_, x⟩]) * R) := by
  have hnd : (((E ++ [⟨id, fr, to_, x⟩] : List Wr)).map (·.id)).Nodup := by obtain ⟨mb, ps, hi, _⟩ := h.wi; exact hi.nodup
  have e : (E ++ [(⟨id, fr, to_, x⟩ : Wr)])[E.length]'(by simp) = ⟨id, fr, to_, x⟩ := by simp
  exact recv_empty pw _ id to_ 50 2 g w R h (by omega) hnd E.length (by simp) (by rw [e]) (by rw [e]) (by rw [e]; exact hx) (by omega)

end Go.Proofs.Ytffacjbnjcolgaa
