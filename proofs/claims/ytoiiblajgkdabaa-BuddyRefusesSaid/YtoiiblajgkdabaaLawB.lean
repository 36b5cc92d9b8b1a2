/- Law 04: the calls that came in; Alloc and Free of whatever arguments, told by what stays true. -/
import Derived.Test.YtoiiblajgkdabaaBudMany
import Derived.Laws.BitsLemmas
namespace Go.Proofs.Ytoiiblajgkdabaa
set_option linter.unusedSimpArgs false
set_option linter.unusedVariables false
set_option maxRecDepth 100000
open Go.RowKit
set_option maxHeartbeats 4000000

/-- A call that came in. -/
structure OpB where
  d : Int
  n : Int
  o : Int
  w : Int
structure OpBAt (w : World) (b off : Nat) (x : OpB) : Prop where
  c0 : w.cell? ⟨b, off, none⟩ = some (.int .i64 x.d)
  c1 : w.cell? ⟨b, off + 1, none⟩ = some (.int .i64 x.n)
  c2 : w.cell? ⟨b, off + 2, none⟩ = some (.int .i64 x.o)
  c3 : w.cell? ⟨b, off + 3, none⟩ = some (.int .u64 x.w)
/-- A list of calls that was handed in lies in a world. -/
def OpsB (w : World) (a : Option Addr) (len : Nat) (L : Nat → OpB) : Prop := len = 0 ∨ ∃ b off, a = some ⟨b, off, none⟩ ∧ ∀ i, i < len → OpBAt w b (off + i * 4) (L i)
theorem OpsB.keep {g w : World} {a : Option Addr} {len : Nat} {L : Nat → OpB} (h : OpsB g a len L) (hb : Below g.heap.size g w) : OpsB w a len L := by
  rcases h with h | ⟨b, off, rfl, h⟩
  · exact Or.inl h
  · refine Or.inr ⟨b, off, rfl, fun i hi => ?_⟩
    obtain ⟨h0, h1, h2, h3⟩ := h i hi
    have hl := cell_ltB h0
    exact ⟨Go.Proofs.Ytoiiblajgkdabaa.keep hb hl h0, Go.Proofs.Ytoiiblajgkdabaa.keep hb hl h1, Go.Proofs.Ytoiiblajgkdabaa.keep hb hl h2, Go.Proofs.Ytoiiblajgkdabaa.keep hb hl h3⟩
theorem OpsB.kept {g : World} {a : Option Addr} {len : Nat} {L : Nat → OpB} (h : OpsB g a len L) : ∀ w' Q, Sat g w' (Q * whole g) → OpsB w' a len L := fun w' Q h' => h.keep (Sat.ends (h'.perm (star_comm _ _)))

theorem inv_lt {r n : Nat} {T : Nat → Prop} {H : List Blk} (h : InvB r n T H) {a o : Nat} (hb : (((a * 2 ^ o : Nat) : Int), (o : Int)) ∈ H) : (a + 1) * 2 ^ o ≤ n ∧ r ≤ a * 2 ^ o := by
  have h0 := Nat.two_pow_pos o
  have h1 := (h.cov (a * 2 ^ o)).2 (Or.inr ⟨_, hb, (inB_of a o _).2 (in_block a o)⟩)
  have h2 := (h.cov (a * 2 ^ o + (2 ^ o - 1))).2 (Or.inr ⟨_, hb, (inB_of a o _).2 ((block_iff a o _).2 (by omega))⟩)
  rw [Nat.add_mul]; omega
theorem inv_T {r n : Nat} {T : Nat → Prop} {H : List Blk} (h : InvB r n T H) : ∀ x, T x → x < n := fun x hx => ((h.cov x).2 (Or.inl hx)).2
def allBlk : List Blk := (List.range 256).flatMap fun f : Nat => (List.range 9).map fun o : Nat => ((f : Int), (o : Int))
theorem allBlk_len : allBlk.length = 2304 := by decide +kernel
theorem inv_len {r n : Nat} {T : Nat → Prop} {H : List Blk} (h : InvB r n T H) (hn : n ≤ 256) : H.length ≤ 2304 := by
  rw [← allBlk_len]
  refine sub_len H allBlk h.nodup fun x hx => ?_
  obtain ⟨a, o, ho, rfl⟩ := h.blk x hx
  have h1 := (inv_lt h hx).1
  have h0 := Nat.two_pow_pos o
  rw [Nat.add_mul] at h1
  unfold allBlk
  rw [List.mem_flatMap]
  exact ⟨a * 2 ^ o, List.mem_range.2 (by omega), List.mem_map.2 ⟨o, List.mem_range.2 (by omega), rfl⟩⟩

theorem canB_len {T : Nat → Prop} {L : List Blk} (h : CanB T L) (hs : Small T) : L.length ≤ 2304 := by
  rw [← allBlk_len]
  refine sub_len L allBlk (h.1.imp fun hab e => by rw [e] at hab; omega) fun x hx => ?_
  obtain ⟨a, o, ho, rfl, hc⟩ := (h.2 x).1 hx
  have h1 := hs _ (hc.1 _ (in_block a o))
  unfold allBlk
  rw [List.mem_flatMap]
  exact ⟨a * 2 ^ o, List.mem_range.2 h1, List.mem_map.2 ⟨o, List.mem_range.2 (by omega), rfl⟩⟩

theorem inv_fresh {r n : Nat} {T : Nat → Prop} {H : List Blk} (h : InvB r n T H) : ∀ x : Nat, T x → ∀ o : Int, ((x : Int), o) ∉ H := fun x hx o hm => by
  obtain ⟨a, k, _, hk⟩ := h.blk _ hm
  refine h.apart _ hm x ?_ hx
  rw [hk]
  refine (inB_of a k x).2 ?_
  have : (x : Int) = ((a * 2 ^ k : Nat) : Int) := congrArg Prod.fst hk
  have hx' : x = a * 2 ^ k := by omega
  rw [hx']; exact in_block a k
/-- What Free does. -/
inductive FreeAt (g : World) (pb pm r n : Nat) (T : Nat → Prop) (H : List Blk) (W : Nat → Int) (f o : Int) (R : HP) (e : Ending) (w' : World) : Prop
  | no (hn : (f, o) ∉ H) (he : e = .returned (.int .i64 2)) (hs : Sat g w' (midP pb pm T H * (memP pm n W * R)))
  | yes (c k : Nat) (hf : f = ((c * 2 ^ k : Nat) : Int)) (ho : o = (k : Int)) (hk : k ≤ 8) (hin : (((c * 2 ^ k : Nat) : Int), (k : Int)) ∈ H) (hdis : ∀ x, x / 2 ^ k = c → ¬ T x) (hfit : (c + 1) * 2 ^ k ≤ n) (he : e = .returned (.int .i64 0)) (hi : InvB r n (plusQ T c k) (H.erase (((c * 2 ^ k : Nat) : Int), (k : Int))))
      (hs : Sat g w' (midP pb pm (plusQ T c k) (H.erase (((c * 2 ^ k : Nat) : Int), (k : Int))) * (memP pm n (scrubW W (c * 2 ^ k) (2 ^ k)) * R)))
theorem s_free_at (pb pm r n : Nat) (T : Nat → Prop) (H : List Blk) (W : Nat → Int) (f o : Int) (g w : World) (R : HP) (h : Sat g w (midP pb pm T H * (memP pm n W * R))) (hi : InvB r n T H) :
    Calls Try.prog 20 #[.pointer (some ⟨pb, 0, none⟩), .int .i64 f, .int .i64 o] w (FreeAt g pb pm r n T H W f o R) := by
  by_cases hin : (f, o) ∈ H
  · obtain ⟨c, k, hk, e⟩ := hi.blk _ hin
    obtain ⟨rfl, rfl⟩ := Prod.mk.injEq .. ▸ e
    obtain ⟨h1, _⟩ := inv_lt hi hin
    have hdis : ∀ x, x / 2 ^ k = c → ¬ T x := fun x hx => hi.apart _ hin x ((inB_of c k x).2 hx)
    exact (s_free pb pm n T H W c k (c * 2 ^ k) g w R h hk rfl h1 hin hdis (inv_T hi)).mono fun e w' ⟨he, hs⟩ => .yes c k rfl rfl hk hin hdis h1 he (inv_free hi hin) hs
  · exact (s_free_no pb pm T H f o g w _ h hin).mono fun e w' ⟨he, hs⟩ => .no hin he hs

/-- A Buddy and its memory, of which what stays true is true. -/
def Bst (g : World) (pb pm r n : Nat) (R : HP) (w : World) : Prop := ∃ T H W, InvB r n T H ∧ Sat g w (midP pb pm T H * (memP pm n W * R))
theorem Bst.below {g : World} {pb pm r n : Nat} {R : HP} {w w' : World} (h : Bst g pb pm r n R w) (hb : Below w.heap.size w w') : Bst g pb pm r n R w' := by
  obtain ⟨T, H, W, h1, h2⟩ := h
  exact ⟨T, H, W, h1, h2.below hb⟩
def AnyRet (g : World) (pb pm r n : Nat) (R : HP) (e : Ending) (w' : World) : Prop := (∃ f k : Int, e = .returned (.tuple #[.int .i64 f, .int .i64 k])) ∧ Bst g pb pm r n R w'
theorem s_alloc_st (pb pm r n : Nat) (order : Int) (g w : World) (R : HP) (h : Bst g pb pm r n R w) :
    Calls Try.prog 16 #[.pointer (some ⟨pb, 0, none⟩), .int .i64 order] w (AnyRet g pb pm r n R) := by
  obtain ⟨T, H, W, hi, hs⟩ := h
  by_cases ho : 0 ≤ order ∧ order ≤ 8
  · obtain ⟨o, rfl⟩ := Int.eq_ofNat_of_zero_le ho.1
    refine (s_alloc_at pb pm T H o r n g w _ hs (by omega) hi).mono fun e w' hp => ?_
    cases hp with
    | no he hn hs => exact ⟨⟨_, _, he⟩, T, H, W, hi, hs⟩
    | yes c hc he hs => exact ⟨⟨_, _, he⟩, _, _, W, inv_alloc hi (by omega) hc, hs⟩
  · exact (s_alloc_bad pb order w (by omega)).mono fun e w' ⟨he, hw⟩ => ⟨⟨_, _, he⟩, T, H, W, hi, hw ▸ hs⟩
def AnyRet1 (g : World) (pb pm r n : Nat) (R : HP) (e : Ending) (w' : World) : Prop := (∃ k : Int, e = .returned (.int .i64 k)) ∧ Bst g pb pm r n R w'
theorem s_free_st (pb pm r n : Nat) (f o : Int) (g w : World) (R : HP) (h : Bst g pb pm r n R w) :
    Calls Try.prog 20 #[.pointer (some ⟨pb, 0, none⟩), .int .i64 f, .int .i64 o] w (AnyRet1 g pb pm r n R) := by
  obtain ⟨T, H, W, hi, hs⟩ := h
  refine (s_free_at pb pm r n T H W f o g w R hs hi).mono fun e w' hp => ?_
  cases hp with
  | no hn he hs => exact ⟨⟨_, he⟩, T, H, W, hi, hs⟩
  | yes c k _ _ _ _ _ _ he hi' hs => exact ⟨⟨_, he⟩, _, _, _, hi', hs⟩
/-- The blocks of a list that a call has made, one by one. -/
theorem blk_cells {w : World} {b : Nat} {e : TypeId} {v : Value} {L : List Blk} (h : w.ownsRow b e 2 v L.length (blkCells L)) : L = [] ∨ ∃ gb cap, v = .slice (some ⟨gb, 0, none⟩) L.length cap ∧ gb < w.heap.size ∧ b ≤ gb ∧ ∀ i (_ : i < L.length), w.cell? ⟨gb, i * 2, none⟩ = some (.int .i64 L[i].1) ∧ w.cell? ⟨gb, i * 2 + 1, none⟩ = some (.int .i64 L[i].2) := by
  have hl := h
  rcases h.2 with ⟨h1, h2⟩ | ⟨gb, cap, cur, h1, hg, hh, _⟩
  · exact Or.inl (List.length_eq_zero_iff.1 h2)
  · refine Or.inr ⟨gb, cap, h1, heap_lt hh, hg, fun i hi => ?_⟩
    rw [h1] at hl
    obtain ⟨c0, c1⟩ := blkCells_at L i hi
    exact ⟨by rw [World.ownsRow.cellAt hl (i * 2) (by omega), c0], by rw [World.ownsRow.cellAt hl (i * 2 + 1) (by omega), c1]⟩

/-- A list of blocks that a call has made, as a part of its own. -/
theorem blks_part {g w w' : World} {L : List Blk} {e : TypeId} {v : Value} {P : HP} (h : Sat g w P) (hb : Below w.heap.size w w') (hown : w'.ownsRow w.heap.size e 2 v L.length (blkCells L)) :
    ∃ (Q : HP) (a : Option Addr) (cap : Nat), v = .slice a L.length cap ∧ Sat g w' (Q * P) ∧ (L = [] ∨ ∃ gb, a = some ⟨gb, 0, none⟩ ∧ Has Q gb ∧ ∀ w2 P', Sat g w2 (Q * P') → ∀ i (_ : i < L.length), w2.cell? ⟨gb, i * 2, none⟩ = some (.int .i64 L[i].1) ∧ w2.cell? ⟨gb, i * 2 + 1, none⟩ = some (.int .i64 L[i].2)) := by
  rcases blk_cells hown with h0 | ⟨gb, cap, rfl, hgl, hge, hc⟩
  · obtain ⟨a, c, rfl⟩ := own_slice hown
    exact ⟨emp, a, c, rfl, (h.below hb).emp, Or.inl h0⟩
  · have hg : w'.heap[gb]? = some (w'.heap[gb]'hgl) := Array.getElem?_eq_getElem hgl
    refine ⟨pt gb (w'.heap[gb]'hgl), _, cap, rfl, h.new hb hg (loc_pt _ _) (fun k e => by rw [e]; exact hge) (fun k e => by rw [e]; exact hgl), Or.inr ⟨gb, rfl, has_own rfl, fun w2 P' h2 i hi => ?_⟩⟩
    have e2 := h2.pt_heap.trans hg.symm
    exact ⟨(cell_of_heap e2 _).trans (hc i hi).1, (cell_of_heap e2 _).trans (hc i hi).2⟩

theorem s_mwrite (pm n : Nat) (W : Nat → Int) (a x : Int) (g w : World) (R : HP) (h : Sat g w (memP pm n W * R)) (h0 : 0 ≤ a) (h1 : a < 16 * n) (hx : U64 x) :
    Calls Try.prog 21 #[.pointer (some ⟨pm, 0, none⟩), .int .i64 a, .int .u64 x] w fun e w' => e = .returned (.int .i64 0) ∧ Sat g w' (memP pm n (setW W a.toNat x) * R) := by
  obtain ⟨bk, hm, _, back⟩ := h.mem
  obtain ⟨x0, x1⟩ := hx
  exact (write_yes pm bk n W a x w hm h0 h1 x0 (by omega)).mono fun e w' ⟨he, h1, h2⟩ => ⟨he, back _ _ h2 h1⟩
theorem s_mzero (pm n : Nat) (W : Nat → Int) (f : Nat) (g w : World) (R : HP) (h : Sat g w (memP pm n W * R)) (hf : f < n) (h0 : ∀ i, 16 * f ≤ i → i < 16 * (f + 1) → W i = 0) :
    Calls Try.prog 22 #[.pointer (some ⟨pm, 0, none⟩), .int .i64 f] w fun e w' => e = .returned (.bool true) ∧ w = w' := by
  obtain ⟨bk, hm, _, _⟩ := h.mem
  exact zero_yes pm bk n W f w hm hf h0
theorem and15 (o : Int) : 0 ≤ bits .and .i64 o 15 ∧ bits .and .i64 o 15 ≤ 15 := by
  have h7 : (BitVec.ofInt 64 15).toNat = 2 ^ 4 - 1 := by decide
  have key : (BitVec.ofInt 64 o &&& BitVec.ofInt 64 15).toNat = (o % ((2 ^ 64 : Nat) : Int)).toNat % 2 ^ 4 := by
    rw [BitVec.toNat_and, BitVec.toNat_ofInt, h7, Nat.and_two_pow_sub_one_eq_mod]
  have e : bits .and .i64 o 15 = o % 16 := by
    show IntKind.i64.wrap ((BitVec.ofInt 64 o &&& BitVec.ofInt 64 15).toNat : Nat) = o % 16
    rw [key, IntKind.wrap_i64]
    omega
  rw [e]; omega

end Go.Proofs.Ytoiiblajgkdabaa
