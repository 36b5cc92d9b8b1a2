/- What the functions of package queueport return and write, by walks over their text: ports of four messages of four words. -/
import Derived.Test.YtffacjbnjcolgaaWAt
import Derived.Test.YtffacjbnjcolgaaSelect
import Derived.Test.YtffacjbnjcolgaaShelf
namespace Go.Proofs.Ytffacjbnjcolgaa
set_option linter.unusedSimpArgs false
set_option linter.unusedVariables false
set_option maxRecDepth 100000
open Go.RowKit Go.Conc
set_option maxHeartbeats 4000000

/-- A port, its channel, the slices that wait. -/
structure QuIn (w : World) (pq c : Nat) (vs : List Value) (n : Nat) : Prop where
  c0 : w.cell? ⟨pq, 0, none⟩ = some (.int .i64 4)
  c1 : w.cell? ⟨pq, 1, none⟩ = some (.chan (some c))
  ch : ∃ s r, w.heap[c]? = some (.chan 4 vs.toArray false s r false)
  lt : pq < w.heap.size
  len : vs.length = n
  le : n ≤ 4
  ne : pq ≠ c
def quP (pq : Nat) (l : List (List Int)) : HP := exP fun x : Nat × List Value => ownP (fun k => k = pq ∨ k = x.1) (fun w => QuIn w pq x.1 x.2 l.length) * starL (List.zipWith wordsP x.2 l)
theorem loc_qu (pq c : Nat) (vs : List Value) (n : Nat) : Loc (fun k => k = pq ∨ k = c) (fun w => QuIn w pq c vs n) := fun w w' h e =>
  ⟨(cell_of_heap (e pq (Or.inl rfl)) _).trans h.c0, (cell_of_heap (e pq (Or.inl rfl)) _).trans h.c1, (by obtain ⟨s, r, h1⟩ := h.ch; exact ⟨s, r, (e c (Or.inr rfl)).trans h1⟩), heap_ltW (e pq (Or.inl rfl)) h.lt, h.len, h.le, h.ne⟩
theorem QuIn.clt {w : World} {pq c : Nat} {vs : List Value} {n : Nat} (h : QuIn w pq c vs n) : c < w.heap.size := by obtain ⟨s, r, h1⟩ := h.ch; exact heap_lt h1
theorem QuIn.slt {w : World} {pq c : Nat} {vs : List Value} {n : Nat} (h : QuIn w pq c vs n) : ∀ k, (k = pq ∨ k = c) → k < w.heap.size := fun k hk => by
  rcases hk with rfl | rfl
  · exact h.lt
  · exact h.clt
theorem has_qu (pq : Nat) (l : List (List Int)) : Has (quP pq l) pq := has_ex fun _ => has_left (has_own (Or.inl rfl))

theorem s_qunew (g w : World) (R : HP) (h : Sat g w R) : Calls Try.prog 36 #[.int .i64 4, .int .i64 4] w fun e w' => ∃ pq, e = .returned (.tuple #[.pointer (some ⟨pq, 0, none⟩), .int .i64 0]) ∧ Sat g w' (quP pq [] * R) := by
  have hmk : ∀ w, (Instr.makeChan 101 (.int .i64 4)).run Try.prog w = .ok (.chan (some w.heap.size)) (w.alloc (.chan 4 #[] false 0 0 false)) := fun w => by
    have h : (Try.prog.info? 31).map (·.bytes) = some 24 := by kernel_rfl
    obtain ⟨i, hi, hb⟩ := Option.map_eq_some_iff.1 h
    simpa using run_makeChan (P := Try.prog) (w := w) Try.underlying101 hi .i64 4 (by omega) (by rw [hb]; omega)
  go_enter Try.func36, Try.ntmps36
  go_wp2_with (fail)
  go_ret2
  refine ⟨w.heap.size + 1, rfl, Sat.ex' (w.heap.size, []) ?_⟩
  have S := h.new (w' := (w.alloc (.chan 4 #[] false 0 0 false)).alloc (.cells #[.int .i64 4, .chan (some w.heap.size)] 103)) (S' := fun k => k = w.heap.size + 1 ∨ k = w.heap.size) (I' := fun w' => QuIn w' (w.heap.size + 1) w.heap.size [] 0) (by repeat (first | with_reducible exact Below.refl _ _ | with_reducible assumption | with_reducible refine below_drewN ?_ _ | with_reducible refine Below.alloc ?_ (by simp <;> omega) _)) ⟨by simp [go_sem], by simp [go_sem], ⟨0, 0, by rw [Below.heap_alloc _ _ _ (by simp)]; exact Array.getElem?_push_size (xs := w.heap)⟩, by simp, rfl, by omega, by omega⟩ (loc_qu _ _ _ _) (fun k hk => by omega) (fun k hk => by simp; omega)
  exact S.perm (by show _ = _ * emp * R; rw [star_emp]; rfl)

/-- May a message wait? -/
theorem qu_send_arg (pq c : Nat) (vs : List Value) (m : Nat) (n : Nat) (a : Option Addr) (cp : Nat) (w : World) (hi : QuIn w pq c vs m) (hn : ¬ (1 ≤ n ∧ n ≤ 4)) :
    Calls Try.prog 87 #[.pointer (some ⟨pq, 0, none⟩), .slice a n cp] w fun e w' => e = .returned (.int .i64 1) ∧ w = w' := by
  have c0 := hi.c0
  have hh : n < 1 ∨ (1 ≤ n ∧ 4 < n) := by omega
  clear hn hi
  rcases hh with h1 | ⟨h1, h2⟩
  · have i1 : (n : Int) < 1 := by omega
    go_enter Try.func87, Try.ntmps87
    go_wp2_with (fail)
    go_ret
    exact ⟨rfl, rfl⟩
  · have i1 : ¬ (n : Int) < 1 := by omega
    have i2 : (4 : Int) < (n : Int) := by omega
    go_enter Try.func87, Try.ntmps87
    go_wp2_with (fail)
    go_ret
    exact ⟨rfl, rfl⟩
theorem own_wat {w : World} {base : Nat} {v : Value} {L : List Int} (h : w.ownsRow base 30 1 v L.length (uC L)) : WAt w v L ∧ ∀ k, v.ownBlock = some k → base ≤ k := by
  refine ⟨⟨?_⟩, fun k hk => (World.ownsRow.lt h k hk).1⟩
  rcases h.2 with ⟨h1, h2⟩ | ⟨gb, cap, cur, h1, _, hh, _⟩
  · exact Or.inl ⟨h1, List.length_eq_zero_iff.1 h2⟩
  · refine Or.inr ⟨gb, cap, h1, (World.ownsRow.lt h gb (by rw [h1]; rfl)).2, fun j hj => ?_⟩
    rw [h1] at h
    rw [World.ownsRow.cellAt h j (by omega)]
    exact uC_at L j hj
theorem infoUq : (Try.prog.info? 30).map (fun i => (i.zero, i.size, i.bytes)) = some (some (.int .u64 0), 1, 8) := by kernel_rfl
theorem cloneU (x : Value) (L : List Int) (w : World) (hx : Src w 1 x L.length (uC L)) (h1 : 1 ≤ L.length) (h4 : L.length ≤ 4) :
    Calls Try.prog 88 #[x] w fun e w' => ∃ v', e = .returned v' ∧ WAt w' v' L ∧ (∀ k, v'.ownBlock = some k → w.heap.size ≤ k) ∧ Below w.heap.size w w' := by
  obtain ⟨b, o, c, rfl, hc⟩ : ∃ b o c, x = .slice (some ⟨b, o, none⟩) L.length c ∧ (∀ j u, (uC L)[j]? = some u → w.cell? ⟨b, o + j, none⟩ = some u) := by
    rcases hx.2 with ⟨_, h⟩ | ⟨b, o, c, h, hc, _⟩
    · omega
    · exact ⟨b, o, c, h, hc⟩
  obtain ⟨i0, hi0, hz, hs, hby⟩ := info_parts infoUq
  exact (Try.slices_Clone i0 _ 1 8 hi0 hz hs hby rfl (by omega) Try.sizeOf30 b o L.length c (uC L) w (by rw [uC_len, Nat.mul_one]) (by unfold maxLen; omega) (by omega) hc (uC_one L)).mono
    fun e w' ⟨v', h1, h2, _, h4⟩ => ⟨v', h1, (own_wat h2).1, (own_wat h2).2, h4⟩

/-- What a Send does. -/
def QuSent (pq c : Nat) (vs : List Value) (m : Nat) (L : List Int) (w : World) (e : Ending) (w' : World) : Prop :=
  (4 ≤ m ∧ e = .returned (.int .i64 3) ∧ Below w.heap.size w w') ∨
  (m < 4 ∧ e = .returned (.int .i64 0) ∧ ∃ v w1, Below w.heap.size w w1 ∧ WAt w1 v L ∧ (∀ k, v.ownBlock = some k → w.heap.size ≤ k) ∧ QuIn w' pq c (vs ++ [v]) (m + 1) ∧ Touch (· = c) w1 w')
theorem qu_send (pq c : Nat) (vs : List Value) (m : Nat) (x : Value) (L : List Int) (w : World) (hi : QuIn w pq c vs m) (hx : Src w 1 x L.length (uC L)) (h1 : 1 ≤ L.length) (h4 : L.length ≤ 4) :
    Calls Try.prog 87 #[.pointer (some ⟨pq, 0, none⟩), x] w (QuSent pq c vs m L w) := by
  obtain ⟨a, cp, rfl⟩ := hx.slice
  have hcl := Lib.hid (fun w' (hb : Below w.heap.size w w') => cloneU (.slice a L.length cp) L w' (hx.below hb) h1 h4)
  have i1 : ¬ (L.length : Int) < 1 := by omega
  have i2 : ¬ (4 : Int) < (L.length : Int) := by omega
  have c0 := hi.c0
  have c1 := hi.c1
  have HI := Lib.hid hi
  generalize hnn : L.length = n at *
  have HN := Lib.hid hnn
  clear hi hx h1 h4 hnn
  refine calls_of_wpN Try.func87 rfl ?_
  simp only [Try.ntmps87, List.size_toArray, List.length_cons, List.length_nil, Nat.reduceAdd, Nat.reduceSub, Array.replicate_succ, Array.replicate_zero, List.push_toArray, List.append_toArray, List.nil_append, List.cons_append]
  refine wpN_seq ?_
  go_wp2_with (fail)
  refine wpN_seq ?_
  go_wp2_with (fail)
  refine wpN_seq ?_
  go_wp2_with (fail)
  refine (hcl.out _ (Below.refl _ _)).mono ?_
  rintro e w1 ⟨v, rfl, hv, hvn, hb⟩
  go_wp2_with (fail)
  refine wpN_tail ?_
  have hi1 := loc_qu pq c vs m w w1 HI.out (fun k hk => hb.block k (HI.out.slt k hk))
  obtain ⟨s, r, hch⟩ := hi1.ch
  have hclt := hi1.clt
  have hclw := HI.out.clt
  by_cases hm : m < 4
  · refine wpN_send (v := v) (z := .slice none 0 0) rfl rfl rfl rfl (by simp [go_sem, scase]) hch (by have := hi1.len; simp; omega) ?_
    have ht : Touch (· = c) w1 (w1.setChan c 4 (vs.toArray.push v) false (s + 1) r false) := ⟨rfl, rfl, rfl, by simp [World.setChan], fun k _ hk => by simp only [World.setChan]; rw [Array.getElem?_setIfInBounds_ne (by omega)]⟩
    have hpc := hi1.ne
    have hq : QuIn (w1.setChan c 4 (vs.toArray.push v) false (s + 1) r false) pq c (vs ++ [v]) (m + 1) := by
      exact ⟨keepT ht hi1.lt hpc hi1.c0, keepT ht hi1.lt hpc hi1.c1, ⟨s + 1, r, by rw [heap_setChan _ _ _ _ _ _ _ _ hclt]; simp⟩, by simpa [World.setChan] using hi1.lt, by simp [hi1.len], by omega, hpc⟩
    have HE := Lib.hid (And.intro hq ht)
    generalize w1.setChan c 4 (vs.toArray.push v) false (s + 1) r false = w2 at HE ⊢
    clear hq ht
    go_wp2_with (fail)
    go_ret
    exact Or.inr ⟨hm, rfl, v, w1, hb, hv, hvn, HE.out.1, HE.out.2⟩
  · refine wpN_send_full (v := v) (z := .slice none 0 0) rfl (by simp [go_sem, scase]) hch (by have := hi1.len; simp; omega) ?_
    go_wp2_with (fail)
    go_ret
    exact Or.inl ⟨by omega, rfl, hb⟩

theorem qu_take_none (pq c : Nat) (w : World) (hi : QuIn w pq c [] 0) :
    Calls Try.prog 86 #[.pointer (some ⟨pq, 0, none⟩)] w fun e w' => e = .returned (.tuple #[.slice none 0 0, .int .i64 2]) ∧ w = w' := by
  have c1 := hi.c1
  obtain ⟨s, r, hch⟩ := hi.ch
  have HC := Lib.hid hch
  clear hi hch
  refine calls_of_wpN Try.func86 rfl ?_
  simp only [Try.ntmps86, List.size_toArray, List.length_cons, List.length_nil, Nat.reduceAdd, Nat.reduceSub, Array.replicate_succ, Array.replicate_zero, List.push_toArray, List.append_toArray, List.nil_append, List.cons_append]
  refine wpN_seq ?_
  go_wp2_with (fail)
  refine wpN_seq ?_
  go_wp2_with (fail)
  refine wpN_tail ?_
  refine wpN_recv_none (z := .slice none 0 0) rfl (by simp [go_sem, rcase]) HC.out ?_
  go_wp2_with (fail)
  go_ret2
  exact ⟨rfl, rfl⟩
theorem qu_take (pq c : Nat) (v : Value) (vs : List Value) (m : Nat) (w : World) (hi : QuIn w pq c (v :: vs) (m + 1)) :
    Calls Try.prog 86 #[.pointer (some ⟨pq, 0, none⟩)] w fun e w' => e = .returned (.tuple #[v, .int .i64 0]) ∧ QuIn w' pq c vs m ∧ Touch (· = c) w w' := by
  have c1 := hi.c1
  obtain ⟨s, r, hch⟩ := hi.ch
  have hpc := hi.ne
  have hclt := hi.clt
  have hlen := hi.len
  have hle := hi.le
  have ht : Touch (· = c) w (w.setChan c 4 vs.toArray false s (r + 1) false) := ⟨rfl, rfl, rfl, by simp [World.setChan], fun k _ hk => by simp only [World.setChan]; rw [Array.getElem?_setIfInBounds_ne (by omega)]⟩
  have hq : QuIn (w.setChan c 4 vs.toArray false s (r + 1) false) pq c vs m :=
    ⟨keepT ht hi.lt hpc hi.c0, keepT ht hi.lt hpc hi.c1, ⟨s, r + 1, heap_setChan _ _ _ _ _ _ _ _ hclt⟩, by simpa [World.setChan] using hi.lt, by simpa using hlen, by omega, hpc⟩
  have HE := Lib.hid (And.intro hq ht)
  have HC := Lib.hid hch
  clear hi hch hq ht
  refine calls_of_wpN Try.func86 rfl ?_
  simp only [Try.ntmps86, List.size_toArray, List.length_cons, List.length_nil, Nat.reduceAdd, Nat.reduceSub, Array.replicate_succ, Array.replicate_zero, List.push_toArray, List.append_toArray, List.nil_append, List.cons_append]
  refine wpN_seq ?_
  go_wp2_with (fail)
  refine wpN_seq ?_
  go_wp2_with (fail)
  refine wpN_tail ?_
  refine wpN_recv (z := .slice none 0 0) rfl (by simp [go_sem, rcase]) HC.out (by simp) ?_
  have e1 : (v :: vs).toArray.getD 0 undef = v := by simp
  have e2 : (v :: vs).toArray.extract 1 (v :: vs).toArray.size = vs.toArray := by
    simp
  rw [e1, e2]
  generalize w.setChan c 4 vs.toArray false s (r + 1) false = w2 at HE ⊢
  clear e1 e2
  go_wp2_with (fail)
  go_ret2
  exact ⟨rfl, HE.out⟩

/-! ### The same, by parts -/
inductive QuSend (g : World) (pq : Nat) (l : List (List Int)) (L : List Int) (R : HP) (e : Ending) (w' : World) : Prop
  | arg (hn : ¬ (1 ≤ L.length ∧ L.length ≤ 4)) (he : e = .returned (.int .i64 1)) (hs : Sat g w' (quP pq l * R))
  | full (hn : 1 ≤ L.length ∧ L.length ≤ 4) (hl : 4 ≤ l.length) (he : e = .returned (.int .i64 3)) (hs : Sat g w' (quP pq l * R))
  | ok (hn : 1 ≤ L.length ∧ L.length ≤ 4) (hl : l.length < 4) (he : e = .returned (.int .i64 0)) (hs : Sat g w' (quP pq (l ++ [L]) * R))
theorem zip_snoc {vs : List Value} {l : List (List Int)} (h : vs.length = l.length) (v : Value) (L : List Int) : List.zipWith wordsP (vs ++ [v]) (l ++ [L]) = List.zipWith wordsP vs l ++ [wordsP v L] := by
  rw [List.zipWith_append h]; rfl
theorem s_qu_send (pq : Nat) (l : List (List Int)) (x : Value) (L : List Int) (g w : World) (R : HP) (h : Sat g w (quP pq l * R)) (hx : SrcN w x L) :
    Calls Try.prog 87 #[.pointer (some ⟨pq, 0, none⟩), x] w (QuSend g pq l L R) := by
  obtain ⟨⟨c, vs⟩, hs⟩ := h.ex
  have hs2 : Sat g w (ownP (fun k => k = pq ∨ k = c) (fun w => QuIn w pq c vs l.length) * (starL (List.zipWith wordsP vs l) * R)) := hs.perm (star_assoc _ _ _)
  have hi : QuIn w pq c vs l.length := hs2.inv
  by_cases hn : 1 ≤ L.length ∧ L.length ≤ 4
  · refine (qu_send pq c vs l.length x L w hi (hx.src hn.1) hn.1 hn.2).mono fun e w' hp => ?_
    rcases hp with ⟨h1, h2, h3⟩ | ⟨h1, h2, v, w1, hb, h4, h5, h3, h6⟩
    · exact .full hn h1 h2 (h.below h3)
    · refine .ok hn h1 h2 (Sat.ex' (c, vs ++ [v]) ?_)
      have S1 : Sat g w1 (wordsP v L * _) := hs2.words_new hb h4 h5
      have S2 : Sat g w1 (ownP (fun k => k = pq ∨ k = c) (fun w => QuIn w pq c vs l.length) * (wordsP v L * (starL (List.zipWith wordsP vs l) * R))) := S1.perm (by ac_rfl)
      have S3 := S2.touch (h6.mono fun k _ hk => Or.inr hk) h3 (loc_qu _ _ _ _) (fun k hk => Or.inl hk) h3.slt
      refine S3.perm ?_
      rw [zip_snoc hi.len, starL_snoc, List.length_append]
      show _ = _ * (_ * _) * R
      ac_rfl
  · obtain ⟨a, cp, rfl⟩ := hx.slice
    exact (qu_send_arg pq c vs l.length L.length a cp w hi hn).mono fun e w' ⟨h1, h2⟩ => .arg hn h1 (h2 ▸ h)

inductive QuTake (g : World) (pq : Nat) (l : List (List Int)) (R : HP) (e : Ending) (w' : World) : Prop
  | none (hl : l = []) (he : e = .returned (.tuple #[.slice none 0 0, .int .i64 2])) (hs : Sat g w' (quP pq l * R))
  | ok (L : List Int) (l' : List (List Int)) (v : Value) (hl : l = L :: l') (he : e = .returned (.tuple #[v, .int .i64 0])) (hs : Sat g w' (wordsP v L * (quP pq l' * R)))
theorem s_qu_take (pq : Nat) (l : List (List Int)) (g w : World) (R : HP) (h : Sat g w (quP pq l * R)) :
    Calls Try.prog 86 #[.pointer (some ⟨pq, 0, none⟩)] w (QuTake g pq l R) := by
  obtain ⟨⟨c, vs⟩, hs⟩ := h.ex
  have hs2 : Sat g w (ownP (fun k => k = pq ∨ k = c) (fun w => QuIn w pq c vs l.length) * (starL (List.zipWith wordsP vs l) * R)) := hs.perm (star_assoc _ _ _)
  have hi : QuIn w pq c vs l.length := hs2.inv
  match l, vs, hi.len with
  | [], [], _ => exact (qu_take_none pq c w hi).mono fun e w' ⟨h1, h2⟩ => .none rfl h1 (h2 ▸ h)
  | L :: l', v :: vs', hl =>
    refine (qu_take pq c v vs' l'.length w hi).mono fun e w' ⟨h1, h3, h6⟩ => .ok L l' v rfl h1 ?_
    have S3 := hs2.touch (h6.mono fun k _ hk => Or.inr hk) h3 (loc_qu _ _ _ _) (fun k hk => Or.inl hk) h3.slt
    have S4 : Sat g w' ((ownP (fun k => k = pq ∨ k = c) (fun w => QuIn w pq c vs' l'.length) * starL (List.zipWith wordsP vs' l')) * (wordsP v L * R)) := S3.perm (by show _ * ((wordsP v L * starL _) * R) = _; ac_rfl)
    exact (Sat.ex' (P := fun x : Nat × List Value => ownP (fun k => k = pq ∨ k = x.1) (fun w => QuIn w pq x.1 x.2 l'.length) * starL (List.zipWith wordsP x.2 l')) (c, vs') S4).perm (by show quP pq l' * _ = _; ac_rfl)

end Go.Proofs.Ytffacjbnjcolgaa
