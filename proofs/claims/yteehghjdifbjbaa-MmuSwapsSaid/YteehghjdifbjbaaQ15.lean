/- Part 15 of the proofs: Sp5, Each, Pages, Pages2. -/
import Derived.Test.YteehghjdifbjbaaQ14
import Derived.Laws.EntriesVeiled
import Derived.Lib.OwnBridge
namespace Go.Proofs.Yteehghjdifbjbaa
set_option linter.unusedSimpArgs false
set_option linter.unusedVariables false
set_option maxRecDepth 100000
open Go.RowKit
set_option maxHeartbeats 4000000

/-- What is known where some tables were made: the frames, what is free, what was given, what is to be put, and where the next entry comes. -/
inductive Got (T0 : Nat → Prop) (H0 : List Blk) (F0 K0 : Nat) (idx : Nat → Nat) (k0 : Nat) : List Nat → (Nat → Prop) → List Blk → List (Nat × Nat × Nat) → Nat → Nat → Prop
  | nil : Got T0 H0 F0 K0 idx k0 [] T0 H0 [] F0 K0
  | snoc {l : List Nat} {T : Nat → Prop} {H : List Blk} {E : List (Nat × Nat × Nat)} {F K : Nat} (c : Nat) (h : Got T0 H0 F0 K0 idx k0 l T H E F K) (hc : NextF T c) : Got T0 H0 F0 K0 idx k0 (l ++ [c]) (minusQ T c 0) (H ++ [((c : Int), (0 : Int))]) (E ++ [(F, K, c)]) c (idx (k0 + l.length))
theorem Got.inv {r0 n : Nat} {T0 : Nat → Prop} {H0 : List Blk} {F0 K0 : Nat} {idx : Nat → Nat} {k0 : Nat} (hi : InvB r0 n T0 H0) {l : List Nat} {T : Nat → Prop} {H : List Blk} {E : List (Nat × Nat × Nat)} {F K : Nat} (h : Got T0 H0 F0 K0 idx k0 l T H E F K) : InvB r0 n T H := by
  induction h with
  | nil => exact hi
  | snoc c h hc ih =>
    have := inv_alloc ih (c := c) (o := 0) (by omega) (full0.2 hc.free)
    rw [Nat.pow_zero, Nat.mul_one] at this
    exact this
theorem Got.len {T0 : Nat → Prop} {H0 : List Blk} {F0 K0 : Nat} {idx : Nat → Nat} {k0 : Nat} {l : List Nat} {T : Nat → Prop} {H : List Blk} {E : List (Nat × Nat × Nat)} {F K : Nat} (h : Got T0 H0 F0 K0 idx k0 l T H E F K) : E.length = l.length := by
  induction h with
  | nil => rfl
  | snoc c h hc ih => simp [ih]
/-- All that is to be put lies in tables. -/
theorem Got.bd {n : Nat} {T0 : Nat → Prop} {H0 : List Blk} {F0 K0 : Nat} {idx : Nat → Nat} {k0 : Nat} (hF : F0 < n) (hK : K0 < 16) (hx : ∀ i, idx i < 16) (hT : ∀ x, T0 x → x < n) {l : List Nat} {T : Nat → Prop} {H : List Blk} {E : List (Nat × Nat × Nat)} {F K : Nat} (h : Got T0 H0 F0 K0 idx k0 l T H E F K) :
    (∀ x, T x → x < n) ∧ F < n ∧ K < 16 ∧ ∀ e ∈ E, e.1 < n ∧ e.2.1 < 16 ∧ e.2.2 < n := by
  induction h with
  | nil => exact ⟨hT, hF, hK, by simp⟩
  | snoc c h hc ih =>
    obtain ⟨i1, i2, i3, i4⟩ := ih
    refine ⟨fun x hx => i1 x hx.1, i1 c hc.free, hx _, fun e he => ?_⟩
    rcases List.mem_append.1 he with he | he
    · exact i4 e he
    · rw [List.mem_singleton.1 he]; exact ⟨i2, i3, i1 c hc.free⟩
theorem plus_minus {T : Nat → Prop} {c : Nat} (h : T c) : plusQ (minusQ T c 0) c 0 = T := by
  funext x
  unfold plusQ minusQ
  rw [Nat.pow_zero, Nat.div_one]
  refine propext ⟨?_, fun hx => ?_⟩
  · rintro (h1 | rfl)
    · exact h1.1
    · exact h
  · by_cases e : x = c
    · exact Or.inr e
    · exact Or.inl ⟨hx, e⟩
theorem erase_last {H : List Blk} {x : Blk} (h : x ∉ H) : (H ++ [x]).erase x = H := by
  rw [List.erase_append_right _ h]; simp
theorem scrub_free {T : Nat → Prop} {M : Nat → Int} (h : ZeroF T M) {c : Nat} (hc : T c) : scrubW M c 1 = M := by
  funext i
  unfold scrubW
  split
  · rename_i hi
    exact (h c hc i hi.1 hi.2).symm
  · rfl
/-- The entries put, one after the other. -/
def putsM (M : Nat → Int) (E : List (Nat × Nat × Nat)) : Nat → Int := E.foldl (fun M e => setW M (16 * e.1 + e.2.1) (wordI true false true e.2.2)) M
theorem putsM_take (M : Nat → Int) (E : List (Nat × Nat × Nat)) (k : Nat) (h : k < E.length) : putsM M (E.take (k + 1)) = setW (putsM M (E.take k)) (16 * E[k].1 + E[k].2.1) (wordI true false true E[k].2.2) := by
  unfold putsM
  rw [List.take_succ_eq_append_getElem h, List.foldl_append]; rfl

/-- The place where the next entry comes, in a variable. -/
structure LastIn (w : World) (lb F K : Nat) : Prop where
  c0 : w.cell? ⟨lb, 0, none⟩ = some (.int .i64 F)
  c1 : w.cell? ⟨lb, 1, none⟩ = some (.int .i64 K)
  f0 : w.frozen? ⟨lb, 0, none⟩ = false
  f1 : w.frozen? ⟨lb, 1, none⟩ = false
  lt : lb < w.heap.size
theorem LastIn.heap {w w' : World} {lb F K : Nat} (h : LastIn w lb F K) (e : w'.heap[lb]? = w.heap[lb]?) : LastIn w' lb F K :=
  ⟨(cell_of_heap e _).trans h.c0, (cell_of_heap e _).trans h.c1, (frozen_of_heap e _).trans h.f0, (frozen_of_heap e _).trans h.f1, heap_ltO e h.lt⟩
def lastP (lb F K : Nat) : HP := ownP (fun k => k = lb) (fun w => LastIn w lb F K)
theorem loc_last (lb F K : Nat) : Loc (fun k => k = lb) (fun w => LastIn w lb F K) := fun _ _ h e => h.heap (e lb rfl)
theorem LastIn.set {w : World} {lb F K : Nat} (h : LastIn w lb F K) (F' K' : Nat) : LastIn ((w.setCell ⟨lb, 0, none⟩ (.int .i64 F')).setCell ⟨lb, 1, none⟩ (.int .i64 K')) lb F' K' := by
  have c0 := h.c0; have c1 := h.c1; have f0 := h.f0; have f1 := h.f1; have lt := h.lt
  exact ⟨by simp [go_sem, c0], by simp [go_sem, c1], by simp [go_sem, f0], by simp [go_sem, f1], by simpa using lt⟩

def clo8 (sb : Nat) (x : Nat × Nat) : Value := .func (.func 69) #[] #[.pointer (some ⟨sb, 0, none⟩), .pointer (some ⟨x.1, 0, none⟩), .pointer (some ⟨x.2, 0, none⟩)]
/-- The entries that are put later, as functions. -/
structure PutsIn (w : World) (sb : Nat) (v : Value) (A : List (Nat × Nat)) (E : List (Nat × Nat × Nat)) : Prop where
  row : w.ownsRow 0 143 1 v A.length (A.map (clo8 sb))
  len : A.length = E.length
  ne : ∀ j (h : j < A.length), v.ownBlock ≠ some A[j].1 ∧ v.ownBlock ≠ some A[j].2
  env : ∀ j (h : j < A.length) (h' : j < E.length), w.cell? ⟨A[j].1, 0, none⟩ = some (.int .i64 E[j].1) ∧ w.cell? ⟨A[j].1, 1, none⟩ = some (.int .i64 E[j].2.1) ∧ w.cell? ⟨A[j].2, 0, none⟩ = some (.int .i64 E[j].2.2) ∧ A[j].1 < w.heap.size ∧ A[j].2 < w.heap.size
def putsS (v : Value) (A : List (Nat × Nat)) (k : Nat) : Prop := v.ownBlock = some k ∨ ∃ j, ∃ h : j < A.length, k = A[j].1 ∨ k = A[j].2
theorem PutsIn.heap {w w' : World} {sb : Nat} {v : Value} {A : List (Nat × Nat)} {E : List (Nat × Nat × Nat)} (h : PutsIn w sb v A E) (e : ∀ k, putsS v A k → w'.heap[k]? = w.heap[k]?) : PutsIn w' sb v A E :=
  ⟨own_heap' h.row fun k hk => e k (Or.inl hk), h.len, h.ne, fun j hj hj' => by
    obtain ⟨a, b, c, d, f⟩ := h.env j hj hj'
    have e1 := e _ (Or.inr ⟨j, hj, Or.inl rfl⟩)
    have e2 := e _ (Or.inr ⟨j, hj, Or.inr rfl⟩)
    exact ⟨(cell_of_heap e1 _).trans a, (cell_of_heap e1 _).trans b, (cell_of_heap e2 _).trans c, heap_ltO e1 d, heap_ltO e2 f⟩⟩
theorem PutsIn.slt {w : World} {sb : Nat} {v : Value} {A : List (Nat × Nat)} {E : List (Nat × Nat × Nat)} (h : PutsIn w sb v A E) : ∀ k, putsS v A k → k < w.heap.size := fun k hk => by
  rcases hk with hk | ⟨j, hj, rfl | rfl⟩
  · exact (World.ownsRow.lt h.row k hk).2
  · exact (h.env j hj (by rw [← h.len]; exact hj)).2.2.2.1
  · exact (h.env j hj (by rw [← h.len]; exact hj)).2.2.2.2
def putsP (sb : Nat) (v : Value) (A : List (Nat × Nat)) (E : List (Nat × Nat × Nat)) : HP := ownP (putsS v A) (fun w => PutsIn w sb v A E)
theorem loc_puts (sb : Nat) (v : Value) (A : List (Nat × Nat)) (E : List (Nat × Nat × Nat)) : Loc (putsS v A) (fun w => PutsIn w sb v A E) := fun _ _ h e => h.heap e
theorem puts_nil (w : World) (sb : Nat) : PutsIn w sb (.slice none 0 0) [] [] := ⟨World.ownsRow_nil _ _ _ _, rfl, fun j h => by simp at h, fun j h => by simp at h⟩
theorem infoFn : (Try.prog.info? 143).map (fun i => (i.zero, i.size, i.bytes)) = some (some .nilFunc, 1, 8) := by kernel_rfl
theorem lit_srcF (w : World) (v : Value) (t : TypeId) : Src (w.alloc (.cells #[v] t)) 1 (.slice (some ⟨w.heap.size, 0, none⟩) 1 1) 1 [v] :=
  ⟨rfl, Or.inr ⟨w.heap.size, 0, 1, rfl, fun j u hj => by
    cases j with
    | zero => simp at hj; subst hj; simp [go_sem]
    | succ j => simp at hj, fun _ => by simp⟩⟩

theorem Got.parts {T0 : Nat → Prop} {H0 : List Blk} {F0 K0 : Nat} {idx : Nat → Nat} {k0 : Nat} {l : List Nat} {T : Nat → Prop} {H : List Blk} {E : List (Nat × Nat × Nat)} {F K : Nat} (h : Got T0 H0 F0 K0 idx k0 l T H E F K) :
    (l = [] ∧ T = T0 ∧ H = H0) ∨ ∃ l' T' H' c E' F' K', l = l' ++ [c] ∧ T = minusQ T' c 0 ∧ H = H' ++ [((c : Int), (0 : Int))] ∧ NextF T' c ∧ Got T0 H0 F0 K0 idx k0 l' T' H' E' F' K' := by
  cases h with
  | nil => exact Or.inl ⟨rfl, rfl, rfl⟩
  | snoc c h hc => exact Or.inr ⟨_, _, _, _, _, _, _, rfl, rfl, rfl, hc, h⟩
/-- What was made is given back: all is as it was. -/
theorem got_one {r0 n : Nat} {T0 : Nat → Prop} {H0 : List Blk} {F0 K0 : Nat} {idx : Nat → Nat} {k0 : Nat} {M : Nat → Int} {l : List Nat} {T : Nat → Prop} {H : List Blk} {E : List (Nat × Nat × Nat)} {F K : Nat} (h : Got T0 H0 F0 K0 idx k0 l T H E F K) (h1 : l.length ≤ 1) (hl : 0 < l.length) (hi : InvB r0 n T0 H0) (hz : ZeroF T0 M) (hinv : InvB r0 n T H) :
    InvB r0 n T H ∧ ((l[0] : Int), (0 : Int)) ∈ H ∧ (scrubW M l[0] 1 = M ∧ (0 + 1 = 0 → plusQ T l[0] 0 = T ∧ H.erase ((l[0] : Int), (0 : Int)) = H) ∧ (0 + 1 = l.length → plusQ T l[0] 0 = T0 ∧ H.erase ((l[0] : Int), (0 : Int)) = H0)) := by
  rcases h.parts with ⟨rfl, _, _⟩ | ⟨l', T', H', c, E', F', K', rfl, rfl, rfl, hc, h'⟩
  · simp at hl
  · obtain rfl : l' = [] := List.eq_nil_of_length_eq_zero (by rw [List.length_append, List.length_singleton] at h1; omega)
    rcases h'.parts with ⟨_, rfl, rfl⟩ | ⟨l'', _, _, c', _, _, _, e, _⟩
    · refine ⟨hinv, by simp, ?_, fun e => by omega, fun _ => ⟨?_, ?_⟩⟩
      · exact scrub_free hz hc.free
      · exact plus_minus hc.free
      · exact erase_last (inv_fresh hi c hc.free 0)
    · simp at e
/-- One more entry that is put later. -/
theorem PutsIn.more {w w' : World} {sb : Nat} {v v' : Value} {A : List (Nat × Nat)} {E : List (Nat × Nat × Nat)} {ab fb F K c : Nat} (h : PutsIn w sb v A E) (hk : ∀ k, k < w.heap.size → v.ownBlock ≠ some k → w'.heap[k]? = w.heap[k]?) (hsz : w.heap.size ≤ w'.heap.size)
    (ho : w'.ownsRow 0 143 1 v' (A.length + 1) (A.map (clo8 sb) ++ [clo8 sb (ab, fb)])) (hv : v'.ownBlock = v.ownBlock ∨ ∃ k, v'.ownBlock = some k ∧ w.heap.size ≤ k ∧ k ≠ ab ∧ k ≠ fb) (ha : w.heap.size ≤ ab) (hf : w.heap.size ≤ fb) (hal : ab < w'.heap.size) (hfl : fb < w'.heap.size)
    (c0 : w'.cell? ⟨ab, 0, none⟩ = some (.int .i64 F)) (c1 : w'.cell? ⟨ab, 1, none⟩ = some (.int .i64 K)) (c2 : w'.cell? ⟨fb, 0, none⟩ = some (.int .i64 c)) : PutsIn w' sb v' (A ++ [(ab, fb)]) (E ++ [(F, K, c)]) := by
  have hlen := h.len
  refine ⟨?_, by simp [hlen], fun j hj => ?_, fun j hj hj' => ?_⟩
  · rw [List.length_append, List.length_singleton, List.map_append, List.map_singleton]; exact ho
  · by_cases e : j < A.length
    · rw [List.getElem_append_left e]
      have hlt := h.env j e (by omega)
      rcases hv with hv | ⟨k, hv, h1, h2, h3⟩
      · rw [hv]; exact h.ne j e
      · rw [hv]
        exact ⟨fun e2 => by have := Option.some.inj e2; omega, fun e2 => by have := Option.some.inj e2; omega⟩
    · have e2 : j = A.length := by simp at hj; omega
      subst e2
      rw [List.getElem_append_right (Nat.le_refl _)]
      simp only [Nat.sub_self, List.getElem_singleton]
      rcases hv with hv | ⟨k, hv, h1, h2, h3⟩
      · rw [hv]
        exact ⟨fun e2 => by have := (World.ownsRow.lt h.row _ e2).2; omega, fun e2 => by have := (World.ownsRow.lt h.row _ e2).2; omega⟩
      · rw [hv]
        exact ⟨fun e2 => h2 (Option.some.inj e2), fun e2 => h3 (Option.some.inj e2)⟩
  · by_cases e : j < A.length
    · have e' : j < E.length := by omega
      rw [List.getElem_append_left e, List.getElem_append_left e']
      obtain ⟨a0, a1, a2, a3, a4⟩ := h.env j e e'
      obtain ⟨n1, n2⟩ := h.ne j e
      have e1 := hk _ a3 n1
      have e2 := hk _ a4 n2
      exact ⟨(cell_of_heap e1 _).trans a0, (cell_of_heap e1 _).trans a1, (cell_of_heap e2 _).trans a2, by omega, by omega⟩
    · have e2 : j = A.length := by simp at hj; omega
      subst e2
      have eA : (A ++ [(ab, fb)])[A.length] = (ab, fb) := by simp
      have eE : (E ++ [(F, K, c)])[A.length] = (F, K, c) := by simp [hlen]
      rw [eA, eE]
      exact ⟨c0, c1, c2, hal, hfl⟩
theorem Sat.made_new {g w : World} {R : HP} (h : Sat g w R) (ps : Nat) : Sat g (w.alloc (.cells #[.pointer (some ⟨ps, 0, none⟩), .slice none 0 0] 138)) (madeP w.heap.size ps [] * R) := by
  refine Sat.ex' (.slice none 0 0) (h.new ((Below.refl _ _).alloc (Nat.le_refl _) _) ⟨by simp [go_sem], by simp [go_sem], by simp [go_sem], RowI.nil _ _, by simp [Value.ownBlock], by simp⟩ (loc_made _ _ _ _) (fun k hk => ?_) (fun k hk => ?_))
  · rcases hk with rfl | hk
    · exact Nat.le_refl _
    · simp [Value.ownBlock] at hk
  · rcases hk with rfl | hk
    · simp
    · simp [Value.ownBlock] at hk
theorem Sat.last_new {g w : World} {R : HP} (h : Sat g w R) (F K : Nat) : Sat g (w.alloc (.cells #[.int .i64 F, .int .i64 K] 140)) (lastP w.heap.size F K * R) :=
  h.new ((Below.refl _ _).alloc (Nat.le_refl _) _) ⟨by simp [go_sem], by simp [go_sem], by simp [go_sem], by simp [go_sem], by simp⟩ (loc_last _ _ _) (fun k hk => by rw [hk]; exact Nat.le_refl _) (fun k hk => by rw [hk]; simp)
theorem Sat.puts_new {g w : World} {R : HP} (h : Sat g w R) (sb : Nat) : Sat g w (putsP sb (.slice none 0 0) [] [] * R) := by
  refine h.new (Below.refl _ _) (puts_nil w sb) (loc_puts _ _ _ _) (fun k hk => ?_) (fun k hk => ?_)
  · rcases hk with hk | ⟨j, hj, _⟩
    · simp [Value.ownBlock] at hk
    · simp at hj
  · rcases hk with hk | ⟨j, hj, _⟩
    · simp [Value.ownBlock] at hk
    · simp at hj

theorem s_map_arg (ps pm pb r n : Nat) (M : Nat → Int) (p fr : Int) (wr : Bool) (g w : World) (R : HP) (h : Sat g w (spP ps pm pb r * (memP pm n M * R))) (hb : ¬ ((0 ≤ p ∧ p < 4096) ∧ (0 ≤ fr ∧ fr < n))) :
    Calls Try.prog 34 #[.pointer (some ⟨ps, 0, none⟩), .int .i64 p, .int .i64 fr, .bool wr] w fun e w' => e = .returned (.int .i64 1) ∧ Below w.heap.size w w' := by
  have hF : Hid (∀ w', Below w.heap.size w w' → Calls Try.prog 62 #[.pointer (some ⟨pm, 0, none⟩)] w' fun e w'' => e = .returned (.int .i64 n) ∧ w' = w'') := Lib.hid fun w' hb => s_frames pm n M g w' _ (h.below hb).swap
  have hs := h.sp
  have s0 := hs.c0
  have hlt := hs.lt
  have hne : ¬ ps = w.heap.size := by omega
  by_cases hp : 0 ≤ p ∧ p < 4096
  · have hd : (decide (0 ≤ p) && decide (p < 4096)) = true := by simp [hp]
    by_cases hf : fr < 0
    · go_enter Try.func34, Try.ntmps34
      go_wp2_with (fail)
      refine (is_any p _).mono ?_
      rintro e w1 ⟨rfl, rfl⟩
      rw [hd]
      go_wp2_with (fail)
      go_ret
      exact ⟨rfl, by repeat (first | with_reducible exact Below.refl _ _ | with_reducible assumption | with_reducible refine below_drewN ?_ _ | with_reducible refine Below.alloc ?_ (by simp <;> omega) _)⟩
    · have hf2 : (n : Int) ≤ fr := by omega
      go_enter Try.func34, Try.ntmps34
      go_wp2_with (fail)
      refine (is_any p _).mono ?_
      rintro e w1 ⟨rfl, rfl⟩
      rw [hd]
      go_wp2_with (fail)
      refine (hF.out _ (by repeat (first | with_reducible exact Below.refl _ _ | with_reducible assumption | with_reducible refine below_drewN ?_ _ | with_reducible refine Below.alloc ?_ (by simp <;> omega) _))).mono ?_
      rintro e w1 ⟨rfl, rfl⟩
      go_wp2_with (fail)
      go_ret
      exact ⟨rfl, by repeat (first | with_reducible exact Below.refl _ _ | with_reducible assumption | with_reducible refine below_drewN ?_ _ | with_reducible refine Below.alloc ?_ (by simp <;> omega) _)⟩
  · have hd : (decide (0 ≤ p) && decide (p < 4096)) = false := by simp; omega
    go_enter Try.func34, Try.ntmps34
    go_wp2_with (fail)
    refine (is_any p _).mono ?_
    rintro e w1 ⟨rfl, rfl⟩
    rw [hd]
    go_wp2_with (fail)
    go_ret
    exact ⟨rfl, by repeat (first | with_reducible exact Below.refl _ _ | with_reducible assumption | with_reducible refine below_drewN ?_ _ | with_reducible refine Below.alloc ?_ (by simp <;> omega) _)⟩

/-- What Map does where a page is of no frame yet. -/
inductive MapPost (g : World) (ps pm pb r n : Nat) (T0 : Nat → Prop) (H0 : List Blk) (M : Nat → Int) (F0 K0 : Nat) (idx : Nat → Nat) (k0 fr : Nat) (wr : Bool) (R : HP) (e : Ending) (w' : World) : Prop
  | full (l : List Nat) (T : Nat → Prop) (H : List Blk) (E : List (Nat × Nat × Nat)) (F K : Nat) (hg : Got T0 H0 F0 K0 idx k0 l T H E F K) (hl : k0 + l.length < 3) (hn : ∀ c, ¬ T c) (he : e = .returned (.int .i64 6)) (hs : Sat g w' (spP ps pm pb r * (midP pb pm T0 H0 * (memP pm n M * R))))
  | ok (l : List Nat) (T : Nat → Prop) (H : List Blk) (E : List (Nat × Nat × Nat)) (F K : Nat) (hg : Got T0 H0 F0 K0 idx k0 l T H E F K) (hl : k0 + l.length = 3) (he : e = .returned (.int .i64 0)) (hs : Sat g w' (spP ps pm pb r * (midP pb pm T H * (memP pm n (setW (putsM M E) (16 * F + K) (wordI true wr false fr)) * R))))

theorem s_map (ps pm pb r r0 n p fr : Nat) (T0 : Nat → Prop) (H0 : List Blk) (M : Nat → Int) (F0 K0 : Nat) (idx : Nat → Nat) (d : List (Int × Int)) (bw : Bool) (g w : World) (R : HP) (h : Sat g w (spP ps pm pb r * (midP pb pm T0 H0 * (memP pm n M * R))))
    (Q : WRes) (hQ : walkM M n r p = Q) (hQe : Q.e ≠ 0) (hQs : Q.st = d ++ [((F0 : Int), (K0 : Int))]) (hd2 : d.length < 3) (hp : p < 4096) (hfr : fr < n) (hn : n ≤ 256) (hi : InvB r0 n T0 H0) (hz : ZeroF T0 M) (hF : F0 < n) (hK : K0 < 16) (hx : ∀ i : Nat, i < 3 → idxI p i = (idx i : Int)) (hx16 : ∀ i, idx i < 16) :
    Calls Try.prog 34 #[.pointer (some ⟨ps, 0, none⟩), .int .i64 p, .int .i64 fr, .bool bw] w (MapPost g ps pm pb r n T0 H0 M F0 K0 idx (d.length + 1) fr bw R) := by
  have S0 := (h.pt_new (.cells #[.pointer (some ⟨ps, 0, none⟩)] 73)).perm (show _ = spP ps pm pb r * (memP pm n M * (pt w.heap.size (.cells #[.pointer (some ⟨ps, 0, none⟩)] 73) * (midP pb pm T0 H0 * R))) by ac_rfl)
  have hd : (decide (0 ≤ (p : Int)) && decide ((p : Int) < 4096)) = true := by simp; omega
  have gf : decide ((fr : Int) < 0) = false := by simp
  have gn : decide ((n : Int) ≤ fr) = false := by simp; omega
  have gn' : decide (n ≤ fr) = false := by simp; omega
  have g0 : (Q.e == 0) = false := by rw [beq_eq_false_iff_ne]; exact hQe
  obtain ⟨w1, hw1⟩ : ∃ w1, w1 = w.alloc (.cells #[.pointer (some ⟨ps, 0, none⟩)] 73) := ⟨_, rfl⟩
  obtain ⟨sb, hsb⟩ : ∃ sb, sb = w.heap.size := ⟨_, rfl⟩
  rw [← hw1, ← hsb] at S0
  have HS0 := Lib.hid S0
  have HI := Lib.hid hi
  have HZ := Lib.hid hz
  have HX := Lib.hid hx
  have HX16 := Lib.hid hx16
  have HQ := Lib.hid hQ
  have HQS := Lib.hid hQs
  have HW1 := Lib.hid hw1
  have HSB := Lib.hid hsb
  clear hi hz hx hx16 hQ hQe hQs hw1 hsb S0 h
  go_enter Try.func34, Try.ntmps34
  go_upto_region 1 with (fail)
  rw [← HW1.out, ← HSB.out]
  have S0 := HS0.out
  clear HW1 HSB HS0
  have hcs : ∀ w', Below w1.heap.size w1 w' → w'.cell? ⟨sb, 0, none⟩ = some (.pointer (some ⟨ps, 0, none⟩)) ∧ w'.cell? ⟨ps, 0, none⟩ = some (.pointer (some ⟨pm, 0, none⟩)) ∧ w'.cell? ⟨ps, 2, none⟩ = some (.int .i64 r) := fun w' hb => by
    have S1 := S0.below hb
    have e := (S1.perm (show _ = pt sb (.cells #[.pointer (some ⟨ps, 0, none⟩)] 73) * (spP ps pm pb r * (memP pm n M * (midP pb pm T0 H0 * R))) by ac_rfl)).pt_heap
    exact ⟨by simp [World.cell?, e], S1.sp.c0, S1.sp.c2⟩
  obtain ⟨q0, q1, q2⟩ := hcs w1 (Below.refl _ _)
  go_wp2_with (fail)
  refine (is_any p _).mono ?_
  rintro e w' ⟨rfl, rfl⟩
  rw [hd]
  go_wp2_with (fail)
  refine (s_frames pm n M g w1 _ S0.swap).mono ?_
  rintro e w' ⟨rfl, rfl⟩
  go_upto_region 3 with (fail)
  have HW : Hid (∀ w', Below w1.heap.size w1 w' → Calls Try.prog 66 #[.pointer (some ⟨pm, 0, none⟩), .int .i64 r, .int .i64 p] w' fun e w2 => ∃ v, e = .returned (.tuple #[.agg #[.bool Q.v, .bool Q.wr, .bool Q.tb, .int .i64 Q.fr], v, .int .i64 Q.e]) ∧ w2.ownsRow w'.heap.size 140 2 v Q.st.length (wCells Q.st) ∧ Below w'.heap.size w' w2) := Lib.hid fun w' hb => s_walk pm n M r p g w' _ (S0.below hb).swap Q HQ.out
  clear q0 q1 q2
  go_cut [9, 10, 11] (fun s6 s7 s8 wx => WalkCut w1 Q s6 s7 s8 wx)
  case first =>
    go_region_held3 (fun w' => w'.cell? ⟨sb, 0, none⟩ = some (.pointer (some ⟨ps, 0, none⟩)) ∧ w'.cell? ⟨ps, 0, none⟩ = some (.pointer (some ⟨pm, 0, none⟩)) ∧ w'.cell? ⟨ps, 2, none⟩ = some (.int .i64 r)) (exact hcs _ (by repeat (first | with_reducible exact Below.refl _ _ | with_reducible assumption | with_reducible refine below_drewN ?_ _ | with_reducible refine Below.drew ?_ | with_reducible refine Below.setCell ?_ (by first | omega | (simp <;> omega)) _ | with_reducible refine Below.alloc ?_ (by first | omega | (simp <;> omega)) _))) ((go_at_call 66; refine (HW.out _ (by repeat (first | with_reducible exact Below.refl _ _ | with_reducible assumption | with_reducible refine below_drewN ?_ _ | with_reducible refine Below.drew ?_ | with_reducible refine Below.setCell ?_ (by first | omega | (simp <;> omega)) _ | with_reducible refine Below.alloc ?_ (by first | omega | (simp <;> omega)) _))).mono ?_; rintro e w3 ⟨v, rfl, hown3, hb3'⟩; first | (have hb4 := un_drew hb3'; have he := (EnAt.new w1 false false false 0 34).below hb4 (by simp); have hb3 : Below w1.heap.size w1 w3 := (Below.alloc (Below.refl _ _) (Nat.le_refl _) _).trans (hb4.mono (by simp)); have hs3 := hb3.size; have g0 := he.c0; have g1 := he.c1; have g2 := he.c2; have g3 := he.c3; have g4 := he.f0; have g5 := he.f1; have g6 := he.f2; have g7 := he.f3) | (have hb3 : Below w1.heap.size w1 w3 := un_drew hb3'; have hs3 := hb3.size)))
    · go_wp2_with (fail)
      go_meet
      exact walkCut_new (by simp) hown3 hb3
    · go_wp2_with (fail)
      go_meet
      exact walkCut_put (by simp) hown3 he hb3
  case rest =>
    have hQS := HQS.out
    obtain ⟨be, rfl, rfl, hbe, he, ho, hb, hne⟩ := hcut
    have hbc := blk_cells (L := Q.st) ho
    obtain ⟨a, cap, rfl⟩ := own_slice ho
    have hl : Q.st.length = d.length + 1 := by rw [hQS]; simp
    rcases hbc with h0 | ⟨gb, cap', hv, hgl, _, hcell⟩
    · rw [hQS] at h0; simp at h0
    simp only [Value.slice.injEq] at hv
    obtain ⟨rfl, -, rfl⟩ := hv
    obtain ⟨c0, c1⟩ := hcell d.length (by omega)
    have hel : Q.st[d.length]'(by omega) = ((F0 : Int), (K0 : Int)) := by simp [hQS]
    rw [hel] at c0 c1
    obtain ⟨q0, _, _⟩ := hcs wc hb
    have S1 := S0.below hb
    obtain ⟨L, hL⟩ : ∃ L, L = d.length := ⟨_, rfl⟩
    rw [hl, ← hL]
    rw [← hL] at c0 c1 hd2
    have hw1 : IntKind.i64.wrap (((L + 1 : Nat) : Int) - 1) = (L : Int) := by rw [IntWalk.i64_in _ ⟨by omega, by omega⟩]; omega
    have hw1' : IntKind.i64.wrap ((L : Int) + 1 - 1) = (L : Int) := by rw [IntWalk.i64_in _ ⟨by omega, by omega⟩]; omega
    have il : (L : Int) < ((L + 1 : Nat) : Int) := by omega
    have il' : (L : Int) < (L : Int) + 1 := by omega
    have ha0 : gb < wc.heap.size := hgl
    have HL := Lib.hid hL
    clear hcell ho hne hl hel hQS HW hcs hd gf gn gn' hb hbe he S0 hL
    go_wp2_with (fail)
    clear hw1 hw1' il il' c0 c1 q0
    have S2 := ((S1.made_new ps).last_new F0 K0).puts_new sb
    obtain ⟨w5, hw5⟩ : ∃ w5, w5 = ((wc.alloc (.cells #[.pointer (some ⟨ps, 0, none⟩), .slice none 0 0] 138)).alloc (.cells #[.int .i64 F0, .int .i64 K0] 140)) := ⟨_, rfl⟩
    have hsz1 : (wc.alloc (.cells #[.pointer (some ⟨ps, 0, none⟩), .slice none 0 0] 138)).heap.size = wc.heap.size + 1 := by simp
    rw [hsz1, ← hw5] at S2
    rw [← hw5]
    obtain ⟨xb, hxb⟩ : ∃ xb, xb = wc.heap.size := ⟨_, rfl⟩
    rw [← hxb] at S2 ⊢
    obtain ⟨lb, hlb⟩ : ∃ lb, lb = xb + 1 := ⟨_, rfl⟩
    rw [← hlb] at S2 ⊢
    clear hw5 hsz1 hxb hlb ha0 hgl S1
    have S3 : Sat g w5 (putsP sb (.slice none 0 0) [] [] * (lastP lb F0 K0 * (madeP xb ps (([] : List Nat).map fun f : Nat => (f : Int)) * (spP ps pm pb r * (midP pb pm T0 H0 * (memP pm n M * (pt sb (.cells #[.pointer (some ⟨ps, 0, none⟩)] 73) * R))))))) := S2.perm (by simp only [List.map_nil]; ac_rfl)
    have HG0 : Hid (Got T0 H0 F0 K0 idx (L + 1) [] T0 H0 [] F0 K0) := Lib.hid .nil
    clear S2
    go_loopw [15, 16] (fun v lv wr => ∃ (l : List Nat) (T : Nat → Prop) (H : List Blk) (E : List (Nat × Nat × Nat)) (F K : Nat) (A : List (Nat × Nat)), lv = .int .i64 ((L : Int) + 1 + (l.length : Int)) ∧ L + 1 + l.length ≤ 3 ∧ Hid (Got T0 H0 F0 K0 idx (L + 1) l T H E F K) ∧
      Sat g wr (putsP sb v A E * (lastP lb F K * (madeP xb ps (l.map fun f : Nat => (f : Int)) * (spP ps pm pb r * (midP pb pm T H * (memP pm n M * (pt sb (.cells #[.pointer (some ⟨ps, 0, none⟩)] 73) * R)))))))) (fun _ lv _ => 3 - (intOf lv).toNat)
    case atStart => exact ⟨[], T0, H0, [], F0, K0, [], by simp, by simp; omega, HG0, S3⟩
    case round =>
      obtain ⟨l, T, H, E, F, K, A, rfl, hl3, HG, S4⟩ := hrel
      clear S3 HG0
      by_cases hlt : L + 1 + l.length < 3
      · have ilt : (L : Int) + 1 + (l.length : Int) < 3 := by omega
        go_wp2_with (fail)
        refine (s_made xb ps pm pb r r0 n (l.map fun f : Nat => (f : Int)) T H g _ (putsP sb _ A E * (lastP lb F K * (memP pm n M * (pt sb (.cells #[.pointer (some ⟨ps, 0, none⟩)] 73) * R)))) (S4.perm (by ac_rfl)) (HG.out.inv HI.out) (by simp; omega)).mono ?_
        intro e w6 hp
        cases hp with
        | no hn he hs =>
          subst he
          have hinv := HG.out.inv HI.out
          have hlen1 : l.length ≤ 1 := by omega
          obtain ⟨J, hJ⟩ : ∃ J : Nat → (Nat → Prop) → List Blk → (Nat → Int) → Prop, J = fun k T' H' M' => M' = M ∧ (k = 0 → T' = T ∧ H' = H) ∧ (k = l.length → T' = T0 ∧ H' = H0) := ⟨_, rfl⟩
          have j0 : J 0 T H M := by
            rw [hJ]
            refine ⟨rfl, fun _ => ⟨rfl, rfl⟩, fun e => ?_⟩
            have hl0 : l = [] := List.eq_nil_of_length_eq_zero e.symm
            rcases HG.out.parts with ⟨_, e1, e2⟩ | ⟨l', _, _, c, _, _, _, e1, _⟩
            · exact ⟨e1, e2⟩
            · rw [hl0] at e1; simp at e1
          have jn : ∀ k (hk : k < l.length) T' H' M', J k T' H' M' → InvB r0 n T' H' ∧ ((l[k] : Int), (0 : Int)) ∈ H' ∧ J (k + 1) (plusQ T' l[k] 0) (H'.erase ((l[k] : Int), (0 : Int))) (scrubW M' l[k] 1) := by
            rw [hJ]
            intro k hk T' H' M' ⟨e1, e2, _⟩
            obtain rfl : k = 0 := by omega
            obtain ⟨rfl, rfl⟩ := e2 rfl
            subst e1
            exact got_one HG.out hlen1 hk HI.out HZ.out hinv
          have HN := Lib.hid hn
          have HHS := Lib.hid hs
          clear hn hs hinv S4
          go_wp2_with (fail)
          refine (s_back xb ps pm pb r r0 n l T H M J jn j0 (by omega) g _ (putsP sb _ A E * (lastP lb F K * (pt sb (.cells #[.pointer (some ⟨ps, 0, none⟩)] 73) * R))) ((HHS.out.alloc _).perm (by ac_rfl))).mono ?_
          rintro e w7 ⟨rfl, T', H', M', hj, S7⟩
          rw [hJ] at hj
          obtain ⟨rfl, _, hj⟩ := hj
          obtain ⟨rfl, rfl⟩ := hj rfl
          clear jn j0 hJ HHS
          go_wp2_with (fail)
          go_ret
          refine .full l T H E F K (by rw [← HL.out]; exact HG.out) (by rw [← HL.out]; exact hlt) HN.out rfl ?_
          exact (S7.perm (show _ = madeP xb ps (l.map fun f : Nat => (f : Int)) * (putsP sb _ A E * (lastP lb F K * (pt sb (.cells #[.pointer (some ⟨ps, 0, none⟩)] 73) * (spP ps pm pb r * (midP pb pm T' H' * (memP pm n M' * R)))))) by ac_rfl)).right.right.right.right
        | yes c hc he hs =>
          subst he
          have HGN := Lib.hid (Got.snoc c HG.out hc)
          have S6 := hs.perm (show _ = putsP sb _ A E * (lastP lb F K * (madeP xb ps ((l.map fun f : Nat => (f : Int)) ++ [(c : Int)]) * (spP ps pm pb r * (midP pb pm (minusQ T c 0) (H ++ [((c : Int), (0 : Int))]) * (memP pm n M * (pt sb (.cells #[.pointer (some ⟨ps, 0, none⟩)] 73) * R)))))) by ac_rfl)
          clear hs hc S4
          go_upto_region 17 with (fail)
          obtain ⟨v, hv⟩ : ∃ v, v = u15 := ⟨_, rfl⟩
          rw [← hv] at S6 ⊢
          clear hv
          have hP : PutsIn w6 sb v A E := S6.inv
          have hLs : LastIn w6 lb F K := S6.swap.inv
          obtain ⟨w7, hw7⟩ : ∃ w7, w7 = w6.alloc (.cells #[.int .i64 c] 3) := ⟨_, rfl⟩
          obtain ⟨fb, hfb⟩ : ∃ fb, fb = w6.heap.size := ⟨_, rfl⟩
          have b67 : Below w6.heap.size w6 w7 := by rw [hw7]; repeat (first | with_reducible exact Below.refl _ _ | with_reducible assumption | with_reducible refine below_drewN ?_ _ | with_reducible refine Below.alloc ?_ (by simp <;> omega) _)
          have z7 : w7.heap.size = w6.heap.size + 1 := by rw [hw7]; simp
          have cf : w7.cell? ⟨fb, 0, none⟩ = some (.int .i64 c) := by rw [hw7, hfb]; simp [go_sem]
          rw [← hw7, ← hfb]
          have hL7 := hLs.heap (b67.block lb hLs.lt)
          have l0 := hL7.c0
          have l1 := hL7.c1
          have HW7 := Lib.hid hw7
          have HFB := Lib.hid hfb
          have HPU := Lib.hid hP
          have HLS := Lib.hid hLs
          clear hw7 hfb hP hLs hL7
          go_upto_region 18 with (fail)
          obtain ⟨w8, hw8⟩ : ∃ w8, w8 = w7.alloc (.cells #[.int .i64 F, .int .i64 K] 140) := ⟨_, rfl⟩
          obtain ⟨ab, hab⟩ : ∃ ab, ab = w6.heap.size + 1 := ⟨_, rfl⟩
          have b78 : Below w7.heap.size w7 w8 := by rw [hw8]; repeat (first | with_reducible exact Below.refl _ _ | with_reducible assumption | with_reducible refine below_drewN ?_ _ | with_reducible refine Below.alloc ?_ (by simp <;> omega) _)
          have z8 : w8.heap.size = w6.heap.size + 2 := by rw [hw8]; simp; omega
          have a0 : w8.cell? ⟨ab, 0, none⟩ = some (.int .i64 F) := by rw [hw8, hab, ← z7]; simp [go_sem]
          have a1 : w8.cell? ⟨ab, 1, none⟩ = some (.int .i64 K) := by rw [hw8, hab, ← z7]; simp [go_sem]
          have hfb := HFB.out
          have cf8 := keep b78 (by omega) cf
          rw [← hw8, ← hab]
          have b68 : Below w6.heap.size w6 w8 := b67.trans (b78.mono (by omega))
          obtain ⟨i0, hi0, hzz⟩ := Option.map_eq_some_iff.1 infoFn
          simp only [Prod.mk.injEq] at hzz
          obtain ⟨hz0, hz1, hz2⟩ := hzz
          have HIB := Lib.hid (⟨hi0, hz0, hz1, hz2⟩ : _ ∧ _ ∧ _ ∧ _)
          clear hi0 hz0 hz1 hz2
          have HO := Lib.hid ((own_below HPU.out.row b68).alloc (.cells #[clo8 sb (ab, fb)] 143))
          have hAl : A.length = l.length := by have := HG.out.len; have := HPU.out.len; omega
          have HZ8 := Lib.hid z8
          have HZ7 := Lib.hid z7
          have HAB := Lib.hid hab
          have HW8 := Lib.hid hw8
          have HFF := Lib.hid hfb
          have HCS := Lib.hid (⟨cf8, a0, a1⟩ : _ ∧ _ ∧ _)
          clear hw8 hab z8 z7 hfb cf cf8 a0 a1 l0 l1
          simp only [clo8] at HO
          go_wp2_with (at_builtin; go_loud (refine list_app (by rfl) _ _ _ (by rfl) 0 143 i0 .nilFunc 1 8 Try.underlying141 HIB.out.1 HIB.out.2.1 HIB.out.2.2.1 HIB.out.2.2.2 rfl (by decide) _ _ _ (by rfl) HO.out _ 1 [clo8 sb (ab, fb)] (by rfl) (lit_srcF _ _ _) (by intro u hu; simp at hu; subst hu; rfl) (maxLen_geB (by omega)) (by omega) (by simp) ?_; refine fun v' w10 ha => Hold.out ?_))
          refine ⟨?_⟩
          have hz8 := HZ8.out
          have hz9 : (w8.alloc (.cells #[clo8 sb (ab, fb)] 143)).heap.size = w6.heap.size + 3 := by simp; omega
          have hvlt : ∀ k, v.ownBlock = some k → k < w6.heap.size := fun k hk => (World.ownsRow.lt HPU.out.row k hk).2
          have b69 : Below w6.heap.size w6 (w8.alloc (.cells #[clo8 sb (ab, fb)] 143)) := b68.alloc (by omega) _
          simp only [clo8] at hz9 b69
          have hk6 : ∀ k, k < w6.heap.size → v.ownBlock ≠ some k → w10.heap[k]? = w6.heap[k]? := fun k h1 h2 => (ha.grown.block k (by omega) (fun e => h2 e.symm)).trans (b69.block k h1)
          have hk8 : ∀ k, w6.heap.size ≤ k → k < w8.heap.size → w10.heap[k]? = w8.heap[k]? := fun k h1 h2 => by
            rw [ha.grown.block k (by omega) (fun e => by have := hvlt k e.symm; omega), Below.heap_alloc _ _ _ h2]
          have hab := HAB.out
          have hfb := HFF.out
          obtain ⟨cf8, a0, a1⟩ := HCS.out
          have ea := hk8 ab (by omega) (by omega)
          have ef := hk8 fb (by omega) (by omega)
          have cfx : w10.cell? ⟨fb, 0, none⟩ = some (.int .i64 c) := (cell_of_heap ef 0).trans cf8
          have hsz10 := ha.grown.size
          have hmore : PutsIn w10 sb v' (A ++ [(ab, fb)]) (E ++ [(F, K, c)]) := HPU.out.more hk6 (by omega) ha.own (by
            rcases ha.at_ with h1 | h1
            · exact Or.inl h1
            · exact Or.inr ⟨_, h1, by omega, by omega, by omega⟩) (by omega) (by omega) (by omega) (by omega) ((cell_of_heap ea 0).trans a0) ((cell_of_heap ea 1).trans a1) cfx
          have ht : Touch (putsS v A) w6 w10 := Touch.grown (Touch.of_below b69) ha.grown (fun k hk => Or.inl (Or.inl hk))
          have S10 := S6.touch ht hmore (loc_puts _ _ _ _) (fun k hk => by
            rcases hk with hk | ⟨j, hj, hk⟩
            · rcases ha.at_ with h1 | h1
              · exact Or.inl (Or.inl (h1 ▸ hk))
              · rw [h1] at hk; have := Option.some.inj hk; exact Or.inr (by omega)
            · by_cases e : j < A.length
              · rw [List.getElem_append_left e] at hk
                exact Or.inl (Or.inr ⟨j, e, hk⟩)
              · have e2 : j = A.length := by simp at hj; omega
                subst e2
                have eA : (A ++ [(ab, fb)])[A.length] = (ab, fb) := by simp
                rw [eA] at hk
                rcases hk with hk | hk <;> exact Or.inr (by simp at hk; omega)) hmore.slt
          have hL10 : LastIn w10 lb F K := S10.swap.inv
          have S11 : Sat g ((w10.setCell ⟨lb, 0, none⟩ (.int .i64 c)).setCell ⟨lb, 1, none⟩ (.int .i64 (idx (L + 1 + l.length)))) (lastP lb c (idx (L + 1 + l.length)) * (putsP sb v' (A ++ [(ab, fb)]) (E ++ [(F, K, c)]) * (madeP xb ps ((l.map fun f : Nat => (f : Int)) ++ [(c : Int)]) * (spP ps pm pb r * (midP pb pm (minusQ T c 0) (H ++ [((c : Int), (0 : Int))]) * (memP pm n M * (pt sb (.cells #[.pointer (some ⟨ps, 0, none⟩)] 73) * R))))))) :=
            S10.swap.touch (S := fun k => k = lb) (Touch.setCell (S := fun k => k = lb) (Touch.setCell (S := fun k => k = lb) (Touch.refl _ _) (Or.inl rfl) _) (Or.inl rfl) _) (hL10.set c (idx (L + 1 + l.length))) (loc_last _ _ _) (fun k hk => Or.inl hk) (fun k hk => by rw [hk]; simpa using hL10.lt)
          have l0 := hL10.c0; have l1 := hL10.c1; have lf0 := hL10.f0; have lf1 := hL10.f1
          have hix : idxI (p : Int) ((L : Int) + 1 + (l.length : Int)) = (idx (L + 1 + l.length) : Int) := by have := HX.out (L + 1 + l.length) hlt; push_cast at this; exact this
          obtain ⟨y, hy⟩ : ∃ y, idx (L + 1 + l.length) = y := ⟨_, rfl⟩
          rw [hy] at S11 hix HGN
          have HIX := Lib.hid hix
          have HS11 := Lib.hid S11
          clear hmore ht hk6 hk8 ea ef ha S6 S10 hL10 hvlt b69 b68 b67 b78 cf8 a0 a1 hz9 hz8 hab hfb S11 hix hy HO HW7 HW8 HCS HPU HLS
          go_wp2_with (fail)
          refine (index_yes p _ _ (by omega) (by omega) (by omega) (by omega)).mono ?_
          rintro e w' ⟨rfl, rfl⟩
          rw [HIX.out]
          go_wp2_with (fail)
          go_roundw
          case rel => exact ⟨l ++ [c], _, _, _, c, y, _, congrArg (Value.int .i64) (by simp; omega), by simp; omega, HGN, HS11.out.perm (by rw [List.map_append, List.map_singleton]; ac_rfl)⟩
          case measure => simp [intOf]; omega
      · have hl3' : L + 1 + l.length = 3 := by omega
        obtain ⟨gT, gF, gK, gE⟩ := HG.out.bd hF hK HX16.out (inv_T HI.out)
        have hlen := HG.out.len
        have hP : PutsIn wr sb _ A E := S4.inv
        have hAE := hP.len
        obtain ⟨va, vc, rfl⟩ := own_slice hP.row
        have HGE := Lib.hid gE
        have HAE := Lib.hid hAE
        have HL3 := Lib.hid hl3'
        have hA2 : A.length ≤ 2 := by omega
        have S5 : Sat g wr (putsP sb (.slice va A.length vc) A E * (lastP lb F K * (madeP xb ps (l.map fun f : Nat => (f : Int)) * (spP ps pm pb r * (midP pb pm T H * (memP pm n (putsM M (E.take 0)) * (pt sb (.cells #[.pointer (some ⟨ps, 0, none⟩)] 73) * R))))))) := by
          rw [List.take_zero]; exact S4
        have g3 : (3 : Int) ≤ (L : Int) + 1 + (l.length : Int) := by omega
        clear hP S4 gE hAE hl3' hlen hl3 hlt
        go_wp2_with (fail)
        obtain ⟨wo, rfl⟩ : ∃ wo : World, wo = wr := ⟨_, rfl⟩
        go_loopw [100] (fun i wx => ∃ k : Nat, k ≤ A.length ∧ i = .int .i64 k ∧ Sat g wx (putsP sb (.slice va A.length vc) A E * (lastP lb F K * (madeP xb ps (l.map fun f : Nat => (f : Int)) * (spP ps pm pb r * (midP pb pm T H * (memP pm n (putsM M (E.take k)) * (pt sb (.cells #[.pointer (some ⟨ps, 0, none⟩)] 73) * R)))))))) (fun i _ => A.length - (intOf i).toNat)
        case atStart => exact ⟨0, by omega, rfl, S5⟩
        case round =>
          obtain ⟨k, hk, rfl, S6⟩ := hrel
          clear S5
          have hP : PutsIn wr sb _ A E := S6.inv
          have hsb : wr.cell? ⟨sb, 0, none⟩ = some (.pointer (some ⟨ps, 0, none⟩)) := by
            have e := (S6.perm (show _ = pt sb (.cells #[.pointer (some ⟨ps, 0, none⟩)] 73) * (putsP sb (.slice va A.length vc) A E * (lastP lb F K * (madeP xb ps (l.map fun f : Nat => (f : Int)) * (spP ps pm pb r * (midP pb pm T H * (memP pm n (putsM M (E.take k)) * R)))))) by ac_rfl)).pt_heap
            simp [World.cell?, e]
          by_cases hkA : k < A.length
          · have ik : (k : Int) < A.length := by omega
            have hkE : k < E.length := by have := HAE.out; omega
            obtain ⟨b0, b1, b2⟩ := HGE.out _ (List.getElem_mem hkE)
            obtain ⟨e0, e1, e2, _, _⟩ := hP.env k hkA hkE
            have hrow := hP.row
            rcases hrow.2 with ⟨_, h2⟩ | ⟨gp, cap2, cur, hv, _, hh, _⟩
            · omega
            simp only [Value.slice.injEq] at hv
            obtain ⟨rfl, -, rfl⟩ := hv
            have hcell : wr.cell? ⟨gp, k, none⟩ = some (clo8 sb A[k]) := by
              rw [World.ownsRow.cellAt hrow k (by omega)]; simp [hkA]
            simp only [clo8] at hcell
            have S7 := S6.perm (show _ = spP ps pm pb r * (memP pm n (putsM M (E.take k)) * (putsP sb (.slice (some ⟨gp, 0, none⟩) A.length vc) A E * (lastP lb F K * (madeP xb ps (l.map fun f : Nat => (f : Int)) * (midP pb pm T H * (pt sb (.cells #[.pointer (some ⟨ps, 0, none⟩)] 73) * R)))))) by ac_rfl)
            have hput := put_later sb A[k].1 A[k].2 ps pm pb r n E[k].1 E[k].2.1 E[k].2.2 (putsM M (E.take k)) g wr _ S7 hsb e0 e1 e2 b0 b1 (by omega)
            rw [← putsM_take M E k hkE] at hput
            have HPT := Lib.hid hput
            generalize A[k] = x at hcell HPT
            obtain ⟨xa, xf⟩ := x
            clear hput S7 S6 hrow hh hP e0 e1 e2 b0 b1 b2 hsb
            go_wp2_with (fail)
            refine HPT.out.mono ?_
            rintro e w7 ⟨rfl, S8⟩
            go_wp2_with (fail)
            go_roundw
            case rel => first | exact ⟨k + 1, by omega, by go_num, S8.perm (by ac_rfl)⟩ | ((repeat apply Exists.intro); exact ⟨⟨k + 1, by omega, by go_num, S8.perm (by ac_rfl)⟩, rfl⟩)
            case measure => simp [intOf]; omega
          · obtain rfl : k = A.length := by omega
            have hLs : LastIn wr lb F K := S6.swap.inv
            have l0 := hLs.c0
            have l1 := hLs.c1
            rw [HAE.out, List.take_length] at S6
            have S7 := S6.perm (show _ = spP ps pm pb r * (memP pm n (putsM M E) * (putsP sb (.slice va E.length vc) A E * (lastP lb F K * (madeP xb ps (l.map fun f : Nat => (f : Int)) * (midP pb pm T H * (pt sb (.cells #[.pointer (some ⟨ps, 0, none⟩)] 73) * R)))))) by ac_rfl)
            have s0 := S7.sp.c0
            have S8 := S7.swap
            clear hP hLs S6 S7
            go_upto_region 28 with (fail)
            have m0 : ∀ z : Wc (fun w' => wr.drew = w'), z.w.cell? ⟨sb, 0, none⟩ = some (.pointer (some ⟨ps, 0, none⟩)) := fun z => by rw [← z.h]; exact hsb
            have m1 : ∀ z : Wc (fun w' => wr.drew = w'), z.w.cell? ⟨ps, 0, none⟩ = some (.pointer (some ⟨pm, 0, none⟩)) := fun z => by rw [← z.h]; exact s0
            have m2 : ∀ z : Wc (fun w' => wr.drew = w'), z.w.cell? ⟨lb, 0, none⟩ = some (.int .i64 F) := fun z => by rw [← z.h]; exact l0
            have m3 : ∀ z : Wc (fun w' => wr.drew = w'), z.w.cell? ⟨lb, 1, none⟩ = some (.int .i64 K) := fun z => by rw [← z.h]; exact l1
            clear hsb s0 l0 l1
            (refine region_tail (fun w' => wr.drew = w') 11 (by kernel_rfl) (by kernel_rfl) (rfl) ?_; intro _; simp only [List.take_succ_cons, List.take_zero, List.drop_succ_cons, List.drop_zero]; (repeat (first | go_big_quiet_step ((fail)) | quiet_step ((fail)))); refine wpQuiet_nil ?_; intro wz hz)
            subst hz
            clear m0 m1 m2 m3
            go_wp2_with (fail)
            refine (s_wput pm n (putsM M E) F K true bw false fr g _ _ S8.drew).mono ?_
            rintro e w7 ⟨rfl, S9⟩
            obtain ⟨p1, p2⟩ := put_nat (M := putsM M E) gF gK (right_pg (f := fr) bw (by omega))
            rw [p2] at S9
            rw [p1]
            clear p1 p2 S8
            go_wp2_with (fail)
            go_ret
            refine .ok l T H E F K (by rw [← HL.out]; exact HG.out) (by rw [← HL.out]; exact HL3.out) rfl ?_
            exact (S9.perm (show _ = putsP sb (.slice va E.length vc) A E * (lastP lb F K * (madeP xb ps (l.map fun f : Nat => (f : Int)) * (pt sb (.cells #[.pointer (some ⟨ps, 0, none⟩)] 73) * (spP ps pm pb r * (midP pb pm T H * (memP pm n (setW (putsM M E) (16 * F + K) (wordI true bw false fr)) * R)))))) by ac_rfl)).right.right.right.right

end Go.Proofs.Yteehghjdifbjbaa

namespace Go.Proofs.Yteehghjdifbjbaa
set_option linter.unusedSimpArgs false
set_option linter.unusedVariables false
set_option maxRecDepth 100000
open Go.RowKit
set_option maxHeartbeats 4000000

/-- A list of ints that is gathered in a variable. -/
structure OutIn (w : World) (ob : Nat) (v : Value) (L : List Int) : Prop where
  c0 : w.cell? ⟨ob, 0, none⟩ = some v
  f0 : w.frozen? ⟨ob, 0, none⟩ = false
  row : RowI w 0 v L
  ne : v.ownBlock ≠ some ob
  lt : ob < w.heap.size
theorem OutIn.heap {w w' : World} {ob : Nat} {v : Value} {L : List Int} (h : OutIn w ob v L) (e : ∀ k, madeS ob v k → w'.heap[k]? = w.heap[k]?) : OutIn w' ob v L :=
  ⟨(cell_of_heap (e ob (Or.inl rfl)) _).trans h.c0, (frozen_of_heap (e ob (Or.inl rfl)) _).trans h.f0, own_heap' h.row fun k hk => e k (Or.inr hk), h.ne, heap_ltO (e ob (Or.inl rfl)) h.lt⟩
theorem OutIn.slt {w : World} {ob : Nat} {v : Value} {L : List Int} (h : OutIn w ob v L) : ∀ k, madeS ob v k → k < w.heap.size := fun k hk => by
  rcases hk with rfl | hk
  · exact h.lt
  · exact (World.ownsRow.lt h.row k hk).2
def outP (ob : Nat) (L : List Int) : HP := exP fun v : Value => ownP (madeS ob v) (fun w => OutIn w ob v L)
theorem loc_out (ob : Nat) (v : Value) (L : List Int) : Loc (madeS ob v) (fun w => OutIn w ob v L) := fun _ _ h e => h.heap e
/-- One more is gathered. -/
theorem out_more {g w w5 : World} {ob : Nat} {v v' : Value} {L : List Int} {R : HP} {x : Int} {o : Obj} (h : Sat g w (ownP (madeS ob v) (fun w => OutIn w ob v L) * R)) (ha : Appd (w.alloc o) w5 0 3 1 v v' (L.length + 1) (iCells L ++ [.int .i64 x])) :
    (∃ a c, v' = .slice a (L.length + 1) c) ∧ w5.cell? ⟨ob, 0, none⟩ = some v ∧ w5.frozen? ⟨ob, 0, none⟩ = false ∧ Sat g (w5.setCell ⟨ob, 0, none⟩ v') (outP ob (L ++ [x]) * R) := by
  have hm := h.inv
  have hlt := hm.lt
  have hx5 : w5.heap[ob]? = w.heap[ob]? := by
    rw [ha.grown.block ob (by simp; omega) (fun e => hm.ne e.symm), Below.heap_alloc _ _ _ hlt]
  have hne' : v'.ownBlock ≠ some ob := fun e => by
    rcases ha.at_ with h1 | h1
    · exact hm.ne (h1 ▸ e)
    · rw [h1] at e; simp at e; omega
  have d1 : w5.cell? ⟨ob, 0, none⟩ = some v := (cell_of_heap hx5 0).trans hm.c0
  have z1 : w5.frozen? ⟨ob, 0, none⟩ = false := (frozen_of_heap hx5 0).trans hm.f0
  refine ⟨own_slice ha.own, d1, z1, ?_⟩
  have hmade : OutIn (w5.setCell ⟨ob, 0, none⟩ v') ob v' (L ++ [x]) := by
    refine ⟨World.cell?_setCell_same' _ _ _ (by rw [d1]; rfl), by rw [World.frozen?_setCell]; exact z1, ?_, hne', ?_⟩
    · have ho := ha.own
      have e1 : iCells L ++ [.int .i64 x] = iCells (L ++ [x]) := by simp [iCells]
      have e2 : L.length + 1 = (L ++ [x]).length := by simp
      rw [e1, e2] at ho
      exact own_heap' ho fun k hk => Below.heap_setCell _ _ _ _ (fun e => hne' (by rw [hk, e]))
    · have := heap_ltO hx5 hlt
      simpa using this
  have ht : Touch (madeS ob v) w (w5.setCell ⟨ob, 0, none⟩ v') :=
    Touch.setCell (Touch.grown ((Touch.refl (madeS ob v) w).alloc _) ha.grown (fun k hk => Or.inl (Or.inr hk))) (Or.inl (Or.inl rfl)) _
  exact Sat.ex' v' (h.touch ht hmade (loc_out _ _ _) (fun k hk => by
    rcases hk with rfl | hk
    · exact Or.inl (Or.inl rfl)
    · rcases ha.at_ with h1 | h1
      · exact Or.inl (Or.inr (h1 ▸ hk))
      · rw [h1] at hk; simp at hk; exact Or.inr (by omega)) hmade.slt)

/-- A function that is handed entries: what it gathers of each. -/
def Gathers (g : World) (fid : Nat) (ob : Nat) (sel : Int → Bool → Int → List Int) : Prop := ∀ (w : World) (L : List Int) (R : HP) (lv pg : Int) (wr tb : Bool) (fr : Int), Sat g w (outP ob L * R) → L.length ≤ 100000 →
  Calls Try.prog fid #[.int .i64 lv, .int .i64 pg, .agg #[.bool true, .bool wr, .bool tb, .int .i64 fr], .pointer (some ⟨ob, 0, none⟩)] w fun e w' => e = .returned (.tuple #[]) ∧ Sat g w' (outP ob (L ++ sel pg tb fr) * R)
theorem s_get8 (pm n : Nat) (M : Nat → Int) (f k : Nat) (g w : World) (R : HP) (h : Sat g w (memP pm n M * R)) (hf : f < n) (hk : k < 16) :
    Calls Try.prog 10 #[.pointer (some ⟨pm, 0, none⟩), .int .i64 f, .int .i64 k] w fun e w' => e = .returned (.tuple #[.agg #[.bool (oV (M (16 * f + k))), .bool (oW (M (16 * f + k))), .bool (oT (M (16 * f + k))), .int .i64 (oF (M (16 * f + k)))], .int .i64 (if oE (M (16 * f + k)) = 0 then 0 else 11)]) ∧ Below w.heap.size w w' := by
  obtain ⟨bk, hm, _⟩ := h.mem
  obtain ⟨a, b, c, d, e⟩ := get_nat (M := M) hf hk
  have := get_any pm bk n M f k w hm
  rw [a, b, c, d, e] at this
  exact this
/-- The word of an entry: a frame, may it be written, is it a table? -/
def entW : Option (Nat × Bool × Bool) → Int
  | none => 0
  | some x => wordI true x.2.1 x.2.2 x.1
def eachA (sel : Int → Bool → Int → List Int) (page : Nat) (ent : Nat → Option (Nat × Bool × Bool)) (sub : Nat → List Int) (k : Nat) : List Int := match ent k with
  | none => []
  | some x => sel ((page * 16 + k : Nat) : Int) x.2.2 x.1 ++ if x.2.2 then sub k else []
def eachL (sel : Int → Bool → Int → List Int) (page : Nat) (ent : Nat → Option (Nat × Bool × Bool)) (sub : Nat → List Int) (k : Nat) : List Int := (List.range k).flatMap (eachA sel page ent sub)
theorem eachL_succ (sel : Int → Bool → Int → List Int) (page : Nat) (ent : Nat → Option (Nat × Bool × Bool)) (sub : Nat → List Int) (k : Nat) : eachL sel page ent sub (k + 1) = eachL sel page ent sub k ++ eachA sel page ent sub k := by
  unfold eachL; rw [List.range_succ, List.flatMap_append]; simp
theorem eachA_len {sel : Int → Bool → Int → List Int} {page : Nat} {ent : Nat → Option (Nat × Bool × Bool)} {sub : Nat → List Int} {s : Nat} (h1 : ∀ a b c, (sel a b c).length ≤ 1) (h2 : ∀ k, (sub k).length ≤ s) (k : Nat) : (eachA sel page ent sub k).length ≤ 1 + s := by
  unfold eachA
  split
  · simp
  · rw [List.length_append]
    refine Nat.add_le_add (h1 _ _ _) ?_
    split
    · exact h2 k
    · simp
theorem eachL_len {sel : Int → Bool → Int → List Int} {page : Nat} {ent : Nat → Option (Nat × Bool × Bool)} {sub : Nat → List Int} {s : Nat} (h1 : ∀ a b c, (sel a b c).length ≤ 1) (h2 : ∀ k, (sub k).length ≤ s) : ∀ k, (eachL sel page ent sub k).length ≤ k * (1 + s)
  | 0 => by simp [eachL]
  | k + 1 => by
    rw [eachL_succ, List.length_append, Nat.add_mul, Nat.one_mul]
    exact Nat.add_le_add (eachL_len h1 h2 k) (eachA_len h1 h2 k)

end Go.Proofs.Yteehghjdifbjbaa

namespace Go.Proofs.Yteehghjdifbjbaa
set_option linter.unusedSimpArgs false
set_option linter.unusedVariables false
set_option maxRecDepth 100000
open Go.RowKit Go.Lib Go.Sort
set_option maxHeartbeats 4000000

/-! ### What is gathered of a tree -/
def ent2 (t : Tree) (q k : Nat) : Option (Nat × Bool × Bool) := (t.pg (q * 16 + k)).map fun x => (x.1, x.2, false)
def ent1 (t : Tree) (i j : Nat) : Option (Nat × Bool × Bool) := (t.t2 (i * 16 + j)).map fun f => (f, false, true)
def ent0 (t : Tree) (i : Nat) : Option (Nat × Bool × Bool) := (t.t1 i).map fun f => (f, false, true)
abbrev Sel := Int → Bool → Int → List Int
def vis2 (sel : Sel) (t : Tree) (q : Nat) : List Int := eachL sel q (ent2 t q) (fun _ => []) 16
def vis1 (sel : Sel) (t : Tree) (i : Nat) : List Int := eachL sel i (ent1 t i) (fun j => vis2 sel t (i * 16 + j)) 16
def vis0 (sel : Sel) (t : Tree) : List Int := eachL sel 0 (ent0 t) (fun i => vis1 sel t (0 * 16 + i)) 16
theorem vis2_len {sel : Sel} (h : ∀ a b c, (sel a b c).length ≤ 1) (t : Tree) (q : Nat) : (vis2 sel t q).length ≤ 16 := eachL_len (s := 0) h (fun _ => by simp) 16
theorem vis1_len {sel : Sel} (h : ∀ a b c, (sel a b c).length ≤ 1) (t : Tree) (i : Nat) : (vis1 sel t i).length ≤ 272 := eachL_len (s := 16) h (fun j => vis2_len h t _) 16
theorem vis0_len {sel : Sel} (h : ∀ a b c, (sel a b c).length ≤ 1) (t : Tree) : (vis0 sel t).length ≤ 4368 := eachL_len (s := 272) h (fun j => vis1_len h t _) 16
/-! ### Lists of ints as parts -/
def rowP (v : Value) (L : List Int) : HP := ownP (fun k => v.ownBlock = some k) (fun w => RowI w 0 v L)
theorem loc_row (v : Value) (L : List Int) : Loc (fun k => v.ownBlock = some k) (fun w => RowI w 0 v L) := fun _ _ h e => own_heap' h fun k hk => e k hk
theorem rowP_cells {g w : World} {v : Value} {L : List Int} {R : HP} (h : Sat g w (rowP v L * R)) : ∃ a cap, v = .slice a L.length cap ∧ (L = [] ∨ ∃ gb, a = some ⟨gb, 0, none⟩ ∧ Has (rowP v L) gb ∧ ∀ j (_ : j < L.length), w.cell? ⟨gb, j, none⟩ = some (.int .i64 L[j])) := by
  have hr : RowI w 0 v L := h.inv
  rcases hr.2 with ⟨h1, h2⟩ | ⟨gb, cap, cur, h1, _, hh, _⟩
  · exact ⟨none, 0, by rw [h1, h2], Or.inl (List.length_eq_zero_iff.1 h2)⟩
  · refine ⟨some ⟨gb, 0, none⟩, cap, h1, Or.inr ⟨gb, rfl, has_own (by rw [h1]; rfl), fun j hj => ?_⟩⟩
    unfold RowI at hr
    rw [h1] at hr
    rw [World.ownsRow.cellAt hr j (by omega), iCells_get _ j hj]
    simp [hj]
theorem out_row {g w : World} {ob : Nat} {v : Value} {L : List Int} {R : HP} (h : Sat g w (ownP (madeS ob v) (fun w => OutIn w ob v L) * R)) : Sat g w (rowP v L * R) :=
  h.touch (Touch.refl _ _) h.inv.row (loc_row v L) (fun k hk => Or.inl (Or.inr hk)) (fun k hk => h.inv.slt k (Or.inr hk))
theorem Sat.out_new {g w : World} {R : HP} (h : Sat g w R) : Sat g (w.alloc (.cells #[.slice none 0 0] 124)) (outP w.heap.size [] * R) := by
  refine Sat.ex' (.slice none 0 0) (h.new ((Below.refl _ _).alloc (Nat.le_refl _) _) ⟨by simp [go_sem], by simp [go_sem], RowI.nil _ _, by simp [Value.ownBlock], by simp⟩ (loc_out _ _ _) (fun k hk => ?_) (fun k hk => ?_))
  · rcases hk with rfl | hk
    · exact Nat.le_refl _
    · simp [Value.ownBlock] at hk
  · rcases hk with rfl | hk
    · simp
    · simp [Value.ownBlock] at hk
theorem Sat.out_one {g w : World} {R : HP} (h : Sat g w R) (x : Int) : Sat g ((w.alloc (.cells #[.int .i64 x] 3)).alloc (.cells #[.slice (some ⟨w.heap.size, 0, none⟩) 1 1] 124)) (outP (w.heap.size + 1) [x] * R) := by
  have ho : (w.alloc (.cells #[.int .i64 x] 3)).ownsRow 0 3 1 (.slice (some ⟨w.heap.size, 0, none⟩) 1 1) 1 (iCells [x]) := by
    have := World.ownsRow_lit (base := 0) (e := 3) (size := 1) w #[.int .i64 x] 1 (by simp) (by unfold maxLen; omega) (by simp)
    simpa [iCells] using this
  have hz : (w.alloc (.cells #[.int .i64 x] 3)).heap.size = w.heap.size + 1 := by simp
  refine Sat.ex' (.slice (some ⟨w.heap.size, 0, none⟩) 1 1) (h.new (((Below.refl _ _).alloc (Nat.le_refl _) _).alloc (by simp) _) ⟨by rw [← hz]; simp [go_sem], by rw [← hz]; simp [go_sem], ho.alloc _, by simp [Value.ownBlock], by simp⟩ (loc_out _ _ _) (fun k hk => ?_) (fun k hk => ?_))
  · rcases hk with rfl | hk
    · omega
    · simp [Value.ownBlock] at hk; omega
  · rcases hk with rfl | hk
    · simp
    · simp [Value.ownBlock] at hk; simp; omega

/-- What a list is that a call has gathered. -/
def RowRet (g : World) (L : List Int) (R : HP) (e : Ending) (w' : World) : Prop := ∃ a cap, e = .returned (.slice a L.length cap) ∧ Sat g w' (rowP (.slice a L.length cap) L * R)
def selPg : Sel := fun pg tb _ => if tb then [] else [pg]
def selTb : Sel := fun _ tb fr => if tb then [fr] else []
def selFr : Sel := fun _ tb fr => if tb then [] else [fr]
theorem selPg_len : ∀ a b c, (selPg a b c).length ≤ 1 := fun a b c => by unfold selPg; cases b <;> simp
theorem selTb_len : ∀ a b c, (selTb a b c).length ≤ 1 := fun a b c => by unfold selTb; cases b <;> simp
theorem selFr_len : ∀ a b c, (selFr a b c).length ≤ 1 := fun a b c => by unfold selFr; cases b <;> simp

end Go.Proofs.Yteehghjdifbjbaa

namespace Go.Proofs.Yteehghjdifbjbaa
set_option linter.unusedSimpArgs false
set_option linter.unusedVariables false
set_option maxRecDepth 100000
open Go.RowKit Go.Lib Go.Sort
set_option maxHeartbeats 4000000

def sortI (L : List Int) : List Int := L.mergeSort fun x y => decide (x ≤ y)
theorem sortI_perm (L : List Int) : (sortI L).Perm L := List.mergeSort_perm _ _
theorem sortI_len (L : List Int) : (sortI L).length = L.length := (sortI_perm L).length_eq
theorem sortI_rise (L : List Int) : (sortI L).Pairwise (· ≤ ·) := by
  have := List.pairwise_mergeSort (le := fun x y : Int => decide (x ≤ y)) (fun a b c h1 h2 => by simp at *; omega) (fun a b => by simp; omega) L
  exact this.imp fun h => by simpa using h
def tabsL (t : Tree) : List Int := sortI ((t.root : Int) :: vis0 selTb t)
theorem tabsL_len (t : Tree) : (tabsL t).length ≤ 4369 := by
  unfold tabsL; rw [sortI_len, List.length_cons]
  have := vis0_len selTb_len t
  omega
/-- What Close leaves behind. -/
def CloseRet (g : World) (ps pm pb r n : Nat) (L : List Int) (D : (Nat → Prop) → List Blk → (Nat → Int) → Prop) (R : HP) (e : Ending) (w' : World) : Prop :=
  ∃ a cap, e = .returned (.slice a L.length cap) ∧ ∃ T' H' M', D T' H' M' ∧ Sat g w' (rowP (.slice a L.length cap) L * (spP ps pm pb r * (midP pb pm T' H' * (memP pm n M' * R))))
end Go.Proofs.Yteehghjdifbjbaa
