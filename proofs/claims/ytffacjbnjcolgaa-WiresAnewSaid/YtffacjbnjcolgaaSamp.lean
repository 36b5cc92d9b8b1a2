/- What the functions of package sampling return and write, by walks over their text: ports of four words that are good for twenty ticks. -/
import Derived.Test.YtffacjbnjcolgaaWAt
import Derived.Test.YtffacjbnjcolgaaClass
namespace Go.Proofs.Ytffacjbnjcolgaa
set_option linter.unusedSimpArgs false
set_option linter.unusedVariables false
set_option maxRecDepth 100000
open Go.RowKit
set_option maxHeartbeats 4000000

/-- A port: its last message lies at mb, its words at v. -/
structure SampIn (w : World) (ps mb : Nat) (v : Value) (m : Option (List Int × Int)) : Prop where
  c0 : w.cell? ⟨ps, 0, none⟩ = some (.int .i64 4)
  c1 : w.cell? ⟨ps, 1, none⟩ = some (.int .i64 20)
  f2 : w.frozen? ⟨ps, 2, none⟩ = false
  lt : ps < w.heap.size
  none_ : m = none → w.cell? ⟨ps, 2, none⟩ = some (.pointer none)
  some_ : ∀ L t, m = some (L, t) → w.cell? ⟨ps, 2, none⟩ = some (.pointer (some ⟨mb, 0, none⟩)) ∧ mb < w.heap.size ∧ w.cell? ⟨mb, 0, none⟩ = some v ∧ w.cell? ⟨mb, 1, none⟩ = some (.int .i64 t) ∧ WAt w v L ∧ (0 ≤ t ∧ 1 ≤ L.length ∧ L.length ≤ 4)
def sampS (ps mb : Nat) (v : Value) (m : Option (List Int × Int)) (k : Nat) : Prop := k = ps ∨ (m ≠ none ∧ (k = mb ∨ v.ownBlock = some k))
def sampP (ps : Nat) (m : Option (List Int × Int)) : HP := exP fun x : Nat × Value => ownP (sampS ps x.1 x.2 m) (fun w => SampIn w ps x.1 x.2 m)
theorem loc_samp (ps mb : Nat) (v : Value) (m : Option (List Int × Int)) : Loc (sampS ps mb v m) (fun w => SampIn w ps mb v m) := fun w w' h e => by
  have e0 := e ps (Or.inl rfl)
  refine ⟨(cell_of_heap e0 _).trans h.c0, (cell_of_heap e0 _).trans h.c1, (frozen_of_heap e0 _).trans h.f2, heap_ltW e0 h.lt, fun hm => (cell_of_heap e0 _).trans (h.none_ hm), fun L t hm => ?_⟩
  obtain ⟨a, b, c, d, f, q⟩ := h.some_ L t hm
  have hn : m ≠ none := by rw [hm]; simp
  have e1 := e mb (Or.inr ⟨hn, Or.inl rfl⟩)
  exact ⟨(cell_of_heap e0 _).trans a, heap_ltW e1 b, (cell_of_heap e1 _).trans c, (cell_of_heap e1 _).trans d, f.heap (fun k hk => e k (Or.inr ⟨hn, Or.inr hk⟩)), q⟩
theorem SampIn.slt {w : World} {ps mb : Nat} {v : Value} {m : Option (List Int × Int)} (h : SampIn w ps mb v m) : ∀ k, sampS ps mb v m k → k < w.heap.size := fun k hk => by
  rcases hk with rfl | ⟨hn, hk⟩
  · exact h.lt
  · cases hm : m with
    | none => exact absurd hm hn
    | some x =>
      obtain ⟨_, b, _, _, f, _⟩ := h.some_ x.1 x.2 hm
      rcases hk with rfl | hk
      · exact b
      · exact f.slt k hk
theorem has_samp (ps : Nat) (m : Option (List Int × Int)) : Has (sampP ps m) ps := has_ex fun _ => has_own (Or.inl rfl)

theorem within_any (n lo hi : Int) (w : World) (h0 : lo ≤ n) (h1 : n ≤ hi) : Calls Try.prog 40 #[.int .i64 n, .int .i64 lo, .int .i64 hi] w fun e w' => e = .returned (.int .i64 n) ∧ w = w' := by
  go_enter Try.func40, Try.ntmps40
  go_wp2_with (fail)
  go_ret
  exact ⟨rfl, rfl⟩

theorem s_sampnew (g w : World) (R : HP) (h : Sat g w R) : Calls Try.prog 35 #[.int .i64 4, .int .i64 20] w fun e w' => ∃ ps, e = .returned (.tuple #[.pointer (some ⟨ps, 0, none⟩), .int .i64 0]) ∧ Sat g w' (sampP ps none * R) := by
  go_enter Try.func35, Try.ntmps35
  go_upto_region 2 with (fail)
  obtain ⟨w1, hw1⟩ : ∃ w1, w1 = w.alloc (.cells #[.int .i64 4, .int .i64 20] 96) := ⟨_, rfl⟩
  obtain ⟨b1, hb1⟩ : ∃ b1, b1 = w.heap.size := ⟨_, rfl⟩
  have c0 : w1.cell? ⟨b1, 0, none⟩ = some (.int .i64 4) := by rw [hw1, hb1]; simp [go_sem]
  have c1 : w1.cell? ⟨b1, 1, none⟩ = some (.int .i64 20) := by rw [hw1, hb1]; simp [go_sem]
  have S1 : Sat g w1.drew R := by rw [hw1]; exact (h.alloc _).drew
  rw [← hw1, ← hb1]
  clear hw1 hb1
  have m0 : ∀ z : Wc (fun w' => w1.drew = w'), z.w.cell? ⟨b1, 0, none⟩ = some (.int .i64 4) := fun z => by rw [← z.h]; exact c0
  have m1 : ∀ z : Wc (fun w' => w1.drew = w'), z.w.cell? ⟨b1, 1, none⟩ = some (.int .i64 20) := fun z => by rw [← z.h]; exact c1
  have k0 : w1.drew.cell? ⟨b1, 0, none⟩ = some (.int .i64 4) := c0
  have k1 : w1.drew.cell? ⟨b1, 1, none⟩ = some (.int .i64 20) := c1
  (refine region_class (fun w' => w1.drew = w') (by kernel_rfl) (by kernel_rfl) (rfl) ?_; intro _; (repeat (first | go_big_quiet_step ((go_at_call 40; exact class_same (within_any _ _ _ _ (by omega) (by omega)))) | quiet_step ((go_at_call 40; exact class_same (within_any _ _ _ _ (by omega) (by omega)))))); refine wpQuiet_nil ?_; intro wz hz)
  subst hz
  clear m0 m1 c0 c1
  generalize w1.drew = w2 at S1 k0 k1 ⊢
  go_wp2_with (fail)
  go_ret2
  refine ⟨w2.heap.size, rfl, Sat.ex' (0, Value.bool false) (S1.new (by repeat (first | with_reducible exact Below.refl _ _ | with_reducible assumption | with_reducible refine below_drewN ?_ _ | with_reducible refine Below.alloc ?_ (by simp <;> omega) _)) ⟨by simp [go_sem], by simp [go_sem], by simp [go_sem], by simp, fun _ => by simp [go_sem], fun L t e => by cases e⟩ (loc_samp _ _ _ _) (fun k hk => ?_) (fun k hk => ?_))⟩
  · rcases hk with rfl | ⟨hn, _⟩
    · exact Nat.le_refl _
    · exact absurd rfl hn
  · rcases hk with rfl | ⟨hn, _⟩
    · simp
    · exact absurd rfl hn

/-- May a message be written? -/
def sampB (m : Option (List Int × Int)) (n : Nat) (now : Int) : Bool := decide (1 ≤ n) && decide (n ≤ 4) && decide (0 ≤ now) && (match m with | none => true | some x => decide (x.2 ≤ now))
theorem samp_write_no (ps mb : Nat) (v : Value) (m : Option (List Int × Int)) (x : Value) (n : Nat) (now : Int) (a : Option Addr) (c : Nat) (w : World) (hi : SampIn w ps mb v m) (hx : x = .slice a n c) (hb : sampB m n now = false) :
    Calls Try.prog 82 #[.pointer (some ⟨ps, 0, none⟩), x, .int .i64 now] w fun e w' => e = .returned (.int .i64 1) ∧ w = w' := by
  subst hx
  have c0 := hi.c0
  have hn1 : n < 1 ∨ (1 ≤ n ∧ 4 < n) ∨ ((1 ≤ n ∧ n ≤ 4) ∧ now < 0) ∨ ((1 ≤ n ∧ n ≤ 4) ∧ 0 ≤ now ∧ ∃ L t, m = some (L, t) ∧ now < t) := by
    unfold sampB at hb
    cases m with
    | none => simp at hb; omega
    | some y =>
      simp at hb
      by_cases h1 : 1 ≤ n ∧ n ≤ 4 ∧ 0 ≤ now
      · exact Or.inr (Or.inr (Or.inr ⟨⟨h1.1, h1.2.1⟩, h1.2.2, y.1, y.2, rfl, by have := hb h1.1 h1.2.1 h1.2.2; omega⟩))
      · omega
  clear hb
  rcases hn1 with h1 | ⟨h1, h2⟩ | ⟨⟨h1, h2⟩, h3⟩ | ⟨⟨h1, h2⟩, h3, L, t, rfl, h4⟩
  · have i1 : (n : Int) < 1 := by omega
    clear hi h1
    go_enter Try.func82, Try.ntmps82
    go_wp2_with (fail)
    go_ret
    exact ⟨rfl, rfl⟩
  · have i1 : ¬ (n : Int) < 1 := by omega
    have i2 : (4 : Int) < (n : Int) := by omega
    clear hi h1 h2
    go_enter Try.func82, Try.ntmps82
    go_wp2_with (fail)
    go_ret
    exact ⟨rfl, rfl⟩
  · have i1 : ¬ (n : Int) < 1 := by omega
    have i2 : ¬ (4 : Int) < (n : Int) := by omega
    clear hi h1 h2
    go_enter Try.func82, Try.ntmps82
    go_wp2_with (fail)
    go_ret
    exact ⟨rfl, rfl⟩
  · have i1 : ¬ (n : Int) < 1 := by omega
    have i2 : ¬ (4 : Int) < (n : Int) := by omega
    have i3 : ¬ now < 0 := by omega
    obtain ⟨p2, _, _, q1, _⟩ := hi.some_ L t rfl
    clear hi h1 h2 h3
    go_enter Try.func82, Try.ntmps82
    go_wp2_with (fail)
    go_ret
    exact ⟨rfl, rfl⟩

theorem infoU : (Try.prog.info? 30).map (fun i => (i.zero, i.size, i.bytes)) = some (some (.int .u64 0), 1, 8) := by kernel_rfl
theorem infoU1 : (Try.prog.info? 30).map (·.size) = some 1 := by kernel_rfl
theorem splice_all (Z cs : List Value) (h : Z.length = cs.length) : splice Z 0 cs = cs := by
  unfold splice
  simp [← h]
/-- A row of words that copy has filled. -/
theorem filled {w : World} {b n cap : Nat} {L : List Int} (h : w.heap[b]? = some (.cells (splice (madeCells #[.int .u64 0] n).toList 0 (uC L)).toArray 30 (0, 0))) (hn : L.length = n) : WAt w (.slice (some ⟨b, 0, none⟩) n cap) L := by
  rw [splice_all _ _ (by rw [uC_len, hn]; simp [size_madeCells])] at h
  refine ⟨Or.inr ⟨b, cap, by rw [hn], heap_lt h, fun j hj => ?_⟩⟩
  have := uC_at L j hj
  simp [World.cell?, h, this]

theorem samp_write_yes (ps mb : Nat) (v : Value) (m : Option (List Int × Int)) (x : Value) (L : List Int) (now : Int) (w : World) (hi : SampIn w ps mb v m) (hx : Src w 1 x L.length (uC L)) (hb : sampB m L.length now = true) :
    Calls Try.prog 82 #[.pointer (some ⟨ps, 0, none⟩), x, .int .i64 now] w fun e w' => e = .returned (.int .i64 0) ∧ ∃ mb' v', SampIn w' ps mb' v' (some (L, now)) ∧ w.heap.size ≤ mb' ∧ (∀ k, v'.ownBlock = some k → w.heap.size ≤ k) ∧ Touch (· = ps) w w' := by
  obtain ⟨n, hn⟩ : ∃ n, L.length = n := ⟨_, rfl⟩
  rw [hn] at hx hb
  have hh : (1 ≤ n ∧ n ≤ 4 ∧ 0 ≤ now) ∧ (m = none ∨ ∃ L t, m = some (L, t) ∧ ¬ now < t) := by
    unfold sampB at hb
    cases m with
    | none => simp at hb; exact ⟨by omega, Or.inl rfl⟩
    | some y => simp at hb; exact ⟨by omega, Or.inr ⟨y.1, y.2, rfl, by omega⟩⟩
  clear hb
  obtain ⟨⟨h1, h2, h3⟩, hm⟩ := hh
  obtain ⟨b, o, c, rfl, hc, hlt⟩ : ∃ b o c, x = .slice (some ⟨b, o, none⟩) n c ∧ (∀ j u, (uC L)[j]? = some u → w.cell? ⟨b, o + j, none⟩ = some u) ∧ (0 < (uC L).length → b < w.heap.size) := by
    rcases hx.2 with ⟨_, h⟩ | h
    · omega
    · exact h
  have hbl := hlt (by rw [uC_len]; omega)
  obtain ⟨i0, hi0, hz, hs, hby⟩ := info_parts infoU
  have hmk : ∀ w, (Instr.makeSlice 31 (.int .i64 n) (.int .i64 n)).run Try.prog w = _ := fun w => run_make (P := Try.prog) w 31 30 i0 _ Try.underlying31 hi0 hz .i64 .i64 n n (by omega) (by omega) (by rw [hby]; omega) (by omega)
  rw [hs] at hmk
  simp only [Int.toNat_natCast, Nat.mul_one] at hmk
  have c0 := hi.c0
  have f2 := hi.f2
  have hpl := hi.lt
  have i1 : ¬ (n : Int) < 1 := by omega
  have i2 : ¬ (4 : Int) < (n : Int) := by omega
  have i3 : ¬ now < 0 := by omega
  have HX := Lib.hid hc
  have HN := Lib.hid (And.intro hn (And.intro h1 (And.intro h2 h3)))
  have HI := Lib.hid hi
  have hne : ¬ ps = w.heap.size := by omega
  have hne1 : ¬ ps = w.heap.size + 1 := by omega
  have hm2 : ∃ q, w.cell? ⟨ps, 2, none⟩ = some (.pointer q) := by
    rcases hm with rfl | ⟨L0, t, rfl, h4⟩
    · exact ⟨_, hi.none_ rfl⟩
    · exact ⟨_, (hi.some_ L0 t rfl).1⟩
  obtain ⟨q, hq⟩ := hm2
  have hq2 : q = none ∨ ∃ t, q = some ⟨mb, 0, none⟩ ∧ w.cell? ⟨mb, 1, none⟩ = some (.int .i64 t) ∧ ¬ now < t := by
    rcases hm with rfl | ⟨L0, t, rfl, h4⟩
    · have := hi.none_ rfl
      rw [hq] at this
      exact Or.inl (by simpa using this)
    · obtain ⟨p2, _, _, q1, _⟩ := hi.some_ L0 t rfl
      rw [hq] at p2
      exact Or.inr ⟨t, by simpa using p2, q1, h4⟩
  clear hm hi
  have HW : Hid (n = n) := Lib.hid rfl
  clear hc hlt hx hn h1 h2 h3
  rcases hq2 with rfl | ⟨t, rfl, q1, h4⟩
  all_goals
    go_enter Try.func82, Try.ntmps82
    go_upto_region 4 with (fail)
    obtain ⟨w2, hw2⟩ : ∃ w2, w2 = (w.alloc (.cells (madeCells #[.int .u64 0] n) 30)).alloc (.cells #[.slice (some ⟨w.heap.size, 0, none⟩) n n, .int .i64 now] 145) := ⟨_, rfl⟩
    obtain ⟨B, hB⟩ : ∃ B, B = w.heap.size := ⟨_, rfl⟩
    have hb2 : Below w.heap.size w w2 := by rw [hw2]; repeat (first | with_reducible exact Below.refl _ _ | with_reducible assumption | with_reducible refine below_drewN ?_ _ | with_reducible refine Below.alloc ?_ (by simp <;> omega) _)
    have hrow : w2.heap[B]? = some (.cells (madeCells #[.int .u64 0] n).toList.toArray 30 (0, 0)) := by
      rw [hw2, hB, Below.heap_alloc _ _ _ (by simp), Array.toArray_toList]
      exact Array.getElem?_push_size (xs := w.heap)
    have k0 : w2.cell? ⟨B + 1, 0, none⟩ = some (.slice (some ⟨B, 0, none⟩) n n) := by rw [hw2, hB]; simp [go_sem]
    have k1 : w2.cell? ⟨B + 1, 1, none⟩ = some (.int .i64 now) := by rw [hw2, hB]; simp [go_sem]
    have hsz : B + 1 < w2.heap.size := by rw [hw2, hB]; simp
    have hsrc : ∀ j u, (uC L)[j]? = some u → w2.cell? ((⟨b, o, none⟩ : Addr).add j) = some u := fun j u hj => by
      rw [addr_add]; exact keep hb2 hbl (HX.out j u hj)
    have d0 := keep hb2 hpl c0
    have d1 := keep hb2 hpl HI.out.c1
    have d2 := keepF hb2 hpl f2
    have d3 := keep hb2 hpl hq
    rw [← hw2]
    rw [← hB] at hne hne1 ⊢
    have HS := Lib.hid (And.intro hrow (And.intro hsrc hb2))
    have hltB : ps < B := by omega
    have HB := Lib.hid hB
    clear hw2 hrow hsrc hb2 hmk c0 f2 hq hB
    obtain ⟨w3, hcp, hrow3, ht3⟩ := copy_run (P := Try.prog) (w := w2) 31 31 3 30 Try.underlying31 infoU1 B n n ⟨b, o, none⟩ c (madeCells #[.int .u64 0] n).toList 30 HS.out.1 (uC L) (by rw [uC_len, HN.out.1]) HS.out.2.1 (by rw [uC_len, HN.out.1]; simp [size_madeCells]) (uC_one L)
    go_upto_region 5 with (fail)
    clear hcp
    have hp2 := Nat.lt_of_lt_of_le hpl HS.out.2.2.size
    have e0 := keepT ht3 hp2 hne d0
    have e1 := keepT ht3 hp2 hne d1
    have e2 : w3.frozen? ⟨ps, 2, none⟩ = false := by rw [frozen_of_heap (ht3.block ps hp2 hne)]; exact d2
    have e3 := keepT ht3 hp2 hne d3
    have e4 := keepT ht3 hsz (by omega) k0
    have e5 := keepT ht3 hsz (by omega) k1
    have e6 : WAt w3 (.slice (some ⟨B, 0, none⟩) n n) L := filled hrow3.out HN.out.1
    have hz3 := ht3.size
    have HE := Lib.hid (And.intro e1 (And.intro e4 (And.intro e5 e6)))
    clear d0 d1 d2 d3 k0 k1 hrow3 e1 e4 e5 e6
    go_wp2_with (fail)
    go_ret
    have hB := HB.out
    refine ⟨rfl, B + 1, .slice (some ⟨B, 0, none⟩) n n, ?_, by omega, fun k hk => (by simp [Value.ownBlock] at hk; omega), ?_⟩
    · have hts : Touch (· = ps) w3 (w3.setCell ⟨ps, 2, none⟩ (.pointer (some ⟨B + 1, 0, none⟩))) := Touch.setCell (S := (· = ps)) (Touch.refl _ _) (Or.inl rfl) _
      refine ⟨by simp [go_sem, e0], by simp [go_sem, HE.out.1], by rw [World.frozen?_setCell]; exact e2, by simp; omega, fun h => (by cases h), fun L' t' h => ?_⟩
      cases h
      refine ⟨World.cell?_setCell_same' _ _ _ (by rw [e3]; rfl), by simp; omega, keepT hts (by omega) (by omega) HE.out.2.1, keepT hts (by omega) (by omega) HE.out.2.2.1, HE.out.2.2.2.heap (fun k hk => ?_), ⟨HN.out.2.2.2, by rw [HN.out.1]; exact HN.out.2.1, by rw [HN.out.1]; exact HN.out.2.2.1⟩⟩
      have : k = B := by simpa [Value.ownBlock] using hk.symm
      subst this
      exact hts.block _ (by omega) (by omega)
    · exact Touch.setCell (S := (· = ps)) ((Touch.of_below HS.out.2.2).then_new ht3 (fun j hj => Or.inr (by omega))) (Or.inl rfl) _

theorem samp_read_none (ps mb : Nat) (v : Value) (now : Int) (w : World) (hi : SampIn w ps mb v none) :
    Calls Try.prog 81 #[.pointer (some ⟨ps, 0, none⟩), .int .i64 now] w fun e w' => e = .returned (.tuple #[.slice none 0 0, .bool false, .int .i64 2]) ∧ w = w' := by
  have c2 := hi.none_ rfl
  clear hi
  go_enter Try.func81, Try.ntmps81
  go_wp2_with (fail)
  go_ret3
  exact ⟨rfl, rfl⟩
theorem samp_read_early (ps mb : Nat) (v : Value) (L : List Int) (t now : Int) (w : World) (hi : SampIn w ps mb v (some (L, t))) (hn : now < t) :
    Calls Try.prog 81 #[.pointer (some ⟨ps, 0, none⟩), .int .i64 now] w fun e w' => e = .returned (.tuple #[.slice none 0 0, .bool false, .int .i64 1]) ∧ w = w' := by
  obtain ⟨c2, _, _, q1, _⟩ := hi.some_ L t rfl
  clear hi
  go_enter Try.func81, Try.ntmps81
  go_wp2_with (fail)
  go_ret3
  exact ⟨rfl, rfl⟩
theorem samp_read_yes (ps mb : Nat) (v : Value) (L : List Int) (t now : Int) (w : World) (hi : SampIn w ps mb v (some (L, t))) (hn : t ≤ now) (hmax : now ≤ 9223372036854775807) :
    Calls Try.prog 81 #[.pointer (some ⟨ps, 0, none⟩), .int .i64 now] w fun e w' => ∃ v', e = .returned (.tuple #[v', .bool (decide (now - t < 20)), .int .i64 0]) ∧ WAt w' v' L ∧ (∀ k, v'.ownBlock = some k → w.heap.size ≤ k) ∧ Below w.heap.size w w' := by
  obtain ⟨c2, hml, q0, q1, hw, ht0, hl1, hl4⟩ := hi.some_ L t rfl
  have c1 := hi.c1
  have hpl := hi.lt
  obtain ⟨n, hnn⟩ : ∃ n, L.length = n := ⟨_, rfl⟩
  rw [hnn] at hl1 hl4
  obtain ⟨b, c, rfl, hbl, hcells⟩ : ∃ b c, v = .slice (some ⟨b, 0, none⟩) n c ∧ b < w.heap.size ∧ ∀ j (_ : j < L.length), w.cell? ⟨b, j, none⟩ = some (.int .u64 L[j]) := by
    rcases hw.is with ⟨_, h⟩ | ⟨b, c, h1, h2, h3⟩
    · rw [h] at hnn; simp at hnn; omega
    · exact ⟨b, c, by rw [h1, hnn], h2, h3⟩
  obtain ⟨i0, hi0, hz, hs, hby⟩ := info_parts infoU
  have hmk : ∀ w, (Instr.makeSlice 31 (.int .i64 n) (.int .i64 n)).run Try.prog w = _ := fun w => run_make (P := Try.prog) w 31 30 i0 _ Try.underlying31 hi0 hz .i64 .i64 n n (by omega) (by omega) (by rw [hby]; omega) (by omega)
  rw [hs] at hmk
  simp only [Int.toNat_natCast, Nat.mul_one] at hmk
  have i3 : ¬ now < t := by omega
  have HX := Lib.hid hcells
  have HN := Lib.hid (And.intro hnn (And.intro hl1 hl4))
  have hwr : IntKind.i64.wrap (now - t) = now - t := IntWalk.i64_in _ ⟨by omega, by omega⟩
  have HR := Lib.hid hwr
  clear hi hw hcells hnn hl1 hl4 hwr
  go_enter Try.func81, Try.ntmps81
  go_upto_region 6 with (fail)
  obtain ⟨w2, hw2⟩ : ∃ w2, w2 = w.alloc (.cells (madeCells #[.int .u64 0] n) 30) := ⟨_, rfl⟩
  obtain ⟨B, hB⟩ : ∃ B, B = w.heap.size := ⟨_, rfl⟩
  have hb2 : Below w.heap.size w w2 := by rw [hw2]; repeat (first | with_reducible exact Below.refl _ _ | with_reducible assumption | with_reducible refine below_drewN ?_ _ | with_reducible refine Below.alloc ?_ (by simp <;> omega) _)
  have hrow : w2.heap[B]? = some (.cells (madeCells #[.int .u64 0] n).toList.toArray 30 (0, 0)) := by
    rw [hw2, hB, Array.toArray_toList]
    exact Array.getElem?_push_size (xs := w.heap)
  have hsz : B < w2.heap.size := by rw [hw2, hB]; simp
  have hsrc : ∀ j u, (uC L)[j]? = some u → w2.cell? ((⟨b, 0, none⟩ : Addr).add j) = some u := fun j u hj => by
    have hl : j < L.length := by have := (List.getElem?_eq_some_iff.1 hj).1; rwa [uC_len] at this
    rw [uC_at L j hl] at hj
    cases hj
    rw [addr_add, Nat.zero_add]; exact keep hb2 hbl (HX.out j hl)
  have d0 := keep hb2 hpl c2
  have d1 := keep hb2 hpl c1
  have d2 := keep hb2 hml q0
  have d3 := keep hb2 hml q1
  have HB := Lib.hid hB
  rw [← hw2]
  rw [← hB]
  have HS := Lib.hid (And.intro hrow (And.intro hsrc hb2))
  have hp2 : ps < w2.heap.size := by omega
  have hm2 : mb < w2.heap.size := by omega
  have hne : ps ≠ B := by omega
  have hnm : mb ≠ B := by omega
  clear hw2 hrow hsrc hb2 hmk c2 c1 q0 q1 hB
  obtain ⟨w3, hcp, hrow3, ht3⟩ := copy_run (P := Try.prog) (w := w2) 31 31 3 30 Try.underlying31 infoU1 B n n ⟨b, 0, none⟩ c (madeCells #[.int .u64 0] n).toList 30 HS.out.1 (uC L) (by rw [uC_len, HN.out.1]) HS.out.2.1 (by rw [uC_len, HN.out.1]; simp [size_madeCells]) (uC_one L)
  go_upto_region 7 with (fail)
  clear hcp
  have e0 := keepT ht3 hp2 hne d0
  have e1 := keepT ht3 hp2 hne d1
  have e2 := keepT ht3 hm2 hnm d2
  have e3 := keepT ht3 hm2 hnm d3
  have e6 : WAt w3 (.slice (some ⟨B, 0, none⟩) n n) L := filled hrow3.out HN.out.1
  have hz3 := ht3.size
  have hB := HB.out
  have hb3 : Below w.heap.size w w3 := (Touch.then_new (S := fun _ => False) (Touch.of_below HS.out.2.2) ht3 (fun j hj => Or.inr (by omega))).below (Nat.le_refl _) (fun _ _ => id)
  have hwr := HR.out
  have m0 : ∀ z : Wc (fun w' => w3.drew = w'), z.w.cell? ⟨ps, 2, none⟩ = some (.pointer (some ⟨mb, 0, none⟩)) := fun z => by rw [← z.h]; exact e0
  have m1 : ∀ z : Wc (fun w' => w3.drew = w'), z.w.cell? ⟨ps, 1, none⟩ = some (.int .i64 20) := fun z => by rw [← z.h]; exact e1
  have m3 : ∀ z : Wc (fun w' => w3.drew = w'), z.w.cell? ⟨mb, 1, none⟩ = some (.int .i64 t) := fun z => by rw [← z.h]; exact e3
  have HE := Lib.hid (And.intro e6 hb3)
  clear d0 d1 d2 d3 hrow3 e6 hb3 e0 e1 e2 e3 ht3 hB
  (refine region_class (fun w' => w3.drew = w') (by kernel_rfl) (by kernel_rfl) (rfl) ?_; intro _; (repeat (first | go_big_quiet_step ((fail)) | quiet_step ((fail)))); refine wpQuiet_nil ?_; intro wz hz)
  subst hz
  clear m0 m1 m3
  go_wp2_with (fail)
  go_ret3
  have hB := HB.out
  exact ⟨_, rfl, HE.out.1.heap (fun k hk => rfl), fun k hk => (by simp [Value.ownBlock] at hk; omega), HE.out.2.drew⟩

/-! ### The same, by parts -/
theorem samp_len {m : Option (List Int × Int)} {n : Nat} {now : Int} (h : sampB m n now = true) : 1 ≤ n := by
  rcases Nat.eq_zero_or_pos n with rfl | h0
  · unfold sampB at h; simp at h
  · exact h0
theorem s_samp_write (ps : Nat) (m : Option (List Int × Int)) (x : Value) (L : List Int) (now : Int) (g w : World) (R : HP) (h : Sat g w (sampP ps m * R)) (hx : SrcN w x L) :
    Calls Try.prog 82 #[.pointer (some ⟨ps, 0, none⟩), x, .int .i64 now] w fun e w' => e = .returned (.int .i64 (if sampB m L.length now then 0 else 1)) ∧ Sat g w' (sampP ps (if sampB m L.length now then some (L, now) else m) * R) := by
  obtain ⟨⟨mb, v⟩, hs⟩ := h.ex
  have hi : SampIn w ps mb v m := hs.inv
  cases hb : sampB m L.length now
  · obtain ⟨a, c, e⟩ := hx.slice
    exact (samp_write_no ps mb v m x L.length now a c w hi e hb).mono fun e w' ⟨h1, h2⟩ => ⟨h1, h2 ▸ h⟩
  · refine (samp_write_yes ps mb v m x L now w hi (hx.src (samp_len hb)) hb).mono fun e w' ⟨h1, mb', v', h2, h3, h4, h5⟩ => ⟨h1, Sat.ex' (mb', v') (hs.touch (h5.mono fun k _ hk => Or.inl hk) h2 (loc_samp _ _ _ _) (fun k hk => ?_) h2.slt)⟩
    rcases hk with rfl | ⟨_, rfl | hk⟩
    · exact Or.inl (Or.inl rfl)
    · exact Or.inr h3
    · exact Or.inr (h4 k hk)
/-- What a Read tells. -/
inductive SampRead (g : World) (ps : Nat) (m : Option (List Int × Int)) (now : Int) (R : HP) (e : Ending) (w' : World) : Prop
  | no (k : Int) (hk : (m = none ∧ k = 2) ∨ (∃ L t, m = some (L, t) ∧ now < t ∧ k = 1)) (he : e = .returned (.tuple #[.slice none 0 0, .bool false, .int .i64 k])) (hs : Sat g w' (sampP ps m * R))
  | ok (L : List Int) (t : Int) (v : Value) (hm : m = some (L, t)) (hn : t ≤ now) (he : e = .returned (.tuple #[v, .bool (decide (now - t < 20)), .int .i64 0])) (hs : Sat g w' (wordsP v L * (sampP ps m * R)))
theorem s_samp_read (ps : Nat) (m : Option (List Int × Int)) (now : Int) (g w : World) (R : HP) (h : Sat g w (sampP ps m * R)) (hmax : now ≤ 9223372036854775807) :
    Calls Try.prog 81 #[.pointer (some ⟨ps, 0, none⟩), .int .i64 now] w (SampRead g ps m now R) := by
  obtain ⟨⟨mb, v⟩, hs⟩ := h.ex
  have hi : SampIn w ps mb v m := hs.inv
  cases m with
  | none => exact (samp_read_none ps mb v now w hi).mono fun e w' ⟨h1, h2⟩ => .no 2 (Or.inl ⟨rfl, rfl⟩) h1 (h2 ▸ h)
  | some x =>
    obtain ⟨L, t⟩ := x
    by_cases hn : now < t
    · exact (samp_read_early ps mb v L t now w hi hn).mono fun e w' ⟨h1, h2⟩ => .no 1 (Or.inr ⟨L, t, rfl, hn, rfl⟩) h1 (h2 ▸ h)
    · exact (samp_read_yes ps mb v L t now w hi (by omega) hmax).mono fun e w' ⟨v', h1, h2, h3, h4⟩ => .ok L t v' rfl (by omega) h1 (h.words_new h4 h2 h3)

end Go.Proofs.Ytffacjbnjcolgaa
