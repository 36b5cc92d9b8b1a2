/- What trunnionref13's Step returns and writes over flat words, by walks over its text (written by gen_ref13.py). -/
import Derived.Test.YtfjfdhojhikgdaaCpuStep
import Derived.Test.YtfjfdhojhikgdaaRef12
namespace Go.Proofs.Ytfjfdhojhikgdaa
set_option linter.unusedSimpArgs false
set_option linter.unusedVariables false
open Go.RowKit
set_option maxHeartbeats 16000000

/-- The document's flat words: a struct at pg, words in bg. -/
structure RflatIn (w : World) (pg bg n cap : Nat) (W : Nat → Int) (first : Int) : Prop where
  ptr : w.cell? ⟨pg, 0, none⟩ = some (.slice (some ⟨bg, 0, none⟩) n cap)
  fst : w.cell? ⟨pg, 1, none⟩ = some (.int .i64 first)
  words : WordsIn w bg n W
  pg_lt : pg < w.heap.size
  ne : pg ≠ bg
  hn : n ≤ 1000
theorem RflatIn.touch {w w' : World} {pg bg n cap : Nat} {W : Nat → Int} {first : Int} (h : RflatIn w pg bg n cap W first) {S : Nat → Prop} (t : Touch S w w') (h1 : ¬ S pg) (h2 : ¬ S bg) : RflatIn w' pg bg n cap W first :=
  ⟨keepT t h.pg_lt h1 h.ptr, keepT t h.pg_lt h1 h.fst, h.words.touch t h2, Nat.lt_of_lt_of_le h.pg_lt t.size, h.ne, h.hn⟩
theorem RflatIn.below {w w' : World} {pg bg n cap : Nat} {W : Nat → Int} {first : Int} (h : RflatIn w pg bg n cap W first) (t : Below w.heap.size w w') : RflatIn w' pg bg n cap W first :=
  h.touch (S := fun _ => False) (Touch.of_below t) id id
theorem RflatIn.drewN {w : World} {pg bg n cap : Nat} {W : Nat → Int} {first : Int} (h : RflatIn w pg bg n cap W first) (q : Nat) : RflatIn (w.drewN q) pg bg n cap W first :=
  h.touch (S := fun _ => False) (Touch.drewN (Touch.refl _ _) q) id id
theorem RflatIn.drew {w : World} {pg bg n cap : Nat} {W : Nat → Int} {first : Int} (h : RflatIn w pg bg n cap W first) : RflatIn w.drew pg bg n cap W first :=
  h.touch (S := fun _ => False) (Touch.drew (Touch.refl _ _)) id id
theorem RflatIn.set_other {w : World} {pg bg n cap : Nat} {W : Nat → Int} {first : Int} (h : RflatIn w pg bg n cap W first) {p : Addr} (h1 : pg ≠ p.block) (h2 : bg ≠ p.block) (u : Value) : RflatIn (w.setCell p u) pg bg n cap W first :=
  h.touch (S := fun k => k = p.block) (Touch.setCell (S := fun k => k = p.block) (Touch.refl _ _) (Or.inl rfl) _) h1 h2

theorem rflat_load (pg bg n cap : Nat) (W : Nat → Int) (first a : Int) (w : World) (hf : RflatIn w pg bg n cap W first) (X E : Int) (hX : ldW n W a = X) (hE : ldE n a = E) :
    Calls Try.prog 21 #[.pointer (some ⟨pg, 0, none⟩), .int .i64 a] w fun e w' => e = .returned (.tuple #[.int .u64 X, .int .i64 E]) ∧ w = w' := by
  have hn := hf.hn
  have q0 := hf.ptr
  have HX := Lib.hid hX; have HE := Lib.hid hE
  clear hX hE
  by_cases ha : 0 ≤ a ∧ a < n
  · obtain ⟨a0, a1⟩ := ha
    have c := hf.words.cell a.toNat (by omega)
    have hX : Hid (W a.toNat = X) := by show _ = _; rw [← HX.out]; unfold ldW; rw [if_pos ⟨a0, a1⟩]
    have hE : Hid ((0 : Int) = E) := by show _ = _; rw [← HE.out]; unfold ldE; rw [if_pos ⟨a0, a1⟩]
    go_enter Try.func21, Try.ntmps21
    go_wp2_with (fail)
    go_ret2
    exact ⟨by rw [← hX.out, ← hE.out]; rfl, rfl⟩
  · have hX : Hid ((0 : Int) = X) := by show _ = _; rw [← HX.out]; unfold ldW; rw [if_neg ha]
    have hE : Hid ((10 : Int) = E) := by show _ = _; rw [← HE.out]; unfold ldE; rw [if_neg ha]
    have hh : a < 0 ∨ (¬ a < 0 ∧ n ≤ a) := by omega
    clear ha
    rcases hh with h | ⟨h, h'⟩
    all_goals
      go_enter Try.func21, Try.ntmps21
      go_wp2_with (fail)
      go_ret2
      exact ⟨by rw [← hX.out, ← hE.out]; rfl, rfl⟩

theorem rflat_store (pg bg n cap : Nat) (W : Nat → Int) (first a x : Int) (w : World) (hf : RflatIn w pg bg n cap W first) (hx : 0 ≤ x ∧ x < 18446744073709551616) (E : Int) (hE : stE n first a = E) :
    Calls Try.prog 23 #[.pointer (some ⟨pg, 0, none⟩), .int .i64 a, .int .u64 x] w fun e w' => e = .returned (.int .i64 E) ∧ RflatIn w' pg bg n cap (stW n first W a x) first ∧ Touch (· = bg) w w' := by
  have q0 := hf.ptr
  have q1 := hf.fst
  have hn := hf.hn
  have HE := Lib.hid hE
  clear hE
  by_cases ha : 0 ≤ a ∧ a < n
  · obtain ⟨a0, a1⟩ := ha
    by_cases h1 : a < first
    · have hE : Hid ((9 : Int) = E) := by show _ = _; rw [← HE.out]; unfold stE; rw [if_neg (by omega), if_pos h1]
      have hW : Hid (stW n first W a x = W) := by show _ = _; unfold stW; rw [if_neg]; rw [HE.out, ← hE.out]; omega
      go_enter Try.func23, Try.ntmps23
      go_wp2_with (fail)
      go_ret
      exact ⟨by rw [← hE.out]; rfl, by rw [hW.out]; exact hf, Touch.refl _ _⟩
    · have hE : Hid ((0 : Int) = E) := by show _ = _; rw [← HE.out]; unfold stE; rw [if_neg (by omega), if_neg h1]
      have hW : Hid (stW n first W a x = setF W a.toNat x) := by show _ = _; unfold stW; rw [if_pos]; rw [HE.out, ← hE.out]
      have c := hf.words.cell a.toNat (by omega)
      have fr := hf.words.free a.toNat (by omega)
      have ht : Touch (· = bg) w (w.setCell ⟨bg, a.toNat, none⟩ (.int .u64 x)) := Touch.setCell (S := (· = bg)) (Touch.refl _ _) (Or.inl rfl) _
      have hfin : RflatIn (w.setCell ⟨bg, a.toNat, none⟩ (.int .u64 x)) pg bg n cap (setF W a.toNat x) first :=
        ⟨keepT ht hf.pg_lt hf.ne hf.ptr, keepT ht hf.pg_lt hf.ne hf.fst, hf.words.set _ (by omega) _ hx, Nat.lt_of_lt_of_le hf.pg_lt ht.size, hf.ne, hf.hn⟩
      have HF := Lib.hid hfin
      clear hfin
      go_enter Try.func23, Try.ntmps23
      go_wp2_with (fail)
      go_ret
      exact ⟨by rw [← hE.out]; rfl, by rw [hW.out]; exact HF.out, ht⟩
  · have hE : Hid ((10 : Int) = E) := by show _ = _; rw [← HE.out]; unfold stE; rw [if_pos ha]
    have hW : Hid (stW n first W a x = W) := by show _ = _; unfold stW; rw [if_neg]; rw [HE.out, ← hE.out]; omega
    have hh : a < 0 ∨ (¬ a < 0 ∧ n ≤ a) := by omega
    clear ha
    rcases hh with h | ⟨h, h'⟩
    all_goals
      go_enter Try.func23, Try.ntmps23
      go_wp2_with (fail)
      go_ret
      exact ⟨by rw [← hE.out]; rfl, by rw [hW.out]; exact hf, Touch.refl _ _⟩

theorem RegsIn.congr {w : World} {pa : Nat} {r r' : Nat → Int} (h : RegsIn w pa r) (e : ∀ j, r' j = r j) : RegsIn w pa r' := by
  have : r' = r := funext e
  rw [this]; exact h

/-- What the contract of a step says. -/
def RstepPost (pa pg bg n cap : Nat) (first : Int) (w : World) (R : StepR) (e : Ending) (w' : World) : Prop :=
  e = .returned (.tuple #[.int .i64 R.call, .int .i64 R.e]) ∧ RegsIn w' pa R.r ∧ RflatIn w' pg bg n cap R.W first ∧ Touch (fun b => b = pa ∨ b = bg) w w'

set_option maxRecDepth 100000 in
theorem rstep_walk (pa pg bg n cap : Nat) (W r : Nat → Int) (first : Int) (w : World)
    (hr : RegsIn w pa r) (hf : RflatIn w pg bg n cap W first) (n1 : pa ≠ pg) (n2 : pa ≠ bg) (R : StepR) (hR : stepM n first r W = R) :
    Calls Try.prog 13 #[.pointer (some ⟨pa, 0, none⟩), .pointer (some ⟨pg, 0, none⟩)] w (RstepPost pa pg bg n cap first w R) := by
  obtain ⟨P8, h8⟩ : ∃ x, x = r 8 := ⟨_, rfl⟩
  have q8 : w.cell? ⟨pa, 8, none⟩ = some (.int .u64 P8) := by rw [h8]; exact hr.row.cell 8 (by omega)
  have f8 := hr.row.free 8 (by omega)
  obtain ⟨p80, p81⟩ := hr.rng 8
  rw [← h8] at p80 p81
  obtain ⟨PC, hPC⟩ : ∃ x, x = P8 % 65536 := ⟨_, rfl⟩
  have pc0 : 0 ≤ PC := by omega
  have pc1 : PC < 65536 := by omega
  have hps := hr.row.lt
  unfold stepM at hR
  rw [← h8, ← hPC] at hR
  have HPC : Hid (P8 % 65536 = PC) := Lib.hid hPC.symm
  have HR := Lib.hid hR
  have H8 := Lib.hid h8
  clear hR hPC h8
  go_enter Try.func13, Try.ntmps13
  go_wp2_with (fail)
  rw [HPC.out]
  obtain ⟨X, hX⟩ : ∃ X, X = ldW n W PC := ⟨_, rfl⟩
  obtain ⟨E, hE⟩ : ∃ E, E = ldE n PC := ⟨_, rfl⟩
  have hXb : 0 ≤ X ∧ X < 18446744073709551616 := by
    rw [hX]; unfold ldW; split
    · exact hf.words.rng _
    · omega
  obtain ⟨x0, x1⟩ := hXb
  have hE2 : E = 0 ∨ E = 10 := by rw [hE]; exact ldE_cases n PC
  have HX := Lib.hid hX; have HE := Lib.hid hE
  clear hX hE
  refine (rflat_load pg bg n cap W first PC _ hf X E HX.out.symm HE.out.symm).mono ?_
  rintro e w1 ⟨rfl, rfl⟩
  rcases hE2 with hz | hz
  · have hz' : (E != 0) = false := by simp [hz]
    have hR1 := HR.out
    rw [← HE.out, hz, if_neg (by simp)] at hR1
    have hXW : X = W PC.toNat := by rw [HX.out]; exact ldW_eq n W PC (by rw [← HE.out, hz])
    rw [← hXW] at hR1
    have HR2 := Lib.hid hR1
    clear hR1 HR hXW hz
    have hz : E = 0 := by simpa using hz'
    subst hz
    go_wp2_with (fail)
    refine (r12_of_any X _ x0 x1).mono ?_
    rintro e w2 ⟨rfl, hb2⟩
    have hf2 := hf.below hb2
    have hr2 := hr.below hb2
    cases hok : okX X
    · have hR3 := HR2.out
      rw [hok, if_pos rfl] at hR3
      have hxe : xE X = 11 := by simp [xE, hok]
      rw [hxe]
      have HR3 := Lib.hid hR3
      clear hR3 HR2 hxe hok
      go_wp2_with (fail)
      go_ret2
      exact ⟨by rw [← HR3.out]; rfl, by rw [← HR3.out]; exact hr2.below ((Below.refl _ _).alloc (Nat.le_refl _) _), by rw [← HR3.out]; exact hf2.below ((Below.refl _ _).alloc (Nat.le_refl _) _), (Touch.of_below hb2).alloc _⟩
    · have hR3 := HR2.out
      rw [hok, if_neg (by simp)] at hR3
      have hxe : xE X = 0 := by simp [xE, hok]
      rw [hxe]
      obtain ⟨bo, ba, bb, bc, bm⟩ := xP_bd X hok
      clear hxe hok HR2
      generalize xP X 0 = OP at *
      generalize xP X 1 = A at *
      generalize xP X 2 = B at *
      generalize xP X 3 = C at *
      generalize xP X 4 = M at *
      obtain ⟨o0, o1⟩ := bo
      obtain ⟨a0, a1⟩ := ba
      obtain ⟨b0, b1⟩ := bb
      obtain ⟨c0, c1⟩ := bc
      obtain ⟨m0, m1⟩ := bm
      have HR3 := Lib.hid hR3
      clear hR3
      obtain ⟨w3, hw3⟩ : ∃ w3, w3 = w2.alloc (.cells #[.int .i64 OP, .int .i64 A, .int .i64 B, .int .i64 C, .int .i64 M] 50) := ⟨_, rfl⟩
      have hb3 : Below w2.heap.size w2 w3 := by rw [hw3]; exact (Below.refl _ _).alloc (Nat.le_refl _) _
      have s3 : w2.heap.size < w3.heap.size := by rw [hw3]; simp
      have d0 : w3.cell? ⟨w2.heap.size, 0, none⟩ = some (.int .i64 OP) := by rw [hw3]; simp [go_sem]
      have d1 : w3.cell? ⟨w2.heap.size, 1, none⟩ = some (.int .i64 A) := by rw [hw3]; simp [go_sem]
      have d2 : w3.cell? ⟨w2.heap.size, 2, none⟩ = some (.int .i64 B) := by rw [hw3]; simp [go_sem]
      have d3 : w3.cell? ⟨w2.heap.size, 3, none⟩ = some (.int .i64 C) := by rw [hw3]; simp [go_sem]
      have d4 : w3.cell? ⟨w2.heap.size, 4, none⟩ = some (.int .i64 M) := by rw [hw3]; simp [go_sem]
      have hf3 := hf2.below hb3
      have hr3 := hr2.below hb3
      have hts3 : Touch (fun b => b = pa ∨ b = bg) w w3 := (Touch.of_below hb2).trans (Touch.of_below hb3)
      have hpl := hr3.row.lt
      have npi : ¬ pa = w2.heap.size := by have := hb2.size; omega
      obtain ⟨RA, hRA⟩ : ∃ x, x = r A.toNat := ⟨_, rfl⟩
      obtain ⟨RB, hRB⟩ : ∃ x, x = r B.toNat := ⟨_, rfl⟩
      obtain ⟨RC, hRC⟩ : ∃ x, x = r C.toNat := ⟨_, rfl⟩
      have qa : w3.cell? ⟨pa, A.toNat, none⟩ = some (.int .u64 RA) := by rw [hRA]; exact hr3.row.cell A.toNat (by omega)
      have qb : w3.cell? ⟨pa, B.toNat, none⟩ = some (.int .u64 RB) := by rw [hRB]; exact hr3.row.cell B.toNat (by omega)
      have qc : w3.cell? ⟨pa, C.toNat, none⟩ = some (.int .u64 RC) := by rw [hRC]; exact hr3.row.cell C.toNat (by omega)
      have q83 : w3.cell? ⟨pa, 8, none⟩ = some (.int .u64 P8) := by rw [H8.out]; exact hr3.row.cell 8 (by omega)
      have f83 := hr3.row.free 8 (by omega)
      have fa := hr3.row.free A.toNat (by omega)
      have nA8 : ¬ A.toNat = 8 := by omega
      have n8A : ¬ 8 = A.toNat := by omega
      obtain ⟨ra0, ra1⟩ := hr.rng A.toNat
      obtain ⟨rb0, rb1⟩ := hr.rng B.toNat
      obtain ⟨rc0, rc1⟩ := hr.rng C.toNat
      rw [← hRA] at ra0 ra1
      rw [← hRB] at rb0 rb1
      rw [← hRC] at rc0 rc1
      have hR4 := HR3.out
      unfold stepI at hR4
      simp only at hR4
      rw [← hRA, ← hRB, ← hRC] at hR4
      obtain ⟨AT, hAT⟩ : ∃ x, x = IntKind.u64.wrap (RB + M) % 65536 := ⟨_, rfl⟩
      rw [← hAT] at hR4
      have hAT1 : 0 ≤ AT ∧ AT < 65536 := by have := wrap_bd (RB + M); omega
      obtain ⟨t0, t1⟩ := hAT1
      have HAT := Lib.hid hAT
      have HR4 := Lib.hid hR4
      have HRA := Lib.hid hRA
      clear hR4 HR3 hRA hRB hRC hAT
      have HQ : Hid (RegsIn w3 pa r ∧ RflatIn w3 pg bg n cap W first ∧ Touch (fun b => b = pa ∨ b = bg) w w3) := Lib.hid ⟨hr3, hf3, hts3⟩
      clear hr3 hf3 hts3
      obtain ⟨wb0, wb1⟩ := wrap_bd (RB + M)
      have hoc := op_cases o0 o1
      rcases hoc with ho | ho | ho | ho | ho | ho | ho | ho | ho | ho | ho | ho
      all_goals subst ho
      · go_wp2_with (fail)
        rw [← hw3]
        clear hw3
        go_quiet (fail)
        go_wp2_with (fail)
        go_quiet (fail)
        go_wp2_with (fail)
        go_ret2
        have hR := HR4.out
        simp [doE, doR, doW, nextI, rkI] at hR
        refine ⟨by rw [← hR]; rfl, ?_, ?_, ?_⟩
        · rw [← hR]
          exact (by repeat (first | exact HQ.out.1 | refine RegsIn.drewN ?_ _ | refine RegsIn.drew ?_))
        · rw [← hR]
          exact (by repeat (first | exact HQ.out.2.1 | refine RflatIn.drewN ?_ _ | refine RflatIn.drew ?_))
        · exact (by repeat (first | exact HQ.out.2.2 | refine Touch.drewN ?_ _ | refine Touch.drew ?_))
      · go_wp2_with (fail)
        rw [← hw3]
        clear hw3
        go_quiet (fail)
        go_wp2_with (fail)
        go_quiet (fail)
        go_wp2_with (fail)
        have hwb := wrap_bd (RB + RC)
        have hwc := wrap_bd (RB - RC)
        have hwd := bits_bd .and RB RC
        have hwe := bits_bd .xor RB RC
        go_region_held3 (fun w' => w'.cell? ⟨w2.heap.size, 1, none⟩ = some (.int .i64 A)) (go_keep) (fail)
        all_goals go_wp2_with (fail)
        go_ret2
        have hR := HR4.out
        simp [doE, doR, doW, nextI, rkI] at hR
        refine ⟨by rw [← hR]; rfl, ?_, ?_, ?_⟩
        · rw [← hR]
          exact RegsIn.set (RegsIn.set (by repeat (first | exact HQ.out.1 | refine RegsIn.drewN ?_ _ | refine RegsIn.drew ?_)) A.toNat (by omega) _ ⟨by omega, by omega⟩) 8 (by omega) _ ⟨by omega, by omega⟩
        · rw [← hR]
          exact RflatIn.set_other (RflatIn.set_other (by repeat (first | exact HQ.out.2.1 | refine RflatIn.drewN ?_ _ | refine RflatIn.drew ?_)) (Ne.symm n1) (Ne.symm n2) _) (Ne.symm n1) (Ne.symm n2) _
        · exact Touch.setCell (Touch.setCell (by repeat (first | exact HQ.out.2.2 | refine Touch.drewN ?_ _ | refine Touch.drew ?_)) (Or.inl (Or.inl rfl)) _) (Or.inl (Or.inl rfl)) _
      · go_wp2_with (fail)
        rw [← hw3]
        clear hw3
        go_quiet (fail)
        go_wp2_with (fail)
        go_quiet (fail)
        go_wp2_with (fail)
        have hwb := wrap_bd (RB + RC)
        have hwc := wrap_bd (RB - RC)
        have hwd := bits_bd .and RB RC
        have hwe := bits_bd .xor RB RC
        go_region_held3 (fun w' => w'.cell? ⟨w2.heap.size, 1, none⟩ = some (.int .i64 A)) (go_keep) (fail)
        all_goals go_wp2_with (fail)
        go_ret2
        have hR := HR4.out
        simp [doE, doR, doW, nextI, rkI] at hR
        refine ⟨by rw [← hR]; rfl, ?_, ?_, ?_⟩
        · rw [← hR]
          exact RegsIn.set (RegsIn.set (by repeat (first | exact HQ.out.1 | refine RegsIn.drewN ?_ _ | refine RegsIn.drew ?_)) A.toNat (by omega) _ hwb) 8 (by omega) _ ⟨by omega, by omega⟩
        · rw [← hR]
          exact RflatIn.set_other (RflatIn.set_other (by repeat (first | exact HQ.out.2.1 | refine RflatIn.drewN ?_ _ | refine RflatIn.drew ?_)) (Ne.symm n1) (Ne.symm n2) _) (Ne.symm n1) (Ne.symm n2) _
        · exact Touch.setCell (Touch.setCell (by repeat (first | exact HQ.out.2.2 | refine Touch.drewN ?_ _ | refine Touch.drew ?_)) (Or.inl (Or.inl rfl)) _) (Or.inl (Or.inl rfl)) _
      · go_wp2_with (fail)
        rw [← hw3]
        clear hw3
        go_quiet (fail)
        go_wp2_with (fail)
        go_quiet (fail)
        go_wp2_with (fail)
        have hwb := wrap_bd (RB + RC)
        have hwc := wrap_bd (RB - RC)
        have hwd := bits_bd .and RB RC
        have hwe := bits_bd .xor RB RC
        go_region_held3 (fun w' => w'.cell? ⟨w2.heap.size, 1, none⟩ = some (.int .i64 A)) (go_keep) (fail)
        all_goals go_wp2_with (fail)
        go_ret2
        have hR := HR4.out
        simp [doE, doR, doW, nextI, rkI] at hR
        refine ⟨by rw [← hR]; rfl, ?_, ?_, ?_⟩
        · rw [← hR]
          exact RegsIn.set (RegsIn.set (by repeat (first | exact HQ.out.1 | refine RegsIn.drewN ?_ _ | refine RegsIn.drew ?_)) A.toNat (by omega) _ hwc) 8 (by omega) _ ⟨by omega, by omega⟩
        · rw [← hR]
          exact RflatIn.set_other (RflatIn.set_other (by repeat (first | exact HQ.out.2.1 | refine RflatIn.drewN ?_ _ | refine RflatIn.drew ?_)) (Ne.symm n1) (Ne.symm n2) _) (Ne.symm n1) (Ne.symm n2) _
        · exact Touch.setCell (Touch.setCell (by repeat (first | exact HQ.out.2.2 | refine Touch.drewN ?_ _ | refine Touch.drew ?_)) (Or.inl (Or.inl rfl)) _) (Or.inl (Or.inl rfl)) _
      · go_wp2_with (fail)
        rw [← hw3]
        clear hw3
        go_quiet (fail)
        go_wp2_with (fail)
        go_quiet (fail)
        go_wp2_with (fail)
        have hwb := wrap_bd (RB + RC)
        have hwc := wrap_bd (RB - RC)
        have hwd := bits_bd .and RB RC
        have hwe := bits_bd .xor RB RC
        go_region_held3 (fun w' => w'.cell? ⟨w2.heap.size, 1, none⟩ = some (.int .i64 A)) (go_keep) (fail)
        all_goals go_wp2_with (fail)
        go_ret2
        have hR := HR4.out
        simp [doE, doR, doW, nextI, rkI] at hR
        refine ⟨by rw [← hR]; rfl, ?_, ?_, ?_⟩
        · rw [← hR]
          exact RegsIn.set (RegsIn.set (by repeat (first | exact HQ.out.1 | refine RegsIn.drewN ?_ _ | refine RegsIn.drew ?_)) A.toNat (by omega) _ hwd) 8 (by omega) _ ⟨by omega, by omega⟩
        · rw [← hR]
          exact RflatIn.set_other (RflatIn.set_other (by repeat (first | exact HQ.out.2.1 | refine RflatIn.drewN ?_ _ | refine RflatIn.drew ?_)) (Ne.symm n1) (Ne.symm n2) _) (Ne.symm n1) (Ne.symm n2) _
        · exact Touch.setCell (Touch.setCell (by repeat (first | exact HQ.out.2.2 | refine Touch.drewN ?_ _ | refine Touch.drew ?_)) (Or.inl (Or.inl rfl)) _) (Or.inl (Or.inl rfl)) _
      · go_wp2_with (fail)
        rw [← hw3]
        clear hw3
        go_quiet (fail)
        go_wp2_with (fail)
        go_quiet (fail)
        go_wp2_with (fail)
        have hwb := wrap_bd (RB + RC)
        have hwc := wrap_bd (RB - RC)
        have hwd := bits_bd .and RB RC
        have hwe := bits_bd .xor RB RC
        go_region_held3 (fun w' => w'.cell? ⟨w2.heap.size, 1, none⟩ = some (.int .i64 A)) (go_keep) (fail)
        all_goals go_wp2_with (fail)
        go_ret2
        have hR := HR4.out
        simp [doE, doR, doW, nextI, rkI] at hR
        refine ⟨by rw [← hR]; rfl, ?_, ?_, ?_⟩
        · rw [← hR]
          exact RegsIn.set (RegsIn.set (by repeat (first | exact HQ.out.1 | refine RegsIn.drewN ?_ _ | refine RegsIn.drew ?_)) A.toNat (by omega) _ hwe) 8 (by omega) _ ⟨by omega, by omega⟩
        · rw [← hR]
          exact RflatIn.set_other (RflatIn.set_other (by repeat (first | exact HQ.out.2.1 | refine RflatIn.drewN ?_ _ | refine RflatIn.drew ?_)) (Ne.symm n1) (Ne.symm n2) _) (Ne.symm n1) (Ne.symm n2) _
        · exact Touch.setCell (Touch.setCell (by repeat (first | exact HQ.out.2.2 | refine Touch.drewN ?_ _ | refine Touch.drew ?_)) (Or.inl (Or.inl rfl)) _) (Or.inl (Or.inl rfl)) _
      · go_wp2_with (fail)
        rw [← hw3]
        clear hw3
        go_quiet (fail)
        go_wp2_with (fail)
        go_quiet (fail)
        go_wp2_with (fail)
        rw [← HAT.out]
        obtain ⟨X2, hX2⟩ : ∃ X, X = ldW n W AT := ⟨_, rfl⟩
        obtain ⟨E2, hE2⟩ : ∃ E, E = ldE n AT := ⟨_, rfl⟩
        have hXb : 0 ≤ X2 ∧ X2 < 18446744073709551616 := by
          rw [hX2]; unfold ldW; split
          · exact hf.words.rng _
          · omega
        have hEc : E2 = 0 ∨ E2 = 10 := by rw [hE2]; exact ldE_cases n AT
        have HX2 := Lib.hid hX2; have HE2 := Lib.hid hE2
        clear hX2 hE2
        refine (rflat_load pg bg n cap W first AT _ (by repeat (first | exact HQ.out.2.1 | refine RflatIn.drewN ?_ _ | refine RflatIn.drew ?_)) X2 E2 HX2.out.symm HE2.out.symm).mono ?_
        rintro e w1 ⟨rfl, rfl⟩
        rcases hEc with hz2 | hz2
        · have hz' : (E2 != 0) = false := by simp [hz2]
          have HE3 : Hid (ldE n AT = 0) := by show _ = _; rw [← HE2.out, hz2]
          have HX3 : Hid (W AT.toNat = X2) := by show _ = _; rw [HX2.out]; exact (ldW_eq n W AT HE3.out).symm
          clear hz2 HE2 HX2
          go_wp2_with (fail)
          go_region_held3 (fun w' => w'.cell? ⟨w2.heap.size, 1, none⟩ = some (.int .i64 A)) (go_keep) (fail)
          all_goals go_wp2_with (fail)
          go_ret2
          have hR := HR4.out
          simp [doE, doR, doW, nextI, rkI, HE3.out, HX3.out] at hR
          refine ⟨by rw [← hR]; rfl, ?_, ?_, ?_⟩
          · rw [← hR]
            exact RegsIn.set (RegsIn.set (by repeat (first | exact HQ.out.1 | refine RegsIn.drewN ?_ _ | refine RegsIn.drew ?_)) A.toNat (by omega) _ hXb) 8 (by omega) _ ⟨by omega, by omega⟩
          · rw [← hR]
            exact RflatIn.set_other (RflatIn.set_other (by repeat (first | exact HQ.out.2.1 | refine RflatIn.drewN ?_ _ | refine RflatIn.drew ?_)) (Ne.symm n1) (Ne.symm n2) _) (Ne.symm n1) (Ne.symm n2) _
          · exact Touch.setCell (Touch.setCell (by repeat (first | exact HQ.out.2.2 | refine Touch.drewN ?_ _ | refine Touch.drew ?_)) (Or.inl (Or.inl rfl)) _) (Or.inl (Or.inl rfl)) _
        · have hz' : (E2 != 0) = true := by simp [hz2]
          have HE3 : Hid (ldE n AT = 10) := by show _ = _; rw [← HE2.out, hz2]
          clear HE2 HX2
          subst hz2
          go_wp2_with (fail)
          go_ret2
          have hR := HR4.out
          simp [doE, doR, doW, nextI, rkI, HE3.out] at hR
          refine ⟨by rw [← hR]; rfl, ?_, ?_, ?_⟩
          · rw [← hR]
            exact (by repeat (first | exact HQ.out.1 | refine RegsIn.drewN ?_ _ | refine RegsIn.drew ?_))
          · rw [← hR]
            exact (by repeat (first | exact HQ.out.2.1 | refine RflatIn.drewN ?_ _ | refine RflatIn.drew ?_))
          · exact (by repeat (first | exact HQ.out.2.2 | refine Touch.drewN ?_ _ | refine Touch.drew ?_))
      · go_wp2_with (fail)
        rw [← hw3]
        clear hw3
        go_quiet (fail)
        go_wp2_with (fail)
        go_quiet (fail)
        go_wp2_with (fail)
        obtain ⟨E2, hE2⟩ : ∃ E, E = stE n first AT := ⟨_, rfl⟩
        have HE2 := Lib.hid hE2
        clear hE2
        rw [← HAT.out]
        go_region_held3 (fun w' => w'.cell? ⟨w2.heap.size, 1, none⟩ = some (.int .i64 A) ∧ w'.cell? ⟨pa, A.toNat, none⟩ = some (.int .u64 RA)) (first | exact ⟨by assumption, by assumption⟩ | go_keep)
          ((go_at_call 23
            refine (rflat_store pg bg n cap W first AT RA _ (by repeat (first | exact HQ.out.2.1 | refine RflatIn.drewN ?_ _ | refine RflatIn.drew ?_)) ⟨ra0, ra1⟩ E2 HE2.out.symm).mono ?_
            rintro e w5 ⟨rfl, hf5, ht5⟩
            have hi5 : w5.cell? ⟨w2.heap.size, 1, none⟩ = some (.int .i64 A) := keepT ht5 (by simp <;> omega) (by have := hf2.words.lt; omega) d1
            have hr5 : RegsIn w5 pa r := RegsIn.touch (by repeat (first | exact HQ.out.1 | refine RegsIn.drewN ?_ _ | refine RegsIn.drew ?_)) ht5 n2
            have ha5 : w5.cell? ⟨pa, A.toNat, none⟩ = some (.int .u64 RA) := by rw [HRA.out]; exact hr5.row.cell A.toNat (by omega)
            have ht : Touch (fun b => b = pa ∨ b = bg) w w5 := Touch.trans (by repeat (first | exact HQ.out.2.2 | refine Touch.drewN ?_ _ | refine Touch.drew ?_)) (ht5.mono (fun k _ h => Or.inr h))))
        have q85 : w5.cell? ⟨pa, 8, none⟩ = some (.int .u64 P8) := by rw [H8.out]; exact hr5.row.cell 8 (by omega)
        have f85 := hr5.row.free 8 (by omega)
        by_cases hz2 : E2 = 0
        · have hz' : (E2 != 0) = false := by simp [hz2]
          have HE3 : Hid (stE n first AT = 0) := by show _ = _; rw [← HE2.out, hz2]
          clear hz2 HE2
          go_wp2_with (fail)
          go_ret2
          have hR := HR4.out
          simp [doE, doR, doW, nextI, rkI, HE3.out] at hR
          refine ⟨by rw [← hR]; rfl, ?_, ?_, ?_⟩
          · rw [← hR]
            exact RegsIn.set hr5 8 (by omega) _ ⟨by omega, by omega⟩
          · rw [← hR]
            exact RflatIn.set_other hf5 (Ne.symm n1) (Ne.symm n2) _
          · exact Touch.setCell ht (Or.inl (Or.inl rfl)) _
        · have hz' : (E2 != 0) = true := by simp [hz2]
          have HE3 : Hid (stE n first AT = E2) := by show _ = _; rw [← HE2.out]
          have hE14 : ¬ E2 = 14 := by rw [HE2.out]; unfold stE; split; omega; split <;> omega
          have HZ := Lib.hid hz2
          clear HE2 hz2
          go_wp2_with (fail)
          go_ret2
          have hR := HR4.out
          simp [doE, doR, doW, nextI, rkI, HE3.out, HZ.out, hE14] at hR
          refine ⟨by rw [← hR]; rfl, ?_, ?_, ?_⟩
          · rw [← hR]
            exact hr5
          · rw [← hR]
            exact hf5
          · exact ht
      · go_wp2_with (fail)
        rw [← hw3]
        clear hw3
        go_quiet (fail)
        go_wp2_with (fail)
        go_quiet (fail)
        go_wp2_with (fail)
        go_ret2
        have hR := HR4.out
        simp [doE, doR, doW, nextI, rkI] at hR
        refine ⟨by rw [← hR]; rfl, ?_, ?_, ?_⟩
        · rw [← hR]
          exact RegsIn.set (by repeat (first | exact HQ.out.1 | refine RegsIn.drewN ?_ _ | refine RegsIn.drew ?_)) 8 (by omega) _ ⟨by omega, by omega⟩
        · rw [← hR]
          exact RflatIn.set_other (by repeat (first | exact HQ.out.2.1 | refine RflatIn.drewN ?_ _ | refine RflatIn.drew ?_)) (Ne.symm n1) (Ne.symm n2) _
        · exact Touch.setCell (by repeat (first | exact HQ.out.2.2 | refine Touch.drewN ?_ _ | refine Touch.drew ?_)) (Or.inl (Or.inl rfl)) _
      · go_wp2_with (fail)
        rw [← hw3]
        clear hw3
        go_quiet (fail)
        go_wp2_with (fail)
        go_quiet (fail)
        go_wp2_with (fail)
        go_quiet (fail)
        by_cases hx : RA = 0
        · have ex : (RA == 0) = true := by simp [hx]
          have HX := Lib.hid hx
          clear hx
          go_wp2_with (fail)
          go_ret2
          have hR := HR4.out
          simp [doE, doR, doW, nextI, rkI, HRA.out.symm, HX.out] at hR
          refine ⟨by rw [← hR]; rfl, ?_, ?_, ?_⟩
          · rw [← hR]
            exact RegsIn.set (by repeat (first | exact HQ.out.1 | refine RegsIn.drewN ?_ _ | refine RegsIn.drew ?_)) 8 (by omega) _ ⟨by omega, by omega⟩
          · rw [← hR]
            exact RflatIn.set_other (by repeat (first | exact HQ.out.2.1 | refine RflatIn.drewN ?_ _ | refine RflatIn.drew ?_)) (Ne.symm n1) (Ne.symm n2) _
          · exact Touch.setCell (by repeat (first | exact HQ.out.2.2 | refine Touch.drewN ?_ _ | refine Touch.drew ?_)) (Or.inl (Or.inl rfl)) _
        · have ex : (RA == 0) = false := by simp [hx]
          have HX := Lib.hid hx
          clear hx
          go_wp2_with (fail)
          go_ret2
          have hR := HR4.out
          simp [doE, doR, doW, nextI, rkI, HRA.out.symm, HX.out] at hR
          refine ⟨by rw [← hR]; rfl, ?_, ?_, ?_⟩
          · rw [← hR]
            exact RegsIn.set (by repeat (first | exact HQ.out.1 | refine RegsIn.drewN ?_ _ | refine RegsIn.drew ?_)) 8 (by omega) _ ⟨by omega, by omega⟩
          · rw [← hR]
            exact RflatIn.set_other (by repeat (first | exact HQ.out.2.1 | refine RflatIn.drewN ?_ _ | refine RflatIn.drew ?_)) (Ne.symm n1) (Ne.symm n2) _
          · exact Touch.setCell (by repeat (first | exact HQ.out.2.2 | refine Touch.drewN ?_ _ | refine Touch.drew ?_)) (Or.inl (Or.inl rfl)) _
      · go_wp2_with (fail)
        rw [← hw3]
        clear hw3
        go_quiet (fail)
        go_wp2_with (fail)
        go_quiet (fail)
        go_wp2_with (fail)
        by_cases hlt : RB < RC
        · skip
          go_region_held3 (fun w' => w'.cell? ⟨w2.heap.size, 1, none⟩ = some (.int .i64 A)) (go_keep) (fail)
          all_goals go_wp2_with (fail)
          go_region_held3 (fun w' => w'.cell? ⟨w2.heap.size, 1, none⟩ = some (.int .i64 A)) (go_keep) (fail)
          all_goals go_wp2_with (fail)
          go_ret2
          have hR := HR4.out
          simp [doE, doR, doW, nextI, rkI, hlt] at hR
          refine ⟨by rw [← hR]; rfl, ?_, ?_, ?_⟩
          · rw [← hR]
            exact RegsIn.congr (r := setF (setF (setF r A.toNat 0) A.toNat 1) 8 ((PC + 1) % 65536)) (by repeat (first | exact HQ.out.1 | refine RegsIn.drewN ?_ _ | refine RegsIn.drew ?_ | refine RegsIn.set ?_ _ (by omega) _ ⟨by omega, by omega⟩)) (fun j => by simp only [setF]; split <;> first | rfl | (split <;> rfl))
          · rw [← hR]
            exact (by repeat (first | exact HQ.out.2.1 | refine RflatIn.drewN ?_ _ | refine RflatIn.drew ?_ | refine RflatIn.set_other ?_ (Ne.symm n1) (Ne.symm n2) _))
          · exact (by repeat (first | exact HQ.out.2.2 | refine Touch.drewN ?_ _ | refine Touch.drew ?_ | refine Touch.setCell ?_ (Or.inl (Or.inl rfl)) _))
        · skip
          go_region_held3 (fun w' => w'.cell? ⟨w2.heap.size, 1, none⟩ = some (.int .i64 A)) (go_keep) (fail)
          all_goals go_wp2_with (fail)
          go_ret2
          have hR := HR4.out
          simp [doE, doR, doW, nextI, rkI, hlt] at hR
          refine ⟨by rw [← hR]; rfl, ?_, ?_, ?_⟩
          · rw [← hR]
            exact RegsIn.congr (r := setF (setF r A.toNat 0) 8 ((PC + 1) % 65536)) (by repeat (first | exact HQ.out.1 | refine RegsIn.drewN ?_ _ | refine RegsIn.drew ?_ | refine RegsIn.set ?_ _ (by omega) _ ⟨by omega, by omega⟩)) (fun j => by (have hlt2 : ¬ RB < RC := by omega); simp only [setF, hlt2, if_false])
          · rw [← hR]
            exact (by repeat (first | exact HQ.out.2.1 | refine RflatIn.drewN ?_ _ | refine RflatIn.drew ?_ | refine RflatIn.set_other ?_ (Ne.symm n1) (Ne.symm n2) _))
          · exact (by repeat (first | exact HQ.out.2.2 | refine Touch.drewN ?_ _ | refine Touch.drew ?_ | refine Touch.setCell ?_ (Or.inl (Or.inl rfl)) _))
      · go_wp2_with (fail)
        rw [← hw3]
        clear hw3
        go_quiet (fail)
        go_wp2_with (fail)
        go_quiet (fail)
        go_wp2_with (fail)
        go_ret2
        have hR := HR4.out
        simp [doE, doR, doW, nextI, rkI] at hR
        refine ⟨by rw [← hR]; rfl, ?_, ?_, ?_⟩
        · rw [← hR]
          exact RegsIn.set (by repeat (first | exact HQ.out.1 | refine RegsIn.drewN ?_ _ | refine RegsIn.drew ?_)) 8 (by omega) _ ⟨by omega, by omega⟩
        · rw [← hR]
          exact RflatIn.set_other (by repeat (first | exact HQ.out.2.1 | refine RflatIn.drewN ?_ _ | refine RflatIn.drew ?_)) (Ne.symm n1) (Ne.symm n2) _
        · exact Touch.setCell (by repeat (first | exact HQ.out.2.2 | refine Touch.drewN ?_ _ | refine Touch.drew ?_)) (Or.inl (Or.inl rfl)) _
  · have hz' : (E != 0) = true := by simp [hz]
    have hR1 := HR.out
    rw [← HE.out, hz, if_pos (by simp)] at hR1
    have HR2 := Lib.hid hR1
    subst hz
    clear hR1 HR
    go_wp2_with (fail)
    go_ret2
    refine ⟨by rw [← HR2.out]; rfl, by rw [← HR2.out]; exact hr, by rw [← HR2.out]; exact hf, Touch.refl _ _⟩

end Go.Proofs.Ytfjfdhojhikgdaa
