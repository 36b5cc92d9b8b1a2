/- What cpu.Step returns and writes over flat words, by a walk over its text. -/
import Derived.Test.YtfjfdhojhikgdaaCpuDo
namespace Go.Proofs.Ytfjfdhojhikgdaa
set_option linter.unusedSimpArgs false
set_option linter.unusedVariables false
open Go.RowKit
set_option maxHeartbeats 8000000

theorem do_any (op : Int) (h0 : 0 ≤ op) (h1 : op ≤ 11) (pa pf bk base n cap : Nat) (W r : Nat → Int) (first : Int) (Ls : List Int) (lb : Option Nat) (a b c m : Int) (w : World) (a0 : 0 ≤ a) (a1 : a < 8) (b0 : 0 ≤ b) (b1 : b < 8) (c0 : 0 ≤ c) (c1 : c < 8) (m0 : 0 ≤ m) (m1 : m < 65536)
    (hr : RegsIn w pa r) (hf : FlatIn w pf bk base n cap W first Ls lb) (hl : Ls.length < 1000000) (hpa : pa < base) (n1 : pa ≠ pf) (n2 : pa ≠ bk) :
    Calls Try.prog 20 #[.pointer (some ⟨pa, 0, none⟩), .iface 28 (.pointer (some ⟨pf, 0, none⟩)), .agg #[.int .i64 op, .int .i64 a, .int .i64 b, .int .i64 c, .int .i64 m]] w fun e w' =>
      e = .returned (.int .i64 (doE op n first (IntKind.u64.wrap (r b.toNat + m) % 65536))) ∧ RegsIn w' pa (doR op n W r a.toNat (r b.toNat) (r c.toNat) m (IntKind.u64.wrap (r b.toNat + m) % 65536)) ∧
      (∃ lb', FlatIn w' pf bk base n cap (doW op n first W (IntKind.u64.wrap (r b.toNat + m) % 65536) (r a.toNat)) first (Ls ++ doL op (IntKind.u64.wrap (r b.toNat + m) % 65536)) lb' ∧ NewB w lb lb') ∧ Touch (TS pa pf bk lb) w w' := by
  rcases op_cases h0 h1 with h | h | h | h | h | h | h | h | h | h | h | h <;> subst h
  · exact do_0 pa pf bk base n cap W r first Ls lb a b c m w a0 a1 b0 b1 c0 c1 m0 m1 hr hf hl hpa n1 n2
  · exact do_1 pa pf bk base n cap W r first Ls lb a b c m w a0 a1 b0 b1 c0 c1 m0 m1 hr hf hl hpa n1 n2
  · exact do_2 pa pf bk base n cap W r first Ls lb a b c m w a0 a1 b0 b1 c0 c1 m0 m1 hr hf hl hpa n1 n2
  · exact do_3 pa pf bk base n cap W r first Ls lb a b c m w a0 a1 b0 b1 c0 c1 m0 m1 hr hf hl hpa n1 n2
  · exact do_4 pa pf bk base n cap W r first Ls lb a b c m w a0 a1 b0 b1 c0 c1 m0 m1 hr hf hl hpa n1 n2
  · exact do_5 pa pf bk base n cap W r first Ls lb a b c m w a0 a1 b0 b1 c0 c1 m0 m1 hr hf hl hpa n1 n2
  · exact do_6 pa pf bk base n cap W r first Ls lb a b c m w a0 a1 b0 b1 c0 c1 m0 m1 hr hf hl hpa n1 n2
  · exact do_7 pa pf bk base n cap W r first Ls lb a b c m w a0 a1 b0 b1 c0 c1 m0 m1 hr hf hl hpa n1 n2
  · exact do_8 pa pf bk base n cap W r first Ls lb a b c m w a0 a1 b0 b1 c0 c1 m0 m1 hr hf hl hpa n1 n2
  · exact do_9 pa pf bk base n cap W r first Ls lb a b c m w a0 a1 b0 b1 c0 c1 m0 m1 hr hf hl hpa n1 n2
  · exact do_10 pa pf bk base n cap W r first Ls lb a b c m w a0 a1 b0 b1 c0 c1 m0 m1 hr hf hl hpa n1 n2
  · exact do_11 pa pf bk base n cap W r first Ls lb a b c m w a0 a1 b0 b1 c0 c1 m0 m1 hr hf hl hpa n1 n2

/-- What a step comes to: what is called, the error, the registers, the words, the addresses that were loaded. -/
structure StepR where
  call : Int
  e : Int
  r : Nat → Int
  W : Nat → Int
  lo : List Int

def nextI (op m ra pc : Int) : Int := if op = 8 ∨ (op = 9 ∧ ra = 0) then m else (pc + 1) % 65536
/-- A step of an instruction's parts. -/
def stepI (n : Nat) (first : Int) (r W : Nat → Int) (pc op a b c m : Int) : StepR :=
  let at' := IntKind.u64.wrap (r b.toNat + m) % 65536
  let E := doE op n first at'
  let r1 := doR op n W r a.toNat (r b.toNat) (r c.toNat) m at'
  let W1 := doW op n first W at' (r a.toNat)
  if E ≠ 0 ∧ E ≠ 14 then ⟨0, E, r1, W1, [pc] ++ doL op at'⟩
  else ⟨if E = 14 then m else 0, E, setF r1 8 (nextI op m (r1 a.toNat) pc), W1, [pc] ++ doL op at'⟩
def stepM (n : Nat) (first : Int) (r W : Nat → Int) : StepR :=
  if ldE n (r 8 % 65536) ≠ 0 then ⟨0, 10, r, W, [r 8 % 65536]⟩
  else if okX (W (r 8 % 65536).toNat) = false then ⟨0, 11, r, W, [r 8 % 65536]⟩
  else stepI n first r W (r 8 % 65536) (xP (W (r 8 % 65536).toNat) 0) (xP (W (r 8 % 65536).toNat) 1) (xP (W (r 8 % 65536).toNat) 2) (xP (W (r 8 % 65536).toNat) 3) (xP (W (r 8 % 65536).toNat) 4)

theorem xP_bd (x : Int) (h : okX x = true) : (0 ≤ xP x 0 ∧ xP x 0 ≤ 11) ∧ (0 ≤ xP x 1 ∧ xP x 1 < 8) ∧ (0 ≤ xP x 2 ∧ xP x 2 < 8) ∧ (0 ≤ xP x 3 ∧ xP x 3 < 8) ∧ (0 ≤ xP x 4 ∧ xP x 4 < 65536) := by
  have h0 : x % 256 ≤ 11 := by
    have := h
    simp [okX, rightI] at this
    omega
  simp [xP, h, partI]
  omega

theorem ldE_cases (n : Nat) (a : Int) : ldE n a = 0 ∨ ldE n a = 10 := by unfold ldE; split <;> simp
theorem ldW_eq (n : Nat) (W : Nat → Int) (a : Int) (h : ldE n a = 0) : ldW n W a = W a.toNat := by
  unfold ldE at h; unfold ldW; split at h
  · rw [if_pos (by assumption)]
  · omega

/-- What the contract of a step says. -/
def StepPost (pa pf bk base n cap : Nat) (first : Int) (Ls : List Int) (lb : Option Nat) (w : World) (R : StepR) (e : Ending) (w' : World) : Prop :=
  e = .returned (.tuple #[.int .i64 R.call, .int .i64 R.e]) ∧ RegsIn w' pa R.r ∧ (∃ lb', FlatIn w' pf bk base n cap R.W first (Ls ++ R.lo) lb' ∧ NewB w lb lb') ∧ Touch (TS pa pf bk lb) w w'
theorem TF.old {w : World} {pf bk k : Nat} {lb lb' : Option Nat} (h : TF pf bk lb' k) (hn : NewB w lb lb') (hk : k < w.heap.size) : TF pf bk lb k := by
  rcases h with h | h | h
  · exact Or.inl h
  · exact Or.inr (Or.inl h)
  · rcases hn with hn | ⟨g, hn, hg⟩
    · exact Or.inr (Or.inr (by rw [← hn]; exact h))
    · rw [hn] at h; cases h; omega
theorem TS.old {w : World} {pa pf bk k : Nat} {lb lb' : Option Nat} (h : TS pa pf bk lb' k) (hn : NewB w lb lb') (hk : k < w.heap.size) : TS pa pf bk lb k := by
  rcases h with h | h
  · exact Or.inl h
  · exact Or.inr (h.old hn hk)

set_option maxRecDepth 100000 in
theorem step_walk (pa pf bk base n cap : Nat) (W r : Nat → Int) (first : Int) (Ls : List Int) (lb : Option Nat) (w : World)
    (hr : RegsIn w pa r) (hf : FlatIn w pf bk base n cap W first Ls lb) (hl : Ls.length < 900000) (hpa : pa < base) (n1 : pa ≠ pf) (n2 : pa ≠ bk) (R : StepR) (hR : stepM n first r W = R) :
    Calls Try.prog 12 #[.pointer (some ⟨pa, 0, none⟩), .iface 28 (.pointer (some ⟨pf, 0, none⟩))] w (StepPost pa pf bk base n cap first Ls lb w R) := by
  obtain ⟨P8, h8⟩ : ∃ x, x = r 8 := ⟨_, rfl⟩
  have q8 : w.cell? ⟨pa, 8, none⟩ = some (.int .u64 P8) := by rw [h8]; exact hr.row.cell 8 (by omega)
  obtain ⟨p80, p81⟩ := hr.rng 8
  rw [← h8] at p80 p81
  obtain ⟨PC, hPC⟩ : ∃ x, x = P8 % 65536 := ⟨_, rfl⟩
  have pc0 : 0 ≤ PC := by omega
  have pc1 : PC < 65536 := by omega
  have hb := hf.hb
  have hps : pa < w.heap.size := by omega
  unfold stepM at hR
  rw [← h8, ← hPC] at hR
  have HPC : Hid (P8 % 65536 = PC) := Lib.hid hPC.symm
  have HR := Lib.hid hR
  have H8 := Lib.hid h8
  clear hR hPC h8
  have np : ¬ TF pf bk lb pa := by
    rintro (h | h | h)
    · omega
    · omega
    · have := (hf.lb_ge pa h).1; omega
  go_enter Try.func12, Try.ntmps12
  go_wp2_with (fail)
  refine (address_any _ _ p80 p81).mono ?_
  rintro e w1 ⟨rfl, hw1⟩
  obtain rfl := hw1.symm
  rw [HPC.out]
  obtain ⟨X, hX⟩ : ∃ X, X = ldW n W PC := ⟨_, rfl⟩
  obtain ⟨E, hE⟩ : ∃ E, E = ldE n PC := ⟨_, rfl⟩
  have hXb : 0 ≤ X ∧ X < 18446744073709551616 := by
    rw [hX]; unfold ldW; split
    · exact hf.words.rng _
    · omega
  obtain ⟨x0, x1⟩ := hXb
  have hE2 : E = 0 ∨ E = 10 := by rw [hE]; exact ldE_cases n PC
  have HX := Lib.hid hX; have HE := Lib.hid hE
  clear hX hE
  go_wp2_with (fail)
  refine (flat_load pf bk base n cap W first Ls lb PC _ hf (by omega) X E HX.out.symm HE.out.symm).mono ?_
  rintro e w1 ⟨rfl, ⟨lb1, hf1, hnb1⟩, ht1⟩
  have hr1 : RegsIn w1 pa r := hr.touch ht1 np
  have hts1 : Touch (TS pa pf bk lb) w w1 := ht1.mono (fun k _ h => Or.inr h)
  rcases hE2 with hz | hz
  · have hz' : (E != 0) = false := by simp [hz]
    have hR1 := HR.out
    rw [← HE.out, hz, if_neg (by simp)] at hR1
    have hXW : X = W PC.toNat := by rw [HX.out]; exact ldW_eq n W PC (by rw [← HE.out, hz])
    rw [← hXW] at hR1
    have HR2 := Lib.hid hR1
    clear hR1 HR hXW hz
    have hz : E = 0 := by simpa using hz'
    subst hz
    go_wp2_with (fail)
    refine (of12_any X _ x0 x1).mono ?_
    rintro e w2 ⟨rfl, hb2⟩
    have hf2 := hf1.below hb2
    have hr2 := hr1.below hb2
    have hts2 : Touch (TS pa pf bk lb) w w2 := hts1.trans (Touch.of_below hb2)
    cases hok : okX X
    · have hR3 := HR2.out
      rw [hok, if_pos rfl] at hR3
      have hxe : xE X = 11 := by simp [xE, hok]
      rw [hxe]
      have HR3 := Lib.hid hR3
      clear hR3 HR2 hxe hok
      go_wp2_with (fail)
      go_ret2
      exact ⟨by rw [← HR3.out]; rfl, by rw [← HR3.out]; exact hr2.below ((Below.refl _ _).alloc (Nat.le_refl _) _), by rw [← HR3.out]; exact ⟨lb1, hf2.below ((Below.refl _ _).alloc (Nat.le_refl _) _), hnb1⟩, hts2.alloc _⟩
    · have hR3 := HR2.out
      rw [hok, if_neg (by simp)] at hR3
      have hxe : xE X = 0 := by simp [xE, hok]
      rw [hxe]
      obtain ⟨bo, ba, bb, bc, bm⟩ := xP_bd X hok
      clear hxe hok HR2
      generalize xP X 0 = OP at *
      generalize xP X 1 = A at *
      generalize xP X 2 = B at *
      generalize xP X 3 = C at *
      generalize xP X 4 = M at *
      obtain ⟨o0, o1⟩ := bo
      obtain ⟨a0, a1⟩ := ba
      obtain ⟨b0, b1⟩ := bb
      obtain ⟨c0, c1⟩ := bc
      obtain ⟨m0, m1⟩ := bm
      have HR3 := Lib.hid hR3
      clear hR3
      obtain ⟨w3, hw3⟩ : ∃ w3, w3 = w2.alloc (.cells #[.int .i64 OP, .int .i64 A, .int .i64 B, .int .i64 C, .int .i64 M] 50) := ⟨_, rfl⟩
      have hb3 : Below w2.heap.size w2 w3 := by rw [hw3]; exact (Below.refl _ _).alloc (Nat.le_refl _) _
      have s3 : w2.heap.size < w3.heap.size := by rw [hw3]; simp
      have d0 : w3.cell? ⟨w2.heap.size, 0, none⟩ = some (.int .i64 OP) := by rw [hw3]; simp [go_sem]
      have d1 : w3.cell? ⟨w2.heap.size, 1, none⟩ = some (.int .i64 A) := by rw [hw3]; simp [go_sem]
      have d2 : w3.cell? ⟨w2.heap.size, 2, none⟩ = some (.int .i64 B) := by rw [hw3]; simp [go_sem]
      have d3 : w3.cell? ⟨w2.heap.size, 3, none⟩ = some (.int .i64 C) := by rw [hw3]; simp [go_sem]
      have d4 : w3.cell? ⟨w2.heap.size, 4, none⟩ = some (.int .i64 M) := by rw [hw3]; simp [go_sem]
      have hf3 := hf2.below hb3
      have hr3 := hr2.below hb3
      have hts3 : Touch (TS pa pf bk lb) w w3 := hts2.trans (Touch.of_below hb3)
      go_wp2_with (fail)
      rw [← hw3]
      clear hw3
      obtain ⟨AT, hAT⟩ : ∃ x, x = IntKind.u64.wrap (r B.toNat + M) % 65536 := ⟨_, rfl⟩
      obtain ⟨E, hE⟩ : ∃ x, x = doE OP n first AT := ⟨_, rfl⟩
      obtain ⟨r1, hr1'⟩ : ∃ x, x = doR OP n W r A.toNat (r B.toNat) (r C.toNat) M AT := ⟨_, rfl⟩
      obtain ⟨W1, hW1⟩ : ∃ x, x = doW OP n first W AT (r A.toNat) := ⟨_, rfl⟩
      obtain ⟨L1, hL1⟩ : ∃ x, x = doL OP AT := ⟨_, rfl⟩
      have hR4 := HR3.out
      unfold stepI at hR4
      simp only at hR4
      rw [← hAT, ← hE, ← hr1', ← hW1, ← hL1] at hR4
      have HR4 := Lib.hid hR4
      clear hR4 HR3
      refine (do_any OP o0 o1 pa pf bk base n cap W r first (Ls ++ [PC]) lb1 A B C M _ a0 a1 b0 b1 c0 c1 m0 m1 hr3 hf3 (by simp; omega) hpa n1 n2).mono ?_
      rw [← hAT, ← hE, ← hr1', ← hW1, ← hL1]
      rintro e w4 ⟨rfl, hr4, ⟨lb4, hf4, hnb4⟩, ht4⟩
      clear hAT hE hr1' hW1 hL1
      have ni : ¬ TS pa pf bk lb1 w2.heap.size := by
        have s1 := hb2.size
        have h1 := hf2.pf_lt; have h2 := hf2.bk_lt; have h3 := hf2.hb
        rintro (h | h | h | h)
        · omega
        · omega
        · omega
        · have := (hf2.lb_ge _ h).2; omega
      have hts4 : Touch (TS pa pf bk lb) w w4 := hts3.trans' ht4 (fun j hj h => h.old hnb1 hj)
      have hnb : NewB w lb lb4 := hnb1.trans hnb4 (by have := hts3.size; exact this)
      have HNB := Lib.hid hnb
      have s4 := ht4.size
      have d0 := keepT ht4 s3 ni d0
      have d1 := keepT ht4 s3 ni d1
      have d4 := keepT ht4 s3 ni d4
      have hpl : pa < w4.heap.size := by have := hts4.size; omega
      have f8 := hr4.row.free 8 (by omega)
      have q8 := hr4.row.cell 8 (by omega)
      generalize r1 8 = R8 at q8
      obtain ⟨RX, hRX⟩ : ∃ x, x = r1 A.toNat := ⟨_, rfl⟩
      have qx : w4.cell? ⟨pa, A.toNat, none⟩ = some (.int .u64 RX) := by rw [hRX]; exact hr4.row.cell A.toNat (by omega)
      rw [← hRX] at HR4
      have HRX := Lib.hid hRX
      clear hRX hnb
      by_cases he : E = 0 ∨ E = 14
      · have hR5 := HR4.out
        rw [if_neg (by omega)] at hR5
        have hN : OP = 8 ∨ (¬ OP = 8 ∧ OP = 9 ∧ RX = 0) ∨ (¬ OP = 8 ∧ OP = 9 ∧ ¬ RX = 0) ∨ (¬ OP = 8 ∧ ¬ OP = 9) := by omega
        obtain ⟨NX, hNX⟩ : ∃ x, x = nextI OP M RX PC := ⟨_, rfl⟩
        rw [← hNX] at hR5
        have HR5 := Lib.hid hR5
        clear hR5 HR4
        have hfin : ∀ wz, RegsIn wz pa r1 → FlatIn wz pf bk base n cap W1 first (Ls ++ [PC] ++ L1) lb4 → Touch (TS pa pf bk lb) w wz → 0 ≤ NX → NX < 18446744073709551616 →
            RegsIn (wz.setCell ⟨pa, 8, none⟩ (.int .u64 NX)) pa R.r ∧ (∃ lb', FlatIn (wz.setCell ⟨pa, 8, none⟩ (.int .u64 NX)) pf bk base n cap R.W first (Ls ++ R.lo) lb' ∧ NewB w lb lb') ∧ Touch (TS pa pf bk lb) w (wz.setCell ⟨pa, 8, none⟩ (.int .u64 NX)) := by
          intro wz h1 h2 h3 x0 x1
          rw [← HR5.out]
          refine ⟨h1.set 8 (by omega) NX ⟨x0, x1⟩, ⟨lb4, ?_, HNB.out⟩, h3.setCell (Or.inl (Or.inl rfl)) _⟩
          rw [← List.append_assoc]
          exact h2.set_other (Ne.symm n1) (Ne.symm n2) hpa _
        have HFIN := Lib.hid hfin
        clear hfin
        have hcall : R.call = (if E = 14 then M else 0) ∧ R.e = E := by rw [← HR5.out]; exact ⟨rfl, rfl⟩
        have HC := Lib.hid hcall
        clear hcall
        have HQ : Hid (RegsIn w4 pa r1 ∧ FlatIn w4 pf bk base n cap W1 first (Ls ++ [PC] ++ L1) lb4 ∧ Touch (TS pa pf bk lb) w w4) := Lib.hid ⟨hr4, hf4, hts4⟩
        clear hr4 hf4 hts4
        rcases hN with h8 | ⟨h8, h9, hx⟩ | ⟨h8, h9, hx⟩ | ⟨h8, h9⟩
        · have e8 : (OP == 8) = true := by simp [h8]
          have hv : NX = M % 65536 := by rw [hNX]; unfold nextI; rw [if_pos (Or.inl h8)]; omega
          have HV := Lib.hid hv
          have nx0 : 0 ≤ NX := by omega
          have nx1 : NX < 65536 := by omega
          clear hv hNX
          try clear h8
          try clear h9
          try clear hx
          rcases he with he | he
          · have e0 : (E != 0) = false := by simp [he]
            have e14 : (E == 14) = false := by simp [he]
            have HC2 : Hid (R.call = 0 ∧ R.e = 0) := by show _ ∧ _; refine ⟨by rw [HC.out.1, if_neg (by omega)], by rw [HC.out.2, he]⟩
            clear HC he
            go_wp2_with (fail)
            go_quiet (fail)
            go_wp2_with (fail)
            rw [← HV.out]
            go_ret2
            obtain ⟨h1, h2⟩ := HC2.out
            refine ⟨by rw [h1, h2]; rfl, ?_⟩
            obtain ⟨g1, g2, g3⟩ := HQ.out
            exact HFIN.out _ (g1.drewN _) (g2.drewN _) (g3.drewN _) (by omega) (by omega)
          · have e0 : (E != 0) = true := by simp [he]
            have e1 : (E != 14) = false := by simp [he]
            have e14 : (E == 14) = true := by simp [he]
            have HC2 : Hid (R.call = M ∧ R.e = E) := by show _ ∧ _; refine ⟨by rw [HC.out.1, if_pos he], HC.out.2⟩
            clear HC he
            go_wp2_with (fail)
            go_quiet (fail)
            go_wp2_with (fail)
            rw [← HV.out]
            go_ret2
            obtain ⟨h1, h2⟩ := HC2.out
            refine ⟨by rw [h1, h2]; rfl, ?_⟩
            obtain ⟨g1, g2, g3⟩ := HQ.out
            exact HFIN.out _ (g1.drewN _) (g2.drewN _) (g3.drewN _) (by omega) (by omega)
        · have e8 : (OP == 8) = false := by simp [h8]
          have e9 : (OP == 9) = true := by simp [h9]
          have ex : (RX == 0) = true := by simp [hx]
          have hv : NX = M % 65536 := by rw [hNX]; unfold nextI; rw [if_pos (Or.inr ⟨h9, hx⟩)]; omega
          have HV := Lib.hid hv
          have nx0 : 0 ≤ NX := by omega
          have nx1 : NX < 65536 := by omega
          clear hv hNX
          try clear h8
          try clear h9
          try clear hx
          rcases he with he | he
          · have e0 : (E != 0) = false := by simp [he]
            have e14 : (E == 14) = false := by simp [he]
            have HC2 : Hid (R.call = 0 ∧ R.e = 0) := by show _ ∧ _; refine ⟨by rw [HC.out.1, if_neg (by omega)], by rw [HC.out.2, he]⟩
            clear HC he
            go_wp2_with (fail)
            go_quiet (fail)
            go_wp2_with (fail)
            rw [← HV.out]
            go_ret2
            obtain ⟨h1, h2⟩ := HC2.out
            refine ⟨by rw [h1, h2]; rfl, ?_⟩
            obtain ⟨g1, g2, g3⟩ := HQ.out
            exact HFIN.out _ (g1.drewN _) (g2.drewN _) (g3.drewN _) (by omega) (by omega)
          · have e0 : (E != 0) = true := by simp [he]
            have e1 : (E != 14) = false := by simp [he]
            have e14 : (E == 14) = true := by simp [he]
            have HC2 : Hid (R.call = M ∧ R.e = E) := by show _ ∧ _; refine ⟨by rw [HC.out.1, if_pos he], HC.out.2⟩
            clear HC he
            go_wp2_with (fail)
            go_quiet (fail)
            go_wp2_with (fail)
            rw [← HV.out]
            go_ret2
            obtain ⟨h1, h2⟩ := HC2.out
            refine ⟨by rw [h1, h2]; rfl, ?_⟩
            obtain ⟨g1, g2, g3⟩ := HQ.out
            exact HFIN.out _ (g1.drewN _) (g2.drewN _) (g3.drewN _) (by omega) (by omega)
        · have e8 : (OP == 8) = false := by simp [h8]
          have e9 : (OP == 9) = true := by simp [h9]
          have ex : (RX == 0) = false := by simp [hx]
          have hv : NX = (PC + 1) % 65536 := by rw [hNX]; unfold nextI; rw [if_neg]; rintro (h | h); exact h8 h; exact hx h.2
          have HV := Lib.hid hv
          have nx0 : 0 ≤ NX := by omega
          have nx1 : NX < 65536 := by omega
          clear hv hNX
          try clear h8
          try clear h9
          try clear hx
          rcases he with he | he
          · have e0 : (E != 0) = false := by simp [he]
            have e14 : (E == 14) = false := by simp [he]
            have HC2 : Hid (R.call = 0 ∧ R.e = 0) := by show _ ∧ _; refine ⟨by rw [HC.out.1, if_neg (by omega)], by rw [HC.out.2, he]⟩
            clear HC he
            go_wp2_with (fail)
            go_quiet (fail)
            go_wp2_with (fail)
            rw [← HV.out]
            go_ret2
            obtain ⟨h1, h2⟩ := HC2.out
            refine ⟨by rw [h1, h2]; rfl, ?_⟩
            obtain ⟨g1, g2, g3⟩ := HQ.out
            exact HFIN.out _ (g1.drewN _) (g2.drewN _) (g3.drewN _) (by omega) (by omega)
          · have e0 : (E != 0) = true := by simp [he]
            have e1 : (E != 14) = false := by simp [he]
            have e14 : (E == 14) = true := by simp [he]
            have HC2 : Hid (R.call = M ∧ R.e = E) := by show _ ∧ _; refine ⟨by rw [HC.out.1, if_pos he], HC.out.2⟩
            clear HC he
            go_wp2_with (fail)
            go_quiet (fail)
            go_wp2_with (fail)
            rw [← HV.out]
            go_ret2
            obtain ⟨h1, h2⟩ := HC2.out
            refine ⟨by rw [h1, h2]; rfl, ?_⟩
            obtain ⟨g1, g2, g3⟩ := HQ.out
            exact HFIN.out _ (g1.drewN _) (g2.drewN _) (g3.drewN _) (by omega) (by omega)
        · have e8 : (OP == 8) = false := by simp [h8]
          have e9 : (OP == 9) = false := by simp [h9]
          have hv : NX = (PC + 1) % 65536 := by rw [hNX]; unfold nextI; rw [if_neg]; rintro (h | h); exact h8 h; exact h9 h.1
          have HV := Lib.hid hv
          have nx0 : 0 ≤ NX := by omega
          have nx1 : NX < 65536 := by omega
          clear hv hNX
          try clear h8
          try clear h9
          try clear hx
          rcases he with he | he
          · have e0 : (E != 0) = false := by simp [he]
            have e14 : (E == 14) = false := by simp [he]
            have HC2 : Hid (R.call = 0 ∧ R.e = 0) := by show _ ∧ _; refine ⟨by rw [HC.out.1, if_neg (by omega)], by rw [HC.out.2, he]⟩
            clear HC he
            go_wp2_with (fail)
            go_quiet (fail)
            go_wp2_with (fail)
            rw [← HV.out]
            go_ret2
            obtain ⟨h1, h2⟩ := HC2.out
            refine ⟨by rw [h1, h2]; rfl, ?_⟩
            obtain ⟨g1, g2, g3⟩ := HQ.out
            exact HFIN.out _ (g1.drewN _) (g2.drewN _) (g3.drewN _) (by omega) (by omega)
          · have e0 : (E != 0) = true := by simp [he]
            have e1 : (E != 14) = false := by simp [he]
            have e14 : (E == 14) = true := by simp [he]
            have HC2 : Hid (R.call = M ∧ R.e = E) := by show _ ∧ _; refine ⟨by rw [HC.out.1, if_pos he], HC.out.2⟩
            clear HC he
            go_wp2_with (fail)
            go_quiet (fail)
            go_wp2_with (fail)
            rw [← HV.out]
            go_ret2
            obtain ⟨h1, h2⟩ := HC2.out
            refine ⟨by rw [h1, h2]; rfl, ?_⟩
            obtain ⟨g1, g2, g3⟩ := HQ.out
            exact HFIN.out _ (g1.drewN _) (g2.drewN _) (g3.drewN _) (by omega) (by omega)
      · have e0 : (E != 0) = true := by simp; omega
        have e14 : (E != 14) = true := by simp; omega
        have hR5 := HR4.out
        rw [if_pos (by omega)] at hR5
        have HR5 := Lib.hid hR5
        clear hR5 HR4 he
        go_wp2_with (fail)
        go_ret2
        refine ⟨by rw [← HR5.out]; rfl, by rw [← HR5.out]; exact hr4, ?_, hts4⟩
        rw [← HR5.out, ← List.append_assoc]
        exact ⟨lb4, hf4, HNB.out⟩
  · have hz' : (E != 0) = true := by simp [hz]
    have hR1 := HR.out
    rw [← HE.out, hz, if_pos (by simp)] at hR1
    have HR2 := Lib.hid hR1
    subst hz
    clear hR1 HR
    go_wp2_with (fail)
    go_ret2
    refine ⟨by rw [← HR2.out]; rfl, by rw [← HR2.out]; exact hr1, by rw [← HR2.out]; exact ⟨lb1, hf1, hnb1⟩, hts1⟩

end Go.Proofs.Ytfjfdhojhikgdaa
