/- What cpu.do returns and writes, by a walk over its text (written by gen_cpu.py). -/
import Derived.Test.YtfjfdhojhikgdaaCpu
namespace Go.Proofs.Ytfjfdhojhikgdaa
set_option linter.unusedSimpArgs false
set_option linter.unusedVariables false
open Go.RowKit
set_option maxHeartbeats 4000000

def doE (op : Int) (n : Nat) (first a : Int) : Int := if op = 0 then 13 else if op = 11 then 14 else if op = 6 then ldE n a else if op = 7 then stE n first a else 0
def doR (op : Int) (n : Nat) (W r : Nat → Int) (A : Nat) (b c m a : Int) : Nat → Int :=
  if op = 2 ∨ op = 3 ∨ op = 4 ∨ op = 5 ∨ op = 10 then setF r A (rkI op b c) else if op = 1 then setF r A m else if op = 6 ∧ ldE n a = 0 then setF r A (W a.toNat) else r
def doW (op : Int) (n : Nat) (first : Int) (W : Nat → Int) (a x : Int) : Nat → Int := if op = 7 then stW n first W a x else W
def doL (op a : Int) : List Int := if op = 6 then [a] else []
theorem FlatIn.lb_ge {w : World} {pf bk base n cap : Nat} {W : Nat → Int} {first : Int} {Ls : List Int} {lb : Option Nat} (h : FlatIn w pf bk base n cap W first Ls lb) (g : Nat) (hg : lb = some g) : base ≤ g ∧ g < w.heap.size := by
  obtain ⟨v, _, ho, hl⟩ := h.los
  exact ho.lt g (by rw [hl]; exact hg)
theorem RegsIn.drewN {w : World} {pa : Nat} {r : Nat → Int} (h : RegsIn w pa r) (q : Nat) : RegsIn (w.drewN q) pa r := ⟨h.row.drewN q, h.rng⟩
theorem FlatIn.drewN {w : World} {pf bk base n cap : Nat} {W : Nat → Int} {first : Int} {Ls : List Int} {lb : Option Nat} (h : FlatIn w pf bk base n cap W first Ls lb) (q : Nat) : FlatIn (w.drewN q) pf bk base n cap W first Ls lb :=
  h.touch (S := fun _ => False) (Touch.drewN (Touch.refl _ _) q) id id (fun _ _ => id)
theorem RegsIn.drew {w : World} {pa : Nat} {r : Nat → Int} (h : RegsIn w pa r) : RegsIn w.drew pa r := ⟨h.row.drew, h.rng⟩
theorem FlatIn.drew {w : World} {pf bk base n cap : Nat} {W : Nat → Int} {first : Int} {Ls : List Int} {lb : Option Nat} (h : FlatIn w pf bk base n cap W first Ls lb) : FlatIn w.drew pf bk base n cap W first Ls lb :=
  h.touch (S := fun _ => False) (Touch.drew (Touch.refl _ _)) id id (fun _ _ => id)
theorem FlatIn.set_other {w : World} {pf bk base n cap : Nat} {W : Nat → Int} {first : Int} {Ls : List Int} {lb : Option Nat} (h : FlatIn w pf bk base n cap W first Ls lb) {p : Addr} (h1 : pf ≠ p.block) (h2 : bk ≠ p.block) (h3 : p.block < base) (u : Value) : FlatIn (w.setCell p u) pf bk base n cap W first Ls lb :=
  h.touch (S := fun k => k = p.block) (Touch.setCell (S := fun k => k = p.block) (Touch.refl _ _) (Or.inl rfl) _) h1 h2 (fun g hg e => by have := h.lb_ge g hg; omega)
theorem cellR {w : World} {pa : Nat} {r r' : Nat → Int} (h : RegsIn w pa r) (e : r' = r) : RegsIn w pa r' := by rw [e]; exact h
theorem cellF {w : World} {pf bk base n cap : Nat} {W W' : Nat → Int} {first : Int} {Ls Ls' Ls'' : List Int} {w0 : World} {lb lb' : Option Nat} (h : FlatIn w pf bk base n cap W first Ls' lb') (e : W' = W) (e2 : Ls ++ Ls'' = Ls') (hn : NewB w0 lb lb') : ∃ lb', FlatIn w pf bk base n cap W' first (Ls ++ Ls'') lb' ∧ NewB w0 lb lb' := by rw [e, e2]; exact ⟨_, h, hn⟩
def TS (pa pf bk : Nat) (lb : Option Nat) : Nat → Prop := fun b => b = pa ∨ TF pf bk lb b

set_option maxRecDepth 100000 in
theorem do_0 (pa pf bk base n cap : Nat) (W r : Nat → Int) (first : Int) (Ls : List Int) (lb : Option Nat) (a b c m : Int) (w : World) (a0 : 0 ≤ a) (a1 : a < 8) (b0 : 0 ≤ b) (b1 : b < 8) (c0 : 0 ≤ c) (c1 : c < 8) (m0 : 0 ≤ m) (m1 : m < 65536)
    (hr : RegsIn w pa r) (hf : FlatIn w pf bk base n cap W first Ls lb) (hl : Ls.length < 1000000) (hpa : pa < base) (n1 : pa ≠ pf) (n2 : pa ≠ bk) :
    Calls Try.prog 20 #[.pointer (some ⟨pa, 0, none⟩), .iface 28 (.pointer (some ⟨pf, 0, none⟩)), .agg #[.int .i64 0, .int .i64 a, .int .i64 b, .int .i64 c, .int .i64 m]] w fun e w' =>
      e = .returned (.int .i64 (doE 0 n first (IntKind.u64.wrap (r b.toNat + m) % 65536))) ∧ RegsIn w' pa (doR 0 n W r a.toNat (r b.toNat) (r c.toNat) m (IntKind.u64.wrap (r b.toNat + m) % 65536)) ∧
      (∃ lb', FlatIn w' pf bk base n cap (doW 0 n first W (IntKind.u64.wrap (r b.toNat + m) % 65536) (r a.toNat)) first (Ls ++ doL 0 (IntKind.u64.wrap (r b.toNat + m) % 65536)) lb' ∧ NewB w lb lb') ∧ Touch (TS pa pf bk lb) w w' := by
  obtain ⟨RA, hRA⟩ : ∃ x, x = r a.toNat := ⟨_, rfl⟩
  obtain ⟨RB, hRB⟩ : ∃ x, x = r b.toNat := ⟨_, rfl⟩
  obtain ⟨RC, hRC⟩ : ∃ x, x = r c.toNat := ⟨_, rfl⟩
  have qa : w.cell? ⟨pa, a.toNat, none⟩ = some (.int .u64 RA) := by rw [hRA]; exact hr.row.cell a.toNat (by omega)
  have qb : w.cell? ⟨pa, b.toNat, none⟩ = some (.int .u64 RB) := by rw [hRB]; exact hr.row.cell b.toNat (by omega)
  have qc : w.cell? ⟨pa, c.toNat, none⟩ = some (.int .u64 RC) := by rw [hRC]; exact hr.row.cell c.toNat (by omega)
  have fa := hr.row.free a.toNat (by omega)
  obtain ⟨ra0, ra1⟩ := hr.rng a.toNat
  obtain ⟨rb0, rb1⟩ := hr.rng b.toNat
  obtain ⟨rc0, rc1⟩ := hr.rng c.toNat
  have hb := hf.hb
  have hps : pa < w.heap.size := by omega
  have hpf : pf < w.heap.size := by have := hf.pf_lt; omega
  rw [← hRA] at ra0 ra1
  rw [← hRB] at rb0 rb1
  rw [← hRC] at rc0 rc1
  rw [← hRA, ← hRB, ← hRC]
  have HRA := Lib.hid hRA; have HRB := Lib.hid hRB; have HRC := Lib.hid hRC
  clear hRA hRB hRC
  have hk := rkI_bd 0 RB RC
  obtain ⟨k0, k1⟩ := hk
  obtain ⟨AT, hAT⟩ : ∃ x, x = IntKind.u64.wrap (RB + m) % 65536 := ⟨_, rfl⟩
  obtain ⟨WR, hWR⟩ : ∃ x, x = IntKind.u64.wrap (RB + m) := ⟨_, rfl⟩
  have hW := wrap_bd (RB + m)
  rw [← hWR] at hW
  obtain ⟨w0, w1⟩ := hW
  rw [← hAT]
  have HAT : Hid (WR % 65536 = AT) := by show _ = _; rw [hWR, hAT]
  have HWR := Lib.hid hWR.symm
  clear hAT hWR
  have hA : isAlu 0 = false := rfl
  go_enter Try.func20, Try.ntmps20
  go_wp2_with (fail)
  go_quiet (fail)
  go_wp2_with (fail)
  go_quiet ((go_at_call 29; exact quiet_again (reckon_any 0 RB RC _ (by omega) (by omega) (by omega) (by omega) (by omega) (by omega))))
  go_wp2_with (fail)
  go_quiet ((go_at_call 18; exact quiet_again (address_any _ _ (by rw [HWR.out]; exact w0) (by rw [HWR.out]; exact w1))))
  rw [HWR.out, HAT.out]
  go_wp2_with (fail)
  go_ret
  refine ⟨rfl, ?_, ?_, ?_⟩
  · refine cellR (r := r) ?_ ?_
    · exact (by repeat (first | exact hr.below ((Below.refl _ _).alloc (Nat.le_refl _) _) | refine RegsIn.drewN ?_ _))
    · simp [doR]
  · refine cellF (W := W) (Ls' := Ls) ?_ (by simp [doW]) (by simp [doL]) (NewB.refl _ _)
    exact (by repeat (first | exact hf.below ((Below.refl _ _).alloc (Nat.le_refl _) _) | refine FlatIn.drewN ?_ _))
  · exact (by repeat (first | exact (Touch.refl _ _).alloc _ | refine Touch.drewN ?_ _))
set_option maxRecDepth 100000 in
theorem do_1 (pa pf bk base n cap : Nat) (W r : Nat → Int) (first : Int) (Ls : List Int) (lb : Option Nat) (a b c m : Int) (w : World) (a0 : 0 ≤ a) (a1 : a < 8) (b0 : 0 ≤ b) (b1 : b < 8) (c0 : 0 ≤ c) (c1 : c < 8) (m0 : 0 ≤ m) (m1 : m < 65536)
    (hr : RegsIn w pa r) (hf : FlatIn w pf bk base n cap W first Ls lb) (hl : Ls.length < 1000000) (hpa : pa < base) (n1 : pa ≠ pf) (n2 : pa ≠ bk) :
    Calls Try.prog 20 #[.pointer (some ⟨pa, 0, none⟩), .iface 28 (.pointer (some ⟨pf, 0, none⟩)), .agg #[.int .i64 1, .int .i64 a, .int .i64 b, .int .i64 c, .int .i64 m]] w fun e w' =>
      e = .returned (.int .i64 (doE 1 n first (IntKind.u64.wrap (r b.toNat + m) % 65536))) ∧ RegsIn w' pa (doR 1 n W r a.toNat (r b.toNat) (r c.toNat) m (IntKind.u64.wrap (r b.toNat + m) % 65536)) ∧
      (∃ lb', FlatIn w' pf bk base n cap (doW 1 n first W (IntKind.u64.wrap (r b.toNat + m) % 65536) (r a.toNat)) first (Ls ++ doL 1 (IntKind.u64.wrap (r b.toNat + m) % 65536)) lb' ∧ NewB w lb lb') ∧ Touch (TS pa pf bk lb) w w' := by
  obtain ⟨RA, hRA⟩ : ∃ x, x = r a.toNat := ⟨_, rfl⟩
  obtain ⟨RB, hRB⟩ : ∃ x, x = r b.toNat := ⟨_, rfl⟩
  obtain ⟨RC, hRC⟩ : ∃ x, x = r c.toNat := ⟨_, rfl⟩
  have qa : w.cell? ⟨pa, a.toNat, none⟩ = some (.int .u64 RA) := by rw [hRA]; exact hr.row.cell a.toNat (by omega)
  have qb : w.cell? ⟨pa, b.toNat, none⟩ = some (.int .u64 RB) := by rw [hRB]; exact hr.row.cell b.toNat (by omega)
  have qc : w.cell? ⟨pa, c.toNat, none⟩ = some (.int .u64 RC) := by rw [hRC]; exact hr.row.cell c.toNat (by omega)
  have fa := hr.row.free a.toNat (by omega)
  obtain ⟨ra0, ra1⟩ := hr.rng a.toNat
  obtain ⟨rb0, rb1⟩ := hr.rng b.toNat
  obtain ⟨rc0, rc1⟩ := hr.rng c.toNat
  have hb := hf.hb
  have hps : pa < w.heap.size := by omega
  have hpf : pf < w.heap.size := by have := hf.pf_lt; omega
  rw [← hRA] at ra0 ra1
  rw [← hRB] at rb0 rb1
  rw [← hRC] at rc0 rc1
  rw [← hRA, ← hRB, ← hRC]
  have HRA := Lib.hid hRA; have HRB := Lib.hid hRB; have HRC := Lib.hid hRC
  clear hRA hRB hRC
  have hk := rkI_bd 1 RB RC
  obtain ⟨k0, k1⟩ := hk
  obtain ⟨AT, hAT⟩ : ∃ x, x = IntKind.u64.wrap (RB + m) % 65536 := ⟨_, rfl⟩
  obtain ⟨WR, hWR⟩ : ∃ x, x = IntKind.u64.wrap (RB + m) := ⟨_, rfl⟩
  have hW := wrap_bd (RB + m)
  rw [← hWR] at hW
  obtain ⟨w0, w1⟩ := hW
  rw [← hAT]
  have HAT : Hid (WR % 65536 = AT) := by show _ = _; rw [hWR, hAT]
  have HWR := Lib.hid hWR.symm
  clear hAT hWR
  have hA : isAlu 1 = false := rfl
  go_enter Try.func20, Try.ntmps20
  go_wp2_with (fail)
  go_quiet (fail)
  go_wp2_with (fail)
  go_quiet ((go_at_call 29; exact quiet_again (reckon_any 1 RB RC _ (by omega) (by omega) (by omega) (by omega) (by omega) (by omega))))
  go_wp2_with (fail)
  go_quiet ((go_at_call 18; exact quiet_again (address_any _ _ (by rw [HWR.out]; exact w0) (by rw [HWR.out]; exact w1))))
  rw [HWR.out, HAT.out]
  go_wp2_with (fail)
  go_ret
  refine ⟨rfl, ?_, ?_, ?_⟩
  · refine cellR (r := setF r a.toNat m) ?_ ?_
    · exact RegsIn.set (by repeat (first | exact hr.below ((Below.refl _ _).alloc (Nat.le_refl _) _) | refine RegsIn.drewN ?_ _)) a.toNat (by omega) m ⟨m0, by omega⟩
    · simp [doR]
  · refine cellF (W := W) (Ls' := Ls) ?_ (by simp [doW]) (by simp [doL]) (NewB.refl _ _)
    exact FlatIn.set_other (by repeat (first | exact hf.below ((Below.refl _ _).alloc (Nat.le_refl _) _) | refine FlatIn.drewN ?_ _)) (Ne.symm n1) (Ne.symm n2) hpa _
  · exact Touch.setCell (by repeat (first | exact (Touch.refl _ _).alloc _ | refine Touch.drewN ?_ _)) (Or.inl (Or.inl rfl)) _
set_option maxRecDepth 100000 in
theorem do_2 (pa pf bk base n cap : Nat) (W r : Nat → Int) (first : Int) (Ls : List Int) (lb : Option Nat) (a b c m : Int) (w : World) (a0 : 0 ≤ a) (a1 : a < 8) (b0 : 0 ≤ b) (b1 : b < 8) (c0 : 0 ≤ c) (c1 : c < 8) (m0 : 0 ≤ m) (m1 : m < 65536)
    (hr : RegsIn w pa r) (hf : FlatIn w pf bk base n cap W first Ls lb) (hl : Ls.length < 1000000) (hpa : pa < base) (n1 : pa ≠ pf) (n2 : pa ≠ bk) :
    Calls Try.prog 20 #[.pointer (some ⟨pa, 0, none⟩), .iface 28 (.pointer (some ⟨pf, 0, none⟩)), .agg #[.int .i64 2, .int .i64 a, .int .i64 b, .int .i64 c, .int .i64 m]] w fun e w' =>
      e = .returned (.int .i64 (doE 2 n first (IntKind.u64.wrap (r b.toNat + m) % 65536))) ∧ RegsIn w' pa (doR 2 n W r a.toNat (r b.toNat) (r c.toNat) m (IntKind.u64.wrap (r b.toNat + m) % 65536)) ∧
      (∃ lb', FlatIn w' pf bk base n cap (doW 2 n first W (IntKind.u64.wrap (r b.toNat + m) % 65536) (r a.toNat)) first (Ls ++ doL 2 (IntKind.u64.wrap (r b.toNat + m) % 65536)) lb' ∧ NewB w lb lb') ∧ Touch (TS pa pf bk lb) w w' := by
  obtain ⟨RA, hRA⟩ : ∃ x, x = r a.toNat := ⟨_, rfl⟩
  obtain ⟨RB, hRB⟩ : ∃ x, x = r b.toNat := ⟨_, rfl⟩
  obtain ⟨RC, hRC⟩ : ∃ x, x = r c.toNat := ⟨_, rfl⟩
  have qa : w.cell? ⟨pa, a.toNat, none⟩ = some (.int .u64 RA) := by rw [hRA]; exact hr.row.cell a.toNat (by omega)
  have qb : w.cell? ⟨pa, b.toNat, none⟩ = some (.int .u64 RB) := by rw [hRB]; exact hr.row.cell b.toNat (by omega)
  have qc : w.cell? ⟨pa, c.toNat, none⟩ = some (.int .u64 RC) := by rw [hRC]; exact hr.row.cell c.toNat (by omega)
  have fa := hr.row.free a.toNat (by omega)
  obtain ⟨ra0, ra1⟩ := hr.rng a.toNat
  obtain ⟨rb0, rb1⟩ := hr.rng b.toNat
  obtain ⟨rc0, rc1⟩ := hr.rng c.toNat
  have hb := hf.hb
  have hps : pa < w.heap.size := by omega
  have hpf : pf < w.heap.size := by have := hf.pf_lt; omega
  rw [← hRA] at ra0 ra1
  rw [← hRB] at rb0 rb1
  rw [← hRC] at rc0 rc1
  rw [← hRA, ← hRB, ← hRC]
  have HRA := Lib.hid hRA; have HRB := Lib.hid hRB; have HRC := Lib.hid hRC
  clear hRA hRB hRC
  have hk := rkI_bd 2 RB RC
  obtain ⟨k0, k1⟩ := hk
  obtain ⟨AT, hAT⟩ : ∃ x, x = IntKind.u64.wrap (RB + m) % 65536 := ⟨_, rfl⟩
  obtain ⟨WR, hWR⟩ : ∃ x, x = IntKind.u64.wrap (RB + m) := ⟨_, rfl⟩
  have hW := wrap_bd (RB + m)
  rw [← hWR] at hW
  obtain ⟨w0, w1⟩ := hW
  rw [← hAT]
  have HAT : Hid (WR % 65536 = AT) := by show _ = _; rw [hWR, hAT]
  have HWR := Lib.hid hWR.symm
  clear hAT hWR
  have hA : isAlu 2 = true := rfl
  go_enter Try.func20, Try.ntmps20
  go_wp2_with (fail)
  go_quiet (fail)
  go_wp2_with (fail)
  go_quiet ((go_at_call 29; exact quiet_again (reckon_any 2 RB RC _ (by omega) (by omega) (by omega) (by omega) (by omega) (by omega))))
  go_wp2_with (fail)
  go_ret
  refine ⟨rfl, ?_, ?_, ?_⟩
  · refine cellR (r := setF r a.toNat (rkI 2 RB RC)) ?_ ?_
    · exact RegsIn.set (by repeat (first | exact hr.below ((Below.refl _ _).alloc (Nat.le_refl _) _) | refine RegsIn.drewN ?_ _)) a.toNat (by omega) _ ⟨k0, k1⟩
    · simp [doR]
  · refine cellF (W := W) (Ls' := Ls) ?_ (by simp [doW]) (by simp [doL]) (NewB.refl _ _)
    exact FlatIn.set_other (by repeat (first | exact hf.below ((Below.refl _ _).alloc (Nat.le_refl _) _) | refine FlatIn.drewN ?_ _)) (Ne.symm n1) (Ne.symm n2) hpa _
  · exact Touch.setCell (by repeat (first | exact (Touch.refl _ _).alloc _ | refine Touch.drewN ?_ _)) (Or.inl (Or.inl rfl)) _
set_option maxRecDepth 100000 in
theorem do_3 (pa pf bk base n cap : Nat) (W r : Nat → Int) (first : Int) (Ls : List Int) (lb : Option Nat) (a b c m : Int) (w : World) (a0 : 0 ≤ a) (a1 : a < 8) (b0 : 0 ≤ b) (b1 : b < 8) (c0 : 0 ≤ c) (c1 : c < 8) (m0 : 0 ≤ m) (m1 : m < 65536)
    (hr : RegsIn w pa r) (hf : FlatIn w pf bk base n cap W first Ls lb) (hl : Ls.length < 1000000) (hpa : pa < base) (n1 : pa ≠ pf) (n2 : pa ≠ bk) :
    Calls Try.prog 20 #[.pointer (some ⟨pa, 0, none⟩), .iface 28 (.pointer (some ⟨pf, 0, none⟩)), .agg #[.int .i64 3, .int .i64 a, .int .i64 b, .int .i64 c, .int .i64 m]] w fun e w' =>
      e = .returned (.int .i64 (doE 3 n first (IntKind.u64.wrap (r b.toNat + m) % 65536))) ∧ RegsIn w' pa (doR 3 n W r a.toNat (r b.toNat) (r c.toNat) m (IntKind.u64.wrap (r b.toNat + m) % 65536)) ∧
      (∃ lb', FlatIn w' pf bk base n cap (doW 3 n first W (IntKind.u64.wrap (r b.toNat + m) % 65536) (r a.toNat)) first (Ls ++ doL 3 (IntKind.u64.wrap (r b.toNat + m) % 65536)) lb' ∧ NewB w lb lb') ∧ Touch (TS pa pf bk lb) w w' := by
  obtain ⟨RA, hRA⟩ : ∃ x, x = r a.toNat := ⟨_, rfl⟩
  obtain ⟨RB, hRB⟩ : ∃ x, x = r b.toNat := ⟨_, rfl⟩
  obtain ⟨RC, hRC⟩ : ∃ x, x = r c.toNat := ⟨_, rfl⟩
  have qa : w.cell? ⟨pa, a.toNat, none⟩ = some (.int .u64 RA) := by rw [hRA]; exact hr.row.cell a.toNat (by omega)
  have qb : w.cell? ⟨pa, b.toNat, none⟩ = some (.int .u64 RB) := by rw [hRB]; exact hr.row.cell b.toNat (by omega)
  have qc : w.cell? ⟨pa, c.toNat, none⟩ = some (.int .u64 RC) := by rw [hRC]; exact hr.row.cell c.toNat (by omega)
  have fa := hr.row.free a.toNat (by omega)
  obtain ⟨ra0, ra1⟩ := hr.rng a.toNat
  obtain ⟨rb0, rb1⟩ := hr.rng b.toNat
  obtain ⟨rc0, rc1⟩ := hr.rng c.toNat
  have hb := hf.hb
  have hps : pa < w.heap.size := by omega
  have hpf : pf < w.heap.size := by have := hf.pf_lt; omega
  rw [← hRA] at ra0 ra1
  rw [← hRB] at rb0 rb1
  rw [← hRC] at rc0 rc1
  rw [← hRA, ← hRB, ← hRC]
  have HRA := Lib.hid hRA; have HRB := Lib.hid hRB; have HRC := Lib.hid hRC
  clear hRA hRB hRC
  have hk := rkI_bd 3 RB RC
  obtain ⟨k0, k1⟩ := hk
  obtain ⟨AT, hAT⟩ : ∃ x, x = IntKind.u64.wrap (RB + m) % 65536 := ⟨_, rfl⟩
  obtain ⟨WR, hWR⟩ : ∃ x, x = IntKind.u64.wrap (RB + m) := ⟨_, rfl⟩
  have hW := wrap_bd (RB + m)
  rw [← hWR] at hW
  obtain ⟨w0, w1⟩ := hW
  rw [← hAT]
  have HAT : Hid (WR % 65536 = AT) := by show _ = _; rw [hWR, hAT]
  have HWR := Lib.hid hWR.symm
  clear hAT hWR
  have hA : isAlu 3 = true := rfl
  go_enter Try.func20, Try.ntmps20
  go_wp2_with (fail)
  go_quiet (fail)
  go_wp2_with (fail)
  go_quiet ((go_at_call 29; exact quiet_again (reckon_any 3 RB RC _ (by omega) (by omega) (by omega) (by omega) (by omega) (by omega))))
  go_wp2_with (fail)
  go_ret
  refine ⟨rfl, ?_, ?_, ?_⟩
  · refine cellR (r := setF r a.toNat (rkI 3 RB RC)) ?_ ?_
    · exact RegsIn.set (by repeat (first | exact hr.below ((Below.refl _ _).alloc (Nat.le_refl _) _) | refine RegsIn.drewN ?_ _)) a.toNat (by omega) _ ⟨k0, k1⟩
    · simp [doR]
  · refine cellF (W := W) (Ls' := Ls) ?_ (by simp [doW]) (by simp [doL]) (NewB.refl _ _)
    exact FlatIn.set_other (by repeat (first | exact hf.below ((Below.refl _ _).alloc (Nat.le_refl _) _) | refine FlatIn.drewN ?_ _)) (Ne.symm n1) (Ne.symm n2) hpa _
  · exact Touch.setCell (by repeat (first | exact (Touch.refl _ _).alloc _ | refine Touch.drewN ?_ _)) (Or.inl (Or.inl rfl)) _
set_option maxRecDepth 100000 in
theorem do_4 (pa pf bk base n cap : Nat) (W r : Nat → Int) (first : Int) (Ls : List Int) (lb : Option Nat) (a b c m : Int) (w : World) (a0 : 0 ≤ a) (a1 : a < 8) (b0 : 0 ≤ b) (b1 : b < 8) (c0 : 0 ≤ c) (c1 : c < 8) (m0 : 0 ≤ m) (m1 : m < 65536)
    (hr : RegsIn w pa r) (hf : FlatIn w pf bk base n cap W first Ls lb) (hl : Ls.length < 1000000) (hpa : pa < base) (n1 : pa ≠ pf) (n2 : pa ≠ bk) :
    Calls Try.prog 20 #[.pointer (some ⟨pa, 0, none⟩), .iface 28 (.pointer (some ⟨pf, 0, none⟩)), .agg #[.int .i64 4, .int .i64 a, .int .i64 b, .int .i64 c, .int .i64 m]] w fun e w' =>
      e = .returned (.int .i64 (doE 4 n first (IntKind.u64.wrap (r b.toNat + m) % 65536))) ∧ RegsIn w' pa (doR 4 n W r a.toNat (r b.toNat) (r c.toNat) m (IntKind.u64.wrap (r b.toNat + m) % 65536)) ∧
      (∃ lb', FlatIn w' pf bk base n cap (doW 4 n first W (IntKind.u64.wrap (r b.toNat + m) % 65536) (r a.toNat)) first (Ls ++ doL 4 (IntKind.u64.wrap (r b.toNat + m) % 65536)) lb' ∧ NewB w lb lb') ∧ Touch (TS pa pf bk lb) w w' := by
  obtain ⟨RA, hRA⟩ : ∃ x, x = r a.toNat := ⟨_, rfl⟩
  obtain ⟨RB, hRB⟩ : ∃ x, x = r b.toNat := ⟨_, rfl⟩
  obtain ⟨RC, hRC⟩ : ∃ x, x = r c.toNat := ⟨_, rfl⟩
  have qa : w.cell? ⟨pa, a.toNat, none⟩ = some (.int .u64 RA) := by rw [hRA]; exact hr.row.cell a.toNat (by omega)
  have qb : w.cell? ⟨pa, b.toNat, none⟩ = some (.int .u64 RB) := by rw [hRB]; exact hr.row.cell b.toNat (by omega)
  have qc : w.cell? ⟨pa, c.toNat, none⟩ = some (.int .u64 RC) := by rw [hRC]; exact hr.row.cell c.toNat (by omega)
  have fa := hr.row.free a.toNat (by omega)
  obtain ⟨ra0, ra1⟩ := hr.rng a.toNat
  obtain ⟨rb0, rb1⟩ := hr.rng b.toNat
  obtain ⟨rc0, rc1⟩ := hr.rng c.toNat
  have hb := hf.hb
  have hps : pa < w.heap.size := by omega
  have hpf : pf < w.heap.size := by have := hf.pf_lt; omega
  rw [← hRA] at ra0 ra1
  rw [← hRB] at rb0 rb1
  rw [← hRC] at rc0 rc1
  rw [← hRA, ← hRB, ← hRC]
  have HRA := Lib.hid hRA; have HRB := Lib.hid hRB; have HRC := Lib.hid hRC
  clear hRA hRB hRC
  have hk := rkI_bd 4 RB RC
  obtain ⟨k0, k1⟩ := hk
  obtain ⟨AT, hAT⟩ : ∃ x, x = IntKind.u64.wrap (RB + m) % 65536 := ⟨_, rfl⟩
  obtain ⟨WR, hWR⟩ : ∃ x, x = IntKind.u64.wrap (RB + m) := ⟨_, rfl⟩
  have hW := wrap_bd (RB + m)
  rw [← hWR] at hW
  obtain ⟨w0, w1⟩ := hW
  rw [← hAT]
  have HAT : Hid (WR % 65536 = AT) := by show _ = _; rw [hWR, hAT]
  have HWR := Lib.hid hWR.symm
  clear hAT hWR
  have hA : isAlu 4 = true := rfl
  go_enter Try.func20, Try.ntmps20
  go_wp2_with (fail)
  go_quiet (fail)
  go_wp2_with (fail)
  go_quiet ((go_at_call 29; exact quiet_again (reckon_any 4 RB RC _ (by omega) (by omega) (by omega) (by omega) (by omega) (by omega))))
  go_wp2_with (fail)
  go_ret
  refine ⟨rfl, ?_, ?_, ?_⟩
  · refine cellR (r := setF r a.toNat (rkI 4 RB RC)) ?_ ?_
    · exact RegsIn.set (by repeat (first | exact hr.below ((Below.refl _ _).alloc (Nat.le_refl _) _) | refine RegsIn.drewN ?_ _)) a.toNat (by omega) _ ⟨k0, k1⟩
    · simp [doR]
  · refine cellF (W := W) (Ls' := Ls) ?_ (by simp [doW]) (by simp [doL]) (NewB.refl _ _)
    exact FlatIn.set_other (by repeat (first | exact hf.below ((Below.refl _ _).alloc (Nat.le_refl _) _) | refine FlatIn.drewN ?_ _)) (Ne.symm n1) (Ne.symm n2) hpa _
  · exact Touch.setCell (by repeat (first | exact (Touch.refl _ _).alloc _ | refine Touch.drewN ?_ _)) (Or.inl (Or.inl rfl)) _
set_option maxRecDepth 100000 in
theorem do_5 (pa pf bk base n cap : Nat) (W r : Nat → Int) (first : Int) (Ls : List Int) (lb : Option Nat) (a b c m : Int) (w : World) (a0 : 0 ≤ a) (a1 : a < 8) (b0 : 0 ≤ b) (b1 : b < 8) (c0 : 0 ≤ c) (c1 : c < 8) (m0 : 0 ≤ m) (m1 : m < 65536)
    (hr : RegsIn w pa r) (hf : FlatIn w pf bk base n cap W first Ls lb) (hl : Ls.length < 1000000) (hpa : pa < base) (n1 : pa ≠ pf) (n2 : pa ≠ bk) :
    Calls Try.prog 20 #[.pointer (some ⟨pa, 0, none⟩), .iface 28 (.pointer (some ⟨pf, 0, none⟩)), .agg #[.int .i64 5, .int .i64 a, .int .i64 b, .int .i64 c, .int .i64 m]] w fun e w' =>
      e = .returned (.int .i64 (doE 5 n first (IntKind.u64.wrap (r b.toNat + m) % 65536))) ∧ RegsIn w' pa (doR 5 n W r a.toNat (r b.toNat) (r c.toNat) m (IntKind.u64.wrap (r b.toNat + m) % 65536)) ∧
      (∃ lb', FlatIn w' pf bk base n cap (doW 5 n first W (IntKind.u64.wrap (r b.toNat + m) % 65536) (r a.toNat)) first (Ls ++ doL 5 (IntKind.u64.wrap (r b.toNat + m) % 65536)) lb' ∧ NewB w lb lb') ∧ Touch (TS pa pf bk lb) w w' := by
  obtain ⟨RA, hRA⟩ : ∃ x, x = r a.toNat := ⟨_, rfl⟩
  obtain ⟨RB, hRB⟩ : ∃ x, x = r b.toNat := ⟨_, rfl⟩
  obtain ⟨RC, hRC⟩ : ∃ x, x = r c.toNat := ⟨_, rfl⟩
  have qa : w.cell? ⟨pa, a.toNat, none⟩ = some (.int .u64 RA) := by rw [hRA]; exact hr.row.cell a.toNat (by omega)
  have qb : w.cell? ⟨pa, b.toNat, none⟩ = some (.int .u64 RB) := by rw [hRB]; exact hr.row.cell b.toNat (by omega)
  have qc : w.cell? ⟨pa, c.toNat, none⟩ = some (.int .u64 RC) := by rw [hRC]; exact hr.row.cell c.toNat (by omega)
  have fa := hr.row.free a.toNat (by omega)
  obtain ⟨ra0, ra1⟩ := hr.rng a.toNat
  obtain ⟨rb0, rb1⟩ := hr.rng b.toNat
  obtain ⟨rc0, rc1⟩ := hr.rng c.toNat
  have hb := hf.hb
  have hps : pa < w.heap.size := by omega
  have hpf : pf < w.heap.size := by have := hf.pf_lt; omega
  rw [← hRA] at ra0 ra1
  rw [← hRB] at rb0 rb1
  rw [← hRC] at rc0 rc1
  rw [← hRA, ← hRB, ← hRC]
  have HRA := Lib.hid hRA; have HRB := Lib.hid hRB; have HRC := Lib.hid hRC
  clear hRA hRB hRC
  have hk := rkI_bd 5 RB RC
  obtain ⟨k0, k1⟩ := hk
  obtain ⟨AT, hAT⟩ : ∃ x, x = IntKind.u64.wrap (RB + m) % 65536 := ⟨_, rfl⟩
  obtain ⟨WR, hWR⟩ : ∃ x, x = IntKind.u64.wrap (RB + m) := ⟨_, rfl⟩
  have hW := wrap_bd (RB + m)
  rw [← hWR] at hW
  obtain ⟨w0, w1⟩ := hW
  rw [← hAT]
  have HAT : Hid (WR % 65536 = AT) := by show _ = _; rw [hWR, hAT]
  have HWR := Lib.hid hWR.symm
  clear hAT hWR
  have hA : isAlu 5 = true := rfl
  go_enter Try.func20, Try.ntmps20
  go_wp2_with (fail)
  go_quiet (fail)
  go_wp2_with (fail)
  go_quiet ((go_at_call 29; exact quiet_again (reckon_any 5 RB RC _ (by omega) (by omega) (by omega) (by omega) (by omega) (by omega))))
  go_wp2_with (fail)
  go_ret
  refine ⟨rfl, ?_, ?_, ?_⟩
  · refine cellR (r := setF r a.toNat (rkI 5 RB RC)) ?_ ?_
    · exact RegsIn.set (by repeat (first | exact hr.below ((Below.refl _ _).alloc (Nat.le_refl _) _) | refine RegsIn.drewN ?_ _)) a.toNat (by omega) _ ⟨k0, k1⟩
    · simp [doR]
  · refine cellF (W := W) (Ls' := Ls) ?_ (by simp [doW]) (by simp [doL]) (NewB.refl _ _)
    exact FlatIn.set_other (by repeat (first | exact hf.below ((Below.refl _ _).alloc (Nat.le_refl _) _) | refine FlatIn.drewN ?_ _)) (Ne.symm n1) (Ne.symm n2) hpa _
  · exact Touch.setCell (by repeat (first | exact (Touch.refl _ _).alloc _ | refine Touch.drewN ?_ _)) (Or.inl (Or.inl rfl)) _
set_option maxRecDepth 100000 in
theorem do_6 (pa pf bk base n cap : Nat) (W r : Nat → Int) (first : Int) (Ls : List Int) (lb : Option Nat) (a b c m : Int) (w : World) (a0 : 0 ≤ a) (a1 : a < 8) (b0 : 0 ≤ b) (b1 : b < 8) (c0 : 0 ≤ c) (c1 : c < 8) (m0 : 0 ≤ m) (m1 : m < 65536)
    (hr : RegsIn w pa r) (hf : FlatIn w pf bk base n cap W first Ls lb) (hl : Ls.length < 1000000) (hpa : pa < base) (n1 : pa ≠ pf) (n2 : pa ≠ bk) :
    Calls Try.prog 20 #[.pointer (some ⟨pa, 0, none⟩), .iface 28 (.pointer (some ⟨pf, 0, none⟩)), .agg #[.int .i64 6, .int .i64 a, .int .i64 b, .int .i64 c, .int .i64 m]] w fun e w' =>
      e = .returned (.int .i64 (doE 6 n first (IntKind.u64.wrap (r b.toNat + m) % 65536))) ∧ RegsIn w' pa (doR 6 n W r a.toNat (r b.toNat) (r c.toNat) m (IntKind.u64.wrap (r b.toNat + m) % 65536)) ∧
      (∃ lb', FlatIn w' pf bk base n cap (doW 6 n first W (IntKind.u64.wrap (r b.toNat + m) % 65536) (r a.toNat)) first (Ls ++ doL 6 (IntKind.u64.wrap (r b.toNat + m) % 65536)) lb' ∧ NewB w lb lb') ∧ Touch (TS pa pf bk lb) w w' := by
  obtain ⟨RA, hRA⟩ : ∃ x, x = r a.toNat := ⟨_, rfl⟩
  obtain ⟨RB, hRB⟩ : ∃ x, x = r b.toNat := ⟨_, rfl⟩
  obtain ⟨RC, hRC⟩ : ∃ x, x = r c.toNat := ⟨_, rfl⟩
  have qa : w.cell? ⟨pa, a.toNat, none⟩ = some (.int .u64 RA) := by rw [hRA]; exact hr.row.cell a.toNat (by omega)
  have qb : w.cell? ⟨pa, b.toNat, none⟩ = some (.int .u64 RB) := by rw [hRB]; exact hr.row.cell b.toNat (by omega)
  have qc : w.cell? ⟨pa, c.toNat, none⟩ = some (.int .u64 RC) := by rw [hRC]; exact hr.row.cell c.toNat (by omega)
  have fa := hr.row.free a.toNat (by omega)
  obtain ⟨ra0, ra1⟩ := hr.rng a.toNat
  obtain ⟨rb0, rb1⟩ := hr.rng b.toNat
  obtain ⟨rc0, rc1⟩ := hr.rng c.toNat
  have hb := hf.hb
  have hps : pa < w.heap.size := by omega
  have hpf : pf < w.heap.size := by have := hf.pf_lt; omega
  rw [← hRA] at ra0 ra1
  rw [← hRB] at rb0 rb1
  rw [← hRC] at rc0 rc1
  rw [← hRA, ← hRB, ← hRC]
  have HRA := Lib.hid hRA; have HRB := Lib.hid hRB; have HRC := Lib.hid hRC
  clear hRA hRB hRC
  have hk := rkI_bd 6 RB RC
  obtain ⟨k0, k1⟩ := hk
  obtain ⟨AT, hAT⟩ : ∃ x, x = IntKind.u64.wrap (RB + m) % 65536 := ⟨_, rfl⟩
  obtain ⟨WR, hWR⟩ : ∃ x, x = IntKind.u64.wrap (RB + m) := ⟨_, rfl⟩
  have hW := wrap_bd (RB + m)
  rw [← hWR] at hW
  obtain ⟨w0, w1⟩ := hW
  rw [← hAT]
  have HAT : Hid (WR % 65536 = AT) := by show _ = _; rw [hWR, hAT]
  have HWR := Lib.hid hWR.symm
  clear hAT hWR
  have hA : isAlu 6 = false := rfl
  go_enter Try.func20, Try.ntmps20
  go_wp2_with (fail)
  go_quiet (fail)
  go_wp2_with (fail)
  go_quiet ((go_at_call 29; exact quiet_again (reckon_any 6 RB RC _ (by omega) (by omega) (by omega) (by omega) (by omega) (by omega))))
  go_wp2_with (fail)
  go_quiet ((go_at_call 18; exact quiet_again (address_any _ _ (by rw [HWR.out]; exact w0) (by rw [HWR.out]; exact w1))))
  rw [HWR.out, HAT.out]
  go_wp2_with (fail)
  obtain ⟨X, hX⟩ : ∃ X, X = ldW n W AT := ⟨_, rfl⟩
  obtain ⟨E, hE⟩ : ∃ E, E = ldE n AT := ⟨_, rfl⟩
  have hXb : 0 ≤ X ∧ X < 18446744073709551616 := by
    rw [hX]; unfold ldW; split
    · exact hf.words.rng _
    · omega
  obtain ⟨x0, x1⟩ := hXb
  refine (flat_load pf bk base n cap W first Ls lb AT _ (by repeat (first | exact hf.below ((Below.refl _ _).alloc (Nat.le_refl _) _) | refine FlatIn.drewN ?_ _ | refine FlatIn.drew ?_)) hl X E hX.symm hE.symm).mono ?_
  rintro e w3 ⟨rfl, ⟨lb3, hf3, hnb3⟩, ht3⟩
  have np : ¬ TF pf bk lb pa := by
    rintro (h | h | h)
    · omega
    · omega
    · have := (hf.lb_ge pa h).1; omega
  have HNB : NewB w lb lb3 := NewB.mono hnb3 (by simp)
  have hr2 : RegsIn w3 pa r := RegsIn.touch (by repeat (first | exact hr.below ((Below.refl _ _).alloc (Nat.le_refl _) _) | refine RegsIn.drewN ?_ _ | refine RegsIn.drew ?_)) ht3 np
  have s3 := ht3.size
  have fa3 := hr2.row.free a.toNat (by omega)
  have qa3 : w3.cell? ⟨pa, a.toNat, none⟩ = some (.int .u64 RA) := by rw [HRA.out]; exact hr2.row.cell a.toNat (by omega)
  have ht : Touch (TS pa pf bk lb) w w3 := Touch.trans (by repeat (first | exact (Touch.refl _ _).alloc _ | refine Touch.drewN ?_ _ | refine Touch.drew ?_)) (ht3.mono (fun k _ h => Or.inr h))
  have HX := Lib.hid hX
  clear hX
  by_cases hz : E = 0
  · have hz' : (E != 0) = false := by simp [hz]
    have HE : Hid (ldE n AT = 0) := by show _ = _; rw [← hE, hz]
    clear hE hz
    go_wp2_with (fail)
    go_ret
    refine ⟨by (have : doE 6 n first AT = 0 := by simp [doE, HE.out]); rw [this]; rfl, ?_, ?_, ?_⟩
    · refine cellR (r := setF r a.toNat X) (hr2.set a.toNat (by omega) X ⟨x0, x1⟩) ?_
      have h1 : ldW n W AT = W AT.toNat := by
        have h2 := HE.out
        unfold ldE at h2
        unfold ldW
        split at h2
        · rw [if_pos (by assumption)]
        · omega
      simp [doR, HE.out, HX.out, h1]
    · refine cellF (W := W) (Ls' := Ls ++ [AT]) ?_ (by simp [doW]) (by simp [doL]) HNB
      exact hf3.set_other (Ne.symm n1) (Ne.symm n2) hpa _
    · exact ht.setCell (Or.inl (Or.inl rfl)) _
  · have hz' : (E != 0) = true := by simp [hz]
    have HE : Hid (ldE n AT = E) := by show _ = _; rw [← hE]
    have HZ := Lib.hid hz
    clear hE hz
    go_wp2_with (fail)
    go_ret
    refine ⟨by (have : doE 6 n first AT = E := by simp [doE, HE.out]); rw [this]; rfl, ?_, ?_, ?_⟩
    · refine cellR (r := r) hr2 ?_
      have h1 := HZ.out
      simp [doR, HE.out, h1]
    · exact cellF (W := W) (Ls' := Ls ++ [AT]) hf3 (by simp [doW]) (by simp [doL]) HNB
    · exact ht
set_option maxRecDepth 100000 in
theorem do_7 (pa pf bk base n cap : Nat) (W r : Nat → Int) (first : Int) (Ls : List Int) (lb : Option Nat) (a b c m : Int) (w : World) (a0 : 0 ≤ a) (a1 : a < 8) (b0 : 0 ≤ b) (b1 : b < 8) (c0 : 0 ≤ c) (c1 : c < 8) (m0 : 0 ≤ m) (m1 : m < 65536)
    (hr : RegsIn w pa r) (hf : FlatIn w pf bk base n cap W first Ls lb) (hl : Ls.length < 1000000) (hpa : pa < base) (n1 : pa ≠ pf) (n2 : pa ≠ bk) :
    Calls Try.prog 20 #[.pointer (some ⟨pa, 0, none⟩), .iface 28 (.pointer (some ⟨pf, 0, none⟩)), .agg #[.int .i64 7, .int .i64 a, .int .i64 b, .int .i64 c, .int .i64 m]] w fun e w' =>
      e = .returned (.int .i64 (doE 7 n first (IntKind.u64.wrap (r b.toNat + m) % 65536))) ∧ RegsIn w' pa (doR 7 n W r a.toNat (r b.toNat) (r c.toNat) m (IntKind.u64.wrap (r b.toNat + m) % 65536)) ∧
      (∃ lb', FlatIn w' pf bk base n cap (doW 7 n first W (IntKind.u64.wrap (r b.toNat + m) % 65536) (r a.toNat)) first (Ls ++ doL 7 (IntKind.u64.wrap (r b.toNat + m) % 65536)) lb' ∧ NewB w lb lb') ∧ Touch (TS pa pf bk lb) w w' := by
  obtain ⟨RA, hRA⟩ : ∃ x, x = r a.toNat := ⟨_, rfl⟩
  obtain ⟨RB, hRB⟩ : ∃ x, x = r b.toNat := ⟨_, rfl⟩
  obtain ⟨RC, hRC⟩ : ∃ x, x = r c.toNat := ⟨_, rfl⟩
  have qa : w.cell? ⟨pa, a.toNat, none⟩ = some (.int .u64 RA) := by rw [hRA]; exact hr.row.cell a.toNat (by omega)
  have qb : w.cell? ⟨pa, b.toNat, none⟩ = some (.int .u64 RB) := by rw [hRB]; exact hr.row.cell b.toNat (by omega)
  have qc : w.cell? ⟨pa, c.toNat, none⟩ = some (.int .u64 RC) := by rw [hRC]; exact hr.row.cell c.toNat (by omega)
  have fa := hr.row.free a.toNat (by omega)
  obtain ⟨ra0, ra1⟩ := hr.rng a.toNat
  obtain ⟨rb0, rb1⟩ := hr.rng b.toNat
  obtain ⟨rc0, rc1⟩ := hr.rng c.toNat
  have hb := hf.hb
  have hps : pa < w.heap.size := by omega
  have hpf : pf < w.heap.size := by have := hf.pf_lt; omega
  rw [← hRA] at ra0 ra1
  rw [← hRB] at rb0 rb1
  rw [← hRC] at rc0 rc1
  rw [← hRA, ← hRB, ← hRC]
  have HRA := Lib.hid hRA; have HRB := Lib.hid hRB; have HRC := Lib.hid hRC
  clear hRA hRB hRC
  have hk := rkI_bd 7 RB RC
  obtain ⟨k0, k1⟩ := hk
  obtain ⟨AT, hAT⟩ : ∃ x, x = IntKind.u64.wrap (RB + m) % 65536 := ⟨_, rfl⟩
  obtain ⟨WR, hWR⟩ : ∃ x, x = IntKind.u64.wrap (RB + m) := ⟨_, rfl⟩
  have hW := wrap_bd (RB + m)
  rw [← hWR] at hW
  obtain ⟨w0, w1⟩ := hW
  rw [← hAT]
  have HAT : Hid (WR % 65536 = AT) := by show _ = _; rw [hWR, hAT]
  have HWR := Lib.hid hWR.symm
  clear hAT hWR
  have hA : isAlu 7 = false := rfl
  have hna : ∀ (a : Addr) (w : World), (nilAhead 210 28 (.pointer (some a)) "Store").run Try.prog w = .ok (some false) w := fun _ _ => by kernel_rfl
  go_enter Try.func20, Try.ntmps20
  go_wp2_with (fail)
  go_quiet (fail)
  go_wp2_with (fail)
  go_quiet ((go_at_call 29; exact quiet_again (reckon_any 7 RB RC _ (by omega) (by omega) (by omega) (by omega) (by omega) (by omega))))
  go_wp2_with (fail)
  go_quiet ((go_at_call 18; exact quiet_again (address_any _ _ (by rw [HWR.out]; exact w0) (by rw [HWR.out]; exact w1))))
  rw [HWR.out, HAT.out]
  go_wp2_with (fail)
  have np : ¬ TF pf bk lb pa := by
    rintro (h | h | h)
    · omega
    · omega
    · have := (hf.lb_ge pa h).1; omega
  go_region_held3 (fun w' => w'.cell? ⟨pa, a.toNat, none⟩ = some (.int .u64 RA)) (first | assumption | go_keep)
    ((go_at_call 63
      refine (flat_store pf bk base n cap W first Ls lb AT RA _ (by repeat (first | exact hf.below ((Below.refl _ _).alloc (Nat.le_refl _) _) | refine FlatIn.drewN ?_ _ | refine FlatIn.drew ?_)) ⟨ra0, ra1⟩ _ rfl).mono ?_
      rintro e w3 ⟨rfl, hf3, ht3⟩
      have hr2 : RegsIn w3 pa r := RegsIn.touch (by repeat (first | exact hr.below ((Below.refl _ _).alloc (Nat.le_refl _) _) | refine RegsIn.drewN ?_ _ | refine RegsIn.drew ?_)) ht3 np
      have qa3 : w3.cell? ⟨pa, a.toNat, none⟩ = some (.int .u64 RA) := by rw [HRA.out]; exact hr2.row.cell a.toNat (by omega)
      have ht : Touch (TS pa pf bk lb) w w3 := Touch.trans (by repeat (first | exact (Touch.refl _ _).alloc _ | refine Touch.drewN ?_ _ | refine Touch.drew ?_)) (ht3.mono (fun k _ h => Or.inr h))))
  go_wp2_with (fail)
  go_ret
  refine ⟨by simp [doE], ?_, ?_, ?_⟩
  · exact cellR (r := r) hr2 (by simp [doR])
  · exact cellF (W := stW n first W AT RA) (Ls' := Ls) hf3 (by simp [doW]) (by simp [doL]) (NewB.refl _ _)
  · exact ht
set_option maxRecDepth 100000 in
theorem do_8 (pa pf bk base n cap : Nat) (W r : Nat → Int) (first : Int) (Ls : List Int) (lb : Option Nat) (a b c m : Int) (w : World) (a0 : 0 ≤ a) (a1 : a < 8) (b0 : 0 ≤ b) (b1 : b < 8) (c0 : 0 ≤ c) (c1 : c < 8) (m0 : 0 ≤ m) (m1 : m < 65536)
    (hr : RegsIn w pa r) (hf : FlatIn w pf bk base n cap W first Ls lb) (hl : Ls.length < 1000000) (hpa : pa < base) (n1 : pa ≠ pf) (n2 : pa ≠ bk) :
    Calls Try.prog 20 #[.pointer (some ⟨pa, 0, none⟩), .iface 28 (.pointer (some ⟨pf, 0, none⟩)), .agg #[.int .i64 8, .int .i64 a, .int .i64 b, .int .i64 c, .int .i64 m]] w fun e w' =>
      e = .returned (.int .i64 (doE 8 n first (IntKind.u64.wrap (r b.toNat + m) % 65536))) ∧ RegsIn w' pa (doR 8 n W r a.toNat (r b.toNat) (r c.toNat) m (IntKind.u64.wrap (r b.toNat + m) % 65536)) ∧
      (∃ lb', FlatIn w' pf bk base n cap (doW 8 n first W (IntKind.u64.wrap (r b.toNat + m) % 65536) (r a.toNat)) first (Ls ++ doL 8 (IntKind.u64.wrap (r b.toNat + m) % 65536)) lb' ∧ NewB w lb lb') ∧ Touch (TS pa pf bk lb) w w' := by
  obtain ⟨RA, hRA⟩ : ∃ x, x = r a.toNat := ⟨_, rfl⟩
  obtain ⟨RB, hRB⟩ : ∃ x, x = r b.toNat := ⟨_, rfl⟩
  obtain ⟨RC, hRC⟩ : ∃ x, x = r c.toNat := ⟨_, rfl⟩
  have qa : w.cell? ⟨pa, a.toNat, none⟩ = some (.int .u64 RA) := by rw [hRA]; exact hr.row.cell a.toNat (by omega)
  have qb : w.cell? ⟨pa, b.toNat, none⟩ = some (.int .u64 RB) := by rw [hRB]; exact hr.row.cell b.toNat (by omega)
  have qc : w.cell? ⟨pa, c.toNat, none⟩ = some (.int .u64 RC) := by rw [hRC]; exact hr.row.cell c.toNat (by omega)
  have fa := hr.row.free a.toNat (by omega)
  obtain ⟨ra0, ra1⟩ := hr.rng a.toNat
  obtain ⟨rb0, rb1⟩ := hr.rng b.toNat
  obtain ⟨rc0, rc1⟩ := hr.rng c.toNat
  have hb := hf.hb
  have hps : pa < w.heap.size := by omega
  have hpf : pf < w.heap.size := by have := hf.pf_lt; omega
  rw [← hRA] at ra0 ra1
  rw [← hRB] at rb0 rb1
  rw [← hRC] at rc0 rc1
  rw [← hRA, ← hRB, ← hRC]
  have HRA := Lib.hid hRA; have HRB := Lib.hid hRB; have HRC := Lib.hid hRC
  clear hRA hRB hRC
  have hk := rkI_bd 8 RB RC
  obtain ⟨k0, k1⟩ := hk
  obtain ⟨AT, hAT⟩ : ∃ x, x = IntKind.u64.wrap (RB + m) % 65536 := ⟨_, rfl⟩
  obtain ⟨WR, hWR⟩ : ∃ x, x = IntKind.u64.wrap (RB + m) := ⟨_, rfl⟩
  have hW := wrap_bd (RB + m)
  rw [← hWR] at hW
  obtain ⟨w0, w1⟩ := hW
  rw [← hAT]
  have HAT : Hid (WR % 65536 = AT) := by show _ = _; rw [hWR, hAT]
  have HWR := Lib.hid hWR.symm
  clear hAT hWR
  have hA : isAlu 8 = false := rfl
  go_enter Try.func20, Try.ntmps20
  go_wp2_with (fail)
  go_quiet (fail)
  go_wp2_with (fail)
  go_quiet ((go_at_call 29; exact quiet_again (reckon_any 8 RB RC _ (by omega) (by omega) (by omega) (by omega) (by omega) (by omega))))
  go_wp2_with (fail)
  go_quiet ((go_at_call 18; exact quiet_again (address_any _ _ (by rw [HWR.out]; exact w0) (by rw [HWR.out]; exact w1))))
  rw [HWR.out, HAT.out]
  go_wp2_with (fail)
  go_ret
  refine ⟨rfl, ?_, ?_, ?_⟩
  · refine cellR (r := r) ?_ ?_
    · exact (by repeat (first | exact hr.below ((Below.refl _ _).alloc (Nat.le_refl _) _) | refine RegsIn.drewN ?_ _))
    · simp [doR]
  · refine cellF (W := W) (Ls' := Ls) ?_ (by simp [doW]) (by simp [doL]) (NewB.refl _ _)
    exact (by repeat (first | exact hf.below ((Below.refl _ _).alloc (Nat.le_refl _) _) | refine FlatIn.drewN ?_ _))
  · exact (by repeat (first | exact (Touch.refl _ _).alloc _ | refine Touch.drewN ?_ _))
set_option maxRecDepth 100000 in
theorem do_9 (pa pf bk base n cap : Nat) (W r : Nat → Int) (first : Int) (Ls : List Int) (lb : Option Nat) (a b c m : Int) (w : World) (a0 : 0 ≤ a) (a1 : a < 8) (b0 : 0 ≤ b) (b1 : b < 8) (c0 : 0 ≤ c) (c1 : c < 8) (m0 : 0 ≤ m) (m1 : m < 65536)
    (hr : RegsIn w pa r) (hf : FlatIn w pf bk base n cap W first Ls lb) (hl : Ls.length < 1000000) (hpa : pa < base) (n1 : pa ≠ pf) (n2 : pa ≠ bk) :
    Calls Try.prog 20 #[.pointer (some ⟨pa, 0, none⟩), .iface 28 (.pointer (some ⟨pf, 0, none⟩)), .agg #[.int .i64 9, .int .i64 a, .int .i64 b, .int .i64 c, .int .i64 m]] w fun e w' =>
      e = .returned (.int .i64 (doE 9 n first (IntKind.u64.wrap (r b.toNat + m) % 65536))) ∧ RegsIn w' pa (doR 9 n W r a.toNat (r b.toNat) (r c.toNat) m (IntKind.u64.wrap (r b.toNat + m) % 65536)) ∧
      (∃ lb', FlatIn w' pf bk base n cap (doW 9 n first W (IntKind.u64.wrap (r b.toNat + m) % 65536) (r a.toNat)) first (Ls ++ doL 9 (IntKind.u64.wrap (r b.toNat + m) % 65536)) lb' ∧ NewB w lb lb') ∧ Touch (TS pa pf bk lb) w w' := by
  obtain ⟨RA, hRA⟩ : ∃ x, x = r a.toNat := ⟨_, rfl⟩
  obtain ⟨RB, hRB⟩ : ∃ x, x = r b.toNat := ⟨_, rfl⟩
  obtain ⟨RC, hRC⟩ : ∃ x, x = r c.toNat := ⟨_, rfl⟩
  have qa : w.cell? ⟨pa, a.toNat, none⟩ = some (.int .u64 RA) := by rw [hRA]; exact hr.row.cell a.toNat (by omega)
  have qb : w.cell? ⟨pa, b.toNat, none⟩ = some (.int .u64 RB) := by rw [hRB]; exact hr.row.cell b.toNat (by omega)
  have qc : w.cell? ⟨pa, c.toNat, none⟩ = some (.int .u64 RC) := by rw [hRC]; exact hr.row.cell c.toNat (by omega)
  have fa := hr.row.free a.toNat (by omega)
  obtain ⟨ra0, ra1⟩ := hr.rng a.toNat
  obtain ⟨rb0, rb1⟩ := hr.rng b.toNat
  obtain ⟨rc0, rc1⟩ := hr.rng c.toNat
  have hb := hf.hb
  have hps : pa < w.heap.size := by omega
  have hpf : pf < w.heap.size := by have := hf.pf_lt; omega
  rw [← hRA] at ra0 ra1
  rw [← hRB] at rb0 rb1
  rw [← hRC] at rc0 rc1
  rw [← hRA, ← hRB, ← hRC]
  have HRA := Lib.hid hRA; have HRB := Lib.hid hRB; have HRC := Lib.hid hRC
  clear hRA hRB hRC
  have hk := rkI_bd 9 RB RC
  obtain ⟨k0, k1⟩ := hk
  obtain ⟨AT, hAT⟩ : ∃ x, x = IntKind.u64.wrap (RB + m) % 65536 := ⟨_, rfl⟩
  obtain ⟨WR, hWR⟩ : ∃ x, x = IntKind.u64.wrap (RB + m) := ⟨_, rfl⟩
  have hW := wrap_bd (RB + m)
  rw [← hWR] at hW
  obtain ⟨w0, w1⟩ := hW
  rw [← hAT]
  have HAT : Hid (WR % 65536 = AT) := by show _ = _; rw [hWR, hAT]
  have HWR := Lib.hid hWR.symm
  clear hAT hWR
  have hA : isAlu 9 = false := rfl
  go_enter Try.func20, Try.ntmps20
  go_wp2_with (fail)
  go_quiet (fail)
  go_wp2_with (fail)
  go_quiet ((go_at_call 29; exact quiet_again (reckon_any 9 RB RC _ (by omega) (by omega) (by omega) (by omega) (by omega) (by omega))))
  go_wp2_with (fail)
  go_quiet ((go_at_call 18; exact quiet_again (address_any _ _ (by rw [HWR.out]; exact w0) (by rw [HWR.out]; exact w1))))
  rw [HWR.out, HAT.out]
  go_wp2_with (fail)
  go_ret
  refine ⟨rfl, ?_, ?_, ?_⟩
  · refine cellR (r := r) ?_ ?_
    · exact (by repeat (first | exact hr.below ((Below.refl _ _).alloc (Nat.le_refl _) _) | refine RegsIn.drewN ?_ _))
    · simp [doR]
  · refine cellF (W := W) (Ls' := Ls) ?_ (by simp [doW]) (by simp [doL]) (NewB.refl _ _)
    exact (by repeat (first | exact hf.below ((Below.refl _ _).alloc (Nat.le_refl _) _) | refine FlatIn.drewN ?_ _))
  · exact (by repeat (first | exact (Touch.refl _ _).alloc _ | refine Touch.drewN ?_ _))
set_option maxRecDepth 100000 in
theorem do_10 (pa pf bk base n cap : Nat) (W r : Nat → Int) (first : Int) (Ls : List Int) (lb : Option Nat) (a b c m : Int) (w : World) (a0 : 0 ≤ a) (a1 : a < 8) (b0 : 0 ≤ b) (b1 : b < 8) (c0 : 0 ≤ c) (c1 : c < 8) (m0 : 0 ≤ m) (m1 : m < 65536)
    (hr : RegsIn w pa r) (hf : FlatIn w pf bk base n cap W first Ls lb) (hl : Ls.length < 1000000) (hpa : pa < base) (n1 : pa ≠ pf) (n2 : pa ≠ bk) :
    Calls Try.prog 20 #[.pointer (some ⟨pa, 0, none⟩), .iface 28 (.pointer (some ⟨pf, 0, none⟩)), .agg #[.int .i64 10, .int .i64 a, .int .i64 b, .int .i64 c, .int .i64 m]] w fun e w' =>
      e = .returned (.int .i64 (doE 10 n first (IntKind.u64.wrap (r b.toNat + m) % 65536))) ∧ RegsIn w' pa (doR 10 n W r a.toNat (r b.toNat) (r c.toNat) m (IntKind.u64.wrap (r b.toNat + m) % 65536)) ∧
      (∃ lb', FlatIn w' pf bk base n cap (doW 10 n first W (IntKind.u64.wrap (r b.toNat + m) % 65536) (r a.toNat)) first (Ls ++ doL 10 (IntKind.u64.wrap (r b.toNat + m) % 65536)) lb' ∧ NewB w lb lb') ∧ Touch (TS pa pf bk lb) w w' := by
  obtain ⟨RA, hRA⟩ : ∃ x, x = r a.toNat := ⟨_, rfl⟩
  obtain ⟨RB, hRB⟩ : ∃ x, x = r b.toNat := ⟨_, rfl⟩
  obtain ⟨RC, hRC⟩ : ∃ x, x = r c.toNat := ⟨_, rfl⟩
  have qa : w.cell? ⟨pa, a.toNat, none⟩ = some (.int .u64 RA) := by rw [hRA]; exact hr.row.cell a.toNat (by omega)
  have qb : w.cell? ⟨pa, b.toNat, none⟩ = some (.int .u64 RB) := by rw [hRB]; exact hr.row.cell b.toNat (by omega)
  have qc : w.cell? ⟨pa, c.toNat, none⟩ = some (.int .u64 RC) := by rw [hRC]; exact hr.row.cell c.toNat (by omega)
  have fa := hr.row.free a.toNat (by omega)
  obtain ⟨ra0, ra1⟩ := hr.rng a.toNat
  obtain ⟨rb0, rb1⟩ := hr.rng b.toNat
  obtain ⟨rc0, rc1⟩ := hr.rng c.toNat
  have hb := hf.hb
  have hps : pa < w.heap.size := by omega
  have hpf : pf < w.heap.size := by have := hf.pf_lt; omega
  rw [← hRA] at ra0 ra1
  rw [← hRB] at rb0 rb1
  rw [← hRC] at rc0 rc1
  rw [← hRA, ← hRB, ← hRC]
  have HRA := Lib.hid hRA; have HRB := Lib.hid hRB; have HRC := Lib.hid hRC
  clear hRA hRB hRC
  have hk := rkI_bd 10 RB RC
  obtain ⟨k0, k1⟩ := hk
  obtain ⟨AT, hAT⟩ : ∃ x, x = IntKind.u64.wrap (RB + m) % 65536 := ⟨_, rfl⟩
  obtain ⟨WR, hWR⟩ : ∃ x, x = IntKind.u64.wrap (RB + m) := ⟨_, rfl⟩
  have hW := wrap_bd (RB + m)
  rw [← hWR] at hW
  obtain ⟨w0, w1⟩ := hW
  rw [← hAT]
  have HAT : Hid (WR % 65536 = AT) := by show _ = _; rw [hWR, hAT]
  have HWR := Lib.hid hWR.symm
  clear hAT hWR
  have hA : isAlu 10 = true := rfl
  go_enter Try.func20, Try.ntmps20
  go_wp2_with (fail)
  go_quiet (fail)
  go_wp2_with (fail)
  go_quiet ((go_at_call 29; exact quiet_again (reckon_any 10 RB RC _ (by omega) (by omega) (by omega) (by omega) (by omega) (by omega))))
  go_wp2_with (fail)
  go_ret
  refine ⟨rfl, ?_, ?_, ?_⟩
  · refine cellR (r := setF r a.toNat (rkI 10 RB RC)) ?_ ?_
    · exact RegsIn.set (by repeat (first | exact hr.below ((Below.refl _ _).alloc (Nat.le_refl _) _) | refine RegsIn.drewN ?_ _)) a.toNat (by omega) _ ⟨k0, k1⟩
    · simp [doR]
  · refine cellF (W := W) (Ls' := Ls) ?_ (by simp [doW]) (by simp [doL]) (NewB.refl _ _)
    exact FlatIn.set_other (by repeat (first | exact hf.below ((Below.refl _ _).alloc (Nat.le_refl _) _) | refine FlatIn.drewN ?_ _)) (Ne.symm n1) (Ne.symm n2) hpa _
  · exact Touch.setCell (by repeat (first | exact (Touch.refl _ _).alloc _ | refine Touch.drewN ?_ _)) (Or.inl (Or.inl rfl)) _
set_option maxRecDepth 100000 in
theorem do_11 (pa pf bk base n cap : Nat) (W r : Nat → Int) (first : Int) (Ls : List Int) (lb : Option Nat) (a b c m : Int) (w : World) (a0 : 0 ≤ a) (a1 : a < 8) (b0 : 0 ≤ b) (b1 : b < 8) (c0 : 0 ≤ c) (c1 : c < 8) (m0 : 0 ≤ m) (m1 : m < 65536)
    (hr : RegsIn w pa r) (hf : FlatIn w pf bk base n cap W first Ls lb) (hl : Ls.length < 1000000) (hpa : pa < base) (n1 : pa ≠ pf) (n2 : pa ≠ bk) :
    Calls Try.prog 20 #[.pointer (some ⟨pa, 0, none⟩), .iface 28 (.pointer (some ⟨pf, 0, none⟩)), .agg #[.int .i64 11, .int .i64 a, .int .i64 b, .int .i64 c, .int .i64 m]] w fun e w' =>
      e = .returned (.int .i64 (doE 11 n first (IntKind.u64.wrap (r b.toNat + m) % 65536))) ∧ RegsIn w' pa (doR 11 n W r a.toNat (r b.toNat) (r c.toNat) m (IntKind.u64.wrap (r b.toNat + m) % 65536)) ∧
      (∃ lb', FlatIn w' pf bk base n cap (doW 11 n first W (IntKind.u64.wrap (r b.toNat + m) % 65536) (r a.toNat)) first (Ls ++ doL 11 (IntKind.u64.wrap (r b.toNat + m) % 65536)) lb' ∧ NewB w lb lb') ∧ Touch (TS pa pf bk lb) w w' := by
  obtain ⟨RA, hRA⟩ : ∃ x, x = r a.toNat := ⟨_, rfl⟩
  obtain ⟨RB, hRB⟩ : ∃ x, x = r b.toNat := ⟨_, rfl⟩
  obtain ⟨RC, hRC⟩ : ∃ x, x = r c.toNat := ⟨_, rfl⟩
  have qa : w.cell? ⟨pa, a.toNat, none⟩ = some (.int .u64 RA) := by rw [hRA]; exact hr.row.cell a.toNat (by omega)
  have qb : w.cell? ⟨pa, b.toNat, none⟩ = some (.int .u64 RB) := by rw [hRB]; exact hr.row.cell b.toNat (by omega)
  have qc : w.cell? ⟨pa, c.toNat, none⟩ = some (.int .u64 RC) := by rw [hRC]; exact hr.row.cell c.toNat (by omega)
  have fa := hr.row.free a.toNat (by omega)
  obtain ⟨ra0, ra1⟩ := hr.rng a.toNat
  obtain ⟨rb0, rb1⟩ := hr.rng b.toNat
  obtain ⟨rc0, rc1⟩ := hr.rng c.toNat
  have hb := hf.hb
  have hps : pa < w.heap.size := by omega
  have hpf : pf < w.heap.size := by have := hf.pf_lt; omega
  rw [← hRA] at ra0 ra1
  rw [← hRB] at rb0 rb1
  rw [← hRC] at rc0 rc1
  rw [← hRA, ← hRB, ← hRC]
  have HRA := Lib.hid hRA; have HRB := Lib.hid hRB; have HRC := Lib.hid hRC
  clear hRA hRB hRC
  have hk := rkI_bd 11 RB RC
  obtain ⟨k0, k1⟩ := hk
  obtain ⟨AT, hAT⟩ : ∃ x, x = IntKind.u64.wrap (RB + m) % 65536 := ⟨_, rfl⟩
  obtain ⟨WR, hWR⟩ : ∃ x, x = IntKind.u64.wrap (RB + m) := ⟨_, rfl⟩
  have hW := wrap_bd (RB + m)
  rw [← hWR] at hW
  obtain ⟨w0, w1⟩ := hW
  rw [← hAT]
  have HAT : Hid (WR % 65536 = AT) := by show _ = _; rw [hWR, hAT]
  have HWR := Lib.hid hWR.symm
  clear hAT hWR
  have hA : isAlu 11 = false := rfl
  go_enter Try.func20, Try.ntmps20
  go_wp2_with (fail)
  go_quiet (fail)
  go_wp2_with (fail)
  go_quiet ((go_at_call 29; exact quiet_again (reckon_any 11 RB RC _ (by omega) (by omega) (by omega) (by omega) (by omega) (by omega))))
  go_wp2_with (fail)
  go_quiet ((go_at_call 18; exact quiet_again (address_any _ _ (by rw [HWR.out]; exact w0) (by rw [HWR.out]; exact w1))))
  rw [HWR.out, HAT.out]
  go_wp2_with (fail)
  go_ret
  refine ⟨rfl, ?_, ?_, ?_⟩
  · refine cellR (r := r) ?_ ?_
    · exact (by repeat (first | exact hr.below ((Below.refl _ _).alloc (Nat.le_refl _) _) | refine RegsIn.drewN ?_ _))
    · simp [doR]
  · refine cellF (W := W) (Ls' := Ls) ?_ (by simp [doW]) (by simp [doL]) (NewB.refl _ _)
    exact (by repeat (first | exact hf.below ((Below.refl _ _).alloc (Nat.le_refl _) _) | refine FlatIn.drewN ?_ _))
  · exact (by repeat (first | exact (Touch.refl _ _).alloc _ | refine Touch.drewN ?_ _))

end Go.Proofs.Ytfjfdhojhikgdaa
