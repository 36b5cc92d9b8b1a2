/- Part 12 of the proofs: Bud7, Bud8, BudInv, SortB2, SortB3, App, Bud9, RngB, Bud10, Law04. -/
import Derived.Test.YteehghjdifbjbaaQ11
import Derived.Test.YteehghjdifbjbaaQ9
import Derived.Test.YteehghjdifbjbaaQ10
import Derived.Test.YteehghjdifbjbaaQ1
import Derived.WalkMore
import Derived.Maps.AppendAt
import Derived.Laws.AppendOwnNone
import Derived.Deep.RegionHeld3
import Derived.Deep.AppendLies
namespace Go.Proofs.Yteehghjdifbjbaa
set_option linter.unusedSimpArgs false
set_option linter.unusedVariables false
set_option maxRecDepth 100000
open Go.RowKit
set_option maxHeartbeats 4000000

theorem bud_xor : ∀ j : Nat, j < 8 → ∀ c : Nat, c < 256 → bits .xor .i64 ((c * 2 ^ j : Nat) : Int) ((2 ^ j : Nat) : Int) = ((budQ c * 2 ^ j : Nat) : Int) := by decide +kernel
theorem bud_not : ∀ j : Nat, j < 8 → ∀ c : Nat, c < 256 → bits .andNot .i64 ((c * 2 ^ j : Nat) : Int) ((2 ^ j : Nat) : Int) = ((c / 2 * 2 ^ (j + 1) : Nat) : Int) := by decide +kernel

/-- Two halves are one. -/
theorem join_eq {T : Nat → Prop} {c j : Nat} (h : QFull T (budQ c) j) : plusQ (minusQ T (budQ c) j) (c / 2) (j + 1) = plusQ T c j := by
  funext x
  apply propext
  unfold plusQ minusQ
  rw [div_one]
  constructor
  · rintro (⟨h1, _⟩ | h1)
    · exact Or.inl h1
    · rcases half_two c _ h1 with e | e
      · exact Or.inr e
      · exact Or.inl (h x e)
  · rintro (h1 | h1)
    · by_cases e : x / 2 ^ j = budQ c
      · right; rw [e, budQ_half]
      · exact Or.inl ⟨h1, e⟩
    · right; rw [h1]
theorem join_dis {T : Nat → Prop} {c j : Nat} (h : ∀ x, x / 2 ^ j = c → ¬ T x) : ∀ x, x / 2 ^ (j + 1) = c / 2 → ¬ minusQ T (budQ c) j x := fun x hx h1 => by
  rw [div_one] at hx
  rcases half_two c _ hx with e | e
  · exact h x e h1.1
  · exact h1.2 e
theorem full_fit {T : Nat → Prop} {c j n : Nat} (h : ∀ x, T x → x < n) (hq : QFull T c j) : (c + 1) * 2 ^ j ≤ n := by
  have h0 := Nat.two_pow_pos j
  have h1 := h _ (hq (c * 2 ^ j + (2 ^ j - 1)) (by rw [Nat.add_comm, Nat.add_mul_div_right _ _ h0, Nat.div_eq_of_lt (by omega)]; omega))
  rw [Nat.add_mul]; omega
theorem join_fit {c j n : Nat} (h : (budQ c + 1) * 2 ^ j ≤ n) (h' : (c + 1) * 2 ^ j ≤ n) : (c / 2 + 1) * 2 ^ (j + 1) ≤ n := by
  rw [Nat.pow_succ, Nat.mul_comm (2 ^ j) 2, ← Nat.mul_assoc]
  have hb : (c / 2 + 1) * 2 = c + 1 ∨ (c / 2 + 1) * 2 = budQ c + 1 := by unfold budQ; split <;> omega
  rcases hb with e | e <;> rw [e] <;> assumption

theorem list_look {ops : Array Oper} {rest : List Oper} {o : Oper} {a : Act} {Q : Exit → Act → World → Prop} {pb pm : Nat} {T : Nat → Prop} {H : List Blk} {g w : World} {R : HP} (h : Sat g w (midP pb pm T H * R)) (hgd : o.guard = none) (m k : Operand)
    (ho : o.op = .lookup 123 m k false) (hb : Nat) (hcm : w.cell? ⟨pb, 10, none⟩ = some (.map (some hb))) (hm : a.eval m = .map (some hb)) (x : Blk) (hk : a.eval k = encB x) (v : Bool) (hv : decide (x ∈ H) = v)
    (hK : wpList Try.prog ops Q rest (a.put o.dst (.bool v)) w) : wpList Try.prog ops Q (o :: rest) a w := by
  obtain ⟨hb', V, F, hi, _, _, _⟩ := h.mid
  have e := hi.cm
  rw [hcm] at e
  simp only [Option.some.injEq, Value.map.injEq] at e
  subst e
  have hr := run_lookB hi.held x
  rw [hv] at hr
  refine wpList_plain hgd fun K hK' => ?_
  unfold Oper.wp
  simp only [execOp, ho, hm, hk]
  simp [hr, Result.andThen]
  exact hK' _ _ hK
theorem list_del {ops : Array Oper} {rest : List Oper} {o : Oper} {a : Act} {Q : Exit → Act → World → Prop} {pb pm : Nat} {T : Nat → Prop} {H : List Blk} {g w : World} {R : HP} (h : Sat g w (midP pb pm T H * R)) (hgd : o.guard = none) (hdst : o.dst = none) (m k : Operand)
    (ho : o.op = .call { callee := .builtin .delete, args := #[m, k], argTypes := #[123, 130] }) (hb : Nat) (hcm : w.cell? ⟨pb, 10, none⟩ = some (.map (some hb))) (hm : a.eval m = .map (some hb)) (x : Blk) (hk : a.eval k = encB x) (hx : x ∈ H)
    (hK : ∀ w', Sat g w' (midP pb pm T (H.erase x) * R) → wpList Try.prog ops Q rest a w') : wpList Try.prog ops Q (o :: rest) a w := by
  obtain ⟨hb', V, F, hi, hc, hs, back⟩ := h.mid
  have e := hi.cm
  rw [hcm] at e
  simp only [Option.some.injEq, Value.map.injEq] at e
  subst e
  obtain ⟨w', hr, hm', ht⟩ := run_delB (ty := o.type) hi.held x hx
  refine wpList_plain hgd fun K hK' => ?_
  unfold Oper.wp
  simp [execOp, ho, resolve, invoke, builtin, hm, hk, hr, Result.andThen]
  have e : a.put o.dst (.tuple #[]) = a := by rw [hdst]; rfl
  exact hK' _ _ (by rw [e]; exact hK w' (back _ _ _ _ (hi.lay ht hm') hc hs))

theorem s_scrub (pm n : Nat) (W : Nat → Int) (f m : Nat) (g w : World) (R : HP) (h : Sat g w (memP pm n W * R)) (h1 : 1 ≤ m) (h2 : f + m ≤ n) :
    Calls Try.prog 88 #[.pointer (some ⟨pm, 0, none⟩), .int .i64 f, .int .i64 m] w fun e w' => e = .returned (.int .i64 0) ∧ Sat g w' (memP pm n (scrubW W f m) * R) := by
  obtain ⟨bk, hm, _, back⟩ := h.mem
  exact (scrub_yes pm bk n W f m w hm h1 h2).mono fun e w' ⟨he, h1, h2⟩ => ⟨he, back _ _ h2 h1⟩

theorem s_free_no (pb pm : Nat) (T : Nat → Prop) (H : List Blk) (f o : Int) (g w : World) (R : HP) (h : Sat g w (midP pb pm T H * R)) (hn : (f, o) ∉ H) :
    Calls Try.prog 73 #[.pointer (some ⟨pb, 0, none⟩), .int .i64 f, .int .i64 o] w fun e w' => e = .returned (.int .i64 2) ∧ Sat g w' (midP pb pm T H * R) := by
  have h1 : Sat g (w.alloc (.cells #[.int .i64 f, .int .i64 o] 130)) (xP w.heap.size f o * (midP pb pm T H * R)) := h.x_new f o _
  have H1 := Lib.hid h1
  have hd : decide ((f, o) ∈ H) = false := by simpa using hn
  clear h1
  go_enter Try.func73, Try.ntmps73
  go_wp2_with (fail)
  have h1 := H1.out
  obtain ⟨xb, hxb⟩ : ∃ xb, xb = w.heap.size := ⟨_, rfl⟩
  obtain ⟨w2, hw2⟩ : ∃ w2, w2 = w.alloc (.cells #[.int .i64 f, .int .i64 o] 130) := ⟨_, rfl⟩
  rw [← hxb, ← hw2] at h1
  rw [← hxb, ← hw2]
  clear hxb hw2 H1
  have S8 := h1.drew
  have q0 : ∀ p : Wc (fun w' => w2.drew = w'), p.w.cell? ⟨xb, 0, none⟩ = some (.int .i64 f) := fun p => by rw [← p.h]; exact S8.inv.c0
  have q1 : ∀ p : Wc (fun w' => w2.drew = w'), p.w.cell? ⟨xb, 1, none⟩ = some (.int .i64 o) := fun p => by rw [← p.h]; exact S8.inv.c1
  obtain ⟨hb, _, _, _, _, _, _, g10, _, _⟩ := S8.swap.mid_read
  have q2 : ∀ p : Wc (fun w' => w2.drew = w'), p.w.cell? ⟨pb, 10, none⟩ = some (.map (some hb)) := fun p => by rw [← p.h]; exact g10
  refine region_tail (fun w' => w2.drew = w') 5 (by kernel_rfl) (by kernel_rfl) rfl ?_
  intro _
  simp only [List.take_succ_cons, List.take_zero, List.drop_succ_cons, List.drop_zero]
  (repeat (first | go_big_quiet_step (fail) | quiet_step (fail)))
  refine wpQuiet_nil ?_
  rintro _ rfl
  clear q0 q1 q2
  refine list_look S8.swap (by rfl) _ _ (by rfl) hb g10 (by rfl) (f, o) (by rfl) false hd ?_
  go_wp2_with (fail)
  go_ret
  exact ⟨rfl, S8.right⟩

theorem s_free (pb pm n : Nat) (T : Nat → Prop) (H : List Blk) (W : Nat → Int) (a o f : Nat) (g w : World) (R : HP) (h : Sat g w (midP pb pm T H * (memP pm n W * R))) (ho : o ≤ 8) (hf : f = a * 2 ^ o) (ha : (a + 1) * 2 ^ o ≤ n)
    (hin : ((f : Int), (o : Int)) ∈ H) (hdis : ∀ x, x / 2 ^ o = a → ¬ T x) (hT : ∀ x, T x → x < n) :
    Calls Try.prog 73 #[.pointer (some ⟨pb, 0, none⟩), .int .i64 f, .int .i64 o] w fun e w' => e = .returned (.int .i64 0) ∧ Sat g w' (midP pb pm (plusQ T a o) (H.erase ((f : Int), (o : Int))) * (memP pm n (scrubW W f (2 ^ o)) * R)) := by
  have h1 : Sat g (w.alloc (.cells #[.int .i64 f, .int .i64 o] 130)) (xP w.heap.size f o * (midP pb pm T H * (memP pm n W * R))) := h.x_new f o _
  have H1 := Lib.hid h1
  have hd : decide (((f : Int), (o : Int)) ∈ H) = true := by simpa using hin
  obtain ⟨n1, n2⟩ : 1 ≤ n ∧ n ≤ 256 := h.swap.mem_n
  have HF := Lib.hid hf
  clear h1 hf
  go_enter Try.func73, Try.ntmps73
  go_wp2_with (fail)
  have h1 := H1.out
  obtain ⟨xb, hxb⟩ : ∃ xb, xb = w.heap.size := ⟨_, rfl⟩
  obtain ⟨w2, hw2⟩ : ∃ w2, w2 = w.alloc (.cells #[.int .i64 f, .int .i64 o] 130) := ⟨_, rfl⟩
  rw [← hxb, ← hw2] at h1
  rw [← hxb, ← hw2]
  clear hxb hw2 H1
  have S8 := h1.drew
  have q0 : ∀ p : Wc (fun w' => w2.drew = w'), p.w.cell? ⟨xb, 0, none⟩ = some (.int .i64 f) := fun p => by rw [← p.h]; exact S8.inv.c0
  have q1 : ∀ p : Wc (fun w' => w2.drew = w'), p.w.cell? ⟨xb, 1, none⟩ = some (.int .i64 o) := fun p => by rw [← p.h]; exact S8.inv.c1
  obtain ⟨hb, _, _, _, _, _, _, g10, _, _⟩ := S8.swap.mid_read
  have q2 : ∀ p : Wc (fun w' => w2.drew = w'), p.w.cell? ⟨pb, 10, none⟩ = some (.map (some hb)) := fun p => by rw [← p.h]; exact g10
  refine region_tail (fun w' => w2.drew = w') 5 (by kernel_rfl) (by kernel_rfl) rfl ?_
  intro _
  simp only [List.take_succ_cons, List.take_zero, List.drop_succ_cons, List.drop_zero]
  (repeat (first | go_big_quiet_step (fail) | quiet_step (fail)))
  refine wpQuiet_nil ?_
  rintro _ rfl
  clear q0 q1 q2
  refine list_look S8.swap (by rfl) _ _ (by rfl) hb g10 (by rfl) ((f : Int), (o : Int)) (by rfl) true hd ?_
  go_wp2_with (fail)
  obtain ⟨w3, hw3⟩ : ∃ w3, w3 = w2.drew := ⟨_, rfl⟩
  rw [← hw3] at S8 ⊢
  clear hw3 h1 g10
  have S9 := S8.drew
  have q0 : ∀ p : Wc (fun w' => w3.drew = w'), p.w.cell? ⟨xb, 0, none⟩ = some (.int .i64 f) := fun p => by rw [← p.h]; exact S9.inv.c0
  have q1 : ∀ p : Wc (fun w' => w3.drew = w'), p.w.cell? ⟨xb, 1, none⟩ = some (.int .i64 o) := fun p => by rw [← p.h]; exact S9.inv.c1
  obtain ⟨hb, _, _, _, _, _, _, g10, _, _⟩ := S9.swap.mid_read
  have q2 : ∀ p : Wc (fun w' => w3.drew = w'), p.w.cell? ⟨pb, 10, none⟩ = some (.map (some hb)) := fun p => by rw [← p.h]; exact g10
  refine region_tail (fun w' => w3.drew = w') 5 (by kernel_rfl) (by kernel_rfl) rfl ?_
  intro _
  simp only [List.take_succ_cons, List.take_zero, List.drop_succ_cons, List.drop_zero]
  (repeat (first | go_big_quiet_step (fail) | quiet_step (fail)))
  refine wpQuiet_nil ?_
  rintro _ rfl
  clear q0 q1 q2
  refine list_del S9.swap (by rfl) (by rfl) _ _ (by rfl) hb g10 (by rfl) ((f : Int), (o : Int)) (by rfl) hin fun w4 S10 => ?_
  obtain ⟨P, hP⟩ : ∃ P : Nat, 2 ^ o = P := ⟨_, rfl⟩
  have hPz : (2 : Int) ^ o = (P : Int) := by rw [← hP]; push_cast; rfl
  have hP1 : 1 ≤ P := by rw [← hP]; exact Nat.two_pow_pos o
  have hfP : f + P ≤ n := by rw [HF.out, ← hP]; rw [Nat.add_mul] at ha; omega
  have hwP : IntKind.i64.wrap (P : Int) = (P : Int) := IntWalk.i64_in _ ⟨by omega, by omega⟩
  have o0 : (0 : Int) ≤ (o : Int) := by omega
  have o64 : (o : Int) ≤ 64 := by omega
  have HP := Lib.hid hP
  clear hP S9 S8 g10
  go_wp2_with (fail)
  have S11 := S10.drew
  obtain ⟨_, _, _, _, _, _, g0, _, _, _⟩ := S11.mid_read
  have q0 : ∀ p : Wc (fun w' => w4.drew = w'), p.w.cell? ⟨pb, 0, none⟩ = some (.pointer (some ⟨pm, 0, none⟩)) := fun p => by rw [← p.h]; exact g0
  refine region_tail (fun w' => w4.drew = w') 7 (by kernel_rfl) (by kernel_rfl) rfl ?_
  intro _
  simp only [List.take_succ_cons, List.take_zero, List.drop_succ_cons, List.drop_zero]
  (repeat (first | go_big_quiet_step (fail) | quiet_step (fail)))
  refine wpQuiet_nil ?_
  rintro _ rfl
  clear q0 g0
  have S12 : Sat g w4.drew (memP pm n W * (midP pb pm T (H.erase ((f : Int), (o : Int))) * (xP xb f o * R))) := S11.up3
  clear S11 S10
  go_wp2_with (fail)
  refine (s_scrub pm n W f P g _ _ S12 hP1 hfP).mono ?_
  rintro e w5 ⟨rfl, S13⟩
  have S14 : Sat g w5 (xP xb f o * (midP pb pm T (H.erase ((f : Int), (o : Int))) * (memP pm n (scrubW W f P) * R))) := S13.perm (by ac_rfl)
  clear S13 S12
  go_wp2_with (fail)
  go_loopw [] (fun wr => ∃ (j c : Nat) (T' : Nat → Prop), o ≤ j ∧ j ≤ 8 ∧ Hid (plusQ T' c j = plusQ T a o) ∧ Hid (∀ x, x / 2 ^ j = c → ¬ T' x) ∧ Hid ((c + 1) * 2 ^ j ≤ n) ∧ Hid (∀ x, T' x → x < n) ∧ Sat g wr (xP xb ((c * 2 ^ j : Nat) : Int) j * (midP pb pm T' (H.erase ((f : Int), (o : Int))) * (memP pm n (scrubW W f P) * R)))) (fun wr => 8 - (intOf ((wr.cell? ⟨xb, 1, none⟩).getD undef)).toNat)
  case atStart => exact ⟨o, a, T, by omega, by omega, Lib.hid rfl, Lib.hid hdis, Lib.hid ha, Lib.hid hT, by rw [← HF.out]; exact S14⟩
  case round =>
    obtain ⟨j, c, T', hj1, hj2, HEQ, HDIS, HFIT, HT', S1⟩ := hrel
    clear S14
    obtain ⟨Q, hQ⟩ : ∃ Q : Nat, 2 ^ j = Q := ⟨_, rfl⟩
    obtain ⟨F, hF⟩ : ∃ F : Nat, c * 2 ^ j = F := ⟨_, rfl⟩
    rw [hF] at S1
    have hQz : (2 : Int) ^ j = (Q : Int) := by rw [← hQ]; push_cast; rfl
    have hQ1 : 1 ≤ Q := by rw [← hQ]; exact Nat.two_pow_pos j
    have hFQ : F + Q ≤ n := by have := HFIT.out; rw [Nat.add_mul, hF, hQ] at this; omega
    have hc256 : c < 256 := by
      have h1 := HFIT.out
      rw [hQ] at h1
      have h2 : (c + 1) * 1 ≤ (c + 1) * Q := Nat.mul_le_mul_left _ hQ1
      omega
    have HQ := Lib.hid hQ
    have HFF := Lib.hid hF
    have HM0 : Hid ((intOf ((wr.cell? ⟨xb, 1, none⟩).getD undef)).toNat = j) := Lib.hid (by rw [S1.inv.c1]; simp [intOf])
    have hwq : IntKind.i64.wrap (Q : Int) = (Q : Int) := IntWalk.i64_in _ ⟨by omega, by omega⟩
    have j0 : (0 : Int) ≤ (j : Int) := by omega
    have j64 : (j : Int) ≤ 64 := by omega
    have S2 := S1.drew
    have q0 : ∀ p : Wc (fun w' => wr.drew = w'), p.w.cell? ⟨xb, 0, none⟩ = some (.int .i64 F) := fun p => by rw [← p.h]; exact S2.inv.c0
    have q1 : ∀ p : Wc (fun w' => wr.drew = w'), p.w.cell? ⟨xb, 1, none⟩ = some (.int .i64 j) := fun p => by rw [← p.h]; exact S2.inv.c1
    by_cases h8 : j < 8
    · have hd8 : decide ((j : Int) < 8) = true := by simp; omega
      have hxor : bits .xor .i64 (F : Int) (Q : Int) = ((budQ c * 2 ^ j : Nat) : Int) := by rw [← hF, ← hQ]; exact bud_xor j h8 c hc256
      obtain ⟨B, hB⟩ : ∃ B : Nat, budQ c * 2 ^ j = B := ⟨_, rfl⟩
      rw [hB] at hxor
      have HB := Lib.hid hB
      clear hQ hF hB
      by_cases hful : QFull T' (budQ c) j
      · have hnot : bits .andNot .i64 (F : Int) (Q : Int) = ((c / 2 * 2 ^ (j + 1) : Nat) : Int) := by rw [← HFF.out, ← HQ.out]; exact bud_not j h8 c hc256
        obtain ⟨D, hD⟩ : ∃ D : Nat, c / 2 * 2 ^ (j + 1) = D := ⟨_, rfl⟩
        rw [hD] at hnot
        have HD := Lib.hid hD
        have HFUL := Lib.hid hful
        clear hD hful
        go_wp2_with (fail)
        refine region_tail (fun w' => wr.drew = w') 14 (by kernel_rfl) (by kernel_rfl) rfl ?_
        intro _
        simp only [List.take_succ_cons, List.take_zero, List.drop_succ_cons, List.drop_zero]
        (repeat (first | go_big_quiet_step (fail) | quiet_step (fail)))
        refine wpQuiet_nil ?_
        rintro _ rfl
        clear q0 q1
        go_wp2_with (fail)
        refine (s_btake pb pm T' (H.erase ((f : Int), (o : Int))) (budQ c) j (B : Int) g _ _ S2.swap (by rw [HB.out]) hj2 ((bud_can h8 HDIS.out).1 HFUL.out)).mono ?_
        rintro e w6 ⟨rfl, S3⟩
        have S4 := S3.swap
        go_wp2_with (fail)
        have S5 := S4.drew
        have q0 : ∀ p : Wc (fun w' => w6.drew = w'), p.w.cell? ⟨xb, 0, none⟩ = some (.int .i64 F) := fun p => by rw [← p.h]; exact S5.inv.c0
        have q1 : ∀ p : Wc (fun w' => w6.drew = w'), p.w.cell? ⟨xb, 1, none⟩ = some (.int .i64 j) := fun p => by rw [← p.h]; exact S5.inv.c1
        refine region_tail (fun w' => w6.drew = w') 6 (by kernel_rfl) (by kernel_rfl) rfl ?_
        intro _
        simp only [List.take_succ_cons, List.take_zero, List.drop_succ_cons, List.drop_zero]
        (repeat (first | go_big_quiet_step (fail) | quiet_step (fail)))
        refine wpQuiet_nil ?_
        rintro _ rfl
        clear q0 q1
        obtain ⟨w7, hw7⟩ : ∃ w7, w7 = w6.drew := ⟨_, rfl⟩
        rw [← hw7] at S5 ⊢
        clear hw7 S4 S3
        have xc0 := S5.inv.c0
        have xc1 := S5.inv.c1
        have xf0 := S5.inv.f0
        have xf1 := S5.inv.f1
        have hwj : IntKind.i64.wrap ((j : Int) + 1) = (j : Int) + 1 := IntWalk.i64_in _ ⟨by omega, by omega⟩
        have S6 := S5.x_set (w' := (w7.setCell ⟨xb, 0, none⟩ (.int .i64 D)).setCell ⟨xb, 1, none⟩ (.int .i64 ((j : Int) + 1))) ((x_touch xb 0 _).trans (x_touch xb 1 _)) ((S5.inv.set0 D).set1 ((j : Int) + 1))
        go_wp2_with (fail)
        go_roundw
        case rel =>
          exact ⟨j + 1, c / 2, minusQ T' (budQ c) j, by omega, by omega, Lib.hid ((join_eq HFUL.out).trans HEQ.out), Lib.hid (join_dis HDIS.out), Lib.hid (join_fit (full_fit HT'.out HFUL.out) HFIT.out), Lib.hid (fun x hx => HT'.out x hx.1), (by rw [HD.out]; push_cast; exact S6)⟩
        case measure =>
          have hc := S6.inv.c1
          rw [HM0.out, hc]
          simp [intOf]; omega
      · have HNF := Lib.hid hful
        clear hful
        go_wp2_with (fail)
        refine region_tail (fun w' => wr.drew = w') 14 (by kernel_rfl) (by kernel_rfl) rfl ?_
        intro _
        simp only [List.take_succ_cons, List.take_zero, List.drop_succ_cons, List.drop_zero]
        (repeat (first | go_big_quiet_step (fail) | quiet_step (fail)))
        refine wpQuiet_nil ?_
        rintro _ rfl
        clear q0 q1
        go_wp2_with (fail)
        refine (s_btake_no pb pm T' (H.erase ((f : Int), (o : Int))) (budQ c) j (B : Int) g _ _ S2.swap (by rw [HB.out]) hj2 (fun hq => HNF.out hq.1)).mono ?_
        rintro e w6 ⟨rfl, hb6⟩
        have S4 := S2.below hb6
        have xc0 := S4.inv.c0
        have xc1 := S4.inv.c1
        go_wp2_with (fail)
        refine (s_bput pb pm T' (H.erase ((f : Int), (o : Int))) c j (F : Int) g _ _ S4.swap (by rw [HFF.out]) hj2 (Nat.le_trans HFIT.out n2) HDIS.out (fun _ => HNF.out)).mono ?_
        rintro e w7 ⟨rfl, S5⟩
        go_wp2_with (fail)
        go_ret
        rw [HEQ.out, ← HP.out] at S5
        exact ⟨rfl, S5.swap.right⟩
    · have hd8 : decide ((j : Int) < 8) = false := by simp; omega
      clear hQ hF
      go_wp2_with (fail)
      refine region_tail (fun w' => wr.drew = w') 14 (by kernel_rfl) (by kernel_rfl) rfl ?_
      intro _
      simp only [List.take_succ_cons, List.take_zero, List.drop_succ_cons, List.drop_zero]
      (repeat (first | go_big_quiet_step (fail) | quiet_step (fail)))
      refine wpQuiet_nil ?_
      rintro _ rfl
      clear q0 q1
      have xc0 := S2.inv.c0
      have xc1 := S2.inv.c1
      go_wp2_with (fail)
      refine (s_bput pb pm T' (H.erase ((f : Int), (o : Int))) c j (F : Int) g _ _ S2.swap (by rw [HFF.out]) hj2 (Nat.le_trans HFIT.out n2) HDIS.out (fun h => absurd h h8)).mono ?_
      rintro e w7 ⟨rfl, S5⟩
      go_wp2_with (fail)
      go_ret
      rw [HEQ.out, ← HP.out] at S5
      exact ⟨rfl, S5.swap.right⟩

end Go.Proofs.Yteehghjdifbjbaa

namespace Go.Proofs.Yteehghjdifbjbaa
set_option linter.unusedSimpArgs false
set_option linter.unusedVariables false
set_option maxRecDepth 100000
open Go.RowKit
set_option maxHeartbeats 4000000

/-- How many numbers the first lists tell. -/
def sumF (F : Nat → List Int) : Nat → Nat
  | 0 => 0
  | k + 1 => sumF F k + (F k).length * 2 ^ k
theorem sumF_le (F : Nat → List Int) : ∀ k, k ≤ 9 → (∀ o, o < 9 → (F o).length ≤ 256) → sumF F k ≤ k * 65536
  | 0, _, _ => Nat.le_refl _
  | k + 1, h, hl => by
    have ih := sumF_le F k (by omega) hl
    have h1 : (F k).length * 2 ^ k ≤ 256 * 2 ^ 8 := Nat.mul_le_mul (hl k (by omega)) (Nat.pow_le_pow_right (by omega) (by omega))
    unfold sumF; omega
theorem nine_at (x : Nat → Value) (k : Nat) (hk : k < 9) (w : World) : (Instr.index 125 (.agg #[x 0, x 1, x 2, x 3, x 4, x 5, x 6, x 7, x 8]) (.int .i64 k)).run Try.prog w = .ok (x k) w := by
  have hh : k = 0 ∨ k = 1 ∨ k = 2 ∨ k = 3 ∨ k = 4 ∨ k = 5 ∨ k = 6 ∨ k = 7 ∨ k = 8 := by omega
  rcases hh with rfl | rfl | rfl | rfl | rfl | rfl | rfl | rfl | rfl <;> (show _ = _; kernel_rfl)

end Go.Proofs.Yteehghjdifbjbaa

namespace Go.Proofs.Yteehghjdifbjbaa
set_option linter.unusedSimpArgs false
set_option linter.unusedVariables false
set_option maxRecDepth 100000
open Go.RowKit

theorem full_can {T : Nat → Prop} : ∀ (d a o : Nat), o + d = 8 → QFull T a o → ∃ b k, o ≤ k ∧ k ≤ 8 ∧ QCan T b k ∧ a / 2 ^ (k - o) = b
  | 0, a, o, h, hf => ⟨a, o, Nat.le_refl _, by omega, ⟨hf, fun h8 => absurd h8 (by omega)⟩, by simp⟩
  | d + 1, a, o, h, hf => by
    by_cases hp : QFull T (a / 2) (o + 1)
    · obtain ⟨b, k, h1, h2, h3, h4⟩ := full_can d (a / 2) (o + 1) (by omega) hp
      refine ⟨b, k, by omega, h2, h3, ?_⟩
      rw [← h4, Nat.div_div_eq_div_mul, show k - o = (k - (o + 1)) + 1 by omega, Nat.pow_succ, Nat.mul_comm 2]
    · exact ⟨a, o, Nat.le_refl _, by omega, ⟨hf, fun _ => hp⟩, by simp⟩

/-- Is a frame in a block? -/
def inB (b : Blk) (x : Nat) : Prop := x / 2 ^ b.2.toNat = b.1.toNat / 2 ^ b.2.toNat
theorem inB_of (a o x : Nat) : inB (((a * 2 ^ o : Nat) : Int), (o : Int)) x ↔ x / 2 ^ o = a := by
  unfold inB
  simp only [Int.toNat_natCast]
  rw [in_block]
structure InvB (r n : Nat) (T : Nat → Prop) (H : List Blk) : Prop where
  cov : ∀ x, (r ≤ x ∧ x < n) ↔ (T x ∨ ∃ b ∈ H, inB b x)
  blk : ∀ b ∈ H, ∃ a o : Nat, o ≤ 8 ∧ b = (((a * 2 ^ o : Nat) : Int), (o : Int))
  apart : ∀ b ∈ H, ∀ x, inB b x → ¬ T x
  disj : ∀ b ∈ H, ∀ b' ∈ H, ∀ x, inB b x → inB b' x → b = b'
  nodup : H.Nodup
theorem inv_new (r n : Nat) : InvB r n (rangeT r n) [] :=
  ⟨fun x => by simp [rangeT], by simp, by simp, by simp, List.nodup_nil⟩
theorem inv_alloc {r n : Nat} {T : Nat → Prop} {H : List Blk} (h : InvB r n T H) {c o : Nat} (ho : o ≤ 8) (hf : QFull T c o) :
    InvB r n (minusQ T c o) (H ++ [(((c * 2 ^ o : Nat) : Int), (o : Int))]) := by
  have hnew : ∀ x, inB (((c * 2 ^ o : Nat) : Int), (o : Int)) x → T x := fun x hx => hf x ((inB_of c o x).1 hx)
  refine ⟨fun x => ?_, fun b hb => ?_, fun b hb x hx => ?_, fun b hb b' hb' x hx hx' => ?_, ?_⟩
  · rw [h.cov]
    constructor
    · rintro (h1 | ⟨b, hb, hx⟩)
      · by_cases e : x / 2 ^ o = c
        · exact Or.inr ⟨_, List.mem_append_right _ (List.mem_singleton.2 rfl), (inB_of c o x).2 e⟩
        · exact Or.inl ⟨h1, e⟩
      · exact Or.inr ⟨b, List.mem_append_left _ hb, hx⟩
    · rintro (h1 | ⟨b, hb, hx⟩)
      · exact Or.inl h1.1
      · rcases List.mem_append.1 hb with hb | hb
        · exact Or.inr ⟨b, hb, hx⟩
        · rw [List.mem_singleton.1 hb] at hx
          exact Or.inl (hnew x hx)
  · rcases List.mem_append.1 hb with hb | hb
    · exact h.blk b hb
    · exact ⟨c, o, ho, List.mem_singleton.1 hb⟩
  · rcases List.mem_append.1 hb with hb | hb
    · exact fun h1 => h.apart b hb x hx h1.1
    · rw [List.mem_singleton.1 hb] at hx
      exact fun h1 => h1.2 ((inB_of c o x).1 hx)
  · rcases List.mem_append.1 hb with hb | hb <;> rcases List.mem_append.1 hb' with hb' | hb'
    · exact h.disj b hb b' hb' x hx hx'
    · rw [List.mem_singleton.1 hb'] at hx'
      exact absurd (hnew x hx') (h.apart b hb x hx)
    · rw [List.mem_singleton.1 hb] at hx
      exact absurd (hnew x hx) (h.apart b' hb' x hx')
    · rw [List.mem_singleton.1 hb, List.mem_singleton.1 hb']
  · refine List.nodup_append.2 ⟨h.nodup, by simp, fun y hy z hz => ?_⟩
    rintro rfl
    rw [List.mem_singleton.1 hz] at hy
    have hx := (inB_of c o (c * 2 ^ o)).2 (in_block c o)
    exact h.apart _ hy _ hx (hnew _ hx)
theorem inv_free {r n : Nat} {T : Nat → Prop} {H : List Blk} (h : InvB r n T H) {c o : Nat} (hin : (((c * 2 ^ o : Nat) : Int), (o : Int)) ∈ H) :
    InvB r n (plusQ T c o) (H.erase (((c * 2 ^ o : Nat) : Int), (o : Int))) := by
  have hm : ∀ b, b ∈ H.erase (((c * 2 ^ o : Nat) : Int), (o : Int)) ↔ b ≠ (((c * 2 ^ o : Nat) : Int), (o : Int)) ∧ b ∈ H := fun b => h.nodup.mem_erase_iff
  refine ⟨fun x => ?_, fun b hb => h.blk b ((hm b).1 hb).2, fun b hb x hx => ?_, fun b hb b' hb' x hx hx' => h.disj b ((hm b).1 hb).2 b' ((hm b').1 hb').2 x hx hx', h.nodup.erase _⟩
  · rw [h.cov]
    constructor
    · rintro (h1 | ⟨b, hb, hx⟩)
      · exact Or.inl (Or.inl h1)
      · by_cases e : b = (((c * 2 ^ o : Nat) : Int), (o : Int))
        · rw [e] at hx; exact Or.inl (Or.inr ((inB_of c o x).1 hx))
        · exact Or.inr ⟨b, (hm b).2 ⟨e, hb⟩, hx⟩
    · rintro ((h1 | h1) | ⟨b, hb, hx⟩)
      · exact Or.inl h1
      · exact Or.inr ⟨_, hin, (inB_of c o x).2 h1⟩
      · exact Or.inr ⟨b, ((hm b).1 hb).2, hx⟩
  · obtain ⟨hne, hb⟩ := (hm b).1 hb
    rintro (h1 | h1)
    · exact h.apart b hb x hx h1
    · exact hne (h.disj b hb _ hin x hx ((inB_of c o x).2 h1))

/-! ### How many -/
open Classical in
noncomputable def cnt (T : Nat → Prop) : Nat → Nat
  | 0 => 0
  | k + 1 => cnt T k + if T k then 1 else 0
theorem cnt_congr {T U : Nat → Prop} : ∀ k, (∀ x, x < k → (T x ↔ U x)) → cnt T k = cnt U k
  | 0, _ => rfl
  | k + 1, h => by
    unfold cnt
    rw [cnt_congr k (fun x hx => h x (by omega))]
    have := h k (by omega)
    by_cases hT : T k
    · rw [if_pos hT, if_pos (this.1 hT)]
    · rw [if_neg hT, if_neg (fun hu => hT (this.2 hu))]
theorem cnt_add {T A B : Nat → Prop} (h : ∀ x, T x ↔ A x ∨ B x) (hd : ∀ x, A x → ¬ B x) : ∀ k, cnt T k = cnt A k + cnt B k
  | 0 => rfl
  | k + 1 => by
    unfold cnt
    rw [cnt_add h hd k]
    by_cases hA : A k
    · rw [if_pos ((h k).2 (Or.inl hA)), if_pos hA, if_neg (hd k hA)]; omega
    · by_cases hB : B k
      · rw [if_pos ((h k).2 (Or.inr hB)), if_neg hA, if_pos hB]; omega
      · rw [if_neg (fun ht => ((h k).1 ht).elim hA hB), if_neg hA, if_neg hB]; omega
theorem cnt_range (s : Nat) : ∀ k, cnt (fun x => s ≤ x) k = k - s
  | 0 => by simp [cnt]
  | k + 1 => by
    unfold cnt
    rw [cnt_range s k]
    by_cases h : s ≤ k
    · rw [if_pos h]; omega
    · rw [if_neg h]; omega
theorem cnt_int (s m : Nat) : ∀ k, s + m ≤ k → cnt (fun x => s ≤ x ∧ x < s + m) k = m := fun k hk => by
  have h := cnt_add (T := fun x => s ≤ x) (A := fun x => s ≤ x ∧ x < s + m) (B := fun x => s + m ≤ x) (fun x => by omega) (fun x h1 h2 => by omega) k
  rw [cnt_range, cnt_range] at h
  omega
theorem block_iff (a o x : Nat) : x / 2 ^ o = a ↔ (a * 2 ^ o ≤ x ∧ x < a * 2 ^ o + 2 ^ o) := by
  have h0 := Nat.two_pow_pos o
  rw [Nat.div_eq_iff h0, Nat.mul_comm]
  omega
theorem cnt_block (a o k : Nat) (h : (a + 1) * 2 ^ o ≤ k) : cnt (fun x => x / 2 ^ o = a) k = 2 ^ o := by
  rw [cnt_congr (U := fun x => a * 2 ^ o ≤ x ∧ x < a * 2 ^ o + 2 ^ o) k (fun x _ => block_iff a o x)]
  exact cnt_int _ _ _ (by rw [Nat.add_mul] at h; omega)
theorem cnt_minus {T : Nat → Prop} {a o k : Nat} (hf : QFull T a o) (h : (a + 1) * 2 ^ o ≤ k) : cnt T k = cnt (minusQ T a o) k + 2 ^ o := by
  rw [← cnt_block a o k h]
  refine cnt_add (fun x => ?_) (fun x h1 h2 => h1.2 h2) k
  unfold minusQ
  constructor
  · intro hx
    by_cases e : x / 2 ^ o = a
    · exact Or.inr e
    · exact Or.inl ⟨hx, e⟩
  · rintro (h1 | h1)
    · exact h1.1
    · exact hf x h1
theorem cnt_plus {T : Nat → Prop} {a o k : Nat} (hd : ∀ x, x / 2 ^ o = a → ¬ T x) (h : (a + 1) * 2 ^ o ≤ k) : cnt (plusQ T a o) k = cnt T k + 2 ^ o := by
  rw [← cnt_block a o k h]
  exact cnt_add (fun x => Iff.rfl) (fun x h1 h2 => hd x h2 h1) k
theorem cnt_zero {T : Nat → Prop} : ∀ k, (∀ x, x < k → ¬ T x) → cnt T k = 0
  | 0, _ => rfl
  | k + 1, h => by
    unfold cnt
    rw [cnt_zero k (fun x hx => h x (by omega)), if_neg (h k (by omega))]
theorem sumF_upd (F : Nat → List Int) (o : Nat) (L : List Int) : ∀ k, sumF (upd F o L) k + (if o < k then (F o).length * 2 ^ o else 0) = sumF F k + (if o < k then L.length * 2 ^ o else 0)
  | 0 => by simp [sumF]
  | k + 1 => by
    have ih := sumF_upd F o L k
    unfold sumF
    rcases Nat.lt_trichotomy o k with h | rfl | h
    · rw [upd_other F L (by omega : k ≠ o), if_pos (by omega), if_pos (by omega)]
      rw [if_pos h, if_pos h] at ih
      omega
    · rw [upd_same, if_pos (by omega), if_pos (by omega)]
      rw [if_neg (by omega), if_neg (by omega)] at ih
      omega
    · rw [upd_other F L (by omega : k ≠ o), if_neg (by omega), if_neg (by omega)]
      rw [if_neg (by omega), if_neg (by omega)] at ih
      omega
theorem sumF_nil (F : Nat → List Int) : ∀ k, (∀ o, o < k → F o = []) → sumF F k = 0
  | 0, _ => rfl
  | k + 1, h => by
    unfold sumF
    rw [sumF_nil F k (fun o ho => h o (by omega)), h k (by omega)]; simp
theorem len_delL (L : List Int) (x : Int) (h : L.Pairwise (· < ·)) (hx : x ∈ L) : (delL L x).length = L.length - 1 := by
  obtain ⟨hi, _⟩ := at_count L x h hx
  unfold delL
  rw [List.length_eraseIdx_of_lt hi]
theorem full_small' {T : Nat → Prop} {c j : Nat} (h : Small T) (hq : QFull T c j) : (c + 1) * 2 ^ j ≤ 256 := by
  have h0 := Nat.two_pow_pos j
  have h1 := h _ (hq (c * 2 ^ j + (2 ^ j - 1)) (by rw [Nat.add_comm, Nat.add_mul_div_right _ _ h0, Nat.div_eq_of_lt (by omega)]; omega))
  rw [Nat.add_mul]; omega
theorem sum_cnt : ∀ (m : Nat) (T : Nat → Prop) (F : Nat → List Int), cnt T 256 ≤ m → CanF T F → Small T → sumF F 9 = cnt T 256 := by
  intro m
  induction m with
  | zero =>
    intro T F hm h hs
    have : ∀ o, o < 9 → F o = [] := fun o ho => by
      refine List.eq_nil_iff_forall_not_mem.2 fun f hf => ?_
      obtain ⟨a, rfl, hc⟩ := ((h o ho).2 f).1 hf
      have h1 := cnt_minus hc.1 (full_small' hs hc.1)
      have := Nat.two_pow_pos o
      omega
    rw [sumF_nil F 9 this]; omega
  | succ m ih =>
    intro T F hm h hs
    by_cases hall : ∀ o, o < 9 → F o = []
    · rw [sumF_nil F 9 hall]
      refine (cnt_zero 256 fun x _ hT => ?_).symm
      obtain ⟨b, k, _, hk, hc, _⟩ := full_can (T := T) 8 x 0 rfl (fun y hy => by rw [Nat.pow_zero, Nat.div_one] at hy; rw [hy]; exact hT)
      have := ((h k (by omega)).2 _).2 ⟨b, rfl, hc⟩
      rw [hall k (by omega)] at this
      simp at this
    · obtain ⟨o, ho⟩ := Classical.not_forall.1 hall
      obtain ⟨ho9, hne⟩ := Classical.not_imp.1 ho
      obtain ⟨f, hf⟩ := List.exists_mem_of_ne_nil _ hne
      obtain ⟨a, rfl, hc⟩ := ((h o ho9).2 f).1 hf
      obtain ⟨h1, h2⟩ := h.del (by omega) hc
      have h3 := cnt_minus hc.1 (full_small' hs hc.1)
      have h4 := ih (minusQ T a o) _ (by have := Nat.two_pow_pos o; omega) h2 (small_minus hs a o)
      have h5 := sumF_upd F o (delL (F o) ((a * 2 ^ o : Nat) : Int)) 9
      rw [if_pos ho9, if_pos ho9, h4, len_delL _ _ (h o ho9).1 h1] at h5
      have h6 : 0 < (F o).length := List.length_pos_of_mem h1
      have h7 : (F o).length * 2 ^ o = ((F o).length - 1) * 2 ^ o + 2 ^ o := by
        obtain ⟨q, hq⟩ : ∃ q, (F o).length = q + 1 := ⟨(F o).length - 1, by omega⟩
        rw [hq, Nat.add_mul]; simp
      omega

end Go.Proofs.Yteehghjdifbjbaa

namespace Go.Proofs.Yteehghjdifbjbaa
set_option linter.unusedSimpArgs false
set_option linter.unusedVariables false
set_option maxRecDepth 100000
open Go.RowKit
set_option maxHeartbeats 1000000

def encL (x : Blk) : List Value := [.int .i64 x.1, .int .i64 x.2]
def blkCells (L : List Blk) : List Value := L.flatMap encL
theorem blkCells_length (L : List Blk) : (blkCells L).length = L.length * 2 := by
  induction L with
  | nil => rfl
  | cons a l ih => simp only [blkCells, List.flatMap_cons, List.length_append] at *; rw [ih]; simp [encL]; omega
theorem blkCells_snoc (L : List Blk) (x : Blk) : blkCells (L ++ [x]) = blkCells L ++ encL x := by simp [blkCells]
theorem blkCells_append (L M : List Blk) : blkCells (L ++ M) = blkCells L ++ blkCells M := by simp [blkCells]
theorem blkCells_at : ∀ (L : List Blk) (i : Nat) (h : i < L.length), (blkCells L)[i * 2]? = some (.int .i64 L[i].1) ∧ (blkCells L)[i * 2 + 1]? = some (.int .i64 L[i].2)
  | [], i, h => by simp at h
  | x :: L, 0, h => by simp [blkCells, encL]
  | x :: L, i + 1, h => by
    have ih := blkCells_at L i (by simpa using h)
    have e : blkCells (x :: L) = encL x ++ blkCells L := rfl
    have h3 : (encL x).length = 2 := rfl
    rw [e]
    have g : ∀ j, (encL x ++ blkCells L)[(i + 1) * 2 + j]? = (blkCells L)[i * 2 + j]? := fun j => by
      rw [List.getElem?_append_right (by omega)]; congr 1; omega
    have g0 := g 0
    simp only [Nat.add_zero] at g0
    rw [g0, g 1]
    exact ih

/-- In the order of their frames. -/
def RiseB (L : List Blk) : Prop := L.Pairwise fun a b => a.1 < b.1
theorem riseB_eq : ∀ {L M : List Blk}, (∀ x, x ∈ L ↔ x ∈ M) → RiseB L → RiseB M → L = M
  | [], [], _, _, _ => rfl
  | [], b :: M, h, _, _ => absurd ((h b).2 (by simp)) (by simp)
  | a :: L, [], h, _, _ => absurd ((h a).1 (by simp)) (by simp)
  | a :: L, b :: M, h, h1, h2 => by
    have p1 := List.pairwise_cons.1 h1
    have p2 := List.pairwise_cons.1 h2
    have hab : a = b := by
      rcases List.mem_cons.1 ((h a).1 (by simp)) with e | e
      · exact e
      · rcases List.mem_cons.1 ((h b).2 (by simp)) with e' | e'
        · exact e'.symm
        · have := p2.1 a e; have := p1.1 b e'; omega
    subst hab
    rw [riseB_eq (fun x => ?_) p1.2 p2.2]
    have hx := h x
    simp only [List.mem_cons] at hx
    constructor
    · intro hm
      rcases hx.1 (Or.inr hm) with rfl | h3
      · have := p1.1 x hm; omega
      · exact h3
    · intro hm
      rcases hx.2 (Or.inr hm) with rfl | h3
      · have := p2.1 x hm; omega
      · exact h3

end Go.Proofs.Yteehghjdifbjbaa

namespace Go.Proofs.Yteehghjdifbjbaa
set_option linter.unusedSimpArgs false
set_option linter.unusedVariables false
set_option maxRecDepth 100000
open Go.RowKit
set_option maxHeartbeats 4000000

end Go.Proofs.Yteehghjdifbjbaa

namespace Go.Proofs.Yteehghjdifbjbaa
set_option linter.unusedSimpArgs false
set_option linter.unusedVariables false
set_option maxRecDepth 100000
open Go.RowKit

/-- A slice's value whose cells are known. -/
def Src (w : World) (size : Nat) (v : Value) (m : Nat) (xs : List Value) : Prop :=
  xs.length = m * size ∧ ((v = .slice none 0 0 ∧ m = 0) ∨ ∃ b o c, v = .slice (some ⟨b, o, none⟩) m c ∧ (∀ j u, xs[j]? = some u → w.cell? ⟨b, o + j, none⟩ = some u) ∧ (0 < xs.length → b < w.heap.size))
theorem Src.below {w w' : World} {size m : Nat} {v : Value} {xs : List Value} (h : Src w size v m xs) (hb : Below w.heap.size w w') : Src w' size v m xs := by
  refine ⟨h.1, ?_⟩
  rcases h.2 with h | ⟨b, o, c, hv, hc, hl⟩
  · exact Or.inl h
  · exact Or.inr ⟨b, o, c, hv, fun j u hj => by
      have hlt := hl (by have := (List.getElem?_eq_some_iff.1 hj).1; omega)
      rw [hb.cell (p := ⟨b, o + j, none⟩) hlt]; exact hc j u hj, fun h0 => Nat.lt_of_lt_of_le (hl h0) hb.size⟩
theorem Src.keep {w w' : World} {size m : Nat} {v : Value} {xs : List Value} (h : Src w size v m xs) (hb : ∀ b, v.ownBlock = some b → b < w.heap.size → w'.heap[b]? = w.heap[b]?) (hs : w.heap.size ≤ w'.heap.size) : Src w' size v m xs := by
  refine ⟨h.1, ?_⟩
  rcases h.2 with h | ⟨b, o, c, rfl, hc, hl⟩
  · exact Or.inl h
  · exact Or.inr ⟨b, o, c, rfl, fun j u hj => by
      have hlt := hl (by have := (List.getElem?_eq_some_iff.1 hj).1; omega)
      rw [cell_of_heap (hb b rfl hlt)]; exact hc j u hj, fun h0 => Nat.lt_of_lt_of_le (hl h0) hs⟩
theorem Src.own {w : World} {base e size n : Nat} {v : Value} {xs : List Value} (h : w.ownsRow base e size v n xs) : Src w size v n xs := by
  refine ⟨h.1, ?_⟩
  rcases h.2 with h2 | ⟨g, cap, cur, rfl, hg, hh, r⟩
  · exact Or.inl h2
  · refine Or.inr ⟨g, 0, cap, rfl, fun j u hj => ?_, fun _ => ?_⟩
    · have hl := (List.getElem?_eq_some_iff.1 hj).1
      rw [Nat.zero_add, World.ownsRow.cellAt h j (by have := h.1; omega)]; exact hj
    · exact (World.ownsRow.lt h g rfl).2
theorem Src.take {w : World} {size n c : Nat} {a : Option Addr} {xs : List Value} (h : Src w size (.slice a n c) n xs) (k : Nat) (hk : k ≤ n) (hn : 0 < n) : Src w size (.slice a k c) k (xs.take (k * size)) := by
  refine ⟨by rw [List.length_take, h.1]; exact Nat.min_eq_left (Nat.mul_le_mul_right _ hk), ?_⟩
  rcases h.2 with ⟨_, h2⟩ | ⟨b, o, c', hv, hc, hl⟩
  · omega
  · simp only [Value.slice.injEq] at hv
    obtain ⟨rfl, -, rfl⟩ := hv
    refine Or.inr ⟨b, o, c, rfl, fun j u hj => hc j u ?_, fun h0 => hl (by rw [List.length_take] at h0; omega)⟩
    have hl := (List.getElem?_eq_some_iff.1 hj).1
    rw [List.getElem?_take_of_lt (by rw [List.length_take] at hl; omega)] at hj
    exact hj
theorem Src.drop {w : World} {size n c b o : Nat} {xs : List Value} (h : Src w size (.slice (some ⟨b, o, none⟩) n c) n xs) (k : Nat) (hk : k ≤ n) : Src w size (.slice (some ⟨b, o + k * size, none⟩) (n - k) (c - k)) (n - k) (xs.drop (k * size)) := by
  refine ⟨by rw [List.length_drop, h.1, Nat.sub_mul], ?_⟩
  rcases h.2 with ⟨h1, _⟩ | ⟨b', o', c', hv, hc, hl⟩
  · cases h1
  · simp only [Value.slice.injEq, Option.some.injEq, Addr.mk.injEq] at hv
    obtain ⟨⟨rfl, rfl, -⟩, -, rfl⟩ := hv
    refine Or.inr ⟨b, o + k * size, _, rfl, fun j u hj => ?_, fun h0 => hl (by rw [List.length_drop] at h0; omega)⟩
    rw [List.getElem?_drop] at hj
    rw [Nat.add_assoc]; exact hc _ _ hj
theorem Src.nil {w : World} {size : Nat} (a : Option Addr) (c b o : Nat) : Src w size (.slice (some ⟨b, o, none⟩) 0 c) 0 [] := ⟨by simp, Or.inr ⟨b, o, c, rfl, fun j u h => by simp at h, fun h => by simp at h⟩⟩

section
variable {P : Program} {w : World}
theorem run_app (base : Nat) (t ty e : TypeId) (i : TypeInfo) (z : Value) (size bytes : Nat) (ht : P.underlying t = some (.slice e)) (hi : P.info? e = some i) (hz : i.zero = some z)
    (hsize : i.size = size) (hby : i.bytes = bytes) (hzs : z.cells.size = size) (hsz : 0 < size) (v : Value) (n : Nat) (xs : List Value) (hown : w.ownsRow base e size v n xs)
    (x : Value) (m : Nat) (news : List Value) (hr : Src w size x m news) (h1 : ∀ u ∈ news, u.oneCell' = true) (h63 : n + m ≤ maxLen) (hbytes : (n + m) * bytes ≤ 140737488355328) (hbase : base ≤ w.heap.size) :
    ∃ v' w', (Builtin.append_ #[t, t] ty #[v, x]).run P w = .ok v' w' ∧ w'.ownsRow base e size v' (n + m) (xs ++ news) ∧ w.grownBy w' v.ownBlock ∧ (v'.ownBlock = v.ownBlock ∨ v'.ownBlock = some w.heap.size) := by
  rcases hr.2 with ⟨rfl, rfl⟩ | ⟨b, o, c, rfl, hc, _⟩
  · have hn : news = [] := List.eq_nil_of_length_eq_zero (by simpa using hr.1)
    subst hn
    exact ⟨v, w, run_append_owned_none (P := P) (w := w) base t ty e i size ht hi v n xs hown, by simpa using hown, World.grownBy.refl w _, Or.inl rfl⟩
  · obtain ⟨v', w', hrun, h2, h3, _, h5⟩ := run_append_own_at (P := P) w base t ty e i z size bytes ht hi hz hsize hby hzs hsz v n xs hown ⟨b, o, none⟩ m c news hr.1 (fun j u hj => by
      have : (⟨b, o, none⟩ : Addr).add j = ⟨b, o + j, none⟩ := by unfold Addr.add; split <;> simp_all
      rw [this]; exact hc j u hj) h1 h63 hbytes hbase
    exact ⟨v', w', hrun, h2, h3, h5⟩

/-- What is known behind an append onto a row of the call's own. -/
structure Appd (w w' : World) (base e size : Nat) (v v' : Value) (n : Nat) (xs : List Value) : Prop where
  own : w'.ownsRow base e size v' n xs
  grown : w.grownBy w' v.ownBlock
  at_ : v'.ownBlock = v.ownBlock ∨ v'.ownBlock = some w.heap.size
  ge : ∀ k, v.ownBlock = some k → base ≤ k
theorem Appd.on {w0 w w' : World} {base e size n : Nat} {v v' : Value} {xs : List Value} (h : Appd w w' base e size v v' n xs) (hb : Below base w0 w) (hB : base ≤ w.heap.size) : Below base w0 w' :=
  hb.grown h.grown hB h.ge
theorem Appd.below {B : Nat} {w0 w w' : World} {base e size n : Nat} {v v' : Value} {xs : List Value} (h : Appd w w' base e size v v' n xs) (hb : Below B w0 w) (hB : B ≤ w.heap.size) (hv : ∀ k, v.ownBlock = some k → B ≤ k) : Below B w0 w' :=
  hb.grown h.grown hB hv

theorem wp_app {o : Oper} {a : Act} {K : Act → World → Prop} {Q : Exit → Act → World → Prop} (s x : Operand) (t : TypeId)
    (ho : o.op = .call { callee := .builtin .append, args := #[s, x], argTypes := #[t, t] })
    (base : Nat) (e : TypeId) (i : TypeInfo) (z : Value) (size bytes : Nat) (ht : P.underlying t = some (.slice e)) (hi : P.info? e = some i) (hz : i.zero = some z)
    (hsize : i.size = size) (hby : i.bytes = bytes) (hzs : z.cells.size = size) (hsz : 0 < size)
    (v : Value) (n : Nat) (xs : List Value) (hs : a.eval s = v) (hown : w.ownsRow base e size v n xs)
    (y : Value) (m : Nat) (news : List Value) (hx : a.eval x = y) (hr : Src w size y m news) (h1 : ∀ u ∈ news, u.oneCell' = true)
    (h63 : n + m ≤ maxLen) (hbytes : (n + m) * bytes ≤ 140737488355328) (hbase : base ≤ w.heap.size)
    (h : ∀ v' w', Appd w w' base e size v v' (n + m) (xs ++ news) → K (a.put o.dst v') w') : o.wp P a w K Q := by
  obtain ⟨v', w', hrun, h2, h3, h4⟩ := run_app (P := P) (w := w) base t o.type e i z size bytes ht hi hz hsize hby hzs hsz v n xs hown y m news hr h1 h63 hbytes hbase
  unfold Oper.wp execOp
  simp only [ho, resolve, invoke, builtin, Sem.run_bind, Sem.run_pure, Result.andThen_ok, List.map_toArray, List.map_cons, List.map_nil, hs, hx, hrun]
  exact h v' w' ⟨h2, h3, h4, fun k hk => (World.ownsRow.lt hown k hk).1⟩
theorem list_app {ops : Array Oper} {rest : List Oper} {o : Oper} {a : Act} {Q : Exit → Act → World → Prop} (hgd : o.guard = none) (s x : Operand) (t : TypeId)
    (ho : o.op = .call { callee := .builtin .append, args := #[s, x], argTypes := #[t, t] })
    (base : Nat) (e : TypeId) (i : TypeInfo) (z : Value) (size bytes : Nat) (ht : P.underlying t = some (.slice e)) (hi : P.info? e = some i) (hz : i.zero = some z)
    (hsize : i.size = size) (hby : i.bytes = bytes) (hzs : z.cells.size = size) (hsz : 0 < size)
    (v : Value) (n : Nat) (xs : List Value) (hs : a.eval s = v) (hown : w.ownsRow base e size v n xs)
    (y : Value) (m : Nat) (news : List Value) (hx : a.eval x = y) (hr : Src w size y m news) (h1 : ∀ u ∈ news, u.oneCell' = true)
    (h63 : n + m ≤ maxLen) (hbytes : (n + m) * bytes ≤ 140737488355328) (hbase : base ≤ w.heap.size)
    (h : ∀ v' w', Appd w w' base e size v v' (n + m) (xs ++ news) → wpList P ops Q rest (a.put o.dst v') w') : wpList P ops Q (o :: rest) a w :=
  wpList_plain hgd fun _ hK => wp_app s x t ho base e i z size bytes ht hi hz hsize hby hzs hsz v n xs hs hown y m news hx hr h1 h63 hbytes hbase fun v' w' h2 => hK _ _ (h v' w' h2)
theorem step_app {ops : Array Oper} {o : Oper} {a : Act} {K : Act → World → Prop} {Q : Exit → Act → World → Prop} {E : Prop} (hgd : o.guard = none) (s x : Operand) (t : TypeId)
    (ho : o.op = .call { callee := .builtin .append, args := #[s, x], argTypes := #[t, t] })
    (base : Nat) (e : TypeId) (i : TypeInfo) (z : Value) (size bytes : Nat) (ht : P.underlying t = some (.slice e)) (hi : P.info? e = some i) (hz : i.zero = some z)
    (hsize : i.size = size) (hby : i.bytes = bytes) (hzs : z.cells.size = size) (hsz : 0 < size)
    (v : Value) (n : Nat) (xs : List Value) (hs : a.eval s = v) (hown : w.ownsRow base e size v n xs)
    (y : Value) (m : Nat) (news : List Value) (hx : a.eval x = y) (hr : Src w size y m news) (h1 : ∀ u ∈ news, u.oneCell' = true)
    (h63 : n + m ≤ maxLen) (hbytes : (n + m) * bytes ≤ 140737488355328) (hbase : base ≤ w.heap.size)
    (h : ∀ v' w', Appd w w' base e size v v' (n + m) (xs ++ news) → K (a.put o.dst v') w') :
    if Region.wanted o (yielded ops a.tmps) = true then Oper.wp P o a w K Q else E := by
  have hw : Region.wanted o (yielded ops a.tmps) = true := by simp [Region.wanted, hgd]
  rw [if_pos hw]
  exact wp_app s x t ho base e i z size bytes ht hi hz hsize hby hzs hsz v n xs hs hown y m news hx hr h1 h63 hbytes hbase h
end

end Go.Proofs.Yteehghjdifbjbaa

namespace Go.Proofs.Yteehghjdifbjbaa
set_option linter.unusedSimpArgs false
set_option linter.unusedVariables false
set_option maxRecDepth 100000
open Go.RowKit
set_option maxHeartbeats 4000000

/-- The blocks of the first lists, one list after the other. -/
def catF (F : Nat → List Int) : Nat → List Blk
  | 0 => []
  | k + 1 => catF F k ++ (F k).map fun f => (f, (k : Int))
theorem catF_len (F : Nat → List Int) : ∀ k, k ≤ 9 → (∀ o, o < 9 → (F o).length ≤ 256) → (catF F k).length ≤ k * 256
  | 0, _, _ => Nat.le_refl _
  | k + 1, h, hl => by
    have ih := catF_len F k (by omega) hl
    have := hl k (by omega)
    unfold catF; simp; omega

theorem infoBlk : (Try.prog.info? 130).map (fun i => (i.zero, i.size, i.bytes)) = some (some (.agg #[.int .i64 0, .int .i64 0]), 2, 16) := by kernel_rfl
theorem maxLen_geB {n : Nat} (h : n ≤ 1000000000) : n ≤ maxLen := by unfold maxLen; omega
theorem cell_ltB {w : World} {b o : Nat} {v : Value} (h : w.cell? ⟨b, o, none⟩ = some v) : b < w.heap.size := by
  rcases Nat.lt_or_ge b w.heap.size with h' | h'
  · exact h'
  · simp [World.cell?, Array.getElem?_eq_none h'] at h
theorem lit_srcB (w : World) (f k : Int) (t : TypeId) : Src (w.alloc (.cells #[.int .i64 f, .int .i64 k] t)) 2 (.slice (some ⟨w.heap.size, 0, none⟩) 1 1) 1 (encL (f, k)) := by
  refine ⟨rfl, Or.inr ⟨w.heap.size, 0, 1, rfl, fun j u hj => ?_, fun _ => by simp⟩⟩
  rw [Nat.zero_add, World.cell?_alloc_at _ _ _ _ rfl]
  have hj' := (List.getElem?_eq_some_iff.1 hj).1
  simp [encL] at hj'
  have : j = 0 ∨ j = 1 := by omega
  rcases this with rfl | rfl
  · exact hj
  · exact hj

structure BlksPost (w : World) (L : List Blk) (e : Ending) (w' : World) : Prop where
  ex : ∃ v, e = .returned v ∧ w'.ownsRow w.heap.size 130 2 v L.length (blkCells L)
  below : Below w.heap.size w w'
def CanB (T : Nat → Prop) (L : List Blk) : Prop := RiseB L ∧ ∀ x : Blk, x ∈ L ↔ ∃ a o : Nat, o ≤ 8 ∧ x = (((a * 2 ^ o : Nat) : Int), (o : Int)) ∧ QCan T a o

theorem mem_catF (F : Nat → List Int) (x : Blk) : ∀ k, x ∈ catF F k ↔ ∃ o : Nat, o < k ∧ x.1 ∈ F o ∧ x.2 = (o : Int)
  | 0 => by simp [catF]
  | k + 1 => by
    unfold catF
    rw [List.mem_append, mem_catF F x k, List.mem_map]
    constructor
    · rintro (⟨o, h1, h2⟩ | ⟨f, hf, rfl⟩)
      · exact ⟨o, by omega, h2⟩
      · exact ⟨k, by omega, hf, rfl⟩
    · rintro ⟨o, h1, h2, h3⟩
      by_cases e : o = k
      · subst e; exact Or.inr ⟨x.1, h2, Prod.ext rfl h3.symm⟩
      · exact Or.inl ⟨o, by omega, h2, h3⟩
theorem nodup_catF {F : Nat → List Int} (h : ∀ o, o < 9 → (F o).Pairwise (· < ·)) : ∀ k, k ≤ 9 → (catF F k).Nodup
  | 0, _ => List.nodup_nil
  | k + 1, hk => by
    unfold catF
    refine List.nodup_append.2 ⟨nodup_catF h k (by omega), ?_, fun x hx y hy => ?_⟩
    · have h1 := h k (by omega)
      rw [List.Nodup, List.pairwise_map]
      exact h1.imp fun hab e => by simp at e; omega
    · obtain ⟨o, ho, _, h2⟩ := (mem_catF F x k).1 hx
      obtain ⟨f, _, rfl⟩ := List.mem_map.1 hy
      rintro rfl
      simp at h2
      omega
theorem can_frame' {T : Nat → Prop} {a b o d : Nat} (h1 : QCan T a o) (h2 : QCan T b (o + (d + 1))) (ho : o + (d + 1) ≤ 8) (he : a * 2 ^ o = b * 2 ^ (o + (d + 1))) : False := by
  have h0 := Nat.two_pow_pos o
  have ha : a = b * 2 ^ (d + 1) := by
    rw [Nat.pow_add, Nat.mul_comm (2 ^ o), ← Nat.mul_assoc] at he
    exact Nat.eq_of_mul_eq_mul_right h0 he
  refine h1.2 (by omega) (full_up (d := d) (b := b) (by rw [show o + 1 + d = o + (d + 1) by omega]; exact h2.1) ?_)
  rw [ha, Nat.pow_succ, ← Nat.mul_assoc, Nat.mul_div_cancel _ (by omega), Nat.mul_div_cancel _ (Nat.two_pow_pos d)]
theorem can_frame {T : Nat → Prop} {a b o p : Nat} (h1 : QCan T a o) (h2 : QCan T b p) (ho : o ≤ 8) (hp : p ≤ 8) (he : a * 2 ^ o = b * 2 ^ p) : a = b ∧ o = p := by
  rcases Nat.lt_trichotomy o p with h | rfl | h
  · obtain ⟨d, rfl⟩ : ∃ d, p = o + (d + 1) := ⟨p - o - 1, by omega⟩
    exact (can_frame' h1 h2 hp he).elim
  · exact ⟨Nat.eq_of_mul_eq_mul_right (Nat.two_pow_pos o) he, rfl⟩
  · obtain ⟨d, rfl⟩ : ∃ d, o = p + (d + 1) := ⟨o - p - 1, by omega⟩
    exact (can_frame' h2 h1 ho he.symm).elim
theorem canB_of {T : Nat → Prop} {F : Nat → List Int} (h : CanF T F) {M : List Blk} (hp : M.Perm (catF F 9)) (hs : ∀ i j (hi : i < j) (hj : j < M.length), ¬ M[j].1 < M[i].1) : CanB T M := by
  have hm : ∀ x : Blk, x ∈ M ↔ ∃ a o : Nat, o ≤ 8 ∧ x = (((a * 2 ^ o : Nat) : Int), (o : Int)) ∧ QCan T a o := fun x => by
    rw [hp.mem_iff, mem_catF]
    constructor
    · rintro ⟨o, ho, h1, h2⟩
      obtain ⟨a, ha, hc⟩ := ((h o ho).2 _).1 h1
      exact ⟨a, o, by omega, Prod.ext ha h2, hc⟩
    · rintro ⟨a, o, ho, rfl, hc⟩
      exact ⟨o, by omega, ((h o (by omega)).2 _).2 ⟨a, rfl, hc⟩, rfl⟩
  refine ⟨?_, hm⟩
  have hnd : M.Nodup := hp.nodup_iff.2 (nodup_catF (fun o ho => (h o ho).1) 9 (Nat.le_refl _))
  refine List.pairwise_iff_getElem.2 fun i j hi hj hij => ?_
  have h1 := hs i j hij hj
  have h2 : M[i] ≠ M[j] := List.pairwise_iff_getElem.1 hnd i j hi hj hij
  have h3 : M[i].1 ≠ M[j].1 := fun e => h2 (by
    obtain ⟨a, o, ho, e1, hc⟩ := (hm M[i]).1 (List.getElem_mem _)
    obtain ⟨b, p, hp', e2, hc'⟩ := (hm M[j]).1 (List.getElem_mem _)
    rw [e1, e2] at e
    simp only at e
    obtain ⟨rfl, rfl⟩ := can_frame hc hc' ho hp' (by omega)
    rw [e1, e2])
  omega

end Go.Proofs.Yteehghjdifbjbaa

namespace Go.Proofs.Yteehghjdifbjbaa
set_option linter.unusedSimpArgs false
set_option linter.unusedVariables false
set_option maxRecDepth 100000
open Go.RowKit Go.MapKept
open Go.ChangeMaps (setBlock)
set_option maxHeartbeats 1000000

/-- An iterator at r over the map at b that holds just the blocks of L: those of D have come. -/
structure RngB (w : World) (b r : Nat) (L D : List Blk) : Prop where
  ex : ∃ es clock since seen c0, w.heap[b]? = some (.map es clock) ∧ KeysB es.toList L ∧ (∀ e ∈ es.toList, e.val = .bool true) ∧ (es.toList.map (·.born)).Nodup ∧ (∀ e ∈ es.toList, e.born < since) ∧
    w.heap[r]? = some (.mapIter (some b) since seen c0) ∧ since ≤ c0 ∧ since ≤ clock ∧ ∀ e ∈ es.toList, ∀ x, e.key = encB x → (seen.contains e.born = true ↔ x ∈ D)
  nodup : L.Nodup
  dnodup : D.Nodup
  sub : ∀ x ∈ D, x ∈ L
theorem RngB.ne {w : World} {b r : Nat} {L D : List Blk} (h : RngB w b r L D) : r ≠ b := fun e => by
  obtain ⟨es, clock, since, seen, c0, h1, _, _, _, _, h2, _⟩ := h.ex
  rw [e, h1] at h2; cases h2
theorem RngB.lt {w : World} {b r : Nat} {L D : List Blk} (h : RngB w b r L D) : b < w.heap.size ∧ r < w.heap.size := by
  obtain ⟨es, clock, since, seen, c0, h1, _, _, _, _, h2, _⟩ := h.ex
  exact ⟨heap_lt h1, heap_lt h2⟩
theorem RngB.heap {w w' : World} {b r : Nat} {L D : List Blk} (h : RngB w b r L D) (e1 : w'.heap[b]? = w.heap[b]?) (e2 : w'.heap[r]? = w.heap[r]?) : RngB w' b r L D := by
  obtain ⟨⟨es, clock, since, seen, c0, h1, a1, a2, a3, a4, h2, rest⟩, n1, n2, n3⟩ := h
  exact ⟨⟨es, clock, since, seen, c0, e1.trans h1, a1, a2, a3, a4, e2.trans h2, rest⟩, n1, n2, n3⟩
theorem run_rngB {w : World} {b : Nat} {L : List Blk} (h : MapB w b L) : ∃ w', (Instr.range 123 (.map (some b))).run Try.prog w = .ok (.pointer (some ⟨w.heap.size, 0, none⟩)) w' ∧ RngB w' b w.heap.size L [] ∧ Below w.heap.size w w' ∧ w'.heap.size = w.heap.size + 1 := by
  obtain ⟨⟨es, c, h1, h2, h3, h4, h5⟩, h6⟩ := h
  have hlt := heap_lt h1
  refine ⟨w.alloc (.mapIter (some b) c #[] c), run_range_map w _ _ _ b es c Try.underlying123 h1, ⟨⟨es, c, c, #[], c, ?_, h2, h3, h4, h5, heap_alloc_new _ _, Nat.le_refl _, Nat.le_refl _, fun e _ x _ => by simp⟩, h6, List.nodup_nil, by simp⟩, (Below.refl _ _).alloc (Nat.le_refl _) _, by simp⟩
  rw [heap_alloc_old _ _ hlt]; exact h1
theorem keyB_ex {es : List MapEntry} {L : List Blk} (h : KeysB es L) {e : MapEntry} (he : e ∈ es) : ∃ x ∈ L, e.key = encB x := by
  have : e.key ∈ es.map (·.key) := List.mem_map_of_mem he
  rw [h] at this
  obtain ⟨x, hx, hk⟩ := List.mem_map.1 this
  exact ⟨x, hx, hk.symm⟩
theorem keyB_of {es : List MapEntry} {L : List Blk} (h : KeysB es L) {x : Blk} (hx : x ∈ L) : ∃ e ∈ es, e.key = encB x := by
  have : encB x ∈ L.map encB := List.mem_map_of_mem hx
  rw [← h] at this
  obtain ⟨e, he, hk⟩ := List.mem_map.1 this
  exact ⟨e, he, hk⟩
theorem RngB.next {w : World} {b r : Nat} {L D : List Blk} (h : RngB w b r L D) (ty : TypeId) :
    (D.Perm L ∧ (Instr.next (.pointer (some ⟨r, 0, none⟩)) false ty).run Try.prog w = .ok (.tuple #[.bool false]) w) ∨
    ∃ x w', x ∈ L ∧ x ∉ D ∧ (Instr.next (.pointer (some ⟨r, 0, none⟩)) false ty).run Try.prog w = .ok (.tuple #[.bool true, encB x, .bool true]) w' ∧ RngB w' b r L (D ++ [x]) ∧ Touch (· = r) w w' ∧
      (Instr.entry (.pointer (some ⟨r, 0, none⟩))).run Try.prog w' = .ok (.tuple #[encB x, .bool true]) w' := by
  have hne := h.ne
  have hlt := h.lt
  obtain ⟨⟨es, clock, since, seen, c0, h1, a1, a2, a3, a4, h2, b1, b2, b3⟩, n1, n2, n3⟩ := h
  rcases run_next_at (P := Try.prog) w ty r b since c0 seen es clock h2 h1 a4 b1 with ⟨h0, hrun⟩ | ⟨e, he, w1, hw1, hrun⟩
  · refine Or.inl ⟨?_, hrun⟩
    have hall := all_seen es seen h0
    refine (List.perm_ext_iff_of_nodup n2 n1).2 fun x => ⟨n3 x, fun hx => ?_⟩
    obtain ⟨e, he, hk⟩ := keyB_of a1 hx
    exact (b3 e he x hk).1 (hall e he)
  · obtain ⟨hem, hes⟩ := mem_left he
    obtain ⟨x, hx, hk⟩ := keyB_ex a1 hem
    have hxD : x ∉ D := fun hd => by
      have := (b3 e hem x hk).2 hd
      rw [hes] at this; cases this
    have hh1 : ∀ k : Nat, w1.heap[k]? = w.heap[k]? := fun k => by rcases hw1 with rfl | rfl <;> rfl
    have hsz1 : w1.heap.size = w.heap.size := by rcases hw1 with rfl | rfl <;> rfl
    have hr' : (setBlock w1 r (.mapIter (some b) since (seen.push e.born) clock)).heap[r]? = some (.mapIter (some b) since (seen.push e.born) clock) := by
      simp [setBlock, hsz1, hlt.2]
    have hb' : (setBlock w1 r (.mapIter (some b) since (seen.push e.born) clock)).heap[b]? = some (.map es clock) := by
      simp [setBlock, hne]
      rw [hh1]; exact h1
    rw [hk, a2 e hem] at hrun
    have hen := run_entry_at (P := Try.prog) _ r b since seen es clock e hr' hb' hem a3
    rw [hk, a2 e hem] at hen
    refine Or.inr ⟨x, _, hx, hxD, hrun, ⟨⟨es, clock, since, seen.push e.born, clock, hb', a1, a2, a3, a4, hr', b2, b2, fun e' he' y hy => ?_⟩, n1, ?_, fun y hy => ?_⟩, ⟨?_, ?_, ?_, ?_, fun k hk hkr => ?_⟩, hen⟩
    · rw [contains_push, Bool.or_eq_true, b3 e' he' y hy, List.mem_append, List.mem_singleton]
      refine or_congr Iff.rfl ⟨fun hb => ?_, fun hy' => ?_⟩
      · have : e' = e := born_inj a3 he' hem (by simpa using hb)
        rw [this, hk] at hy
        exact (encB_inj hy).symm
      · subst hy'
        have hee : e' = e := by
          have h3 : (es.toList.map (·.key)).Nodup := by
            rw [a1]
            exact List.pairwise_map.2 (n1.imp fun h e => h (encB_inj e))
          obtain ⟨i, hi, hie⟩ := List.getElem_of_mem he'
          obtain ⟨j, hj, hje⟩ := List.getElem_of_mem hem
          have : i = j := by
            refine (List.getElem_inj (h₀ := by simpa using hi) (h₁ := by simpa using hj) h3).1 ?_
            rw [List.getElem_map, List.getElem_map, hie, hje, hy, hk]
          subst this
          rw [← hie, hje]
        simp [hee]
    · refine List.nodup_append.2 ⟨n2, by simp, fun y hy z hz => ?_⟩
      simp at hz
      exact fun e => hxD (by rw [← hz, ← e]; exact hy)
    · rcases List.mem_append.1 hy with hy | hy
      · exact n3 y hy
      · simp at hy; rw [hy]; exact hx
    · rcases hw1 with rfl | rfl <;> rfl
    · rcases hw1 with rfl | rfl <;> rfl
    · rcases hw1 with rfl | rfl <;> rfl
    · simp [setBlock, hsz1]
    · have hkr' : ¬ r = k := fun e => hkr e.symm
      simp [setBlock, hkr']
      rw [hh1]

end Go.Proofs.Yteehghjdifbjbaa

namespace Go.Proofs.Yteehghjdifbjbaa
set_option linter.unusedSimpArgs false
set_option linter.unusedVariables false
set_option maxRecDepth 100000
open Go.RowKit
set_option maxHeartbeats 4000000

def lenV : Value → Nat
  | .slice _ n _ => n
  | _ => 0
theorem own_low {w : World} {b b' e size n : Nat} {v : Value} {xs : List Value} (h : w.ownsRow b' e size v n xs) (hb : b ≤ b') : w.ownsRow b e size v n xs := by
  refine ⟨h.1, ?_⟩
  rcases h.2 with h2 | ⟨g, cap, cur, hv, hg, r⟩
  · exact Or.inl h2
  · exact Or.inr ⟨g, cap, cur, hv, by omega, r⟩
theorem sub_len : ∀ (D L : List Blk), D.Nodup → (∀ x ∈ D, x ∈ L) → D.length ≤ L.length
  | [], _, _, _ => Nat.zero_le _
  | x :: D, L, hn, hs => by
    obtain ⟨h1, h2⟩ := List.nodup_cons.1 hn
    have hx := hs x (by simp)
    have ih := sub_len D (L.erase x) h2 (fun y hy => by
      have hne : y ≠ x := fun e => h1 (by rw [← e]; exact hy)
      exact (List.mem_erase_of_ne hne).2 (hs y (by simp [hy])))
    rw [List.length_erase_of_mem hx] at ih
    have := List.length_pos_of_mem hx
    simp only [List.length_cons]; omega
def HeldPost (w : World) (H : List Blk) (e : Ending) (w' : World) : Prop := ∃ L, L.Perm H ∧ (∀ i j (hi : i < j) (hj : j < L.length), ¬ L[j].1 < L[i].1) ∧ BlksPost w L e w'

end Go.Proofs.Yteehghjdifbjbaa

namespace Go.Proofs.Yteehghjdifbjbaa
set_option linter.unusedSimpArgs false
set_option linter.unusedVariables false
set_option maxRecDepth 100000
open Go.RowKit
set_option maxHeartbeats 4000000

/-- A block of a range of frames. -/
theorem full_range {r n a o : Nat} : QFull (rangeT r n) a o ↔ r ≤ a * 2 ^ o ∧ (a + 1) * 2 ^ o ≤ n := by
  have h0 := Nat.two_pow_pos o
  constructor
  · intro h
    have h1 := h (a * 2 ^ o) (in_block a o)
    have h2 := h (a * 2 ^ o + (2 ^ o - 1)) ((block_iff a o _).2 (by omega))
    unfold rangeT at h1 h2
    rw [Nat.add_mul]; omega
  · rintro ⟨h1, h2⟩ x hx
    have := (block_iff a o x).1 hx
    rw [Nat.add_mul] at h2
    unfold rangeT
    omega
theorem awake_can (a o : Nat) (ho : o ≤ 8) : QCan (rangeT 1 8) a o ↔ (a = 1 ∧ o ≤ 2) := by
  unfold QCan
  rw [full_range, full_range]
  have hh : o = 0 ∨ o = 1 ∨ o = 2 ∨ o = 3 ∨ o = 4 ∨ o = 5 ∨ o = 6 ∨ o = 7 ∨ o = 8 := by omega
  rcases hh with rfl | rfl | rfl | rfl | rfl | rfl | rfl | rfl | rfl <;> simp <;> omega
theorem awake_blocks {L : List Blk} (h : CanB (rangeT 1 8) L) : L = [(1, 0), (2, 1), (4, 2)] := by
  refine riseB_eq (fun x => ?_) h.1 (by unfold RiseB; simp)
  rw [h.2]
  constructor
  · rintro ⟨a, o, ho, rfl, hc⟩
    obtain ⟨rfl, h2⟩ := (awake_can a o ho).1 hc
    have hh : o = 0 ∨ o = 1 ∨ o = 2 := by omega
    rcases hh with rfl | rfl | rfl <;> simp
  · intro hx
    simp at hx
    rcases hx with rfl | rfl | rfl
    · exact ⟨1, 0, by omega, by simp, (awake_can 1 0 (by omega)).2 ⟨rfl, by omega⟩⟩
    · exact ⟨1, 1, by omega, by simp, (awake_can 1 1 (by omega)).2 ⟨rfl, by omega⟩⟩
    · exact ⟨1, 2, by omega, by simp, (awake_can 1 2 (by omega)).2 ⟨rfl, by omega⟩⟩

end Go.Proofs.Yteehghjdifbjbaa
