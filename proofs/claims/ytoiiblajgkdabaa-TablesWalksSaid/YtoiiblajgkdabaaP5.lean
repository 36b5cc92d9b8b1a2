/- Part 5 of the proofs: Bud7, Bud8, BudInv, SortB2, SortB3, App. -/
import Derived.Test.YtoiiblajgkdabaaP4
import Derived.Test.YtoiiblajgkdabaaP1
import Derived.Test.YtoiiblajgkdabaaP3
import Derived.Test.YtoiiblajgkdabaaSortB
import Derived.Shelf.SlSortCmp.WholeK
import Derived.WalkMore
import Derived.Maps.AppendAt
import Derived.Laws.AppendOwnNone
import Derived.Deep.RegionHeld3
import Derived.Deep.AppendLies
namespace Go.Proofs.Ytoiiblajgkdabaa
set_option linter.unusedSimpArgs false
set_option linter.unusedVariables false
set_option maxRecDepth 100000
open Go.RowKit
set_option maxHeartbeats 4000000

theorem bud_xor : ∀ j : Nat, j < 8 → ∀ c : Nat, c < 256 → bits .xor .i64 ((c * 2 ^ j : Nat) : Int) ((2 ^ j : Nat) : Int) = ((budQ c * 2 ^ j : Nat) : Int) := by decide +kernel
theorem bud_not : ∀ j : Nat, j < 8 → ∀ c : Nat, c < 256 → bits .andNot .i64 ((c * 2 ^ j : Nat) : Int) ((2 ^ j : Nat) : Int) = ((c / 2 * 2 ^ (j + 1) : Nat) : Int) := by decide +kernel

/-- Two halves are one. -/
theorem join_eq {T : Nat → Prop} {c j : Nat} (h : QFull T (budQ c) j) : plusQ (minusQ T (budQ c) j) (c / 2) (j + 1) = plusQ T c j := by
  funext x
  apply propext
  unfold plusQ minusQ
  rw [div_one]
  constructor
  · rintro (⟨h1, _⟩ | h1)
    · exact Or.inl h1
    · rcases half_two c _ h1 with e | e
      · exact Or.inr e
      · exact Or.inl (h x e)
  · rintro (h1 | h1)
    · by_cases e : x / 2 ^ j = budQ c
      · right; rw [e, budQ_half]
      · exact Or.inl ⟨h1, e⟩
    · right; rw [h1]
theorem join_dis {T : Nat → Prop} {c j : Nat} (h : ∀ x, x / 2 ^ j = c → ¬ T x) : ∀ x, x / 2 ^ (j + 1) = c / 2 → ¬ minusQ T (budQ c) j x := fun x hx h1 => by
  rw [div_one] at hx
  rcases half_two c _ hx with e | e
  · exact h x e h1.1
  · exact h1.2 e
theorem full_fit {T : Nat → Prop} {c j n : Nat} (h : ∀ x, T x → x < n) (hq : QFull T c j) : (c + 1) * 2 ^ j ≤ n := by
  have h0 := Nat.two_pow_pos j
  have h1 := h _ (hq (c * 2 ^ j + (2 ^ j - 1)) (by rw [Nat.add_comm, Nat.add_mul_div_right _ _ h0, Nat.div_eq_of_lt (by omega)]; omega))
  rw [Nat.add_mul]; omega
theorem join_fit {c j n : Nat} (h : (budQ c + 1) * 2 ^ j ≤ n) (h' : (c + 1) * 2 ^ j ≤ n) : (c / 2 + 1) * 2 ^ (j + 1) ≤ n := by
  rw [Nat.pow_succ, Nat.mul_comm (2 ^ j) 2, ← Nat.mul_assoc]
  have hb : (c / 2 + 1) * 2 = c + 1 ∨ (c / 2 + 1) * 2 = budQ c + 1 := by unfold budQ; split <;> omega
  rcases hb with e | e <;> rw [e] <;> assumption

theorem list_look {ops : Array Oper} {rest : List Oper} {o : Oper} {a : Act} {Q : Exit → Act → World → Prop} {pb pm : Nat} {T : Nat → Prop} {H : List Blk} {g w : World} {R : HP} (h : Sat g w (midP pb pm T H * R)) (hgd : o.guard = none) (m k : Operand)
    (ho : o.op = .lookup 90 m k false) (hb : Nat) (hcm : w.cell? ⟨pb, 10, none⟩ = some (.map (some hb))) (hm : a.eval m = .map (some hb)) (x : Blk) (hk : a.eval k = encB x) (v : Bool) (hv : decide (x ∈ H) = v)
    (hK : wpList Try.prog ops Q rest (a.put o.dst (.bool v)) w) : wpList Try.prog ops Q (o :: rest) a w := by
  obtain ⟨hb', V, F, hi, _, _, _⟩ := h.mid
  have e := hi.cm
  rw [hcm] at e
  simp only [Option.some.injEq, Value.map.injEq] at e
  subst e
  have hr := run_lookB hi.held x
  rw [hv] at hr
  refine wpList_plain hgd fun K hK' => ?_
  unfold Oper.wp
  simp only [execOp, ho, hm, hk]
  simp [hr, Result.andThen]
  exact hK' _ _ hK
theorem list_del {ops : Array Oper} {rest : List Oper} {o : Oper} {a : Act} {Q : Exit → Act → World → Prop} {pb pm : Nat} {T : Nat → Prop} {H : List Blk} {g w : World} {R : HP} (h : Sat g w (midP pb pm T H * R)) (hgd : o.guard = none) (hdst : o.dst = none) (m k : Operand)
    (ho : o.op = .call { callee := .builtin .delete, args := #[m, k], argTypes := #[90, 39] }) (hb : Nat) (hcm : w.cell? ⟨pb, 10, none⟩ = some (.map (some hb))) (hm : a.eval m = .map (some hb)) (x : Blk) (hk : a.eval k = encB x) (hx : x ∈ H)
    (hK : ∀ w', Sat g w' (midP pb pm T (H.erase x) * R) → wpList Try.prog ops Q rest a w') : wpList Try.prog ops Q (o :: rest) a w := by
  obtain ⟨hb', V, F, hi, hc, hs, back⟩ := h.mid
  have e := hi.cm
  rw [hcm] at e
  simp only [Option.some.injEq, Value.map.injEq] at e
  subst e
  obtain ⟨w', hr, hm', ht⟩ := run_delB (ty := o.type) hi.held x hx
  refine wpList_plain hgd fun K hK' => ?_
  unfold Oper.wp
  simp [execOp, ho, resolve, invoke, builtin, hm, hk, hr, Result.andThen]
  have e : a.put o.dst (.tuple #[]) = a := by rw [hdst]; rfl
  exact hK' _ _ (by rw [e]; exact hK w' (back _ _ _ _ (hi.lay ht hm') hc hs))

theorem s_scrub (pm n : Nat) (W : Nat → Int) (f m : Nat) (g w : World) (R : HP) (h : Sat g w (memP pm n W * R)) (h1 : 1 ≤ m) (h2 : f + m ≤ n) :
    Calls Try.prog 54 #[.pointer (some ⟨pm, 0, none⟩), .int .i64 f, .int .i64 m] w fun e w' => e = .returned (.int .i64 0) ∧ Sat g w' (memP pm n (scrubW W f m) * R) := by
  obtain ⟨bk, hm, _, back⟩ := h.mem
  exact (scrub_yes pm bk n W f m w hm h1 h2).mono fun e w' ⟨he, h1, h2⟩ => ⟨he, back _ _ h2 h1⟩

theorem s_free_no (pb pm : Nat) (T : Nat → Prop) (H : List Blk) (f o : Int) (g w : World) (R : HP) (h : Sat g w (midP pb pm T H * R)) (hn : (f, o) ∉ H) :
    Calls Try.prog 20 #[.pointer (some ⟨pb, 0, none⟩), .int .i64 f, .int .i64 o] w fun e w' => e = .returned (.int .i64 2) ∧ Sat g w' (midP pb pm T H * R) := by
  have h1 : Sat g (w.alloc (.cells #[.int .i64 f, .int .i64 o] 39)) (xP w.heap.size f o * (midP pb pm T H * R)) := h.x_new f o _
  have H1 := Lib.hid h1
  have hd : decide ((f, o) ∈ H) = false := by simpa using hn
  clear h1
  go_enter Try.func20, Try.ntmps20
  go_wp2_with (fail)
  have h1 := H1.out
  obtain ⟨xb, hxb⟩ : ∃ xb, xb = w.heap.size := ⟨_, rfl⟩
  obtain ⟨w2, hw2⟩ : ∃ w2, w2 = w.alloc (.cells #[.int .i64 f, .int .i64 o] 39) := ⟨_, rfl⟩
  rw [← hxb, ← hw2] at h1
  rw [← hxb, ← hw2]
  clear hxb hw2 H1
  have S8 := h1.drew
  have q0 : ∀ p : Wc (fun w' => w2.drew = w'), p.w.cell? ⟨xb, 0, none⟩ = some (.int .i64 f) := fun p => by rw [← p.h]; exact S8.inv.c0
  have q1 : ∀ p : Wc (fun w' => w2.drew = w'), p.w.cell? ⟨xb, 1, none⟩ = some (.int .i64 o) := fun p => by rw [← p.h]; exact S8.inv.c1
  obtain ⟨hb, _, _, _, _, _, _, g10, _, _⟩ := S8.swap.mid_read
  have q2 : ∀ p : Wc (fun w' => w2.drew = w'), p.w.cell? ⟨pb, 10, none⟩ = some (.map (some hb)) := fun p => by rw [← p.h]; exact g10
  refine region_tail (fun w' => w2.drew = w') 5 (by kernel_rfl) (by kernel_rfl) rfl ?_
  intro _
  simp only [List.take_succ_cons, List.take_zero, List.drop_succ_cons, List.drop_zero]
  (repeat (first | go_big_quiet_step (fail) | quiet_step (fail)))
  refine wpQuiet_nil ?_
  rintro _ rfl
  clear q0 q1 q2
  refine list_look S8.swap (by rfl) _ _ (by rfl) hb g10 (by rfl) (f, o) (by rfl) false hd ?_
  go_wp2_with (fail)
  go_ret
  exact ⟨rfl, S8.right⟩

theorem s_free (pb pm n : Nat) (T : Nat → Prop) (H : List Blk) (W : Nat → Int) (a o f : Nat) (g w : World) (R : HP) (h : Sat g w (midP pb pm T H * (memP pm n W * R))) (ho : o ≤ 8) (hf : f = a * 2 ^ o) (ha : (a + 1) * 2 ^ o ≤ n)
    (hin : ((f : Int), (o : Int)) ∈ H) (hdis : ∀ x, x / 2 ^ o = a → ¬ T x) (hT : ∀ x, T x → x < n) :
    Calls Try.prog 20 #[.pointer (some ⟨pb, 0, none⟩), .int .i64 f, .int .i64 o] w fun e w' => e = .returned (.int .i64 0) ∧ Sat g w' (midP pb pm (plusQ T a o) (H.erase ((f : Int), (o : Int))) * (memP pm n (scrubW W f (2 ^ o)) * R)) := by
  have h1 : Sat g (w.alloc (.cells #[.int .i64 f, .int .i64 o] 39)) (xP w.heap.size f o * (midP pb pm T H * (memP pm n W * R))) := h.x_new f o _
  have H1 := Lib.hid h1
  have hd : decide (((f : Int), (o : Int)) ∈ H) = true := by simpa using hin
  obtain ⟨n1, n2⟩ : 1 ≤ n ∧ n ≤ 256 := h.swap.mem_n
  have HF := Lib.hid hf
  clear h1 hf
  go_enter Try.func20, Try.ntmps20
  go_wp2_with (fail)
  have h1 := H1.out
  obtain ⟨xb, hxb⟩ : ∃ xb, xb = w.heap.size := ⟨_, rfl⟩
  obtain ⟨w2, hw2⟩ : ∃ w2, w2 = w.alloc (.cells #[.int .i64 f, .int .i64 o] 39) := ⟨_, rfl⟩
  rw [← hxb, ← hw2] at h1
  rw [← hxb, ← hw2]
  clear hxb hw2 H1
  have S8 := h1.drew
  have q0 : ∀ p : Wc (fun w' => w2.drew = w'), p.w.cell? ⟨xb, 0, none⟩ = some (.int .i64 f) := fun p => by rw [← p.h]; exact S8.inv.c0
  have q1 : ∀ p : Wc (fun w' => w2.drew = w'), p.w.cell? ⟨xb, 1, none⟩ = some (.int .i64 o) := fun p => by rw [← p.h]; exact S8.inv.c1
  obtain ⟨hb, _, _, _, _, _, _, g10, _, _⟩ := S8.swap.mid_read
  have q2 : ∀ p : Wc (fun w' => w2.drew = w'), p.w.cell? ⟨pb, 10, none⟩ = some (.map (some hb)) := fun p => by rw [← p.h]; exact g10
  refine region_tail (fun w' => w2.drew = w') 5 (by kernel_rfl) (by kernel_rfl) rfl ?_
  intro _
  simp only [List.take_succ_cons, List.take_zero, List.drop_succ_cons, List.drop_zero]
  (repeat (first | go_big_quiet_step (fail) | quiet_step (fail)))
  refine wpQuiet_nil ?_
  rintro _ rfl
  clear q0 q1 q2
  refine list_look S8.swap (by rfl) _ _ (by rfl) hb g10 (by rfl) ((f : Int), (o : Int)) (by rfl) true hd ?_
  go_wp2_with (fail)
  obtain ⟨w3, hw3⟩ : ∃ w3, w3 = w2.drew := ⟨_, rfl⟩
  rw [← hw3] at S8 ⊢
  clear hw3 h1 g10
  have S9 := S8.drew
  have q0 : ∀ p : Wc (fun w' => w3.drew = w'), p.w.cell? ⟨xb, 0, none⟩ = some (.int .i64 f) := fun p => by rw [← p.h]; exact S9.inv.c0
  have q1 : ∀ p : Wc (fun w' => w3.drew = w'), p.w.cell? ⟨xb, 1, none⟩ = some (.int .i64 o) := fun p => by rw [← p.h]; exact S9.inv.c1
  obtain ⟨hb, _, _, _, _, _, _, g10, _, _⟩ := S9.swap.mid_read
  have q2 : ∀ p : Wc (fun w' => w3.drew = w'), p.w.cell? ⟨pb, 10, none⟩ = some (.map (some hb)) := fun p => by rw [← p.h]; exact g10
  refine region_tail (fun w' => w3.drew = w') 5 (by kernel_rfl) (by kernel_rfl) rfl ?_
  intro _
  simp only [List.take_succ_cons, List.take_zero, List.drop_succ_cons, List.drop_zero]
  (repeat (first | go_big_quiet_step (fail) | quiet_step (fail)))
  refine wpQuiet_nil ?_
  rintro _ rfl
  clear q0 q1 q2
  refine list_del S9.swap (by rfl) (by rfl) _ _ (by rfl) hb g10 (by rfl) ((f : Int), (o : Int)) (by rfl) hin fun w4 S10 => ?_
  obtain ⟨P, hP⟩ : ∃ P : Nat, 2 ^ o = P := ⟨_, rfl⟩
  have hPz : (2 : Int) ^ o = (P : Int) := by rw [← hP]; push_cast; rfl
  have hP1 : 1 ≤ P := by rw [← hP]; exact Nat.two_pow_pos o
  have hfP : f + P ≤ n := by rw [HF.out, ← hP]; rw [Nat.add_mul] at ha; omega
  have hwP : IntKind.i64.wrap (P : Int) = (P : Int) := IntWalk.i64_in _ ⟨by omega, by omega⟩
  have o0 : (0 : Int) ≤ (o : Int) := by omega
  have o64 : (o : Int) ≤ 64 := by omega
  have HP := Lib.hid hP
  clear hP S9 S8 g10
  go_wp2_with (fail)
  have S11 := S10.drew
  obtain ⟨_, _, _, _, _, _, g0, _, _, _⟩ := S11.mid_read
  have q0 : ∀ p : Wc (fun w' => w4.drew = w'), p.w.cell? ⟨pb, 0, none⟩ = some (.pointer (some ⟨pm, 0, none⟩)) := fun p => by rw [← p.h]; exact g0
  refine region_tail (fun w' => w4.drew = w') 7 (by kernel_rfl) (by kernel_rfl) rfl ?_
  intro _
  simp only [List.take_succ_cons, List.take_zero, List.drop_succ_cons, List.drop_zero]
  (repeat (first | go_big_quiet_step (fail) | quiet_step (fail)))
  refine wpQuiet_nil ?_
  rintro _ rfl
  clear q0 g0
  have S12 : Sat g w4.drew (memP pm n W * (midP pb pm T (H.erase ((f : Int), (o : Int))) * (xP xb f o * R))) := S11.up3
  clear S11 S10
  go_wp2_with (fail)
  refine (s_scrub pm n W f P g _ _ S12 hP1 hfP).mono ?_
  rintro e w5 ⟨rfl, S13⟩
  have S14 : Sat g w5 (xP xb f o * (midP pb pm T (H.erase ((f : Int), (o : Int))) * (memP pm n (scrubW W f P) * R))) := S13.perm (by ac_rfl)
  clear S13 S12
  go_wp2_with (fail)
  go_loopw [] (fun wr => ∃ (j c : Nat) (T' : Nat → Prop), o ≤ j ∧ j ≤ 8 ∧ Hid (plusQ T' c j = plusQ T a o) ∧ Hid (∀ x, x / 2 ^ j = c → ¬ T' x) ∧ Hid ((c + 1) * 2 ^ j ≤ n) ∧ Hid (∀ x, T' x → x < n) ∧ Sat g wr (xP xb ((c * 2 ^ j : Nat) : Int) j * (midP pb pm T' (H.erase ((f : Int), (o : Int))) * (memP pm n (scrubW W f P) * R)))) (fun wr => 8 - (intOf ((wr.cell? ⟨xb, 1, none⟩).getD undef)).toNat)
  case atStart => exact ⟨o, a, T, by omega, by omega, Lib.hid rfl, Lib.hid hdis, Lib.hid ha, Lib.hid hT, by rw [← HF.out]; exact S14⟩
  case round =>
    obtain ⟨j, c, T', hj1, hj2, HEQ, HDIS, HFIT, HT', S1⟩ := hrel
    clear S14
    obtain ⟨Q, hQ⟩ : ∃ Q : Nat, 2 ^ j = Q := ⟨_, rfl⟩
    obtain ⟨F, hF⟩ : ∃ F : Nat, c * 2 ^ j = F := ⟨_, rfl⟩
    rw [hF] at S1
    have hQz : (2 : Int) ^ j = (Q : Int) := by rw [← hQ]; push_cast; rfl
    have hQ1 : 1 ≤ Q := by rw [← hQ]; exact Nat.two_pow_pos j
    have hFQ : F + Q ≤ n := by have := HFIT.out; rw [Nat.add_mul, hF, hQ] at this; omega
    have hc256 : c < 256 := by
      have h1 := HFIT.out
      rw [hQ] at h1
      have h2 : (c + 1) * 1 ≤ (c + 1) * Q := Nat.mul_le_mul_left _ hQ1
      omega
    have HQ := Lib.hid hQ
    have HFF := Lib.hid hF
    have HM0 : Hid ((intOf ((wr.cell? ⟨xb, 1, none⟩).getD undef)).toNat = j) := Lib.hid (by rw [S1.inv.c1]; simp [intOf])
    have hwq : IntKind.i64.wrap (Q : Int) = (Q : Int) := IntWalk.i64_in _ ⟨by omega, by omega⟩
    have j0 : (0 : Int) ≤ (j : Int) := by omega
    have j64 : (j : Int) ≤ 64 := by omega
    have S2 := S1.drew
    have q0 : ∀ p : Wc (fun w' => wr.drew = w'), p.w.cell? ⟨xb, 0, none⟩ = some (.int .i64 F) := fun p => by rw [← p.h]; exact S2.inv.c0
    have q1 : ∀ p : Wc (fun w' => wr.drew = w'), p.w.cell? ⟨xb, 1, none⟩ = some (.int .i64 j) := fun p => by rw [← p.h]; exact S2.inv.c1
    by_cases h8 : j < 8
    · have hd8 : decide ((j : Int) < 8) = true := by simp; omega
      have hxor : bits .xor .i64 (F : Int) (Q : Int) = ((budQ c * 2 ^ j : Nat) : Int) := by rw [← hF, ← hQ]; exact bud_xor j h8 c hc256
      obtain ⟨B, hB⟩ : ∃ B : Nat, budQ c * 2 ^ j = B := ⟨_, rfl⟩
      rw [hB] at hxor
      have HB := Lib.hid hB
      clear hQ hF hB
      by_cases hful : QFull T' (budQ c) j
      · have hnot : bits .andNot .i64 (F : Int) (Q : Int) = ((c / 2 * 2 ^ (j + 1) : Nat) : Int) := by rw [← HFF.out, ← HQ.out]; exact bud_not j h8 c hc256
        obtain ⟨D, hD⟩ : ∃ D : Nat, c / 2 * 2 ^ (j + 1) = D := ⟨_, rfl⟩
        rw [hD] at hnot
        have HD := Lib.hid hD
        have HFUL := Lib.hid hful
        clear hD hful
        go_wp2_with (fail)
        refine region_tail (fun w' => wr.drew = w') 14 (by kernel_rfl) (by kernel_rfl) rfl ?_
        intro _
        simp only [List.take_succ_cons, List.take_zero, List.drop_succ_cons, List.drop_zero]
        (repeat (first | go_big_quiet_step (fail) | quiet_step (fail)))
        refine wpQuiet_nil ?_
        rintro _ rfl
        clear q0 q1
        go_wp2_with (fail)
        refine (s_btake pb pm T' (H.erase ((f : Int), (o : Int))) (budQ c) j (B : Int) g _ _ S2.swap (by rw [HB.out]) hj2 ((bud_can h8 HDIS.out).1 HFUL.out)).mono ?_
        rintro e w6 ⟨rfl, S3⟩
        have S4 := S3.swap
        go_wp2_with (fail)
        have S5 := S4.drew
        have q0 : ∀ p : Wc (fun w' => w6.drew = w'), p.w.cell? ⟨xb, 0, none⟩ = some (.int .i64 F) := fun p => by rw [← p.h]; exact S5.inv.c0
        have q1 : ∀ p : Wc (fun w' => w6.drew = w'), p.w.cell? ⟨xb, 1, none⟩ = some (.int .i64 j) := fun p => by rw [← p.h]; exact S5.inv.c1
        refine region_tail (fun w' => w6.drew = w') 6 (by kernel_rfl) (by kernel_rfl) rfl ?_
        intro _
        simp only [List.take_succ_cons, List.take_zero, List.drop_succ_cons, List.drop_zero]
        (repeat (first | go_big_quiet_step (fail) | quiet_step (fail)))
        refine wpQuiet_nil ?_
        rintro _ rfl
        clear q0 q1
        obtain ⟨w7, hw7⟩ : ∃ w7, w7 = w6.drew := ⟨_, rfl⟩
        rw [← hw7] at S5 ⊢
        clear hw7 S4 S3
        have xc0 := S5.inv.c0
        have xc1 := S5.inv.c1
        have xf0 := S5.inv.f0
        have xf1 := S5.inv.f1
        have hwj : IntKind.i64.wrap ((j : Int) + 1) = (j : Int) + 1 := IntWalk.i64_in _ ⟨by omega, by omega⟩
        have S6 := S5.x_set (w' := (w7.setCell ⟨xb, 0, none⟩ (.int .i64 D)).setCell ⟨xb, 1, none⟩ (.int .i64 ((j : Int) + 1))) ((x_touch xb 0 _).trans (x_touch xb 1 _)) ((S5.inv.set0 D).set1 ((j : Int) + 1))
        go_wp2_with (fail)
        go_roundw
        case rel =>
          exact ⟨j + 1, c / 2, minusQ T' (budQ c) j, by omega, by omega, Lib.hid ((join_eq HFUL.out).trans HEQ.out), Lib.hid (join_dis HDIS.out), Lib.hid (join_fit (full_fit HT'.out HFUL.out) HFIT.out), Lib.hid (fun x hx => HT'.out x hx.1), (by rw [HD.out]; push_cast; exact S6)⟩
        case measure =>
          have hc := S6.inv.c1
          rw [HM0.out, hc]
          simp [intOf]; omega
      · have HNF := Lib.hid hful
        clear hful
        go_wp2_with (fail)
        refine region_tail (fun w' => wr.drew = w') 14 (by kernel_rfl) (by kernel_rfl) rfl ?_
        intro _
        simp only [List.take_succ_cons, List.take_zero, List.drop_succ_cons, List.drop_zero]
        (repeat (first | go_big_quiet_step (fail) | quiet_step (fail)))
        refine wpQuiet_nil ?_
        rintro _ rfl
        clear q0 q1
        go_wp2_with (fail)
        refine (s_btake_no pb pm T' (H.erase ((f : Int), (o : Int))) (budQ c) j (B : Int) g _ _ S2.swap (by rw [HB.out]) hj2 (fun hq => HNF.out hq.1)).mono ?_
        rintro e w6 ⟨rfl, hb6⟩
        have S4 := S2.below hb6
        have xc0 := S4.inv.c0
        have xc1 := S4.inv.c1
        go_wp2_with (fail)
        refine (s_bput pb pm T' (H.erase ((f : Int), (o : Int))) c j (F : Int) g _ _ S4.swap (by rw [HFF.out]) hj2 (Nat.le_trans HFIT.out n2) HDIS.out (fun _ => HNF.out)).mono ?_
        rintro e w7 ⟨rfl, S5⟩
        go_wp2_with (fail)
        go_ret
        rw [HEQ.out, ← HP.out] at S5
        exact ⟨rfl, S5.swap.right⟩
    · have hd8 : decide ((j : Int) < 8) = false := by simp; omega
      clear hQ hF
      go_wp2_with (fail)
      refine region_tail (fun w' => wr.drew = w') 14 (by kernel_rfl) (by kernel_rfl) rfl ?_
      intro _
      simp only [List.take_succ_cons, List.take_zero, List.drop_succ_cons, List.drop_zero]
      (repeat (first | go_big_quiet_step (fail) | quiet_step (fail)))
      refine wpQuiet_nil ?_
      rintro _ rfl
      clear q0 q1
      have xc0 := S2.inv.c0
      have xc1 := S2.inv.c1
      go_wp2_with (fail)
      refine (s_bput pb pm T' (H.erase ((f : Int), (o : Int))) c j (F : Int) g _ _ S2.swap (by rw [HFF.out]) hj2 (Nat.le_trans HFIT.out n2) HDIS.out (fun h => absurd h h8)).mono ?_
      rintro e w7 ⟨rfl, S5⟩
      go_wp2_with (fail)
      go_ret
      rw [HEQ.out, ← HP.out] at S5
      exact ⟨rfl, S5.swap.right⟩

end Go.Proofs.Ytoiiblajgkdabaa

namespace Go.Proofs.Ytoiiblajgkdabaa
set_option linter.unusedSimpArgs false
set_option linter.unusedVariables false
set_option maxRecDepth 100000
open Go.RowKit
set_option maxHeartbeats 4000000

/-- How many numbers the first lists tell. -/
def sumF (F : Nat → List Int) : Nat → Nat
  | 0 => 0
  | k + 1 => sumF F k + (F k).length * 2 ^ k
theorem sumF_le (F : Nat → List Int) : ∀ k, k ≤ 9 → (∀ o, o < 9 → (F o).length ≤ 256) → sumF F k ≤ k * 65536
  | 0, _, _ => Nat.le_refl _
  | k + 1, h, hl => by
    have ih := sumF_le F k (by omega) hl
    have h1 : (F k).length * 2 ^ k ≤ 256 * 2 ^ 8 := Nat.mul_le_mul (hl k (by omega)) (Nat.pow_le_pow_right (by omega) (by omega))
    unfold sumF; omega
theorem nine_at (x : Nat → Value) (k : Nat) (hk : k < 9) (w : World) : (Instr.index 89 (.agg #[x 0, x 1, x 2, x 3, x 4, x 5, x 6, x 7, x 8]) (.int .i64 k)).run Try.prog w = .ok (x k) w := by
  have hh : k = 0 ∨ k = 1 ∨ k = 2 ∨ k = 3 ∨ k = 4 ∨ k = 5 ∨ k = 6 ∨ k = 7 ∨ k = 8 := by omega
  rcases hh with rfl | rfl | rfl | rfl | rfl | rfl | rfl | rfl | rfl <;> (show _ = _; kernel_rfl)

theorem s_left (pb pm : Nat) (T : Nat → Prop) (H : List Blk) (g w : World) (R : HP) (h : Sat g w (midP pb pm T H * R)) :
    Calls Try.prog 18 #[.pointer (some ⟨pb, 0, none⟩)] w fun e w' => (∃ F, CanF T F ∧ e = .returned (.int .i64 (sumF F 9))) ∧ w = w' := by
  obtain ⟨hb, A, C, F, hcan, hlen, g0, g10, hmap, hls⟩ := h.mid_read
  have c0 : w.cell? ⟨pb, 1, none⟩ = _ := (hls 0 (by omega)).1
  have c1 : w.cell? ⟨pb, 2, none⟩ = _ := (hls 1 (by omega)).1
  have c2 : w.cell? ⟨pb, 3, none⟩ = _ := (hls 2 (by omega)).1
  have c3 : w.cell? ⟨pb, 4, none⟩ = _ := (hls 3 (by omega)).1
  have c4 : w.cell? ⟨pb, 5, none⟩ = _ := (hls 4 (by omega)).1
  have c5 : w.cell? ⟨pb, 6, none⟩ = _ := (hls 5 (by omega)).1
  have c6 : w.cell? ⟨pb, 7, none⟩ = _ := (hls 6 (by omega)).1
  have c7 : w.cell? ⟨pb, 8, none⟩ = _ := (hls 7 (by omega)).1
  have c8 : w.cell? ⟨pb, 9, none⟩ = _ := (hls 8 (by omega)).1
  go_enter Try.func18, Try.ntmps18
  go_wp2_with (fail)
  have HN := fun k hk => nine_at (fun i => Value.slice (A i) (F i).length (C i)) k hk
  go_loopw [3, 10] (fun n i wr => ∃ k : Nat, k ≤ 9 ∧ n = .int .i64 (sumF F k) ∧ i = .int .i64 k ∧ w = wr) (fun _ i _ => 9 - (intOf i).toNat)
  case atStart => exact ⟨0, by omega, rfl, rfl, rfl⟩
  case round =>
    obtain ⟨k, hk, rfl, rfl, rfl⟩ := hrel
    by_cases hk9 : k < 9
    · have hd : decide ((k : Int) < 9) = true := by simp; omega
      have hn := HN k hk9
      have hs1 := sumF_le F (k + 1) (by omega) hlen
      have hS : sumF F (k + 1) = sumF F k + (F k).length * 2 ^ k := rfl
      obtain ⟨Q, hQ⟩ : ∃ Q : Nat, 2 ^ k = Q := ⟨_, rfl⟩
      have hQz : (2 : Int) ^ k = (Q : Int) := by rw [← hQ]; push_cast; rfl
      rw [hQ] at hS
      rw [hS] at hs1
      have hm1 : ((F k).length : Int) * (Q : Int) = (((F k).length * Q : Nat) : Int) := by push_cast; rfl
      have hw1 : IntKind.i64.wrap (((F k).length : Int) * (Q : Int)) = (((F k).length * Q : Nat) : Int) := by rw [hm1]; exact IntWalk.i64_in _ ⟨by omega, by omega⟩
      obtain ⟨M, hM⟩ : ∃ M : Nat, (F k).length * Q = M := ⟨_, rfl⟩
      rw [hM] at hw1 hs1 hS
      have hw2 : IntKind.i64.wrap ((sumF F k : Nat) + (M : Int)) = ((sumF F (k + 1) : Nat) : Int) := by rw [hS]; push_cast; exact IntWalk.i64_in _ ⟨by omega, by omega⟩
      have k0 : (0 : Int) ≤ (k : Int) := by omega
      have k64 : (k : Int) ≤ 64 := by omega
      have HS := Lib.hid hS
      clear hm1 hM hS hQ
      go_wp2_with (fail)
      go_roundw
      case rel => exact ⟨k + 1, by omega, rfl, by go_num, by first | trivial | rfl⟩
      case measure => simp [intOf]; omega
    · obtain rfl : k = 9 := by omega
      go_wp2_with (fail)
      go_ret
      exact ⟨⟨F, hcan, rfl⟩, rfl⟩

end Go.Proofs.Ytoiiblajgkdabaa

namespace Go.Proofs.Ytoiiblajgkdabaa
set_option linter.unusedSimpArgs false
set_option linter.unusedVariables false
set_option maxRecDepth 100000
open Go.RowKit

theorem full_can {T : Nat → Prop} : ∀ (d a o : Nat), o + d = 8 → QFull T a o → ∃ b k, o ≤ k ∧ k ≤ 8 ∧ QCan T b k ∧ a / 2 ^ (k - o) = b
  | 0, a, o, h, hf => ⟨a, o, Nat.le_refl _, by omega, ⟨hf, fun h8 => absurd h8 (by omega)⟩, by simp⟩
  | d + 1, a, o, h, hf => by
    by_cases hp : QFull T (a / 2) (o + 1)
    · obtain ⟨b, k, h1, h2, h3, h4⟩ := full_can d (a / 2) (o + 1) (by omega) hp
      refine ⟨b, k, by omega, h2, h3, ?_⟩
      rw [← h4, Nat.div_div_eq_div_mul, show k - o = (k - (o + 1)) + 1 by omega, Nat.pow_succ, Nat.mul_comm 2]
    · exact ⟨a, o, Nat.le_refl _, by omega, ⟨hf, fun _ => hp⟩, by simp⟩

/-- Is a frame in a block? -/
def inB (b : Blk) (x : Nat) : Prop := x / 2 ^ b.2.toNat = b.1.toNat / 2 ^ b.2.toNat
theorem inB_of (a o x : Nat) : inB (((a * 2 ^ o : Nat) : Int), (o : Int)) x ↔ x / 2 ^ o = a := by
  unfold inB
  simp only [Int.toNat_natCast]
  rw [in_block]
structure InvB (r n : Nat) (T : Nat → Prop) (H : List Blk) : Prop where
  cov : ∀ x, (r ≤ x ∧ x < n) ↔ (T x ∨ ∃ b ∈ H, inB b x)
  blk : ∀ b ∈ H, ∃ a o : Nat, o ≤ 8 ∧ b = (((a * 2 ^ o : Nat) : Int), (o : Int))
  apart : ∀ b ∈ H, ∀ x, inB b x → ¬ T x
  disj : ∀ b ∈ H, ∀ b' ∈ H, ∀ x, inB b x → inB b' x → b = b'
  nodup : H.Nodup
theorem inv_new (r n : Nat) : InvB r n (rangeT r n) [] :=
  ⟨fun x => by simp [rangeT], by simp, by simp, by simp, List.nodup_nil⟩
theorem inv_alloc {r n : Nat} {T : Nat → Prop} {H : List Blk} (h : InvB r n T H) {c o : Nat} (ho : o ≤ 8) (hf : QFull T c o) :
    InvB r n (minusQ T c o) (H ++ [(((c * 2 ^ o : Nat) : Int), (o : Int))]) := by
  have hnew : ∀ x, inB (((c * 2 ^ o : Nat) : Int), (o : Int)) x → T x := fun x hx => hf x ((inB_of c o x).1 hx)
  refine ⟨fun x => ?_, fun b hb => ?_, fun b hb x hx => ?_, fun b hb b' hb' x hx hx' => ?_, ?_⟩
  · rw [h.cov]
    constructor
    · rintro (h1 | ⟨b, hb, hx⟩)
      · by_cases e : x / 2 ^ o = c
        · exact Or.inr ⟨_, List.mem_append_right _ (List.mem_singleton.2 rfl), (inB_of c o x).2 e⟩
        · exact Or.inl ⟨h1, e⟩
      · exact Or.inr ⟨b, List.mem_append_left _ hb, hx⟩
    · rintro (h1 | ⟨b, hb, hx⟩)
      · exact Or.inl h1.1
      · rcases List.mem_append.1 hb with hb | hb
        · exact Or.inr ⟨b, hb, hx⟩
        · rw [List.mem_singleton.1 hb] at hx
          exact Or.inl (hnew x hx)
  · rcases List.mem_append.1 hb with hb | hb
    · exact h.blk b hb
    · exact ⟨c, o, ho, List.mem_singleton.1 hb⟩
  · rcases List.mem_append.1 hb with hb | hb
    · exact fun h1 => h.apart b hb x hx h1.1
    · rw [List.mem_singleton.1 hb] at hx
      exact fun h1 => h1.2 ((inB_of c o x).1 hx)
  · rcases List.mem_append.1 hb with hb | hb <;> rcases List.mem_append.1 hb' with hb' | hb'
    · exact h.disj b hb b' hb' x hx hx'
    · rw [List.mem_singleton.1 hb'] at hx'
      exact absurd (hnew x hx') (h.apart b hb x hx)
    · rw [List.mem_singleton.1 hb] at hx
      exact absurd (hnew x hx) (h.apart b' hb' x hx')
    · rw [List.mem_singleton.1 hb, List.mem_singleton.1 hb']
  · refine List.nodup_append.2 ⟨h.nodup, by simp, fun y hy z hz => ?_⟩
    rintro rfl
    rw [List.mem_singleton.1 hz] at hy
    have hx := (inB_of c o (c * 2 ^ o)).2 (in_block c o)
    exact h.apart _ hy _ hx (hnew _ hx)
theorem inv_free {r n : Nat} {T : Nat → Prop} {H : List Blk} (h : InvB r n T H) {c o : Nat} (hin : (((c * 2 ^ o : Nat) : Int), (o : Int)) ∈ H) :
    InvB r n (plusQ T c o) (H.erase (((c * 2 ^ o : Nat) : Int), (o : Int))) := by
  have hm : ∀ b, b ∈ H.erase (((c * 2 ^ o : Nat) : Int), (o : Int)) ↔ b ≠ (((c * 2 ^ o : Nat) : Int), (o : Int)) ∧ b ∈ H := fun b => h.nodup.mem_erase_iff
  refine ⟨fun x => ?_, fun b hb => h.blk b ((hm b).1 hb).2, fun b hb x hx => ?_, fun b hb b' hb' x hx hx' => h.disj b ((hm b).1 hb).2 b' ((hm b').1 hb').2 x hx hx', h.nodup.erase _⟩
  · rw [h.cov]
    constructor
    · rintro (h1 | ⟨b, hb, hx⟩)
      · exact Or.inl (Or.inl h1)
      · by_cases e : b = (((c * 2 ^ o : Nat) : Int), (o : Int))
        · rw [e] at hx; exact Or.inl (Or.inr ((inB_of c o x).1 hx))
        · exact Or.inr ⟨b, (hm b).2 ⟨e, hb⟩, hx⟩
    · rintro ((h1 | h1) | ⟨b, hb, hx⟩)
      · exact Or.inl h1
      · exact Or.inr ⟨_, hin, (inB_of c o x).2 h1⟩
      · exact Or.inr ⟨b, ((hm b).1 hb).2, hx⟩
  · obtain ⟨hne, hb⟩ := (hm b).1 hb
    rintro (h1 | h1)
    · exact h.apart b hb x hx h1
    · exact hne (h.disj b hb _ hin x hx ((inB_of c o x).2 h1))

/-! ### How many -/
open Classical in
noncomputable def cnt (T : Nat → Prop) : Nat → Nat
  | 0 => 0
  | k + 1 => cnt T k + if T k then 1 else 0
theorem cnt_congr {T U : Nat → Prop} : ∀ k, (∀ x, x < k → (T x ↔ U x)) → cnt T k = cnt U k
  | 0, _ => rfl
  | k + 1, h => by
    unfold cnt
    rw [cnt_congr k (fun x hx => h x (by omega))]
    have := h k (by omega)
    by_cases hT : T k
    · rw [if_pos hT, if_pos (this.1 hT)]
    · rw [if_neg hT, if_neg (fun hu => hT (this.2 hu))]
theorem cnt_add {T A B : Nat → Prop} (h : ∀ x, T x ↔ A x ∨ B x) (hd : ∀ x, A x → ¬ B x) : ∀ k, cnt T k = cnt A k + cnt B k
  | 0 => rfl
  | k + 1 => by
    unfold cnt
    rw [cnt_add h hd k]
    by_cases hA : A k
    · rw [if_pos ((h k).2 (Or.inl hA)), if_pos hA, if_neg (hd k hA)]; omega
    · by_cases hB : B k
      · rw [if_pos ((h k).2 (Or.inr hB)), if_neg hA, if_pos hB]; omega
      · rw [if_neg (fun ht => ((h k).1 ht).elim hA hB), if_neg hA, if_neg hB]; omega
theorem cnt_range (s : Nat) : ∀ k, cnt (fun x => s ≤ x) k = k - s
  | 0 => by simp [cnt]
  | k + 1 => by
    unfold cnt
    rw [cnt_range s k]
    by_cases h : s ≤ k
    · rw [if_pos h]; omega
    · rw [if_neg h]; omega
theorem cnt_int (s m : Nat) : ∀ k, s + m ≤ k → cnt (fun x => s ≤ x ∧ x < s + m) k = m := fun k hk => by
  have h := cnt_add (T := fun x => s ≤ x) (A := fun x => s ≤ x ∧ x < s + m) (B := fun x => s + m ≤ x) (fun x => by omega) (fun x h1 h2 => by omega) k
  rw [cnt_range, cnt_range] at h
  omega
theorem block_iff (a o x : Nat) : x / 2 ^ o = a ↔ (a * 2 ^ o ≤ x ∧ x < a * 2 ^ o + 2 ^ o) := by
  have h0 := Nat.two_pow_pos o
  rw [Nat.div_eq_iff h0, Nat.mul_comm]
  omega
theorem cnt_block (a o k : Nat) (h : (a + 1) * 2 ^ o ≤ k) : cnt (fun x => x / 2 ^ o = a) k = 2 ^ o := by
  rw [cnt_congr (U := fun x => a * 2 ^ o ≤ x ∧ x < a * 2 ^ o + 2 ^ o) k (fun x _ => block_iff a o x)]
  exact cnt_int _ _ _ (by rw [Nat.add_mul] at h; omega)
theorem cnt_minus {T : Nat → Prop} {a o k : Nat} (hf : QFull T a o) (h : (a + 1) * 2 ^ o ≤ k) : cnt T k = cnt (minusQ T a o) k + 2 ^ o := by
  rw [← cnt_block a o k h]
  refine cnt_add (fun x => ?_) (fun x h1 h2 => h1.2 h2) k
  unfold minusQ
  constructor
  · intro hx
    by_cases e : x / 2 ^ o = a
    · exact Or.inr e
    · exact Or.inl ⟨hx, e⟩
  · rintro (h1 | h1)
    · exact h1.1
    · exact hf x h1
theorem cnt_plus {T : Nat → Prop} {a o k : Nat} (hd : ∀ x, x / 2 ^ o = a → ¬ T x) (h : (a + 1) * 2 ^ o ≤ k) : cnt (plusQ T a o) k = cnt T k + 2 ^ o := by
  rw [← cnt_block a o k h]
  exact cnt_add (fun x => Iff.rfl) (fun x h1 h2 => hd x h2 h1) k
theorem cnt_zero {T : Nat → Prop} : ∀ k, (∀ x, x < k → ¬ T x) → cnt T k = 0
  | 0, _ => rfl
  | k + 1, h => by
    unfold cnt
    rw [cnt_zero k (fun x hx => h x (by omega)), if_neg (h k (by omega))]
theorem sumF_upd (F : Nat → List Int) (o : Nat) (L : List Int) : ∀ k, sumF (upd F o L) k + (if o < k then (F o).length * 2 ^ o else 0) = sumF F k + (if o < k then L.length * 2 ^ o else 0)
  | 0 => by simp [sumF]
  | k + 1 => by
    have ih := sumF_upd F o L k
    unfold sumF
    rcases Nat.lt_trichotomy o k with h | rfl | h
    · rw [upd_other F L (by omega : k ≠ o), if_pos (by omega), if_pos (by omega)]
      rw [if_pos h, if_pos h] at ih
      omega
    · rw [upd_same, if_pos (by omega), if_pos (by omega)]
      rw [if_neg (by omega), if_neg (by omega)] at ih
      omega
    · rw [upd_other F L (by omega : k ≠ o), if_neg (by omega), if_neg (by omega)]
      rw [if_neg (by omega), if_neg (by omega)] at ih
      omega
theorem sumF_nil (F : Nat → List Int) : ∀ k, (∀ o, o < k → F o = []) → sumF F k = 0
  | 0, _ => rfl
  | k + 1, h => by
    unfold sumF
    rw [sumF_nil F k (fun o ho => h o (by omega)), h k (by omega)]; simp
theorem len_delL (L : List Int) (x : Int) (h : L.Pairwise (· < ·)) (hx : x ∈ L) : (delL L x).length = L.length - 1 := by
  obtain ⟨hi, _⟩ := at_count L x h hx
  unfold delL
  rw [List.length_eraseIdx_of_lt hi]
theorem full_small' {T : Nat → Prop} {c j : Nat} (h : Small T) (hq : QFull T c j) : (c + 1) * 2 ^ j ≤ 256 := by
  have h0 := Nat.two_pow_pos j
  have h1 := h _ (hq (c * 2 ^ j + (2 ^ j - 1)) (by rw [Nat.add_comm, Nat.add_mul_div_right _ _ h0, Nat.div_eq_of_lt (by omega)]; omega))
  rw [Nat.add_mul]; omega
theorem sum_cnt : ∀ (m : Nat) (T : Nat → Prop) (F : Nat → List Int), cnt T 256 ≤ m → CanF T F → Small T → sumF F 9 = cnt T 256 := by
  intro m
  induction m with
  | zero =>
    intro T F hm h hs
    have : ∀ o, o < 9 → F o = [] := fun o ho => by
      refine List.eq_nil_iff_forall_not_mem.2 fun f hf => ?_
      obtain ⟨a, rfl, hc⟩ := ((h o ho).2 f).1 hf
      have h1 := cnt_minus hc.1 (full_small' hs hc.1)
      have := Nat.two_pow_pos o
      omega
    rw [sumF_nil F 9 this]; omega
  | succ m ih =>
    intro T F hm h hs
    by_cases hall : ∀ o, o < 9 → F o = []
    · rw [sumF_nil F 9 hall]
      refine (cnt_zero 256 fun x _ hT => ?_).symm
      obtain ⟨b, k, _, hk, hc, _⟩ := full_can (T := T) 8 x 0 rfl (fun y hy => by rw [Nat.pow_zero, Nat.div_one] at hy; rw [hy]; exact hT)
      have := ((h k (by omega)).2 _).2 ⟨b, rfl, hc⟩
      rw [hall k (by omega)] at this
      simp at this
    · obtain ⟨o, ho⟩ := Classical.not_forall.1 hall
      obtain ⟨ho9, hne⟩ := Classical.not_imp.1 ho
      obtain ⟨f, hf⟩ := List.exists_mem_of_ne_nil _ hne
      obtain ⟨a, rfl, hc⟩ := ((h o ho9).2 f).1 hf
      obtain ⟨h1, h2⟩ := h.del (by omega) hc
      have h3 := cnt_minus hc.1 (full_small' hs hc.1)
      have h4 := ih (minusQ T a o) _ (by have := Nat.two_pow_pos o; omega) h2 (small_minus hs a o)
      have h5 := sumF_upd F o (delL (F o) ((a * 2 ^ o : Nat) : Int)) 9
      rw [if_pos ho9, if_pos ho9, h4, len_delL _ _ (h o ho9).1 h1] at h5
      have h6 : 0 < (F o).length := List.length_pos_of_mem h1
      have h7 : (F o).length * 2 ^ o = ((F o).length - 1) * 2 ^ o + 2 ^ o := by
        obtain ⟨q, hq⟩ : ∃ q, (F o).length = q + 1 := ⟨(F o).length - 1, by omega⟩
        rw [hq, Nat.add_mul]; simp
      omega

end Go.Proofs.Ytoiiblajgkdabaa

namespace Go.Proofs.Ytoiiblajgkdabaa
set_option linter.unusedSimpArgs false
set_option linter.unusedVariables false
set_option maxRecDepth 100000
open Go.RowKit Go.Sort Go.Shelf
set_option maxHeartbeats 1000000

def encL (x : Blk) : List Value := [.int .i64 x.1, .int .i64 x.2]
def blkCells (L : List Blk) : List Value := L.flatMap encL
theorem blkCells_length (L : List Blk) : (blkCells L).length = L.length * 2 := by
  induction L with
  | nil => rfl
  | cons a l ih => simp only [blkCells, List.flatMap_cons, List.length_append] at *; rw [ih]; simp [encL]; omega
theorem blkCells_snoc (L : List Blk) (x : Blk) : blkCells (L ++ [x]) = blkCells L ++ encL x := by simp [blkCells]
theorem blkCells_append (L M : List Blk) : blkCells (L ++ M) = blkCells L ++ blkCells M := by simp [blkCells]
theorem blkCells_at : ∀ (L : List Blk) (i : Nat) (h : i < L.length), (blkCells L)[i * 2]? = some (.int .i64 L[i].1) ∧ (blkCells L)[i * 2 + 1]? = some (.int .i64 L[i].2)
  | [], i, h => by simp at h
  | x :: L, 0, h => by simp [blkCells, encL]
  | x :: L, i + 1, h => by
    have ih := blkCells_at L i (by simpa using h)
    have e : blkCells (x :: L) = encL x ++ blkCells L := rfl
    have h3 : (encL x).length = 2 := rfl
    rw [e]
    have g : ∀ j, (encL x ++ blkCells L)[(i + 1) * 2 + j]? = (blkCells L)[i * 2 + j]? := fun j => by
      rw [List.getElem?_append_right (by omega)]; congr 1; omega
    have g0 := g 0
    simp only [Nat.add_zero] at g0
    rw [g0, g 1]
    exact ih

/-- In the order of their frames. -/
def RiseB (L : List Blk) : Prop := L.Pairwise fun a b => a.1 < b.1
theorem riseB_eq : ∀ {L M : List Blk}, (∀ x, x ∈ L ↔ x ∈ M) → RiseB L → RiseB M → L = M
  | [], [], _, _, _ => rfl
  | [], b :: M, h, _, _ => absurd ((h b).2 (by simp)) (by simp)
  | a :: L, [], h, _, _ => absurd ((h a).1 (by simp)) (by simp)
  | a :: L, b :: M, h, h1, h2 => by
    have p1 := List.pairwise_cons.1 h1
    have p2 := List.pairwise_cons.1 h2
    have hab : a = b := by
      rcases List.mem_cons.1 ((h a).1 (by simp)) with e | e
      · exact e
      · rcases List.mem_cons.1 ((h b).2 (by simp)) with e' | e'
        · exact e'.symm
        · have := p2.1 a e; have := p1.1 b e'; omega
    subst hab
    rw [riseB_eq (fun x => ?_) p1.2 p2.2]
    have hx := h x
    simp only [List.mem_cons] at hx
    constructor
    · intro hm
      rcases hx.1 (Or.inr hm) with rfl | h3
      · have := p1.1 x hm; omega
      · exact h3
    · intro hm
      rcases hx.2 (Or.inr hm) with rfl | h3
      · have := p2.1 x hm; omega
      · exact h3

/-! ### The sort -/
theorem lt_blk (x y : Blk) : ltOf (fun x y : Blk => Lib.compareInt x.1 y.1) x y = decide (x.1 < y.1) := by
  unfold ltOf Lib.compareInt
  by_cases h1 : x.1 < y.1
  · simp [h1]
  · by_cases h2 : y.1 < x.1 <;> simp [h1, h2]
theorem swo_blk : SWO (ltOf fun x y : Blk => Lib.compareInt x.1 y.1) where
  irrefl x := by rw [lt_blk]; simp
  trans x y z h1 h2 := by rw [lt_blk] at *; simp at *; omega
  ntrans x y z h1 h2 := by rw [lt_blk] at *; simp at *; omega

theorem by_any (x y : Blk) (W : World) : Calls Try.prog 52 #[.agg #[.int .i64 x.1, .int .i64 x.2], .agg #[.int .i64 y.1, .int .i64 y.2]] W fun e w' => e = .returned (.int .i64 (Lib.compareInt x.1 y.1)) ∧ ∃ q os', w' = Sort.grow (W.drewN q) os' := by
  have hcon := fun W' => AnyG.cmp_Compare_int Try.cmpInt x.1 y.1 W'
  change ∀ W', Calls Try.prog 80 _ _ _ at hcon
  generalize Lib.compareInt x.1 y.1 = r at hcon ⊢
  go_enter Try.func52, Try.ntmps52
  go_wp2_with (go_at_call 80; refine (hcon _).mono ?_; rintro e w' ⟨rfl, rfl⟩)
  go_ret
  exact ⟨rfl, 0, _, by rw [alloc_eq_grow, alloc_eq_grow, grow_grow]; rfl⟩
theorem cBlocks_any (x y : Blk) (W : World) : Calls Try.prog 53 #[.agg #[.int .i64 x.1, .int .i64 x.2], .agg #[.int .i64 y.1, .int .i64 y.2]] W fun e w' => e = .returned (.int .i64 (Lib.compareInt x.1 y.1)) ∧ ∃ q os', w' = Sort.grow (W.drewN q) os' := by
  have hcon := fun W' => by_any x y W'
  generalize Lib.compareInt x.1 y.1 = r at hcon ⊢
  go_enter Try.func53, Try.ntmps53
  go_wp2_with (fail)
  refine (hcon _).mono ?_
  rintro e w' ⟨rfl, q, os', rfl⟩
  go_wp2_with (fail)
  go_ret
  exact ⟨rfl, q, _, by rw [alloc_eq_grow, alloc_eq_grow, grow_grow, show ∀ (w : World) (os : Array Obj), (grow w os).drewN q = grow (w.drewN q) os from fun _ _ => rfl, grow_grow]⟩
theorem cHeld_any (x y : Blk) (W : World) : Calls Try.prog 51 #[.agg #[.int .i64 x.1, .int .i64 x.2], .agg #[.int .i64 y.1, .int .i64 y.2]] W fun e w' => e = .returned (.int .i64 (Lib.compareInt x.1 y.1)) ∧ ∃ q os', w' = Sort.grow (W.drewN q) os' := by
  have hcon := fun W' => by_any x y W'
  generalize Lib.compareInt x.1 y.1 = r at hcon ⊢
  go_enter Try.func51, Try.ntmps51
  go_wp2_with (fail)
  refine (hcon _).mono ?_
  rintro e w' ⟨rfl, q, os', rfl⟩
  go_wp2_with (fail)
  go_ret
  exact ⟨rfl, q, _, by rw [alloc_eq_grow, alloc_eq_grow, grow_grow, show ∀ (w : World) (os : Array Obj), (grow w os).drewN q = grow (w.drewN q) os from fun _ _ => rfl, grow_grow]⟩
theorem cBlocks_lays (blk off size : Nat) (w : World) : CmpLays Try.prog 53 #[] encL 2 (fun x y : Blk => Lib.compareInt x.1 y.1) blk off size w :=
  fun _ _ _ _ x y => cBlocks_any x y _
theorem cHeld_lays (blk off size : Nat) (w : World) : CmpLays Try.prog 51 #[] encL 2 (fun x y : Blk => Lib.compareInt x.1 y.1) blk off size w :=
  fun _ _ _ _ x y => cHeld_any x y _
theorem ownB_holds {w : World} {base e g n cap : Nat} {L : List Blk} (h : w.ownsRow base e 2 (.slice (some ⟨g, 0, none⟩) n cap) n (blkCells L)) (hn : L.length = n) : HoldsK encL 2 w g 0 L.toArray := by
  intro j hj
  rw [size_flatK] at hj
  have hjn : j < n * 2 := by simpa [hn] using hj
  have hc := h.cellAt j hjn
  rw [Nat.zero_add]
  refine ⟨?_, ?_⟩
  · rw [hc, get_flatK _ _ _ _ hj]
    have hi : j / 2 < L.length := by omega
    obtain ⟨a, b⟩ := blkCells_at L (j / 2) hi
    have hL : L.toArray[j / 2]! = L[j / 2] := by simp [hi]
    rw [hL]
    have h3 : j % 2 = 0 ∨ j % 2 = 1 := by omega
    rcases h3 with h3 | h3
    · rw [show (blkCells L)[j]? = (blkCells L)[j / 2 * 2]? by congr 1; omega, a, h3]; rfl
    · rw [show (blkCells L)[j]? = (blkCells L)[j / 2 * 2 + 1]? by congr 1; omega, b, h3]; rfl
  · exact h.frozenAt j

/-- A row that has been sorted: the windows in their order. -/
theorem ownB_sorted {w : World} {base e g n cap : Nat} {L : List Blk} (h : w.ownsRow base e 2 (.slice (some ⟨g, 0, none⟩) n cap) n (blkCells L)) (d' : Array Blk) (hs : d'.size = n) (m : Nat) (os : Array Obj) :
    (sortWorldK encL 2 w g 0 m d' os).ownsRow base e 2 (.slice (some ⟨g, 0, none⟩) n cap) n (blkCells d'.toList) ∧ Touch (· = g) w (sortWorldK encL 2 w g 0 m d' os) := by
  rcases h.2 with ⟨h1, _⟩ | ⟨g', cap', cur, h1, hb, h2, h3, h4, h5, h6⟩
  · cases h1
  · cases h1
    have hg := heap_lt h2
    have hh : (sortWorldK encL 2 w g 0 m d' os).heap[g]? = some (.cells (putCells id 0 (flatK encL 2 d') cur) e (0, 0)) := by
      unfold sortWorldK putRowK putRow mapBlock Sort.grow Sort.ahead
      simp only [Array.getElem?_append, Array.size_modify, hg, if_true, Array.getElem?_modify, h2, Option.map_some, onCells]
    refine ⟨⟨by rw [blkCells_length]; simp [hs], Or.inr ⟨g, cap, _, rfl, hb, hh, h3, h4, by simp [putCells, h5], ?_⟩⟩, ⟨rfl, rfl, rfl, by unfold sortWorldK putRowK putRow mapBlock Sort.grow Sort.ahead; simp, fun k hk hne => ?_⟩⟩
    · apply List.ext_getElem?
      intro j
      rw [List.getElem?_take]
      by_cases hj : j < n * 2
      · have hc : j < cur.size := by rw [h5]; omega
        rw [if_pos hj]
        have e1 : (putCells id 0 (flatK encL 2 d') cur).toList[j]? = some ((flatK encL 2 d')[j]!) := by
          unfold putCells
          rw [Array.getElem?_toList, Array.getElem?_mapIdx, Array.getElem?_eq_getElem hc, Option.map_some, if_pos ⟨by omega, by simp [hs]; omega⟩]
          rfl
        rw [e1, get_flatK _ _ _ _ (by rw [hs]; exact hj)]
        have hi : j / 2 < d'.toList.length := by simp [hs]; omega
        obtain ⟨a, b⟩ := blkCells_at d'.toList (j / 2) hi
        have hL : d'[j / 2]! = d'.toList[j / 2] := by simp at hi; simp [hi]
        rw [hL]
        have h3 : j % 2 = 0 ∨ j % 2 = 1 := by omega
        rcases h3 with h3 | h3
        · rw [show (blkCells d'.toList)[j]? = (blkCells d'.toList)[j / 2 * 2]? by congr 1; omega, a, h3]; rfl
        · rw [show (blkCells d'.toList)[j]? = (blkCells d'.toList)[j / 2 * 2 + 1]? by congr 1; omega, b, h3]; rfl
      · rw [if_neg hj, List.getElem?_eq_none]
        rw [blkCells_length]; simp [hs]; omega
    · unfold sortWorldK putRowK putRow mapBlock Sort.grow Sort.ahead
      have hne' : ¬ g = k := fun e => hne e.symm
      simp only [Array.getElem?_append, Array.size_modify, hk, if_true, Array.getElem?_modify, hne', if_false]

/-- slices.SortFunc over blocks: they come into their order. -/
def SortedB (w : World) (base e g n cap : Nat) (L : List Blk) (e' : Ending) (w' : World) : Prop :=
  e' = .returned (.tuple #[]) ∧ ∃ M : List Blk, M.Perm L ∧ (∀ i j (hi : i < j) (hj : j < M.length), ¬ M[j].1 < M[i].1) ∧ w'.ownsRow base e 2 (.slice (some ⟨g, 0, none⟩) n cap) n (blkCells M) ∧ Touch (· = g) w w'
theorem sortBlocks (base e g n cap : Nat) (L : List Blk) (w : World) (h : w.ownsRow base e 2 (.slice (some ⟨g, 0, none⟩) n cap) n (blkCells L)) (hn : L.length = n) (hsz : n < 1000000) :
    Calls Try.prog 50 #[.slice (some ⟨g, 0, none⟩) n cap, .func (.func 53) #[] #[]] w (SortedB w base e g n cap L) := by
  have eg : ∀ args w, (callFunc 53 args).run Try.prog w = .ok (.enter 53 args) w := enters_of Try.func53 (by kernel_rfl) rfl
  have hg : g < w.heap.size := by
    rcases h.2 with ⟨h1, _⟩ | ⟨g', cap', cur, h1, hb, h2, _⟩
    · cases h1
    · cases h1; exact heap_lt h2
  have hsn : L.toArray.size = n := by simp [hn]
  have hcon := AnyQ.slices_SortFunc Try.sortBlk 2 Try.isAgg39 Try.sizeOf39 encL (fun _ => rfl) (fun x v hv => by simp [encL] at hv; rcases hv with rfl | rfl <;> rfl) (fun x y : Blk => Lib.compareInt x.1 y.1) swo_blk 53 #[] g 0 cap L.toArray w eg (cBlocks_lays g 0 L.toArray.size w) (ownB_holds h hn) hg (by omega)
  change Calls Try.prog 50 _ _ _ at hcon
  rw [hsn] at hcon
  refine hcon.mono fun e' w' ⟨he, d', m, os, hp, hs, hw⟩ => ⟨he, d'.toList, ?_, fun i j hi hj => ?_, ?_⟩
  · have := hp.2.2
    have e1 : d'.extract 0 n = d' := by rw [show n = d'.size by rw [hp.1, hsn]]; simp
    have e2 : L.toArray.extract 0 n = L.toArray := by rw [← hsn]; simp
    rw [e1, e2] at this
    simpa using this
  · have hj' : j < n := by rw [← hsn, ← hp.1]; simpa using hj
    have := hs i j (by omega) hi hj'
    rw [lt_blk] at this
    have hjd : j < d'.size := by simpa using hj
    have hid : i < d'.size := by omega
    simp only [decide_eq_false_iff_not] at this
    simpa [hjd, hid] using this
  · rw [hw]
    exact ownB_sorted h d' (by rw [hp.1, hsn]) m os
theorem sortHeld (base e g n cap : Nat) (L : List Blk) (w : World) (h : w.ownsRow base e 2 (.slice (some ⟨g, 0, none⟩) n cap) n (blkCells L)) (hn : L.length = n) (hsz : n < 1000000) :
    Calls Try.prog 50 #[.slice (some ⟨g, 0, none⟩) n cap, .func (.func 51) #[] #[]] w (SortedB w base e g n cap L) := by
  have eg : ∀ args w, (callFunc 51 args).run Try.prog w = .ok (.enter 51 args) w := enters_of Try.func51 (by kernel_rfl) rfl
  have hg : g < w.heap.size := by
    rcases h.2 with ⟨h1, _⟩ | ⟨g', cap', cur, h1, hb, h2, _⟩
    · cases h1
    · cases h1; exact heap_lt h2
  have hsn : L.toArray.size = n := by simp [hn]
  have hcon := AnyQ.slices_SortFunc Try.sortBlk 2 Try.isAgg39 Try.sizeOf39 encL (fun _ => rfl) (fun x v hv => by simp [encL] at hv; rcases hv with rfl | rfl <;> rfl) (fun x y : Blk => Lib.compareInt x.1 y.1) swo_blk 51 #[] g 0 cap L.toArray w eg (cHeld_lays g 0 L.toArray.size w) (ownB_holds h hn) hg (by omega)
  change Calls Try.prog 50 _ _ _ at hcon
  rw [hsn] at hcon
  refine hcon.mono fun e' w' ⟨he, d', m, os, hp, hs, hw⟩ => ⟨he, d'.toList, ?_, fun i j hi hj => ?_, ?_⟩
  · have := hp.2.2
    have e1 : d'.extract 0 n = d' := by rw [show n = d'.size by rw [hp.1, hsn]]; simp
    have e2 : L.toArray.extract 0 n = L.toArray := by rw [← hsn]; simp
    rw [e1, e2] at this
    simpa using this
  · have hj' : j < n := by rw [← hsn, ← hp.1]; simpa using hj
    have := hs i j (by omega) hi hj'
    rw [lt_blk] at this
    have hjd : j < d'.size := by simpa using hj
    have hid : i < d'.size := by omega
    simp only [decide_eq_false_iff_not] at this
    simpa [hjd, hid] using this
  · rw [hw]
    exact ownB_sorted h d' (by rw [hp.1, hsn]) m os

end Go.Proofs.Ytoiiblajgkdabaa

namespace Go.Proofs.Ytoiiblajgkdabaa
set_option linter.unusedSimpArgs false
set_option linter.unusedVariables false
set_option maxRecDepth 100000
open Go.RowKit
set_option maxHeartbeats 4000000

theorem ins_nil (c : Value) (w : World) : Calls Try.prog 89 #[.slice none 0 0, .int .i64 0, .int .i64 0, c] w fun e w' => e = .returned (.tuple #[]) ∧ w = w' := by
  go_enter Try.func89, Try.ntmps89
  go_wp2_with (fail)
  go_loopw [8] (fun i wr => i = .int .i64 1 ∧ w = wr) (fun _ _ => 0)
  case atStart => exact ⟨rfl, rfl⟩
  case round =>
    obtain ⟨rfl, rfl⟩ := hrel
    go_wp2_with (fail)
    go_end0
    exact ⟨rfl, rfl⟩
theorem len64_nought (w : World) : Calls Try.prog 98 #[.int .u64 0] w fun e w' => e = .returned (.int .i64 0) ∧ w = w' := by
  go_enter Try.func98, Try.ntmps98
  go_wp2_with (fail)
  go_ret
  exact ⟨by show Ending.returned (Value.int .i64 (wrap64 (wrap64 (Lib.len8 0)))) = _; rw [show wrap64 (wrap64 (Lib.len8 0)) = 0 by decide +kernel], rfl⟩
theorem len_nought (w : World) : Calls Try.prog 79 #[.int .u64 0] w fun e w' => e = .returned (.int .i64 0) ∧ w = w' := by
  go_enter Try.func79, Try.ntmps79
  go_wp2_with (fail)
  refine (len64_nought _).mono ?_
  rintro e w' ⟨rfl, rfl⟩
  go_wp2_with (fail)
  go_ret
  exact ⟨rfl, rfl⟩
theorem pdq_nil (c : Value) (w : World) : Calls Try.prog 78 #[.slice none 0 0, .int .i64 0, .int .i64 0, .int .i64 0, c] w fun e w' => e = .returned (.tuple #[]) ∧ w = w' := by
  go_enter Try.func78, Try.ntmps78
  go_wp2_with (fail)
  go_loopw [1, 2] (fun a b wr => a = .int .i64 0 ∧ b = .int .i64 0 ∧ w = wr) (fun _ _ _ => 0)
  case atStart => exact ⟨rfl, rfl, rfl⟩
  case round =>
    obtain ⟨rfl, rfl, rfl⟩ := hrel
    go_wp2_with (fail)
    refine (ins_nil _ _).mono ?_
    rintro e w' ⟨rfl, rfl⟩
    go_wp2_with (fail)
    exact bodyPost_ret (results_none rfl _ _ _) rfl ⟨rfl, rfl⟩
theorem sort_nil (c : Value) (w : World) : Calls Try.prog 50 #[.slice none 0 0, c] w fun e w' => e = .returned (.tuple #[]) ∧ w = w' := by
  go_enter Try.func50, Try.ntmps50
  go_wp2_with (fail)
  refine (len_nought _).mono ?_
  rintro e w' ⟨rfl, rfl⟩
  go_wp2_with (fail)
  refine (pdq_nil _ _).mono ?_
  rintro e w' ⟨rfl, rfl⟩
  go_wp2_with (fail)
  go_end0
  exact ⟨rfl, rfl⟩

end Go.Proofs.Ytoiiblajgkdabaa

namespace Go.Proofs.Ytoiiblajgkdabaa
set_option linter.unusedSimpArgs false
set_option linter.unusedVariables false
set_option maxRecDepth 100000
open Go.RowKit

/-- A slice's value whose cells are known. -/
def Src (w : World) (size : Nat) (v : Value) (m : Nat) (xs : List Value) : Prop :=
  xs.length = m * size ∧ ((v = .slice none 0 0 ∧ m = 0) ∨ ∃ b o c, v = .slice (some ⟨b, o, none⟩) m c ∧ (∀ j u, xs[j]? = some u → w.cell? ⟨b, o + j, none⟩ = some u) ∧ (0 < xs.length → b < w.heap.size))
theorem Src.below {w w' : World} {size m : Nat} {v : Value} {xs : List Value} (h : Src w size v m xs) (hb : Below w.heap.size w w') : Src w' size v m xs := by
  refine ⟨h.1, ?_⟩
  rcases h.2 with h | ⟨b, o, c, hv, hc, hl⟩
  · exact Or.inl h
  · exact Or.inr ⟨b, o, c, hv, fun j u hj => by
      have hlt := hl (by have := (List.getElem?_eq_some_iff.1 hj).1; omega)
      rw [hb.cell (p := ⟨b, o + j, none⟩) hlt]; exact hc j u hj, fun h0 => Nat.lt_of_lt_of_le (hl h0) hb.size⟩
theorem Src.keep {w w' : World} {size m : Nat} {v : Value} {xs : List Value} (h : Src w size v m xs) (hb : ∀ b, v.ownBlock = some b → b < w.heap.size → w'.heap[b]? = w.heap[b]?) (hs : w.heap.size ≤ w'.heap.size) : Src w' size v m xs := by
  refine ⟨h.1, ?_⟩
  rcases h.2 with h | ⟨b, o, c, rfl, hc, hl⟩
  · exact Or.inl h
  · exact Or.inr ⟨b, o, c, rfl, fun j u hj => by
      have hlt := hl (by have := (List.getElem?_eq_some_iff.1 hj).1; omega)
      rw [cell_of_heap (hb b rfl hlt)]; exact hc j u hj, fun h0 => Nat.lt_of_lt_of_le (hl h0) hs⟩
theorem Src.own {w : World} {base e size n : Nat} {v : Value} {xs : List Value} (h : w.ownsRow base e size v n xs) : Src w size v n xs := by
  refine ⟨h.1, ?_⟩
  rcases h.2 with h2 | ⟨g, cap, cur, rfl, hg, hh, r⟩
  · exact Or.inl h2
  · refine Or.inr ⟨g, 0, cap, rfl, fun j u hj => ?_, fun _ => ?_⟩
    · have hl := (List.getElem?_eq_some_iff.1 hj).1
      rw [Nat.zero_add, World.ownsRow.cellAt h j (by have := h.1; omega)]; exact hj
    · exact (World.ownsRow.lt h g rfl).2
theorem Src.take {w : World} {size n c : Nat} {a : Option Addr} {xs : List Value} (h : Src w size (.slice a n c) n xs) (k : Nat) (hk : k ≤ n) (hn : 0 < n) : Src w size (.slice a k c) k (xs.take (k * size)) := by
  refine ⟨by rw [List.length_take, h.1]; exact Nat.min_eq_left (Nat.mul_le_mul_right _ hk), ?_⟩
  rcases h.2 with ⟨_, h2⟩ | ⟨b, o, c', hv, hc, hl⟩
  · omega
  · simp only [Value.slice.injEq] at hv
    obtain ⟨rfl, -, rfl⟩ := hv
    refine Or.inr ⟨b, o, c, rfl, fun j u hj => hc j u ?_, fun h0 => hl (by rw [List.length_take] at h0; omega)⟩
    have hl := (List.getElem?_eq_some_iff.1 hj).1
    rw [List.getElem?_take_of_lt (by rw [List.length_take] at hl; omega)] at hj
    exact hj
theorem Src.drop {w : World} {size n c b o : Nat} {xs : List Value} (h : Src w size (.slice (some ⟨b, o, none⟩) n c) n xs) (k : Nat) (hk : k ≤ n) : Src w size (.slice (some ⟨b, o + k * size, none⟩) (n - k) (c - k)) (n - k) (xs.drop (k * size)) := by
  refine ⟨by rw [List.length_drop, h.1, Nat.sub_mul], ?_⟩
  rcases h.2 with ⟨h1, _⟩ | ⟨b', o', c', hv, hc, hl⟩
  · cases h1
  · simp only [Value.slice.injEq, Option.some.injEq, Addr.mk.injEq] at hv
    obtain ⟨⟨rfl, rfl, -⟩, -, rfl⟩ := hv
    refine Or.inr ⟨b, o + k * size, _, rfl, fun j u hj => ?_, fun h0 => hl (by rw [List.length_drop] at h0; omega)⟩
    rw [List.getElem?_drop] at hj
    rw [Nat.add_assoc]; exact hc _ _ hj
theorem Src.nil {w : World} {size : Nat} (a : Option Addr) (c b o : Nat) : Src w size (.slice (some ⟨b, o, none⟩) 0 c) 0 [] := ⟨by simp, Or.inr ⟨b, o, c, rfl, fun j u h => by simp at h, fun h => by simp at h⟩⟩

section
variable {P : Program} {w : World}
theorem run_app (base : Nat) (t ty e : TypeId) (i : TypeInfo) (z : Value) (size bytes : Nat) (ht : P.underlying t = some (.slice e)) (hi : P.info? e = some i) (hz : i.zero = some z)
    (hsize : i.size = size) (hby : i.bytes = bytes) (hzs : z.cells.size = size) (hsz : 0 < size) (v : Value) (n : Nat) (xs : List Value) (hown : w.ownsRow base e size v n xs)
    (x : Value) (m : Nat) (news : List Value) (hr : Src w size x m news) (h1 : ∀ u ∈ news, u.oneCell' = true) (h63 : n + m ≤ maxLen) (hbytes : (n + m) * bytes ≤ 140737488355328) (hbase : base ≤ w.heap.size) :
    ∃ v' w', (Builtin.append_ #[t, t] ty #[v, x]).run P w = .ok v' w' ∧ w'.ownsRow base e size v' (n + m) (xs ++ news) ∧ w.grownBy w' v.ownBlock ∧ (v'.ownBlock = v.ownBlock ∨ v'.ownBlock = some w.heap.size) := by
  rcases hr.2 with ⟨rfl, rfl⟩ | ⟨b, o, c, rfl, hc, _⟩
  · have hn : news = [] := List.eq_nil_of_length_eq_zero (by simpa using hr.1)
    subst hn
    exact ⟨v, w, run_append_owned_none (P := P) (w := w) base t ty e i size ht hi v n xs hown, by simpa using hown, World.grownBy.refl w _, Or.inl rfl⟩
  · obtain ⟨v', w', hrun, h2, h3, _, h5⟩ := run_append_own_at (P := P) w base t ty e i z size bytes ht hi hz hsize hby hzs hsz v n xs hown ⟨b, o, none⟩ m c news hr.1 (fun j u hj => by
      have : (⟨b, o, none⟩ : Addr).add j = ⟨b, o + j, none⟩ := by unfold Addr.add; split <;> simp_all
      rw [this]; exact hc j u hj) h1 h63 hbytes hbase
    exact ⟨v', w', hrun, h2, h3, h5⟩

/-- What is known behind an append onto a row of the call's own. -/
structure Appd (w w' : World) (base e size : Nat) (v v' : Value) (n : Nat) (xs : List Value) : Prop where
  own : w'.ownsRow base e size v' n xs
  grown : w.grownBy w' v.ownBlock
  at_ : v'.ownBlock = v.ownBlock ∨ v'.ownBlock = some w.heap.size
  ge : ∀ k, v.ownBlock = some k → base ≤ k
theorem Appd.on {w0 w w' : World} {base e size n : Nat} {v v' : Value} {xs : List Value} (h : Appd w w' base e size v v' n xs) (hb : Below base w0 w) (hB : base ≤ w.heap.size) : Below base w0 w' :=
  hb.grown h.grown hB h.ge
theorem Appd.below {B : Nat} {w0 w w' : World} {base e size n : Nat} {v v' : Value} {xs : List Value} (h : Appd w w' base e size v v' n xs) (hb : Below B w0 w) (hB : B ≤ w.heap.size) (hv : ∀ k, v.ownBlock = some k → B ≤ k) : Below B w0 w' :=
  hb.grown h.grown hB hv

theorem wp_app {o : Oper} {a : Act} {K : Act → World → Prop} {Q : Exit → Act → World → Prop} (s x : Operand) (t : TypeId)
    (ho : o.op = .call { callee := .builtin .append, args := #[s, x], argTypes := #[t, t] })
    (base : Nat) (e : TypeId) (i : TypeInfo) (z : Value) (size bytes : Nat) (ht : P.underlying t = some (.slice e)) (hi : P.info? e = some i) (hz : i.zero = some z)
    (hsize : i.size = size) (hby : i.bytes = bytes) (hzs : z.cells.size = size) (hsz : 0 < size)
    (v : Value) (n : Nat) (xs : List Value) (hs : a.eval s = v) (hown : w.ownsRow base e size v n xs)
    (y : Value) (m : Nat) (news : List Value) (hx : a.eval x = y) (hr : Src w size y m news) (h1 : ∀ u ∈ news, u.oneCell' = true)
    (h63 : n + m ≤ maxLen) (hbytes : (n + m) * bytes ≤ 140737488355328) (hbase : base ≤ w.heap.size)
    (h : ∀ v' w', Appd w w' base e size v v' (n + m) (xs ++ news) → K (a.put o.dst v') w') : o.wp P a w K Q := by
  obtain ⟨v', w', hrun, h2, h3, h4⟩ := run_app (P := P) (w := w) base t o.type e i z size bytes ht hi hz hsize hby hzs hsz v n xs hown y m news hr h1 h63 hbytes hbase
  unfold Oper.wp execOp
  simp only [ho, resolve, invoke, builtin, Sem.run_bind, Sem.run_pure, Result.andThen_ok, List.map_toArray, List.map_cons, List.map_nil, hs, hx, hrun]
  exact h v' w' ⟨h2, h3, h4, fun k hk => (World.ownsRow.lt hown k hk).1⟩
theorem list_app {ops : Array Oper} {rest : List Oper} {o : Oper} {a : Act} {Q : Exit → Act → World → Prop} (hgd : o.guard = none) (s x : Operand) (t : TypeId)
    (ho : o.op = .call { callee := .builtin .append, args := #[s, x], argTypes := #[t, t] })
    (base : Nat) (e : TypeId) (i : TypeInfo) (z : Value) (size bytes : Nat) (ht : P.underlying t = some (.slice e)) (hi : P.info? e = some i) (hz : i.zero = some z)
    (hsize : i.size = size) (hby : i.bytes = bytes) (hzs : z.cells.size = size) (hsz : 0 < size)
    (v : Value) (n : Nat) (xs : List Value) (hs : a.eval s = v) (hown : w.ownsRow base e size v n xs)
    (y : Value) (m : Nat) (news : List Value) (hx : a.eval x = y) (hr : Src w size y m news) (h1 : ∀ u ∈ news, u.oneCell' = true)
    (h63 : n + m ≤ maxLen) (hbytes : (n + m) * bytes ≤ 140737488355328) (hbase : base ≤ w.heap.size)
    (h : ∀ v' w', Appd w w' base e size v v' (n + m) (xs ++ news) → wpList P ops Q rest (a.put o.dst v') w') : wpList P ops Q (o :: rest) a w :=
  wpList_plain hgd fun _ hK => wp_app s x t ho base e i z size bytes ht hi hz hsize hby hzs hsz v n xs hs hown y m news hx hr h1 h63 hbytes hbase fun v' w' h2 => hK _ _ (h v' w' h2)
theorem step_app {ops : Array Oper} {o : Oper} {a : Act} {K : Act → World → Prop} {Q : Exit → Act → World → Prop} {E : Prop} (hgd : o.guard = none) (s x : Operand) (t : TypeId)
    (ho : o.op = .call { callee := .builtin .append, args := #[s, x], argTypes := #[t, t] })
    (base : Nat) (e : TypeId) (i : TypeInfo) (z : Value) (size bytes : Nat) (ht : P.underlying t = some (.slice e)) (hi : P.info? e = some i) (hz : i.zero = some z)
    (hsize : i.size = size) (hby : i.bytes = bytes) (hzs : z.cells.size = size) (hsz : 0 < size)
    (v : Value) (n : Nat) (xs : List Value) (hs : a.eval s = v) (hown : w.ownsRow base e size v n xs)
    (y : Value) (m : Nat) (news : List Value) (hx : a.eval x = y) (hr : Src w size y m news) (h1 : ∀ u ∈ news, u.oneCell' = true)
    (h63 : n + m ≤ maxLen) (hbytes : (n + m) * bytes ≤ 140737488355328) (hbase : base ≤ w.heap.size)
    (h : ∀ v' w', Appd w w' base e size v v' (n + m) (xs ++ news) → K (a.put o.dst v') w') :
    if Region.wanted o (yielded ops a.tmps) = true then Oper.wp P o a w K Q else E := by
  have hw : Region.wanted o (yielded ops a.tmps) = true := by simp [Region.wanted, hgd]
  rw [if_pos hw]
  exact wp_app s x t ho base e i z size bytes ht hi hz hsize hby hzs hsz v n xs hs hown y m news hx hr h1 h63 hbytes hbase h
end

end Go.Proofs.Ytoiiblajgkdabaa
