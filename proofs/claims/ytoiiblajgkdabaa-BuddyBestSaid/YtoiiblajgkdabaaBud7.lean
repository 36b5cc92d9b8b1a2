/- What Free of package buddy returns and writes. -/
import Derived.Test.YtoiiblajgkdabaaBud6
import Derived.Test.YtoiiblajgkdabaaScrub
namespace Go.Proofs.Ytoiiblajgkdabaa
set_option linter.unusedSimpArgs false
set_option linter.unusedVariables false
set_option maxRecDepth 100000
open Go.RowKit
set_option maxHeartbeats 4000000

theorem bud_xor : ∀ j : Nat, j < 8 → ∀ c : Nat, c < 256 → bits .xor .i64 ((c * 2 ^ j : Nat) : Int) ((2 ^ j : Nat) : Int) = ((budQ c * 2 ^ j : Nat) : Int) := by decide +kernel
theorem bud_not : ∀ j : Nat, j < 8 → ∀ c : Nat, c < 256 → bits .andNot .i64 ((c * 2 ^ j : Nat) : Int) ((2 ^ j : Nat) : Int) = ((c / 2 * 2 ^ (j + 1) : Nat) : Int) := by decide +kernel

/-- Two halves are one. -/
theorem join_eq {T : Nat → Prop} {c j : Nat} (h : QFull T (budQ c) j) : plusQ (minusQ T (budQ c) j) (c / 2) (j + 1) = plusQ T c j := by
  funext x
  apply propext
  unfold plusQ minusQ
  rw [div_one]
  constructor
  · rintro (⟨h1, _⟩ | h1)
    · exact Or.inl h1
    · rcases half_two c _ h1 with e | e
      · exact Or.inr e
      · exact Or.inl (h x e)
  · rintro (h1 | h1)
    · by_cases e : x / 2 ^ j = budQ c
      · right; rw [e, budQ_half]
      · exact Or.inl ⟨h1, e⟩
    · right; rw [h1]
theorem join_dis {T : Nat → Prop} {c j : Nat} (h : ∀ x, x / 2 ^ j = c → ¬ T x) : ∀ x, x / 2 ^ (j + 1) = c / 2 → ¬ minusQ T (budQ c) j x := fun x hx h1 => by
  rw [div_one] at hx
  rcases half_two c _ hx with e | e
  · exact h x e h1.1
  · exact h1.2 e
theorem full_fit {T : Nat → Prop} {c j n : Nat} (h : ∀ x, T x → x < n) (hq : QFull T c j) : (c + 1) * 2 ^ j ≤ n := by
  have h0 := Nat.two_pow_pos j
  have h1 := h _ (hq (c * 2 ^ j + (2 ^ j - 1)) (by rw [Nat.add_comm, Nat.add_mul_div_right _ _ h0, Nat.div_eq_of_lt (by omega)]; omega))
  rw [Nat.add_mul]; omega
theorem join_fit {c j n : Nat} (h : (budQ c + 1) * 2 ^ j ≤ n) (h' : (c + 1) * 2 ^ j ≤ n) : (c / 2 + 1) * 2 ^ (j + 1) ≤ n := by
  rw [Nat.pow_succ, Nat.mul_comm (2 ^ j) 2, ← Nat.mul_assoc]
  have hb : (c / 2 + 1) * 2 = c + 1 ∨ (c / 2 + 1) * 2 = budQ c + 1 := by unfold budQ; split <;> omega
  rcases hb with e | e <;> rw [e] <;> assumption

theorem list_look {ops : Array Oper} {rest : List Oper} {o : Oper} {a : Act} {Q : Exit → Act → World → Prop} {pb pm : Nat} {T : Nat → Prop} {H : List Blk} {g w : World} {R : HP} (h : Sat g w (midP pb pm T H * R)) (hgd : o.guard = none) (m k : Operand)
    (ho : o.op = .lookup 90 m k false) (hb : Nat) (hcm : w.cell? ⟨pb, 10, none⟩ = some (.map (some hb))) (hm : a.eval m = .map (some hb)) (x : Blk) (hk : a.eval k = encB x) (v : Bool) (hv : decide (x ∈ H) = v)
    (hK : wpList Try.prog ops Q rest (a.put o.dst (.bool v)) w) : wpList Try.prog ops Q (o :: rest) a w := by
  obtain ⟨hb', V, F, hi, _, _, _⟩ := h.mid
  have e := hi.cm
  rw [hcm] at e
  simp only [Option.some.injEq, Value.map.injEq] at e
  subst e
  have hr := run_lookB hi.held x
  rw [hv] at hr
  refine wpList_plain hgd fun K hK' => ?_
  unfold Oper.wp
  simp only [execOp, ho, hm, hk]
  simp [hr, Result.andThen]
  exact hK' _ _ hK
theorem list_del {ops : Array Oper} {rest : List Oper} {o : Oper} {a : Act} {Q : Exit → Act → World → Prop} {pb pm : Nat} {T : Nat → Prop} {H : List Blk} {g w : World} {R : HP} (h : Sat g w (midP pb pm T H * R)) (hgd : o.guard = none) (hdst : o.dst = none) (m k : Operand)
    (ho : o.op = .call { callee := .builtin .delete, args := #[m, k], argTypes := #[90, 39] }) (hb : Nat) (hcm : w.cell? ⟨pb, 10, none⟩ = some (.map (some hb))) (hm : a.eval m = .map (some hb)) (x : Blk) (hk : a.eval k = encB x) (hx : x ∈ H)
    (hK : ∀ w', Sat g w' (midP pb pm T (H.erase x) * R) → wpList Try.prog ops Q rest a w') : wpList Try.prog ops Q (o :: rest) a w := by
  obtain ⟨hb', V, F, hi, hc, hs, back⟩ := h.mid
  have e := hi.cm
  rw [hcm] at e
  simp only [Option.some.injEq, Value.map.injEq] at e
  subst e
  obtain ⟨w', hr, hm', ht⟩ := run_delB (ty := o.type) hi.held x hx
  refine wpList_plain hgd fun K hK' => ?_
  unfold Oper.wp
  simp [execOp, ho, resolve, invoke, builtin, hm, hk, hr, Result.andThen]
  have e : a.put o.dst (.tuple #[]) = a := by rw [hdst]; rfl
  exact hK' _ _ (by rw [e]; exact hK w' (back _ _ _ _ (hi.lay ht hm') hc hs))

theorem s_scrub (pm n : Nat) (W : Nat → Int) (f m : Nat) (g w : World) (R : HP) (h : Sat g w (memP pm n W * R)) (h1 : 1 ≤ m) (h2 : f + m ≤ n) :
    Calls Try.prog 54 #[.pointer (some ⟨pm, 0, none⟩), .int .i64 f, .int .i64 m] w fun e w' => e = .returned (.int .i64 0) ∧ Sat g w' (memP pm n (scrubW W f m) * R) := by
  obtain ⟨bk, hm, _, back⟩ := h.mem
  exact (scrub_yes pm bk n W f m w hm h1 h2).mono fun e w' ⟨he, h1, h2⟩ => ⟨he, back _ _ h2 h1⟩

theorem s_free_no (pb pm : Nat) (T : Nat → Prop) (H : List Blk) (f o : Int) (g w : World) (R : HP) (h : Sat g w (midP pb pm T H * R)) (hn : (f, o) ∉ H) :
    Calls Try.prog 20 #[.pointer (some ⟨pb, 0, none⟩), .int .i64 f, .int .i64 o] w fun e w' => e = .returned (.int .i64 2) ∧ Sat g w' (midP pb pm T H * R) := by
  have h1 : Sat g (w.alloc (.cells #[.int .i64 f, .int .i64 o] 39)) (xP w.heap.size f o * (midP pb pm T H * R)) := h.x_new f o _
  have H1 := Lib.hid h1
  have hd : decide ((f, o) ∈ H) = false := by simpa using hn
  clear h1
  go_enter Try.func20, Try.ntmps20
  go_wp2_with (fail)
  have h1 := H1.out
  obtain ⟨xb, hxb⟩ : ∃ xb, xb = w.heap.size := ⟨_, rfl⟩
  obtain ⟨w2, hw2⟩ : ∃ w2, w2 = w.alloc (.cells #[.int .i64 f, .int .i64 o] 39) := ⟨_, rfl⟩
  rw [← hxb, ← hw2] at h1
  rw [← hxb, ← hw2]
  clear hxb hw2 H1
  have S8 := h1.drew
  have q0 : ∀ p : Wc (fun w' => w2.drew = w'), p.w.cell? ⟨xb, 0, none⟩ = some (.int .i64 f) := fun p => by rw [← p.h]; exact S8.inv.c0
  have q1 : ∀ p : Wc (fun w' => w2.drew = w'), p.w.cell? ⟨xb, 1, none⟩ = some (.int .i64 o) := fun p => by rw [← p.h]; exact S8.inv.c1
  obtain ⟨hb, _, _, _, _, _, _, g10, _, _⟩ := S8.swap.mid_read
  have q2 : ∀ p : Wc (fun w' => w2.drew = w'), p.w.cell? ⟨pb, 10, none⟩ = some (.map (some hb)) := fun p => by rw [← p.h]; exact g10
  refine region_tail (fun w' => w2.drew = w') 5 (by kernel_rfl) (by kernel_rfl) rfl ?_
  intro _
  simp only [List.take_succ_cons, List.take_zero, List.drop_succ_cons, List.drop_zero]
  (repeat (first | go_big_quiet_step (fail) | quiet_step (fail)))
  refine wpQuiet_nil ?_
  rintro _ rfl
  clear q0 q1 q2
  refine list_look S8.swap (by rfl) _ _ (by rfl) hb g10 (by rfl) (f, o) (by rfl) false hd ?_
  go_wp2_with (fail)
  go_ret
  exact ⟨rfl, S8.right⟩

theorem s_free (pb pm n : Nat) (T : Nat → Prop) (H : List Blk) (W : Nat → Int) (a o f : Nat) (g w : World) (R : HP) (h : Sat g w (midP pb pm T H * (memP pm n W * R))) (ho : o ≤ 8) (hf : f = a * 2 ^ o) (ha : (a + 1) * 2 ^ o ≤ n)
    (hin : ((f : Int), (o : Int)) ∈ H) (hdis : ∀ x, x / 2 ^ o = a → ¬ T x) (hT : ∀ x, T x → x < n) :
    Calls Try.prog 20 #[.pointer (some ⟨pb, 0, none⟩), .int .i64 f, .int .i64 o] w fun e w' => e = .returned (.int .i64 0) ∧ Sat g w' (midP pb pm (plusQ T a o) (H.erase ((f : Int), (o : Int))) * (memP pm n (scrubW W f (2 ^ o)) * R)) := by
  have h1 : Sat g (w.alloc (.cells #[.int .i64 f, .int .i64 o] 39)) (xP w.heap.size f o * (midP pb pm T H * (memP pm n W * R))) := h.x_new f o _
  have H1 := Lib.hid h1
  have hd : decide (((f : Int), (o : Int)) ∈ H) = true := by simpa using hin
  obtain ⟨n1, n2⟩ : 1 ≤ n ∧ n ≤ 256 := h.swap.mem_n
  have HF := Lib.hid hf
  clear h1 hf
  go_enter Try.func20, Try.ntmps20
  go_wp2_with (fail)
  have h1 := H1.out
  obtain ⟨xb, hxb⟩ : ∃ xb, xb = w.heap.size := ⟨_, rfl⟩
  obtain ⟨w2, hw2⟩ : ∃ w2, w2 = w.alloc (.cells #[.int .i64 f, .int .i64 o] 39) := ⟨_, rfl⟩
  rw [← hxb, ← hw2] at h1
  rw [← hxb, ← hw2]
  clear hxb hw2 H1
  have S8 := h1.drew
  have q0 : ∀ p : Wc (fun w' => w2.drew = w'), p.w.cell? ⟨xb, 0, none⟩ = some (.int .i64 f) := fun p => by rw [← p.h]; exact S8.inv.c0
  have q1 : ∀ p : Wc (fun w' => w2.drew = w'), p.w.cell? ⟨xb, 1, none⟩ = some (.int .i64 o) := fun p => by rw [← p.h]; exact S8.inv.c1
  obtain ⟨hb, _, _, _, _, _, _, g10, _, _⟩ := S8.swap.mid_read
  have q2 : ∀ p : Wc (fun w' => w2.drew = w'), p.w.cell? ⟨pb, 10, none⟩ = some (.map (some hb)) := fun p => by rw [← p.h]; exact g10
  refine region_tail (fun w' => w2.drew = w') 5 (by kernel_rfl) (by kernel_rfl) rfl ?_
  intro _
  simp only [List.take_succ_cons, List.take_zero, List.drop_succ_cons, List.drop_zero]
  (repeat (first | go_big_quiet_step (fail) | quiet_step (fail)))
  refine wpQuiet_nil ?_
  rintro _ rfl
  clear q0 q1 q2
  refine list_look S8.swap (by rfl) _ _ (by rfl) hb g10 (by rfl) ((f : Int), (o : Int)) (by rfl) true hd ?_
  go_wp2_with (fail)
  obtain ⟨w3, hw3⟩ : ∃ w3, w3 = w2.drew := ⟨_, rfl⟩
  rw [← hw3] at S8 ⊢
  clear hw3 h1 g10
  have S9 := S8.drew
  have q0 : ∀ p : Wc (fun w' => w3.drew = w'), p.w.cell? ⟨xb, 0, none⟩ = some (.int .i64 f) := fun p => by rw [← p.h]; exact S9.inv.c0
  have q1 : ∀ p : Wc (fun w' => w3.drew = w'), p.w.cell? ⟨xb, 1, none⟩ = some (.int .i64 o) := fun p => by rw [← p.h]; exact S9.inv.c1
  obtain ⟨hb, _, _, _, _, _, _, g10, _, _⟩ := S9.swap.mid_read
  have q2 : ∀ p : Wc (fun w' => w3.drew = w'), p.w.cell? ⟨pb, 10, none⟩ = some (.map (some hb)) := fun p => by rw [← p.h]; exact g10
  refine region_tail (fun w' => w3.drew = w') 5 (by kernel_rfl) (by kernel_rfl) rfl ?_
  intro _
  simp only [List.take_succ_cons, List.take_zero, List.drop_succ_cons, List.drop_zero]
  (repeat (first | go_big_quiet_step (fail) | quiet_step (fail)))
  refine wpQuiet_nil ?_
  rintro _ rfl
  clear q0 q1 q2
  refine list_del S9.swap (by rfl) (by rfl) _ _ (by rfl) hb g10 (by rfl) ((f : Int), (o : Int)) (by rfl) hin fun w4 S10 => ?_
  obtain ⟨P, hP⟩ : ∃ P : Nat, 2 ^ o = P := ⟨_, rfl⟩
  have hPz : (2 : Int) ^ o = (P : Int) := by rw [← hP]; push_cast; rfl
  have hP1 : 1 ≤ P := by rw [← hP]; exact Nat.two_pow_pos o
  have hfP : f + P ≤ n := by rw [HF.out, ← hP]; rw [Nat.add_mul] at ha; omega
  have hwP : IntKind.i64.wrap (P : Int) = (P : Int) := IntWalk.i64_in _ ⟨by omega, by omega⟩
  have o0 : (0 : Int) ≤ (o : Int) := by omega
  have o64 : (o : Int) ≤ 64 := by omega
  have HP := Lib.hid hP
  clear hP S9 S8 g10
  go_wp2_with (fail)
  have S11 := S10.drew
  obtain ⟨_, _, _, _, _, _, g0, _, _, _⟩ := S11.mid_read
  have q0 : ∀ p : Wc (fun w' => w4.drew = w'), p.w.cell? ⟨pb, 0, none⟩ = some (.pointer (some ⟨pm, 0, none⟩)) := fun p => by rw [← p.h]; exact g0
  refine region_tail (fun w' => w4.drew = w') 7 (by kernel_rfl) (by kernel_rfl) rfl ?_
  intro _
  simp only [List.take_succ_cons, List.take_zero, List.drop_succ_cons, List.drop_zero]
  (repeat (first | go_big_quiet_step (fail) | quiet_step (fail)))
  refine wpQuiet_nil ?_
  rintro _ rfl
  clear q0 g0
  have S12 : Sat g w4.drew (memP pm n W * (midP pb pm T (H.erase ((f : Int), (o : Int))) * (xP xb f o * R))) := S11.up3
  clear S11 S10
  go_wp2_with (fail)
  refine (s_scrub pm n W f P g _ _ S12 hP1 hfP).mono ?_
  rintro e w5 ⟨rfl, S13⟩
  have S14 : Sat g w5 (xP xb f o * (midP pb pm T (H.erase ((f : Int), (o : Int))) * (memP pm n (scrubW W f P) * R))) := S13.perm (by ac_rfl)
  clear S13 S12
  go_wp2_with (fail)
  go_loopw [] (fun wr => ∃ (j c : Nat) (T' : Nat → Prop), o ≤ j ∧ j ≤ 8 ∧ Hid (plusQ T' c j = plusQ T a o) ∧ Hid (∀ x, x / 2 ^ j = c → ¬ T' x) ∧ Hid ((c + 1) * 2 ^ j ≤ n) ∧ Hid (∀ x, T' x → x < n) ∧ Sat g wr (xP xb ((c * 2 ^ j : Nat) : Int) j * (midP pb pm T' (H.erase ((f : Int), (o : Int))) * (memP pm n (scrubW W f P) * R)))) (fun wr => 8 - (intOf ((wr.cell? ⟨xb, 1, none⟩).getD undef)).toNat)
  case atStart => exact ⟨o, a, T, by omega, by omega, Lib.hid rfl, Lib.hid hdis, Lib.hid ha, Lib.hid hT, by rw [← HF.out]; exact S14⟩
  case round =>
    obtain ⟨j, c, T', hj1, hj2, HEQ, HDIS, HFIT, HT', S1⟩ := hrel
    clear S14
    obtain ⟨Q, hQ⟩ : ∃ Q : Nat, 2 ^ j = Q := ⟨_, rfl⟩
    obtain ⟨F, hF⟩ : ∃ F : Nat, c * 2 ^ j = F := ⟨_, rfl⟩
    rw [hF] at S1
    have hQz : (2 : Int) ^ j = (Q : Int) := by rw [← hQ]; push_cast; rfl
    have hQ1 : 1 ≤ Q := by rw [← hQ]; exact Nat.two_pow_pos j
    have hFQ : F + Q ≤ n := by have := HFIT.out; rw [Nat.add_mul, hF, hQ] at this; omega
    have hc256 : c < 256 := by
      have h1 := HFIT.out
      rw [hQ] at h1
      have h2 : (c + 1) * 1 ≤ (c + 1) * Q := Nat.mul_le_mul_left _ hQ1
      omega
    have HQ := Lib.hid hQ
    have HFF := Lib.hid hF
    have HM0 : Hid ((intOf ((wr.cell? ⟨xb, 1, none⟩).getD undef)).toNat = j) := Lib.hid (by rw [S1.inv.c1]; simp [intOf])
    have hwq : IntKind.i64.wrap (Q : Int) = (Q : Int) := IntWalk.i64_in _ ⟨by omega, by omega⟩
    have j0 : (0 : Int) ≤ (j : Int) := by omega
    have j64 : (j : Int) ≤ 64 := by omega
    have S2 := S1.drew
    have q0 : ∀ p : Wc (fun w' => wr.drew = w'), p.w.cell? ⟨xb, 0, none⟩ = some (.int .i64 F) := fun p => by rw [← p.h]; exact S2.inv.c0
    have q1 : ∀ p : Wc (fun w' => wr.drew = w'), p.w.cell? ⟨xb, 1, none⟩ = some (.int .i64 j) := fun p => by rw [← p.h]; exact S2.inv.c1
    by_cases h8 : j < 8
    · have hd8 : decide ((j : Int) < 8) = true := by simp; omega
      have hxor : bits .xor .i64 (F : Int) (Q : Int) = ((budQ c * 2 ^ j : Nat) : Int) := by rw [← hF, ← hQ]; exact bud_xor j h8 c hc256
      obtain ⟨B, hB⟩ : ∃ B : Nat, budQ c * 2 ^ j = B := ⟨_, rfl⟩
      rw [hB] at hxor
      have HB := Lib.hid hB
      clear hQ hF hB
      by_cases hful : QFull T' (budQ c) j
      · have hnot : bits .andNot .i64 (F : Int) (Q : Int) = ((c / 2 * 2 ^ (j + 1) : Nat) : Int) := by rw [← HFF.out, ← HQ.out]; exact bud_not j h8 c hc256
        obtain ⟨D, hD⟩ : ∃ D : Nat, c / 2 * 2 ^ (j + 1) = D := ⟨_, rfl⟩
        rw [hD] at hnot
        have HD := Lib.hid hD
        have HFUL := Lib.hid hful
        clear hD hful
        go_wp2_with (fail)
        refine region_tail (fun w' => wr.drew = w') 14 (by kernel_rfl) (by kernel_rfl) rfl ?_
        intro _
        simp only [List.take_succ_cons, List.take_zero, List.drop_succ_cons, List.drop_zero]
        (repeat (first | go_big_quiet_step (fail) | quiet_step (fail)))
        refine wpQuiet_nil ?_
        rintro _ rfl
        clear q0 q1
        go_wp2_with (fail)
        refine (s_btake pb pm T' (H.erase ((f : Int), (o : Int))) (budQ c) j (B : Int) g _ _ S2.swap (by rw [HB.out]) hj2 ((bud_can h8 HDIS.out).1 HFUL.out)).mono ?_
        rintro e w6 ⟨rfl, S3⟩
        have S4 := S3.swap
        go_wp2_with (fail)
        have S5 := S4.drew
        have q0 : ∀ p : Wc (fun w' => w6.drew = w'), p.w.cell? ⟨xb, 0, none⟩ = some (.int .i64 F) := fun p => by rw [← p.h]; exact S5.inv.c0
        have q1 : ∀ p : Wc (fun w' => w6.drew = w'), p.w.cell? ⟨xb, 1, none⟩ = some (.int .i64 j) := fun p => by rw [← p.h]; exact S5.inv.c1
        refine region_tail (fun w' => w6.drew = w') 6 (by kernel_rfl) (by kernel_rfl) rfl ?_
        intro _
        simp only [List.take_succ_cons, List.take_zero, List.drop_succ_cons, List.drop_zero]
        (repeat (first | go_big_quiet_step (fail) | quiet_step (fail)))
        refine wpQuiet_nil ?_
        rintro _ rfl
        clear q0 q1
        obtain ⟨w7, hw7⟩ : ∃ w7, w7 = w6.drew := ⟨_, rfl⟩
        rw [← hw7] at S5 ⊢
        clear hw7 S4 S3
        have xc0 := S5.inv.c0
        have xc1 := S5.inv.c1
        have xf0 := S5.inv.f0
        have xf1 := S5.inv.f1
        have hwj : IntKind.i64.wrap ((j : Int) + 1) = (j : Int) + 1 := IntWalk.i64_in _ ⟨by omega, by omega⟩
        have S6 := S5.x_set (w' := (w7.setCell ⟨xb, 0, none⟩ (.int .i64 D)).setCell ⟨xb, 1, none⟩ (.int .i64 ((j : Int) + 1))) ((x_touch xb 0 _).trans (x_touch xb 1 _)) ((S5.inv.set0 D).set1 ((j : Int) + 1))
        go_wp2_with (fail)
        go_roundw
        case rel =>
          exact ⟨j + 1, c / 2, minusQ T' (budQ c) j, by omega, by omega, Lib.hid ((join_eq HFUL.out).trans HEQ.out), Lib.hid (join_dis HDIS.out), Lib.hid (join_fit (full_fit HT'.out HFUL.out) HFIT.out), Lib.hid (fun x hx => HT'.out x hx.1), (by rw [HD.out]; push_cast; exact S6)⟩
        case measure =>
          have hc := S6.inv.c1
          rw [HM0.out, hc]
          simp [intOf]; omega
      · have HNF := Lib.hid hful
        clear hful
        go_wp2_with (fail)
        refine region_tail (fun w' => wr.drew = w') 14 (by kernel_rfl) (by kernel_rfl) rfl ?_
        intro _
        simp only [List.take_succ_cons, List.take_zero, List.drop_succ_cons, List.drop_zero]
        (repeat (first | go_big_quiet_step (fail) | quiet_step (fail)))
        refine wpQuiet_nil ?_
        rintro _ rfl
        clear q0 q1
        go_wp2_with (fail)
        refine (s_btake_no pb pm T' (H.erase ((f : Int), (o : Int))) (budQ c) j (B : Int) g _ _ S2.swap (by rw [HB.out]) hj2 (fun hq => HNF.out hq.1)).mono ?_
        rintro e w6 ⟨rfl, hb6⟩
        have S4 := S2.below hb6
        have xc0 := S4.inv.c0
        have xc1 := S4.inv.c1
        go_wp2_with (fail)
        refine (s_bput pb pm T' (H.erase ((f : Int), (o : Int))) c j (F : Int) g _ _ S4.swap (by rw [HFF.out]) hj2 (Nat.le_trans HFIT.out n2) HDIS.out (fun _ => HNF.out)).mono ?_
        rintro e w7 ⟨rfl, S5⟩
        go_wp2_with (fail)
        go_ret
        rw [HEQ.out, ← HP.out] at S5
        exact ⟨rfl, S5.swap.right⟩
    · have hd8 : decide ((j : Int) < 8) = false := by simp; omega
      clear hQ hF
      go_wp2_with (fail)
      refine region_tail (fun w' => wr.drew = w') 14 (by kernel_rfl) (by kernel_rfl) rfl ?_
      intro _
      simp only [List.take_succ_cons, List.take_zero, List.drop_succ_cons, List.drop_zero]
      (repeat (first | go_big_quiet_step (fail) | quiet_step (fail)))
      refine wpQuiet_nil ?_
      rintro _ rfl
      clear q0 q1
      have xc0 := S2.inv.c0
      have xc1 := S2.inv.c1
      go_wp2_with (fail)
      refine (s_bput pb pm T' (H.erase ((f : Int), (o : Int))) c j (F : Int) g _ _ S2.swap (by rw [HFF.out]) hj2 (Nat.le_trans HFIT.out n2) HDIS.out (fun h => absurd h h8)).mono ?_
      rintro e w7 ⟨rfl, S5⟩
      go_wp2_with (fail)
      go_ret
      rw [HEQ.out, ← HP.out] at S5
      exact ⟨rfl, S5.swap.right⟩

end Go.Proofs.Ytoiiblajgkdabaa
