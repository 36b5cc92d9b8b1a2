/- The ports of package wires: made, send, recv. -/
import Derived.Test.YtffacjbnjcolgaaSamp
import Derived.Test.YtffacjbnjcolgaaQueue
namespace Go.Proofs.Ytffacjbnjcolgaa
set_option linter.unusedSimpArgs false
set_option linter.unusedVariables false
set_option maxRecDepth 100000
open Go.RowKit
set_option maxHeartbeats 4000000

inductive PortS where
  | samp (m : Option (List Int × Int))
  | queue (l : List (List Int))
def portV : PortS → Nat → Value
  | .samp _, p => .iface 83 (.agg #[.pointer (some ⟨p, 0, none⟩)])
  | .queue _, p => .iface 88 (.agg #[.pointer (some ⟨p, 0, none⟩)])
def portP (p : Nat) : PortS → HP
  | .samp m => sampP p m
  | .queue l => quP p l
theorem portV_is (x : PortS) (p : Nat) : ∃ t, portV x p = .iface t (.agg #[.pointer (some ⟨p, 0, none⟩)]) := by cases x <;> exact ⟨_, rfl⟩
def newPort (kind : Int) : Option PortS := if kind = 0 then some (.samp none) else if kind = 1 then some (.queue []) else none
theorem s_made (kind : Int) (x : PortS) (g w : World) (R : HP) (h : Sat g w R) (hk : newPort kind = some x) :
    Calls Try.prog 23 #[.int .i64 kind] w fun e w' => ∃ p, e = .returned (.tuple #[portV x p, .int .i64 0]) ∧ Sat g w' (portP p x * R) := by
  unfold newPort at hk
  by_cases h0 : kind = 0
  · subst h0
    rw [if_pos rfl] at hk
    cases hk
    go_enter Try.func23, Try.ntmps23
    go_wp2_with (fail)
    refine (s_sampnew g _ _ h).mono ?_
    rintro e w1 ⟨ps, rfl, S1⟩
    go_wp2_with (fail)
    go_ret2
    exact ⟨ps, rfl, S1⟩
  · rw [if_neg h0] at hk
    by_cases h1 : kind = 1
    · subst h1
      rw [if_pos rfl] at hk
      cases hk
      go_enter Try.func23, Try.ntmps23
      go_wp2_with (fail)
      refine (s_qunew g _ _ h).mono ?_
      rintro e w1 ⟨ps, rfl, S1⟩
      go_wp2_with (fail)
      go_ret2
      exact ⟨ps, rfl, S1⟩
    · rw [if_neg h1] at hk; cases hk
theorem made_no (kind : Int) (w : World) (hk : newPort kind = none) : Calls Try.prog 23 #[.int .i64 kind] w fun e w' => e = .returned (.tuple #[.nilIface, .int .i64 1]) ∧ w = w' := by
  have h0 : (kind == 0) = false := by rw [beq_eq_false_iff_ne]; intro h; rw [h] at hk; simp [newPort] at hk
  have h1 : (kind == 1) = false := by rw [beq_eq_false_iff_ne]; intro h; rw [h] at hk; simp [newPort] at hk
  clear hk
  go_enter Try.func23, Try.ntmps23
  go_wp2_with (fail)
  go_ret2
  exact ⟨rfl, rfl⟩
theorem may_any (p : Int) (w : World) : Calls Try.prog 24 #[.int .i64 p] w fun e w' => e = .returned (.bool (decide (0 ≤ p) && decide (p < 8))) ∧ w = w' := by
  by_cases h0 : 0 ≤ p
  · have g : decide (0 ≤ p) = true := decide_eq_true h0
    rw [g]
    go_enter Try.func24, Try.ntmps24
    go_wp2_with (fail)
    go_ret
    exact ⟨by simp, rfl⟩
  · have g : decide (0 ≤ p) = false := decide_eq_false h0
    rw [g]
    go_enter Try.func24, Try.ntmps24
    go_wp2_with (fail)
    go_ret
    exact ⟨by simp, rfl⟩

/-! ### send, recv -/
/-- What a send does to a port: its answer, the port behind. -/
def sendE (x : PortS) (L : List Int) (now : Int) : Int := match x with
  | .samp m => if sampB m L.length now then 0 else 1
  | .queue l => if 1 ≤ L.length ∧ L.length ≤ 4 then if l.length < 4 then 0 else 3 else 1
def sendS (x : PortS) (L : List Int) (now : Int) : PortS := match x with
  | .samp m => .samp (if sampB m L.length now then some (L, now) else m)
  | .queue l => .queue (if 1 ≤ L.length ∧ L.length ≤ 4 ∧ l.length < 4 then l ++ [L] else l)
theorem s_samp_send (p : Nat) (m : Option (List Int × Int)) (x : Value) (L : List Int) (now : Int) (g w : World) (R : HP) (h : Sat g w (sampP p m * R)) (hx : SrcN w x L) :
    Calls Try.prog 80 #[.agg #[.pointer (some ⟨p, 0, none⟩)], x, .int .i64 now] w fun e w' => e = .returned (.int .i64 (sendE (.samp m) L now)) ∧ Sat g w' (portP p (sendS (.samp m) L now) * R) := by
  obtain ⟨a, c, rfl⟩ := hx.slice
  have S1 : Sat g (w.alloc (.cells #[.pointer (some ⟨p, 0, none⟩)] 83)) (sampP p m * R) := h.alloc _
  have hx1 := hx.below (w' := w.alloc (.cells #[.pointer (some ⟨p, 0, none⟩)] 83)) (by repeat (first | with_reducible exact Below.refl _ _ | with_reducible assumption | with_reducible refine below_drewN ?_ _ | with_reducible refine Below.alloc ?_ (by simp <;> omega) _))
  have hc : Calls Try.prog 82 #[.pointer (some ⟨p, 0, none⟩), .slice a L.length c, .int .i64 now] (w.alloc (.cells #[.pointer (some ⟨p, 0, none⟩)] 83)) fun e w' => e = .returned (.int .i64 (sendE (.samp m) L now)) ∧ Sat g w' (portP p (sendS (.samp m) L now) * R) :=
    (s_samp_write p m (.slice a L.length c) L now g _ R S1 hx1).mono fun e w' hp => hp
  have HC := Lib.hid hc
  generalize sendE (.samp m) L now = k at HC ⊢
  generalize sendS (.samp m) L now = X at HC ⊢
  clear S1 hx1 h hx hc
  go_enter Try.func80, Try.ntmps80
  go_wp2_with (fail)
  refine HC.out.mono ?_
  rintro e w1 ⟨rfl, S2⟩
  go_wp2_with (fail)
  go_ret
  exact ⟨rfl, S2⟩
theorem s_qu_send' (p : Nat) (l : List (List Int)) (x : Value) (L : List Int) (now : Int) (g w : World) (R : HP) (h : Sat g w (quP p l * R)) (hx : SrcN w x L) :
    Calls Try.prog 85 #[.agg #[.pointer (some ⟨p, 0, none⟩)], x, .int .i64 now] w fun e w' => e = .returned (.int .i64 (sendE (.queue l) L now)) ∧ Sat g w' (portP p (sendS (.queue l) L now) * R) := by
  obtain ⟨a, c, rfl⟩ := hx.slice
  have S1 : Sat g (w.alloc (.cells #[.pointer (some ⟨p, 0, none⟩)] 88)) (quP p l * R) := h.alloc _
  have hx1 := hx.below (w' := w.alloc (.cells #[.pointer (some ⟨p, 0, none⟩)] 88)) (by repeat (first | with_reducible exact Below.refl _ _ | with_reducible assumption | with_reducible refine below_drewN ?_ _ | with_reducible refine Below.alloc ?_ (by simp <;> omega) _))
  have hc : Calls Try.prog 87 #[.pointer (some ⟨p, 0, none⟩), .slice a L.length c] (w.alloc (.cells #[.pointer (some ⟨p, 0, none⟩)] 88)) fun e w' => e = .returned (.int .i64 (sendE (.queue l) L now)) ∧ Sat g w' (portP p (sendS (.queue l) L now) * R) := by
    refine (s_qu_send p l (.slice a L.length c) L g _ R S1 hx1).mono fun e w' hp => ?_
    unfold sendE sendS portP
    cases hp with
    | arg hn he hs => exact ⟨by rw [he]; simp only [if_neg hn], by simp only; rw [if_neg (fun h => hn ⟨h.1, h.2.1⟩)]; exact hs⟩
    | full hn hl he hs => exact ⟨by rw [he]; simp only [if_pos hn]; rw [if_neg (by omega)], by simp only; rw [if_neg (by omega)]; exact hs⟩
    | ok hn hl he hs => exact ⟨by rw [he]; simp only [if_pos hn]; rw [if_pos hl], by simp only; rw [if_pos ⟨hn.1, hn.2, hl⟩]; exact hs⟩
  have HC := Lib.hid hc
  generalize sendE (.queue l) L now = k at HC ⊢
  generalize sendS (.queue l) L now = X at HC ⊢
  clear S1 hx1 h hx hc
  go_enter Try.func85, Try.ntmps85
  go_wp2_with (fail)
  refine HC.out.mono ?_
  rintro e w1 ⟨rfl, S2⟩
  go_wp2_with (fail)
  go_ret
  exact ⟨rfl, S2⟩

/-- What a recv tells. -/
inductive Recvd (g : World) (p : Nat) (x : PortS) (now : Int) (R : HP) (e : Ending) (w' : World) : Prop
  | no (k : Int) (hk : k ≠ 0) (hw : x = .samp none ∧ k = 2 ∨ (∃ L t, x = .samp (some (L, t)) ∧ now < t ∧ k = 1) ∨ x = .queue [] ∧ k = 2) (he : e = .returned (.tuple #[.slice none 0 0, .bool false, .int .i64 k])) (hs : Sat g w' (portP p x * R))
  | samp (L : List Int) (t : Int) (v : Value) (hx : x = .samp (some (L, t))) (hn : t ≤ now) (he : e = .returned (.tuple #[v, .bool (decide (now - t < 20)), .int .i64 0])) (hs : Sat g w' (wordsP v L * (portP p x * R)))
  | queue (L : List Int) (l : List (List Int)) (v : Value) (hx : x = .queue (L :: l)) (he : e = .returned (.tuple #[v, .bool true, .int .i64 0])) (hs : Sat g w' (wordsP v L * (portP p (.queue l) * R)))
theorem s_samp_recv (p : Nat) (m : Option (List Int × Int)) (now : Int) (g w : World) (R : HP) (h : Sat g w (sampP p m * R)) (hmax : now ≤ 9223372036854775807) :
    Calls Try.prog 79 #[.agg #[.pointer (some ⟨p, 0, none⟩)], .int .i64 now] w (Recvd g p (.samp m) now R) := by
  have S1 : Sat g (w.alloc (.cells #[.pointer (some ⟨p, 0, none⟩)] 83)) (sampP p m * R) := h.alloc _
  have HC := Lib.hid (s_samp_read p m now g _ R S1 hmax)
  clear S1 h
  go_enter Try.func79, Try.ntmps79
  go_wp2_with (fail)
  refine HC.out.mono ?_
  intro e w1 hp
  cases hp with
  | no k hk he hs =>
    subst he
    have H := Lib.hid hk
    clear hk
    go_wp2_with (fail)
    go_ret3
    refine .no k ?_ ?_ rfl hs
    · rcases H.out with ⟨_, h⟩ | ⟨_, _, _, _, h⟩ <;> omega
    · rcases H.out with ⟨h1, h2⟩ | ⟨L, t, h1, h2, h3⟩
      · exact Or.inl ⟨by rw [h1], h2⟩
      · exact Or.inr (Or.inl ⟨L, t, by rw [h1], h2, h3⟩)
  | ok L t v hm hn he hs =>
    subst he
    subst hm
    go_wp2_with (fail)
    go_ret3
    exact .samp L t v rfl hn rfl hs
theorem s_qu_recv (p : Nat) (l : List (List Int)) (now : Int) (g w : World) (R : HP) (h : Sat g w (quP p l * R)) :
    Calls Try.prog 84 #[.agg #[.pointer (some ⟨p, 0, none⟩)], .int .i64 now] w (Recvd g p (.queue l) now R) := by
  have S1 : Sat g (w.alloc (.cells #[.pointer (some ⟨p, 0, none⟩)] 88)) (quP p l * R) := h.alloc _
  have HC := Lib.hid (s_qu_take p l g _ R S1)
  clear S1 h
  go_enter Try.func84, Try.ntmps84
  go_wp2_with (fail)
  refine HC.out.mono ?_
  intro e w1 hp
  cases hp with
  | none hl he hs =>
    subst he
    subst hl
    go_wp2_with (fail)
    go_ret3
    exact .no 2 (by omega) (Or.inr (Or.inr ⟨rfl, rfl⟩)) rfl hs
  | ok L l' v hl he hs =>
    subst he
    subst hl
    go_wp2_with (fail)
    go_ret3
    exact .queue L l' v rfl rfl hs

end Go.Proofs.Ytffacjbnjcolgaa
