/- WiresApart: always true. -/
import Derived.Test.YtffacjbnjcolgaaLaw19
import Derived.Test.YtffacjbnjcolgaaOps19
namespace Go.Proofs.Ytffacjbnjcolgaa
set_option linter.unusedSimpArgs false
set_option linter.unusedVariables false
set_option maxRecDepth 100000
open Go.RowKit
set_option maxHeartbeats 40000000

/-- One wire stays as it is. -/
theorem mem_set {E : List Wr} {x y : Wr} (hx : x ∈ E) (j : Nat) (hj : j < E.length) (h : E[j].id ≠ x.id) : x ∈ E.set j y := by
  obtain ⟨i, hi, rfl⟩ := List.mem_iff_getElem.1 hx
  have hij : j ≠ i := fun e => h (by subst e; rfl)
  exact List.mem_iff_getElem.2 ⟨i, by simpa using hi, by rw [List.getElem_set_ne hij]⟩
theorem mem_erase {E : List Wr} {x : Wr} (hx : x ∈ E) (j : Nat) (hj : j < E.length) (h : E[j].id ≠ x.id) : x ∈ E.eraseIdx j := by
  obtain ⟨i, hi, rfl⟩ := List.mem_iff_getElem.1 hx
  have hij : i ≠ j := fun e => h (by subst e; rfl)
  rw [List.mem_eraseIdx_iff_getElem]
  exact ⟨i, hi, hij, rfl⟩
/-- What is known between the calls: there are wires, and one is among them. -/
def Apart (g : World) (pw : Nat) (x : Wr) (w : World) : Prop := ∃ E, x ∈ E ∧ Sat g w (wiP pw E * whole g)
theorem Apart.below {g w : World} {pw : Nat} {x : Wr} (h : Apart g pw x w) : Below g.heap.size g w := by
  obtain ⟨E, _, hs⟩ := h
  exact Sat.ends (hs.perm (star_comm _ _))
theorem Apart.alloc {g w : World} {pw : Nat} {x : Wr} (h : Apart g pw x w) (bl) : Apart g pw x (w.alloc bl) := by
  obtain ⟨E, h1, hs⟩ := h
  exact ⟨E, h1, hs.alloc _⟩
theorem a_bind (pw : Nat) (x : Wr) (id fr to_ kind : Int) (g w : World) (h : Apart g pw x w) (hne : id ≠ x.id) :
    Calls Try.prog 9 #[.pointer (some ⟨pw, 0, none⟩), .int .i64 id, .int .i64 fr, .int .i64 to_, .int .i64 kind] w fun e w' => ∃ k, e = .returned (.int .i64 k) ∧ Apart g pw x w' := by
  obtain ⟨E, hx, hs⟩ := h
  refine (s_bind pw E id fr to_ kind g w _ hs).mono fun e w' hp => ?_
  cases hp with
  | bad _ he hs => exact ⟨_, he, E, hx, hs⟩
  | twice _ _ _ _ he hs => exact ⟨_, he, E, hx, hs⟩
  | ok y _ _ _ he hs => exact ⟨_, he, _, List.mem_append_left _ hx, hs⟩
theorem a_unbind (pw : Nat) (x : Wr) (id : Int) (g w : World) (h : Apart g pw x w) (hne : id ≠ x.id) :
    Calls Try.prog 10 #[.pointer (some ⟨pw, 0, none⟩), .int .i64 id] w fun e w' => ∃ k, e = .returned (.int .i64 k) ∧ Apart g pw x w' := by
  obtain ⟨E, hx, hs⟩ := h
  refine (s_unbind pw E id g w _ hs).mono fun e w' hp => ?_
  rcases hp with ⟨_, he, hs⟩ | ⟨j, hj, hi, he, hs⟩
  · exact ⟨_, he, E, hx, hs⟩
  · exact ⟨_, he, _, mem_erase hx j hj (by rw [hi]; exact hne), hs⟩
theorem a_send (pw : Nat) (x : Wr) (id part : Int) (v : Value) (L : List Int) (now : Int) (g w : World) (h : Apart g pw x w) (hv : SrcN w v L) (hne : id ≠ x.id) :
    Calls Try.prog 11 #[.pointer (some ⟨pw, 0, none⟩), .int .i64 id, .int .i64 part, v, .int .i64 now] w fun e w' => ∃ k, e = .returned (.int .i64 k) ∧ Apart g pw x w' := by
  obtain ⟨E, hx, hs⟩ := h
  refine (s_wsend pw E id part v L now g w _ hs hv).mono fun e w' hp => ?_
  cases hp with
  | none _ he hs => exact ⟨_, he, E, hx, hs⟩
  | perm _ _ _ _ he hs => exact ⟨_, he, E, hx, hs⟩
  | ok j hj hi _ he hs => exact ⟨_, he, _, mem_set hx j hj (by rw [hi]; exact hne), hs⟩
theorem a_recv (pw : Nat) (x : Wr) (id part now : Int) (g w : World) (h : Apart g pw x w) (hm : now ≤ 9223372036854775807) (hne : id ≠ x.id) :
    Calls Try.prog 12 #[.pointer (some ⟨pw, 0, none⟩), .int .i64 id, .int .i64 part, .int .i64 now] w fun e w' => ∃ v b k, e = .returned (.tuple #[v, .bool b, .int .i64 k]) ∧ Apart g pw x w' := by
  obtain ⟨E, hx, hs⟩ := h
  refine (s_wrecv pw E id part now g w _ hs hm).mono fun e w' hp => ?_
  cases hp with
  | none _ he hs => exact ⟨_, _, _, he, E, hx, hs⟩
  | perm _ _ _ _ he hs => exact ⟨_, _, _, he, E, hx, hs⟩
  | no _ _ _ _ _ he hs => exact ⟨_, _, _, he, E, hx, hs⟩
  | got j hj hi _ x' L b v _ he hs => exact ⟨_, _, _, he, _, mem_set hx j hj (by rw [hi]; exact hne), hs.right⟩
/-- The first words of a queue that is there. -/
theorem a_take (pw : Nat) (id fr to_ : Int) (L : List Int) (l : List (List Int)) (now : Int) (g w : World) (h : Apart g pw ⟨id, fr, to_, .queue (L :: l)⟩ w) (hm : now ≤ 9223372036854775807) :
    Calls Try.prog 12 #[.pointer (some ⟨pw, 0, none⟩), .int .i64 id, .int .i64 to_, .int .i64 now] w fun e w' => ∃ v, e = .returned (.tuple #[v, .bool true, .int .i64 0]) ∧ ∃ E, (⟨id, fr, to_, .queue l⟩ : Wr) ∈ E ∧ Sat g w' (wordsP v L * (wiP pw E * whole g)) := by
  obtain ⟨E, hx, hs⟩ := h
  have hnd : (E.map (·.id)).Nodup := by obtain ⟨mb, ps, hi, _⟩ := hs.wi; exact hi.nodup
  obtain ⟨j, hj, e⟩ := List.mem_iff_getElem.1 hx
  refine (recv_queue pw E id to_ now L l g w _ hs hm hnd j hj (by rw [e]) (by rw [e]) (by rw [e])).mono fun e' w' ⟨v, he, hs'⟩ => ⟨v, he, _, ?_, hs'⟩
  rw [e]
  exact List.mem_iff_getElem.2 ⟨j, by simpa using hj, by rw [List.getElem_set_self]; rfl⟩
theorem a_empty (pw : Nat) (id fr to_ now : Int) (E : List Wr) (g w : World) (R : HP) (hx : (⟨id, fr, to_, .queue []⟩ : Wr) ∈ E) (hs : Sat g w (wiP pw E * R)) (hm : now ≤ 9223372036854775807) :
    Calls Try.prog 12 #[.pointer (some ⟨pw, 0, none⟩), .int .i64 id, .int .i64 to_, .int .i64 now] w fun e w' => e = .returned (.tuple #[.slice none 0 0, .bool false, .int .i64 2]) ∧ Sat g w' (wiP pw E * R) := by
  have hnd : (E.map (·.id)).Nodup := by obtain ⟨mb, ps, hi, _⟩ := hs.wi; exact hi.nodup
  obtain ⟨j, hj, e⟩ := List.mem_iff_getElem.1 hx
  exact recv_empty pw E id to_ now 2 g w _ hs hm hnd j hj (by rw [e]) (by rw [e]) (by rw [e]; rfl) (by omega)
theorem WAt.word {w : World} {v : Value} {L : List Int} (h : WAt w v L) : ∃ a c, v = .slice a L.length c ∧ WordAt w a L := by
  rcases h.is with ⟨rfl, rfl⟩ | ⟨b, cap, rfl, hb, hc⟩
  · exact ⟨none, 0, rfl, Or.inl rfl⟩
  · exact ⟨_, cap, rfl, Or.inr ⟨b, 0, rfl, fun j hj => by rw [Nat.zero_add]; exact hc j hj⟩⟩

theorem apart_walk (a : Option Addr) (len cap : Nat) (L : Nat → Op19) (id : Int) (v2 : Value) (ws : List Int) (w : World) (hL : Ops19 w a len L) (hm : len ≤ 9223372036854775807) (h2 : ArgW w v2 ws) :
    Calls Try.prog 5 #[.slice a len cap, .int .i64 id, v2] w fun e w' => e = .returned (.bool true) ∧ Below w.heap.size w w' := by
  have HK := Lib.hid hL.kept
  obtain ⟨a2, cap2, rfl, h2w⟩ := h2.at_
  have H2 := Lib.hid h2
  have hfew := h2.few
  clear hL h2 h2w
  have HA := Lib.hid (awake19 w w _ (Sat.start w))
  by_cases hl : 60 < len
  · go_enter Try.func5, Try.ntmps5
    go_wp2_with (fail)
    refine HA.out.mono ?_
    rintro e w1 ⟨rfl, S0⟩
    go_wp2_with (fail)
    refine (s_wnew w _ _ S0).mono ?_
    rintro e w2 ⟨pw, rfl, S1⟩
    go_wp2_with (fail)
    go_ret
    exact ⟨rfl, Sat.ends (S1.perm (star_comm _ _))⟩
  by_cases hi0 : id < 0
  · go_enter Try.func5, Try.ntmps5
    go_wp2_with (fail)
    refine HA.out.mono ?_
    rintro e w1 ⟨rfl, S0⟩
    go_wp2_with (fail)
    refine (s_wnew w _ _ S0).mono ?_
    rintro e w2 ⟨pw, rfl, S1⟩
    go_wp2_with (fail)
    go_ret
    exact ⟨rfl, Sat.ends (S1.perm (star_comm _ _))⟩
  by_cases hi1 : 15 < id
  · go_enter Try.func5, Try.ntmps5
    go_wp2_with (fail)
    refine HA.out.mono ?_
    rintro e w1 ⟨rfl, S0⟩
    go_wp2_with (fail)
    refine (s_wnew w _ _ S0).mono ?_
    rintro e w2 ⟨pw, rfl, S1⟩
    go_wp2_with (fail)
    go_ret
    exact ⟨rfl, Sat.ends (S1.perm (star_comm _ _))⟩
  by_cases hw0 : ws.length < 1
  · go_enter Try.func5, Try.ntmps5
    go_wp2_with (fail)
    refine HA.out.mono ?_
    rintro e w1 ⟨rfl, S0⟩
    go_wp2_with (fail)
    refine (s_wnew w _ _ S0).mono ?_
    rintro e w2 ⟨pw, rfl, S1⟩
    go_wp2_with (fail)
    go_ret
    exact ⟨rfl, Sat.ends (S1.perm (star_comm _ _))⟩
  by_cases hw1 : 4 < ws.length
  · go_enter Try.func5, Try.ntmps5
    go_wp2_with (fail)
    refine HA.out.mono ?_
    rintro e w1 ⟨rfl, S0⟩
    go_wp2_with (fail)
    refine (s_wnew w _ _ S0).mono ?_
    rintro e w2 ⟨pw, rfl, S1⟩
    go_wp2_with (fail)
    go_ret
    exact ⟨rfl, Sat.ends (S1.perm (star_comm _ _))⟩
  have ho : okW id 6 7 := by unfold okW; omega
  have HO := Lib.hid ho
  have hse : sendE (.queue []) ws 0 = 0 := by unfold sendE; simp only; rw [if_pos (by omega), if_pos (by simp)]
  have hss : sendS (.queue []) ws 0 = .queue [ws] := by unfold sendS; simp only; rw [if_pos ⟨by omega, by omega, by simp⟩]; rfl
  have HSE := Lib.hid (And.intro hse hss)
  clear ho hse hss
  go_enter Try.func5, Try.ntmps5
  go_wp2_with (fail)
  refine HA.out.mono ?_
  rintro e w1 ⟨rfl, S0⟩
  clear HA
  go_wp2_with (fail)
  refine (s_wnew w _ _ S0).mono ?_
  rintro e w2 ⟨pw, rfl, S1⟩
  go_wp2_with (fail)
  refine (bind_ok pw [] id 6 7 1 (.queue []) rfl HO.out (by simp) w w2 _ S1).mono ?_
  rintro e w3 ⟨rfl, S2⟩
  rw [List.nil_append] at S2
  go_wp2_with (fail)
  refine (send_at pw _ id 6 (.slice a2 ws.length cap2) ws 0 w _ _ S2 (H2.out.src.below (Sat.ends (S2.perm (star_comm _ _)))) (by simp) 0 (by simp) rfl rfl).mono ?_
  rintro e w4 ⟨rfl, S3⟩
  have e1 : sendE ([⟨id, 6, 7, .queue []⟩] : List Wr)[0].pt ws 0 = 0 := HSE.out.1
  have e2 : ([⟨id, 6, 7, .queue []⟩] : List Wr).set 0 (([⟨id, 6, 7, .queue []⟩] : List Wr)[0].with (sendS ([⟨id, 6, 7, .queue []⟩] : List Wr)[0].pt ws 0)) = [⟨id, 6, 7, .queue [ws]⟩] := by
    show [Wr.with ⟨id, 6, 7, .queue []⟩ (sendS (.queue []) ws 0)] = _
    rw [HSE.out.2]; rfl
  rw [e1]
  rw [e2] at S3
  have A3 : Apart w pw ⟨id, 6, 7, .queue [ws]⟩ w4 := ⟨_, by simp, S3⟩
  clear S0 S1 S2 S3 e1 e2 HSE
  go_wp2_with (fail)
  go_loopw [11] (fun i wr => ∃ k : Nat, k ≤ len ∧ i = .int .i64 k ∧ Apart w pw ⟨id, 6, 7, .queue [ws]⟩ wr) (fun i _ => len - (intOf i).toNat)
  case atStart => exact ⟨0, by omega, rfl, A3⟩
  case round =>
    obtain ⟨k, hk, rfl, A4⟩ := hrel
    clear A3
    by_cases hkl : k < len
    · have i1 : (k : Int) < len := by omega
      have hk1 : k + 1 ≤ len := hkl
      obtain ⟨b, off, rfl, hblt, hop⟩ := HK.out k hkl
      have q := hop wr A4.below
      generalize L k = o at q
      obtain ⟨q0, q1, q2, q3, q4, q5, q6, qa, qb⟩ := q
      obtain ⟨d, oid, ofr, oto, okind, onow, ov, ows⟩ := o
      simp only at q0 q1 q2 q3 q4 q5 q6 qa qb
      obtain ⟨ao, co, rfl, hwo⟩ := qa.at_
      have hof := qa.few
      have HQ := Lib.hid (And.intro qa qb)
      have hnb : ¬ b = wr.heap.size := by have := A4.below.size; omega
      clear hop qa qb hwo
      have A5 := fun bl => A4.alloc bl
      have HA5 := Lib.hid A5
      clear A5
      by_cases c1 : oid = id
      · subst c1
        have HE := Lib.hid (A4.alloc (.cells #[.int .i64 d, .int .i64 oid, .int .i64 ofr, .int .i64 oto, .int .i64 okind, .int .i64 onow, .slice ao ows.length co] 37))
        clear A4 HA5
        go_wp2_with (fail)
        go_roundw
        case rel => exact ⟨k + 1, hk1, by go_num, HE.out⟩
        case measure => simp [intOf]; omega
      have HE := Lib.hid (A4.alloc (.cells #[.int .i64 d, .int .i64 oid, .int .i64 ofr, .int .i64 oto, .int .i64 okind, .int .i64 onow, .slice ao ows.length co] 37))
      have hS : SrcN (wr.alloc (.cells #[.int .i64 d, .int .i64 oid, .int .i64 ofr, .int .i64 oto, .int .i64 okind, .int .i64 onow, .slice ao ows.length co] 37)) (.slice ao ows.length co) ows := HQ.out.1.src.below (by repeat (first | with_reducible exact Below.refl _ _ | with_reducible assumption | with_reducible refine below_drewN ?_ _ | with_reducible refine Below.alloc ?_ (by simp <;> omega) _))
      have HS := Lib.hid hS
      have HC1 := Lib.hid c1
      clear A4 HA5 hS
      have g1 : (oid == id) = false := by simpa using c1
      clear c1
      by_cases c2 : d = 3
      · subst c2
        go_wp2_with (fail)
        go_roundw
        case rel => exact ⟨k + 1, hk1, by go_num, HE.out⟩
        case measure => simp [intOf]; omega
      have g2 : (d == 3) = false := by simpa using c2
      by_cases c3 : 100 < ows.length
      · go_wp2_with (fail)
        go_roundw
        case rel => exact ⟨k + 1, hk1, by go_num, HE.out⟩
        case measure => simp [intOf]; omega
      by_cases d0 : d = 0
      · subst d0
        clear c2 g2
        go_wp2_with (fail)
        refine (a_bind pw _ oid ofr oto okind w _ HE.out HC1.out).mono ?_
        rintro e w6 ⟨k6, rfl, A6⟩
        go_wp2_with (fail)
        go_roundw
        case rel => exact ⟨k + 1, hk1, by go_num, A6⟩
        case measure => simp [intOf]; omega
      have g3 : (d == 0) = false := by simpa using d0
      by_cases d1 : d = 1
      · subst d1
        clear c2 g2 d0 g3
        go_wp2_with (fail)
        refine (a_bind pw _ oid ofr oto okind w _ HE.out HC1.out).mono ?_
        rintro e w6 ⟨k6, rfl, A6⟩
        go_wp2_with (fail)
        go_roundw
        case rel => exact ⟨k + 1, hk1, by go_num, A6⟩
        case measure => simp [intOf]; omega
      have g4 : (d == 1) = false := by simpa using d1
      by_cases d2 : d = 2
      · subst d2
        clear c2 g2 d0 g3 d1 g4
        go_wp2_with (fail)
        refine (a_unbind pw _ oid w _ HE.out HC1.out).mono ?_
        rintro e w6 ⟨k6, rfl, A6⟩
        go_wp2_with (fail)
        go_roundw
        case rel => exact ⟨k + 1, hk1, by go_num, A6⟩
        case measure => simp [intOf]; omega
      have g5 : (d == 2) = false := by simpa using d2
      by_cases d4 : d = 4
      · subst d4
        clear c2 g2 d0 g3 d1 g4 d2 g5
        go_wp2_with (fail)
        refine (a_send pw _ oid ofr (.slice ao ows.length co) ows onow w _ HE.out HS.out HC1.out).mono ?_
        rintro e w6 ⟨k6, rfl, A6⟩
        go_wp2_with (fail)
        go_roundw
        case rel => exact ⟨k + 1, hk1, by go_num, A6⟩
        case measure => simp [intOf]; omega
      have g6 : (d == 4) = false := by simpa using d4
      by_cases d5 : d = 5
      · subst d5
        clear c2 g2 d0 g3 d1 g4 d2 g5 d4 g6
        go_wp2_with (fail)
        refine (a_send pw _ oid ofr (.slice ao ows.length co) ows onow w _ HE.out HS.out HC1.out).mono ?_
        rintro e w6 ⟨k6, rfl, A6⟩
        go_wp2_with (fail)
        go_roundw
        case rel => exact ⟨k + 1, hk1, by go_num, A6⟩
        case measure => simp [intOf]; omega
      have g7 : (d == 5) = false := by simpa using d5
      by_cases d6 : d = 6
      · subst d6
        clear c2 g2 d0 g3 d1 g4 d2 g5 d4 g6 d5 g7
        go_wp2_with (fail)
        refine (a_send pw _ oid ofr (.slice ao ows.length co) ows onow w _ HE.out HS.out HC1.out).mono ?_
        rintro e w6 ⟨k6, rfl, A6⟩
        go_wp2_with (fail)
        go_roundw
        case rel => exact ⟨k + 1, hk1, by go_num, A6⟩
        case measure => simp [intOf]; omega
      have g8 : (d == 6) = false := by simpa using d6
      clear c2 d0 d1 d2 d4 d5 d6
      go_wp2_with (fail)
      refine (a_recv pw _ oid ofr onow w _ HE.out HQ.out.2 HC1.out).mono ?_
      rintro e w6 ⟨v6, b6, k6, rfl, A6⟩
      go_wp2_with (fail)
      go_roundw
      case rel => exact ⟨k + 1, hk1, by go_num, A6⟩
      case measure => simp [intOf]; omega
    · obtain rfl : len = k := by omega
      go_wp2_with (fail)
      refine (a_take pw id 6 7 ws [] 5 w _ A4 (by omega)).mono ?_
      rintro e w5 ⟨v, rfl, E, hE, S5⟩
      obtain ⟨ay, cy, rfl, hy⟩ := S5.words.word
      clear hy A4
      have HEE := Lib.hid hE
      clear hE
      go_wp2_with (fail)
      refine (a_empty pw id 6 7 5 E w _ _ HEE.out S5.swap (by omega)).mono ?_
      rintro e w6 ⟨rfl, S6⟩
      have S7 := S6.swap
      have hb7 : Below w.heap.size w w6 := Sat.ends ((S7.right.right).emp.perm (star_comm _ _))
      have hw6 : WordAt w6 ay ws := by
        obtain ⟨ay', cy', e, hy⟩ := S7.words.word
        cases e
        exact hy
      have hz6 : WordAt w6 a2 ws := by
        obtain ⟨a', c', e, hy⟩ := (H2.out.below hb7).at_
        cases e
        exact hy
      have HZ := Lib.hid (And.intro hw6 hz6)
      have hsz := hb7.size
      clear hw6 hz6 S5 S6 S7 HEE
      go_wp2_with (fail)
      refine (same17 ay a2 cy cap2 ws ws w6 HZ.out.1 HZ.out.2 (by omega)).mono ?_
      rintro e w7 ⟨rfl, hb8⟩
      rw [decide_eq_true rfl]
      have hb9 : Below w.heap.size w w7 := hb7.trans (hb8.mono hsz)
      clear hb8
      go_wp2_with (fail)
      go_ret
      exact ⟨rfl, hb9⟩

end Go.Proofs.Ytffacjbnjcolgaa
