/- awake of trunnionlaw19 returns true; the calls of package wires at a wire that is known. -/
import Derived.Test.YtffacjbnjcolgaaWires2
import Derived.Test.YtffacjbnjcolgaaWires4
import Derived.Test.YtffacjbnjcolgaaWires6
namespace Go.Proofs.Ytffacjbnjcolgaa
set_option linter.unusedSimpArgs false
set_option linter.unusedVariables false
set_option maxRecDepth 100000
open Go.RowKit
set_option maxHeartbeats 4000000

theorem src_u1 {w : World} (x : Int) (t : TypeId) (b : Nat) (hb : w.heap.size = b) : SrcN (w.alloc (.cells #[.int .u64 x] t)) (.slice (some ⟨b, 0, none⟩) 1 1) [x] := by
  subst hb
  right; exact Src.own (World.ownsRow_lit (base := 0) (e := t) w #[.int .u64 x] 1 (Nat.zero_le _) (by decide) rfl)
theorem src_u2 {w : World} (x y : Int) (t : TypeId) (b : Nat) (hb : w.heap.size = b) : SrcN (w.alloc (.cells #[.int .u64 x, .int .u64 y] t)) (.slice (some ⟨b, 0, none⟩) 2 2) [x, y] := by
  subst hb
  right; exact Src.own (World.ownsRow_lit (base := 0) (e := t) w #[.int .u64 x, .int .u64 y] 2 (Nat.zero_le _) (by decide) rfl)
theorem bind_ok (pw : Nat) (E : List Wr) (id fr to_ kind : Int) (x : PortS) (hx : newPort kind = some x) (ho : okW id fr to_) (hn : ∀ y ∈ E, y.id ≠ id) (g w : World) (R : HP) (h : Sat g w (wiP pw E * R)) :
    Calls Try.prog 9 #[.pointer (some ⟨pw, 0, none⟩), .int .i64 id, .int .i64 fr, .int .i64 to_, .int .i64 kind] w fun e w' => e = .returned (.int .i64 0) ∧ Sat g w' (wiP pw (E ++ [⟨id, fr, to_, x⟩]) * R) := by
  refine (s_bind pw E id fr to_ kind g w R h).mono fun e w' hp => ?_
  cases hp with
  | bad h => exact h.elim (fun h => by rw [hx] at h; cases h) (fun h => absurd ho h)
  | twice _ _ _ hm => obtain ⟨y, hy, e⟩ := hm; exact absurd e (hn y hy)
  | ok x' hx' _ _ he hs => rw [hx] at hx'; cases hx'; exact ⟨he, hs⟩
theorem send_at (pw : Nat) (E : List Wr) (id part : Int) (x : Value) (L : List Int) (now : Int) (g w : World) (R : HP) (h : Sat g w (wiP pw E * R)) (hs : SrcN w x L) (hnd : (E.map (·.id)).Nodup) (j : Nat) (hj : j < E.length) (hi : E[j].id = id) (hf : E[j].fr = part) :
    Calls Try.prog 11 #[.pointer (some ⟨pw, 0, none⟩), .int .i64 id, .int .i64 part, x, .int .i64 now] w fun e w' => e = .returned (.int .i64 (sendE E[j].pt L now)) ∧ Sat g w' (wiP pw (E.set j (E[j].with (sendS E[j].pt L now))) * R) := by
  refine (s_wsend pw E id part x L now g w R h hs).mono fun e w' hp => ?_
  have hu : ∀ i (h : i < E.length), E[i].id = id → i = j := fun i h e => (List.getElem_inj (xs := E.map (·.id)) (h₀ := by simpa using h) (h₁ := by simpa using hj) hnd).1 (by simp [hi, e])
  cases hp with
  | none hn => exact absurd hi (hn _ (List.getElem_mem hj))
  | perm i hii h1 h2 => obtain rfl := hu i hii h1; exact absurd hf h2
  | ok i hii h1 _ he hs => obtain rfl := hu i hii h1; exact ⟨he, hs⟩
theorem send_no (pw : Nat) (E : List Wr) (id part : Int) (x : Value) (L : List Int) (now : Int) (g w : World) (R : HP) (h : Sat g w (wiP pw E * R)) (hs : SrcN w x L) (hnd : (E.map (·.id)).Nodup) (j : Nat) (hj : j < E.length) (hi : E[j].id = id) (hf : E[j].fr ≠ part) :
    Calls Try.prog 11 #[.pointer (some ⟨pw, 0, none⟩), .int .i64 id, .int .i64 part, x, .int .i64 now] w fun e w' => e = .returned (.int .i64 9) ∧ Sat g w' (wiP pw E * R) := by
  refine (s_wsend pw E id part x L now g w R h hs).mono fun e w' hp => ?_
  have hu : ∀ i (h : i < E.length), E[i].id = id → i = j := fun i h e => (List.getElem_inj (xs := E.map (·.id)) (h₀ := by simpa using h) (h₁ := by simpa using hj) hnd).1 (by simp [hi, e])
  cases hp with
  | none hn => exact absurd hi (hn _ (List.getElem_mem hj))
  | perm i hii h1 h2 he hs => exact ⟨he, hs⟩
  | ok i hii h1 h2 => obtain rfl := hu i hii h1; exact absurd h2 hf
/-- A recv of one who may. -/
inductive RecvAt (g : World) (pw : Nat) (E : List Wr) (j : Nat) (hj : j < E.length) (now : Int) (R : HP) (e : Ending) (w' : World) : Prop
  | no (hk : recvE E[j].pt now ≠ 0) (he : e = .returned (.tuple #[.slice none 0 0, .bool false, .int .i64 (recvE E[j].pt now)])) (hs : Sat g w' (wiP pw E * R))
  | got (x' : PortS) (L : List Int) (b : Bool) (v : Value) (hx : RecvG E[j].pt now x' L b) (he : e = .returned (.tuple #[v, .bool b, .int .i64 0])) (hs : Sat g w' (wordsP v L * (wiP pw (E.set j (E[j].with x')) * R)))
theorem recv_at (pw : Nat) (E : List Wr) (id part now : Int) (g w : World) (R : HP) (h : Sat g w (wiP pw E * R)) (hmax : now ≤ 9223372036854775807) (hnd : (E.map (·.id)).Nodup) (j : Nat) (hj : j < E.length) (hi : E[j].id = id) (hf : E[j].to_ = part) :
    Calls Try.prog 12 #[.pointer (some ⟨pw, 0, none⟩), .int .i64 id, .int .i64 part, .int .i64 now] w (RecvAt g pw E j hj now R) := by
  refine (s_wrecv pw E id part now g w R h hmax).mono fun e w' hp => ?_
  have hu : ∀ i (h : i < E.length), E[i].id = id → i = j := fun i h e => (List.getElem_inj (xs := E.map (·.id)) (h₀ := by simpa using h) (h₁ := by simpa using hj) hnd).1 (by simp [hi, e])
  cases hp with
  | none hn => exact absurd hi (hn _ (List.getElem_mem hj))
  | perm i hii h1 h2 => obtain rfl := hu i hii h1; exact absurd hf h2
  | no i hii h1 h2 hk he hs => obtain rfl := hu i hii h1; exact .no hk he hs
  | got i hii h1 h2 x' L b v hx he hs => obtain rfl := hu i hii h1; exact .got x' L b v hx he hs
theorem recv_not (pw : Nat) (E : List Wr) (id part now : Int) (g w : World) (R : HP) (h : Sat g w (wiP pw E * R)) (hmax : now ≤ 9223372036854775807) (hnd : (E.map (·.id)).Nodup) (j : Nat) (hj : j < E.length) (hi : E[j].id = id) (hf : E[j].to_ ≠ part) :
    Calls Try.prog 12 #[.pointer (some ⟨pw, 0, none⟩), .int .i64 id, .int .i64 part, .int .i64 now] w fun e w' => e = .returned (.tuple #[.slice none 0 0, .bool false, .int .i64 9]) ∧ Sat g w' (wiP pw E * R) := by
  refine (s_wrecv pw E id part now g w R h hmax).mono fun e w' hp => ?_
  have hu : ∀ i (h : i < E.length), E[i].id = id → i = j := fun i h e => (List.getElem_inj (xs := E.map (·.id)) (h₀ := by simpa using h) (h₁ := by simpa using hj) hnd).1 (by simp [hi, e])
  cases hp with
  | none hn => exact absurd hi (hn _ (List.getElem_mem hj))
  | perm i hii h1 h2 he hs => exact ⟨he, hs⟩
  | no i hii h1 h2 => obtain rfl := hu i hii h1; exact absurd h2 hf
  | got i hii h1 h2 => obtain rfl := hu i hii h1; exact absurd h2 hf
/-- A recv of a queue that has words. -/
theorem recv_queue (pw : Nat) (E : List Wr) (id part now : Int) (L : List Int) (l : List (List Int)) (g w : World) (R : HP) (h : Sat g w (wiP pw E * R)) (hmax : now ≤ 9223372036854775807) (hnd : (E.map (·.id)).Nodup) (j : Nat) (hj : j < E.length) (hi : E[j].id = id) (hf : E[j].to_ = part) (hp : E[j].pt = .queue (L :: l)) :
    Calls Try.prog 12 #[.pointer (some ⟨pw, 0, none⟩), .int .i64 id, .int .i64 part, .int .i64 now] w fun e w' => ∃ v, e = .returned (.tuple #[v, .bool true, .int .i64 0]) ∧ Sat g w' (wordsP v L * (wiP pw (E.set j (E[j].with (.queue l))) * R)) := by
  refine (recv_at pw E id part now g w R h hmax hnd j hj hi hf).mono fun e w' hq => ?_
  cases hq with
  | no hk => rw [hp] at hk; exact absurd rfl hk
  | got x' L' b v hx he hs =>
    rw [hp] at hx
    rcases hx with ⟨t, h1, _⟩ | ⟨l', h1, h2, h3⟩
    · cases h1
    · cases h1; subst h2 h3; exact ⟨v, he, hs⟩
theorem recv_empty (pw : Nat) (E : List Wr) (id part now k : Int) (g w : World) (R : HP) (h : Sat g w (wiP pw E * R)) (hmax : now ≤ 9223372036854775807) (hnd : (E.map (·.id)).Nodup) (j : Nat) (hj : j < E.length) (hi : E[j].id = id) (hf : E[j].to_ = part) (hp : recvE E[j].pt now = k) (hk : k ≠ 0) :
    Calls Try.prog 12 #[.pointer (some ⟨pw, 0, none⟩), .int .i64 id, .int .i64 part, .int .i64 now] w fun e w' => e = .returned (.tuple #[.slice none 0 0, .bool false, .int .i64 k]) ∧ Sat g w' (wiP pw E * R) := by
  refine (recv_at pw E id part now g w R h hmax hnd j hj hi hf).mono fun e w' hq => ?_
  cases hq with
  | no hk' he hs => rw [hp] at he; exact ⟨he, hs⟩
  | got x' L' b v hx he hs =>
    rcases hx with ⟨t, h1, h2, _⟩ | ⟨l', h1, h2, h3⟩
    · rw [h1] at hp
      unfold recvE at hp
      simp only at hp
      rw [if_neg (by omega)] at hp
      exact absurd hp.symm hk
    · rw [h1] at hp; exact absurd hp.symm hk
theorem recv_samp (pw : Nat) (E : List Wr) (id part now : Int) (L : List Int) (t : Int) (g w : World) (R : HP) (h : Sat g w (wiP pw E * R)) (hmax : now ≤ 9223372036854775807) (hnd : (E.map (·.id)).Nodup) (j : Nat) (hj : j < E.length) (hi : E[j].id = id) (hf : E[j].to_ = part) (hp : E[j].pt = .samp (some (L, t))) (ht : t ≤ now) :
    Calls Try.prog 12 #[.pointer (some ⟨pw, 0, none⟩), .int .i64 id, .int .i64 part, .int .i64 now] w fun e w' => ∃ v, e = .returned (.tuple #[v, .bool (decide (now - t < 20)), .int .i64 0]) ∧ Sat g w' (wordsP v L * (wiP pw E * R)) := by
  refine (recv_at pw E id part now g w R h hmax hnd j hj hi hf).mono fun e w' hq => ?_
  cases hq with
  | no hk => rw [hp] at hk; unfold recvE at hk; simp only at hk; rw [if_neg (by omega)] at hk; exact absurd rfl hk
  | got x' L' b v hx he hs =>
    rcases hx with ⟨t', h1, h2, h3, h4⟩ | ⟨l', h1, h2, h3⟩
    · rw [h1] at hp; cases hp
      rw [h3, set_same j hj] at hs
      exact ⟨v, by rw [he, h4], hs⟩
    · rw [hp] at h1; cases h1
/-- The words that were had: their cells. -/
theorem words_cells {w : World} {v : Value} {L : List Int} (h : WAt w v L) (hl : L ≠ []) : ∃ b c, v = .slice (some ⟨b, 0, none⟩) L.length c ∧ b < w.heap.size ∧ ∀ j (_ : j < L.length), w.cell? ⟨b, j, none⟩ = some (.int .u64 L[j]) := by
  rcases h.is with ⟨_, h1⟩ | ⟨b, cap, rfl, hb, hc⟩
  · exact absurd h1 hl
  · exact ⟨b, cap, rfl, hb, hc⟩

theorem awake19 (g w : World) (R : HP) (h : Sat g w R) : Calls Try.prog 7 #[] w fun e w' => e = .returned (.bool true) ∧ Sat g w' R := by
  go_enter Try.func7, Try.ntmps7
  go_wp2_with (fail)
  refine (s_wnew g _ _ h).mono ?_
  rintro e w1 ⟨pw, rfl, S1⟩
  go_wp2_with (fail)
  refine (bind_ok pw [] 3 1 2 1 (.queue []) rfl (by unfold okW; omega) (by simp) g w1 _ S1).mono ?_
  rintro e w2 ⟨rfl, S2⟩
  rw [List.nil_append] at S2
  go_wp2_with (fail)
  refine (send_no pw _ 3 2 _ [7] 0 g _ _ (S2.alloc _) (src_u1 7 _ _ rfl) (by simp) 0 (by simp) rfl (by simp)).mono ?_
  rintro e w3 ⟨rfl, S3⟩
  go_wp2_with (fail)
  refine (send_at pw _ 3 1 _ [7] 0 g _ _ (S3.alloc _) (src_u1 7 _ _ rfl) (by simp) 0 (by simp) rfl rfl).mono ?_
  rintro e w4 ⟨rfl, S4⟩
  have e1 : ([⟨3, 1, 2, .queue []⟩] : List Wr).set 0 (([⟨3, 1, 2, .queue []⟩] : List Wr)[0].with (sendS ([⟨3, 1, 2, .queue []⟩] : List Wr)[0].pt [7] 0)) = [⟨3, 1, 2, .queue [[7]]⟩] := rfl
  have e2 : sendE ([⟨3, 1, 2, .queue []⟩] : List Wr)[0].pt [7] 0 = 0 := rfl
  rw [e1] at S4
  rw [e2]
  go_wp2_with (fail)
  refine (recv_queue pw _ 3 2 0 [7] [] g w4 _ S4 (by omega) (by simp) 0 (by simp) rfl rfl rfl).mono ?_
  rintro e w5 ⟨v, rfl, S5⟩
  obtain ⟨b, c, rfl, hb, hc⟩ := words_cells S5.words (by simp)
  have c0 := hc 0 (by simp)
  rw [show ([7] : List Int)[0] = 7 from rfl] at c0
  have e3 : ([⟨3, 1, 2, .queue [[7]]⟩] : List Wr).set 0 (([⟨3, 1, 2, .queue [[7]]⟩] : List Wr)[0].with (.queue [])) = [⟨3, 1, 2, .queue []⟩] := rfl
  rw [e3] at S5
  have e4 : ofL ([⟨3, 1, 2, .queue []⟩] : List Wr) 1 = [3] := by decide +kernel
  have HO := Lib.hid (s_of pw [⟨3, 1, 2, .queue []⟩] 1 g w5 _ S5.swap)
  rw [e4] at HO
  clear S1 S2 S3 S4 e1 e2 e3 e4 hc
  go_wp2_with (fail)
  refine HO.out.mono ?_
  rintro e w6 ⟨v, rfl, S6⟩
  obtain ⟨a6, c6, rfl⟩ := S6.ints.slice
  go_wp2_with (fail)
  go_ret
  exact ⟨rfl, S6.right.right.right⟩

end Go.Proofs.Ytffacjbnjcolgaa
