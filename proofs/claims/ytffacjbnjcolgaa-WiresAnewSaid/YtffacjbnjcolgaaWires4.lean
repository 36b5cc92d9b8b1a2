/- Recv of package wires. -/
import Derived.Test.YtffacjbnjcolgaaWires3
namespace Go.Proofs.Ytffacjbnjcolgaa
set_option linter.unusedSimpArgs false
set_option linter.unusedVariables false
set_option maxRecDepth 100000
open Go.RowKit
set_option maxHeartbeats 4000000

/-- The error of a recv. -/
def recvE (x : PortS) (now : Int) : Int := match x with
  | .samp none => 2
  | .samp (some y) => if now < y.2 then 1 else 0
  | .queue [] => 2
  | .queue (_ :: _) => 0
/-- What a recv gives, and leaves. -/
def RecvG (x : PortS) (now : Int) (x' : PortS) (L : List Int) (b : Bool) : Prop :=
  (∃ t, x = .samp (some (L, t)) ∧ t ≤ now ∧ x' = x ∧ b = decide (now - t < 20)) ∨ (∃ l, x = .queue (L :: l) ∧ x' = .queue l ∧ b = true)
theorem recv_no {x : PortS} {now k : Int} (h : x = .samp none ∧ k = 2 ∨ (∃ L t, x = .samp (some (L, t)) ∧ now < t ∧ k = 1) ∨ x = .queue [] ∧ k = 2) : k = recvE x now := by
  rcases h with ⟨rfl, rfl⟩ | ⟨L, t, rfl, h1, rfl⟩ | ⟨rfl, rfl⟩
  · rfl
  · unfold recvE; simp only; rw [if_pos h1]
  · rfl
theorem set_same {E : List Wr} (j : Nat) (hj : j < E.length) : E.set j (E[j].with E[j].pt) = E := List.set_getElem_self hj
inductive WRecv (g : World) (pw : Nat) (E : List Wr) (id part now : Int) (R : HP) (e : Ending) (w' : World) : Prop
  | none (hn : ∀ y ∈ E, y.id ≠ id) (he : e = .returned (.tuple #[.slice none 0 0, .bool false, .int .i64 2])) (hs : Sat g w' (wiP pw E * R))
  | perm (j : Nat) (hj : j < E.length) (hi : E[j].id = id) (hf : E[j].to_ ≠ part) (he : e = .returned (.tuple #[.slice none 0 0, .bool false, .int .i64 9])) (hs : Sat g w' (wiP pw E * R))
  | no (j : Nat) (hj : j < E.length) (hi : E[j].id = id) (hf : E[j].to_ = part) (hk : recvE E[j].pt now ≠ 0) (he : e = .returned (.tuple #[.slice none 0 0, .bool false, .int .i64 (recvE E[j].pt now)])) (hs : Sat g w' (wiP pw E * R))
  | got (j : Nat) (hj : j < E.length) (hi : E[j].id = id) (hf : E[j].to_ = part) (x' : PortS) (L : List Int) (b : Bool) (v : Value) (hx : RecvG E[j].pt now x' L b) (he : e = .returned (.tuple #[v, .bool b, .int .i64 0])) (hs : Sat g w' (wordsP v L * (wiP pw (E.set j (E[j].with x')) * R)))
theorem s_wrecv (pw : Nat) (E : List Wr) (id part now : Int) (g w : World) (R : HP) (h : Sat g w (wiP pw E * R)) (hmax : now ≤ 9223372036854775807) :
    Calls Try.prog 12 #[.pointer (some ⟨pw, 0, none⟩), .int .i64 id, .int .i64 part, .int .i64 now] w (WRecv g pw E id part now R) := by
  obtain ⟨mb, ps, hi, hs⟩ := h.wi
  have c0 := hi.c0
  have hpl := hi.lt
  have hnw : ¬ pw = w.heap.size := by omega
  rcases id_or E id with ⟨j, hj, rfl⟩ | hn
  · obtain ⟨p, t, hp, hpv, hlk⟩ := look_wi hi j hj
    have hl := hlk true
    simp only [if_true] at hl
    by_cases hf : E[j].to_ = part
    · have hf' : (E[j].to_ == part) = true := by rw [hf]; simp
      have hff : (E[j].to_ != part) = false := by rw [hf]; simp
      have HF := Lib.hid hf
      have HPV := Lib.hid hpv
      clear hf hi hlk hpv
      have hsw : ∀ w', Below w.heap.size w w' → Sat g w' (portP p E[j].pt * (ownP (fun k => k = pw ∨ k = mb) (fun w => WiIn w pw mb ps E) * (starL ((List.zipWith prtP ps E).eraseIdx j) * R))) := fun w' hb => (wi_out hs j hj p hp).below hb
      have HSW := Lib.hid hsw
      clear hsw
      cases hpt : E[j].pt with
      | samp m =>
        have ht : t = 83 := by
          have := HPV.out
          rw [hpt] at this
          simp [portV] at this
          exact this.symm
        subst ht
        have HS := Lib.hid (fun w' (hb : Below w.heap.size w w') => s_samp_recv p m now g w' _ (by have := HSW.out w' hb; rw [hpt] at this; exact this) hmax)
        have HE : Hid (∀ w' V pt, (∀ q, portV pt q = portV E[j].pt q) → Sat g w' (V * (portP p pt * (ownP (fun k => k = pw ∨ k = mb) (fun w => WiIn w pw mb ps E) * (starL ((List.zipWith prtP ps E).eraseIdx j) * R)))) → Sat g w' (V * (wiP pw (E.set j (E[j].with pt)) * R))) := Lib.hid fun w' V pt hk h' => by
          have h2 := wi_in (R := V * R) j hj p hp pt hk (h'.perm (by ac_rfl))
          exact h2.perm (by ac_rfl)
        have HE0 : Hid (∀ w', Sat g w' (portP p (.samp m) * (ownP (fun k => k = pw ∨ k = mb) (fun w => WiIn w pw mb ps E) * (starL ((List.zipWith prtP ps E).eraseIdx j) * R))) → Sat g w' (wiP pw E * R)) := Lib.hid fun w' h' => by
          have h2 := wi_in j hj p hp E[j].pt (fun _ => rfl) (by rw [hpt]; exact h')
          rw [set_same j hj] at h2
          exact h2
        have HPT := Lib.hid hpt
        clear hpt
        go_enter Try.func12, Try.ntmps12
        go_wp2_with (fail)
        refine (HS.out _ (by repeat (first | with_reducible exact Below.refl _ _ | with_reducible assumption | with_reducible refine below_drewN ?_ _ | with_reducible refine Below.alloc ?_ (by simp <;> omega) _))).mono ?_
        intro e w1 hp1
        clear HS
        cases hp1 with
        | no k hk hw he hs =>
          subst he
          have S2 := HE0.out _ hs
          have HW : Hid (k ≠ 0 ∧ k = recvE (.samp m) now) := Lib.hid ⟨hk, recv_no hw⟩
          clear HE HE0 hs hw hk
          go_wp2_with (fail)
          go_ret3
          exact .no j hj rfl HF.out (by rw [HPT.out, ← HW.out.2]; exact HW.out.1) (by rw [HPT.out, ← HW.out.2]; rfl) S2
        | samp L t v hx hn he hs =>
          cases hx
          subst he
          have S2 := HE.out _ _ (.samp (some (L, t))) (fun q => by rw [HPT.out]) hs
          have HN := Lib.hid hn
          clear HE HE0 hs hn
          go_wp2_with (fail)
          go_ret3
          refine .got j hj rfl HF.out (.samp (some (L, t))) L (decide (now - t < 20)) v (by rw [HPT.out]; exact Or.inl ⟨t, rfl, HN.out, rfl, rfl⟩) rfl S2
        | queue L l v hx he hs => cases hx
      | queue l =>
        have ht : t = 88 := by
          have := HPV.out
          rw [hpt] at this
          simp [portV] at this
          exact this.symm
        subst ht
        have HS := Lib.hid (fun w' (hb : Below w.heap.size w w') => s_qu_recv p l now g w' _ (by have := HSW.out w' hb; rw [hpt] at this; exact this))
        have HE : Hid (∀ w' V pt, (∀ q, portV pt q = portV E[j].pt q) → Sat g w' (V * (portP p pt * (ownP (fun k => k = pw ∨ k = mb) (fun w => WiIn w pw mb ps E) * (starL ((List.zipWith prtP ps E).eraseIdx j) * R)))) → Sat g w' (V * (wiP pw (E.set j (E[j].with pt)) * R))) := Lib.hid fun w' V pt hk h' => by
          have h2 := wi_in (R := V * R) j hj p hp pt hk (h'.perm (by ac_rfl))
          exact h2.perm (by ac_rfl)
        have HE0 : Hid (∀ w', Sat g w' (portP p (.queue l) * (ownP (fun k => k = pw ∨ k = mb) (fun w => WiIn w pw mb ps E) * (starL ((List.zipWith prtP ps E).eraseIdx j) * R))) → Sat g w' (wiP pw E * R)) := Lib.hid fun w' h' => by
          have h2 := wi_in j hj p hp E[j].pt (fun _ => rfl) (by rw [hpt]; exact h')
          rw [set_same j hj] at h2
          exact h2
        have HPT := Lib.hid hpt
        clear hpt
        go_enter Try.func12, Try.ntmps12
        go_wp2_with (fail)
        refine (HS.out _ (by repeat (first | with_reducible exact Below.refl _ _ | with_reducible assumption | with_reducible refine below_drewN ?_ _ | with_reducible refine Below.alloc ?_ (by simp <;> omega) _))).mono ?_
        intro e w1 hp1
        clear HS
        cases hp1 with
        | no k hk hw he hs =>
          subst he
          have S2 := HE0.out _ hs
          have HW : Hid (k ≠ 0 ∧ k = recvE (.queue l) now) := Lib.hid ⟨hk, recv_no hw⟩
          clear HE HE0 hs hw hk
          go_wp2_with (fail)
          go_ret3
          exact .no j hj rfl HF.out (by rw [HPT.out, ← HW.out.2]; exact HW.out.1) (by rw [HPT.out, ← HW.out.2]; rfl) S2
        | samp L t v hx hn he hs => cases hx
        | queue L l' v hx he hs =>
          cases hx
          subst he
          have S2 := HE.out _ _ (.queue l') (fun q => by rw [HPT.out]; rfl) hs
          clear HE HE0 hs
          go_wp2_with (fail)
          go_ret3
          exact .got j hj rfl HF.out (.queue l') L true v (by rw [HPT.out]; exact Or.inr ⟨l', rfl, rfl, rfl⟩) rfl S2
    · have hff : (E[j].to_ != part) = true := by simpa using hf
      have HF := Lib.hid hf
      clear hf hi hlk hpv
      go_enter Try.func12, Try.ntmps12
      go_wp2_with (fail)
      go_ret3
      exact .perm j hj rfl HF.out rfl (h.alloc _)
  · have hl := look_none hi id hn
    have HN := Lib.hid hn
    clear hi hn
    go_enter Try.func12, Try.ntmps12
    go_wp2_with (fail)
    go_ret3
    exact .none HN.out rfl (h.alloc _)

end Go.Proofs.Ytffacjbnjcolgaa
