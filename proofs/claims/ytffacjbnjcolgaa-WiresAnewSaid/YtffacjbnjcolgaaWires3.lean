/- Send, Recv of package wires. -/
import Derived.Test.YtffacjbnjcolgaaWires
namespace Go.Proofs.Ytffacjbnjcolgaa
set_option linter.unusedSimpArgs false
set_option linter.unusedVariables false
set_option maxRecDepth 100000
open Go.RowKit
set_option maxHeartbeats 4000000

theorem ownP_mono {S : Nat → Prop} {I I' : World → Prop} (h : ∀ w, I w → I' w) : ∀ x, ownP S I x → ownP S I' x := fun _ ⟨h1, h2⟩ => ⟨h1, fun w hw => h w (h2 w hw)⟩
/-- A wire whose port is another one of its kind. -/
def Wr.with (x : Wr) (pt : PortS) : Wr := { x with pt := pt }
theorem zipSet_ent {ps : List Nat} {E : List Wr} (j : Nat) (hj : j < E.length) (pt : PortS) (hk : ∀ p, portV pt p = portV E[j].pt p) : List.zipWith entW ps (E.set j (E[j].with pt)) = List.zipWith entW ps E := by
  refine List.ext_getElem (by simp) fun i h1 h2 => ?_
  rw [List.getElem_zipWith, List.getElem_zipWith, List.getElem_set]
  split
  · rename_i e
    subst e
    unfold entW Wr.with; simp only; rw [hk]
  · rfl
theorem zipSet_prt {ps : List Nat} {E : List Wr} (j : Nat) (hj : j < E.length) (p : Nat) (hp : ps[j]? = some p) (pt : PortS) : List.zipWith prtP ps (E.set j (E[j].with pt)) = (List.zipWith prtP ps E).set j (portP p pt) := by
  obtain ⟨hpl, hpe⟩ := List.getElem?_eq_some_iff.1 hp
  refine List.ext_getElem (by simp) fun i h1 h2 => ?_
  rw [List.getElem_zipWith, List.getElem_set, List.getElem_set]
  split
  · rename_i e
    subst e
    rw [hpe]; rfl
  · rw [List.getElem_zipWith]
theorem WiIn.set {w : World} {pw mb : Nat} {ps : List Nat} {E : List Wr} (h : WiIn w pw mb ps E) (j : Nat) (hj : j < E.length) (pt : PortS) (hk : ∀ p, portV pt p = portV E[j].pt p) : WiIn w pw mb ps (E.set j (E[j].with pt)) :=
  ⟨h.c0, by rw [zipSet_ent j hj pt hk]; exact h.mp, h.lt, by rw [h.len]; simp, h.ne, fun x hx => by
    rcases List.mem_or_eq_of_mem_set hx with h1 | rfl
    · exact h.ids x h1
    · exact h.ids E[j] (List.getElem_mem hj)⟩
/-- One port is taken out, and put back as another one of its kind. -/
theorem wi_out {g w : World} {pw mb : Nat} {ps : List Nat} {E : List Wr} {R : HP} (h : Sat g w (ownP (fun k => k = pw ∨ k = mb) (fun w => WiIn w pw mb ps E) * (starL (List.zipWith prtP ps E) * R))) (j : Nat) (hj : j < E.length) (p : Nat) (hp : ps[j]? = some p) :
    Sat g w (portP p E[j].pt * (ownP (fun k => k = pw ∨ k = mb) (fun w => WiIn w pw mb ps E) * (starL ((List.zipWith prtP ps E).eraseIdx j) * R))) := by
  obtain ⟨hpl, hpe⟩ := List.getElem?_eq_some_iff.1 hp
  have hzl : j < (List.zipWith prtP ps E).length := by simp; omega
  rw [starL_pick _ j hzl] at h
  have e : (List.zipWith prtP ps E)[j] = portP p E[j].pt := by rw [List.getElem_zipWith, hpe]; rfl
  rw [e] at h
  exact h.perm (by ac_rfl)
theorem wi_in {g w : World} {pw mb : Nat} {ps : List Nat} {E : List Wr} {R : HP} (j : Nat) (hj : j < E.length) (p : Nat) (hp : ps[j]? = some p) (pt : PortS) (hk : ∀ p, portV pt p = portV E[j].pt p)
    (h : Sat g w (portP p pt * (ownP (fun k => k = pw ∨ k = mb) (fun w => WiIn w pw mb ps E) * (starL ((List.zipWith prtP ps E).eraseIdx j) * R)))) : Sat g w (wiP pw (E.set j (E[j].with pt)) * R) := by
  obtain ⟨hpl, hpe⟩ := List.getElem?_eq_some_iff.1 hp
  have hzl : j < (List.zipWith prtP ps E).length := by simp; omega
  refine Sat.wi' mb ps ?_
  rw [zipSet_prt j hj p hp, starL_set _ _ _ hzl]
  have h2 := (h.perm (show _ = ownP (fun k => k = pw ∨ k = mb) (fun w => WiIn w pw mb ps E) * (portP p pt * starL ((List.zipWith prtP ps E).eraseIdx j) * R) by ac_rfl))
  exact h2.mono_left (ownP_mono fun w hw => hw.set j hj pt hk)
theorem send_kind (x : PortS) (L : List Int) (now : Int) (p : Nat) : portV (sendS x L now) p = portV x p := by cases x <;> rfl

inductive Sent (g : World) (pw : Nat) (E : List Wr) (id part : Int) (L : List Int) (now : Int) (R : HP) (e : Ending) (w' : World) : Prop
  | none (hn : ∀ y ∈ E, y.id ≠ id) (he : e = .returned (.int .i64 2)) (hs : Sat g w' (wiP pw E * R))
  | perm (j : Nat) (hj : j < E.length) (hi : E[j].id = id) (hf : E[j].fr ≠ part) (he : e = .returned (.int .i64 9)) (hs : Sat g w' (wiP pw E * R))
  | ok (j : Nat) (hj : j < E.length) (hi : E[j].id = id) (hf : E[j].fr = part) (he : e = .returned (.int .i64 (sendE E[j].pt L now))) (hs : Sat g w' (wiP pw (E.set j (E[j].with (sendS E[j].pt L now))) * R))
theorem s_wsend (pw : Nat) (E : List Wr) (id part : Int) (x : Value) (L : List Int) (now : Int) (g w : World) (R : HP) (h : Sat g w (wiP pw E * R)) (hx : SrcN w x L) :
    Calls Try.prog 11 #[.pointer (some ⟨pw, 0, none⟩), .int .i64 id, .int .i64 part, x, .int .i64 now] w (Sent g pw E id part L now R) := by
  obtain ⟨a, c, rfl⟩ := hx.slice
  obtain ⟨mb, ps, hi, hs⟩ := h.wi
  have c0 := hi.c0
  have hpl := hi.lt
  have hnw : ¬ pw = w.heap.size := by omega
  rcases id_or E id with ⟨j, hj, rfl⟩ | hn
  · obtain ⟨p, t, hp, hpv, hlk⟩ := look_wi hi j hj
    have hl := hlk true
    simp only [if_true] at hl
    by_cases hf : E[j].fr = part
    · have hf' : (E[j].fr == part) = true := by rw [hf]; simp
      have hff : (E[j].fr != part) = false := by rw [hf]; simp
      have HF := Lib.hid hf
      have HPV := Lib.hid hpv
      clear hf hi hlk hpv
      have hsw : ∀ w', Below w.heap.size w w' → Sat g w' (portP p E[j].pt * (ownP (fun k => k = pw ∨ k = mb) (fun w => WiIn w pw mb ps E) * (starL ((List.zipWith prtP ps E).eraseIdx j) * R))) := fun w' hb => (wi_out hs j hj p hp).below hb
      have HSW := Lib.hid hsw
      have HXX := Lib.hid (fun w' (hb : Below w.heap.size w w') => hx.below hb)
      clear hsw hx
      cases hpt : E[j].pt with
      | samp m =>
        have ht : t = 83 := by
          have := HPV.out
          rw [hpt] at this
          simp [portV] at this
          exact this.symm
        subst ht
        have HS := Lib.hid (fun w' (hb : Below w.heap.size w w') => s_samp_send p m (.slice a L.length c) L now g w' _ (by have := HSW.out w' hb; rw [hpt] at this; exact this) (HXX.out w' hb))
        have HE : Hid (∀ w', Sat g w' (portP p (sendS (.samp m) L now) * (ownP (fun k => k = pw ∨ k = mb) (fun w => WiIn w pw mb ps E) * (starL ((List.zipWith prtP ps E).eraseIdx j) * R))) → Sat g w' (wiP pw (E.set j (E[j].with (sendS E[j].pt L now))) * R)) := Lib.hid fun w' h' => wi_in j hj p hp _ (fun q => send_kind _ _ _ _) (by rw [hpt]; exact h')
        have HPT := Lib.hid hpt
        clear hpt
        go_enter Try.func11, Try.ntmps11
        go_wp2_with (fail)
        refine (HS.out _ (by repeat (first | with_reducible exact Below.refl _ _ | with_reducible assumption | with_reducible refine below_drewN ?_ _ | with_reducible refine Below.alloc ?_ (by simp <;> omega) _))).mono ?_
        rintro e w1 ⟨rfl, S1⟩
        have S2 := HE.out _ S1
        have HK : Hid (sendE E[j].pt L now = sendE (.samp m) L now) := Lib.hid (by rw [HPT.out])
        generalize sendE (.samp m) L now = k at HK ⊢
        clear HS HE S1
        go_wp2_with (fail)
        go_ret
        exact .ok j hj rfl HF.out (by rw [HK.out]; rfl) S2
      | queue l =>
        have ht : t = 88 := by
          have := HPV.out
          rw [hpt] at this
          simp [portV] at this
          exact this.symm
        subst ht
        have HS := Lib.hid (fun w' (hb : Below w.heap.size w w') => s_qu_send' p l (.slice a L.length c) L now g w' _ (by have := HSW.out w' hb; rw [hpt] at this; exact this) (HXX.out w' hb))
        have HE : Hid (∀ w', Sat g w' (portP p (sendS (.queue l) L now) * (ownP (fun k => k = pw ∨ k = mb) (fun w => WiIn w pw mb ps E) * (starL ((List.zipWith prtP ps E).eraseIdx j) * R))) → Sat g w' (wiP pw (E.set j (E[j].with (sendS E[j].pt L now))) * R)) := Lib.hid fun w' h' => wi_in j hj p hp _ (fun q => send_kind _ _ _ _) (by rw [hpt]; exact h')
        have HPT := Lib.hid hpt
        clear hpt
        go_enter Try.func11, Try.ntmps11
        go_wp2_with (fail)
        refine (HS.out _ (by repeat (first | with_reducible exact Below.refl _ _ | with_reducible assumption | with_reducible refine below_drewN ?_ _ | with_reducible refine Below.alloc ?_ (by simp <;> omega) _))).mono ?_
        rintro e w1 ⟨rfl, S1⟩
        have S2 := HE.out _ S1
        have HK : Hid (sendE E[j].pt L now = sendE (.queue l) L now) := Lib.hid (by rw [HPT.out])
        generalize sendE (.queue l) L now = k at HK ⊢
        clear HS HE S1
        go_wp2_with (fail)
        go_ret
        exact .ok j hj rfl HF.out (by rw [HK.out]; rfl) S2
    · have hff : (E[j].fr != part) = true := by simpa using hf
      have HF := Lib.hid hf
      clear hf hi hlk hpv
      go_enter Try.func11, Try.ntmps11
      go_wp2_with (fail)
      go_ret
      exact .perm j hj rfl HF.out rfl (h.alloc _)
  · have hl := look_none hi id hn
    have HN := Lib.hid hn
    clear hi hn
    go_enter Try.func11, Try.ntmps11
    go_wp2_with (fail)
    go_ret
    exact .none HN.out rfl (h.alloc _)

end Go.Proofs.Ytffacjbnjcolgaa
