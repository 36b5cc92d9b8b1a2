/- Drop of package wires. -/
import Derived.Test.YtffacjbnjcolgaaWires5
namespace Go.Proofs.Ytffacjbnjcolgaa
set_option linter.unusedSimpArgs false
set_option linter.unusedVariables false
set_option maxRecDepth 100000
open Go.RowKit
set_option maxHeartbeats 4000000

/-- The wires that are left. -/
def leftE (E : List Wr) (L : List Int) : List Wr := E.filter fun x => !L.contains x.id
theorem nodup_erase {E : List Wr} (hn : (E.map (·.id)).Nodup) (j : Nat) (hj : j < E.length) : E.eraseIdx j = E.filter fun x => !(x.id == E[j].id) := by
  induction E generalizing j with
  | nil => simp at hj
  | cons x E ih =>
    simp only [List.map_cons, List.nodup_cons] at hn
    cases j with
    | zero =>
      simp only [List.eraseIdx_cons_zero, List.getElem_cons_zero, List.filter_cons, beq_self_eq_true, Bool.not_true, Bool.false_eq_true, if_false]
      refine (List.filter_eq_self.2 fun y hy => ?_).symm
      have : y.id ≠ x.id := fun e => hn.1 (List.mem_map.2 ⟨y, hy, e⟩)
      simp [this]
    | succ j =>
      simp only [List.length_cons] at hj
      have hne : x.id ≠ E[j].id := fun e => hn.1 (List.mem_map.2 ⟨E[j], List.getElem_mem _, e.symm⟩)
      simp only [List.eraseIdx_cons_succ, List.getElem_cons_succ, List.filter_cons]
      rw [ih hn.2 j (by omega)]
      simp [hne]
theorem left_nil (E : List Wr) : leftE E [] = E := List.filter_eq_self.2 fun y _ => by simp
theorem left_snoc (E : List Wr) (L : List Int) (id : Int) : leftE E (L ++ [id]) = (leftE E L).filter fun x => !(x.id == id) := by
  unfold leftE
  rw [List.filter_filter]
  refine List.filter_congr fun x _ => ?_
  cases hb : x.id == id <;> cases hc : L.contains x.id <;> simp_all
theorem of_nodup {E : List Wr} (hn : (E.map (·.id)).Nodup) (part : Int) : (ofL E part).Nodup := by
  have h2 : (idsE E).Nodup := by unfold idsE; exact (sortK_perm _).nodup_iff.2 hn
  exact h2.sublist List.filter_sublist
theorem of_mem {E : List Wr} {part id : Int} (h : id ∈ ofL E part) : ∃ x ∈ E, x.id = id ∧ x.has part = true := by
  unfold ofL at h
  have := (List.mem_filter.1 h).2
  unfold hasId at this
  obtain ⟨x, hx, h2⟩ := List.any_eq_true.1 this
  simp only [Bool.and_eq_true, beq_iff_eq] at h2
  exact ⟨x, hx, h2.1, h2.2⟩

theorem s_wdrop (pw : Nat) (E : List Wr) (part : Int) (g w : World) (R : HP) (h : Sat g w (wiP pw E * R)) :
    Calls Try.prog 14 #[.pointer (some ⟨pw, 0, none⟩), .int .i64 part] w fun e w' => e = .returned (.int .i64 (ofL E part).length) ∧ Sat g w' (wiP pw (leftE E (ofL E part)) * R) := by
  have HOF := Lib.hid (s_of pw E part g w R h)
  have hnd : (E.map (·.id)).Nodup := by obtain ⟨mb, ps, hi, _⟩ := h.wi; exact hi.nodup
  have hofn := of_nodup hnd part
  have hofm : ∀ id ∈ ofL E part, ∃ x ∈ E, x.id = id := fun id hid => by
    obtain ⟨x, h1, h2, _⟩ := of_mem hid
    exact ⟨x, h1, h2⟩
  generalize ofL E part = L at *
  have HND := Lib.hid (And.intro hnd (And.intro hofn hofm))
  have hl16 : L.length ≤ 16 := by
    obtain ⟨mb, ps, hi, _⟩ := h.wi
    have h1 := sub_lenW L (E.map (·.id)) hofn (fun x hx => by obtain ⟨y, h1, h2⟩ := hofm x hx; exact List.mem_map.2 ⟨y, h1, h2⟩)
    have := wi_few hi
    simp at h1
    omega
  clear hnd hofn hofm h
  go_enter Try.func14, Try.ntmps14
  go_wp2_with (fail)
  refine HOF.out.mono ?_
  rintro e w1 ⟨v, rfl, S1⟩
  obtain ⟨a, c, rfl⟩ := S1.ints.slice
  have S2 : Sat g w1 (wiP pw (leftE E (L.take 0)) * (intsP (.slice a L.length c) L * R)) := by rw [List.take_zero, left_nil]; exact S1.swap
  clear HOF S1
  go_wp2_with (fail)
  go_loopw [13] (fun i wr => ∃ k : Nat, k ≤ L.length ∧ i = .int .i64 k ∧ Sat g wr (wiP pw (leftE E (L.take k)) * (intsP (.slice a L.length c) L * R))) (fun i _ => L.length - (intOf i).toNat)
  case atStart => exact ⟨0, by omega, rfl, S2⟩
  case round =>
    obtain ⟨k, hk, rfl, S3⟩ := hrel
    clear S2
    by_cases hkl : k < L.length
    · have i1 : (k : Int) < L.length := by omega
      have hk1 : k + 1 ≤ L.length := hkl
      obtain ⟨b, rfl, hblt, hcell⟩ : ∃ b, a = some ⟨b, 0, none⟩ ∧ b < wr.heap.size ∧ wr.cell? ⟨b, k, none⟩ = some (.int .i64 L[k]) := by
        rcases S3.swap.ints.is with ⟨_, h0⟩ | ⟨b, cap, h1, h2, h3⟩
        · rw [h0] at hkl; simp at hkl
        · simp only [Value.slice.injEq] at h1
          exact ⟨b, h1.1, h2, h3 k hkl⟩
      obtain ⟨mb, ps, hi, hs⟩ := S3.wi
      have c0 := hi.c0
      obtain ⟨j, hj, hid⟩ : ∃ j, ∃ h : j < (leftE E (L.take k)).length, (leftE E (L.take k))[j].id = L[k] := by
        obtain ⟨x, hx, hxi⟩ := HND.out.2.2 L[k] (List.getElem_mem hkl)
        have hm : x ∈ leftE E (L.take k) := List.mem_filter.2 ⟨hx, by
          simp only [Bool.not_eq_true', List.contains_eq_mem, decide_eq_false_iff_not]
          rw [hxi]
          intro hin
          obtain ⟨i, hi, e⟩ := List.mem_iff_getElem.1 hin
          simp at hi
          rw [List.getElem_take] at e
          have := (List.getElem_inj (h₀ := by omega) (h₁ := hkl) HND.out.2.1).1 e
          omega⟩
        obtain ⟨j, hj, rfl⟩ := List.mem_iff_getElem.1 hm
        exact ⟨j, hj, hxi⟩
      obtain ⟨hp', h2, e⟩ := zip_get hi j hj
      obtain ⟨w2, hdel, hm2, ht2⟩ := run_delW (ty := 0) hi.mp L[k] j h2 (by rw [e]; exact hid)
      have hE' : (leftE E (L.take k)).eraseIdx j = leftE E (L.take (k + 1)) := by
        rw [nodup_erase hi.nodup j hj, List.take_succ_eq_append_getElem hkl, left_snoc, hid]
      have S4 := hs.touch (ht2.mono fun k _ hk => Or.inr hk) (I' := fun w => WiIn w pw mb (ps.eraseIdx j) ((leftE E (L.take k)).eraseIdx j)) ⟨keepT ht2 hi.lt hi.ne hi.c0, by rw [zip_erase _ _ _ _ hi.len]; exact hm2, Nat.lt_of_lt_of_le hi.lt ht2.size, by rw [List.length_eraseIdx_of_lt hp', List.length_eraseIdx_of_lt hj, hi.len], hi.ne, fun x hx => hi.ids x ((List.eraseIdx_sublist _ _).mem hx)⟩ (loc_wi _ _ _ _) (fun k hk => Or.inl hk) (fun k hk => by
        rcases hk with rfl | rfl
        · exact Nat.lt_of_lt_of_le hi.lt ht2.size
        · exact Nat.lt_of_lt_of_le hi.mp.lt ht2.size)
      have hzl : j < (List.zipWith prtP ps (leftE E (L.take k))).length := by simp; omega
      rw [starL_pick _ j hzl] at S4
      have S5 := (S4.perm (show _ = (List.zipWith prtP ps (leftE E (L.take k)))[j] * (ownP (fun k => k = pw ∨ k = mb) (fun w => WiIn w pw mb (ps.eraseIdx j) ((leftE E (L.take k)).eraseIdx j)) * (starL ((List.zipWith prtP ps (leftE E (L.take k))).eraseIdx j) * (intsP (.slice (some ⟨b, 0, none⟩) L.length c) L * R))) by ac_rfl)).right
      rw [← zip_erase _ _ _ _ hi.len] at S5
      have S6 := Sat.wi' mb (ps.eraseIdx j) S5
      rw [hE'] at S6
      have HS := Lib.hid S6
      clear S3 hs S4 S5 S6 hi hm2 ht2 hE' e h2 hp' hzl hid hj
      go_wp2_with (fail)
      go_roundw
      case rel => exact ⟨k + 1, hk1, by go_num, HS.out⟩
      case measure => simp [intOf]; omega
    · obtain rfl : L.length = k := by omega
      rw [List.take_length] at S3
      have HS := Lib.hid (S3.swap.right)
      clear S3
      go_wp2_with (fail)
      go_ret
      exact ⟨rfl, HS.out⟩

end Go.Proofs.Ytffacjbnjcolgaa
