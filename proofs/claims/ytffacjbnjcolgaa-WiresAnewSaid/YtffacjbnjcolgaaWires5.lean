/- Of of package wires. -/
import Derived.Test.YtffacjbnjcolgaaWires
import Derived.Test.YtffacjbnjcolgaaIAt
namespace Go.Proofs.Ytffacjbnjcolgaa
set_option linter.unusedSimpArgs false
set_option linter.unusedVariables false
set_option maxRecDepth 100000
open Go.RowKit
set_option maxHeartbeats 4000000

/-- Does a wire lead from one, or to one? -/
def Wr.has (x : Wr) (part : Int) : Bool := x.fr == part || x.to_ == part
def hasId (E : List Wr) (part id : Int) : Bool := E.any fun x => x.id == id && x.has part
def idsE (E : List Wr) : List Int := sortK (E.map (·.id))
def ofL (E : List Wr) (part : Int) : List Int := (idsE E).filter (hasId E part)
theorem has_id {E : List Wr} (hn : (E.map (·.id)).Nodup) (j : Nat) (hj : j < E.length) (part : Int) : hasId E part E[j].id = E[j].has part := by
  unfold hasId
  rw [Bool.eq_iff_iff, List.any_eq_true]
  constructor
  · rintro ⟨x, hx, h⟩
    simp only [Bool.and_eq_true, beq_iff_eq] at h
    obtain ⟨i, hi, rfl⟩ := List.mem_iff_getElem.1 hx
    have hij : i = j := (List.getElem_inj (xs := E.map (·.id)) (h₀ := by simpa using hi) (h₁ := by simpa using hj) hn).1 (by simp [h.1])
    subst hij
    exact h.2
  · intro h
    exact ⟨E[j], List.getElem_mem hj, by simp [h]⟩
theorem ids_zip {ps : List Nat} {E : List Wr} (h : ps.length = E.length) : idsW (List.zipWith entW ps E) = E.map (·.id) := by
  unfold idsW
  refine List.ext_getElem (by simp [h]) fun i h1 h2 => ?_
  simp [entW]
theorem WiIn.nodup {w : World} {pw mb : Nat} {ps : List Nat} {E : List Wr} (h : WiIn w pw mb ps E) : (E.map (·.id)).Nodup := by
  have := h.mp.nodup
  rw [show (List.zipWith entW ps E).map (·.1) = E.map (·.id) from ids_zip h.len] at this
  exact this
theorem wi_few {w : World} {pw mb : Nat} {ps : List Nat} {E : List Wr} (h : WiIn w pw mb ps E) : E.length ≤ 16 := by
  have h1 := ids_few h.mp.nodup (fun y hy => by
    obtain ⟨j, hj, rfl⟩ := List.mem_iff_getElem.1 hy
    simp at hj
    rw [List.getElem_zipWith]
    exact h.ids _ (List.getElem_mem _))
  have := h.len
  simp at h1
  omega
theorem s_of (pw : Nat) (E : List Wr) (part : Int) (g w : World) (R : HP) (h : Sat g w (wiP pw E * R)) :
    Calls Try.prog 13 #[.pointer (some ⟨pw, 0, none⟩), .int .i64 part] w fun e w' => ∃ v, e = .returned v ∧ Sat g w' (intsP v (ofL E part) * (wiP pw E * R)) := by
  obtain ⟨mb, ps, hi, hs⟩ := h.wi
  have c0 := hi.c0
  have hpl := hi.lt
  have hnw : ¬ pw = w.heap.size := by omega
  have hfew := wi_few hi
  have HNO := Lib.hid hi.nodup
  have HI := Lib.hid hi
  have hlen : (idsE E).length = E.length := by unfold idsE; rw [sortK_len]; simp
  have hmem : ∀ id ∈ idsE E, ∃ j, ∃ h : j < E.length, E[j].id = id := fun id hid => by
    have := (sortK_perm (E.map (·.id))).mem_iff.1 hid
    obtain ⟨x, hx, rfl⟩ := List.mem_map.1 this
    obtain ⟨j, hj, rfl⟩ := List.mem_iff_getElem.1 hx
    exact ⟨j, hj, rfl⟩
  have HM := Lib.hid hmem
  have hso : ∀ w', Below w.heap.size w w' → w'.cell? ⟨w.heap.size, 0, none⟩ = some (.map (some mb)) → w.heap.size < w'.heap.size → Calls Try.prog 25 #[.func (.func 39) #[] #[.pointer (some ⟨w.heap.size, 0, none⟩)]] w' fun e w'' => ∃ v, e = .returned v ∧ w''.ownsRow w'.heap.size 3 1 v (idsE E).length ((idsE E).map (Value.int .i64)) ∧ Below w'.heap.size w' w'' := fun w' hb hc hl => by
    have hi' : WiIn w' pw mb ps E := loc_wi pw mb ps E w w' HI.out (fun k hk => hb.block k (HI.out.slt k hk))
    have := sortedW w.heap.size mb (List.zipWith entW ps E) w' hl hc hi'.mp (fun y hy => by
      obtain ⟨j, hj, rfl⟩ := List.mem_iff_getElem.1 hy
      simp at hj
      rw [List.getElem_zipWith]
      exact hi'.ids _ (List.getElem_mem _))
    rw [ids_zip hi'.len] at this
    exact this
  have HSO := Lib.hid hso
  clear hso hmem hi
  go_enter Try.func13, Try.ntmps13
  go_wp2_with (fail)
  refine (keysW (some mb) w).mono ?_
  rintro e w1 ⟨rfl, rfl⟩
  go_wp2_with (fail)
  refine (HSO.out _ (by repeat (first | with_reducible exact Below.refl _ _ | with_reducible assumption | with_reducible refine below_drewN ?_ _ | with_reducible refine Below.alloc ?_ (by simp <;> omega) _)) (by simp [go_sem]) (by simp)).mono ?_
  rintro e w2 ⟨v, rfl, hrow, hb2⟩
  have hbw : Below w.heap.size w w2 := ((Below.refl _ _).alloc (Nat.le_refl _) _).trans (hb2.mono (by simp))
  obtain ⟨hia, hge⟩ := own_iat (L := idsE E) hrow
  obtain ⟨a, cp, rfl⟩ := hia.slice
  have S2 := h.below hbw
  generalize hII : idsE E = I at *
  have hfewI : I.length ≤ 16 := by omega
  clear hlen
  have HII := Lib.hid hII
  have HIA := Lib.hid hia
  obtain ⟨i0, hi0, hzz⟩ := Option.map_eq_some_iff.1 infoI
  simp only [Prod.mk.injEq] at hzz
  obtain ⟨hz0, hz1, hz2⟩ := hzz
  have HIB := Lib.hid (⟨hi0, hz0, hz1, hz2⟩ : _ ∧ _ ∧ _ ∧ _)
  have HBW := Lib.hid hbw
  have hszw : w.heap.size ≤ w2.heap.size := hbw.size
  clear hrow hb2 hII hia hge hi0 hz0 hz1 hz2 hbw c0
  go_wp2_with (fail)
  go_loopw [16, 5] (fun i o wr => ∃ (k : Nat) (v : Value), k ≤ I.length ∧ i = .int .i64 k ∧ o = v ∧ wr.ownsRow w2.heap.size 3 1 v ((I.take k).filter (hasId E part)).length (iC ((I.take k).filter (hasId E part))) ∧ Below w2.heap.size w2 wr) (fun i _ _ => I.length - (intOf i).toNat)
  case atStart => exact ⟨0, .slice none 0 0, by omega, rfl, rfl, World.ownsRow_nil _ _ _ _, Below.refl _ _⟩
  case round =>
    obtain ⟨k, v, hk, rfl, rfl, hown, hbr⟩ := hrel
    obtain ⟨av, cv, rfl⟩ := own_slice hown
    by_cases hkl : k < I.length
    · have i1 : (k : Int) < I.length := by omega
      have hk1 : k + 1 ≤ I.length := hkl
      obtain ⟨b, rfl, hblt, hcell⟩ : ∃ b, a = some ⟨b, 0, none⟩ ∧ b < w2.heap.size ∧ w2.cell? ⟨b, k, none⟩ = some (.int .i64 I[k]) := by
        rcases HIA.out.is with ⟨_, h0⟩ | ⟨b, cap, h1, h2, h3⟩
        · rw [h0] at hkl; simp at hkl
        · simp only [Value.slice.injEq] at h1
          exact ⟨b, h1.1, h2, h3 k hkl⟩
      have hck := keep hbr hblt hcell
      obtain ⟨j, hj, hid⟩ := HM.out I[k] (List.getElem_mem hkl)
      have hbw2 : Below w.heap.size w wr := HBW.out.trans (hbr.mono hszw)
      have hi2 : WiIn wr pw mb ps E := loc_wi pw mb ps E w wr HI.out (fun k hk => hbw2.block k (HI.out.slt k hk))
      have c2 := hi2.c0
      obtain ⟨p, t, hp, hpv, hlk⟩ := look_wi hi2 j hj
      have hl := hlk false
      simp only [Bool.false_eq_true, if_false] at hl
      have hhas := has_id HNO.out j hj part
      rw [hid] at hl hhas
      obtain ⟨id, hidk⟩ : ∃ id, id = I[k] := ⟨_, rfl⟩
      rw [← hidk] at hck hl hhas
      have hfil : (I.take (k + 1)).filter (hasId E part) = (I.take k).filter (hasId E part) ++ (if hasId E part id then [id] else []) := by
        rw [List.take_succ_eq_append_getElem hkl, List.filter_append, ← hidk]
        cases hb : hasId E part id <;> simp [List.filter, hb]
      obtain ⟨F, hF⟩ : ∃ F, F = (I.take k).filter (hasId E part) := ⟨_, rfl⟩
      rw [← hF] at hown hfil
      have hFl : F.length ≤ 16 := by
        rw [hF]
        exact Nat.le_trans (List.length_filter_le _ _) (by simp; omega)
      have hF' : Hid (((I.take k).filter (hasId E part)).length = F.length) := Lib.hid (by rw [hF])
      have hnr : ¬ pw = wr.heap.size := by have := hi2.lt; omega
      have hwr2 := hbr.size
      have HFI := Lib.hid hfil
      have HH := Lib.hid hhas
      have HO := Lib.hid hown
      rw [hF'.out]
      clear hi2 hlk hpv hp hfil hcell hid hidk hown hF hF' hhas
      by_cases h1 : E[j].fr = part
      · have e1 : (E[j].fr == part) = true := by simp [h1]
        have HT : E[j].has part = true := by unfold Wr.has; rw [e1]; rfl
        clear h1
        go_upto_region 7 with (fail)
        obtain ⟨w6, hw6⟩ : ∃ w6, w6 = wr.alloc (.cells #[.int .i64 E[j].fr, .int .i64 E[j].to_, .iface t (.agg #[.pointer (some ⟨p, 0, none⟩)])] 64) := ⟨_, rfl⟩
        have hb6 : Below w2.heap.size w2 w6 := by rw [hw6]; exact hbr.alloc hwr2 _
        have HO6 := Lib.hid (by have := HO.out.alloc (.cells #[.int .i64 E[j].fr, .int .i64 E[j].to_, .iface t (.agg #[.pointer (some ⟨p, 0, none⟩)])] 64); rw [← hw6] at this; exact this : w6.ownsRow w2.heap.size 3 1 (.slice av F.length cv) F.length (iC F))
        have hz6 : w2.heap.size ≤ w6.heap.size := hb6.size
        rw [← hw6]
        generalize wr.heap.size = br
        clear hw6
        go_wp2_with (at_builtin; go_loud (refine list_app (by rfl) _ _ _ (by rfl) w2.heap.size 3 i0 (.int .i64 0) 1 8 Try.underlying38 HIB.out.1 HIB.out.2.1 HIB.out.2.2.1 HIB.out.2.2.2 rfl (by decide) _ _ _ (by rfl) (HO6.out.alloc _) _ 1 [.int .i64 id] (by rfl) (lit_srcW _ id _) (by intro u hu; simp at hu; subst hu; rfl) (by unfold maxLen; omega) (by omega) (by simp; omega) ?_; refine fun v' w5 ha => Hold.out ?_))
        refine ⟨?_⟩
        have hown5 := ha.own
        obtain ⟨av', cv', rfl⟩ := own_slice hown5
        have hb5 : Below w2.heap.size w2 w5 := ha.on (hb6.alloc hz6 _) (by simp; omega)
        have HW5 := Lib.hid (And.intro hown5 hb5)
        clear ha hown5 hb5
        go_wp2_with (fail)
        go_roundw
        case rel =>
          refine ⟨k + 1, _, hk1, by go_num, rfl, ?_, HW5.out.2⟩
          rw [HFI.out, HH.out, HT, if_pos rfl, List.length_append]
          have := HW5.out.1
          rw [show iC (F ++ [id]) = iC F ++ [.int .i64 id] by simp [iC]]
          exact this
        case measure => simp [intOf]; omega
      · have e1 : (E[j].fr == part) = false := by rw [beq_eq_false_iff_ne]; exact h1
        clear h1
        by_cases h2 : E[j].to_ = part
        · have e2 : (E[j].to_ == part) = true := by simp [h2]
          have HT : E[j].has part = true := by unfold Wr.has; rw [e1, e2]; rfl
          clear h2
          go_upto_region 7 with (fail)
          obtain ⟨w6, hw6⟩ : ∃ w6, w6 = wr.alloc (.cells #[.int .i64 E[j].fr, .int .i64 E[j].to_, .iface t (.agg #[.pointer (some ⟨p, 0, none⟩)])] 64) := ⟨_, rfl⟩
          have hb6 : Below w2.heap.size w2 w6 := by rw [hw6]; exact hbr.alloc hwr2 _
          have HO6 := Lib.hid (by have := HO.out.alloc (.cells #[.int .i64 E[j].fr, .int .i64 E[j].to_, .iface t (.agg #[.pointer (some ⟨p, 0, none⟩)])] 64); rw [← hw6] at this; exact this : w6.ownsRow w2.heap.size 3 1 (.slice av F.length cv) F.length (iC F))
          have hz6 : w2.heap.size ≤ w6.heap.size := hb6.size
          rw [← hw6]
          generalize wr.heap.size = br
          clear hw6
          go_wp2_with (at_builtin; go_loud (refine list_app (by rfl) _ _ _ (by rfl) w2.heap.size 3 i0 (.int .i64 0) 1 8 Try.underlying38 HIB.out.1 HIB.out.2.1 HIB.out.2.2.1 HIB.out.2.2.2 rfl (by decide) _ _ _ (by rfl) (HO6.out.alloc _) _ 1 [.int .i64 id] (by rfl) (lit_srcW _ id _) (by intro u hu; simp at hu; subst hu; rfl) (by unfold maxLen; omega) (by omega) (by simp; omega) ?_; refine fun v' w5 ha => Hold.out ?_))
          refine ⟨?_⟩
          have hown5 := ha.own
          obtain ⟨av', cv', rfl⟩ := own_slice hown5
          have hb5 : Below w2.heap.size w2 w5 := ha.on (hb6.alloc hz6 _) (by simp; omega)
          have HW5 := Lib.hid (And.intro hown5 hb5)
          clear ha hown5 hb5
          go_wp2_with (fail)
          go_roundw
          case rel =>
            refine ⟨k + 1, _, hk1, by go_num, rfl, ?_, HW5.out.2⟩
            rw [HFI.out, HH.out, HT, if_pos rfl, List.length_append]
            have := HW5.out.1
            rw [show iC (F ++ [id]) = iC F ++ [.int .i64 id] by simp [iC]]
            exact this
          case measure => simp [intOf]; omega
        · have e2 : (E[j].to_ == part) = false := by rw [beq_eq_false_iff_ne]; exact h2
          have HT : E[j].has part = false := by unfold Wr.has; rw [e1, e2]; rfl
          clear h2
          go_wp2_with (fail)
          go_roundw
          case rel =>
            refine ⟨k + 1, _, hk1, by go_num, rfl, ?_, hbr.alloc hwr2 _⟩
            rw [HFI.out, HH.out, HT]
            simp only [Bool.false_eq_true, if_false, List.append_nil]
            exact HO.out.alloc _
          case measure => simp [intOf]; omega
    · obtain rfl : I.length = k := by omega
      rw [List.take_length] at hown
      have hres := own_iat hown
      rw [← HII.out] at hres
      have HRES := Lib.hid hres
      have S3 := Lib.hid (S2.ints_new (v := .slice av (List.filter (hasId E part) (I.take I.length)).length cv) (L := ofL E part) hbr (by rw [List.take_length, ← HII.out]; exact HRES.out.1) (fun k hk => HRES.out.2 k (by rw [List.take_length, ← HII.out] at hk; exact hk)))
      clear hown hres
      go_wp2_with (fail)
      go_ret
      exact ⟨_, rfl, S3.out⟩

end Go.Proofs.Ytffacjbnjcolgaa
