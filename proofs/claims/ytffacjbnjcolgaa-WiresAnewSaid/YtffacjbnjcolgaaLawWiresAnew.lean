/- WiresAnew: always true. -/
import Derived.Test.YtffacjbnjcolgaaAnewPlain
import Derived.Test.YtffacjbnjcolgaaClass
namespace Go.Proofs.Ytffacjbnjcolgaa
set_option linter.unusedSimpArgs false
set_option linter.unusedVariables false
set_option maxRecDepth 100000
open Go.RowKit
set_option maxHeartbeats 40000000

/-- What there is behind the drop: the array of lists, the dropped one's list, the wires that are left. -/
def anewP (b pw : Nat) (V : Nat → Value) (E : List Wr) (vo : Value) (O : List Int) (w : World) : HP := arrP b V * (listsP E V 8 * (intsP vo O * (wiP pw (leftE E O) * whole w)))
theorem anew_row {g w' : World} {b pw : Nat} {V : Nat → Value} {E : List Wr} {vo : Value} {O : List Int} {w : World} (h : Sat g w' (anewP b pw V E vo O w)) (n : Nat) (hn : n < 8) : b < w'.heap.size ∧ w'.cell? ⟨b, n, none⟩ = some (V n) ∧ IAt w' (V n) (ofL E n) ∧ IAt w' vo O := by
  unfold anewP at h
  have hr : RowF w' b 8 V := Sat.inv h
  have h2 := h.right
  exact ⟨hr.lt, hr.cell n hn, lists_at h2 n hn, h2.right.ints⟩
theorem take_has (O : List Int) (k : Nat) (hk : k < O.length) (x : Int) : (O.take (k + 1)).contains x = ((O.take k).contains x || (O[k] == x)) := by
  rw [List.take_succ_eq_append_getElem hk]
  rw [Bool.eq_iff_iff]
  simp only [List.contains_eq_mem, Bool.or_eq_true, decide_eq_true_eq, List.mem_append, List.mem_singleton, beq_iff_eq]
  constructor
  · rintro (h | h)
    · exact Or.inl h
    · exact Or.inr h.symm
  · rintro (h | h)
    · exact Or.inl h
    · exact Or.inr h.symm
theorem one_src {w : World} {x : Int} {b : Nat} (hlt : b < w.heap.size) (hc : w.cell? ⟨b, 0, none⟩ = some (.int .u64 x)) : SrcN w (.slice (some ⟨b, 0, none⟩) 1 1) [x] :=
  Or.inr ⟨rfl, Or.inr ⟨b, 0, 1, rfl, fun j u hj => by
    cases j with
    | zero => simp [uC] at hj; subst hj; exact hc
    | succ j => simp [uC] at hj, fun _ => hlt⟩⟩

theorem anew_walk (a : Option Addr) (len cap : Nat) (L : Nat → Op19) (part : Int) (w : World) (hL : Ops19 w a len L) (hm : len ≤ 9223372036854775807) :
    Calls Try.prog 4 #[.slice a len cap, .int .i64 part] w fun e w' => e = .returned (.bool true) ∧ Below w.heap.size w w' := by
  have HK := Lib.hid hL.kept
  clear hL
  have HA := Lib.hid (awake19 w w _ (Sat.start w))
  by_cases hl : 60 < len
  · go_enter Try.func4, Try.ntmps4
    go_wp2_with (fail)
    refine HA.out.mono ?_
    rintro e w1 ⟨rfl, S0⟩
    go_wp2_with (fail)
    refine (s_wnew w _ _ S0).mono ?_
    rintro e w2 ⟨pw, rfl, S1⟩
    go_wp2_with (fail)
    go_ret
    exact ⟨rfl, Sat.ends (S1.perm (star_comm _ _))⟩
  go_enter Try.func4, Try.ntmps4
  go_wp2_with (fail)
  refine HA.out.mono ?_
  rintro e w1 ⟨rfl, S0⟩
  clear HA
  go_wp2_with (fail)
  refine (s_wnew w _ _ S0).mono ?_
  rintro e w2 ⟨pw, rfl, S1⟩
  clear S0
  go_wp2_with (fail)
  go_loopw [7] (fun i wr => ∃ k : Nat, k ≤ len ∧ i = .int .i64 k ∧ ∃ E, Sat w wr (wiP pw E * whole w)) (fun i _ => len - (intOf i).toNat)
  case atStart => exact ⟨0, by omega, rfl, _, S1⟩
  case round =>
    obtain ⟨k, hk, rfl, E, S2⟩ := hrel
    clear S1
    by_cases hkl : k < len
    · have i1 : (k : Int) < len := by omega
      have hk1 : k + 1 ≤ len := hkl
      obtain ⟨b, off, rfl, hblt, hop⟩ := HK.out k hkl
      have hop1 := hop wr (Sat.ends (S2.perm (star_comm _ _)))
      have HOP := Lib.hid hop
      generalize L k = o at hop1 HOP
      have S3 := S2.drew
      have m1 : ∀ z : Wc (fun w' => wr.drew = w'), z.w.cell? ⟨b, off + k * 7 + 1, none⟩ = some (.int .i64 o.id) := fun z => by rw [← z.h]; exact hop1.c1
      have m2 : ∀ z : Wc (fun w' => wr.drew = w'), z.w.cell? ⟨b, off + k * 7 + 2, none⟩ = some (.int .i64 o.fr) := fun z => by rw [← z.h]; exact hop1.c2
      have m3 : ∀ z : Wc (fun w' => wr.drew = w'), z.w.cell? ⟨b, off + k * 7 + 3, none⟩ = some (.int .i64 o.to_) := fun z => by rw [← z.h]; exact hop1.c3
      have m4 : ∀ z : Wc (fun w' => wr.drew = w'), z.w.cell? ⟨b, off + k * 7 + 4, none⟩ = some (.int .i64 o.kind) := fun z => by rw [← z.h]; exact hop1.c4
      clear hop hop1 S2
      go_wp2_with (fail)
      (refine region_tail (fun w' => wr.drew = w') 21 (by kernel_rfl) (by kernel_rfl) (rfl) ?_; intro _; simp only [List.take_succ_cons, List.take_zero, List.drop_succ_cons, List.drop_zero]; (repeat (first | go_big_quiet_step ((fail)) | quiet_step ((fail)))); refine wpQuiet_nil ?_; intro wz hz)
      subst hz
      clear m1 m2 m3 m4
      go_wp2_with (fail)
      refine (any_bind pw E o.id o.fr o.to_ o.kind w _ _ S3).mono ?_
      rintro e w4 ⟨k4, rfl, E4, S4⟩
      have hop4 := HOP.out w4 (Sat.ends (S4.perm (star_comm _ _)))
      have hS : ∀ w', Below w4.heap.size w4 w' → (w'.cell? ⟨b, off + k * 7 + 1, none⟩ = some (.int .i64 o.id) ∧ w'.cell? ⟨b, off + k * 7 + 2, none⟩ = some (.int .i64 o.fr)) := fun w' hb => ⟨keep hb (cell_lt17 hop4.c1) hop4.c1, keep hb (cell_lt17 hop4.c2) hop4.c2⟩
      have hS2 : ∀ w' E', Sat w w' (wiP pw E' * whole w) → (w'.cell? ⟨b, off + k * 7 + 1, none⟩ = some (.int .i64 o.id) ∧ w'.cell? ⟨b, off + k * 7 + 2, none⟩ = some (.int .i64 o.fr)) := fun w' E' hs => ⟨(HOP.out w' (Sat.ends (hs.perm (star_comm _ _)))).c1, (HOP.out w' (Sat.ends (hs.perm (star_comm _ _)))).c2⟩
      have HSD : Hid (∀ w', Below w4.heap.size w4 w' → w4.heap.size < w'.heap.size → w'.cell? ⟨w4.heap.size, 0, none⟩ = some (.int .u64 7) → Calls Try.prog 11 #[.pointer (some ⟨pw, 0, none⟩), .int .i64 o.id, .int .i64 o.fr, .slice (some ⟨w4.heap.size, 0, none⟩) 1 1, .int .i64 0] w' fun e w'' => ∃ k, e = .returned (.int .i64 k) ∧ ∃ E', Sat w w'' (wiP pw E' * whole w)) := Lib.hid fun w' hb hlt hc => any_send pw E4 o.id o.fr _ [7] 0 w w' _ (S4.below hb) (one_src hlt hc)
      clear hop4 S3 S4 HOP
      go_wp2_with (fail)
      go_region_held3 (fun w' => w'.cell? ⟨b, off + k * 7 + 1, none⟩ = some (.int .i64 o.id) ∧ w'.cell? ⟨b, off + k * 7 + 2, none⟩ = some (.int .i64 o.fr)) (first | (refine hS _ ?_; (repeat (first | with_reducible exact Below.refl _ _ | with_reducible assumption | with_reducible refine below_drewN ?_ _ | with_reducible refine Below.drew ?_ | with_reducible refine Below.setCell ?_ (by first | omega | (simp <;> omega)) _ | with_reducible refine Below.alloc ?_ (by first | omega | (simp <;> omega)) _)); done) | (exact hS2 _ _ (by assumption))) ((go_at_call 11; refine (HSD.out _ (by repeat (first | with_reducible exact Below.refl _ _ | with_reducible assumption | with_reducible refine below_drewN ?_ _ | with_reducible refine Below.drew ?_ | with_reducible refine Below.setCell ?_ (by first | omega | (simp <;> omega)) _ | with_reducible refine Below.alloc ?_ (by first | omega | (simp <;> omega)) _)) (by simp) (by simp [go_sem])).mono ?_; rintro e w6 ⟨k6, rfl, E6, S6⟩))
      go_wp2_with (fail)
      go_roundw
      case rel => exact ⟨k + 1, hk1, by go_num, _, S6⟩
      case measure => simp [intOf]; omega
    · obtain rfl : len = k := by omega
      clear HK
      obtain ⟨wo, rfl⟩ : ∃ wo : World, wo = wr := ⟨_, rfl⟩
      have S3 : Sat w (wo.alloc (.cells (List.replicate 8 (Value.slice none 0 0)).toArray 39)) (arrP wo.heap.size (fun _ => .slice none 0 0) * (listsP E (fun _ => .slice none 0 0) 0 * (wiP pw E * whole w))) := by
        have := S2.new (w' := wo.alloc (.cells (List.replicate 8 (Value.slice none 0 0)).toArray 39)) (S' := fun k => k = wo.heap.size) (by repeat (first | with_reducible exact Below.refl _ _ | with_reducible assumption | with_reducible refine below_drewN ?_ _ | with_reducible refine Below.alloc ?_ (by simp <;> omega) _)) ((RowF.new wo (List.replicate 8 (Value.slice none 0 0)) 39).congr (V' := fun _ => .slice none 0 0) (fun j hj => by rw [List.getD_eq_getElem?_getD, List.getElem?_replicate, if_pos (by simpa using hj)]; rfl)) (loc_arr _ _) (fun k hk => by omega) (fun k hk => by subst hk; simp)
        refine this.perm ?_
        show _ = _ * (emp * _)
        rw [emp_star]; rfl
      have HS3 := Lib.hid S3
      obtain ⟨b, hb⟩ : ∃ b, b = wo.heap.size := ⟨_, rfl⟩
      rw [← hb] at HS3
      clear S3 S2
      go_wp2_with (fail)
      go_upto_region 11 with (fail)
      rw [← hb]
      obtain ⟨w3, hw3⟩ : ∃ w3, w3 = wo.alloc (.cells #[.slice none 0 0, .slice none 0 0, .slice none 0 0, .slice none 0 0, .slice none 0 0, .slice none 0 0, .slice none 0 0, .slice none 0 0] 39) := ⟨_, rfl⟩
      rw [show wo.alloc (.cells (List.replicate 8 (Value.slice none 0 0)).toArray 39) = w3 from hw3.symm] at HS3
      rw [← hw3]
      clear hw3 hb
      go_loopw [9] (fun i wr => ∃ (k : Nat) (V : Nat → Value), k ≤ 8 ∧ i = .int .i64 k ∧ Sat w wr (arrP b V * (listsP E V k * (wiP pw E * whole w)))) (fun i _ => 8 - (intOf i).toNat)
      case atStart => exact ⟨0, _, by omega, rfl, HS3.out⟩
      case round =>
        obtain ⟨k, V, hk, rfl, S4⟩ := hrel
        clear HS3
        by_cases hk8 : k < 8
        · have i1 : (k : Int) < 8 := by omega
          have hk1 : k + 1 ≤ 8 := hk8
          go_wp2_with (fail)
          refine (s_of pw E k w _ _ (S4.perm (show _ = wiP pw E * (arrP b V * (listsP E V k * whole w)) by ac_rfl))).mono ?_
          rintro e w5 ⟨v, rfl, S5⟩
          obtain ⟨av, cv, rfl⟩ := S5.ints.slice
          have S6 : Sat w w5 (arrP b V * (intsP (.slice av (ofL E k).length cv) (ofL E k) * (listsP E V k * (wiP pw E * whole w)))) := S5.perm (by ac_rfl)
          have hrow : RowF w5 b 8 V := Sat.inv S6
          have c1 := hrow.cell k hk8
          have f1 := hrow.free k hk8
          have S7 := arr_set S6 k hk8 (.slice av (ofL E k).length cv)
          have S8 : Sat w (w5.setCell ⟨b, k, none⟩ (.slice av (ofL E k).length cv)) (arrP b (fun j => if j = k then .slice av (ofL E k).length cv else V j) * (listsP E (fun j => if j = k then .slice av (ofL E k).length cv else V j) (k + 1) * (wiP pw E * whole w))) := by
            rw [lists_succ]
            exact S7.perm (by ac_rfl)
          have HS8 := Lib.hid S8
          clear S5 S6 S7 S8 hrow S4
          go_wp2_with (fail)
          go_roundw
          case rel => exact ⟨k + 1, _, hk1, by go_num, HS8.out⟩
          case measure => simp [intOf]; omega
        · obtain rfl : k = 8 := by omega
          have hnd : (E.map (·.id)).Nodup := by obtain ⟨mb, ps, hi, _⟩ := (S4.perm (show _ = wiP pw E * (arrP b V * (listsP E V 8 * whole w)) by ac_rfl)).wi; exact hi.nodup
          have hOn := of_nodup hnd part
          have hOr : ∀ id ∈ ofL E part, 0 ≤ id ∧ id < 16 := fun id hid => by
            obtain ⟨x, hx, rfl, _⟩ := of_mem hid
            obtain ⟨mb, ps, hi, _⟩ := (S4.perm (show _ = wiP pw E * (arrP b V * (listsP E V 8 * whole w)) by ac_rfl)).wi
            exact hi.ids x hx
          have hO0 : ofL (leftE E (ofL E part)) part = [] := of_left_self E part
          have hl16 : (ofL E part).length ≤ 16 := by
            obtain ⟨mb, ps, hi, _⟩ := (S4.perm (show _ = wiP pw E * (arrP b V * (listsP E V 8 * whole w)) by ac_rfl)).wi
            have h1 := sub_lenW (ofL E part) (E.map (·.id)) hOn (fun x hx => by obtain ⟨y, h1, h2, _⟩ := of_mem hx; exact List.mem_map.2 ⟨y, h1, h2⟩)
            have := wi_few hi
            simp at h1
            omega
          have HOF := Lib.hid (s_of pw E part w wr _ (S4.perm (show _ = wiP pw E * (arrP b V * (listsP E V 8 * whole w)) by ac_rfl)))
          have HDR : Hid (∀ w' R, Sat w w' (wiP pw E * R) → Calls Try.prog 14 #[.pointer (some ⟨pw, 0, none⟩), .int .i64 part] w' fun e w'' => e = .returned (.int .i64 (ofL E part).length) ∧ Sat w w'' (wiP pw (leftE E (ofL E part)) * R)) := Lib.hid fun w' R h => s_wdrop pw E part w w' R h
          have HWI := Lib.hid (S4.perm (show _ = wiP pw E * (arrP b V * (listsP E V 8 * whole w)) by ac_rfl))
          obtain ⟨O, hO⟩ : ∃ O, O = ofL E part := ⟨_, rfl⟩
          rw [← hO] at hOn hOr hO0 HOF HDR hl16
          have HOO := Lib.hid hO
          have HON := Lib.hid (And.intro hOn hOr)
          have HO0 := Lib.hid hO0
          clear hO hOn hOr hO0 S4 hnd
          go_wp2_with (fail)
          refine HOF.out.mono ?_
          rintro e w5 ⟨vo, rfl, S5⟩
          clear HOF
          obtain ⟨ao, co, rfl⟩ := S5.ints.slice
          go_wp2_with (fail)
          refine (HDR.out w5 _ S5.swap).mono ?_
          rintro e w6 ⟨rfl, S6⟩
          go_wp2_with (fail)
          refine (s_of pw (leftE E O) part w _ _ S6).mono ?_
          rintro e w7 ⟨v7, rfl, S7⟩
          rw [HO0.out] at S7
          obtain ⟨a7, c7, rfl⟩ := S7.ints.slice
          have S8 := S7.right
          go_wp2_with (fail)
          refine (s_wdrop pw (leftE E O) part w _ _ S8).mono ?_
          rintro e w8 ⟨rfl, S9⟩
          rw [HO0.out, left_nil] at S9
          rw [HO0.out]
          have S10 : Sat w w8 (anewP b pw V E (.slice ao O.length co) O w) := S9.perm (by unfold anewP; ac_rfl)
          clear S5 S6 S7 S8 S9 HO0 HDR
          obtain ⟨i0, hi0, hzz⟩ := Option.map_eq_some_iff.1 infoI
          simp only [Prod.mk.injEq] at hzz
          obtain ⟨hz0, hz1, hz2⟩ := hzz
          have HIB := Lib.hid (⟨hi0, hz0, hz1, hz2⟩ : _ ∧ _ ∧ _ ∧ _)
          clear hi0 hz0 hz1 hz2
          have hofl : ∀ n : Nat, (ofL E n).length ≤ 16 := fun n => by
            obtain ⟨mb, ps, hi, _⟩ := (HWI.out).wi
            have h1 := sub_lenW (ofL E n) (E.map (·.id)) (of_nodup hi.nodup n) (fun x hx => by obtain ⟨y, h1, h2, _⟩ := of_mem hx; exact List.mem_map.2 ⟨y, h1, h2⟩)
            have := wi_few hi
            simp at h1
            omega
          have HOFL := Lib.hid hofl
          clear hofl HWI
          go_wp2_with (fail)
          go_loopw [11] (fun i wr => ∃ n : Nat, n ≤ 8 ∧ i = .int .i64 n ∧ Sat w wr (anewP b pw V E (.slice ao O.length co) O w)) (fun i _ => 8 - (intOf i).toNat)
          case atStart => exact ⟨0, by omega, rfl, S10⟩
          case round =>
            obtain ⟨n, hn, rfl, S11⟩ := hrel
            clear S10
            obtain ⟨wn, rfl⟩ : ∃ wn : World, wn = wr := ⟨_, rfl⟩
            by_cases hn8 : n < 8
            · have i1 : (n : Int) < 8 := by omega
              have hn1 : n + 1 ≤ 8 := hn8
              obtain ⟨hbl, hbc, hln, hlo⟩ := anew_row S11 n hn8
              have HS11 := Lib.hid S11
              have hL16 := HOFL.out n
              have hleft := of_left E O n
              obtain ⟨Ln, hLn⟩ : ∃ Ln, Ln = ofL E n := ⟨_, rfl⟩
              rw [← hLn] at hln hL16 hleft
              have HLEFT := Lib.hid hleft
              obtain ⟨an, cn, hvn⟩ := hln.slice
              rw [hvn] at hbc hln
              have HLN := Lib.hid hln
              have HLO := Lib.hid hlo
              clear hLn hleft hvn hln hlo S11
              go_wp2_with (fail)
              go_loopw [13, 12] (fun i o wr => ∃ (j : Nat) (v : Value), j ≤ Ln.length ∧ i = .int .i64 j ∧ o = v ∧ wr.ownsRow wn.heap.size 3 1 v ((Ln.take j).filter (fun x => !O.contains x)).length (iC ((Ln.take j).filter (fun x => !O.contains x))) ∧ Below wn.heap.size wn wr) (fun i _ _ => Ln.length - (intOf i).toNat)
              case atStart => exact ⟨0, .slice none 0 0, by omega, rfl, rfl, World.ownsRow_nil _ _ _ _, Below.refl _ _⟩
              case round =>
                obtain ⟨j, v, hj, rfl, rfl, hown, hbj⟩ := hrel
                obtain ⟨wj, rfl⟩ : ∃ wj : World, wj = wr := ⟨_, rfl⟩
                obtain ⟨av, cv, rfl⟩ := own_slice hown
                have hzj := hbj.size
                have hbcj := keep hbj hbl hbc
                by_cases hjl : j < Ln.length
                · have i2 : (j : Int) < Ln.length := by omega
                  have hj1 : j + 1 ≤ Ln.length := hjl
                  obtain ⟨bn, rfl, hbnl, hnc⟩ := HLN.out.cell j hjl
                  obtain ⟨id, hid⟩ : ∃ id, id = Ln[j] := ⟨_, rfl⟩
                  rw [← hid] at hnc
                  have hfil : (Ln.take (j + 1)).filter (fun x => !O.contains x) = (Ln.take j).filter (fun x => !O.contains x) ++ (if O.contains id then [] else [id]) := by
                    rw [List.take_succ_eq_append_getElem hjl, List.filter_append, ← hid]
                    rw [List.filter_cons, List.filter_nil]
                    rcases Bool.eq_false_or_eq_true (O.contains id) with hb | hb <;> rw [hb] <;> rfl
                  obtain ⟨F, hF⟩ : ∃ F, F = (Ln.take j).filter (fun x => !O.contains x) := ⟨_, rfl⟩
                  rw [← hF] at hown hfil
                  have hFl : F.length ≤ 16 := by
                    rw [hF]
                    exact Nat.le_trans (List.length_filter_le _ _) (by simp; omega)
                  have hF' : Hid (((Ln.take j).filter (fun x => !O.contains x)).length = F.length) := Lib.hid (by rw [hF])
                  have HFI := Lib.hid hfil
                  have HO := Lib.hid hown
                  rw [hF'.out]
                  clear hfil hid hown hF hF'
                  go_wp2_with (fail)
                  go_loopw [15, 14] (fun i g wr => ∃ k : Nat, k ≤ O.length ∧ i = .int .i64 k ∧ g = .bool ((O.take k).contains id) ∧ Below wj.heap.size wj wr) (fun i _ _ => O.length - (intOf i).toNat)
                  case atStart => exact ⟨0, by omega, rfl, by simp, Below.refl _ _⟩
                  case round =>
                    obtain ⟨k, hk, rfl, rfl, hbk⟩ := hrel
                    have hbnk : Below wn.heap.size wn wr := hbj.trans (hbk.mono hzj)
                    have q1 := keep hbnk hbl hbc
                    have q2 := keep hbnk hbnl hnc
                    by_cases hkl : k < O.length
                    · have i3 : (k : Int) < O.length := by omega
                      have hk1 : k + 1 ≤ O.length := hkl
                      obtain ⟨bo, rfl, hbol, hoc⟩ := HLO.out.cell k hkl
                      have q3 := keep hbnk hbol hoc
                      have htk := take_has O k hkl id
                      obtain ⟨y, hy⟩ : ∃ y, y = O[k] := ⟨_, rfl⟩
                      rw [← hy] at q3 htk
                      obtain ⟨gb, hgb⟩ : ∃ gb, gb = (O.take k).contains id := ⟨_, rfl⟩
                      rw [← hgb] at htk
                      have HTK := Lib.hid htk
                      have hbd : Below wj.heap.size wj wr.drew := below_drew hbk
                      have m1 : ∀ z : Wc (fun w' => wr.drew = w'), z.w.cell? ⟨b, n, none⟩ = some (.slice (some ⟨bn, 0, none⟩) Ln.length cn) := fun z => by rw [← z.h]; exact q1
                      have m2 : ∀ z : Wc (fun w' => wr.drew = w'), z.w.cell? ⟨bn, j, none⟩ = some (.int .i64 id) := fun z => by rw [← z.h]; exact q2
                      have m3 : ∀ z : Wc (fun w' => wr.drew = w'), z.w.cell? ⟨bo, k, none⟩ = some (.int .i64 y) := fun z => by rw [← z.h]; exact q3
                      rw [← hgb]
                      clear htk hgb hy hoc q1 q2 q3
                      cases gb with
                      | true =>
                        have HT : Hid ((O.take (k + 1)).contains id = true) := Lib.hid (by rw [HTK.out]; rfl)
                        go_wp2_with (fail)
                        (refine region_class (fun w' => wr.drew = w') (by kernel_rfl) (by kernel_rfl) (rfl) ?_; intro _; (repeat (first | go_big_quiet_step ((fail)) | quiet_step ((fail)))); refine wpQuiet_nil ?_; intro wz hz)
                        subst hz
                        clear m1 m2 m3
                        go_wp2_with (fail)
                        go_roundw
                        case rel => exact ⟨k + 1, hk1, by go_num, by rw [HT.out], hbd⟩
                        case measure => simp [intOf]; omega
                      | false =>
                        by_cases hye : y = id
                        · have hyb : (y == id) = true := by simp [hye]
                          have HT : Hid ((O.take (k + 1)).contains id = true) := Lib.hid (by rw [HTK.out, hyb]; rfl)
                          clear hye
                          go_wp2_with (fail)
                          (refine region_class (fun w' => wr.drew = w') (by kernel_rfl) (by kernel_rfl) (rfl) ?_; intro _; (repeat (first | go_big_quiet_step ((fail)) | quiet_step ((fail)))); refine wpQuiet_nil ?_; intro wz hz)
                          subst hz
                          clear m1 m2 m3
                          go_wp2_with (fail)
                          go_roundw
                          case rel => exact ⟨k + 1, hk1, by go_num, by rw [HT.out], hbd⟩
                          case measure => simp [intOf]; omega
                        · have hyb : (y == id) = false := by simpa using hye
                          have HT : Hid ((O.take (k + 1)).contains id = false) := Lib.hid (by rw [HTK.out, hyb]; rfl)
                          clear hye
                          go_wp2_with (fail)
                          (refine region_class (fun w' => wr.drew = w') (by kernel_rfl) (by kernel_rfl) (rfl) ?_; intro _; (repeat (first | go_big_quiet_step ((fail)) | quiet_step ((fail)))); refine wpQuiet_nil ?_; intro wz hz)
                          subst hz
                          clear m1 m2 m3
                          go_wp2_with (fail)
                          go_roundw
                          case rel => exact ⟨k + 1, hk1, by go_num, by rw [HT.out], hbd⟩
                          case measure => simp [intOf]; omega
                    · obtain rfl : k = O.length := by omega
                      rw [List.take_length]
                      have hwn2 := hbnk.size
                      obtain ⟨gb, hgb⟩ : ∃ gb, gb = O.contains id := ⟨_, rfl⟩
                      have HGB := Lib.hid hgb
                      rw [← hgb]
                      have hown2 : wr.ownsRow wn.heap.size 3 1 (.slice av F.length cv) F.length (iC F) := own_heapW HO.out (fun g hg => hbk.block g (World.ownsRow.lt HO.out g hg).2)
                      have HO2 := Lib.hid hown2
                      clear hgb hown2 HO
                      cases gb with
                      | true =>
                        go_wp2_with (fail)
                        go_roundw
                        case rel =>
                          refine ⟨j + 1, _, hj1, by go_num, rfl, ?_, hbnk⟩
                          rw [HFI.out, ← HGB.out, if_pos rfl, List.append_nil]
                          exact HO2.out
                        case measure => simp [intOf]; omega
                      | false =>
                        go_upto_region 31 with (fail)
                        go_wp2_with (at_builtin; go_loud (refine list_app (by rfl) _ _ _ (by rfl) wn.heap.size 3 i0 (.int .i64 0) 1 8 Try.underlying38 HIB.out.1 HIB.out.2.1 HIB.out.2.2.1 HIB.out.2.2.2 rfl (by decide) _ _ _ (by rfl) (HO2.out.alloc _) _ 1 [.int .i64 id] (by rfl) (lit_srcW _ id _) (by intro u hu; simp at hu; subst hu; rfl) (by unfold maxLen; omega) (by omega) (by simp; omega) ?_; refine fun v' w15 ha => Hold.out ?_))
                        refine ⟨?_⟩
                        have hown5 := ha.own
                        obtain ⟨av', cv', rfl⟩ := own_slice hown5
                        have hb5 : Below wn.heap.size wn w15 := ha.on (hbnk.alloc hwn2 _) (by simp; omega)
                        have HW5 := Lib.hid (And.intro hown5 hb5)
                        clear ha hown5 hb5
                        go_wp2_with (fail)
                        go_roundw
                        case rel =>
                          refine ⟨j + 1, _, hj1, by go_num, rfl, ?_, HW5.out.2⟩
                          rw [HFI.out, ← HGB.out, if_neg (by simp), List.length_append]
                          have := HW5.out.1
                          rw [show iC (F ++ [id]) = iC F ++ [.int .i64 id] by simp [iC]]
                          exact this
                        case measure => simp [intOf]; omega
                · obtain rfl : j = Ln.length := by omega
                  rw [List.take_length] at hown
                  simp only [List.take_length]
                  have hleft := HLEFT.out
                  obtain ⟨F, hF⟩ : ∃ F, F = Ln.filter (fun x => !O.contains x) := ⟨_, rfl⟩
                  have hFl : F.length ≤ 16 := by
                    rw [hF]
                    exact Nat.le_trans (List.length_filter_le _ _) hL16
                  rw [← hF] at hown hleft
                  have HLF := Lib.hid hleft
                  have hia := own_iat hown
                  have S13 := HS11.out.ints_new (v := .slice av F.length cv) (L := F) hbj hia.1 hia.2
                  have S14 : Sat w wj (wiP pw (leftE E O) * (intsP (.slice av F.length cv) F * (arrP b V * (listsP E V 8 * (intsP (.slice ao O.length co) O * whole w))))) := S13.perm (by unfold anewP; ac_rfl)
                  rw [← hF]
                  clear hF hown hia S13 hleft HLEFT
                  go_wp2_with (fail)
                  refine (s_of pw (leftE E O) n w _ _ S14).mono ?_
                  rintro e w15 ⟨v2, rfl, S15⟩
                  rw [HLF.out] at S15
                  obtain ⟨a2, c2, rfl⟩ := S15.ints.slice
                  have hA : ListAt w15 av F := S15.right.right.ints.list
                  have hB : ListAt w15 a2 F := S15.ints.list
                  have HAB := Lib.hid (And.intro hA hB)
                  have S16 : Sat w w15 (anewP b pw V E (.slice ao O.length co) O w) := S15.right.swap.right.perm (by unfold anewP; ac_rfl)
                  clear S14 S15 hA hB
                  go_wp2_with (fail)
                  refine (same3 av a2 cv c2 F F w15 HAB.out.1 HAB.out.2 (by omega)).mono ?_
                  rintro e w16 ⟨rfl, hb16⟩
                  rw [decide_eq_true rfl]
                  have S17 := Lib.hid (S16.below hb16)
                  clear S16 hb16
                  go_wp2_with (fail)
                  go_roundw
                  case rel => exact ⟨n + 1, hn1, by go_num, S17.out⟩
                  case measure => simp [intOf]; omega
            · obtain rfl : n = 8 := by omega
              simp only [show ((8 : Nat) : Int) = 8 from rfl]
              have S12 : Sat w wn (intsP (.slice ao O.length co) O * (wiP pw (leftE E O) * whole w)) := S11.right.right
              have hfr := Lib.hid (fresh_start E O)
              clear S11
              go_wp2_with (fail)
              go_loopw [17] (fun i wr => ∃ (k : Nat) (E3 : List Wr), k ≤ O.length ∧ i = .int .i64 k ∧ Hid (Fresh19 O k E3) ∧ Sat w wr (intsP (.slice ao O.length co) O * (wiP pw E3 * whole w))) (fun i _ => O.length - (intOf i).toNat)
              case atStart => exact ⟨0, _, by omega, rfl, hfr, S12⟩
              case round =>
                obtain ⟨k, E3, hk, rfl, hfr3, S18⟩ := hrel
                clear S12 hfr
                by_cases hkl : k < O.length
                · have i3 : (k : Int) < O.length := by omega
                  have hk1 : k + 1 ≤ O.length := hkl
                  obtain ⟨bo, rfl, hbol, hoc⟩ := S18.ints.cell k hkl
                  have ho : okW O[k] 0 1 := by
                    have := HON.out.2 O[k] (List.getElem_mem hkl)
                    unfold okW; omega
                  have hne : ∀ y ∈ E3, y.id ≠ O[k] := hfr3.out O[k] (by rw [List.drop_eq_getElem_cons hkl]; exact List.mem_cons_self)
                  obtain ⟨x, hx, hx2⟩ := new_some k
                  have HST : Hid (∀ fr to_ x, Fresh19 O (k + 1) (E3 ++ [⟨O[k], fr, to_, x⟩])) := Lib.hid fun fr to_ x => fresh_step HON.out.1 hkl hfr3.out fr to_ x
                  have hand := i64_and1 k
                  obtain ⟨kk, hkk⟩ : ∃ kk : Int, kk = (k : Int) % 2 := ⟨_, rfl⟩
                  rw [← hkk] at hx hand
                  obtain ⟨id, hid⟩ : ∃ id, id = O[k] := ⟨_, rfl⟩
                  rw [← hid] at ho hne hoc HST
                  have HOX := Lib.hid (And.intro ho (And.intro hne (And.intro hx hx2)))
                  have HID := Lib.hid hid
                  clear hkk hid ho hne hx hx2 hfr3
                  go_wp2_with (fail)
                  refine (bind_ok pw E3 id 0 1 kk x HOX.out.2.2.1 HOX.out.1 HOX.out.2.1 w _ _ S18.swap).mono ?_
                  rintro e w21 ⟨rfl, S21⟩
                  obtain ⟨bo', hbe, -, hoc2⟩ := S21.swap.ints.cell k hkl
                  simp only [Option.some.injEq, Addr.mk.injEq, and_true] at hbe
                  subst hbe
                  rw [← HID.out] at hoc2
                  clear hoc S18
                  go_wp2_with (fail)
                  refine (recv_new pw E3 id 0 1 x HOX.out.2.2.2 w _ _ S21).mono ?_
                  rintro e w22 ⟨rfl, S22⟩
                  clear S21 hoc2
                  go_wp2_with (fail)
                  go_roundw
                  case rel =>
                    have HR := Lib.hid (HST.out 0 1 x)
                    have HS := S22.swap
                    clear HST HOX S22
                    first
                    | exact ⟨k + 1, _, hk1, by go_num, HR, HS⟩
                    | ((repeat apply Exists.intro); exact ⟨⟨hk1, by go_num, HR, HS⟩, rfl⟩)
                    | (refine ⟨_, ⟨k + 1, _, hk1, by go_num, HR, HS⟩, rfl⟩)
                    | (refine ⟨_, _, ⟨k + 1, _, hk1, by go_num, HR, HS⟩, rfl⟩)
                  case measure => simp [intOf]; omega
                · obtain rfl : k = O.length := by omega
                  have HE := Lib.hid (Sat.ends (S18.right.perm (star_comm _ _)))
                  clear S18
                  go_wp2_with (fail)
                  go_ret
                  exact ⟨rfl, HE.out⟩

end Go.Proofs.Ytffacjbnjcolgaa
