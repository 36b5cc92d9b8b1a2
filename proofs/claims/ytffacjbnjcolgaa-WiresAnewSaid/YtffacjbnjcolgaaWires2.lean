/- Bind, Send, Recv of package wires. -/
import Derived.Test.YtffacjbnjcolgaaWires
namespace Go.Proofs.Ytffacjbnjcolgaa
set_option linter.unusedSimpArgs false
set_option linter.unusedVariables false
set_option maxRecDepth 100000
open Go.RowKit
set_option maxHeartbeats 4000000

/-- May a wire be laid? -/
def okW (id fr to_ : Int) : Prop := (0 ≤ id ∧ id < 16) ∧ (0 ≤ fr ∧ fr < 8) ∧ (0 ≤ to_ ∧ to_ < 8) ∧ fr ≠ to_
inductive Bound (g : World) (pw : Nat) (E : List Wr) (id fr to_ kind : Int) (R : HP) (e : Ending) (w' : World) : Prop
  | bad (h : newPort kind = none ∨ ¬ okW id fr to_) (he : e = .returned (.int .i64 1)) (hs : Sat g w' (wiP pw E * R))
  | twice (x : PortS) (hx : newPort kind = some x) (ho : okW id fr to_) (hm : ∃ y ∈ E, y.id = id) (he : e = .returned (.int .i64 4)) (hs : Sat g w' (wiP pw E * R))
  | ok (x : PortS) (hx : newPort kind = some x) (ho : okW id fr to_) (hn : ∀ y ∈ E, y.id ≠ id) (he : e = .returned (.int .i64 0)) (hs : Sat g w' (wiP pw (E ++ [⟨id, fr, to_, x⟩]) * R))
theorem zip_snocW {γ : Type} (f : Nat → Wr → γ) {ps : List Nat} {E : List Wr} (h : ps.length = E.length) (p : Nat) (x : Wr) : List.zipWith f (ps ++ [p]) (E ++ [x]) = List.zipWith f ps E ++ [f p x] := by
  rw [List.zipWith_append h]; rfl
theorem s_bind (pw : Nat) (E : List Wr) (id fr to_ kind : Int) (g w : World) (R : HP) (h : Sat g w (wiP pw E * R)) :
    Calls Try.prog 9 #[.pointer (some ⟨pw, 0, none⟩), .int .i64 id, .int .i64 fr, .int .i64 to_, .int .i64 kind] w (Bound g pw E id fr to_ kind R) := by
  cases hk : newPort kind with
  | none =>
    have HM := Lib.hid (made_no kind w hk)
    go_enter Try.func9, Try.ntmps9
    go_wp2_with (fail)
    refine HM.out.mono ?_
    rintro e w1 ⟨rfl, rfl⟩
    go_wp2_with (fail)
    go_ret
    exact .bad (Or.inl hk) rfl h
  | some x =>
    have HM := Lib.hid (s_made kind x g w _ h hk)
    have HK := Lib.hid hk
    clear hk
    by_cases ho : okW id fr to_
    case neg =>
      have hh : id < 0 ∨ (0 ≤ id ∧ 16 ≤ id) ∨ ((0 ≤ id ∧ id < 16) ∧ (decide (0 ≤ fr) && decide (fr < 8)) = false) ∨ ((0 ≤ id ∧ id < 16) ∧ (decide (0 ≤ fr) && decide (fr < 8)) = true ∧ (decide (0 ≤ to_) && decide (to_ < 8)) = false) ∨ ((0 ≤ id ∧ id < 16) ∧ (decide (0 ≤ fr) && decide (fr < 8)) = true ∧ (decide (0 ≤ to_) && decide (to_ < 8)) = true ∧ fr = to_) := by
        unfold okW at ho
        simp only [Bool.and_eq_true, Bool.and_eq_false_iff, decide_eq_true_eq, decide_eq_false_iff_not]
        omega
      have HO := Lib.hid ho
      have hmf := Lib.hid (fun w' => may_any fr w')
      have hmt := Lib.hid (fun w' => may_any to_ w')
      generalize (decide (0 ≤ fr) && decide (fr < 8)) = bf at hh hmf
      generalize (decide (0 ≤ to_) && decide (to_ < 8)) = bt at hh hmt
      clear ho
      rcases hh with h1 | ⟨h1, h2⟩ | ⟨⟨h1, h2⟩, rfl⟩ | ⟨⟨h1, h2⟩, rfl, rfl⟩ | ⟨⟨h1, h2⟩, rfl, rfl, rfl⟩
      · go_enter Try.func9, Try.ntmps9
        go_wp2_with (fail)
        refine HM.out.mono ?_
        rintro e w1 ⟨p, rfl, S1⟩
        go_wp2_with (fail)
        go_ret
        exact .bad (Or.inr HO.out) rfl S1.right
      · have h3 : ¬ id < 0 := by omega
        go_enter Try.func9, Try.ntmps9
        go_wp2_with (fail)
        refine HM.out.mono ?_
        rintro e w1 ⟨p, rfl, S1⟩
        go_wp2_with (fail)
        go_ret
        exact .bad (Or.inr HO.out) rfl S1.right
      · have h3 : ¬ id < 0 := by omega
        go_enter Try.func9, Try.ntmps9
        go_wp2_with (fail)
        refine HM.out.mono ?_
        rintro e w1 ⟨p, rfl, S1⟩
        go_wp2_with (fail)
        refine (hmf.out _).mono ?_
        rintro e w2 ⟨rfl, rfl⟩
        go_wp2_with (fail)
        go_ret
        exact .bad (Or.inr HO.out) rfl S1.right
      · have h3 : ¬ id < 0 := by omega
        go_enter Try.func9, Try.ntmps9
        go_wp2_with (fail)
        refine HM.out.mono ?_
        rintro e w1 ⟨p, rfl, S1⟩
        go_wp2_with (fail)
        refine (hmf.out _).mono ?_
        rintro e w2 ⟨rfl, rfl⟩
        go_wp2_with (fail)
        refine (hmt.out _).mono ?_
        rintro e w2 ⟨rfl, rfl⟩
        go_wp2_with (fail)
        go_ret
        exact .bad (Or.inr HO.out) rfl S1.right
      · have h3 : ¬ id < 0 := by omega
        go_enter Try.func9, Try.ntmps9
        go_wp2_with (fail)
        refine HM.out.mono ?_
        rintro e w1 ⟨p, rfl, S1⟩
        go_wp2_with (fail)
        refine (hmf.out _).mono ?_
        rintro e w2 ⟨rfl, rfl⟩
        go_wp2_with (fail)
        refine (hmt.out _).mono ?_
        rintro e w2 ⟨rfl, rfl⟩
        go_wp2_with (fail)
        go_ret
        exact .bad (Or.inr HO.out) rfl S1.right
    case pos =>
      have h1 : ¬ id < 0 := by have := ho.1; omega
      have h2 : ¬ 16 ≤ id := by have := ho.1; omega
      have bf : (decide (0 ≤ fr) && decide (fr < 8)) = true := by have := ho.2.1; simp; omega
      have bt : (decide (0 ≤ to_) && decide (to_ < 8)) = true := by have := ho.2.2.1; simp; omega
      have hne : (fr == to_) = false := by rw [beq_eq_false_iff_ne]; exact ho.2.2.2
      have hmf := Lib.hid (fun w' => may_any fr w')
      have hmt := Lib.hid (fun w' => may_any to_ w')
      rw [bf] at hmf
      rw [bt] at hmt
      have HO := Lib.hid ho
      clear bf bt ho
      go_enter Try.func9, Try.ntmps9
      go_wp2_with (fail)
      refine HM.out.mono ?_
      rintro e w1 ⟨p, rfl, S1⟩
      go_wp2_with (fail)
      refine (hmf.out _).mono ?_
      rintro e w2 ⟨rfl, rfl⟩
      go_wp2_with (fail)
      refine (hmt.out _).mono ?_
      rintro e w2 ⟨rfl, rfl⟩
      have S2 : Sat g w1 (wiP pw E * (portP p x * R)) := S1.swap
      obtain ⟨mb, ps, hi, hs⟩ := S2.wi
      have c0 := hi.c0
      have hpl := hi.lt
      have hnw : ¬ pw = w1.heap.size := by omega
      rcases id_or E id with ⟨j, hj, rfl⟩ | hn
      · obtain ⟨q, t, hp, hpv, hlk⟩ := look_wi hi j hj
        have hl := hlk true
        simp only [if_true] at hl
        have HN := Lib.hid (show ∃ y ∈ E, y.id = E[j].id from ⟨_, List.getElem_mem hj, rfl⟩)
        clear hlk hi hpv hp
        go_wp2_with (fail)
        go_ret
        exact .twice x HK.out HO.out HN.out rfl ((S2.alloc _).swap.right)
      · have hl := look_none hi id hn
        have HI := Lib.hid hi
        have HN := Lib.hid hn
        clear hn
        obtain ⟨t, ht⟩ := portV_is x p
        rw [ht]
        clear hi
        go_upto_region 7 with (fail)
        obtain ⟨w2, hw2⟩ : ∃ w2, w2 = w1.alloc (.cells #[.int .i64 0, .int .i64 0, .nilIface] 64) := ⟨_, rfl⟩
        have hb : Below w1.heap.size w1 w2 := by rw [hw2]; repeat (first | with_reducible exact Below.refl _ _ | with_reducible assumption | with_reducible refine below_drewN ?_ _ | with_reducible refine Below.alloc ?_ (by simp <;> omega) _)
        rw [← hw2]
        clear hw2 hl c0
        have hi1 : WiIn w2 pw mb ps E := loc_wi pw mb ps E w1 w2 HI.out (fun k hk => hb.block k (HI.out.slt k hk))
        have c1 := hi1.c0
        obtain ⟨w3, hlay, hm3, ht3⟩ := run_layW hi1.mp id (fr, to_, portV x p) (zip_ids hi1.len id HN.out)
        have he : encW (fr, to_, portV x p) = .agg #[.int .i64 fr, .int .i64 to_, .iface t (.agg #[.pointer (some ⟨p, 0, none⟩)])] := by unfold encW; simp only; rw [ht]
        rw [he] at hlay
        have HM3 := Lib.hid (And.intro hm3 (And.intro ht3 hi1))
        clear hm3 ht3 hi1 he ht
        go_wp2_with (fail)
        go_ret
        refine .ok x HK.out HO.out HN.out rfl (Sat.wi' mb (ps ++ [p]) ?_)
        obtain ⟨hm3, ht3, hi1⟩ := HM3.out
        have S3 := (hs.below hb).touch (ht3.mono fun k _ hk => Or.inr hk) (I' := fun w => WiIn w pw mb (ps ++ [p]) (E ++ [⟨id, fr, to_, x⟩])) ⟨keepT ht3 hi1.lt hi1.ne hi1.c0, by rw [zip_snocW _ hi1.len]; exact hm3, Nat.lt_of_lt_of_le hi1.lt ht3.size, by simp [hi1.len], hi1.ne, fun y hy => by
            rcases List.mem_append.1 hy with hy | hy
            · exact hi1.ids y hy
            · rw [List.mem_singleton.1 hy]; exact HO.out.1⟩ (loc_wi _ _ _ _) (fun k hk => Or.inl hk) (fun k hk => by
          rcases hk with rfl | rfl
          · exact Nat.lt_of_lt_of_le hi1.lt ht3.size
          · exact Nat.lt_of_lt_of_le hi1.mp.lt ht3.size)
        refine S3.perm ?_
        rw [zip_snocW _ hi1.len, starL_snoc]
        show _ = _ * (portP p x * _ * R)
        ac_rfl

end Go.Proofs.Ytffacjbnjcolgaa
