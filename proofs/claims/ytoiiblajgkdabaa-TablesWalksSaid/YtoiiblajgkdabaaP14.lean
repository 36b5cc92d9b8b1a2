/- Part 14 of the proofs: Law08, Law08b, OpenT, Tabs, LawTablesLess. -/
import Derived.Test.YtoiiblajgkdabaaP13
import Derived.Test.YtoiiblajgkdabaaP1
namespace Go.Proofs.Ytoiiblajgkdabaa
set_option linter.unusedSimpArgs false
set_option linter.unusedVariables false
set_option maxRecDepth 100000
open Go.RowKit
set_option maxHeartbeats 4000000

def emptyT (c : Nat) : Tree := ⟨c, fun _ => none, fun _ => none, fun _ => none⟩
theorem newsp_nil (w : World) : Calls Try.prog 60 #[.pointer none, .pointer none] w fun e w' => e = .returned (.tuple #[.pointer none, .int .i64 1]) ∧ w = w' := by
  go_enter Try.func60, Try.ntmps60
  go_wp2_with (fail)
  go_ret2
  exact ⟨rfl, rfl⟩
theorem begun8_no (frames : Int) (w : World) (h : ¬ (1 ≤ frames ∧ frames ≤ 256)) :
    Calls Try.prog 37 #[.int .i64 frames] w fun e w' => e = .returned (.tuple #[.pointer none, .pointer none, .pointer none]) ∧ Below w.heap.size w w' := by
  have HN := Lib.hid (new_no frames w h)
  go_enter Try.func37, Try.ntmps37
  go_wp2_with (fail)
  refine HN.out.mono ?_
  rintro e w1 ⟨rfl, rfl⟩
  go_wp2_with (fail)
  refine (bud_new_nil 0 _).mono ?_
  rintro e w2 ⟨rfl, rfl⟩
  go_wp2_with (fail)
  refine (newsp_nil _).mono ?_
  rintro e w2 ⟨rfl, rfl⟩
  go_wp2_with (fail)
  go_ret3
  exact ⟨rfl, Below.refl _ _⟩

theorem range_all {n : Nat} (h : 1 ≤ n) : ¬ ∀ c, ¬ rangeT 0 n c := fun hc => hc 0 ⟨by omega, by omega⟩
theorem begun8_yes (n : Nat) (g w : World) (R : HP) (h : Sat g w R) (h1 : 1 ≤ n) (h2 : n ≤ 256) :
    Calls Try.prog 37 #[.int .i64 n] w fun e w' => ∃ pm pb ps c, e = .returned (.tuple #[.pointer (some ⟨pm, 0, none⟩), .pointer (some ⟨pb, 0, none⟩), .pointer (some ⟨ps, 0, none⟩)]) ∧ NextF (rangeT 0 n) c ∧
      SpSt g ps pm pb 0 n (emptyT c) (minusQ (rangeT 0 n) c 0) [((c : Int), (0 : Int))] (fun _ => 0) R w' := by
  have HN := Lib.hid (new_yes n w (by omega) (by omega))
  go_enter Try.func37, Try.ntmps37
  go_wp2_with (fail)
  refine HN.out.mono ?_
  rintro e w1 ⟨pm, bk, rfl, hm, h4, h5, hb⟩
  have S1 : Sat g w1 (memP pm n (fun _ => 0) * R) := Sat.mem_new h hb hm h4 h5
  go_wp2_with (fail)
  refine (s_budnew pm n 0 (fun _ => 0) g _ _ S1 (by omega)).mono ?_
  rintro e w2 ⟨pb, rfl, S2⟩
  go_wp2_with (fail)
  refine (s_newT pm pb 0 n (rangeT 0 n) [] (fun _ => 0) g _ R S2 (inv_new 0 n) (fun _ _ _ _ _ => rfl) h2).mono ?_
  rintro e w3 (⟨_, hno, _⟩ | ⟨ps, c, rfl, hc, S3⟩)
  · exact absurd hno (range_all h1)
  have HC := Lib.hid hc
  clear hc
  go_wp2_with (fail)
  go_ret3
  exact ⟨pm, pb, ps, c, rfl, HC.out, S3⟩

/-! ### Trees of few pages -/
theorem t1_none {n : Nat} {M : Nat → Int} {t : Tree} (h : TreeN n M t) {i : Nat} (hp : ∀ p, p / 256 = i → t.pg p = none) : t.t1 i = none := by
  cases e : t.t1 i with
  | none => rfl
  | some f =>
    obtain ⟨j, hj, f2, h2⟩ := h.dn1 i f e
    obtain ⟨k, hk, x, hx⟩ := h.dn2 _ f2 h2
    rw [hp _ (by omega)] at hx; cases hx
theorem t2_none {n : Nat} {M : Nat → Int} {t : Tree} (h : TreeN n M t) {q : Nat} (hp : ∀ p, p / 16 = q → t.pg p = none) : t.t2 q = none := by
  cases e : t.t2 q with
  | none => rfl
  | some f =>
    obtain ⟨k, hk, x, hx⟩ := h.dn2 _ f e
    rw [hp _ (by omega)] at hx; cases hx
theorem eachL_nil {sel : Sel} {page : Nat} {ent : Nat → Option (Nat × Bool × Bool)} {sub : Nat → List Int} : ∀ k, (∀ j, j < k → ent j = none) → eachL sel page ent sub k = []
  | 0, _ => by simp [eachL]
  | k + 1, h => by
    rw [eachL_succ, eachL_nil k (fun j hj => h j (by omega))]
    unfold eachA; rw [h k (by omega)]; rfl
/-- One place alone has something. -/
theorem eachL_one {sel : Sel} {page : Nat} {ent : Nat → Option (Nat × Bool × Bool)} {sub : Nat → List Int} {i : Nat} : ∀ k, i < k → (∀ j, j < k → j ≠ i → ent j = none) → eachL sel page ent sub k = eachA sel page ent sub i
  | 0, h, _ => by omega
  | k + 1, h, hn => by
    rw [eachL_succ]
    by_cases e : i = k
    · subst e
      rw [eachL_nil i (fun j hj => hn j (by omega) (by omega))]; rfl
    · rw [eachL_one k (by omega) (fun j hj hne => hn j (by omega) hne)]
      have : eachA sel page ent sub k = [] := by unfold eachA; rw [hn k (by omega) (fun e' => e e'.symm)]
      rw [this, List.append_nil]
theorem tabs_none {n : Nat} {M : Nat → Int} {t : Tree} (h : TreeN n M t) (hp : ∀ p, t.pg p = none) : tabsL t = [(t.root : Int)] := by
  have : vis0 selTb t = [] := eachL_nil 16 (fun i _ => by unfold ent0; rw [t1_none h (fun p _ => hp p)]; rfl)
  unfold tabsL; rw [this]; exact List.perm_singleton.1 (sortI_perm _)
theorem tabs_one {n : Nat} {M : Nat → Int} {t : Tree} (h : TreeN n M t) {p0 : Nat} {x : Nat × Bool} (h0 : p0 < 4096) (hx : t.pg p0 = some x) (hp : ∀ p, p ≠ p0 → t.pg p = none) : ∃ f1 f2 : Nat, tabsL t = sortI [(t.root : Int), (f1 : Int), (f2 : Int)] := by
  obtain ⟨f2, e2⟩ := h.w.upp _ _ hx
  obtain ⟨f1, e1⟩ := h.w.up2 _ _ e2
  rw [show p0 / 16 / 16 = p0 / 256 by omega] at e1
  have v2 : vis2 selTb t (p0 / 16) = [] := by
    unfold vis2
    rw [eachL_one (i := p0 % 16) 16 (by omega) (fun k hk hne => by unfold ent2; rw [hp _ (by omega)]; rfl)]
    unfold eachA ent2
    rw [show p0 / 16 * 16 + p0 % 16 = p0 by omega, hx]; rfl
  have v2' : vis2 selTb t (p0 / 256 * 16 + p0 / 16 % 16) = [] := by rw [show p0 / 256 * 16 + p0 / 16 % 16 = p0 / 16 by omega]; exact v2
  have v1 : vis1 selTb t (p0 / 256) = [(f2 : Int)] := by
    unfold vis1
    rw [eachL_one (i := p0 / 16 % 16) 16 (by omega) (fun k hk hne => by unfold ent1; rw [t2_none h (fun p hq => hp p (by omega))]; rfl)]
    unfold eachA ent1
    rw [show p0 / 256 * 16 + p0 / 16 % 16 = p0 / 16 by omega, e2]
    simp [v2', selTb]
  have v0 : vis0 selTb t = [(f1 : Int), (f2 : Int)] := by
    unfold vis0
    rw [eachL_one (i := p0 / 256) 16 (by omega) (fun k hk hne => by unfold ent0; rw [t1_none h (fun p hq => hp p (by omega))]; rfl)]
    unfold eachA ent0
    rw [e1, show 0 * 16 + p0 / 256 = p0 / 256 by omega]
    simp [v1, selTb]
  exact ⟨f1, f2, by unfold tabsL; rw [v0]⟩

theorem sort_least {L : List Int} (h : 0 < (sortI L).length) (h0 : (0 : Int) ∈ L) (hn : ∀ x ∈ L, 0 ≤ x) : (sortI L)[0] = 0 := by
  have h1 := hn _ ((sortI_perm L).mem_iff.1 (List.getElem_mem h))
  obtain ⟨i, hi, e⟩ := List.mem_iff_getElem.1 ((sortI_perm L).mem_iff.2 h0)
  rcases Nat.eq_zero_or_pos i with rfl | hp
  · exact e
  · have := List.pairwise_iff_getElem.1 (sortI_rise L) 0 i h hi hp
    omega
theorem can8 (a o : Nat) (ho : o ≤ 8) : QCan (rangeT 0 8) a o ↔ (a = 0 ∧ o = 3) := by
  unfold QCan
  rw [full_range, full_range]
  have hh : o = 0 ∨ o = 1 ∨ o = 2 ∨ o = 3 ∨ o = 4 ∨ o = 5 ∨ o = 6 ∨ o = 7 ∨ o = 8 := by omega
  rcases hh with rfl | rfl | rfl | rfl | rfl | rfl | rfl | rfl | rfl <;> simp <;> omega
theorem next8 {c : Nat} (h : NextF (rangeT 0 8) c) : c = 0 := by
  obtain ⟨a, k, hk, hc, _, _, rfl⟩ := h
  obtain ⟨rfl, _⟩ := (can8 a k hk).1 hc
  simp
theorem SpSt.cnt_minus8 {c : Nat} (h : c = 0) : cnt (minusQ (rangeT 0 8) c 0) 256 = 7 := by
  subst h
  have h0 : cnt (rangeT 0 8) 256 = 8 := cnt_int 0 8 256 (by omega)
  have h1 := cnt_minus (T := rangeT 0 8) (a := 0) (o := 0) (k := 256) (full0.2 ⟨by omega, by omega⟩) (by omega)
  rw [Nat.pow_zero] at h1
  omega

theorem awake08 (g w : World) (R : HP) (h : Sat g w R) : Calls Try.prog 36 #[] w fun e w' => e = .returned (.bool true) ∧ Sat g w' R := by
  have H0 := Lib.hid (begun8_yes 8 g w R h (by omega) (by omega))
  go_enter Try.func36, Try.ntmps36
  go_wp2_with (fail)
  refine H0.out.mono ?_
  rintro e w1 ⟨pm, pb, ps, c, rfl, hc, S1⟩
  obtain rfl := next8 hc
  clear hc
  go_wp2_with (fail)
  refine (s_mapT g ps pm pb 0 8 _ _ _ _ R w1 291 7 true S1).mono ?_
  intro e w2 hp
  cases hp with
  | no k hk hbad he hs =>
    exfalso
    rcases hbad with ⟨_, h1⟩ | ⟨_, q, x, _, h1⟩ | ⟨_, q, _, _, h1⟩
    · exact h1 ⟨⟨by omega, by omega⟩, ⟨by omega, by omega⟩⟩
    · cases h1
    · rw [SpSt.cnt_minus8 rfl] at h1
      have : needT (emptyT 0) q ≤ 2 := by unfold needT emptyT; simp
      omega
  | ok q f t' T' H' M' hp hf hq hx ha hpg he S2 =>
    obtain rfl : q = 291 := by omega
    obtain rfl : f = 7 := by omega
    subst he
    have hpg0 : t'.pg 291 = some (7, true) := by rw [hpg]; exact updF_same _ _ _
    have hpgn : ∀ p, p ≠ 291 → t'.pg p = none := fun p hp => by rw [hpg, updF_ne _ _ hp]; rfl
    have hroot : t'.root = 0 := ha.root
    obtain ⟨f1, f2, htab⟩ := tabs_one S2.tree (by omega) hpg0 hpgn
    rw [hroot] at htab
    have hl3 : (tabsL t').length = 3 := by rw [htab, sortI_len]; rfl
    have hl0 : ∀ (h0 : 0 < (tabsL t').length), (tabsL t')[0] = 0 := fun h0 => by
      have hq : ∀ (L : List Int) (e : tabsL t' = L) (h1 : 0 < L.length), (tabsL t')[0] = L[0] := fun L e h1 => by subst e; rfl
      have h1 : 0 < (sortI [((0 : Nat) : Int), (f1 : Int), (f2 : Int)]).length := by rw [← htab]; exact h0
      rw [hq _ htab h1]
      exact sort_least h1 (by simp) (fun x hx => by simp at hx; rcases hx with rfl | rfl | rfl <;> omega)
    obtain ⟨_, _, _, _, ew⟩ := walk_some S2.tree.w hpg0
    have hwt := (walk_tree S2.tree.w S2.n256 291 (by omega)).trans ew
    have HL3 := Lib.hid hl3
    have HL0 := Lib.hid hl0
    have HR := Lib.hid hroot
    have HPG := Lib.hid hpg
    have HPG0 := Lib.hid hpg0
    have HPN := Lib.hid hpgn
    have hfd := s_find8 ps pm pb t'.root 8 M' 291 g w2 (midP pb pm T' H' * R) (S2.sat.perm (by ac_rfl)) _ hwt
    have HFD := Lib.hid hfd
    clear hpg hpg0 hpgn hroot htab hl3 hl0 ew hwt hfd ha S1 hp hf hx hq
    go_wp2_with (fail)
    refine HFD.out.mono ?_
    rintro e w3 ⟨rfl, hb3⟩
    have S3 := S2.sat.below hb3
    go_upto_region 6 with (fail)
    have S4 := S3.pt_new (.cells #[.bool true, .bool true, .bool false, .int .i64 7] 78)
    obtain ⟨w4, hw4⟩ : ∃ w4, w4 = w3.alloc (.cells #[.bool true, .bool true, .bool false, .int .i64 7] 78) := ⟨_, rfl⟩
    obtain ⟨eb, heb⟩ : ∃ eb, eb = w3.heap.size := ⟨_, rfl⟩
    rw [← hw4, ← heb] at S4
    rw [← hw4, ← heb]
    clear hw4 heb S3 hb3
    go_wp2_with (fail)
    refine (s_tabs ps pm pb 8 M' t' S2.tree.w S2.n256 g w4 (pt eb (.cells #[.bool true, .bool true, .bool false, .int .i64 7] 78) * (midP pb pm T' H' * R)) (S4.perm (by ac_rfl))).mono ?_
    rintro e w5 ⟨a, cap, rfl, S5⟩
    have hl3 := HL3.out
    have hl0 := HL0.out
    obtain ⟨LT, hLT⟩ : ∃ LT, tabsL t' = LT := ⟨_, rfl⟩
    have hl0' : ∀ (h0 : 0 < LT.length), LT[0] = 0 := by rw [← hLT]; exact hl0
    rw [hLT] at S5 hl3 ⊢
    obtain ⟨a', cap', hv, hcell⟩ := rowP_cells S5
    simp only [Value.slice.injEq] at hv
    obtain ⟨rfl, -, rfl⟩ := hv
    rcases hcell with h0 | ⟨gb, rfl, _, _⟩
    · rw [h0] at hl3; simp at hl3
    obtain ⟨RP, hRP⟩ : ∃ RP, RP = rowP (.slice (some ⟨gb, 0, none⟩) LT.length cap) LT := ⟨_, rfl⟩
    have HCE : Hid (∀ w' P', Sat g w' (pt eb (.cells #[.bool true, .bool true, .bool false, .int .i64 7] 78) * (RP * P')) → w'.cell? ⟨eb, 3, none⟩ = some (.int .i64 7) ∧ w'.cell? ⟨gb, 0, none⟩ = some (.int .i64 0)) := Lib.hid fun w' P' h' => by
      have e := h'.pt_heap
      refine ⟨by simp [World.cell?, e], ?_⟩
      rw [hRP] at h'
      obtain ⟨a2, c2, hv, hcell⟩ := rowP_cells h'.swap
      simp only [Value.slice.injEq, Option.some.injEq] at hv
      obtain ⟨rfl, -, rfl⟩ := hv
      rcases hcell with h0 | ⟨gb', e5, _, hc⟩
      · rw [h0] at hl3; simp at hl3
      · simp only [Option.some.injEq, Addr.mk.injEq] at e5
        obtain ⟨rfl, -, -⟩ := e5
        have := hc 0 (by omega)
        rw [hl0' (by omega)] at this
        exact this
    rw [← hRP] at S5
    rw [hl3]
    have S6 : SpSt g ps pm pb 0 8 t' T' H' M' (pt eb (.cells #[.bool true, .bool true, .bool false, .int .i64 7] 78) * (RP * R)) w5 := { S2 with sat := S5.perm (by ac_rfl) }
    clear hl3 hl0 hl0' hLT hRP S5 S4 S2
    go_wp2_with (fail)
    refine (s_unmapT g ps pm pb 0 8 t' T' H' M' _ w5 291 S6).mono ?_
    intro e w6 hp
    cases hp with
    | no k hk hx _ he hs =>
      have := hx 291 rfl
      rw [HPG0.out] at this
      cases this
    | ok q x t2 T2 H2 M2 hp hq hx ha hpg he S7 =>
      obtain rfl : q = 291 := by omega
      have hx2 : x = (7, true) := by have := HPG0.out; rw [hx] at this; exact Option.some.inj this
      subst hx2
      subst he
      have hroot2 : t2.root = 0 := ha.root.trans HR.out
      have htb := tabs_none S7.tree (fun p => by
        rw [hpg]
        by_cases e : p = 291
        · rw [e, updF_same]
        · rw [updF_ne _ _ e]; exact HPN.out p e)
      have S8 : Sat g w6 (pt eb (.cells #[.bool true, .bool true, .bool false, .int .i64 7] 78) * (RP * (spP ps pm pb t2.root * (midP pb pm T2 H2 * (memP pm 8 M2 * R))))) := S7.sat.perm (by ac_rfl)
      have HTB : Hid (∀ w', Sat g w' (pt eb (.cells #[.bool true, .bool true, .bool false, .int .i64 7] 78) * (RP * (spP ps pm pb t2.root * (midP pb pm T2 H2 * (memP pm 8 M2 * R))))) → Calls Try.prog 41 #[.pointer (some ⟨ps, 0, none⟩)] w' fun e w'' => ∃ a c, e = .returned (.slice a 1 c) ∧ Sat g w'' (pt eb (.cells #[.bool true, .bool true, .bool false, .int .i64 7] 78) * (RP * (spP ps pm pb t2.root * (midP pb pm T2 H2 * (memP pm 8 M2 * R)))))) := Lib.hid fun w' h' => by
        refine (s_tabs ps pm pb 8 M2 t2 S7.tree.w S7.n256 g w' (pt eb (.cells #[.bool true, .bool true, .bool false, .int .i64 7] 78) * (RP * (midP pb pm T2 H2 * R))) (h'.perm (by ac_rfl))).mono ?_
        rintro e w'' ⟨a, c, rfl, hs⟩
        rw [htb] at hs ⊢
        exact ⟨a, c, rfl, hs.right.perm (by ac_rfl)⟩
      have HRT : Hid (∀ w', Sat g w' (pt eb (.cells #[.bool true, .bool true, .bool false, .int .i64 7] 78) * (RP * (spP ps pm pb t2.root * (midP pb pm T2 H2 * (memP pm 8 M2 * R))))) → Calls Try.prog 45 #[.pointer (some ⟨ps, 0, none⟩)] w' fun e w'' => e = .returned (.int .i64 0) ∧ w' = w'') := Lib.hid fun w' h' => by
        have := s_root ps pm pb t2.root g w' (pt eb (.cells #[.bool true, .bool true, .bool false, .int .i64 7] 78) * (RP * (midP pb pm T2 H2 * (memP pm 8 M2 * R)))) (h'.perm (by ac_rfl))
        rw [hroot2] at this
        exact this
      have HEND : Hid (∀ w', Sat g w' (pt eb (.cells #[.bool true, .bool true, .bool false, .int .i64 7] 78) * (RP * (spP ps pm pb t2.root * (midP pb pm T2 H2 * (memP pm 8 M2 * R))))) → Sat g w' R) := Lib.hid fun w' h' => h'.right.right.right.right.right
      clear hroot2 htb hpg hx ha hp hq S7 S6
      go_wp2_with (fail)
      go_region_held3 (fun w' => w'.cell? ⟨eb, 3, none⟩ = some (.int .i64 7) ∧ w'.cell? ⟨gb, 0, none⟩ = some (.int .i64 0)) (exact HCE.out _ _ (by first | assumption | exact Sat.drew (by assumption)))
        ((first
          | (go_at_call 41
             refine (HTB.out _ (by first | assumption | exact Sat.drew (by assumption))).mono ?_
             rintro e w7 ⟨a7, c7, rfl, S9⟩)
          | (go_at_call 45
             refine (HRT.out _ (by first | assumption | exact Sat.drew (by assumption))).mono ?_
             rintro e w8 ⟨rfl, rfl⟩)))
      go_wp2_with (fail)
      go_ret
      exact ⟨rfl, HEND.out _ S9⟩

end Go.Proofs.Ytoiiblajgkdabaa

namespace Go.Proofs.Ytoiiblajgkdabaa
set_option linter.unusedSimpArgs false
set_option linter.unusedVariables false
set_option maxRecDepth 100000
open Go.RowKit
set_option maxHeartbeats 4000000

/-- What is gathered place by place rises, if what each place gives lies between its bounds. -/
theorem eachL_rise {sel : Sel} {page : Nat} {ent : Nat → Option (Nat × Bool × Bool)} {sub : Nat → List Int} {lo : Nat → Int} (h1 : ∀ k, k < 16 → (eachA sel page ent sub k).Pairwise (· < ·)) (h2 : ∀ k, k < 16 → ∀ x ∈ eachA sel page ent sub k, lo k ≤ x ∧ x < lo (k + 1)) (hlo : ∀ k, lo k ≤ lo (k + 1)) : ∀ k, k ≤ 16 → (eachL sel page ent sub k).Pairwise (· < ·) ∧ ∀ x ∈ eachL sel page ent sub k, lo 0 ≤ x ∧ x < lo k
  | 0, _ => by simp [eachL]
  | k + 1, hk => by
    obtain ⟨i1, i2⟩ := eachL_rise h1 h2 hlo k (by omega)
    have hmono : ∀ j, lo 0 ≤ lo j := fun j => by
      induction j with
      | zero => exact Int.le_refl _
      | succ j ih => exact Int.le_trans ih (hlo j)
    rw [eachL_succ]
    refine ⟨List.pairwise_append.2 ⟨i1, h1 k (by omega), fun x hx y hy => ?_⟩, fun x hx => ?_⟩
    · have := (i2 x hx).2
      have := (h2 k (by omega) y hy).1
      omega
    · rcases List.mem_append.1 hx with hx | hx
      · have a := i2 x hx
        have b := hlo k
        omega
      · have a := h2 k (by omega) x hx
        have b := hmono k
        omega
theorem eachL_mem {sel : Sel} {page : Nat} {ent : Nat → Option (Nat × Bool × Bool)} {sub : Nat → List Int} {x : Int} : ∀ k, x ∈ eachL sel page ent sub k → ∃ j, j < k ∧ x ∈ eachA sel page ent sub j
  | 0, h => by simp [eachL] at h
  | k + 1, h => by
    rw [eachL_succ] at h
    rcases List.mem_append.1 h with h | h
    · obtain ⟨j, hj, hx⟩ := eachL_mem k h
      exact ⟨j, by omega, hx⟩
    · exact ⟨k, by omega, h⟩
theorem eachA_pg (t : Tree) (q k : Nat) : eachA selPg q (ent2 t q) (fun _ => []) k = match t.pg (q * 16 + k) with
    | none => []
    | some _ => [((q * 16 + k : Nat) : Int)] := by
  unfold eachA ent2
  cases t.pg (q * 16 + k) <;> simp [selPg]
theorem vis2_rise (t : Tree) (q : Nat) : (vis2 selPg t q).Pairwise (· < ·) ∧ ∀ x ∈ vis2 selPg t q, (((16 * q : Nat) : Int)) ≤ x ∧ x < ((16 * (q + 1) : Nat) : Int) := by
  have := eachL_rise (sel := selPg) (page := q) (ent := ent2 t q) (sub := fun _ => []) (lo := fun k => ((16 * q + k : Nat) : Int)) (fun k _ => by rw [eachA_pg]; cases t.pg (q * 16 + k) <;> simp) (fun k _ x hx => by
    rw [eachA_pg] at hx
    cases e : t.pg (q * 16 + k) with
    | none => rw [e] at hx; simp at hx
    | some y =>
      rw [e] at hx; simp only [List.mem_singleton] at hx
      show ((16 * q + k : Nat) : Int) ≤ x ∧ x < ((16 * q + (k + 1) : Nat) : Int)
      omega) (fun k => by show ((16 * q + k : Nat) : Int) ≤ ((16 * q + (k + 1) : Nat) : Int); omega) 16 (by omega)
  refine ⟨this.1, fun x hx => ?_⟩
  have h := this.2 x hx
  have h' : ((16 * q + 0 : Nat) : Int) ≤ x ∧ x < ((16 * q + 16 : Nat) : Int) := h
  omega
theorem vis2_mem (t : Tree) (q : Nat) : ∀ x ∈ vis2 selPg t q, ∃ p : Nat, x = p ∧ ∃ y, t.pg p = some y := fun x hx => by
  obtain ⟨j, hj, hx⟩ := eachL_mem 16 hx
  rw [eachA_pg] at hx
  cases e : t.pg (q * 16 + j) with
  | none => rw [e] at hx; simp at hx
  | some y => rw [e] at hx; simp only [List.mem_singleton] at hx; exact ⟨_, hx, y, e⟩
theorem eachA_t1 (t : Tree) (i j : Nat) : eachA selPg i (ent1 t i) (fun j => vis2 selPg t (i * 16 + j)) j = match t.t2 (i * 16 + j) with
    | none => []
    | some _ => vis2 selPg t (i * 16 + j) := by
  unfold eachA ent1
  cases t.t2 (i * 16 + j) <;> simp [selPg]
theorem vis1_rise (t : Tree) (i : Nat) : (vis1 selPg t i).Pairwise (· < ·) ∧ ∀ x ∈ vis1 selPg t i, (((256 * i : Nat) : Int)) ≤ x ∧ x < ((256 * (i + 1) : Nat) : Int) := by
  have := eachL_rise (sel := selPg) (page := i) (ent := ent1 t i) (sub := fun j => vis2 selPg t (i * 16 + j)) (lo := fun k => ((256 * i + 16 * k : Nat) : Int)) (fun k _ => by rw [eachA_t1]; cases t.t2 (i * 16 + k); exact List.Pairwise.nil; exact (vis2_rise t _).1) (fun k _ x hx => by
    rw [eachA_t1] at hx
    cases e : t.t2 (i * 16 + k) with
    | none => rw [e] at hx; simp at hx
    | some y =>
      rw [e] at hx
      have := (vis2_rise t _).2 x hx
      show ((256 * i + 16 * k : Nat) : Int) ≤ x ∧ x < ((256 * i + 16 * (k + 1) : Nat) : Int)
      omega) (fun k => by show ((256 * i + 16 * k : Nat) : Int) ≤ ((256 * i + 16 * (k + 1) : Nat) : Int); omega) 16 (by omega)
  refine ⟨this.1, fun x hx => ?_⟩
  have h := this.2 x hx
  have h' : ((256 * i + 16 * 0 : Nat) : Int) ≤ x ∧ x < ((256 * i + 16 * 16 : Nat) : Int) := h
  omega
theorem vis1_mem (t : Tree) (i : Nat) : ∀ x ∈ vis1 selPg t i, ∃ p : Nat, x = p ∧ ∃ y, t.pg p = some y := fun x hx => by
  obtain ⟨j, hj, hx⟩ := eachL_mem 16 hx
  rw [eachA_t1] at hx
  cases e : t.t2 (i * 16 + j) with
  | none => rw [e] at hx; simp at hx
  | some y => rw [e] at hx; exact vis2_mem t _ x hx
theorem eachA_t0 (t : Tree) (i : Nat) : eachA selPg 0 (ent0 t) (fun i => vis1 selPg t (0 * 16 + i)) i = match t.t1 i with
    | none => []
    | some _ => vis1 selPg t i := by
  unfold eachA ent0
  rw [show 0 * 16 + i = i by omega]
  cases t.t1 i <;> simp [selPg]
theorem pages_rise (t : Tree) : (vis0 selPg t).Pairwise (· < ·) := by
  exact (eachL_rise (sel := selPg) (page := 0) (ent := ent0 t) (sub := fun i => vis1 selPg t (0 * 16 + i)) (lo := fun k => ((256 * k : Nat) : Int)) (fun k _ => by rw [eachA_t0]; cases t.t1 k; exact List.Pairwise.nil; exact (vis1_rise t _).1) (fun k _ x hx => by
    rw [eachA_t0] at hx
    cases e : t.t1 k with
    | none => rw [e] at hx; simp at hx
    | some y => rw [e] at hx; exact (vis1_rise t _).2 x hx) (fun k => by show ((256 * k : Nat) : Int) ≤ ((256 * (k + 1) : Nat) : Int); omega) 16 (by omega)).1
theorem pages_mem (t : Tree) : ∀ x ∈ vis0 selPg t, ∃ p : Nat, x = p ∧ ∃ y, t.pg p = some y := fun x hx => by
  obtain ⟨j, hj, hx⟩ := eachL_mem 16 hx
  rw [eachA_t0] at hx
  cases e : t.t1 j with
  | none => rw [e] at hx; simp at hx
  | some y => rw [e] at hx; exact vis1_mem t _ x hx

/-! ### The calls that came in -/
structure OpT where
  d : Int
  p : Int
  f : Int
  b : Bool
structure OpTAt (w : World) (b off : Nat) (x : OpT) : Prop where
  c0 : w.cell? ⟨b, off, none⟩ = some (.int .i64 x.d)
  c1 : w.cell? ⟨b, off + 1, none⟩ = some (.int .i64 x.p)
  c2 : w.cell? ⟨b, off + 2, none⟩ = some (.int .i64 x.f)
  c3 : w.cell? ⟨b, off + 3, none⟩ = some (.bool x.b)
def OpsT (w : World) (a : Option Addr) (len : Nat) (L : Nat → OpT) : Prop := len = 0 ∨ ∃ b off, a = some ⟨b, off, none⟩ ∧ ∀ i, i < len → OpTAt w b (off + i * 4) (L i)
theorem OpsT.keep {g w : World} {a : Option Addr} {len : Nat} {L : Nat → OpT} (h : OpsT g a len L) (hb : Below g.heap.size g w) : OpsT w a len L := by
  rcases h with h | ⟨b, off, rfl, h⟩
  · exact Or.inl h
  · refine Or.inr ⟨b, off, rfl, fun i hi => ?_⟩
    obtain ⟨h0, h1, h2, h3⟩ := h i hi
    have hl := cell_ltB h0
    exact ⟨Go.Proofs.Ytoiiblajgkdabaa.keep hb hl h0, Go.Proofs.Ytoiiblajgkdabaa.keep hb hl h1, Go.Proofs.Ytoiiblajgkdabaa.keep hb hl h2, Go.Proofs.Ytoiiblajgkdabaa.keep hb hl h3⟩
theorem OpsT.kept {g : World} {a : Option Addr} {len : Nat} {L : Nat → OpT} (h : OpsT g a len L) : ∀ w' Q, Sat g w' (Q * whole g) → OpsT w' a len L := fun w' Q h' => h.keep (Sat.ends (h'.perm (star_comm _ _)))
/-- A space of which what stays true is true. -/
def SpAny (g : World) (ps pm pb r0 n : Nat) (R : HP) (w : World) : Prop := ∃ t T H M, SpSt g ps pm pb r0 n t T H M R w
def AnyRetT (g : World) (ps pm pb r0 n : Nat) (R : HP) (e : Ending) (w' : World) : Prop := (∃ v, e = .returned v) ∧ SpAny g ps pm pb r0 n R w'
theorem s_map_any (g : World) (ps pm pb r0 n : Nat) (R : HP) (w : World) (p fr : Int) (bw : Bool) (h : SpAny g ps pm pb r0 n R w) :
    Calls Try.prog 39 #[.pointer (some ⟨ps, 0, none⟩), .int .i64 p, .int .i64 fr, .bool bw] w (AnyRetT g ps pm pb r0 n R) := by
  obtain ⟨t, T, H, M, h⟩ := h
  refine (s_mapT g ps pm pb r0 n t T H M R w p fr bw h).mono fun e w' hp => ?_
  cases hp with
  | no k _ _ he hs => exact ⟨⟨_, he⟩, _, _, _, _, hs⟩
  | ok q f t' T' H' M' _ _ _ _ _ _ he hs => exact ⟨⟨_, he⟩, _, _, _, _, hs⟩
theorem s_unmap_any (g : World) (ps pm pb r0 n : Nat) (R : HP) (w : World) (p : Int) (h : SpAny g ps pm pb r0 n R w) :
    Calls Try.prog 38 #[.pointer (some ⟨ps, 0, none⟩), .int .i64 p] w (AnyRetT g ps pm pb r0 n R) := by
  obtain ⟨t, T, H, M, h⟩ := h
  refine (s_unmapT g ps pm pb r0 n t T H M R w p h).mono fun e w' hp => ?_
  cases hp with
  | no k _ _ _ he hs => exact ⟨⟨_, he⟩, _, _, _, _, hs⟩
  | ok q x t' T' H' M' _ _ _ _ _ he hs => exact ⟨⟨_, he⟩, _, _, _, _, hs⟩
theorem s_prot_any (g : World) (ps pm pb r0 n : Nat) (R : HP) (w : World) (p : Int) (bw : Bool) (h : SpAny g ps pm pb r0 n R w) :
    Calls Try.prog 42 #[.pointer (some ⟨ps, 0, none⟩), .int .i64 p, .bool bw] w (AnyRetT g ps pm pb r0 n R) := by
  obtain ⟨t, T, H, M, h⟩ := h
  refine (s_protT g ps pm pb r0 n t T H M R w p bw h).mono fun e w' hp => ?_
  cases hp with
  | no k _ _ he hs => exact ⟨⟨_, he⟩, _, _, _, _, hs⟩
  | ok q x t' M' _ _ _ _ _ he hs => exact ⟨⟨_, he⟩, _, _, _, _, hs⟩

end Go.Proofs.Ytoiiblajgkdabaa

namespace Go.Proofs.Ytoiiblajgkdabaa
set_option linter.unusedSimpArgs false
set_option linter.unusedVariables false
set_option maxRecDepth 100000
open Go.ChangeShapes Go.WideShapes Go.ChangeAt Go.RowKit Go.Deep

variable {H : Type} {enc : TypeId × Value → H} {w : World} {base : Nat} {spare : Nat → Bool} {held : Bool}
theorem opT_open {n : Nat} {cs : List Value} {r : DataW H × List MemPlace} (h : DataW.trod enc Try.prog w base spare held n 72 cs = some r) :
    ∃ (x0 : Int) (x1 : Int) (x2 : Int) (x3 : Bool), cs = [.int .i64 x0, .int .i64 x1, .int .i64 x2, .bool x3] ∧ (IntKind.i64.min ≤ x0 ∧ x0 ≤ IntKind.i64.max) ∧ (IntKind.i64.min ≤ x1 ∧ x1 ≤ IntKind.i64.max) ∧ (IntKind.i64.min ≤ x2 ∧ x2 ≤ IntKind.i64.max) := by
  have c72 : Try.prog.cellsOf 72 = 4 := by kernel_rfl
  have c3 : Try.prog.cellsOf 3 = 1 := by kernel_rfl
  have c4 : Try.prog.cellsOf 4 = 1 := by kernel_rfl
  cases n with
  | zero => simp [DataW.trod] at h
  | succ n =>
    simp only [DataW.trod, Try.underlying72] at h
    split at h
    · rename_i hl
      rw [c72] at hl
      match cs, hl with
      | [c_0, c_1, c_2, c_3], _ =>
      simp [c4, c3, List.mapM_cons, Option.bind_eq_some_iff] at h
      obtain ⟨_, _, e0, _, ⟨_, _, e1, _, ⟨_, _, e2, _, ⟨_, _, e3, _⟩, _⟩, _⟩, _⟩ := h
      obtain ⟨y0, rfl, b0⟩ := op_int Try.underlying3 e0
      obtain ⟨y1, rfl, b1⟩ := op_int Try.underlying3 e1
      obtain ⟨y2, rfl, b2⟩ := op_int Try.underlying3 e2
      obtain ⟨y3, rfl⟩ := op_bool Try.underlying4 e3
      exact ⟨y0, y1, y2, y3, rfl, b0, b1, b2⟩
    · cases h

theorem opsT_open {W : World} {a : Option Addr} {len cap : Nat} {d : DataW H} {p : List MemPlace} (h : DataW.Trod enc Try.prog W 0 (fun _ => true) true 67 (.slice a len cap) d p) :
    ∃ L : Nat → OpT, OpsT W a len L ∧ len ≤ 9223372036854775807 ∧ ∀ i, i < len → I64 (L i).d ∧ I64 (L i).p ∧ I64 (L i).f := by
  obtain ⟨fuel, hf⟩ := h
  obtain ⟨h1, h2, h3⟩ := row_open (P := fun cs => ∃ o : OpT, cs = [.int .i64 o.d, .int .i64 o.p, .int .i64 o.f, .bool o.b] ∧ I64 o.d ∧ I64 o.p ∧ I64 o.f) Try.underlying67 (s := 4) (by kernel_rfl) (by omega) (fun n cs r ht => by
    obtain ⟨x0, x1, x2, x3, rfl, b0, b1, b2⟩ := opT_open ht
    exact ⟨⟨x0, x1, x2, x3⟩, rfl, b0, b1, b2⟩) hf
  refine (fun h : ∃ L : Nat → OpT, OpsT W a len L ∧ ∀ i, i < len → I64 (L i).d ∧ I64 (L i).p ∧ I64 (L i).f => h.elim fun L hL => ⟨L, hL.1, by unfold maxLen at h2; omega, hL.2⟩) ?_
  rcases h3 with h0 | ⟨b, off, rfl, hb, hel⟩
  · exact ⟨fun _ => ⟨0, 0, 0, false⟩, Or.inl h0, fun i hi => by omega⟩
  · have hall : ∀ i, ∃ o : OpT, i < len → (OpTAt W b (off + i * 4) o ∧ I64 o.d ∧ I64 o.p ∧ I64 o.f) := by
      intro i
      by_cases hi : i < len
      · obtain ⟨cs, ⟨o, rfl, hx⟩, _, hc⟩ := hel i hi
        exact ⟨o, fun _ => ⟨⟨(hc 0 (by omega)).trans rfl, (hc 1 (by omega)).trans rfl, (hc 2 (by omega)).trans rfl, (hc 3 (by omega)).trans rfl⟩, hx⟩⟩
      · exact ⟨⟨0, 0, 0, false⟩, fun h => absurd h hi⟩
    obtain ⟨L, hL⟩ := Classical.skolem.1 hall
    exact ⟨L, Or.inr ⟨b, off, rfl, fun i hi => (hL i hi).1⟩, fun i hi => (hL i hi).2⟩

end Go.Proofs.Ytoiiblajgkdabaa

namespace Go.Proofs.Ytoiiblajgkdabaa
set_option linter.unusedSimpArgs false
set_option linter.unusedVariables false
set_option maxRecDepth 100000
open Go.RowKit
set_option maxHeartbeats 4000000

theorem eachL_has {sel : Sel} {page : Nat} {ent : Nat → Option (Nat × Bool × Bool)} {sub : Nat → List Int} {x : Int} {j k : Nat} (hj : j < k) (hx : x ∈ eachA sel page ent sub j) : x ∈ eachL sel page ent sub k := by
  unfold eachL; exact List.mem_flatMap.2 ⟨j, List.mem_range.2 hj, hx⟩
theorem pages_has {n : Nat} {M : Nat → Int} {t : Tree} (h : TreeW n M t) {p : Nat} {y : Nat × Bool} (hy : t.pg p = some y) : (p : Int) ∈ vis0 selPg t := by
  obtain ⟨f2, e2⟩ := h.upp _ _ hy
  obtain ⟨f1, e1⟩ := h.up2 _ _ e2
  have lp := (h.ltp _ _ hy).1
  rw [show p / 16 / 16 = p / 256 by omega] at e1
  refine eachL_has (j := p / 256) (by omega) ?_
  rw [eachA_t0, e1]
  show _ ∈ vis1 selPg t (p / 256)
  refine eachL_has (j := p / 16 % 16) (by omega) ?_
  rw [eachA_t1, show p / 256 * 16 + p / 16 % 16 = p / 16 by omega, e2]
  show _ ∈ vis2 selPg t (p / 16)
  refine eachL_has (j := p % 16) (by omega) ?_
  rw [eachA_pg, show p / 16 * 16 + p % 16 = p by omega, hy]
  exact List.mem_singleton.2 rfl

/-! ### The tables that are listed -/
theorem vis2_tb (t : Tree) (q : Nat) : vis2 selTb t q = [] := by
  refine List.eq_nil_iff_forall_not_mem.2 fun x hx => ?_
  obtain ⟨j, _, hx⟩ := eachL_mem 16 hx
  unfold eachA ent2 at hx
  cases e : t.pg (q * 16 + j) <;> simp [e, selTb] at hx
theorem eachA_tb1 (t : Tree) (i j : Nat) : eachA selTb i (ent1 t i) (fun j => vis2 selTb t (i * 16 + j)) j = match t.t2 (i * 16 + j) with
    | none => []
    | some f => [(f : Int)] := by
  unfold eachA ent1
  cases t.t2 (i * 16 + j) <;> simp [selTb, vis2_tb]
theorem eachA_tb0 (t : Tree) (i : Nat) : eachA selTb 0 (ent0 t) (fun i => vis1 selTb t (0 * 16 + i)) i = match t.t1 i with
    | none => []
    | some f => (f : Int) :: vis1 selTb t i := by
  unfold eachA ent0
  rw [show 0 * 16 + i = i by omega]
  cases t.t1 i <;> simp [selTb]
theorem vis1_tb (t : Tree) (i : Nat) (x : Int) : x ∈ vis1 selTb t i ↔ ∃ j f : Nat, j < 16 ∧ t.t2 (i * 16 + j) = some f ∧ x = f := by
  constructor
  · intro hx
    obtain ⟨j, hj, hx⟩ := eachL_mem 16 hx
    rw [eachA_tb1] at hx
    cases e : t.t2 (i * 16 + j) with
    | none => rw [e] at hx; cases hx
    | some f => rw [e] at hx; exact ⟨j, f, hj, e, List.mem_singleton.1 hx⟩
  · rintro ⟨j, f, hj, e, rfl⟩
    refine eachL_has (j := j) hj ?_
    rw [eachA_tb1, e]; exact List.mem_singleton.2 rfl
theorem vis0_tb {n : Nat} {M : Nat → Int} {t : Tree} (h : TreeW n M t) (x : Int) : x ∈ vis0 selTb t ↔ ∃ f : Nat, x = f ∧ ((∃ i, t.t1 i = some f) ∨ ∃ q, t.t2 q = some f) := by
  constructor
  · intro hx
    obtain ⟨i, hi, hx⟩ := eachL_mem 16 hx
    rw [eachA_tb0] at hx
    cases e : t.t1 i with
    | none => rw [e] at hx; cases hx
    | some f =>
      rw [e] at hx
      rcases List.mem_cons.1 hx with hx | hx
      · exact ⟨f, hx, Or.inl ⟨i, e⟩⟩
      · obtain ⟨j, f2, _, e2, e3⟩ := (vis1_tb t i x).1 hx
        exact ⟨f2, e3, Or.inr ⟨_, e2⟩⟩
  · rintro ⟨f, rfl, ⟨i, e⟩ | ⟨q, e⟩⟩
    · refine eachL_has (j := i) (h.lt1 _ _ e).1 ?_
      rw [eachA_tb0, e]; exact List.mem_cons_self
    · obtain ⟨f1, e1⟩ := h.up2 _ _ e
      have lq := (h.lt2 _ _ e).1
      refine eachL_has (j := q / 16) (by omega) ?_
      rw [eachA_tb0, e1]
      refine List.mem_cons_of_mem _ ((vis1_tb t _ _).2 ⟨q % 16, f, by omega, ?_, rfl⟩)
      rw [show q / 16 * 16 + q % 16 = q by omega]; exact e
theorem tabs_mem {n : Nat} {M : Nat → Int} {t : Tree} (h : TreeW n M t) (x : Int) : x ∈ tabsL t ↔ ∃ f : Nat, x = f ∧ isTab t f := by
  unfold tabsL
  rw [(sortI_perm _).mem_iff, List.mem_cons, vis0_tb h]
  constructor
  · rintro (rfl | ⟨f, rfl, hf⟩)
    · exact ⟨_, rfl, Or.inl rfl⟩
    · exact ⟨f, rfl, Or.inr hf⟩
  · rintro ⟨f, rfl, (rfl | hf)⟩
    · exact Or.inl rfl
    · exact Or.inr ⟨f, rfl, hf⟩
theorem eachL_nodup {sel : Sel} {page : Nat} {ent : Nat → Option (Nat × Bool × Bool)} {sub : Nat → List Int} (h1 : ∀ k, k < 16 → (eachA sel page ent sub k).Nodup) (h2 : ∀ j k, k < 16 → j < k → ∀ x ∈ eachA sel page ent sub j, x ∉ eachA sel page ent sub k) : ∀ k, k ≤ 16 → (eachL sel page ent sub k).Nodup
  | 0, _ => by simp [eachL]
  | k + 1, hk => by
    rw [eachL_succ]
    refine List.nodup_append.2 ⟨eachL_nodup h1 h2 k (by omega), h1 k (by omega), fun x hx y hy e => ?_⟩
    obtain ⟨j, hj, hx⟩ := eachL_mem k hx
    exact h2 j k (by omega) hj x hx (e ▸ hy)
theorem vis1_nodup {n : Nat} {M : Nat → Int} {t : Tree} (h : TreeW n M t) (i : Nat) : (vis1 selTb t i).Nodup := by
  refine eachL_nodup (fun k _ => ?_) (fun j k _ hj x hx hy => ?_) 16 (by omega)
  · rw [eachA_tb1]; cases t.t2 (i * 16 + k) <;> simp
  · rw [eachA_tb1] at hx hy
    cases e1 : t.t2 (i * 16 + j) with
    | none => rw [e1] at hx; cases hx
    | some f =>
      cases e2 : t.t2 (i * 16 + k) with
      | none => rw [e2] at hy; cases hy
      | some f' =>
        rw [e1] at hx; rw [e2] at hy
        have a := List.mem_singleton.1 hx
        have b := List.mem_singleton.1 hy
        have c : f' = f := by omega
        subst c
        have := h.a22 _ _ _ e1 e2
        omega
theorem tabs_nodup {n : Nat} {M : Nat → Int} {t : Tree} (h : TreeW n M t) : (tabsL t).Nodup := by
  unfold tabsL
  refine (sortI_perm _).nodup_iff.2 (List.nodup_cons.2 ⟨fun hx => ?_, ?_⟩)
  · obtain ⟨f, e, hf⟩ := (vis0_tb h _).1 hx
    have e' : f = t.root := by omega
    subst e'
    rcases hf with ⟨i, hf⟩ | ⟨q, hf⟩
    · exact h.a01 _ _ hf rfl
    · exact h.a02 _ _ hf rfl
  · refine eachL_nodup (fun k _ => ?_) (fun j k _ hj x hx hy => ?_) 16 (by omega)
    · rw [eachA_tb0]
      cases e : t.t1 k with
      | none => exact List.nodup_nil
      | some f =>
        refine List.nodup_cons.2 ⟨fun hx => ?_, vis1_nodup h k⟩
        obtain ⟨j, f2, _, e2, e3⟩ := (vis1_tb t k _).1 hx
        have : f = f2 := by omega
        subst this
        exact h.a12 _ _ _ e e2
    · rw [eachA_tb0] at hx hy
      cases e1 : t.t1 j with
      | none => rw [e1] at hx; cases hx
      | some f =>
        cases e2 : t.t1 k with
        | none => rw [e2] at hy; cases hy
        | some f' =>
          rw [e1] at hx; rw [e2] at hy
          rcases List.mem_cons.1 hx with hx | hx <;> rcases List.mem_cons.1 hy with hy | hy
          · have c : f' = f := by omega
            subst c
            have := h.a11 _ _ _ e1 e2
            omega
          · obtain ⟨a, f2, _, e3, e4⟩ := (vis1_tb t k _).1 hy
            have c : f2 = f := by omega
            subst c
            exact h.a12 _ _ _ e1 e3
          · obtain ⟨a, f2, _, e3, e4⟩ := (vis1_tb t j _).1 hx
            have c : f2 = f' := by omega
            subst c
            exact h.a12 _ _ _ e2 e3
          · obtain ⟨a, f2, ha, e3, e4⟩ := (vis1_tb t j _).1 hx
            obtain ⟨b, f3, hb, e5, e6⟩ := (vis1_tb t k _).1 hy
            have c : f3 = f2 := by omega
            subst c
            have := h.a22 _ _ _ e3 e5
            omega
theorem nodup_cnt (P : Nat → Prop) : ∀ (k : Nat) (L : List Int), L.Nodup → (∀ x, x ∈ L ↔ ∃ j : Nat, j < k ∧ x = j ∧ P j) → L.length = cnt P k
  | 0, L, _, h => by
    have : L = [] := List.eq_nil_iff_forall_not_mem.2 fun x hx => by
      obtain ⟨j, hj, _⟩ := (h x).1 hx
      omega
    subst this; rfl
  | k + 1, L, hn, h => by
    unfold cnt
    by_cases hk : P k
    · have hin : (k : Int) ∈ L := (h _).2 ⟨k, by omega, rfl, hk⟩
      have h1 := nodup_cnt P k (L.erase (k : Int)) (hn.erase _) (fun x => by
        rw [hn.mem_erase_iff, h]
        constructor
        · rintro ⟨h1, j, h2, rfl, h3⟩
          exact ⟨j, by omega, rfl, h3⟩
        · rintro ⟨j, h2, rfl, h3⟩
          exact ⟨by omega, j, by omega, rfl, h3⟩)
      rw [if_pos hk, ← h1, List.length_erase_of_mem hin]
      have := List.length_pos_of_mem hin
      omega
    · rw [if_neg hk]
      refine nodup_cnt P k L hn (fun x => ?_)
      rw [h]
      constructor
      · rintro ⟨j, h2, rfl, h3⟩
        refine ⟨j, ?_, rfl, h3⟩
        have : j ≠ k := fun e => hk (e ▸ h3)
        omega
      · rintro ⟨j, h2, rfl, h3⟩
        exact ⟨j, by omega, rfl, h3⟩
theorem isTab_lt {n : Nat} {M : Nat → Int} {t : Tree} (h : TreeW n M t) {f : Nat} (hf : isTab t f) : f < n := by
  rcases hf with rfl | ⟨i, e⟩ | ⟨q, e⟩
  · exact h.lr
  · exact (h.lt1 _ _ e).2
  · exact (h.lt2 _ _ e).2
theorem tabs_cnt {n : Nat} {M : Nat → Int} {t : Tree} (h : TreeW n M t) (hn : n ≤ 256) : (tabsL t).length = cnt (isTab t) 256 := by
  refine nodup_cnt _ _ _ (tabs_nodup h) (fun x => ?_)
  rw [tabs_mem h]
  constructor
  · rintro ⟨f, e, hf⟩
    have := isTab_lt h hf
    exact ⟨f, by omega, e, hf⟩
  · rintro ⟨f, _, e, hf⟩
    exact ⟨f, e, hf⟩

/-- What is given are the tables alone. -/
def HeldX (t : Tree) (H : List Blk) : Prop := ∀ b ∈ H, ∃ f : Nat, isTab t f ∧ b = ((f : Int), (0 : Int))
theorem HeldX.after {r0 n : Nat} {t t' : Tree} {T T' : Nat → Prop} {H H' : List Blk} {M M' : Nat → Int} (h : HeldX t H) (ha : After r0 n t T H M t' T' H' M') : HeldX t' H' := fun b hb => by
  rcases ha.ap.gave b hb with h1 | ⟨h1, h2⟩
  · exact h1
  · obtain ⟨f, hf, e⟩ := h b h1
    exact absurd e (h2 f hf)
theorem heldX_new (c : Nat) : HeldX (emptyT c) [((c : Int), (0 : Int))] := fun b hb => ⟨c, Or.inl rfl, List.mem_singleton.1 hb⟩
theorem inB_zero (f x : Nat) : inB ((f : Int), (0 : Int)) x ↔ x = f := by unfold inB; simp
theorem all_frames {n : Nat} {T : Nat → Prop} {H : List Blk} {M : Nat → Int} {t : Tree} (hi : InvB 0 n T H) (hh : HeldT t H) (hx : HeldX t H) (x : Nat) : x < n ↔ T x ∨ isTab t x := by
  have := hi.cov x
  constructor
  · intro hlt
    rcases this.1 ⟨by omega, hlt⟩ with h1 | ⟨b, hb, h1⟩
    · exact Or.inl h1
    · obtain ⟨f, hf, rfl⟩ := hx b hb
      rw [(inB_zero f x).1 h1]; exact Or.inr hf
  · rintro (h1 | h1)
    · exact (this.2 (Or.inl h1)).2
    · exact (this.2 (Or.inr ⟨_, hh x h1, (inB_zero x x).2 rfl⟩)).2
theorem left_tabs {n : Nat} {T : Nat → Prop} {H : List Blk} {M : Nat → Int} {t : Tree} (h : TreeW n M t) (hn : n ≤ 256) (hi : InvB 0 n T H) (hh : HeldT t H) (hx : HeldX t H) : cnt T 256 + (tabsL t).length = n := by
  rw [tabs_cnt h hn]
  have h1 := cnt_int 0 n 256 (by omega)
  rw [← cnt_add (T := fun x => 0 ≤ x ∧ x < 0 + n) (A := T) (B := isTab t) (fun x => by
    rw [← all_frames (M := M) hi hh hx]; omega) (fun x h1 h2 => apart_T hi (hh x h2) h1) 256]
  exact h1

/-! ### As many tables as are needed -/
def chgs (d : Int) : Option Int → List Int → Nat
  | _, [] => 0
  | none, x :: l => 1 + chgs d (some x) l
  | some y, x :: l => (if y / d = x / d then 0 else 1) + chgs d (some x) l
def lastO : Option Int → List Int → Option Int
  | o, [] => o
  | _, x :: l => lastO (some x) l
theorem chgs_append (d : Int) : ∀ (l m : List Int) (o : Option Int), chgs d o (l ++ m) = chgs d o l + chgs d (lastO o l) m
  | [], m, o => by cases o <;> simp [chgs, lastO]
  | x :: l, m, none => by simp only [List.cons_append, chgs, lastO]; rw [chgs_append d l m]; omega
  | x :: l, m, some y => by simp only [List.cons_append, chgs, lastO]; rw [chgs_append d l m]; omega
theorem lastO_mem {y : Int} : ∀ (l : List Int) (o : Option Int), lastO o l = some y → o = some y ∨ y ∈ l
  | [], o, h => Or.inl h
  | x :: l, o, h => by
    rcases lastO_mem l (some x) h with h1 | h1
    · cases h1; exact Or.inr List.mem_cons_self
    · exact Or.inr (List.mem_cons_of_mem _ h1)
theorem lastO_snoc (x : Int) : ∀ (l : List Int) (o : Option Int), lastO o (l ++ [x]) = some x
  | [], o => rfl
  | y :: l, o => lastO_snoc x l (some y)
theorem chgs_same (d q : Int) : ∀ (l : List Int) (y : Int), (∀ x ∈ l, x / d = q) → y / d = q → chgs d (some y) l = 0
  | [], _, _, _ => rfl
  | x :: l, y, h, hy => by
    have hx := h x List.mem_cons_self
    unfold chgs
    rw [if_pos (hy.trans hx.symm), chgs_same d q l x (fun z hz => h z (List.mem_cons_of_mem _ hz)) hx]
theorem chgs_one {d q : Int} {l : List Int} {o : Option Int} (hne : l ≠ []) (h : ∀ x ∈ l, x / d = q) (ho : ∀ y, o = some y → y / d ≠ q) : chgs d o l = 1 := by
  cases l with
  | nil => exact absurd rfl hne
  | cons x l =>
    have hx := h x List.mem_cons_self
    have hl := chgs_same d q l x (fun z hz => h z (List.mem_cons_of_mem _ hz)) hx
    cases o with
    | none => unfold chgs; rw [hl]
    | some y =>
      unfold chgs
      rw [if_neg (fun e => ho y rfl (e.trans hx)), hl]
theorem chgs_none_one (d x : Int) : chgs d none [x] = 1 := rfl
theorem chgs_step (d : Int) (P : List Int) (k : Nat) (h : k + 1 < P.length) : chgs d none (P.take (k + 1 + 1)) = chgs d none (P.take (k + 1)) + if P[k] / d = P[k + 1] / d then 0 else 1 := by
  rw [List.take_succ_eq_append_getElem h, chgs_append, List.take_succ_eq_append_getElem (show k < P.length by omega), lastO_snoc]
  simp [chgs]
theorem chgs_first (d : Int) (P : List Int) (h : 0 < P.length) : chgs d none (P.take 1) = 1 := by
  cases P with
  | nil => simp at h
  | cons x l => rfl
theorem chgs_le (d : Int) : ∀ (l : List Int) (o : Option Int), chgs d o l ≤ l.length
  | [], o => by cases o <;> simp [chgs]
  | x :: l, none => by have := chgs_le d l (some x); simp only [chgs, List.length_cons]; omega
  | x :: l, some y => by have := chgs_le d l (some x); simp only [chgs, List.length_cons]; split <;> omega

theorem vis2_ne {n : Nat} {M : Nat → Int} {t : Tree} (h : TreeN n M t) {q f : Nat} (e : t.t2 q = some f) : vis2 selPg t q ≠ [] := by
  obtain ⟨k, hk, x, hx⟩ := h.dn2 _ _ e
  refine List.ne_nil_of_mem (a := ((q * 16 + k : Nat) : Int)) (eachL_has hk ?_)
  rw [eachA_pg, show q * 16 + k = 16 * q + k by omega, hx]; exact List.mem_singleton.2 rfl
theorem vis1_ne {n : Nat} {M : Nat → Int} {t : Tree} (h : TreeN n M t) {i f : Nat} (e : t.t1 i = some f) : vis1 selPg t i ≠ [] := by
  obtain ⟨j, hj, f2, e2⟩ := h.dn1 _ _ e
  rw [show 16 * i + j = i * 16 + j by omega] at e2
  obtain ⟨x, hx⟩ := List.exists_mem_of_ne_nil _ (vis2_ne h e2)
  exact List.ne_nil_of_mem (a := x) (eachL_has hj (by rw [eachA_t1, e2]; exact hx))
theorem chgs16_lvl1 {n : Nat} {M : Nat → Int} {t : Tree} (h : TreeN n M t) (i : Nat) (o : Option Int) (ho : ∀ y, o = some y → y < ((256 * i : Nat) : Int)) : ∀ k, k ≤ 16 → chgs 16 o (eachL selPg i (ent1 t i) (fun j => vis2 selPg t (i * 16 + j)) k) = (eachL selTb i (ent1 t i) (fun j => vis2 selTb t (i * 16 + j)) k).length
  | 0, _ => by cases o <;> simp [eachL, chgs]
  | k + 1, hk => by
    rw [eachL_succ, eachL_succ, chgs_append, chgs16_lvl1 h i o ho k (by omega), List.length_append, eachA_t1, eachA_tb1]
    cases e : t.t2 (i * 16 + k) with
    | none =>
      simp only [List.length_nil]
      cases lastO o (eachL selPg i (ent1 t i) (fun j => vis2 selPg t (i * 16 + j)) k) <;> simp [chgs]
    | some f =>
      simp only [List.length_singleton]
      rw [chgs_one (q := ((i * 16 + k : Nat) : Int)) (vis2_ne h e) (fun x hx => by have := (vis2_rise t _).2 x hx; omega) (fun y hy => ?_)]
      have hy2 : y < ((256 * i + 16 * k : Nat) : Int) := by
        rcases lastO_mem _ _ hy with h1 | h1
        · have := ho y h1; omega
        · obtain ⟨j, hj, h2⟩ := eachL_mem k h1
          rw [eachA_t1] at h2
          cases e2 : t.t2 (i * 16 + j) with
          | none => rw [e2] at h2; cases h2
          | some f2 =>
            rw [e2] at h2
            have := ((vis2_rise t _).2 y h2).2
            omega
      omega
theorem chgs_lvl0 {n : Nat} {M : Nat → Int} {t : Tree} (h : TreeN n M t) : ∀ k, k ≤ 16 → chgs 256 none (eachL selPg 0 (ent0 t) (fun i => vis1 selPg t (0 * 16 + i)) k) + chgs 16 none (eachL selPg 0 (ent0 t) (fun i => vis1 selPg t (0 * 16 + i)) k) = (eachL selTb 0 (ent0 t) (fun i => vis1 selTb t (0 * 16 + i)) k).length
  | 0, _ => by simp [eachL, chgs]
  | k + 1, hk => by
    have ih := chgs_lvl0 h k (by omega)
    rw [eachL_succ, eachL_succ, chgs_append, chgs_append, List.length_append, ← ih, eachA_t0, eachA_tb0]
    cases e : t.t1 k with
    | none =>
      simp only [List.length_nil]
      cases lastO none (eachL selPg 0 (ent0 t) (fun i => vis1 selPg t (0 * 16 + i)) k) <;> simp [chgs]
    | some f =>
      have hy2 : ∀ y, lastO none (eachL selPg 0 (ent0 t) (fun i => vis1 selPg t (0 * 16 + i)) k) = some y → y < ((256 * k : Nat) : Int) := fun y hy => by
        rcases lastO_mem _ _ hy with h1 | h1
        · cases h1
        · obtain ⟨j, hj, h2⟩ := eachL_mem k h1
          rw [eachA_t0] at h2
          cases e2 : t.t1 j with
          | none => rw [e2] at h2; cases h2
          | some f2 =>
            rw [e2] at h2
            have := ((vis1_rise t _).2 y h2).2
            omega
      simp only [List.length_cons]
      rw [chgs_one (q := (k : Int)) (vis1_ne h e) (fun x hx => by have := (vis1_rise t _).2 x hx; omega) (fun y hy => by have := hy2 y hy; omega)]
      have e16 : chgs 16 (lastO none (eachL selPg 0 (ent0 t) (fun i => vis1 selPg t (0 * 16 + i)) k)) (vis1 selPg t k) = (vis1 selTb t k).length := chgs16_lvl1 h k _ hy2 16 (by omega)
      rw [e16]; omega
/-- The root, a table for each 256 pages that have one, a table for each 16. -/
theorem tabs_need {n : Nat} {M : Nat → Int} {t : Tree} (h : TreeN n M t) : (tabsL t).length = 1 + chgs 256 none (vis0 selPg t) + chgs 16 none (vis0 selPg t) := by
  have := chgs_lvl0 h 16 (by omega)
  unfold tabsL
  rw [sortI_len, List.length_cons]
  show (vis0 selTb t).length + 1 = _
  show (eachL selTb 0 (ent0 t) (fun i => vis1 selTb t (0 * 16 + i)) 16).length + 1 = _
  rw [← this]
  show chgs 256 none (vis0 selPg t) + chgs 16 none (vis0 selPg t) + 1 = _
  omega

end Go.Proofs.Ytoiiblajgkdabaa

namespace Go.Proofs.Ytoiiblajgkdabaa
set_option linter.unusedSimpArgs false
set_option linter.unusedVariables false
set_option maxRecDepth 100000
open Go.RowKit
set_option maxHeartbeats 40000000

def LessAt (g : World) (ps pm pb n : Nat) (R : HP) (P : List Int) (k : Nat) (need : Value) : Prop := need = .int .i64 ((1 + chgs 256 none (P.take k) + chgs 16 none (P.take k) : Nat) : Int)
theorem less_next {P : List Int} {j : Nat} (h : j + 1 < P.length) {a b : Int} (ha : P[j + 1] = a) (hb : P[j] = b) (u v : Bool) (hu : u = (a / 256 != b / 256)) (hv : v = (a / 16 != b / 16)) :
    1 + chgs 256 none (P.take (j + 1 + 1)) + chgs 16 none (P.take (j + 1 + 1)) = 1 + chgs 256 none (P.take (j + 1)) + chgs 16 none (P.take (j + 1)) + (if u then 1 else 0) + (if v then 1 else 0) := by
  rw [chgs_step 256 P j h, chgs_step 16 P j h, ha, hb, hu, hv]
  have e1 : (if b / 256 = a / 256 then (0 : Nat) else 1) = if (a / 256 != b / 256) = true then 1 else 0 := by
    by_cases e : a / 256 = b / 256
    · rw [if_pos e.symm, if_neg (by simp [e])]
    · rw [if_neg (fun h => e h.symm), if_pos (by simp [e])]
  have e2 : (if b / 16 = a / 16 then (0 : Nat) else 1) = if (a / 16 != b / 16) = true then 1 else 0 := by
    by_cases e : a / 16 = b / 16
    · rw [if_pos e.symm, if_neg (by simp [e])]
    · rw [if_neg (fun h => e h.symm), if_pos (by simp [e])]
  rw [e1, e2]; omega
theorem div_pg {x : Int} (h : 0 ≤ x ∧ x < 4096) : wrap64 (x.tdiv 256) = x / 256 ∧ wrap64 (x.tdiv 16) = x / 16 := by
  rw [Int.tdiv_eq_ediv_of_nonneg h.1, Int.tdiv_eq_ediv_of_nonneg h.1]
  exact ⟨IntWalk.wrap64_in _ (by omega), IntWalk.wrap64_in _ (by omega)⟩
theorem row_cells_at {g w : World} {gb n cap : Nat} {L : List Int} {R : HP} (h : Sat g w (rowP (.slice (some ⟨gb, 0, none⟩) L.length cap) L * R)) (j : Nat) (hj : j < L.length) : w.cell? ⟨gb, j, none⟩ = some (.int .i64 L[j]) := by
  obtain ⟨a2, c2, hv, hcell⟩ := rowP_cells h
  simp only [Value.slice.injEq, Option.some.injEq] at hv
  obtain ⟨rfl, -, rfl⟩ := hv
  rcases hcell with h0 | ⟨gb', e5, _, hc⟩
  · rw [h0] at hj; simp at hj
  · simp only [Option.some.injEq, Addr.mk.injEq] at e5
    obtain ⟨rfl, -, -⟩ := e5
    exact hc j hj
theorem row_addr {g w : World} {a : Option Addr} {cap : Nat} {L : List Int} {R : HP} (h : Sat g w (rowP (.slice a L.length cap) L * R)) (h0 : 0 < L.length) : ∃ gb, a = some ⟨gb, 0, none⟩ := by
  obtain ⟨a2, c2, hv, hcell⟩ := rowP_cells h
  simp only [Value.slice.injEq] at hv
  obtain ⟨rfl, -, rfl⟩ := hv
  rcases hcell with h1 | ⟨gb', e5, _, _⟩
  · rw [h1] at h0; simp at h0
  · exact ⟨gb', e5⟩

theorem less08 (a : Option Addr) (len cap : Nat) (L : Nat → OpT) (w : World) (hA : OpsT w a len L) (hm : len ≤ 9223372036854775807) :
    Calls Try.prog 10 #[.slice a len cap] w fun e w' => e = .returned (.bool true) ∧ Below w.heap.size w w' := by
  have HK := Lib.hid hA.kept
  have HA := Lib.hid (awake08 w w _ (Sat.start w))
  clear hA
  go_enter Try.func10, Try.ntmps10
  go_wp2_with (fail)
  refine HA.out.mono ?_
  rintro e w1 ⟨rfl, S0⟩
  go_wp2_with (fail)
  refine (begun8_yes 200 w w1 _ S0 (by omega) (by omega)).mono ?_
  rintro e w2 ⟨pm, pb, ps, c, rfl, _, S1⟩
  by_cases hlen : 40 < len
  · go_wp2_with (fail)
    go_ret
    exact ⟨rfl, Sat.ends (S1.sat.right.right.right.emp.perm (star_comm _ _))⟩
  have B1 : SpAny w ps pm pb 0 200 (whole w) w2 := ⟨_, _, _, _, S1⟩
  clear S1 S0
  go_wp2_with (fail)
  go_loopw [7] (fun i wr => ∃ k : Nat, k ≤ len ∧ i = .int .i64 k ∧ SpAny w ps pm pb 0 200 (whole w) wr) (fun i _ => len - (intOf i).toNat)
  case atStart => exact ⟨0, by omega, rfl, B1⟩
  case round =>
    obtain ⟨k, hk, rfl, B2⟩ := hrel
    clear B1
    by_cases hkl : k < len
    · have i1 : (k : Int) < len := by omega
      have hop : ∃ ob off, a = some ⟨ob, off, none⟩ ∧ OpTAt wr ob (off + k * 4) (L k) := by
        obtain ⟨t, T, H, M, S2⟩ := B2
        rcases HK.out wr (spP ps pm pb t.root * (midP pb pm T H * memP pm 200 M)) (S2.sat.perm (by ac_rfl)) with h0 | ⟨ob, off, h1, hops⟩
        · omega
        · exact ⟨ob, off, h1, hops k hkl⟩
      obtain ⟨ob, off, rfl, hop⟩ := hop
      generalize L k = x at hop
      obtain ⟨q0, q1, q2, q3⟩ := hop
      have B3 : SpAny w ps pm pb 0 200 (whole w) wr.drew := by
        obtain ⟨t, T, H, M, S2⟩ := B2
        exact ⟨t, T, H, M, { S2 with sat := S2.sat.drew }⟩
      go_upto_if 44 with (fail)
      go_cut [] (fun wx => SpAny w ps pm pb 0 200 (whole w) wx)
      case first =>
        by_cases h1 : x.d = 2
        · have g1 : (x.d == 2) = true := by simp [h1]
          clear h1
          go_wp2_with (fail)
          refine (s_unmap_any w ps pm pb 0 200 _ _ x.p B2).mono ?_
          rintro e w4 ⟨⟨v, rfl⟩, B4⟩
          go_wp2_with (fail)
          go_meet
          exact B4
        · have g1 : (x.d == 2) = false := by rw [beq_eq_false_iff_ne]; exact h1
          clear h1
          have m1 : ∀ z : Wc (fun w' => wr.drew = w'), z.w.cell? ⟨ob, off + k * 4 + 1, none⟩ = some (.int .i64 x.p) := fun z => by rw [← z.h]; exact q1
          have m2 : ∀ z : Wc (fun w' => wr.drew = w'), z.w.cell? ⟨ob, off + k * 4 + 2, none⟩ = some (.int .i64 x.f) := fun z => by rw [← z.h]; exact q2
          have m3 : ∀ z : Wc (fun w' => wr.drew = w'), z.w.cell? ⟨ob, off + k * 4 + 3, none⟩ = some (.bool x.b) := fun z => by rw [← z.h]; exact q3
          go_wp2_with (fail)
          (refine region_tail (fun w' => wr.drew = w') 16 (by kernel_rfl) (by kernel_rfl) (rfl) ?_; intro _; simp only [List.take_succ_cons, List.take_zero, List.drop_succ_cons, List.drop_zero]; (repeat (first | go_big_quiet_step ((fail)) | quiet_step ((fail)))); refine wpQuiet_nil ?_; intro wz hz)
          subst hz
          clear m1 m2 m3 q1 q2 q3
          go_wp2_with (fail)
          refine (s_map_any w ps pm pb 0 200 _ _ x.p x.f x.b B3).mono ?_
          rintro e w4 ⟨⟨v, rfl⟩, B4⟩
          go_wp2_with (fail)
          go_meet
          exact B4
      case rest =>
        obtain ⟨t, T, H, M, S3⟩ := hcut
        have hn200 := S3.n256
        have HT := Lib.hid S3.tree
        have S4 : Sat w wc (spP ps pm pb t.root * (memP pm 200 M * (midP pb pm T H * whole w))) := S3.sat.perm (by ac_rfl)
        have HS : Hid (∀ w', Sat w w' (spP ps pm pb t.root * (memP pm 200 M * (midP pb pm T H * whole w))) → SpAny w ps pm pb 0 200 (whole w) w') := Lib.hid fun w' h' => ⟨t, T, H, M, { S3 with sat := h'.perm (by ac_rfl) }⟩
        clear S3 B2 B3 q0 q1 q2 q3
        go_wp2_with (fail)
        refine (s_pages ps pm pb 200 M t HT.out.w hn200 w _ _ S4).mono ?_
        rintro e w5 ⟨va, vc, rfl, S5⟩
        have hneed := tabs_need HT.out
        have hpl := vis0_len selPg_len t
        have hpos : ∀ x ∈ vis0 selPg t, 0 ≤ x ∧ x < 4096 := fun x hx => by
          obtain ⟨p, hp, y, hy⟩ := pages_mem t x hx
          have := (HT.out.w.ltp _ _ hy).1
          omega
        have htl := tabsL_len t
        generalize vis0 selPg t = PL at S5 hneed hpl hpos
        have HNE := Lib.hid hneed
        have HPL := Lib.hid hpl
        have HPO := Lib.hid hpos
        have HTL := Lib.hid htl
        clear hneed hpl hpos htl S4
        obtain ⟨wi, rfl⟩ : ∃ wi : World, wi = wr := ⟨_, rfl⟩
        go_wp2_with (fail)
        go_loopw [10, 9] (fun i s wr => ∃ k : Nat, k ≤ PL.length ∧ i = .int .i64 k ∧ (∃ nd : Nat, s = .int .i64 nd ∧ Hid (nd = 1 + chgs 256 none (PL.take k) + chgs 16 none (PL.take k))) ∧ Sat w wr (rowP (.slice va PL.length vc) PL * (spP ps pm pb t.root * (memP pm 200 M * (midP pb pm T H * whole w))))) (fun i _ _ => PL.length - (intOf i).toNat)
        case atStart => exact ⟨0, by omega, rfl, ⟨1, rfl, Lib.hid rfl⟩, S5⟩
        case round =>
          obtain ⟨j, hj, rfl, ⟨nd, rfl, HND⟩, S6⟩ := hrel
          clear S5
          have hnd : nd ≤ 10000 := by
            have h1 := chgs_le 256 (PL.take j) none
            have h2 := chgs_le 16 (PL.take j) none
            have h3 := HPL.out
            have h4 := HND.out
            rw [List.length_take] at h1 h2
            omega
          by_cases hjl : j < PL.length
          · have i2 : (j : Int) < PL.length := by omega
            obtain ⟨gb, rfl⟩ := row_addr S6 (by omega)
            have S7 := S6.drew
            have S8 := S7.drew
            by_cases hj0 : 0 < j
            · obtain ⟨i, rfl⟩ : ∃ i, j = i + 1 := ⟨j - 1, by omega⟩
              have q3 := row_cells_at (n := 0) S6 (i + 1) hjl
              have q4 := row_cells_at (n := 0) S6 i (by omega)
              have p3 := HPO.out _ (List.getElem_mem hjl)
              have p4 := HPO.out _ (List.getElem_mem (show i < PL.length by omega))
              have HN : Hid (∀ (a b : Int), PL[i + 1] = a → PL[i] = b → ∀ (u v : Bool), u = (a / 256 != b / 256) → v = (a / 16 != b / 16) → 1 + chgs 256 none (PL.take (i + 1 + 1)) + chgs 16 none (PL.take (i + 1 + 1)) = nd + (if u then 1 else 0) + (if v then 1 else 0)) := Lib.hid fun a b ha hb u v hu hv => by rw [HND.out]; exact less_next hjl ha hb u v hu hv
              have h5 := HN.out _ _ rfl rfl
              generalize PL[i + 1] = pk at q3 p3 h5
              generalize PL[i] = pj at q4 p4 h5
              have HN2 := Lib.hid h5
              clear h5
              have hil : i ≤ 5000 := by have := HPL.out; omega
              have hw1 : IntKind.i64.wrap ((i : Int) + 1 - 1) = (i : Int) := by rw [IntWalk.i64_in _ ⟨by omega, by omega⟩]; omega
              have g0 : ((((i + 1 : Nat) : Int)) == 0) = false := by rw [beq_eq_false_iff_ne]; omega
              have g0' : (((i : Int) + 1) == 0) = false := by rw [beq_eq_false_iff_ne]; omega
              obtain ⟨d1, d2⟩ := div_pg p3
              obtain ⟨d3, d4⟩ := div_pg p4
              have hmain : ∀ (u v : Bool), (wrap64 (pk.tdiv 256) != wrap64 (pj.tdiv 256)) = u → (wrap64 (pk.tdiv 16) != wrap64 (pj.tdiv 16)) = v → Hid (1 + chgs 256 none (PL.take (i + 1 + 1)) + chgs 16 none (PL.take (i + 1 + 1)) = nd + (if u then 1 else 0) + (if v then 1 else 0)) := fun u v hu hv => Lib.hid (HN2.out u v (by rw [← hu, d1, d3]) (by rw [← hv, d2, d4]))
              have HM := Lib.hid hmain
              clear hmain HN HN2 d1 d2 d3 d4
              obtain ⟨p3, -⟩ := p3
              obtain ⟨p4, -⟩ := p4
              cases hu : (wrap64 (pk.tdiv 256) != wrap64 (pj.tdiv 256)) <;> cases hv : (wrap64 (pk.tdiv 16) != wrap64 (pj.tdiv 16))
              all_goals
                have HE := HM.out _ _ hu hv
                have m1 : ∀ z : Wc (fun w' => wr.drew = w'), z.w.cell? ⟨gb, i + 1, none⟩ = some (.int .i64 pk) := fun z => by rw [← z.h]; exact q3
                have m2 : ∀ z : Wc (fun w' => wr.drew = w'), z.w.cell? ⟨gb, i, none⟩ = some (.int .i64 pj) := fun z => by rw [← z.h]; exact q4
                have m3 : ∀ z : Wc (fun w' => wr.drew.drew = w'), z.w.cell? ⟨gb, i + 1, none⟩ = some (.int .i64 pk) := fun z => by rw [← z.h]; exact q3
                have m4 : ∀ z : Wc (fun w' => wr.drew.drew = w'), z.w.cell? ⟨gb, i, none⟩ = some (.int .i64 pj) := fun z => by rw [← z.h]; exact q4
                clear q3 q4 HM
                go_wp2_with (fail)
                (refine region_class (fun w' => wr.drew = w') (by kernel_rfl) (by kernel_rfl) (rfl) ?_; intro _; (repeat (first | go_big_quiet_step ((fail)) | quiet_step ((fail)))); refine wpQuiet_nil ?_; intro wz hz)
                subst hz
                clear m1 m2
                go_wp2_with (fail)
                (refine region_class (fun w' => wr.drew.drew = w') (by kernel_rfl) (by kernel_rfl) (rfl) ?_; intro _; (repeat (first | go_big_quiet_step ((fail)) | quiet_step ((fail)))); refine wpQuiet_nil ?_; intro wz hz)
                subst hz
                clear m3 m4
                go_wp2_with (fail)
                go_roundw
                case rel => exact ⟨i + 1 + 1, by omega, by go_num, ⟨_, by go_num, Lib.hid (by first | (rw [HE.out]; done) | (rw [HE.out]; simp))⟩, S8⟩
                case measure => simp [intOf]; omega
            · obtain rfl : j = 0 := by omega
              have HE : Hid (1 + chgs 256 none (PL.take (0 + 1)) + chgs 16 none (PL.take (0 + 1)) = nd + 1 + 1) := Lib.hid (by
                have h1 := HND.out
                rw [Nat.zero_add, chgs_first 256 PL hjl, chgs_first 16 PL hjl, h1]
                simp [chgs])
              clear HND
              go_wp2_with (fail)
              (refine region_class (fun w' => wr.drew = w') (by kernel_rfl) (by kernel_rfl) (rfl) ?_; intro _; (repeat (first | go_big_quiet_step ((fail)) | quiet_step ((fail)))); refine wpQuiet_nil ?_; intro wz hz)
              subst hz
              go_wp2_with (fail)
              (refine region_class (fun w' => wr.drew.drew = w') (by kernel_rfl) (by kernel_rfl) (rfl) ?_; intro _; (repeat (first | go_big_quiet_step ((fail)) | quiet_step ((fail)))); refine wpQuiet_nil ?_; intro wz hz)
              subst hz
              go_wp2_with (fail)
              go_roundw
              case rel => exact ⟨0 + 1, by omega, by go_num, ⟨_, by go_num, Lib.hid HE.out.symm⟩, S8⟩
              case measure => simp [intOf]; omega
          · obtain rfl : PL.length = j := by omega
            have hnd2 : nd = (tabsL t).length := by
              rw [HNE.out, HND.out, List.take_length]
            subst hnd2
            go_wp2_with (fail)
            refine (s_tabs ps pm pb 200 M t HT.out.w hn200 w _ _ S6.right).mono ?_
            rintro e w7 ⟨xa, xc, rfl, S9⟩
            have B9 := HS.out w7 S9.right
            go_wp2_with (fail)
            go_roundw
            case rel => exact ⟨k + 1, by omega, by go_num, B9⟩
            case measure => simp [intOf]; omega
    · obtain rfl : len = k := by omega
      obtain ⟨t, T, H, M, S2⟩ := B2
      go_wp2_with (fail)
      go_ret
      exact ⟨rfl, Sat.ends (S2.sat.right.right.right.emp.perm (star_comm _ _))⟩

end Go.Proofs.Ytoiiblajgkdabaa
