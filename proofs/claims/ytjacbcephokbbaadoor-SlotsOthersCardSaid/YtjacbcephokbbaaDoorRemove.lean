/- What Remove of package slots returns and writes, by a walk over its text. -/
import Derived.Test.YtjacbcephokbbaaDoorSlots2
namespace Go.Proofs.YtjacbcephokbbaaDoor
set_option linter.unusedSimpArgs false
set_option linter.unusedVariables false
set_option maxRecDepth 100000
open Go.RowKit
set_option maxHeartbeats 4000000

/-- The windows that are not a partition's; how many are. -/
def notP (part : Int) (L : List Win) : List Win := L.filter fun x => !(x.p == part)
def cntP (part : Int) (L : List Win) : Nat := L.countP fun x => x.p == part
/-- The set without the ticks of a partition's windows. -/
def unm (S : Nat → Bool) (part : Int) (L : List Win) : Nat → Bool := fun i => S i && !(L.any fun x => x.p == part && inW x i)
theorem unm_nil (S : Nat → Bool) (part : Int) : unm S part [] = S := by funext i; simp [unm]
theorem unm_keep (S : Nat → Bool) (part : Int) (L : List Win) (x : Win) (h : (x.p == part) = false) : unm S part (L ++ [x]) = unm S part L := by
  funext i; simp [unm, h]
theorem unm_mark (S : Nat → Bool) (part : Int) (L : List Win) (x : Win) (h : (x.p == part) = true) (hl : 0 ≤ x.l) : markS (unm S part L) x false x.l.toNat = unm S part (L ++ [x]) := by
  funext i
  unfold markS unm
  have e : ((x.l.toNat : Nat) : Int) = x.l := by omega
  rw [e]
  by_cases hi : x.f ≤ (i : Int) ∧ (i : Int) < x.f + x.l
  · rw [if_pos hi]
    have : inW x i = true := by simp [inW, hi]
    simp [h, this]
  · rw [if_neg hi]
    have : inW x i = false := by
      cases hc : inW x i
      · rfl
      · simp [inW] at hc; exact absurd hc hi
    simp [this]
theorem notP_take (part : Int) (L : List Win) (x : Win) : notP part (L ++ [x]) = notP part L ++ (if x.p == part then [] else [x]) := by
  unfold notP
  rw [List.filter_append]
  cases h : x.p == part <;> simp [h]
theorem cntP_take (part : Int) (L : List Win) (x : Win) : cntP part (L ++ [x]) = cntP part L + (if x.p == part then 1 else 0) := by
  unfold cntP
  rw [List.countP_append]
  cases h : x.p == part <;> simp [h]
theorem cntP_le (part : Int) (L : List Win) : cntP part L ≤ L.length := List.countP_le_length
theorem notP_len (part : Int) (L : List Win) : (notP part L).length ≤ L.length := List.length_filter_le _ _

theorem occ_notP (part : Int) : ∀ (L : List Win), (∀ x ∈ L, 1 ≤ x.l) → (L.Pairwise fun a b => a.f + a.l ≤ b.f) → ∀ t : Int, occ (notP part L) t = (occ L t && !(L.any fun x => x.p == part && inW x t))
  | [], _, _, t => rfl
  | x :: L, hb, hp, t => by
    have h1 := List.pairwise_cons.1 hp
    have ih := occ_notP part L (fun y hy => hb y (by simp [hy])) h1.2 t
    have hno : inW x t = true → occ L t = false := fun hx => by
      unfold occ
      rw [List.any_eq_false]
      intro y hy hyt
      have := h1.1 y hy
      have := hb x (by simp)
      simp [inW] at hx hyt
      omega
    have e1 : occ (x :: L) t = (inW x t || occ L t) := rfl
    have e2 : occ (notP part (x :: L)) t = ((!(x.p == part) && inW x t) || occ (notP part L) t) := by
      unfold notP
      cases h : x.p == part <;> simp [List.filter_cons, h, occ]
    rw [e1, e2, ih, List.any_cons]
    cases hx : inW x t
    · simp
    · rw [hno hx]
      have hL : (L.any fun x => x.p == part && inW x t) = false := by
        rw [List.any_eq_false]
        intro y hy hc
        have := hno hx
        unfold occ at this
        rw [List.any_eq_false] at this
        simp at hc
        exact this y hy hc.2
      rw [hL]
      cases x.p == part <;> simp
theorem TabOk.remove {n : Int} {S : Nat → Bool} {L : List Win} (h : TabOk n S L) (part : Int) : TabOk n (unm S part L) (notP part L) := by
  refine ⟨h.n1, h.n2, fun x hx => h.bd x (List.mem_filter.1 hx).1, h.ap.filter _, fun k hk => ?_⟩
  rw [occ_notP part L (fun x hx => (h.bd x hx).2.2.1) h.ap, ← h.oc k hk]
  rfl

theorem own_base0 {w : World} {base e size n : Nat} {v : Value} {xs : List Value} (h : w.ownsRow base e size v n xs) : w.ownsRow 0 e size v n xs := by
  obtain ⟨h1, h2⟩ := h
  refine ⟨h1, ?_⟩
  rcases h2 with h2 | ⟨g, cap, cur, hv, hg, r⟩
  · exact Or.inl h2
  · exact Or.inr ⟨g, cap, cur, hv, Nat.zero_le _, r⟩
theorem Touch.below_trans {S : Nat → Prop} {w wa w3 : World} {B : Nat} (h : Touch S w wa) (k : Below B wa w3) (hB : w.heap.size ≤ B) : Touch S w w3 :=
  ⟨k.os.trans h.os, k.tape.trans h.tape, k.output.trans h.output, Nat.le_trans h.size k.size, fun i hi hs => (k.block i (by omega)).trans (h.block i hi hs)⟩
theorem slots_remove (pt : Nat) (v : Value) (n : Int) (S : Nat → Bool) (L : List Win) (part : Int) (w : World) (h : TabIn w pt v n S L) (ok : TabOk n S L) :
    Calls Tryd.prog 15 #[.pointer (some ⟨pt, 0, none⟩), .int .i64 part] w fun e w' => e = .returned (.int .i64 (cntP part L)) ∧ TabPost w pt v n (notP part L) w' := by
  obtain ⟨i0, hi, hz0, hz1, hz2⟩ := info_parts infoWin
  have hlen := ok.len
  have hsm := ok.sm
  have hpt := h.lt
  obtain ⟨a, cap, hv, hw⟩ := own_wins h.row rfl
  have hvpt : ∀ b, v.ownBlock = some b → b ≠ pt := fun b hb e => h.ne (by rw [hb, e])
  have hwb : ∀ b, a = some ⟨b, 0, none⟩ → b ≠ pt := fun b hb => hvpt b (by rw [hv, hb]; rfl)
  have c5 := h.c5
  have f5 := h.f5
  have c0 := h.c0
  rw [hv] at c5
  have hbm := h.bm
  have hOK := Lib.hid (ok.remove part)
  obtain ⟨B, hB⟩ : ∃ B, B = w.heap.size := ⟨_, rfl⟩
  have hBB : B ≤ w.heap.size := by omega
  have hBp : pt < B := by omega
  have HB := Lib.hid hB
  clear h ok hB
  go_enter Tryd.func15, Tryd.ntmps15
  go_wp2_with (fail)
  go_loopw [5, 6, 14] (fun nv lv i wr => ∃ (k : Nat) (av : Option Addr) (cv : Nat), lv = .slice av (notP part (L.take k)).length cv ∧ k ≤ L.length ∧ i = .int .i64 k ∧ nv = .int .i64 (cntP part (L.take k)) ∧ wr.ownsRow B 58 3 lv (notP part (L.take k)).length (winCells (notP part (L.take k))) ∧ BmIn wr pt 1 (unm S part (L.take k)) ∧ Others pt 1 w wr ∧ Touch (· = pt) w wr) (fun _ _ i _ => L.length - (intOf i).toNat)
  case atStart => exact ⟨0, none, 0, rfl, by omega, rfl, rfl, World.ownsRow_nil _ _ _ _, by rw [List.take_zero, unm_nil]; exact hbm, Others.refl _ _ _, Touch.refl _ _⟩
  case round =>
    obtain ⟨k, av, cv, rfl, hk, rfl, rfl, hown, hbk, hO, hT⟩ := hrel
    have hBw : B ≤ wr.heap.size := Nat.le_trans hBB hT.size
    have hptr : pt < wr.heap.size := by omega
    by_cases hlt : k < L.length
    · rcases hw with h0 | ⟨b, rfl, hbl, hc⟩
      · rw [h0] at hlt; simp at hlt
      obtain ⟨q0, q1, q2⟩ := hc k hlt
      have hbp : ¬ b = pt := hwb b rfl
      have q0 := keepT hT hbl hbp q0
      have q1 := keepT hT hbl hbp q1
      have q2 := keepT hT hbl hbp q2
      have hts : L.take (k + 1) = L.take k ++ [L[k]] := List.take_succ_eq_append_getElem hlt
      have hx := hsm L[k] (List.getElem_mem hlt)
      obtain ⟨x, hxx⟩ : ∃ x, L[k] = x := ⟨_, rfl⟩
      rw [hxx] at q0 q1 q2 hts hx
      obtain ⟨x1, x2, x3⟩ := hx
      have i1 : (k : Int) < L.length := by omega
      have hnl := notP_len part (L.take k)
      have hcl := cntP_le part (L.take k)
      have htl : (L.take k).length ≤ k := List.length_take_le _ _
      obtain ⟨P, hP⟩ : ∃ P, L.take k = P := ⟨_, rfl⟩
      rw [hP] at hown hbk hts hnl hcl htl ⊢
      have HTS := Lib.hid hts
      clear hxx hc hts hP
      obtain ⟨wa, hwa⟩ : ∃ wa, wa = wr.alloc (.cells #[.int .i64 x.p, .int .i64 x.f, .int .i64 x.l] 58) := ⟨_, rfl⟩
      have hba : Below wr.heap.size wr wa := by rw [hwa]; repeat (first | with_reducible exact Below.refl _ _ | with_reducible assumption | with_reducible refine below_drewN ?_ _ | with_reducible refine Below.alloc ?_ (by simp <;> omega) _)
      have howna := hown.alloc (.cells #[.int .i64 x.p, .int .i64 x.f, .int .i64 x.l] 58)
      rw [← hwa] at howna
      have hbka := hbk.heap (hba.block pt hptr)
      have hOa : Others pt 1 w wa := hO.trans (Others.of_heap (hba.block pt hptr))
      have hTa : Touch (· = pt) w wa := hT.trans (Touch.of_below hba)
      have hBa : B ≤ wa.heap.size := Nat.le_trans hBw hba.size
      have hpta : pt < wa.heap.size := by omega
      have z0 : wa.cell? ⟨wr.heap.size, 0, none⟩ = some (.int .i64 x.p) := by rw [hwa]; simp [go_sem]
      have z1 : wa.cell? ⟨wr.heap.size, 1, none⟩ = some (.int .i64 x.f) := by rw [hwa]; simp [go_sem]
      have z2 : wa.cell? ⟨wr.heap.size, 2, none⟩ = some (.int .i64 x.l) := by rw [hwa]; simp [go_sem]
      go_upto_region 6 with (fail)
      rw [← hwa]
      clear hwa hown hbk hO hT
      cases hpx : (x.p == part)
      · have hpx' : (x.p != part) = true := by simp at hpx; simpa using hpx
        have hun := unm_keep S part P x hpx
        have hno := notP_take part P x
        have hcn := cntP_take part P x
        rw [hpx] at hno hcn
        simp only [Bool.false_eq_true, if_false, Nat.add_zero] at hno hcn
        have HU := Lib.hid hun
        have HN := Lib.hid hno
        have HC := Lib.hid hcn
        clear hun hno hcn hpx
        go_wp2_with (at_builtin; refine wpList_append_own _ rfl _ _ 54 rfl B 58 i0 (.agg #[.int .i64 0, .int .i64 0, .int .i64 0]) 3 24 Tryd.underlying54 hi hz0 hz1 hz2 rfl (by decide) _ _ _ rfl (howna.alloc _) ⟨wa.heap.size, 0, none⟩ 1 1 (encW x) rfl rfl (three_new _ _ _ _ _) (fun y hy => by simp [encW] at hy; rcases hy with rfl | rfl | rfl <;> rfl) (by unfold maxLen; omega) (by omega) (by simp; omega) ?_; intro v' w3 hown' hgrow3 hnil3)
        have hb3 : Below B wa w3 := Below.grown ((Below.refl B wa).alloc hBa _) hgrow3 (by simp; omega) (fun j hj => (howna.lt _ hj).1)
        have hT3 := hTa.below_trans hb3 (by rw [← HB.out]; exact Nat.le_refl _)
        have hb3p := hb3.block pt hBp
        rw [← winCells_snoc, ← HN.out] at hown'
        have hnl2 : (notP part P).length + 1 = (notP part (P ++ [x])).length := by rw [HN.out]; simp
        rw [hnl2] at hown'
        clear howna
        obtain ⟨a3, c3, hv3⟩ := own_slice hown'
        rw [hv3] at hown' ⊢
        clear hv3
        go_wp2_with (fail)
        go_roundw
        case rel => exact ⟨k + 1, a3, c3, by rw [HTS.out], by omega, by go_num, by rw [HTS.out, HC.out], by rw [HTS.out]; exact hown', by rw [HTS.out, HU.out]; exact hbka.heap hb3p, hOa.trans (Others.of_heap hb3p), hT3⟩
        case measure => simp [intOf]; omega
      · have hpx' : (x.p != part) = false := by simp at hpx; simpa using hpx
        have hun := unm_mark S part P x hpx x1
        have hno := notP_take part P x
        have hcn := cntP_take part P x
        rw [hpx] at hno hcn
        simp only [if_true, List.append_nil] at hno hcn
        have HU := Lib.hid hun
        have HN := Lib.hid hno
        have HC := Lib.hid hcn
        have hmk := slots_mark pt (unm S part P) x false wa hbka hpta x2 x1 x3
        have HMK := Lib.hid hmk
        clear hun hno hcn hpx hmk
        go_wp2_with (fail)
        refine (HMK.out).mono ?_
        rintro e w4 ⟨rfl, hB4, hO4, hT4⟩
        have hown4 := own_touch howna hT4 (fun g hg e => by have e' : g = pt := e; omega)
        clear howna
        go_wp2_with (fail)
        go_roundw
        case rel => exact ⟨k + 1, av, cv, by rw [HTS.out, HN.out], by omega, by go_num, by rw [HTS.out, HC.out]; go_num, by rw [HTS.out, HN.out]; exact hown4, by rw [HTS.out, ← HU.out]; exact hB4, hOa.trans hO4, hTa.trans hT4⟩
        case measure => simp [intOf]; omega
    · obtain rfl : k = L.length := by omega
      rw [List.take_length] at hown hbk ⊢
      have hc5 : wr.cell? ⟨pt, 5, none⟩ = some (.slice a L.length cap) := (hO 5 (by omega)).1.trans c5
      have hf5 : wr.frozen? ⟨pt, 5, none⟩ = false := (hO 5 (by omega)).2.trans f5
      have hc0 : wr.cell? ⟨pt, 0, none⟩ = some (.int .i64 n) := (hO 0 (by omega)).1.trans c0
      go_wp2_with (fail)
      go_ret
      have hgl : ∀ g, (Value.slice av (notP part L).length cv).ownBlock = some g → B ≤ g := fun g hg => (hown.lt g hg).1
      refine ⟨rfl, .slice av (notP part L).length cv, unm S part L, ⟨by rw [setCell_other5 (by omega)]; exact hc0, ⟨fun j hj => by rw [setCell_other5 (by omega)]; exact hbk.cell j hj, fun j hj => by simpa [go_sem] using hbk.free j hj⟩, by simp [go_sem, hc5], by simp [go_sem, hf5], ?_, fun e => by have := hgl pt e; omega, by simpa using hptr⟩, hOK.out, ?_, fun g hg => Or.inr ?_⟩
      · exact own_heap (w := wr) (own_base0 hown) (fun g hg => Below.heap_setCell _ _ _ _ (fun e => by have := hgl g hg; have e' : g = pt := e; omega))
      · exact Touch.setCell (S := tabS pt v) (hT.mono (fun j _ hj => Or.inl hj)) (Or.inl (Or.inl rfl)) _
      · have := hgl g hg; rw [← HB.out]; exact this

end Go.Proofs.YtjacbcephokbbaaDoor
