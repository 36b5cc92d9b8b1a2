/- Move of package slots. -/
import Derived.Test.YtjacbcephokbbaaDoorDel
import Derived.Test.YtjacbcephokbbaaDoorSep2
import Derived.WalkMore
namespace Go.Proofs.YtjacbcephokbbaaDoor
set_option linter.unusedSimpArgs false
set_option linter.unusedVariables false
set_option maxRecDepth 100000
open Go.RowKit
set_option maxHeartbeats 8000000

/-- What Move makes of a table. -/
inductive MoveAt (n : Int) (L : List Win) (p f t : Int) : Int → List Win → Prop
  | none (h : ∀ x ∈ L, ¬ (x.p = p ∧ x.f = f)) : MoveAt n L p f t 2 L
  | no (i : Nat) (hi : i < L.length) (hx : L[i].p = p ∧ L[i].f = f) (e : Int) (he : e ≠ 0) (hb : placeOk n p t L[i].l = false ∨ freeB (L.eraseIdx i) t L[i].l.toNat = false) : MoveAt n L p f t e L
  | yes (i : Nat) (hi : i < L.length) (hx : L[i].p = p ∧ L[i].f = f) (hp : placeOk n p t L[i].l = true) (hf : freeB (L.eraseIdx i) t L[i].l.toNat = true) : MoveAt n L p f t 0 (insW ⟨p, t, L[i].l⟩ (L.eraseIdx i))

theorem erase_perm (L : List Win) (i : Nat) (hi : i < L.length) : (L[i] :: L.eraseIdx i).Perm L := by
  have h1 : L.take i ++ L[i] :: L.drop (i + 1) = L := by rw [← List.drop_eq_getElem_cons hi, List.take_append_drop]
  have h2 : (L[i] :: (L.take i ++ L.drop (i + 1))).Perm (L.take i ++ L[i] :: L.drop (i + 1)) := List.perm_middle.symm
  rw [List.eraseIdx_eq_take_drop_succ]
  rwa [h1] at h2
theorem erase_apart {L : List Win} (h : L.Pairwise fun a b => a.f + a.l ≤ b.f) {i : Nat} (hi : i < L.length) : ∀ y ∈ L.eraseIdx i, y.f + y.l ≤ L[i].f ∨ L[i].f + L[i].l ≤ y.f := fun y hy => by
  obtain ⟨j, hj, hne, rfl⟩ := List.mem_eraseIdx_iff_getElem.1 hy
  have hp := List.pairwise_iff_getElem.1 h
  rcases Nat.lt_trichotomy j i with h1 | h1 | h1
  · exact Or.inl (hp j i hj hi h1)
  · exact absurd h1 hne
  · exact Or.inr (hp i j hi hj h1)
theorem TabOk.erase {n : Int} {S : Nat → Bool} {L : List Win} (h : TabOk n S L) {i : Nat} (hi : i < L.length) : TabOk n (markS S L[i] false L[i].l.toNat) (L.eraseIdx i) := by
  have hx := h.bd L[i] (List.getElem_mem hi)
  refine ⟨h.n1, h.n2, fun x hx => h.bd x ((List.eraseIdx_sublist L i).subset hx), h.ap.sublist (List.eraseIdx_sublist L i), fun k hk => ?_⟩
  have ho := h.oc k hk
  have hocc : occ L k = (inW L[i] k || occ (L.eraseIdx i) k) := by
    unfold occ
    rw [← (erase_perm L i hi).any_eq]; rfl
  unfold markS
  by_cases e : L[i].f ≤ (k : Int) ∧ (k : Int) < L[i].f + L[i].l.toNat
  · rw [if_pos e]
    cases hc : occ (L.eraseIdx i) k with
    | false => rfl
    | true =>
      exfalso
      obtain ⟨y, hy, h1⟩ := List.any_eq_true.1 hc
      simp only [inW, Bool.and_eq_true, decide_eq_true_eq] at h1
      have := erase_apart h.ap hi y hy
      omega
  · rw [if_neg e, ho, hocc]
    have : inW L[i] k = false := by
      simp only [inW, Bool.and_eq_false_iff, decide_eq_false_iff_not]
      omega
    rw [this, Bool.false_or]
theorem erase_back {n : Int} {S : Nat → Bool} {L : List Win} (h : TabOk n S L) {i : Nat} (hi : i < L.length) : placeOk n L[i].p L[i].f L[i].l = true ∧ freeB (L.eraseIdx i) L[i].f L[i].l.toNat = true ∧ insW L[i] (L.eraseIdx i) = L := by
  have hx := h.bd L[i] (List.getElem_mem hi)
  have hap := erase_apart h.ap hi
  refine ⟨placeOk_iff.2 ⟨⟨hx.1, hx.2.1⟩, hx.2.2.1, by omega, hx.2.2.2.1, by omega⟩, (freeB_iff _ _ _).2 fun j hj => ?_, ?_⟩
  · cases hc : occ (L.eraseIdx i) (L[i].f + (j : Nat)) with
    | false => rfl
    | true =>
      exfalso
      obtain ⟨y, hy, h1⟩ := List.any_eq_true.1 hc
      simp only [inW, Bool.and_eq_true, decide_eq_true_eq] at h1
      have := hap y hy
      omega
  · refine rising_eq ((insW_perm _ _).trans (erase_perm L i hi)) (insW_rising _ _ ((h.erase hi).rising) fun y hy => ?_) h.rising
    have h2 := hap y hy
    have h3 := h.bd y ((List.eraseIdx_sublist L i).subset hy)
    omega

def MovePost (g : World) (pt : Nat) (n : Int) (L : List Win) (p f t : Int) (R : HP) (e : Ending) (w' : World) : Prop := ∃ k L', MoveAt n L p f t k L' ∧ e = .returned (.int .i64 k) ∧ Sat g w' (tabP pt n L' * R)
theorem s_move_none (pt : Nat) (n : Int) (L : List Win) (p f t : Int) (g w : World) (R : HP) (h : Sat g w (tabP pt n L * R)) (hno : ∀ x ∈ L, ¬ (x.p = p ∧ x.f = f)) :
    Calls Tryd.prog 13 #[.pointer (some ⟨pt, 0, none⟩), .int .i64 p, .int .i64 f, .int .i64 t] w fun e w' => e = .returned (.int .i64 2) ∧ Below w.heap.size w w' := by
  obtain ⟨v, S, hi, ok, _⟩ := h.tab
  have hlen := ok.len
  obtain ⟨a, cap, hv, hw⟩ := own_wins hi.row rfl
  have c5 := hi.c5
  rw [hv] at c5
  have HNO := Lib.hid hno
  clear hno h hi ok
  go_enter Tryd.func13, Tryd.ntmps13
  go_wp2_with (fail)
  go_step3
  go_wp2_with (fail)
  go_step3
  go_wp2_with (fail)
  go_loopw [19, 9] (fun i s wr => ∃ k : Nat, k ≤ L.length ∧ i = .int .i64 k ∧ s = .int .i64 (-1) ∧ Below w.heap.size w wr) (fun i _ _ => L.length - (intOf i).toNat)
  case atStart => exact ⟨0, by omega, rfl, rfl, Below.refl _ _⟩
  case round =>
    obtain ⟨k, hk, rfl, rfl, hbw⟩ := hrel
    by_cases hlt : k < L.length
    · have hw' := hw.below hbw
      rcases hw' with h0 | ⟨b, rfl, hbl, hc⟩
      · rw [h0] at hlt; simp at hlt
      obtain ⟨q0, q1, q2⟩ := hc k hlt
      have hx := HNO.out L[k] (List.getElem_mem hlt)
      obtain ⟨x, hxx⟩ : ∃ x, L[k] = x := ⟨_, rfl⟩
      rw [hxx] at q0 q1 q2 hx
      clear hxx hc hw
      have i1 : (k : Int) < L.length := by omega
      have kk : ∀ o, Below w.heap.size w (wr.alloc o) := fun o => Below.alloc hbw hbw.size o
      have KK := Lib.hid kk
      clear kk
      have hh : (x.p == p) = false ∨ ((x.p == p) = true ∧ (x.f == f) = false) := by
        by_cases h1 : x.p = p
        · exact Or.inr ⟨by simp [h1], by rw [beq_eq_false_iff_ne]; exact fun h2 => hx ⟨h1, h2⟩⟩
        · exact Or.inl (by rw [beq_eq_false_iff_ne]; exact h1)
      clear hx
      rcases hh with g1 | ⟨g1, g2⟩
      · go_wp2_with (fail)
        go_roundw
        case rel => exact ⟨k + 1, by omega, by go_num, rfl, KK.out _⟩
        case measure => simp [intOf]; omega
      · go_wp2_with (fail)
        go_roundw
        case rel => exact ⟨k + 1, by omega, by go_num, rfl, KK.out _⟩
        case measure => simp [intOf]; omega
    · obtain rfl : k = L.length := by omega
      go_wp2_with (fail)
      try rw [Exit.noGoto_ret]
      go_ret
      exact ⟨rfl, hbw⟩

theorem BmIn.set5 {w : World} {pt : Nat} {S : Nat → Bool} (h : BmIn w pt 1 S) (v : Value) : BmIn (w.setCell ⟨pt, 5, none⟩ v) pt 1 S := by
  refine ⟨fun j hj => ?_, fun j hj => by simpa [go_sem] using h.free j hj⟩
  rw [setCell_other5 (by omega)]; exact h.cell j hj
/-- The table behind the window's end. -/
theorem move_tab {w2 w3 w4 : World} {pt g cap i : Nat} {n : Int} {S : Nat → Bool} {L : List Win} (h : TabIn w2 pt (.slice (some ⟨g, 0, none⟩) L.length cap) n S L) (ok : TabOk n S L) (hi : i < L.length)
    (hb : BmIn w3 pt 1 (markS S L[i] false L[i].l.toNat)) (ho : Others pt 1 w2 w3) (ht : Touch (· = pt) w2 w3)
    (hr : w4.ownsRow 0 58 3 (.slice (some ⟨g, 0, none⟩) (L.length - 1) cap) (L.length - 1) (winCells (L.eraseIdx i))) (ht4 : Touch (· = g) w3 w4) :
    TabPost w2 pt (.slice (some ⟨g, 0, none⟩) L.length cap) n (L.eraseIdx i) (w4.setCell ⟨pt, 5, none⟩ (.slice (some ⟨g, 0, none⟩) (L.length - 1) cap)) := by
  have hne : g ≠ pt := fun e => h.ne (by rw [e]; rfl)
  have hlt3 : pt < w3.heap.size := Nat.lt_of_lt_of_le h.lt ht.size
  have hlt4 : pt < w4.heap.size := Nat.lt_of_lt_of_le hlt3 ht4.size
  have e4 : w4.heap[pt]? = w3.heap[pt]? := ht4.block pt hlt3 (Ne.symm hne)
  have c0 : w4.cell? ⟨pt, 0, none⟩ = some (.int .i64 n) := by rw [cell_of_heap e4, (ho 0 (by omega)).1]; exact h.c0
  have c5 : w4.cell? ⟨pt, 5, none⟩ = some (.slice (some ⟨g, 0, none⟩) L.length cap) := by rw [cell_of_heap e4, (ho 5 (by omega)).1]; exact h.c5
  have f5 : w4.frozen? ⟨pt, 5, none⟩ = false := by rw [frozen_of_heap e4, (ho 5 (by omega)).2]; exact h.f5
  have hl : (L.eraseIdx i).length = L.length - 1 := List.length_eraseIdx_of_lt hi
  refine ⟨.slice (some ⟨g, 0, none⟩) (L.length - 1) cap, markS S L[i] false L[i].l.toNat, ⟨by rw [setCell_other5 (by omega)]; exact c0, (hb.heap e4).set5 _, by simp [go_sem, c5], by simp [go_sem, f5], ?_, fun e => hne (by simpa [Value.ownBlock] using e), by simpa using hlt4⟩, ok.erase hi, ?_, fun k hk => Or.inl hk⟩
  · rw [hl]
    exact own_heap hr (fun k hk => Below.heap_setCell _ _ _ _ (fun e => hne (by
      have h1 : g = k := by simpa [Value.ownBlock] using hk
      exact h1.trans e)))
  · exact ((ht.mono fun k _ hk => Or.inl hk).trans (ht4.mono fun k _ hk => Or.inr (by rw [hk]; rfl))).setCell (Or.inl (Or.inl rfl)) _
theorem tab_slice {w : World} {pt : Nat} {v : Value} {n : Int} {S : Nat → Bool} {L : List Win} (h : TabIn w pt v n S L) (h0 : 0 < L.length) : ∃ g cap, v = .slice (some ⟨g, 0, none⟩) L.length cap := by
  rcases h.row.2 with ⟨_, h2⟩ | ⟨g, cap, cur, h1, _⟩
  · omega
  · exact ⟨g, cap, h1⟩
theorem win_cells {w : World} {pt g cap : Nat} {n : Int} {S : Nat → Bool} {L : List Win} (h : TabIn w pt (.slice (some ⟨g, 0, none⟩) L.length cap) n S L) {k : Nat} (hk : k < L.length) :
    w.cell? ⟨g, k * 3, none⟩ = some (.int .i64 L[k].p) ∧ w.cell? ⟨g, k * 3 + 1, none⟩ = some (.int .i64 L[k].f) ∧ w.cell? ⟨g, k * 3 + 2, none⟩ = some (.int .i64 L[k].l) := by
  obtain ⟨a, b, c⟩ := winCells_at L k hk
  exact ⟨(h.row.cellAt (k * 3) (by omega)).trans a, (h.row.cellAt (k * 3 + 1) (by omega)).trans b, (h.row.cellAt (k * 3 + 2) (by omega)).trans c⟩
theorem pt3 {g w : World} {P : HP} {b : Nat} {x y z : Value} {t : TypeId} (h : Sat g w (pt b (.cells #[x, y, z] t) * P)) : w.cell? ⟨b, 0, none⟩ = some x ∧ w.cell? ⟨b, 1, none⟩ = some y ∧ w.cell? ⟨b, 2, none⟩ = some z := by
  have e := h.pt_heap
  refine ⟨?_, ?_, ?_⟩ <;> simp [World.cell?, e]
theorem s_move_some (pt : Nat) (n : Int) (L : List Win) (p f t : Int) (g w : World) (R : HP) (h : Sat g w (tabP pt n L * R)) (i : Nat) (hi : i < L.length) (hx : L[i].p = p ∧ L[i].f = f) :
    Calls Tryd.prog 13 #[.pointer (some ⟨pt, 0, none⟩), .int .i64 p, .int .i64 f, .int .i64 t] w (MovePost g pt n L p f t R) := by
  obtain ⟨v, S, hti, ok, _⟩ := h.tab
  have hlen := ok.len
  obtain ⟨a, cap, hv, hw⟩ := own_wins hti.row rfl
  have c5 := hti.c5
  rw [hv] at c5
  have hno : ∀ k (hk : k < L.length), k < i → L[k].f < f := fun k hk hki => by
    have := List.pairwise_iff_getElem.1 ok.rising k i hk hi hki
    rw [← hx.2]; exact this
  have HNO := Lib.hid hno
  have HS : Hid (∀ w', Below w.heap.size w w' → Sat g w' (tabP pt n L * R)) := Lib.hid fun w' hb => h.below hb
  have HX := Lib.hid hx
  clear hno h hti ok hx
  go_enter Tryd.func13, Tryd.ntmps13
  go_wp2_with (fail)
  go_step3
  go_wp2_with (fail)
  go_step3
  go_wp2_with (fail)
  go_loopw [19, 9] (fun c s wr => ∃ k : Nat, k ≤ i ∧ c = .int .i64 k ∧ s = .int .i64 (-1) ∧ Below w.heap.size w wr) (fun c _ _ => L.length - (intOf c).toNat)
  case atStart => exact ⟨0, by omega, rfl, rfl, Below.refl _ _⟩
  case round =>
    obtain ⟨k, hk, rfl, rfl, hbw⟩ := hrel
    have hlt : k < L.length := by omega
    have hw' := hw.below hbw
    rcases hw' with h0 | ⟨b, rfl, hbl, hc⟩
    · rw [h0] at hlt; simp at hlt
    obtain ⟨q0, q1, q2⟩ := hc k hlt
    have i1 : (k : Int) < L.length := by omega
    have kk : ∀ o, Below w.heap.size w (wr.alloc o) := fun o => Below.alloc hbw hbw.size o
    have KK := Lib.hid kk
    clear kk
    by_cases hki : k < i
    · have hx := HNO.out k hlt hki
      obtain ⟨x, hxx⟩ : ∃ x, L[k] = x := ⟨_, rfl⟩
      rw [hxx] at q0 q1 q2 hx
      clear hxx hc hw
      have g2 : (x.f == f) = false := by rw [beq_eq_false_iff_ne]; omega
      clear hx
      cases g1 : (x.p == p)
      · go_wp2_with (fail)
        go_roundw
        case rel => exact ⟨k + 1, by omega, by go_num, rfl, KK.out _⟩
        case measure => simp [intOf]; omega
      · go_wp2_with (fail)
        go_roundw
        case rel => exact ⟨k + 1, by omega, by go_num, rfl, KK.out _⟩
        case measure => simp [intOf]; omega
    · obtain rfl : k = i := by omega
      obtain ⟨x, hxx⟩ : ∃ x, L[k] = x := ⟨_, rfl⟩
      have HXX := Lib.hid hxx
      have hx := HX.out
      rw [hxx] at q0 q1 q2 hx
      have g1 : (x.p == p) = true := by simp [hx.1]
      have g2 : (x.f == f) = true := by simp [hx.2]
      clear hxx hc hw hx
      go_upto_region 8 with (fail)
      obtain ⟨w1, hw1⟩ : ∃ w1, w1 = wr.alloc (.cells #[.int .i64 x.p, .int .i64 x.f, .int .i64 x.l] 58) := ⟨_, rfl⟩
      have hb1 : Below w.heap.size w w1 := by rw [hw1]; exact KK.out _
      rw [← hw1]
      clear hw1 q0 q1 q2 KK hbw g1 g2 c5 hbl hv
      have S1 := HS.out w1 hb1
      obtain ⟨v1, s1, t1, ok1, _⟩ := S1.tab
      obtain ⟨gb, cap1, rfl⟩ := tab_slice t1 (by omega)
      have c51 := t1.c5
      obtain ⟨q0, q1, q2⟩ := win_cells t1 hlt
      rw [HXX.out] at q0 q1 q2
      have hxb := ok1.sm L[k] (List.getElem_mem hlt)
      rw [HXX.out] at hxb
      obtain ⟨x1, x2, x3⟩ := hxb
      clear t1 ok1 HS
      go_upto_region 11 with (fail)
      have S2 := (S1.pt_new (.cells #[.int .i64 x.p, .int .i64 x.f, .int .i64 x.l] 58)).perm (show _ = tabP pt n L * (YtjacbcephokbbaaDoor.pt w1.heap.size (.cells #[.int .i64 x.p, .int .i64 x.f, .int .i64 x.l] 58) * R) by ac_rfl)
      obtain ⟨w2, hw2⟩ : ∃ w2, w2 = w1.alloc (.cells #[.int .i64 x.p, .int .i64 x.f, .int .i64 x.l] 58) := ⟨_, rfl⟩
      obtain ⟨xb, hxb⟩ : ∃ xb, xb = w1.heap.size := ⟨_, rfl⟩
      rw [← hw2, ← hxb] at S2
      rw [← hw2, ← hxb]
      clear hw2 hxb q0 q1 q2 c51 S1 hb1
      obtain ⟨v2, s2, t2, ok2, close2⟩ := S2.tab
      obtain ⟨g2, cap2, rfl⟩ := tab_slice t2 (by omega)
      obtain ⟨y0, y1, y2⟩ := pt3 S2.swap
      have hxpt : xb ≠ pt := S2.swap.ne (P := YtjacbcephokbbaaDoor.pt xb (.cells #[.int .i64 x.p, .int .i64 x.f, .int .i64 x.l] 58)) (has_own rfl) (has_left (has_ex fun y => has_own (Or.inl rfl)))
      have hmark := slots_mark pt s2 x false w2 t2.bm t2.lt x2 x1 x3
      have HM := Lib.hid hmark
      have HT2 := Lib.hid t2
      have HOK2 := Lib.hid ok2
      have HCL := Lib.hid close2
      clear hmark t2 ok2 close2
      go_wp2_with (fail)
      refine HM.out.mono ?_
      rintro e w3 ⟨rfl, hbm, hoth, ht3⟩
      have HBM := Lib.hid hbm
      have HOT := Lib.hid hoth
      have c53 : w3.cell? ⟨pt, 5, none⟩ = some (.slice (some ⟨g2, 0, none⟩) L.length cap2) := by rw [(hoth 5 (by omega)).1]; exact HT2.out.c5
      have f53 : w3.frozen? ⟨pt, 5, none⟩ = false := by rw [(hoth 5 (by omega)).2]; exact HT2.out.f5
      have hne : g2 ≠ pt := fun e => HT2.out.ne (by rw [e]; rfl)
      have hrow : w3.ownsRow 0 58 3 (.slice (some ⟨g2, 0, none⟩) L.length cap2) L.length (winCells L) := own_heap HT2.out.row (fun k hk => ht3.block k (by have := own_lt HT2.out.row hk; exact this) (by intro e; exact HT2.out.ne (by rw [hk, e])))
      have hdel := delete_any g2 cap2 L.length k L w3 hrow rfl hlt hlen
      have HD := Lib.hid hdel
      have HT3 := Lib.hid ht3
      have hk1 : (k : Int) + 1 ≤ 256 := by omega
      clear hbm hoth hrow hdel ht3 y0 y1 HM
      go_wp2_with (fail)
      refine HD.out.mono ?_
      rintro e w4 ⟨rfl, hrow4, ht4⟩
      have e4 : w4.heap[pt]? = w3.heap[pt]? := ht4.block pt (Nat.lt_of_lt_of_le HT2.out.lt HT3.out.size) (Ne.symm hne)
      have c54 : w4.cell? ⟨pt, 5, none⟩ = some (.slice (some ⟨g2, 0, none⟩) L.length cap2) := by rw [cell_of_heap e4]; exact c53
      have f54 : w4.frozen? ⟨pt, 5, none⟩ = false := by rw [frozen_of_heap e4]; exact f53
      have hpost := move_tab HT2.out HOK2.out hlt (w3 := w3) (w4 := w4) (by rw [HXX.out]; exact HBM.out) HOT.out HT3.out hrow4 ht4
      have S5 := HCL.out _ _ hpost
      have HS5 := Lib.hid S5
      clear hpost S5 hrow4 ht4 e4 c53 f53 HD HT3 HOT HBM HCL y2 hk1
      go_upto_region 13 with (fail)
      have S5 := HS5.out
      obtain ⟨w5, hw5⟩ : ∃ w5, w5 = w4.setCell ⟨pt, 5, none⟩ (.slice (some ⟨g2, 0, none⟩) (L.length - 1) cap2) := ⟨_, rfl⟩
      rw [← hw5] at S5 ⊢
      clear hw5 HS5 c54 f54
      have hback := erase_back HOK2.out hlt
      rw [HXX.out] at hback
      obtain ⟨hb1, hb2, hb3⟩ := hback
      have hxe := HX.out
      rw [HXX.out] at hxe
      obtain ⟨e1, e2⟩ := hxe
      rw [e1] at hb1
      rw [e2] at hb1 hb2
      have hb3' : insW ⟨p, f, x.l⟩ (L.eraseIdx k) = L := by
        have : x = ⟨p, f, x.l⟩ := by rw [← e1, ← e2]
        rw [← this]; exact hb3
      have hres : ∀ (M : List Win) (wz : World), (placeOk n p t x.l = false ∨ freeB (L.eraseIdx k) t x.l.toNat = false) → M = L.eraseIdx k → Sat g wz (tabP pt n M * (YtjacbcephokbbaaDoor.pt xb (.cells #[.int .i64 x.p, .int .i64 x.f, .int .i64 x.l] 58) * R)) →
          Calls Tryd.prog 10 #[.pointer (some ⟨pt, 0, none⟩), .int .i64 p, .int .i64 f, .int .i64 x.l] wz fun e w' => e = .returned (.int .i64 0) ∧ Sat g w' (tabP pt n L * (YtjacbcephokbbaaDoor.pt xb (.cells #[.int .i64 x.p, .int .i64 x.f, .int .i64 x.l] 58) * R)) := fun M wz _ hM hs => by
        subst hM
        have := s_place pt n (L.eraseIdx k) p f x.l g wz _ hs
        unfold placeE placeL at this
        rw [hb1, hb2, if_pos rfl, if_pos rfl, Bool.and_true, if_pos rfl, hb3'] at this
        exact this
      have HRES := Lib.hid hres
      have hpl := s_place pt n (L.eraseIdx k) p t x.l g w5 _ S5
      have z2 := (pt3 S5.swap).2.2
      clear hres hb1 hb2 hb3 hb3' e1 e2 x1 x2 x3
      by_cases hok : placeOk n p t x.l = true ∧ freeB (L.eraseIdx k) t x.l.toNat = true
      · unfold placeE placeL at hpl
        rw [hok.1, hok.2, if_pos rfl, if_pos rfl, Bool.and_true, if_pos rfl] at hpl
        have HPL := Lib.hid hpl
        have HOKK := Lib.hid hok
        clear hpl hok HRES
        go_wp2_with (fail)
        refine HPL.out.mono ?_
        rintro e w6 ⟨rfl, S6⟩
        clear z2
        go_wp2_with (fail)
        try rw [Exit.noGoto_ret]
        go_ret
        refine ⟨0, _, .yes k hlt HX.out (by rw [HXX.out]; exact HOKK.out.1) (by rw [HXX.out]; exact HOKK.out.2), rfl, ?_⟩
        rw [HXX.out]
        exact S6.swap.right
      · have hor : placeOk n p t x.l = false ∨ freeB (L.eraseIdx k) t x.l.toNat = false := by
          cases h1 : placeOk n p t x.l with
          | false => exact Or.inl rfl
          | true =>
            cases h2 : freeB (L.eraseIdx k) t x.l.toNat with
            | false => exact Or.inr rfl
            | true => exact absurd ⟨h1, h2⟩ hok
        have hE : placeE n (L.eraseIdx k) p t x.l ≠ 0 := by
          unfold placeE
          rcases hor with h1 | h1
          · rw [h1, if_neg (by decide)]; decide
          · rw [h1]; split <;> decide
        have hL : placeL n (L.eraseIdx k) p t x.l = L.eraseIdx k := by
          unfold placeL
          rcases hor with h1 | h1
          · rw [h1]; rfl
          · rw [h1, Bool.and_false]; rfl
        rw [hL] at hpl
        generalize placeE n (L.eraseIdx k) p t x.l = ee at hpl hE
        have HPL := Lib.hid hpl
        have HOR := Lib.hid hor
        have gE : (ee != 0) = true := by rw [bne_iff_ne]; exact hE
        have HEE := Lib.hid hE
        clear hpl hok hor hL hE
        go_wp2_with (fail)
        refine HPL.out.mono ?_
        rintro e w6 ⟨rfl, S6⟩
        have z26 := (pt3 S6.swap).2.2
        clear z2 S5
        go_wp2_with (fail)
        refine (HRES.out _ w6 HOR.out rfl S6).mono ?_
        rintro e w7 ⟨rfl, S7⟩
        clear z26
        go_wp2_with (fail)
        try rw [Exit.noGoto_ret]
        go_ret
        exact ⟨ee, L, .no k hlt HX.out ee HEE.out (by rw [HXX.out]; exact HOR.out), rfl, S7.swap.right⟩

theorem s_move (pt : Nat) (n : Int) (L : List Win) (p f t : Int) (g w : World) (R : HP) (h : Sat g w (tabP pt n L * R)) :
    Calls Tryd.prog 13 #[.pointer (some ⟨pt, 0, none⟩), .int .i64 p, .int .i64 f, .int .i64 t] w (MovePost g pt n L p f t R) := by
  by_cases hx : ∃ x ∈ L, x.p = p ∧ x.f = f
  · obtain ⟨x, hx, h1⟩ := hx
    obtain ⟨i, hi, rfl⟩ := List.mem_iff_getElem.1 hx
    exact s_move_some pt n L p f t g w R h i hi h1
  · refine (s_move_none pt n L p f t g w R h fun x hxm h1 => hx ⟨x, hxm, h1⟩).mono fun e w' ⟨he, hb⟩ => ⟨2, L, .none fun x hxm h1 => hx ⟨x, hxm, h1⟩, he, h.below hb⟩

end Go.Proofs.YtjacbcephokbbaaDoor
