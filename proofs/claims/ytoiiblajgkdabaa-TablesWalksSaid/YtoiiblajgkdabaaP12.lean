/- Part 12 of the proofs: Each, Pages, Pages2, SpT. -/
import Derived.Test.YtoiiblajgkdabaaP11
import Derived.Lib.OwnBridge
namespace Go.Proofs.Ytoiiblajgkdabaa
set_option linter.unusedSimpArgs false
set_option linter.unusedVariables false
set_option maxRecDepth 100000
open Go.RowKit
set_option maxHeartbeats 4000000

/-- A list of ints that is gathered in a variable. -/
structure OutIn (w : World) (ob : Nat) (v : Value) (L : List Int) : Prop where
  c0 : w.cell? ⟨ob, 0, none⟩ = some v
  f0 : w.frozen? ⟨ob, 0, none⟩ = false
  row : RowI w 0 v L
  ne : v.ownBlock ≠ some ob
  lt : ob < w.heap.size
theorem OutIn.heap {w w' : World} {ob : Nat} {v : Value} {L : List Int} (h : OutIn w ob v L) (e : ∀ k, madeS ob v k → w'.heap[k]? = w.heap[k]?) : OutIn w' ob v L :=
  ⟨(cell_of_heap (e ob (Or.inl rfl)) _).trans h.c0, (frozen_of_heap (e ob (Or.inl rfl)) _).trans h.f0, own_heap' h.row fun k hk => e k (Or.inr hk), h.ne, heap_ltO (e ob (Or.inl rfl)) h.lt⟩
theorem OutIn.slt {w : World} {ob : Nat} {v : Value} {L : List Int} (h : OutIn w ob v L) : ∀ k, madeS ob v k → k < w.heap.size := fun k hk => by
  rcases hk with rfl | hk
  · exact h.lt
  · exact (World.ownsRow.lt h.row k hk).2
def outP (ob : Nat) (L : List Int) : HP := exP fun v : Value => ownP (madeS ob v) (fun w => OutIn w ob v L)
theorem loc_out (ob : Nat) (v : Value) (L : List Int) : Loc (madeS ob v) (fun w => OutIn w ob v L) := fun _ _ h e => h.heap e
/-- One more is gathered. -/
theorem out_more {g w w5 : World} {ob : Nat} {v v' : Value} {L : List Int} {R : HP} {x : Int} {o : Obj} (h : Sat g w (ownP (madeS ob v) (fun w => OutIn w ob v L) * R)) (ha : Appd (w.alloc o) w5 0 3 1 v v' (L.length + 1) (iCells L ++ [.int .i64 x])) :
    (∃ a c, v' = .slice a (L.length + 1) c) ∧ w5.cell? ⟨ob, 0, none⟩ = some v ∧ w5.frozen? ⟨ob, 0, none⟩ = false ∧ Sat g (w5.setCell ⟨ob, 0, none⟩ v') (outP ob (L ++ [x]) * R) := by
  have hm := h.inv
  have hlt := hm.lt
  have hx5 : w5.heap[ob]? = w.heap[ob]? := by
    rw [ha.grown.block ob (by simp; omega) (fun e => hm.ne e.symm), Below.heap_alloc _ _ _ hlt]
  have hne' : v'.ownBlock ≠ some ob := fun e => by
    rcases ha.at_ with h1 | h1
    · exact hm.ne (h1 ▸ e)
    · rw [h1] at e; simp at e; omega
  have d1 : w5.cell? ⟨ob, 0, none⟩ = some v := (cell_of_heap hx5 0).trans hm.c0
  have z1 : w5.frozen? ⟨ob, 0, none⟩ = false := (frozen_of_heap hx5 0).trans hm.f0
  refine ⟨own_slice ha.own, d1, z1, ?_⟩
  have hmade : OutIn (w5.setCell ⟨ob, 0, none⟩ v') ob v' (L ++ [x]) := by
    refine ⟨World.cell?_setCell_same' _ _ _ (by rw [d1]; rfl), by rw [World.frozen?_setCell]; exact z1, ?_, hne', ?_⟩
    · have ho := ha.own
      have e1 : iCells L ++ [.int .i64 x] = iCells (L ++ [x]) := by simp [iCells]
      have e2 : L.length + 1 = (L ++ [x]).length := by simp
      rw [e1, e2] at ho
      exact own_heap' ho fun k hk => Below.heap_setCell _ _ _ _ (fun e => hne' (by rw [hk, e]))
    · have := heap_ltO hx5 hlt
      simpa using this
  have ht : Touch (madeS ob v) w (w5.setCell ⟨ob, 0, none⟩ v') :=
    Touch.setCell (Touch.grown ((Touch.refl (madeS ob v) w).alloc _) ha.grown (fun k hk => Or.inl (Or.inr hk))) (Or.inl (Or.inl rfl)) _
  exact Sat.ex' v' (h.touch ht hmade (loc_out _ _ _) (fun k hk => by
    rcases hk with rfl | hk
    · exact Or.inl (Or.inl rfl)
    · rcases ha.at_ with h1 | h1
      · exact Or.inl (Or.inr (h1 ▸ hk))
      · rw [h1] at hk; simp at hk; exact Or.inr (by omega)) hmade.slt)

/-- A function that is handed entries: what it gathers of each. -/
def Gathers (g : World) (fid : Nat) (ob : Nat) (sel : Int → Bool → Int → List Int) : Prop := ∀ (w : World) (L : List Int) (R : HP) (lv pg : Int) (wr tb : Bool) (fr : Int), Sat g w (outP ob L * R) → L.length ≤ 100000 →
  Calls Try.prog fid #[.int .i64 lv, .int .i64 pg, .agg #[.bool true, .bool wr, .bool tb, .int .i64 fr], .pointer (some ⟨ob, 0, none⟩)] w fun e w' => e = .returned (.tuple #[]) ∧ Sat g w' (outP ob (L ++ sel pg tb fr) * R)
theorem gathers_pages (g : World) (ob : Nat) : Gathers g 69 ob (fun pg tb _ => if tb then [] else [pg]) := by
  intro w L R lv pg wr tb fr h hL
  cases tb with
  | true =>
    have H0 := Lib.hid (h.alloc (.cells #[.bool true, .bool wr, .bool true, .int .i64 fr] 78))
    go_enter Try.func69, Try.ntmps69
    go_wp2_with (fail)
    go_end0
    exact ⟨rfl, by simpa using H0.out⟩
  | false =>
    obtain ⟨v, h⟩ := Sat.ex h
    have h1 := h.alloc (.cells #[.bool true, .bool wr, .bool false, .int .i64 fr] 78)
    obtain ⟨w1, hw1⟩ : ∃ w1, w1 = w.alloc (.cells #[.bool true, .bool wr, .bool false, .int .i64 fr] 78) := ⟨_, rfl⟩
    have he := EnAt.new w true wr false fr 78
    rw [← hw1] at h1 he
    have c0 := h1.inv.c0
    have x2 := he.c2
    obtain ⟨i0, hi0, hzz⟩ := Option.map_eq_some_iff.1 infoI64
    simp only [Prod.mk.injEq] at hzz
    obtain ⟨hz0, hz1, hz2⟩ := hzz
    have HIB := Lib.hid (⟨hi0, hz0, hz1, hz2⟩ : _ ∧ _ ∧ _ ∧ _)
    have HO := Lib.hid ((show w1.ownsRow 0 3 1 v L.length (iCells L) from h1.inv.row).alloc (.cells #[.int .i64 pg] 3))
    have H1 := Lib.hid h1
    have HW := Lib.hid hw1
    clear hi0 hz0 hz1 hz2 h1 h he hw1
    go_enter Try.func69, Try.ntmps69
    go_upto_region 1 with (fail)
    rw [← HW.out]
    generalize w.heap.size = eb at x2 ⊢
    go_wp2_with (at_builtin; go_loud (refine list_app (by rfl) _ _ _ (by rfl) 0 3 i0 (.int .i64 0) 1 8 Try.underlying42 HIB.out.1 HIB.out.2.1 HIB.out.2.2.1 HIB.out.2.2.2 rfl (by decide) _ _ _ (by rfl) HO.out _ 1 [.int .i64 pg] (by rfl) (lit_srcI _ pg _) (by intro u hu; simp at hu; subst hu; rfl) (maxLen_geB (by omega)) (by omega) (by simp) ?_; refine fun v' w5 ha => Hold.out ?_))
    refine ⟨?_⟩
    obtain ⟨⟨a', c', rfl⟩, d1, z1, S5⟩ := out_more H1.out ha
    clear ha
    go_wp2_with (fail)
    go_end0
    exact ⟨rfl, S5⟩

theorem gathers_tables (g : World) (ob : Nat) : Gathers g 70 ob (fun _ tb fr => if tb then [fr] else []) := by
  intro w L R lv pg wr tb fr h hL
  cases tb with
  | false =>
    have H0 := Lib.hid (h.alloc (.cells #[.bool true, .bool wr, .bool false, .int .i64 fr] 78))
    go_enter Try.func70, Try.ntmps70
    go_wp2_with (fail)
    go_end0
    exact ⟨rfl, by simpa using H0.out⟩
  | true =>
    obtain ⟨v, h⟩ := Sat.ex h
    have h1 := h.alloc (.cells #[.bool true, .bool wr, .bool true, .int .i64 fr] 78)
    obtain ⟨w1, hw1⟩ : ∃ w1, w1 = w.alloc (.cells #[.bool true, .bool wr, .bool true, .int .i64 fr] 78) := ⟨_, rfl⟩
    have he := EnAt.new w true wr true fr 78
    rw [← hw1] at h1 he
    have c0 := h1.inv.c0
    have x2 := he.c2
    have x3 := he.c3
    obtain ⟨i0, hi0, hzz⟩ := Option.map_eq_some_iff.1 infoI64
    simp only [Prod.mk.injEq] at hzz
    obtain ⟨hz0, hz1, hz2⟩ := hzz
    have HIB := Lib.hid (⟨hi0, hz0, hz1, hz2⟩ : _ ∧ _ ∧ _ ∧ _)
    have HO := Lib.hid ((show w1.ownsRow 0 3 1 v L.length (iCells L) from h1.inv.row).alloc (.cells #[.int .i64 fr] 3))
    have H1 := Lib.hid h1
    have HW := Lib.hid hw1
    clear hi0 hz0 hz1 hz2 h1 h he hw1
    go_enter Try.func70, Try.ntmps70
    go_upto_region 1 with (fail)
    rw [← HW.out]
    generalize w.heap.size = eb at x2 x3 ⊢
    go_wp2_with (at_builtin; go_loud (refine list_app (by rfl) _ _ _ (by rfl) 0 3 i0 (.int .i64 0) 1 8 Try.underlying42 HIB.out.1 HIB.out.2.1 HIB.out.2.2.1 HIB.out.2.2.2 rfl (by decide) _ _ _ (by rfl) HO.out _ 1 [.int .i64 fr] (by rfl) (lit_srcI _ fr _) (by intro u hu; simp at hu; subst hu; rfl) (maxLen_geB (by omega)) (by omega) (by simp) ?_; refine fun v' w5 ha => Hold.out ?_))
    refine ⟨?_⟩
    obtain ⟨⟨a', c', rfl⟩, d1, z1, S5⟩ := out_more H1.out ha
    clear ha
    go_wp2_with (fail)
    go_end0
    exact ⟨rfl, S5⟩

theorem gathers_close (g : World) (ob : Nat) : Gathers g 74 ob (fun _ tb fr => if tb then [] else [fr]) := by
  intro w L R lv pg wr tb fr h hL
  cases tb with
  | true =>
    have H0 := Lib.hid (h.alloc (.cells #[.bool true, .bool wr, .bool true, .int .i64 fr] 78))
    go_enter Try.func74, Try.ntmps74
    go_wp2_with (fail)
    go_end0
    exact ⟨rfl, by simpa using H0.out⟩
  | false =>
    obtain ⟨v, h⟩ := Sat.ex h
    have h1 := h.alloc (.cells #[.bool true, .bool wr, .bool false, .int .i64 fr] 78)
    obtain ⟨w1, hw1⟩ : ∃ w1, w1 = w.alloc (.cells #[.bool true, .bool wr, .bool false, .int .i64 fr] 78) := ⟨_, rfl⟩
    have he := EnAt.new w true wr false fr 78
    rw [← hw1] at h1 he
    have c0 := h1.inv.c0
    have x2 := he.c2
    have x3 := he.c3
    obtain ⟨i0, hi0, hzz⟩ := Option.map_eq_some_iff.1 infoI64
    simp only [Prod.mk.injEq] at hzz
    obtain ⟨hz0, hz1, hz2⟩ := hzz
    have HIB := Lib.hid (⟨hi0, hz0, hz1, hz2⟩ : _ ∧ _ ∧ _ ∧ _)
    have HO := Lib.hid ((show w1.ownsRow 0 3 1 v L.length (iCells L) from h1.inv.row).alloc (.cells #[.int .i64 fr] 3))
    have H1 := Lib.hid h1
    have HW := Lib.hid hw1
    clear hi0 hz0 hz1 hz2 h1 h he hw1
    go_enter Try.func74, Try.ntmps74
    go_upto_region 1 with (fail)
    rw [← HW.out]
    generalize w.heap.size = eb at x2 x3 ⊢
    go_wp2_with (at_builtin; go_loud (refine list_app (by rfl) _ _ _ (by rfl) 0 3 i0 (.int .i64 0) 1 8 Try.underlying42 HIB.out.1 HIB.out.2.1 HIB.out.2.2.1 HIB.out.2.2.2 rfl (by decide) _ _ _ (by rfl) HO.out _ 1 [.int .i64 fr] (by rfl) (lit_srcI _ fr _) (by intro u hu; simp at hu; subst hu; rfl) (maxLen_geB (by omega)) (by omega) (by simp) ?_; refine fun v' w5 ha => Hold.out ?_))
    refine ⟨?_⟩
    obtain ⟨⟨a', c', rfl⟩, d1, z1, S5⟩ := out_more H1.out ha
    clear ha
    go_wp2_with (fail)
    go_end0
    exact ⟨rfl, S5⟩

theorem s_get8 (pm n : Nat) (M : Nat → Int) (f k : Nat) (g w : World) (R : HP) (h : Sat g w (memP pm n M * R)) (hf : f < n) (hk : k < 16) :
    Calls Try.prog 73 #[.pointer (some ⟨pm, 0, none⟩), .int .i64 f, .int .i64 k] w fun e w' => e = .returned (.tuple #[.agg #[.bool (oV (M (16 * f + k))), .bool (oW (M (16 * f + k))), .bool (oT (M (16 * f + k))), .int .i64 (oF (M (16 * f + k)))], .int .i64 (if oE (M (16 * f + k)) = 0 then 0 else 11)]) ∧ Below w.heap.size w w' := by
  obtain ⟨bk, hm, _⟩ := h.mem
  obtain ⟨a, b, c, d, e⟩ := get_nat (M := M) hf hk
  have := get_any pm bk n M f k w hm
  rw [a, b, c, d, e] at this
  exact this
/-- The word of an entry: a frame, may it be written, is it a table? -/
def entW : Option (Nat × Bool × Bool) → Int
  | none => 0
  | some x => wordI true x.2.1 x.2.2 x.1
def EachAt (g : World) (fid ob ps pm pb r n : Nat) (M : Nat → Int) (lv frame page : Nat) (X : List Int) (s : Nat) : Prop := ∀ (w : World) (L : List Int) (R : HP), Sat g w (outP ob L * (spP ps pm pb r * (memP pm n M * R))) → L.length + s ≤ 100000 →
  Calls Try.prog 68 #[.pointer (some ⟨ps, 0, none⟩), .int .i64 frame, .int .i64 lv, .int .i64 page, .func (.func fid) #[] #[.pointer (some ⟨ob, 0, none⟩)]] w fun e w' => e = .returned (.tuple #[]) ∧ Sat g w' (outP ob (L ++ X) * (spP ps pm pb r * (memP pm n M * R)))
def eachA (sel : Int → Bool → Int → List Int) (page : Nat) (ent : Nat → Option (Nat × Bool × Bool)) (sub : Nat → List Int) (k : Nat) : List Int := match ent k with
  | none => []
  | some x => sel ((page * 16 + k : Nat) : Int) x.2.2 x.1 ++ if x.2.2 then sub k else []
def eachL (sel : Int → Bool → Int → List Int) (page : Nat) (ent : Nat → Option (Nat × Bool × Bool)) (sub : Nat → List Int) (k : Nat) : List Int := (List.range k).flatMap (eachA sel page ent sub)
theorem eachL_succ (sel : Int → Bool → Int → List Int) (page : Nat) (ent : Nat → Option (Nat × Bool × Bool)) (sub : Nat → List Int) (k : Nat) : eachL sel page ent sub (k + 1) = eachL sel page ent sub k ++ eachA sel page ent sub k := by
  unfold eachL; rw [List.range_succ, List.flatMap_append]; simp
theorem eachA_len {sel : Int → Bool → Int → List Int} {page : Nat} {ent : Nat → Option (Nat × Bool × Bool)} {sub : Nat → List Int} {s : Nat} (h1 : ∀ a b c, (sel a b c).length ≤ 1) (h2 : ∀ k, (sub k).length ≤ s) (k : Nat) : (eachA sel page ent sub k).length ≤ 1 + s := by
  unfold eachA
  split
  · simp
  · rw [List.length_append]
    refine Nat.add_le_add (h1 _ _ _) ?_
    split
    · exact h2 k
    · simp
theorem eachL_len {sel : Int → Bool → Int → List Int} {page : Nat} {ent : Nat → Option (Nat × Bool × Bool)} {sub : Nat → List Int} {s : Nat} (h1 : ∀ a b c, (sel a b c).length ≤ 1) (h2 : ∀ k, (sub k).length ≤ s) : ∀ k, (eachL sel page ent sub k).length ≤ k * (1 + s)
  | 0 => by simp [eachL]
  | k + 1 => by
    rw [eachL_succ, List.length_append, Nat.add_mul, Nat.one_mul]
    exact Nat.add_le_add (eachL_len h1 h2 k) (eachA_len h1 h2 k)

theorem each_level {g : World} {fid ob ps pm pb r n : Nat} {M : Nat → Int} {sel : Int → Bool → Int → List Int} (hG : Gathers g fid ob sel) (hE : ∀ (args : Array Value) (w : World), (callFunc fid args).run Try.prog w = .ok (.enter fid args) w) (hs1 : ∀ a b c, (sel a b c).length ≤ 1) {lv frame page : Nat} (hlv : lv ≤ 2) (hpg : page < 4096) (hf : frame < n) {ent : Nat → Option (Nat × Bool × Bool)} {sub : Nat → List Int} {s : Nat} (hs2 : ∀ k, (sub k).length ≤ s) (hs : s ≤ 5000)
    (hw : ∀ k, k < 16 → M (16 * frame + k) = entW (ent k)) (hr : ∀ k x, k < 16 → ent k = some x → rightB true x.2.1 x.2.2 x.1 = true) (hsub : ∀ k x, k < 16 → ent k = some x → x.2.2 = true → EachAt g fid ob ps pm pb r n M (lv + 1) x.1 (page * 16 + k) (sub k) s) :
    EachAt g fid ob ps pm pb r n M lv frame page (eachL sel page ent sub 16) (16 * (1 + s)) := by
  intro w L R h hL
  have HGA := Lib.hid hG
  have HWD := Lib.hid hw
  have HRT := Lib.hid hr
  have HSUB := Lib.hid hsub
  have HLE := Lib.hid (eachL_len (page := page) (ent := ent) hs1 hs2)
  have HAE := Lib.hid (eachA_len (page := page) (ent := ent) hs1 hs2)
  have hLs : L.length + 16 * (1 + s) ≤ 100000 := hL
  clear hG hw hr hsub hL
  have S0 := h
  go_enter Try.func68, Try.ntmps68
  go_wp2_with (fail)
  go_loopw [14] (fun i wr => ∃ k : Nat, k ≤ 16 ∧ i = .int .i64 k ∧ Sat g wr (outP ob (L ++ eachL sel page ent sub k) * (spP ps pm pb r * (memP pm n M * R)))) (fun i _ => 16 - (intOf i).toNat)
  case atStart => exact ⟨0, by omega, rfl, by simpa [eachL] using S0⟩
  case round =>
    obtain ⟨k, hk, rfl, S1⟩ := hrel
    clear S0 h
    by_cases hk16 : k < 16
    · have dk : decide ((k : Int) < 16) = true := by simp; omega
      have s0 := S1.swap.sp.c0
      have hge := HLE.out k
      have hge2 : k * (1 + s) ≤ 15 * (1 + s) := Nat.mul_le_mul_right _ (by omega)
      have hword := HWD.out k hk16
      have hlk : (L ++ eachL sel page ent sub k).length + (1 + s) ≤ 100000 := by rw [List.length_append]; omega
      have hln : ∀ X : List Int, X.length ≤ 1 → (L ++ eachL sel page ent sub k ++ X).length + s ≤ 100000 := fun X h => by rw [List.length_append]; omega
      have hget := s_get8 pm n M frame k g wr (spP ps pm pb r * (outP ob (L ++ eachL sel page ent sub k) * R)) (S1.perm (by ac_rfl)) hf hk16
      have hsucc := eachL_succ sel page ent sub k
      cases hent : ent k with
      | none =>
        have hA : eachA sel page ent sub k = [] := by unfold eachA; rw [hent]
        rw [hA, List.append_nil] at hsucc
        rw [hword, hent] at hget
        simp only [entW, zero_parts.1, zero_parts.2, if_true] at hget
        have HGT := Lib.hid hget
        have HSC := Lib.hid hsucc
        clear hget hsucc hA hword hent
        go_wp2_with (fail)
        refine HGT.out.mono ?_
        rintro e w2 ⟨rfl, hb2⟩
        have S2 := S1.below hb2
        generalize oW 0 = b1
        generalize oT 0 = b2
        generalize oF 0 = b3
        go_wp2_with (fail)
        go_roundw
        case rel => first | exact ⟨k + 1, by omega, by go_num, by rw [HSC.out]; exact S2.alloc _⟩ | ((repeat apply Exists.intro); exact ⟨⟨k + 1, by omega, by go_num, by rw [HSC.out]; exact S2.alloc _⟩, rfl⟩)
        case measure => simp [intOf]; omega
      | some x =>
        obtain ⟨fr, wrt, tb⟩ := x
        have hrt := HRT.out k _ hk16 hent
        have hsb := HSUB.out k _ hk16 hent
        simp only at hrt hsb
        obtain ⟨a, b, c, d, e⟩ := word_parts hrt
        rw [hword, hent] at hget
        simp only [entW, a, b, c, d, e, if_true] at hget
        have hA : eachA sel page ent sub k = sel ((page * 16 + k : Nat) : Int) tb fr ++ if tb then sub k else [] := by unfold eachA; rw [hent]
        rw [hA] at hsucc
        have hpk : ((page * 16 + k : Nat) : Int) = (page : Int) * 16 + (k : Int) := by push_cast; rfl
        have hll : (((lv + 1 : Nat)) : Int) = (lv : Int) + 1 := by push_cast; rfl
        have hw1 : IntKind.i64.wrap ((page : Int) * 16) = (page : Int) * 16 := IntWalk.i64_in _ ⟨by omega, by omega⟩
        have hw2 : IntKind.i64.wrap ((page : Int) * 16 + (k : Int)) = (page : Int) * 16 + (k : Int) := IntWalk.i64_in _ ⟨by omega, by omega⟩
        have HGT := Lib.hid hget
        have HSC := Lib.hid hsucc
        have HSB := Lib.hid hsb
        have HPK := Lib.hid hpk
        have HLL := Lib.hid hll
        clear hget hsucc hA hword hent hrt hsb a b c d e hpk hll
        go_wp2_with (fail)
        refine HGT.out.mono ?_
        rintro e w2 ⟨rfl, hb2⟩
        have S2 := ((S1.below hb2).pt_new (.cells #[.bool true, .bool wrt, .bool tb, .int .i64 fr] 78)).perm (show _ = outP ob (L ++ eachL sel page ent sub k) * (pt w2.heap.size (.cells #[.bool true, .bool wrt, .bool tb, .int .i64 fr] 78) * (spP ps pm pb r * (memP pm n M * R))) by ac_rfl)
        go_upto_region 4 with (fail)
        obtain ⟨w3, hw3⟩ : ∃ w3, w3 = w2.alloc (.cells #[.bool true, .bool wrt, .bool tb, .int .i64 fr] 78) := ⟨_, rfl⟩
        rw [← hw3] at S2 ⊢
        obtain ⟨eb, heb⟩ : ∃ eb, eb = w2.heap.size := ⟨_, rfl⟩
        rw [← heb] at S2 ⊢
        clear hw3 heb S1 hb2
        have hce : ∀ w' L', Sat g w' (outP ob L' * (pt eb (.cells #[.bool true, .bool wrt, .bool tb, .int .i64 fr] 78) * (spP ps pm pb r * (memP pm n M * R)))) → w'.cell? ⟨eb, 0, none⟩ = some (.bool true) ∧ w'.cell? ⟨eb, 1, none⟩ = some (.bool wrt) ∧ w'.cell? ⟨eb, 2, none⟩ = some (.bool tb) ∧ w'.cell? ⟨eb, 3, none⟩ = some (.int .i64 fr) := fun w' L' h' => by
          have e := h'.swap.pt_heap
          exact ⟨by simp [World.cell?, e], by simp [World.cell?, e], by simp [World.cell?, e], by simp [World.cell?, e]⟩
        have HCE := Lib.hid hce
        obtain ⟨x0, x1, x2, x3⟩ := hce _ _ S2
        clear hce
        go_wp2_with (fail)
        refine (HGA.out _ _ _ lv ((page : Int) * 16 + (k : Int)) wrt tb fr S2 (by omega)).mono ?_
        rintro e w4 ⟨rfl, S4⟩
        clear x0 x1 x2 x3 S2
        obtain ⟨_, _, x2, x3⟩ := HCE.out _ _ S4
        cases tb with
        | false =>
          have S5 : Sat g w4 (outP ob (L ++ eachL sel page ent sub (k + 1)) * (spP ps pm pb r * (memP pm n M * R))) := by
            rw [HSC.out, HPK.out, if_neg (by simp), List.append_nil, ← List.append_assoc]
            exact (S4.swap).right
          clear hw1 hw2
          go_wp2_with (fail)
          go_roundw
          case rel => first | exact ⟨k + 1, by omega, by go_num, S5⟩ | ((repeat apply Exists.intro); exact ⟨⟨k + 1, by omega, by go_num, S5⟩, rfl⟩)
          case measure => simp [intOf]; omega
        | true =>
          have hcall := HSB.out rfl w4 _ (pt eb (.cells #[.bool true, .bool wrt, .bool true, .int .i64 fr] 78) * R) (S4.perm (by ac_rfl)) (hln _ (hs1 _ _ _))
          rw [HPK.out, HLL.out] at hcall
          have HCL := Lib.hid hcall
          clear hcall hw1 hw2
          go_wp2_with (fail)
          refine HCL.out.mono ?_
          rintro e w5 ⟨rfl, S5⟩
          have S6 : Sat g w5 (outP ob (L ++ eachL sel page ent sub (k + 1)) * (spP ps pm pb r * (memP pm n M * R))) := by
            rw [HSC.out, HPK.out]
            simp only [if_true, ← List.append_assoc]
            exact (S5.perm (show _ = pt eb (.cells #[.bool true, .bool wrt, .bool true, .int .i64 fr] 78) * (outP ob (L ++ eachL sel page ent sub k ++ sel ((page : Int) * 16 + (k : Int)) true fr ++ sub k) * (spP ps pm pb r * (memP pm n M * R))) by ac_rfl)).right
          go_wp2_with (fail)
          go_roundw
          case rel => first | exact ⟨k + 1, by omega, by go_num, S6⟩ | ((repeat apply Exists.intro); exact ⟨⟨k + 1, by omega, by go_num, S6⟩, rfl⟩)
          case measure => simp [intOf]; omega
    · obtain rfl : k = 16 := by omega
      go_wp2_with (fail)
      go_end0
      exact ⟨rfl, S1⟩

end Go.Proofs.Ytoiiblajgkdabaa

namespace Go.Proofs.Ytoiiblajgkdabaa
set_option linter.unusedSimpArgs false
set_option linter.unusedVariables false
set_option maxRecDepth 100000
open Go.RowKit Go.Lib Go.Sort
set_option maxHeartbeats 4000000

/-! ### What is gathered of a tree -/
def ent2 (t : Tree) (q k : Nat) : Option (Nat × Bool × Bool) := (t.pg (q * 16 + k)).map fun x => (x.1, x.2, false)
def ent1 (t : Tree) (i j : Nat) : Option (Nat × Bool × Bool) := (t.t2 (i * 16 + j)).map fun f => (f, false, true)
def ent0 (t : Tree) (i : Nat) : Option (Nat × Bool × Bool) := (t.t1 i).map fun f => (f, false, true)
abbrev Sel := Int → Bool → Int → List Int
def vis2 (sel : Sel) (t : Tree) (q : Nat) : List Int := eachL sel q (ent2 t q) (fun _ => []) 16
def vis1 (sel : Sel) (t : Tree) (i : Nat) : List Int := eachL sel i (ent1 t i) (fun j => vis2 sel t (i * 16 + j)) 16
def vis0 (sel : Sel) (t : Tree) : List Int := eachL sel 0 (ent0 t) (fun i => vis1 sel t (0 * 16 + i)) 16
theorem vis2_len {sel : Sel} (h : ∀ a b c, (sel a b c).length ≤ 1) (t : Tree) (q : Nat) : (vis2 sel t q).length ≤ 16 := eachL_len (s := 0) h (fun _ => by simp) 16
theorem vis1_len {sel : Sel} (h : ∀ a b c, (sel a b c).length ≤ 1) (t : Tree) (i : Nat) : (vis1 sel t i).length ≤ 272 := eachL_len (s := 16) h (fun j => vis2_len h t _) 16
theorem vis0_len {sel : Sel} (h : ∀ a b c, (sel a b c).length ≤ 1) (t : Tree) : (vis0 sel t).length ≤ 4368 := eachL_len (s := 272) h (fun j => vis1_len h t _) 16
theorem each_tree {g : World} {fid ob ps pm pb r n : Nat} {M : Nat → Int} {sel : Sel} (hG : Gathers g fid ob sel) (hE : ∀ (args : Array Value) (w : World), (callFunc fid args).run Try.prog w = .ok (.enter fid args) w) (hs : ∀ a b c, (sel a b c).length ≤ 1) {t : Tree} (ht : TreeW n M t) (hn : n ≤ 256) :
    EachAt g fid ob ps pm pb r n M 0 t.root 0 (vis0 sel t) 4368 := by
  refine each_level hG hE hs (by omega) (by omega) ht.lr (fun i => vis1_len hs t _) (by omega) (fun i hi => ?_) (fun i x hi hx => ?_) (fun i x hi hx _ => ?_)
  · rw [ht.w0 i hi]; unfold ent0; cases t.t1 i <;> rfl
  · unfold ent0 at hx
    cases e : t.t1 i with
    | none => rw [e] at hx; cases hx
    | some f =>
      rw [e] at hx; cases hx
      exact right_tab (f := f) (by have := (ht.lt1 _ _ e).2; omega)
  · unfold ent0 at hx
    cases e : t.t1 i with
    | none => rw [e] at hx; cases hx
    | some f =>
      rw [e] at hx; cases hx
      have e0 : 0 * 16 + i = i := by omega
      rw [e0]
      refine each_level hG hE hs (by omega) (by omega) (ht.lt1 _ _ e).2 (fun j => vis2_len hs t _) (by omega) (fun j hj => ?_) (fun j x hj hx => ?_) (fun j x hj hx _ => ?_)
      · rw [ht.w1 i f e j hj]; unfold ent1; rw [Nat.mul_comm 16 i]; cases t.t2 (i * 16 + j) <;> rfl
      · unfold ent1 at hx
        cases e2 : t.t2 (i * 16 + j) with
        | none => rw [e2] at hx; cases hx
        | some f2 =>
          rw [e2] at hx; cases hx
          exact right_tab (f := f2) (by have := (ht.lt2 _ _ e2).2; omega)
      · unfold ent1 at hx
        cases e2 : t.t2 (i * 16 + j) with
        | none => rw [e2] at hx; cases hx
        | some f2 =>
          rw [e2] at hx; cases hx
          have l2 := ht.lt2 _ _ e2
          refine each_level hG hE hs (by omega) (by omega) l2.2 (s := 0) (fun k => by simp) (by omega) (fun k hk => ?_) (fun k x hk hx => ?_) (fun k x hk hx h3 => ?_)
          · rw [ht.w2 _ f2 e2 k hk]; unfold ent2; rw [Nat.mul_comm 16 (i * 16 + j)]; cases t.pg ((i * 16 + j) * 16 + k) <;> rfl
          · unfold ent2 at hx
            cases e3 : t.pg ((i * 16 + j) * 16 + k) with
            | none => rw [e3] at hx; cases hx
            | some y =>
              rw [e3] at hx; cases hx
              exact right_pg (f := y.1) y.2 (by have := (ht.ltp _ _ e3).2; omega)
          · unfold ent2 at hx
            cases e3 : t.pg ((i * 16 + j) * 16 + k) with
            | none => rw [e3] at hx; cases hx
            | some y => rw [e3] at hx; cases hx; cases h3

/-! ### Lists of ints as parts -/
def rowP (v : Value) (L : List Int) : HP := ownP (fun k => v.ownBlock = some k) (fun w => RowI w 0 v L)
theorem loc_row (v : Value) (L : List Int) : Loc (fun k => v.ownBlock = some k) (fun w => RowI w 0 v L) := fun _ _ h e => own_heap' h fun k hk => e k hk
theorem rowP_cells {g w : World} {v : Value} {L : List Int} {R : HP} (h : Sat g w (rowP v L * R)) : ∃ a cap, v = .slice a L.length cap ∧ (L = [] ∨ ∃ gb, a = some ⟨gb, 0, none⟩ ∧ Has (rowP v L) gb ∧ ∀ j (_ : j < L.length), w.cell? ⟨gb, j, none⟩ = some (.int .i64 L[j])) := by
  have hr : RowI w 0 v L := h.inv
  rcases hr.2 with ⟨h1, h2⟩ | ⟨gb, cap, cur, h1, _, hh, _⟩
  · exact ⟨none, 0, by rw [h1, h2], Or.inl (List.length_eq_zero_iff.1 h2)⟩
  · refine ⟨some ⟨gb, 0, none⟩, cap, h1, Or.inr ⟨gb, rfl, has_own (by rw [h1]; rfl), fun j hj => ?_⟩⟩
    unfold RowI at hr
    rw [h1] at hr
    rw [World.ownsRow.cellAt hr j (by omega), iCells_get _ j hj]
    simp [hj]
theorem out_row {g w : World} {ob : Nat} {v : Value} {L : List Int} {R : HP} (h : Sat g w (ownP (madeS ob v) (fun w => OutIn w ob v L) * R)) : Sat g w (rowP v L * R) :=
  h.touch (Touch.refl _ _) h.inv.row (loc_row v L) (fun k hk => Or.inl (Or.inr hk)) (fun k hk => h.inv.slt k (Or.inr hk))
theorem Sat.out_new {g w : World} {R : HP} (h : Sat g w R) : Sat g (w.alloc (.cells #[.slice none 0 0] 42)) (outP w.heap.size [] * R) := by
  refine Sat.ex' (.slice none 0 0) (h.new ((Below.refl _ _).alloc (Nat.le_refl _) _) ⟨by simp [go_sem], by simp [go_sem], RowI.nil _ _, by simp [Value.ownBlock], by simp⟩ (loc_out _ _ _) (fun k hk => ?_) (fun k hk => ?_))
  · rcases hk with rfl | hk
    · exact Nat.le_refl _
    · simp [Value.ownBlock] at hk
  · rcases hk with rfl | hk
    · simp
    · simp [Value.ownBlock] at hk
theorem Sat.out_one {g w : World} {R : HP} (h : Sat g w R) (x : Int) : Sat g ((w.alloc (.cells #[.int .i64 x] 3)).alloc (.cells #[.slice (some ⟨w.heap.size, 0, none⟩) 1 1] 42)) (outP (w.heap.size + 1) [x] * R) := by
  have ho : (w.alloc (.cells #[.int .i64 x] 3)).ownsRow 0 3 1 (.slice (some ⟨w.heap.size, 0, none⟩) 1 1) 1 (iCells [x]) := by
    have := World.ownsRow_lit (base := 0) (e := 3) (size := 1) w #[.int .i64 x] 1 (by simp) (by unfold maxLen; omega) (by simp)
    simpa [iCells] using this
  have hz : (w.alloc (.cells #[.int .i64 x] 3)).heap.size = w.heap.size + 1 := by simp
  refine Sat.ex' (.slice (some ⟨w.heap.size, 0, none⟩) 1 1) (h.new (((Below.refl _ _).alloc (Nat.le_refl _) _).alloc (by simp) _) ⟨by rw [← hz]; simp [go_sem], by rw [← hz]; simp [go_sem], ho.alloc _, by simp [Value.ownBlock], by simp⟩ (loc_out _ _ _) (fun k hk => ?_) (fun k hk => ?_))
  · rcases hk with rfl | hk
    · omega
    · simp [Value.ownBlock] at hk; omega
  · rcases hk with rfl | hk
    · simp
    · simp [Value.ownBlock] at hk; simp; omega

/-- What a list is that a call has gathered. -/
def RowRet (g : World) (L : List Int) (R : HP) (e : Ending) (w' : World) : Prop := ∃ a cap, e = .returned (.slice a L.length cap) ∧ Sat g w' (rowP (.slice a L.length cap) L * R)
def selPg : Sel := fun pg tb _ => if tb then [] else [pg]
def selTb : Sel := fun _ tb fr => if tb then [fr] else []
def selFr : Sel := fun _ tb fr => if tb then [] else [fr]
theorem selPg_len : ∀ a b c, (selPg a b c).length ≤ 1 := fun a b c => by unfold selPg; cases b <;> simp
theorem selTb_len : ∀ a b c, (selTb a b c).length ≤ 1 := fun a b c => by unfold selTb; cases b <;> simp
theorem selFr_len : ∀ a b c, (selFr a b c).length ≤ 1 := fun a b c => by unfold selFr; cases b <;> simp

theorem s_pages (ps pm pb n : Nat) (M : Nat → Int) (t : Tree) (ht : TreeW n M t) (hn : n ≤ 256) (g w : World) (R : HP) (h : Sat g w (spP ps pm pb t.root * (memP pm n M * R))) :
    Calls Try.prog 40 #[.pointer (some ⟨ps, 0, none⟩)] w (RowRet g (vis0 selPg t) (spP ps pm pb t.root * (memP pm n M * R))) := by
  have S1 := h.out_new
  have hlen := vis0_len selPg_len t
  obtain ⟨w1, hw1⟩ : ∃ w1, w1 = w.alloc (.cells #[.slice none 0 0] 42) := ⟨_, rfl⟩
  have hcall := fun ob => each_tree (g := g) (ob := ob) (ps := ps) (pm := pm) (pb := pb) (r := t.root) (gathers_pages g ob) (enters_of Try.func69 (by kernel_rfl) rfl) selPg_len ht hn w1 [] R
  have HC := Lib.hid hcall
  rw [← hw1] at S1
  have s2 := S1.swap.sp.c2
  have HS := Lib.hid S1
  have HW := Lib.hid hw1
  clear S1 hw1 hcall
  go_enter Try.func40, Try.ntmps40
  go_upto_region 2 with (fail)
  rw [← HW.out]
  have S1 := HS.out
  generalize w.heap.size = ob at S1 ⊢
  have hc := HC.out ob S1 (by simp)
  have HCC := Lib.hid hc
  clear hc S1 HS HW HC
  go_wp2_with (fail)
  refine HCC.out.mono ?_
  rintro e w2 ⟨rfl, S2⟩
  rw [List.nil_append] at S2
  obtain ⟨v, S2⟩ := Sat.ex S2
  have c0 := S2.inv.c0
  obtain ⟨a, c, e⟩ := own_slice S2.inv.row
  subst e
  have S3 := out_row S2
  clear S2
  go_wp2_with (fail)
  go_ret
  exact ⟨a, c, rfl, S3⟩

end Go.Proofs.Ytoiiblajgkdabaa

namespace Go.Proofs.Ytoiiblajgkdabaa
set_option linter.unusedSimpArgs false
set_option linter.unusedVariables false
set_option maxRecDepth 100000
open Go.RowKit Go.Lib Go.Sort
set_option maxHeartbeats 4000000

def sortI (L : List Int) : List Int := L.mergeSort fun x y => decide (x ≤ y)
theorem sortI_perm (L : List Int) : (sortI L).Perm L := List.mergeSort_perm _ _
theorem sortI_len (L : List Int) : (sortI L).length = L.length := (sortI_perm L).length_eq
theorem sortI_rise (L : List Int) : (sortI L).Pairwise (· ≤ ·) := by
  have := List.pairwise_mergeSort (le := fun x y : Int => decide (x ≤ y)) (fun a b c h1 h2 => by simp at *; omega) (fun a b => by simp; omega) L
  exact this.imp fun h => by simpa using h
theorem rowI_sorted {w : World} {g n cap : Nat} {L ys : List Int} (h : w.ownsRow 0 3 1 (.slice (some ⟨g, 0, none⟩) n cap) n (iCells L)) (hy : ys.length = n) (q : Nat) (os : Array Obj) :
    (grow (putRow (Value.int .i64) (Sort.ahead w q) g 0 ys.toArray) os).ownsRow 0 3 1 (.slice (some ⟨g, 0, none⟩) n cap) n (iCells ys) ∧ Touch (· = g) w (grow (putRow (Value.int .i64) (Sort.ahead w q) g 0 ys.toArray) os) := by
  have h1 := ownsRow_putRow (enc := Value.int .i64) (q := q) (ys := ys) h hy (Nat.le_refl n)
  rw [← hy, List.take_length] at h1
  rw [hy] at h1
  have hb : Below (putRow (Value.int .i64) (Sort.ahead w q) g 0 ys.toArray).heap.size (putRow (Value.int .i64) (Sort.ahead w q) g 0 ys.toArray) (grow (putRow (Value.int .i64) (Sort.ahead w q) g 0 ys.toArray) os) :=
    ⟨rfl, rfl, rfl, by unfold grow; simp, fun k hk => by unfold grow; exact Array.getElem?_append_left hk⟩
  have ht : Touch (· = g) w (putRow (Value.int .i64) (Sort.ahead w q) g 0 ys.toArray) :=
    ⟨rfl, rfl, rfl, by simp [putRow, mapBlock, Sort.ahead], fun k hk hne => by
      have hne' : ¬ g = k := fun e => hne e.symm
      simp [putRow, mapBlock, Sort.ahead, Array.getElem?_modify, hne']⟩
  exact ⟨own_below h1 hb, ht.trans (Touch.of_below hb)⟩

def tabsL (t : Tree) : List Int := sortI ((t.root : Int) :: vis0 selTb t)
theorem tabsL_len (t : Tree) : (tabsL t).length ≤ 4369 := by
  unfold tabsL; rw [sortI_len, List.length_cons]
  have := vis0_len selTb_len t
  omega
theorem s_tabs (ps pm pb n : Nat) (M : Nat → Int) (t : Tree) (ht : TreeW n M t) (hn : n ≤ 256) (g w : World) (R : HP) (h : Sat g w (spP ps pm pb t.root * (memP pm n M * R))) :
    Calls Try.prog 41 #[.pointer (some ⟨ps, 0, none⟩)] w (RowRet g (tabsL t) (spP ps pm pb t.root * (memP pm n M * R))) := by
  have s2 := h.sp.c2
  have S1 := h.out_one t.root
  have hlen := vis0_len selTb_len t
  obtain ⟨w1, hw1⟩ : ∃ w1, w1 = (w.alloc (.cells #[.int .i64 t.root] 3)).alloc (.cells #[.slice (some ⟨w.heap.size, 0, none⟩) 1 1] 42) := ⟨_, rfl⟩
  have hcall := fun ob => each_tree (g := g) (ob := ob) (ps := ps) (pm := pm) (pb := pb) (r := t.root) (gathers_tables g ob) (enters_of Try.func70 (by kernel_rfl) rfl) selTb_len ht hn w1 [(t.root : Int)] R
  have HC := Lib.hid hcall
  rw [← hw1] at S1
  have s3 := S1.swap.sp.c2
  have HS := Lib.hid S1
  have HW := Lib.hid hw1
  clear S1 hw1 hcall
  go_enter Try.func41, Try.ntmps41
  go_upto_region 2 with (fail)
  rw [← HW.out]
  have S1 := HS.out
  generalize w.heap.size + 1 = ob at S1 ⊢
  have hc := HC.out ob S1 (by simp)
  have HCC := Lib.hid hc
  clear hc S1 HS HW HC s2
  go_wp2_with (fail)
  refine HCC.out.mono ?_
  rintro e w2 ⟨rfl, S2⟩
  replace S2 : Sat g w2 (outP ob ((t.root : Int) :: vis0 selTb t) * (spP ps pm pb t.root * (memP pm n M * R))) := S2
  obtain ⟨L, hL⟩ : ∃ L, (t.root : Int) :: vis0 selTb t = L := ⟨_, rfl⟩
  have hLl : L.length ≤ 4369 := by rw [← hL, List.length_cons]; omega
  have hL0 : L ≠ [] := by rw [← hL]; simp
  have hTL : tabsL t = sortI L := by rw [← hL]; rfl
  rw [hL] at S2
  have HTL := Lib.hid hTL
  clear hL hTL hlen s3
  obtain ⟨v, S2⟩ := Sat.ex S2
  have hO := S2.inv
  rcases hO.row.2 with ⟨_, h0⟩ | ⟨gb, cap, cur, hv, _, hh, _⟩
  · exact absurd (List.length_eq_zero_iff.1 h0) hL0
  subst hv
  have c0 := hO.c0
  have hrow : w2.ownsRow 0 3 1 (.slice (some ⟨gb, 0, none⟩) L.length cap) L.length (iCells L) := hO.row
  obtain ⟨g', cap', e1, _, hlt, _, _, _, hH⟩ := holds_of_ownsRow (enc := Value.int .i64) (zs := L) hrow (by intro e; cases e)
  simp only [Value.slice.injEq, Option.some.injEq, Addr.mk.injEq] at e1
  obtain ⟨⟨rfl, -, -⟩, -, rfl⟩ := e1
  have hsort := Try.slices_Sort_int gb 0 cap L w2 hH hlt (by omega)
  have HSO := Lib.hid hsort
  have HRO := Lib.hid hrow
  have HS2 := Lib.hid S2
  have HLN := Lib.hid (sortI_len L)
  clear hsort hrow hO hh hH S2
  go_wp2_with (fail)
  refine HSO.out.mono ?_
  rintro e w3 ⟨rfl, q, os, hw3⟩
  obtain ⟨r1, r2⟩ := rowI_sorted HRO.out HLN.out q os
  have e3 : w3 = grow (putRow (Value.int .i64) (Sort.ahead w2 q) gb 0 (sortI L).toArray) os := hw3
  rw [← e3] at r1 r2
  clear hw3 e3
  have hOI := HS2.out.inv
  have hne : gb ≠ ob := fun e => hOI.ne (by rw [e]; rfl)
  have hob := r2.block ob hOI.lt (fun e => hne e.symm)
  have c0 : w3.cell? ⟨ob, 0, none⟩ = some (.slice (some ⟨gb, 0, none⟩) L.length cap) := (cell_of_heap hob 0).trans hOI.c0
  have S3 : Sat g w3 (rowP (.slice (some ⟨gb, 0, none⟩) (sortI L).length cap) (sortI L) * (spP ps pm pb t.root * (memP pm n M * R))) :=
    HS2.out.touch (r2.mono (fun k _ e => Or.inr (by rw [e]; rfl))) (by show World.ownsRow _ _ _ _ _ _ _; rw [HLN.out]; exact r1) (loc_row _ _) (fun k hk => Or.inl (Or.inr hk)) (fun k hk => by
      have := (World.ownsRow.lt r1 gb rfl).2
      simp [Value.ownBlock] at hk; omega)
  clear r1 r2 hOI hob
  go_wp2_with (fail)
  go_ret
  unfold RowRet
  rw [HTL.out]
  exact ⟨some ⟨gb, 0, none⟩, cap, by rw [HLN.out]; rfl, S3⟩

/-- What Close leaves behind. -/
def CloseRet (g : World) (ps pm pb r n : Nat) (L : List Int) (D : (Nat → Prop) → List Blk → (Nat → Int) → Prop) (R : HP) (e : Ending) (w' : World) : Prop :=
  ∃ a cap, e = .returned (.slice a L.length cap) ∧ ∃ T' H' M', D T' H' M' ∧ Sat g w' (rowP (.slice a L.length cap) L * (spP ps pm pb r * (midP pb pm T' H' * (memP pm n M' * R))))
theorem s_close (ps pm pb r0 n : Nat) (T : Nat → Prop) (H : List Blk) (M : Nat → Int) (t : Tree) (ht : TreeW n M t) (hn : n ≤ 256) (J : Nat → (Nat → Prop) → List Blk → (Nat → Int) → Prop)
    (hJ : ∀ k (hk : k < (tabsL t).length) T H M, J k T H M → InvB r0 n T H ∧ ∃ f : Nat, (tabsL t)[k] = (f : Int) ∧ ((f : Int), (0 : Int)) ∈ H ∧ J (k + 1) (plusQ T f 0) (H.erase ((f : Int), (0 : Int))) (scrubW M f 1)) (h0 : J 0 T H M)
    (g w : World) (R : HP) (h : Sat g w (spP ps pm pb t.root * (midP pb pm T H * (memP pm n M * R)))) :
    Calls Try.prog 47 #[.pointer (some ⟨ps, 0, none⟩)] w (CloseRet g ps pm pb t.root n (vis0 selFr t) (J (tabsL t).length) R) := by
  have S1 := (h.perm (show _ = spP ps pm pb t.root * (memP pm n M * (midP pb pm T H * R)) by ac_rfl)).out_new
  have hlen := vis0_len selFr_len t
  obtain ⟨w1, hw1⟩ : ∃ w1, w1 = w.alloc (.cells #[.slice none 0 0] 42) := ⟨_, rfl⟩
  have hcall := fun ob => each_tree (g := g) (ob := ob) (ps := ps) (pm := pm) (pb := pb) (r := t.root) (gathers_close g ob) (enters_of Try.func74 (by kernel_rfl) rfl) selFr_len ht hn w1 [] (midP pb pm T H * R)
  have HC := Lib.hid hcall
  rw [← hw1] at S1
  have s2 := S1.swap.sp.c2
  have HS := Lib.hid S1
  have HW := Lib.hid hw1
  have HT := Lib.hid ht
  have HJ := Lib.hid hJ
  have H0 := Lib.hid h0
  clear S1 hw1 hcall h ht hJ h0
  go_enter Try.func47, Try.ntmps47
  go_upto_region 2 with (fail)
  rw [← HW.out]
  have S1 := HS.out
  generalize w.heap.size = ob at S1 ⊢
  have hc := HC.out ob S1 (by simp)
  have HCC := Lib.hid hc
  clear hc S1 HS HW HC
  go_wp2_with (fail)
  refine HCC.out.mono ?_
  rintro e w2 ⟨rfl, S2⟩
  replace S2 : Sat g w2 (outP ob (vis0 selFr t) * (spP ps pm pb t.root * (memP pm n M * (midP pb pm T H * R)))) := S2
  obtain ⟨LO, hLO⟩ : ∃ LO, vis0 selFr t = LO := ⟨_, rfl⟩
  have HLO := Lib.hid hLO
  rw [hLO] at S2
  clear hLO s2 hlen
  go_wp2_with (fail)
  refine (s_tabs ps pm pb n M t HT.out hn g _ (outP ob LO * (midP pb pm T H * R)) (S2.perm (by ac_rfl))).mono ?_
  rintro e w3 ⟨a, cap, rfl, S3⟩
  obtain ⟨LT, hLT⟩ : ∃ LT, tabsL t = LT := ⟨_, rfl⟩
  have hJ := HJ.out
  have hLl := tabsL_len t
  rw [hLT] at S3 hJ hLl ⊢
  have HJ := Lib.hid hJ
  have HLT := Lib.hid hLT
  obtain ⟨v, S3⟩ := Sat.ex (S3.perm (show _ = outP ob LO * (rowP (.slice a LT.length cap) LT * (spP ps pm pb t.root * (midP pb pm T H * (memP pm n M * R)))) by ac_rfl))
  obtain ⟨OP, hOP⟩ : ∃ OP, OP = ownP (madeS ob v) (fun w => OutIn w ob v LO) := ⟨_, rfl⟩
  have HOP : Hid (∀ w' P', Sat g w' (OP * P') → OutIn w' ob v LO ∧ Sat g w' (rowP v LO * P')) := Lib.hid fun w' P' h' => by
    rw [hOP] at h'
    exact ⟨h'.inv, out_row h'⟩
  rw [← hOP] at S3
  clear hLT hJ hOP S2
  go_wp2_with (fail)
  go_loopw [16] (fun i wr => ∃ (k : Nat) (T : Nat → Prop) (H : List Blk) (M : Nat → Int), k ≤ LT.length ∧ i = .int .i64 k ∧ Hid (J k T H M) ∧ Sat g wr (OP * (rowP (.slice a LT.length cap) LT * (spP ps pm pb t.root * (midP pb pm T H * (memP pm n M * R)))))) (fun i _ => LT.length - (intOf i).toNat)
  case atStart => exact ⟨0, T, H, M, by omega, rfl, H0, S3⟩
  case round =>
    obtain ⟨k, T, H, M, hk, rfl, HI, S4⟩ := hrel
    clear S3
    by_cases hkl : k < LT.length
    · have il : (k : Int) < LT.length := by omega
      obtain ⟨a', cap', hv, hcell⟩ := rowP_cells S4.swap
      simp only [Value.slice.injEq] at hv
      obtain ⟨rfl, -, rfl⟩ := hv
      obtain ⟨hinv, f, hf, hin, hnx⟩ := HJ.out k hkl T H M HI.out
      rcases hcell with h0 | ⟨gb, rfl, _, hc⟩
      · rw [h0] at hkl; simp at hkl
      have hce := hc k hkl
      rw [hf] at hce
      have S5 := S4.perm (show _ = spP ps pm pb t.root * (OP * (rowP (.slice (some ⟨gb, 0, none⟩) LT.length cap) LT * (midP pb pm T H * (memP pm n M * R)))) by ac_rfl)
      have s1 := S5.sp.c1
      have HFR : Hid (Calls Try.prog 20 #[.pointer (some ⟨pb, 0, none⟩), .int .i64 f, .int .i64 0] wr fun e w'' => (∃ k : Int, e = .returned (.int .i64 k)) ∧ Sat g w'' (midP pb pm (plusQ T f 0) (H.erase ((f : Int), (0 : Int))) * (memP pm n (scrubW M f 1) * (spP ps pm pb t.root * (OP * (rowP (.slice (some ⟨gb, 0, none⟩) LT.length cap) LT * R)))))) := Lib.hid ((s_free_at pb pm r0 n T H M f 0 g _ (spP ps pm pb t.root * (OP * (rowP (.slice (some ⟨gb, 0, none⟩) LT.length cap) LT * R))) (S4.perm (by ac_rfl)) hinv).mono (by
        intro e w'' hp
        cases hp with
        | no hn _ _ => exact absurd hin hn
        | yes c2 k2 hf2 ho2 _ _ _ _ he2 _ hs2 =>
          obtain rfl : k2 = 0 := by omega
          rw [Nat.pow_zero, Nat.mul_one] at hf2 hs2
          obtain rfl : c2 = f := by omega
          exact ⟨⟨_, he2⟩, hs2⟩))
      have HN := Lib.hid hnx
      clear hc hinv hin hnx hf S4 S5
      go_wp2_with (fail)
      refine HFR.out.mono ?_
      rintro e w5 ⟨⟨kk, rfl⟩, S6⟩
      go_wp2_with (fail)
      go_roundw
      case rel => first | exact ⟨k + 1, _, _, _, by omega, by go_num, HN, S6.perm (by ac_rfl)⟩ | ((repeat apply Exists.intro); exact ⟨⟨k + 1, _, _, _, by omega, by go_num, HN, S6.perm (by ac_rfl)⟩, rfl⟩)
      case measure => simp [intOf]; omega
    · obtain rfl : k = LT.length := by omega
      obtain ⟨hO, S5⟩ := HOP.out _ _ S4
      have c0 := hO.c0
      obtain ⟨a2, c2, e⟩ := own_slice hO.row
      subst e
      have S6 := S5.perm (show _ = rowP (.slice a LT.length cap) LT * (rowP (.slice a2 LO.length c2) LO * (spP ps pm pb t.root * (midP pb pm T H * (memP pm n M * R)))) by ac_rfl) |>.right
      clear hO S4 S5
      go_wp2_with (fail)
      go_ret
      unfold CloseRet
      rw [HLO.out, HLT.out]
      exact ⟨a2, c2, rfl, T, H, M, HI.out, S6⟩

end Go.Proofs.Ytoiiblajgkdabaa

namespace Go.Proofs.Ytoiiblajgkdabaa
set_option linter.unusedSimpArgs false
set_option linter.unusedVariables false
set_option maxRecDepth 100000
open Go.RowKit
set_option maxHeartbeats 4000000

theorem s_map_twice (ps pm pb r n p fr : Nat) (M : Nat → Int) (bw : Bool) (g w : World) (R : HP) (h : Sat g w (spP ps pm pb r * (memP pm n M * R))) (Q : WRes) (hQ : walkM M n r p = Q) (hQe : Q.e = 0) (hp : p < 4096) (hfr : fr < n) :
    Calls Try.prog 39 #[.pointer (some ⟨ps, 0, none⟩), .int .i64 p, .int .i64 fr, .bool bw] w fun e w' => e = .returned (.int .i64 4) ∧ Sat g w' (spP ps pm pb r * (memP pm n M * R)) := by
  have S0 := (h.pt_new (.cells #[.pointer (some ⟨ps, 0, none⟩)] 68)).perm (show _ = spP ps pm pb r * (memP pm n M * (pt w.heap.size (.cells #[.pointer (some ⟨ps, 0, none⟩)] 68) * R)) by ac_rfl)
  have hd : (decide (0 ≤ (p : Int)) && decide ((p : Int) < 4096)) = true := by simp; omega
  have gf : decide ((fr : Int) < 0) = false := by simp
  have gn : decide ((n : Int) ≤ fr) = false := by simp; omega
  have gn' : decide (n ≤ fr) = false := by simp; omega
  have g0 : (Q.e == 0) = true := by rw [beq_iff_eq]; exact hQe
  obtain ⟨w1, hw1⟩ : ∃ w1, w1 = w.alloc (.cells #[.pointer (some ⟨ps, 0, none⟩)] 68) := ⟨_, rfl⟩
  obtain ⟨sb, hsb⟩ : ∃ sb, sb = w.heap.size := ⟨_, rfl⟩
  rw [← hw1, ← hsb] at S0
  have HS0 := Lib.hid S0
  have HQ := Lib.hid hQ
  have HW1 := Lib.hid hw1
  have HSB := Lib.hid hsb
  clear hQ hQe hw1 hsb S0 h
  go_enter Try.func39, Try.ntmps39
  go_upto_region 1 with (fail)
  rw [← HW1.out, ← HSB.out]
  have S0 := HS0.out
  clear HW1 HSB HS0
  have hcs : ∀ w', Below w1.heap.size w1 w' → w'.cell? ⟨sb, 0, none⟩ = some (.pointer (some ⟨ps, 0, none⟩)) ∧ w'.cell? ⟨ps, 0, none⟩ = some (.pointer (some ⟨pm, 0, none⟩)) ∧ w'.cell? ⟨ps, 2, none⟩ = some (.int .i64 r) := fun w' hb => by
    have S1 := S0.below hb
    have e := (S1.perm (show _ = pt sb (.cells #[.pointer (some ⟨ps, 0, none⟩)] 68) * (spP ps pm pb r * (memP pm n M * R)) by ac_rfl)).pt_heap
    exact ⟨by simp [World.cell?, e], S1.sp.c0, S1.sp.c2⟩
  obtain ⟨q0, q1, q2⟩ := hcs w1 (Below.refl _ _)
  go_wp2_with (fail)
  refine (is_any p _).mono ?_
  rintro e w' ⟨rfl, rfl⟩
  rw [hd]
  go_wp2_with (fail)
  refine (s_frames pm n M g w1 _ S0.swap).mono ?_
  rintro e w' ⟨rfl, rfl⟩
  go_upto_region 3 with (fail)
  have HW : Hid (∀ w', Below w1.heap.size w1 w' → Calls Try.prog 44 #[.pointer (some ⟨pm, 0, none⟩), .int .i64 r, .int .i64 p] w' fun e w2 => ∃ v, e = .returned (.tuple #[.agg #[.bool Q.v, .bool Q.wr, .bool Q.tb, .int .i64 Q.fr], v, .int .i64 Q.e]) ∧ w2.ownsRow w'.heap.size 109 2 v Q.st.length (wCells Q.st) ∧ Below w'.heap.size w' w2) := Lib.hid fun w' hb => s_walk pm n M r p g w' _ (S0.below hb).swap Q HQ.out
  clear q0 q1 q2
  go_cut [9, 10, 11] (fun s6 s7 s8 wx => WalkCut w1 Q s6 s7 s8 wx)
  case first =>
    go_region_held3 (fun w' => w'.cell? ⟨sb, 0, none⟩ = some (.pointer (some ⟨ps, 0, none⟩)) ∧ w'.cell? ⟨ps, 0, none⟩ = some (.pointer (some ⟨pm, 0, none⟩)) ∧ w'.cell? ⟨ps, 2, none⟩ = some (.int .i64 r)) (exact hcs _ (by repeat (first | with_reducible exact Below.refl _ _ | with_reducible assumption | with_reducible refine below_drewN ?_ _ | with_reducible refine Below.drew ?_ | with_reducible refine Below.setCell ?_ (by first | omega | (simp <;> omega)) _ | with_reducible refine Below.alloc ?_ (by first | omega | (simp <;> omega)) _))) ((go_at_call 44; refine (HW.out _ (by repeat (first | with_reducible exact Below.refl _ _ | with_reducible assumption | with_reducible refine below_drewN ?_ _ | with_reducible refine Below.drew ?_ | with_reducible refine Below.setCell ?_ (by first | omega | (simp <;> omega)) _ | with_reducible refine Below.alloc ?_ (by first | omega | (simp <;> omega)) _))).mono ?_; rintro e w3 ⟨v, rfl, hown3, hb3'⟩; first | (have hb4 := un_drew hb3'; have he := (EnAt.new w1 false false false 0 78).below hb4 (by simp); have hb3 : Below w1.heap.size w1 w3 := (Below.alloc (Below.refl _ _) (Nat.le_refl _) _).trans (hb4.mono (by simp)); have hs3 := hb3.size; have g0 := he.c0; have g1 := he.c1; have g2 := he.c2; have g3 := he.c3; have g4 := he.f0; have g5 := he.f1; have g6 := he.f2; have g7 := he.f3) | (have hb3 : Below w1.heap.size w1 w3 := un_drew hb3'; have hs3 := hb3.size)))
    · go_wp2_with (fail)
      go_meet
      exact walkCut_new (by simp) hown3 hb3
    · go_wp2_with (fail)
      go_meet
      exact walkCut_put (by simp) hown3 he hb3
  case rest =>
    obtain ⟨be, rfl, rfl, hbe, he, ho, hb, hne⟩ := hcut
    have S1 := (S0.below hb).perm (show _ = pt sb (.cells #[.pointer (some ⟨ps, 0, none⟩)] 68) * (spP ps pm pb r * (memP pm n M * R)) by ac_rfl)
    go_wp2_with (fail)
    go_ret
    exact ⟨rfl, S1.right⟩

theorem s_newsp (pm pb r0 n : Nat) (T : Nat → Prop) (H : List Blk) (g w : World) (R : HP) (h : Sat g w (midP pb pm T H * R)) (hi : InvB r0 n T H) :
    Calls Try.prog 60 #[.pointer (some ⟨pm, 0, none⟩), .pointer (some ⟨pb, 0, none⟩)] w fun e w' =>
      (e = .returned (.tuple #[.pointer none, .int .i64 6]) ∧ (∀ c, ¬ T c) ∧ Sat g w' (midP pb pm T H * R)) ∨
      ∃ ps c, e = .returned (.tuple #[.pointer (some ⟨ps, 0, none⟩), .int .i64 0]) ∧ NextF T c ∧ Sat g w' (spP ps pm pb c * (midP pb pm (minusQ T c 0) (H ++ [((c : Int), (0 : Int))]) * R)) := by
  go_enter Try.func60, Try.ntmps60
  go_wp2_with (fail)
  refine (s_alloc0 pb pm r0 n T H g _ _ h hi).mono ?_
  intro e w1 hp
  cases hp with
  | no hn he hs =>
    subst he
    have HN := Lib.hid hn
    clear hn
    go_wp2_with (fail)
    go_ret2
    exact Or.inl ⟨rfl, HN.out, hs⟩
  | yes c hc he hs =>
    subst he
    have HN := Lib.hid hc
    clear hc
    have S1 : Sat g (w1.alloc (.cells #[.pointer (some ⟨pm, 0, none⟩), .pointer (some ⟨pb, 0, none⟩), .int .i64 c] 107)) (spP w1.heap.size pm pb c * (midP pb pm (minusQ T c 0) (H ++ [((c : Int), (0 : Int))]) * R)) :=
      hs.new ((Below.refl _ _).alloc (Nat.le_refl _) _) ⟨by simp [go_sem], by simp [go_sem], by simp [go_sem], by simp⟩ (loc_sp _ _ _ _) (fun k hk => by rw [hk]; exact Nat.le_refl _) (fun k hk => by rw [hk]; simp)
    have H1 := Lib.hid S1
    clear S1
    go_wp2_with (fail)
    go_ret2
    exact Or.inr ⟨_, c, rfl, HN.out, H1.out⟩

end Go.Proofs.Ytoiiblajgkdabaa
