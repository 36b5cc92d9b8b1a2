/- Part 17 of the proofs: MmuT, Law08, TlbDrop, Law11S, LawMmuAlike, Open, Ops11. -/
import Derived.Test.YteehghjdifbjbaaQ9
import Derived.Test.YteehghjdifbjbaaQ16
import Derived.Test.YteehghjdifbjbaaQ2
import Derived.Test.YteehghjdifbjbaaQ1
import Derived.Deep.Slices
import Derived.Test.YteehghjdifbjbaaQ8
namespace Go.Proofs.Yteehghjdifbjbaa
set_option linter.unusedSimpArgs false
set_option linter.unusedVariables false
set_option maxRecDepth 100000
open Go.RowKit
set_option maxHeartbeats 4000000

abbrev PgF : Type := Nat → Option (Nat × Bool)
/-- The lines of the number a fit pages. -/
def FitL (L : Nat → Option Ln) (a : Int) (pg : PgF) : Prop := ∀ i l, i < 8 → L i = some l → l.a = a → ∃ q : Nat, l.p = q ∧ ∃ f : Nat, pg q = some (f, l.w) ∧ l.f = f
theorem FitL.none (a : Int) (pg : PgF) : FitL (fun _ => none) a pg := fun i l _ h => by cases h
theorem FitL.put {L : Nat → Option Ln} {a : Int} {pg : PgF} (h : FitL L a pg) (l : Ln) (at_ : Int) (hl : l.a = a → ∃ q : Nat, l.p = q ∧ ∃ f : Nat, pg q = some (f, l.w) ∧ l.f = f) : FitL (tPutL L l at_) a pg := fun i m hi hm ha => by
  unfold tPutL at hm
  split at hm
  · cases hm; exact hl ha
  · exact h i m hi hm ha
theorem dropL_some {T : Ln → Bool} {L : Nat → Option Ln} {i : Nat} {l : Ln} (hi : i < 8) (h : dropL T L 8 i = some l) : L i = some l ∧ T l = false := by
  unfold dropL at h
  rw [if_pos hi, Option.filter_eq_some_iff] at h
  exact ⟨h.1, by simpa using h.2⟩
theorem FitL.drop {L : Nat → Option Ln} {a : Int} {pg pg' : PgF} (h : FitL L a pg) (T : Ln → Bool) (hp : ∀ l : Ln, T l = false → l.a = a → ∀ q : Nat, l.p = q → pg' q = pg q) : FitL (dropL T L 8) a pg' := fun i l hi hl ha => by
  obtain ⟨h1, h2⟩ := dropL_some hi hl
  obtain ⟨q, e, f, h3, h4⟩ := h i l hi h1 ha
  exact ⟨q, e, f, by rw [hp l h2 ha q e]; exact h3, h4⟩
theorem FitL.flush (L : Nat → Option Ln) (a : Int) (pg : PgF) : FitL (dropL (fun l => l.a == a) L 8) a pg := fun i l hi hl ha => by
  have := (dropL_some hi hl).2
  simp [ha] at this

theorem mLine_tree {n : Nat} {M : Nat → Int} {t : Tree} {L : Nat → Option Ln} {a : Int} (h : TreeW n M t) (hn : n ≤ 256) (hf : FitL L a t.pg) (q : Nat) (hq : q < 4096) : mLine n M L t.root a q = (t.pg q).map fun x => ⟨a, q, x.1, x.2⟩ := by
  unfold mLine
  rcases tAt_cases L a q with ⟨_, e⟩ | ⟨k, l, hk, _, hl, ha, hp, e⟩
  · rw [e]
    simp only
    rw [walk_tree h hn q hq]
    cases e3 : t.pg q with
    | none => rw [if_neg (by rw [walk_none h e3]; simp)]; rfl
    | some x =>
      obtain ⟨f1, f2, _, _, ew⟩ := walk_some h e3
      have hx := h.ltp _ _ e3
      rw [ew, if_pos ⟨rfl, by simp [hasB]; omega⟩]; rfl
  · rw [e]
    simp only
    obtain ⟨q', e1, f, e2, e3⟩ := hf k l hk hl ha
    have hq' : q' = q := by omega
    subst hq'
    rw [e2]
    cases l
    simp only at ha hp e3
    subst ha; subst hp; subst e3
    rfl
theorem mTlb_fit {n : Nat} {M : Nat → Int} {t : Tree} {L : Nat → Option Ln} {a b : Int} {pg : PgF} (h : TreeW n M t) (hn : n ≤ 256) (hf : FitL L a t.pg) (q : Nat) (hq : q < 4096) (at_ : Int) (hb : FitL L b pg) (hab : b = a → pg = t.pg) : FitL (mTlb n M L t.root a q at_) b pg := by
  unfold mTlb
  cases tFind L a q with
  | some l => exact hb
  | none =>
    simp only
    rw [mLine_tree h hn hf q hq]
    cases e3 : t.pg q with
    | none => exact hb
    | some x => exact hb.put _ _ (fun e => by rw [hab e.symm]; exact ⟨q, rfl, x.1, e3, rfl⟩)
theorem fOk_nat {a at_ : Int} {addr : Nat} (ha : a ≠ 0) (h : addr < 65536) (h0 : 0 ≤ at_) (h1 : at_ < 8) : fOk a addr at_ = true := by
  unfold fOk; simp [ha, h0, h1]; omega
/-- The frame, the place, the error of an address. -/
def fT (pg : PgF) (addr : Nat) (wr : Bool) : FRes := match pg (addr / 16) with
  | none => ⟨0, 0, 10⟩
  | some x => if wr && !x.2 then ⟨0, 0, 9⟩ else ⟨x.1, ((addr % 16 : Nat) : Int), 0⟩
theorem fRes_tree {n : Nat} {M : Nat → Int} {t : Tree} {L : Nat → Option Ln} {a : Int} (h : TreeW n M t) (hn : n ≤ 256) (hf : FitL L a t.pg) (addr : Nat) (hd : addr < 65536) (wr : Bool) (at_ : Int) (ha : a ≠ 0) (h0 : 0 ≤ at_) (h1 : at_ < 8) : fRes n M L t.root a addr wr at_ = fT t.pg addr wr := by
  unfold fRes fT
  rw [if_pos (fOk_nat ha hd h0 h1), show (addr : Int) / 16 = ((addr / 16 : Nat) : Int) by omega, mLine_tree h hn hf _ (by omega)]
  cases e3 : t.pg (addr / 16) with
  | none => rfl
  | some x =>
    have hx := h.ltp _ _ e3
    have hB : hasB n x.1 = true := by simp [hasB]; omega
    simp only [Option.map_some, hB, if_true]
    rfl
theorem fTlb_fit {n : Nat} {M : Nat → Int} {t : Tree} {L : Nat → Option Ln} {a b : Int} {pg : PgF} (h : TreeW n M t) (hn : n ≤ 256) (hf : FitL L a t.pg) (addr : Nat) (hd : addr < 65536) (at_ : Int) (hb : FitL L b pg) (hab : b = a → pg = t.pg) : FitL (fTlb n M L t.root a addr at_) b pg := by
  unfold fTlb
  split
  · rw [show (addr : Int) / 16 = ((addr / 16 : Nat) : Int) by omega]
    exact mTlb_fit h hn hf _ (by omega) _ hb hab
  · exact hb

/-- What a Load tells, what a Store leaves. -/
def lxT (pg : PgF) (M : Nat → Int) (addr : Nat) : Int := match pg (addr / 16) with
  | none => 0
  | some x => M (16 * x.1 + addr % 16)
def leT (pg : PgF) (addr : Nat) : Int := match pg (addr / 16) with
  | none => 10
  | some _ => 0
def seT (pg : PgF) (addr : Nat) : Int := match pg (addr / 16) with
  | none => 10
  | some x => if x.2 then 0 else 9
def swT (pg : PgF) (M : Nat → Int) (addr : Nat) (v : Int) : Nat → Int := match pg (addr / 16) with
  | none => M
  | some x => if x.2 then setW M (16 * x.1 + addr % 16) v else M
theorem at_nat' (f k : Nat) : (16 * (f : Int) + (k : Int)).toNat = 16 * f + k := by omega
theorem load_tree {n : Nat} {M : Nat → Int} {t : Tree} {L : Nat → Option Ln} {a : Int} (h : TreeW n M t) (hn : n ≤ 256) (hf : FitL L a t.pg) (addr : Nat) (hd : addr < 65536) (at_ : Int) (ha : a ≠ 0) (h0 : 0 ≤ at_) (h1 : at_ < 8) : lX n M L t.root a addr at_ = lxT t.pg M addr ∧ lE n M L t.root a addr false at_ = leT t.pg addr := by
  unfold lX lE lxT leT
  rw [fRes_tree h hn hf addr hd false at_ ha h0 h1]
  unfold fT
  cases e3 : t.pg (addr / 16) with
  | none => exact ⟨rfl, rfl⟩
  | some x =>
    simp only [Bool.false_and, Bool.false_eq_true, if_false]
    refine ⟨?_, trivial⟩
    rw [← at_nat' x.1 (addr % 16)]; rfl
theorem store_tree {n : Nat} {M : Nat → Int} {t : Tree} {L : Nat → Option Ln} {a : Int} (h : TreeW n M t) (hn : n ≤ 256) (hf : FitL L a t.pg) (addr : Nat) (hd : addr < 65536) (at_ : Int) (ha : a ≠ 0) (h0 : 0 ≤ at_) (h1 : at_ < 8) (v : Int) : sW n M L t.root a addr v at_ = swT t.pg M addr v ∧ lE n M L t.root a addr true at_ = seT t.pg addr := by
  unfold sW lE swT seT
  rw [fRes_tree h hn hf addr hd true at_ ha h0 h1]
  unfold fT
  cases e3 : t.pg (addr / 16) with
  | none => exact ⟨rfl, rfl⟩
  | some x =>
    cases hx : x.2
    · simp [hx]
    · simp only [hx, Bool.not_true, Bool.and_false, Bool.false_eq_true, if_false, if_true]
      refine ⟨?_, trivial⟩
      rw [← at_nat' x.1 (addr % 16)]

/-! ### The calls -/
theorem s_loadT (pu pm pl n : Nat) (t : Tree) (a : Int) (M : Nat → Int) (L : Nat → Option Ln) (addr : Nat) (at_ : Int) (g w : World) (R : HP) (h : Sat g w (unitP pu pm pl t.root a * (memP pm n M * (tlbP pl L * R)))) (ht : TreeW n M t) (hn : n ≤ 256) (hf : FitL L a t.pg) (hd : addr < 65536) (ha : 1 ≤ a) (ha' : a ≤ 8) (h0 : 0 ≤ at_) (h1 : at_ < 8) :
    Calls Try.prog 13 #[.pointer (some ⟨pu, 0, none⟩), .int .i64 addr, .int .i64 at_] w fun e w' => e = .returned (.tuple #[.int .u64 (lxT t.pg M addr), .int .i64 (leT t.pg addr)]) ∧ Sat g w' (unitP pu pm pl t.root a * (memP pm n M * (tlbP pl (fTlb n M L t.root a addr at_) * R))) := by
  have := s_load pu pm pl n t.root a M L addr at_ g w R h (by omega) ha'
  obtain ⟨e1, e2⟩ := load_tree ht hn hf addr hd at_ (by omega) h0 h1
  rw [e1, e2] at this
  exact this
theorem s_storeT (pu pm pl n : Nat) (t : Tree) (a : Int) (M : Nat → Int) (L : Nat → Option Ln) (addr : Nat) (v at_ : Int) (g w : World) (R : HP) (h : Sat g w (unitP pu pm pl t.root a * (memP pm n M * (tlbP pl L * R)))) (ht : TreeW n M t) (hn : n ≤ 256) (hf : FitL L a t.pg) (hd : addr < 65536) (ha : 1 ≤ a) (ha' : a ≤ 8) (h0 : 0 ≤ at_) (h1 : at_ < 8) (hv : 0 ≤ v) (hv' : v < 18446744073709551616) :
    Calls Try.prog 15 #[.pointer (some ⟨pu, 0, none⟩), .int .i64 addr, .int .u64 v, .int .i64 at_] w fun e w' => e = .returned (.int .i64 (seT t.pg addr)) ∧ Sat g w' (unitP pu pm pl t.root a * (memP pm n (swT t.pg M addr v) * (tlbP pl (fTlb n M L t.root a addr at_) * R))) := by
  have := s_store pu pm pl n t.root a M L addr v at_ g w R h (by omega) ha' hv hv'
  obtain ⟨e1, e2⟩ := store_tree ht hn hf addr hd at_ (by omega) h0 h1 v
  rw [e1, e2] at this
  exact this
theorem s_findT (pu pm pl n : Nat) (t : Tree) (a : Int) (M : Nat → Int) (L : Nat → Option Ln) (addr : Nat) (wr : Bool) (at_ : Int) (g w : World) (R : HP) (h : Sat g w (unitP pu pm pl t.root a * (memP pm n M * (tlbP pl L * R)))) (ht : TreeW n M t) (hn : n ≤ 256) (hf : FitL L a t.pg) (hd : addr < 65536) (ha : 1 ≤ a) (ha' : a ≤ 8) (h0 : 0 ≤ at_) (h1 : at_ < 8) :
    Calls Try.prog 23 #[.pointer (some ⟨pu, 0, none⟩), .int .i64 addr, .bool wr, .int .i64 at_] w fun e w' => e = .returned (.tuple #[.int .i64 (fT t.pg addr wr).f, .int .i64 (fT t.pg addr wr).p, .int .i64 (fT t.pg addr wr).e]) ∧ Sat g w' (unitP pu pm pl t.root a * (memP pm n M * (tlbP pl (fTlb n M L t.root a addr at_) * R))) :=
  s_find pu pm pl n t.root a M L addr wr at_ g w R h (by omega) ha' _ (fRes_tree ht hn hf addr hd wr at_ (by omega) h0 h1)

/-- Words outside the tables are set: the tables stay. -/
theorem TreeW.set {n : Nat} {M : Nat → Int} {t : Tree} (h : TreeW n M t) {f k : Nat} (hf : ¬ isTab t f) (hk : k < 16) (v : Int) : TreeW n (setW M (16 * f + k) v) t := h.congr fun f' hf' j hj => setW_ne _ _ (fun e => hf (by
  have : f' = f := by omega
  rw [← this]; exact hf'))
theorem TreeN.set {n : Nat} {M : Nat → Int} {t : Tree} (h : TreeN n M t) {f k : Nat} (hf : ¬ isTab t f) (hk : k < 16) (v : Int) : TreeN n (setW M (16 * f + k) v) t := ⟨h.w.set hf hk v, h.dn1, h.dn2⟩
theorem blk_self (f : Nat) : inB ((f : Int), (0 : Int)) f := by unfold inB; simp
theorem InvB.blk_ge {r n : Nat} {T : Nat → Prop} {H : List Blk} (h : InvB r n T H) {f : Nat} (hf : ((f : Int), (0 : Int)) ∈ H) : r ≤ f ∧ f < n := (h.cov f).2 (Or.inr ⟨_, hf, blk_self f⟩)
theorem InvB.T_ge {r n : Nat} {T : Nat → Prop} {H : List Blk} (h : InvB r n T H) {f : Nat} (hf : T f) : r ≤ f ∧ f < n := (h.cov f).2 (Or.inl hf)
theorem tab_ge {r n : Nat} {T : Nat → Prop} {H : List Blk} {t : Tree} (h : InvB r n T H) (hh : HeldT t H) {f : Nat} (hf : isTab t f) : r ≤ f := (h.blk_ge (hh f hf)).1
theorem low_free {r n : Nat} {T : Nat → Prop} {H : List Blk} {t : Tree} (h : InvB r n T H) (hh : HeldT t H) {f : Nat} (hf : f < r) : ¬ isTab t f ∧ ¬ T f := ⟨fun e => by have := tab_ge h hh e; omega, fun e => by have := (h.T_ge e).1; omega⟩

/-- A store in a frame that is reserved. -/
theorem SpSt.setM {g : World} {ps pm pb r0 n : Nat} {t : Tree} {T : Nat → Prop} {H : List Blk} {M : Nat → Int} {R R' : HP} {w w' : World} (h : SpSt g ps pm pb r0 n t T H M R w) {f k : Nat} (hf : f < r0) (hk : k < 16) (v : Int) (hs : Sat g w' (spP ps pm pb t.root * (midP pb pm T H * (memP pm n (setW M (16 * f + k) v) * R')))) : SpSt g ps pm pb r0 n t T H (setW M (16 * f + k) v) R' w' :=
  have hl := low_free h.inv h.held hf
  ⟨h.tree.set hl.1 hk v, h.inv, zero_set h.zero hl.2 hk v, h.held, h.n256, hs⟩
theorem SpSt.sets {g : World} {ps pm pb r0 n : Nat} {t : Tree} {T : Nat → Prop} {H : List Blk} {M : Nat → Int} {R R' : HP} {w w' : World} (h : SpSt g ps pm pb r0 n t T H M R w) (hs : Sat g w' (spP ps pm pb t.root * (midP pb pm T H * (memP pm n M * R')))) : SpSt g ps pm pb r0 n t T H M R' w' :=
  ⟨h.tree, h.inv, h.zero, h.held, h.n256, hs⟩
/-- A store by the unit, where pages are of reserved frames alone. -/
theorem SpSt.store {g : World} {ps pm pb r0 n : Nat} {t : Tree} {T : Nat → Prop} {H : List Blk} {M : Nat → Int} {R R' : HP} {w w' : World} (h : SpSt g ps pm pb r0 n t T H M R w) (hl : ∀ q x, t.pg q = some x → x.1 < r0) (addr : Nat) (v : Int) (hs : Sat g w' (spP ps pm pb t.root * (midP pb pm T H * (memP pm n (swT t.pg M addr v) * R')))) : SpSt g ps pm pb r0 n t T H (swT t.pg M addr v) R' w' := by
  unfold swT at hs ⊢
  cases e : t.pg (addr / 16) with
  | none => rw [e] at hs; exact h.sets hs
  | some x =>
    rw [e] at hs
    simp only at hs ⊢
    cases hx : x.2
    · rw [hx] at hs; exact h.sets hs
    · rw [hx] at hs
      simp only [if_true] at hs ⊢
      exact h.setM (hl _ _ e) (by omega) v hs

end Go.Proofs.Yteehghjdifbjbaa

namespace Go.Proofs.Yteehghjdifbjbaa
set_option linter.unusedSimpArgs false
set_option linter.unusedVariables false
set_option maxRecDepth 100000
open Go.RowKit
set_option maxHeartbeats 4000000

def emptyT (c : Nat) : Tree := ⟨c, fun _ => none, fun _ => none, fun _ => none⟩
theorem newsp_nil (w : World) : Calls Try.prog 31 #[.pointer none, .pointer none] w fun e w' => e = .returned (.tuple #[.pointer none, .int .i64 1]) ∧ w = w' := by
  go_enter Try.func31, Try.ntmps31
  go_wp2_with (fail)
  go_ret2
  exact ⟨rfl, rfl⟩
theorem range_all {n : Nat} (h : 1 ≤ n) : ¬ ∀ c, ¬ rangeT 0 n c := fun hc => hc 0 ⟨by omega, by omega⟩
/-! ### Trees of few pages -/
theorem t1_none {n : Nat} {M : Nat → Int} {t : Tree} (h : TreeN n M t) {i : Nat} (hp : ∀ p, p / 256 = i → t.pg p = none) : t.t1 i = none := by
  cases e : t.t1 i with
  | none => rfl
  | some f =>
    obtain ⟨j, hj, f2, h2⟩ := h.dn1 i f e
    obtain ⟨k, hk, x, hx⟩ := h.dn2 _ f2 h2
    rw [hp _ (by omega)] at hx; cases hx
theorem t2_none {n : Nat} {M : Nat → Int} {t : Tree} (h : TreeN n M t) {q : Nat} (hp : ∀ p, p / 16 = q → t.pg p = none) : t.t2 q = none := by
  cases e : t.t2 q with
  | none => rfl
  | some f =>
    obtain ⟨k, hk, x, hx⟩ := h.dn2 _ f e
    rw [hp _ (by omega)] at hx; cases hx
theorem eachL_nil {sel : Sel} {page : Nat} {ent : Nat → Option (Nat × Bool × Bool)} {sub : Nat → List Int} : ∀ k, (∀ j, j < k → ent j = none) → eachL sel page ent sub k = []
  | 0, _ => by simp [eachL]
  | k + 1, h => by
    rw [eachL_succ, eachL_nil k (fun j hj => h j (by omega))]
    unfold eachA; rw [h k (by omega)]; rfl
/-- One place alone has something. -/
theorem eachL_one {sel : Sel} {page : Nat} {ent : Nat → Option (Nat × Bool × Bool)} {sub : Nat → List Int} {i : Nat} : ∀ k, i < k → (∀ j, j < k → j ≠ i → ent j = none) → eachL sel page ent sub k = eachA sel page ent sub i
  | 0, h, _ => by omega
  | k + 1, h, hn => by
    rw [eachL_succ]
    by_cases e : i = k
    · subst e
      rw [eachL_nil i (fun j hj => hn j (by omega) (by omega))]; rfl
    · rw [eachL_one k (by omega) (fun j hj hne => hn j (by omega) hne)]
      have : eachA sel page ent sub k = [] := by unfold eachA; rw [hn k (by omega) (fun e' => e e'.symm)]
      rw [this, List.append_nil]
theorem tabs_none {n : Nat} {M : Nat → Int} {t : Tree} (h : TreeN n M t) (hp : ∀ p, t.pg p = none) : tabsL t = [(t.root : Int)] := by
  have : vis0 selTb t = [] := eachL_nil 16 (fun i _ => by unfold ent0; rw [t1_none h (fun p _ => hp p)]; rfl)
  unfold tabsL; rw [this]; exact List.perm_singleton.1 (sortI_perm _)
theorem tabs_one {n : Nat} {M : Nat → Int} {t : Tree} (h : TreeN n M t) {p0 : Nat} {x : Nat × Bool} (h0 : p0 < 4096) (hx : t.pg p0 = some x) (hp : ∀ p, p ≠ p0 → t.pg p = none) : ∃ f1 f2 : Nat, tabsL t = sortI [(t.root : Int), (f1 : Int), (f2 : Int)] := by
  obtain ⟨f2, e2⟩ := h.w.upp _ _ hx
  obtain ⟨f1, e1⟩ := h.w.up2 _ _ e2
  rw [show p0 / 16 / 16 = p0 / 256 by omega] at e1
  have v2 : vis2 selTb t (p0 / 16) = [] := by
    unfold vis2
    rw [eachL_one (i := p0 % 16) 16 (by omega) (fun k hk hne => by unfold ent2; rw [hp _ (by omega)]; rfl)]
    unfold eachA ent2
    rw [show p0 / 16 * 16 + p0 % 16 = p0 by omega, hx]; rfl
  have v2' : vis2 selTb t (p0 / 256 * 16 + p0 / 16 % 16) = [] := by rw [show p0 / 256 * 16 + p0 / 16 % 16 = p0 / 16 by omega]; exact v2
  have v1 : vis1 selTb t (p0 / 256) = [(f2 : Int)] := by
    unfold vis1
    rw [eachL_one (i := p0 / 16 % 16) 16 (by omega) (fun k hk hne => by unfold ent1; rw [t2_none h (fun p hq => hp p (by omega))]; rfl)]
    unfold eachA ent1
    rw [show p0 / 256 * 16 + p0 / 16 % 16 = p0 / 16 by omega, e2]
    simp [v2', selTb]
  have v0 : vis0 selTb t = [(f1 : Int), (f2 : Int)] := by
    unfold vis0
    rw [eachL_one (i := p0 / 256) 16 (by omega) (fun k hk hne => by unfold ent0; rw [t1_none h (fun p hq => hp p (by omega))]; rfl)]
    unfold eachA ent0
    rw [e1, show 0 * 16 + p0 / 256 = p0 / 256 by omega]
    simp [v1, selTb]
  exact ⟨f1, f2, by unfold tabsL; rw [v0]⟩

theorem sort_least {L : List Int} (h : 0 < (sortI L).length) (h0 : (0 : Int) ∈ L) (hn : ∀ x ∈ L, 0 ≤ x) : (sortI L)[0] = 0 := by
  have h1 := hn _ ((sortI_perm L).mem_iff.1 (List.getElem_mem h))
  obtain ⟨i, hi, e⟩ := List.mem_iff_getElem.1 ((sortI_perm L).mem_iff.2 h0)
  rcases Nat.eq_zero_or_pos i with rfl | hp
  · exact e
  · have := List.pairwise_iff_getElem.1 (sortI_rise L) 0 i h hi hp
    omega
theorem can8 (a o : Nat) (ho : o ≤ 8) : QCan (rangeT 0 8) a o ↔ (a = 0 ∧ o = 3) := by
  unfold QCan
  rw [full_range, full_range]
  have hh : o = 0 ∨ o = 1 ∨ o = 2 ∨ o = 3 ∨ o = 4 ∨ o = 5 ∨ o = 6 ∨ o = 7 ∨ o = 8 := by omega
  rcases hh with rfl | rfl | rfl | rfl | rfl | rfl | rfl | rfl | rfl <;> simp <;> omega
theorem next8 {c : Nat} (h : NextF (rangeT 0 8) c) : c = 0 := by
  obtain ⟨a, k, hk, hc, _, _, rfl⟩ := h
  obtain ⟨rfl, _⟩ := (can8 a k hk).1 hc
  simp
theorem SpSt.cnt_minus8 {c : Nat} (h : c = 0) : cnt (minusQ (rangeT 0 8) c 0) 256 = 7 := by
  subst h
  have h0 : cnt (rangeT 0 8) 256 = 8 := cnt_int 0 8 256 (by omega)
  have h1 := cnt_minus (T := rangeT 0 8) (a := 0) (o := 0) (k := 256) (full0.2 ⟨by omega, by omega⟩) (by omega)
  rw [Nat.pow_zero] at h1
  omega

end Go.Proofs.Yteehghjdifbjbaa

namespace Go.Proofs.Yteehghjdifbjbaa
set_option linter.unusedSimpArgs false
set_option linter.unusedVariables false
set_option maxRecDepth 100000
open Go.RowKit
set_option maxHeartbeats 4000000

theorem bool_eq (a b : Int) : (a == b) = true ∨ (a == b) = false := by cases (a == b) <;> simp
theorem drop1_any (l : Ln) (pa pp : Nat) (asid page : Int) (w : World) (hpa : pa < w.heap.size) (c0 : w.cell? ⟨pa, 0, none⟩ = some (.int .i64 asid)) (hpp : pp < w.heap.size) (c1 : w.cell? ⟨pp, 0, none⟩ = some (.int .i64 page)) :
    Calls Try.prog 74 #[lnV (some l), .pointer (some ⟨pa, 0, none⟩), .pointer (some ⟨pp, 0, none⟩)] w fun e w' => e = .returned (.bool (l.a == asid && l.p == page)) ∧ Below w.heap.size w w' := by
  have hne : ¬ pa = w.heap.size := by omega
  have hne2 : ¬ pp = w.heap.size := by omega
  have hd := bool_eq l.a asid
  unfold lnV
  rcases hd with ha | ha
  all_goals
    go_enter Try.func74, Try.ntmps74
    go_wp2_with (fail)
    go_ret
    exact ⟨by rw [ha]; first | rfl | simp, by repeat (first | with_reducible exact Below.refl _ _ | with_reducible assumption | with_reducible refine below_drewN ?_ _ | with_reducible refine Below.drew ?_ | with_reducible refine Below.setCell ?_ (by first | omega | (simp <;> omega)) _ | with_reducible refine Below.alloc ?_ (by first | omega | (simp <;> omega)) _)⟩

theorem drop_drop (pb : Nat) (lb : Nat → Nat) (L : Nat → Option Ln) (pa pp : Nat) (asid page : Int) (w : World) (h : TlbIn w pb lb L) (hpa : pa < w.heap.size) (hne : pa ≠ pb) (c0 : w.cell? ⟨pa, 0, none⟩ = some (.int .i64 asid)) (hpp : pp < w.heap.size) (hnp : pp ≠ pb) (c1 : w.cell? ⟨pp, 0, none⟩ = some (.int .i64 page)) :
    Calls Try.prog 50 #[.pointer (some ⟨pb, 0, none⟩), .func (.func 74) #[] #[.pointer (some ⟨pa, 0, none⟩), .pointer (some ⟨pp, 0, none⟩)]] w fun e w' => e = .returned (.int .i64 (dropN (fun l => l.a == asid && l.p == page) L 8)) ∧ TlbIn w' pb lb (dropL (fun l => l.a == asid && l.p == page) L 8) ∧ Touch (· = pb) w w' := by
  have q0 := h.ptr 0 (by omega)
  have q1 := h.ptr 1 (by omega)
  have q2 := h.ptr 2 (by omega)
  have q3 := h.ptr 3 (by omega)
  have q4 := h.ptr 4 (by omega)
  have q5 := h.ptr 5 (by omega)
  have q6 := h.ptr 6 (by omega)
  have q7 := h.ptr 7 (by omega)
  obtain ⟨Q, hQ⟩ : ∃ Q, Q = ptrOf lb L := ⟨_, rfl⟩
  rw [← hQ] at q0 q1 q2 q3 q4 q5 q6 q7
  have HQ := Lib.hid hQ
  clear hQ
  obtain ⟨T, hT⟩ : ∃ T : Ln → Bool, T = fun l => l.a == asid && l.p == page := ⟨_, rfl⟩
  rw [← hT]
  have HT := Lib.hid hT
  clear hT
  go_enter Try.func50, Try.ntmps50
  go_wp2_with (fail)
  go_loopw [5, 12] (fun n i wr => ∃ (k : Nat), k ≤ 8 ∧ i = .int .i64 k ∧ n = .int .i64 (dropN T L k) ∧ TlbIn wr pb lb (dropL T L k) ∧ Touch (· = pb) w wr) (fun _ i _ => 8 - (intOf i).toNat)
  case atStart => exact ⟨0, by omega, rfl, rfl, by rw [dropL_zero]; exact h, Touch.refl _ _⟩
  case round =>
    obtain ⟨k, hk, rfl, rfl, hin, ht⟩ := hrel
    have hc := keepT ht hpa hne c0
    have hpw := Nat.lt_of_lt_of_le hpa ht.size
    have hc2 := keepT ht hpp hnp c1
    have hpw2 := Nat.lt_of_lt_of_le hpp ht.size
    by_cases hlt : k < 8
    · have hix := ptr_at Q k hlt
      have hL : dropL T L k k = L k := by unfold dropL; rw [if_neg (by omega)]
      have hnn := dropN_le T L k
      cases hl : L k with
      | none =>
        have hqk : Q k = none := by rw [HQ.out]; unfold ptrOf; rw [hl]; rfl
        rw [hqk] at hix
        have hd := dropL_keep T L k (by rw [hl]; rfl)
        have hdn : dropN T L (k + 1) = dropN T L k := by simp [dropN, hl]
        have HD := Lib.hid hd
        have HN := Lib.hid hdn
        clear hqk hl hd hdn hL
        go_wp2_with (fail)
        go_roundw
        case rel => exact ⟨k + 1, by omega, by go_num, by rw [HN.out], by rw [HD.out]; exact hin, ht⟩
        case measure => simp [intOf]; omega
      | some l =>
        have hqk : Q k = some ⟨lb k, 0, none⟩ := by rw [HQ.out]; unfold ptrOf; rw [hl]; rfl
        rw [hqk] at hix
        obtain ⟨s1, s2, s3, s4, s5, s6, s7⟩ := hin.some_ k l hlt (hL.trans hl)
        have hfz := hin.free k hlt
        have hT' : T l = (l.a == asid && l.p == page) := by rw [HT.out]
        cases hb : T l
        · have hd := dropL_keep T L k (by rw [hl]; simpa using hb)
          have hdn : dropN T L (k + 1) = dropN T L k := by simp [dropN, hl, hb]
          have HD := Lib.hid hd
          have HN := Lib.hid hdn
          have HB : Hid ((l.a == asid && l.p == page) = false) := Lib.hid (hT'.symm.trans hb)
          clear hqk hl hd hdn hL hT' hb s1
          go_wp2_with (fail)
          refine (drop1_any l pa pp asid page _ hpw hc hpw2 hc2).mono ?_
          rintro e w1 ⟨rfl, hb1⟩
          rw [HB.out]
          go_wp2_with (fail)
          go_roundw
          case rel => exact ⟨k + 1, by omega, by go_num, by rw [HN.out], by rw [HD.out]; exact hin.below hb1, ht.trans (Touch.of_below hb1)⟩
          case measure => simp [intOf]; omega
        · have hd := dropL_drop T L k (by rw [hl]; simpa using hb)
          have hdn : dropN T L (k + 1) = dropN T L k + 1 := by simp [dropN, hl, hb]
          have HD := Lib.hid hd
          have HN := Lib.hid hdn
          have HB : Hid ((l.a == asid && l.p == page) = true) := Lib.hid (hT'.symm.trans hb)
          clear hqk hl hd hdn hL hT' hb
          go_wp2_with (fail)
          refine (drop1_any l pa pp asid page _ hpw hc hpw2 hc2).mono ?_
          rintro e w1 ⟨rfl, hb1⟩
          rw [HB.out]
          have hlt1 := hin.lt
          have g1 := keep hb1 hlt1 s1
          have f1 := keepF hb1 hlt1 hfz
          go_wp2_with (fail)
          go_roundw
          case rel => exact ⟨k + 1, by omega, by go_num, by rw [HN.out]; go_num, by rw [HD.out]; exact (hin.below hb1).drop k hlt, Touch.setCell (S := (· = pb)) (ht.trans (Touch.of_below hb1)) (Or.inl rfl) _⟩
          case measure => simp [intOf]; omega
    · obtain rfl : k = 8 := by omega
      go_wp2_with (fail)
      go_ret
      exact ⟨rfl, hin, ht⟩

theorem tlb_drop (pb : Nat) (lb : Nat → Nat) (L : Nat → Option Ln) (asid page : Int) (w : World) (h : TlbIn w pb lb L) :
    Calls Try.prog 40 #[.pointer (some ⟨pb, 0, none⟩), .int .i64 asid, .int .i64 page] w fun e w' => (∃ b : Bool, e = .returned (.bool b)) ∧ TlbIn w' pb lb (dropL (fun l => l.a == asid && l.p == page) L 8) ∧ Touch (· = pb) w w' := by
  have hlt := h.lt
  go_enter Try.func40, Try.ntmps40
  go_wp2_with (fail)
  refine (drop_drop pb lb L _ _ asid page _ (h.below (by repeat (first | with_reducible exact Below.refl _ _ | with_reducible assumption | with_reducible refine below_drewN ?_ _ | with_reducible refine Below.alloc ?_ (by simp <;> omega) _))) (by simp <;> omega) (by omega) (by simp [go_sem]) (by simp) (by simp; omega) (by simp [go_sem])).mono ?_
  rintro e w1 ⟨rfl, hin, ht⟩
  go_wp2_with (fail)
  go_ret
  exact ⟨⟨_, rfl⟩, hin, (Touch.alloc (Touch.alloc (Touch.refl _ _) _) _).trans ht⟩

end Go.Proofs.Yteehghjdifbjbaa

namespace Go.Proofs.Yteehghjdifbjbaa
set_option linter.unusedSimpArgs false
set_option linter.unusedVariables false
set_option maxRecDepth 100000
open Go.RowKit
set_option maxHeartbeats 4000000

theorem range_some {r n : Nat} (h : r < n) : ¬ ∀ c, ¬ rangeT r n c := fun hc => hc r ⟨by omega, by omega⟩
theorem s_space (g w : World) (R : HP) (h : Sat g w R) :
    Calls Try.prog 36 #[.int .i64 64] w fun e w' => ∃ pm pl ps pu pb c, e = .returned (.tuple #[.pointer (some ⟨pm, 0, none⟩), .pointer (some ⟨pl, 0, none⟩), .pointer (some ⟨ps, 0, none⟩), .pointer (some ⟨pu, 0, none⟩)]) ∧ NextF (rangeT 32 64) c ∧
      SpSt g ps pm pb 32 64 (emptyT c) (minusQ (rangeT 32 64) c 0) [((c : Int), (0 : Int))] (fun _ => 0) (tlbP pl L0 * (unitP pu pm pl c 1 * R)) w' := by
  go_enter Try.func36, Try.ntmps36
  go_wp2_with (fail)
  refine (s_memnew 64 g _ R h (by omega) (by omega)).mono ?_
  rintro e w1 ⟨pm, rfl, h1⟩
  go_wp2_with (fail)
  refine (s_budnew pm 64 32 (fun _ => 0) g _ _ h1 (by omega)).mono ?_
  rintro e w2 ⟨pb, rfl, h2⟩
  go_wp2_with (fail)
  refine (s_newT pm pb 32 64 (rangeT 32 64) [] (fun _ => 0) g _ R h2 (inv_new 32 64) (fun _ _ _ _ _ => rfl) (by omega)).mono ?_
  rintro e w3 (⟨_, hno, _⟩ | ⟨ps, c, rfl, hc, S3⟩)
  · exact absurd hno (range_some (by omega))
  replace S3 : SpSt g ps pm pb 32 64 (emptyT c) (minusQ (rangeT 32 64) c 0) [((c : Int), (0 : Int))] (fun _ => 0) R w3 := S3
  have hcl : c < 64 := S3.tree.w.lr
  have hub : useB 64 c 1 = true := by simp [useB, hasB]; omega
  have HC := Lib.hid hc
  have HU := Lib.hid hub
  clear hc hub
  go_wp2_with (fail)
  refine (s_tlbnew g _ _ S3.sat).mono ?_
  rintro e w4 ⟨pl, rfl, h4⟩
  go_wp2_with (fail)
  refine (s_mmunew pm pl g _ _ h4).mono ?_
  rintro e w5 ⟨pu, rfl, h5⟩
  have h6 : Sat g w5 (unitP pu pm pl 0 0 * (memP pm 64 (fun _ => 0) * (spP ps pm pb c * (midP pb pm (minusQ (rangeT 32 64) c 0) [((c : Int), (0 : Int))] * (tlbP pl L0 * R))))) := h5.perm (by unfold L0; show _ * (_ * (spP ps pm pb c * _)) = _; ac_rfl)
  have h6r := h6.perm (show _ = spP ps pm pb c * (unitP pu pm pl 0 0 * (memP pm 64 (fun _ => 0) * (midP pb pm (minusQ (rangeT 32 64) c 0) [((c : Int), (0 : Int))] * (tlbP pl L0 * R)))) by ac_rfl)
  have S3' := S3.tree
  have S3i := S3.inv
  have S3z := S3.zero
  have S3h := S3.held
  clear S3 h4 h5
  go_wp2_with (fail)
  refine (s_root ps pm pb c g _ _ h6r).mono ?_
  rintro e w6 ⟨rfl, rfl⟩
  go_wp2_with (fail)
  refine (s_use pu pm pl 64 0 0 c 1 (fun _ => 0) g _ _ h6).mono ?_
  rintro e w7 ⟨rfl, h7⟩
  rw [HU.out] at h7 ⊢
  simp only [if_true] at h7 ⊢
  clear h6 h6r
  go_wp2_with (fail)
  refine bodyPost_ret (v := .tuple #[.pointer (some ⟨pm, 0, none⟩), .pointer (some ⟨pl, 0, none⟩), .pointer (some ⟨ps, 0, none⟩), .pointer (some ⟨pu, 0, none⟩)]) (by simp [results, Try.results36, go_sem, *]) rfl ⟨pm, pl, ps, pu, pb, c, rfl, HC.out, ⟨S3', S3i, S3z, S3h, by omega, h7.perm (by show _ = spP ps pm pb c * _; ac_rfl)⟩⟩

/-! ### Zero of any frame -/
theorem least_of {p : Nat → Prop} : ∀ (k : Nat), p k → ∃ m, m ≤ k ∧ p m ∧ ∀ j, j < m → ¬ p j := by
  intro k
  induction k using Nat.strongRecOn with
  | ind k ih =>
    intro h
    by_cases e : ∃ j, j < k ∧ p j
    · obtain ⟨j, hj, hp⟩ := e
      obtain ⟨m, h1, h2, h3⟩ := ih j hj hp
      exact ⟨m, by omega, h2, h3⟩
    · exact ⟨k, Nat.le_refl _, h, fun j hj hp => e ⟨j, hj, hp⟩⟩
theorem eq16x (x : Nat → Int) (h : ∃ k, k < 16 ∧ x k ≠ 0) (w : World) : (Op.equalIn 10000 80 (.agg #[.int .u64 (x 0), .int .u64 (x 1), .int .u64 (x 2), .int .u64 (x 3), .int .u64 (x 4), .int .u64 (x 5), .int .u64 (x 6), .int .u64 (x 7), .int .u64 (x 8), .int .u64 (x 9), .int .u64 (x 10), .int .u64 (x 11), .int .u64 (x 12), .int .u64 (x 13), .int .u64 (x 14), .int .u64 (x 15)]) (.agg #[.int .u64 0, .int .u64 0, .int .u64 0, .int .u64 0, .int .u64 0, .int .u64 0, .int .u64 0, .int .u64 0, .int .u64 0, .int .u64 0, .int .u64 0, .int .u64 0, .int .u64 0, .int .u64 0, .int .u64 0, .int .u64 0])).run Try.prog w = .ok false w := by
  have u3 := Try.underlying49
  have a3 := Try.isAgg49
  have z3 := Try.sizeOf49
  obtain ⟨k, hk, hx, hmin⟩ : ∃ k, k < 16 ∧ x k ≠ 0 ∧ ∀ j, j < k → x j = 0 := by
    obtain ⟨k, hk, hx⟩ := h
    obtain ⟨m, h1, h2, h3⟩ := least_of (p := fun k => x k ≠ 0) k hx
    exact ⟨m, by omega, h2, fun j hj => Classical.not_not.1 (h3 j hj)⟩
  rw [show (10000 : Nat) = 9999 + 1 from rfl, Op.equalIn]
  simp only [Sem.run_bind, run_underlying Try.underlying80, Result.andThen_ok]
  simp only [Std.Legacy.Range.forIn_eq_forIn_range', Std.Legacy.Range.size, Nat.sub_zero, Nat.add_sub_cancel, Nat.div_one, List.range'_succ, List.range'_zero, List.forIn_cons, List.forIn_nil]
  have hh : k = 0 ∨ k = 1 ∨ k = 2 ∨ k = 3 ∨ k = 4 ∨ k = 5 ∨ k = 6 ∨ k = 7 ∨ k = 8 ∨ k = 9 ∨ k = 10 ∨ k = 11 ∨ k = 12 ∨ k = 13 ∨ k = 14 ∨ k = 15 := by omega
  rcases hh with h | h | h | h | h | h | h | h | h | h | h | h | h | h | h | h <;> subst h
  all_goals
    have hx' : (x _ == 0) = false := beq_eq_false_iff_ne.2 hx
    try have m0 := hmin 0 (by omega)
    try have m1 := hmin 1 (by omega)
    try have m2 := hmin 2 (by omega)
    try have m3 := hmin 3 (by omega)
    try have m4 := hmin 4 (by omega)
    try have m5 := hmin 5 (by omega)
    try have m6 := hmin 6 (by omega)
    try have m7 := hmin 7 (by omega)
    try have m8 := hmin 8 (by omega)
    try have m9 := hmin 9 (by omega)
    try have m10 := hmin 10 (by omega)
    try have m11 := hmin 11 (by omega)
    try have m12 := hmin 12 (by omega)
    try have m13 := hmin 13 (by omega)
    try have m14 := hmin 14 (by omega)
    clear hmin
    go_simp

theorem zero_no (pm bk n : Nat) (W : Nat → Int) (f : Nat) (w : World) (hm : MemIn w pm bk n W) (hf : f < n) (k : Nat) (hk : k < 16) (h0 : W (16 * f + k) ≠ 0) :
    Calls Try.prog 37 #[.pointer (some ⟨pm, 0, none⟩), .int .i64 f] w fun e w' => e = .returned (.bool false) ∧ w = w' := by
  have H := Lib.hid (has_yes pm bk n W f 1 w hm (by omega) (by omega) (by omega) (by omega))
  have hn := hm.n2
  have hp := hm.ptr
  have hff : (f : Int) < (n : Int) := by omega
  have hc : ∀ j, j < 16 → w.cell? ⟨bk, f * 16 + j, none⟩ = some (.int .u64 (W (16 * f + j))) := fun j hj => by rw [show f * 16 + j = 16 * f + j by omega]; exact hm.cell _ (by omega)
  have c0 : w.cell? ⟨bk, f * 16, none⟩ = some (.int .u64 (W (16 * f + 0))) := hc 0 (by omega)
  obtain ⟨x, hx⟩ : ∃ x : Nat → Int, x = fun j => W (16 * f + j) := ⟨_, rfl⟩
  have hxx : ∀ j, W (16 * f + j) = x j := fun j => by rw [hx]
  have h16 := eq16x x ⟨k, hk, by rw [hx]; exact h0⟩
  simp only [hxx] at hc c0
  have c1 := hc 1 (by omega); have c2 := hc 2 (by omega); have c3 := hc 3 (by omega)
  have c4 := hc 4 (by omega); have c5 := hc 5 (by omega); have c6 := hc 6 (by omega); have c7 := hc 7 (by omega)
  have c8 := hc 8 (by omega); have c9 := hc 9 (by omega); have c10 := hc 10 (by omega); have c11 := hc 11 (by omega)
  have c12 := hc 12 (by omega); have c13 := hc 13 (by omega); have c14 := hc 14 (by omega); have c15 := hc 15 (by omega)
  clear hc h0 hm hxx hx
  go_enter Try.func37, Try.ntmps37
  go_wp2_with (fail)
  refine H.out.mono ?_
  rintro e w' ⟨rfl, rfl⟩
  go_wp2_with (fail)
  go_ret
  exact ⟨rfl, rfl⟩

/-! ### Reserved frames -/
def LowPg (t : Tree) : Prop := ∀ q x, t.pg q = some x → x.1 < 32
theorem LowPg.upd {t t' : Tree} (h : LowPg t) {q : Nat} {x : Option (Nat × Bool)} (e : t'.pg = updF t.pg q x) (hx : ∀ y, x = some y → y.1 < 32) : LowPg t' := fun q' y hy => by
  rw [e] at hy
  by_cases h' : q' = q
  · rw [h', updF_same] at hy; exact hx y hy
  · rw [updF_ne _ _ h'] at hy; exact h q' y hy
theorem After.low {r0 n : Nat} {t t' : Tree} {T T' : Nat → Prop} {H H' : List Blk} {M M' : Nat → Int} (ha : After r0 n t T H M t' T' H' M') (hi : InvB r0 n T H) (hh : HeldT t H) {f k : Nat} (hf : f < r0) (hk : k < 16) : M' (16 * f + k) = M (16 * f + k) :=
  have hl := low_free hi hh hf
  ha.ap.words f hl.1 hl.2 k hk
/-- A Map: a number, and a space of which what stays true is true. -/
theorem s_map_int (g : World) (ps pm pb r0 n : Nat) (t : Tree) (T : Nat → Prop) (H : List Blk) (M : Nat → Int) (R : HP) (w : World) (p fr : Int) (bw : Bool) (h : SpSt g ps pm pb r0 n t T H M R w) :
    Calls Try.prog 34 #[.pointer (some ⟨ps, 0, none⟩), .int .i64 p, .int .i64 fr, .bool bw] w fun e w' => ∃ k : Int, e = .returned (.int .i64 k) ∧ ∃ t' T' H' M', SpSt g ps pm pb r0 n t' T' H' M' R w' := by
  refine (s_mapT g ps pm pb r0 n t T H M R w p fr bw h).mono fun e w' hp => ?_
  cases hp with
  | no k _ _ he hs => exact ⟨k, he, t, T, H, M, hs⟩
  | ok q f t' T' H' M' _ _ _ _ _ _ he hs => exact ⟨0, he, t', T', H', M', hs⟩

end Go.Proofs.Yteehghjdifbjbaa

namespace Go.Proofs.Yteehghjdifbjbaa
set_option linter.unusedSimpArgs false
set_option linter.unusedVariables false
set_option maxRecDepth 100000
open Go.RowKit
set_option maxHeartbeats 8000000

theorem ends5 {g w : World} {A B C D E F G : HP} (h : Sat g w (A * (B * (C * (D * (E * (F * (G * whole g)))))))) : Below g.heap.size g w :=
  Sat.ends (h.right.right.right.right.right.right.right.emp.perm (star_comm _ _))
theorem div16 (q k : Nat) (h : k < 16) : (16 * q + k) / 16 = q := by omega
theorem mod16 (q k : Nat) (h : k < 16) : (16 * q + k) % 16 = k := by omega

theorem alike11_walk (p0 p1 p2 a0 a1 x : Int) (w : World) (hx : 0 ≤ x) (hx' : x < 18446744073709551616) :
    Calls Try.prog 5 #[.agg #[.int .i64 p0, .int .i64 p1, .int .i64 p2], .agg #[.int .i64 a0, .int .i64 a1], .int .u64 x] w fun e w' => e = .returned (.bool true) ∧ Below w.heap.size w w' := by
  have S1 : Sat w ((w.alloc (.cells #[.int .i64 p0, .int .i64 p1, .int .i64 p2] 84)).alloc (.cells #[.int .i64 a0, .int .i64 a1] 85)) (pt (w.heap.size + 1) (.cells #[.int .i64 a0, .int .i64 a1] 85) * (pt w.heap.size (.cells #[.int .i64 p0, .int .i64 p1, .int .i64 p2] 84) * whole w)) := by
    have := ((Sat.start w).pt_new (.cells #[.int .i64 p0, .int .i64 p1, .int .i64 p2] 84)).pt_new (.cells #[.int .i64 a0, .int .i64 a1] 85)
    simpa using this
  go_enter Try.func5, Try.ntmps5
  go_wp2_with (fail)
  refine (s_awake w _ _ S1).mono ?_
  rintro e w2 ⟨rfl, S2⟩
  clear S1
  obtain ⟨B, hB⟩ : ∃ B, B = w.heap.size := ⟨_, rfl⟩
  rw [← hB] at S2 ⊢
  have hcl : ∀ w', Sat w w' (pt (B + 1) (.cells #[.int .i64 a0, .int .i64 a1] 85) * (pt B (.cells #[.int .i64 p0, .int .i64 p1, .int .i64 p2] 84) * whole w)) → (w'.cell? ⟨B + 1, 0, none⟩ = some (.int .i64 a0) ∧ w'.cell? ⟨B + 1, 1, none⟩ = some (.int .i64 a1)) ∧ w'.cell? ⟨B, 0, none⟩ = some (.int .i64 p0) ∧ w'.cell? ⟨B, 1, none⟩ = some (.int .i64 p1) ∧ w'.cell? ⟨B, 2, none⟩ = some (.int .i64 p2) := fun w' h => by
    have e1 := h.pt_heap
    have e2 := h.right.pt_heap
    refine ⟨⟨?_, ?_⟩, ?_, ?_, ?_⟩ <;> simp [World.cell?, e1, e2]
  have HCL := Lib.hid hcl
  clear hcl
  obtain ⟨RR, hRR⟩ : ∃ RR : HP, RR = pt (B + 1) (.cells #[.int .i64 a0, .int .i64 a1] 85) * (pt B (.cells #[.int .i64 p0, .int .i64 p1, .int .i64 p2] 84) * whole w) := ⟨_, rfl⟩
  rw [← hRR] at S2 HCL
  have hend : ∀ w', Sat w w' RR → Below w.heap.size w w' := fun w' h => by
    rw [hRR] at h
    exact Sat.ends (h.right.right.emp.perm (star_comm _ _))
  have HEND := Lib.hid hend
  clear hend hRR hB
  obtain ⟨⟨c0, c1⟩, -, -, -⟩ := HCL.out _ S2
  go_wp2_with (fail)
  clear c0 c1
  refine (s_space w _ _ S2).mono ?_
  rintro e w3 ⟨pm, pl, ps, pu, pb, c, rfl, -, S3⟩
  clear S2
  by_cases hg : ((0 ≤ a0 ∧ a0 ≤ 30) ∧ 0 ≤ a1) ∧ a1 ≤ 15
  case neg =>
    have HB := Lib.hid (HEND.out _ S3.sat.right.right.right.right.right)
    have hh : a0 < 0 ∨ (0 ≤ a0 ∧ 30 < a0) ∨ ((0 ≤ a0 ∧ a0 ≤ 30) ∧ a1 < 0) ∨ ((0 ≤ a0 ∧ a0 ≤ 30) ∧ 0 ≤ a1 ∧ 15 < a1) := by omega
    clear hg S3
    rcases hh with h | ⟨h1, h2⟩ | ⟨⟨h1, h2⟩, h3⟩ | ⟨⟨h1, h2⟩, h3, h4⟩
    all_goals
      go_wp2_with (fail)
      go_ret
      exact ⟨rfl, HB.out⟩
  case pos =>
    obtain ⟨⟨⟨g1, g2⟩, g3⟩, g4⟩ := hg
    obtain ⟨fr, rfl⟩ := Int.eq_ofNat_of_zero_le g1
    obtain ⟨pk, rfl⟩ := Int.eq_ofNat_of_zero_le g3
    obtain ⟨-, c2, -, -⟩ := HCL.out _ S3.sat.right.right.right.right.right
    have hz0 : ∀ f k, f < 32 → k < 16 → (fun _ : Nat => (0 : Int)) (16 * f + k) = 0 := fun _ _ _ _ => rfl
    have hlow0 : LowPg (emptyT c) := fun q y h => by cases h
    go_wp2_with (fail)
    clear c2
    refine (s_mapT w ps pm pb 32 64 _ _ _ _ _ w3 p0 fr true S3).mono ?_
    intro e w4 hp
    cases hp with
    | no k hk hbad he hs =>
      subst he
      have hk' : (k != 0) = true := by simpa using hk
      obtain ⟨-, -, c3, -⟩ := HCL.out _ hs.sat.right.right.right.right.right
      clear hbad S3 hk
      go_wp2_with (fail)
      clear c3
      refine (s_map_int w ps pm pb 32 64 _ _ _ _ _ w4 p1 fr false hs).mono ?_
      rintro e w5 ⟨k1, rfl, t1, T1, H1, M1, S5⟩
      obtain ⟨-, -, -, c4⟩ := HCL.out _ S5.sat.right.right.right.right.right
      have hwr : IntKind.i64.wrap ((fr : Int) + 1) = (fr : Int) + 1 := IntWalk.i64_in _ ⟨by omega, by omega⟩
      clear hs
      go_wp2_with (fail)
      clear c4
      refine (s_map_int w ps pm pb 32 64 _ _ _ _ _ w5 p2 _ false S5).mono ?_
      rintro e w6 ⟨k2, rfl, t2, T2, H2, M2, S6⟩
      have HB := Lib.hid (HEND.out _ S6.sat.right.right.right.right.right)
      clear S5 S6
      go_wp2_with (fail)
      go_ret
      exact ⟨rfl, HB.out⟩
    | ok q0 f0 t1 T1 H1 M1 hp0 hf0 hq0 hx0 ha0 hpg0 he S4 =>
      subst he
      have hff : f0 = fr := by omega
      subst hff
      subst hp0
      have hz1 : ∀ f k, f < 32 → k < 16 → M1 (16 * f + k) = 0 := fun f k hf hk => (ha0.low S3.inv S3.held hf hk).trans rfl
      have hlow1 : LowPg t1 := hlow0.upd hpg0 (fun y hy => by cases hy; show f0 < 32; omega)
      have hr1 : t1.root = c := ha0.root
      obtain ⟨-, -, c3, -⟩ := HCL.out _ S4.sat.right.right.right.right.right
      clear S3 ha0 hf0 hlow0 hz0
      have HX := Lib.hid (And.intro hx0 (And.intro hpg0 (And.intro hz1 (And.intro hlow1 hr1))))
      clear hx0 hpg0 hz1 hlow1 hr1
      go_wp2_with (fail)
      clear c3
      refine (s_mapT w ps pm pb 32 64 _ _ _ _ _ w4 p1 f0 false S4).mono ?_
      intro e w5 hp
      cases hp with
      | no k hk hbad he hs =>
        subst he
        have hk' : (k != 0) = true := by simpa using hk
        obtain ⟨-, -, -, c4⟩ := HCL.out _ hs.sat.right.right.right.right.right
        have hwr : IntKind.i64.wrap ((f0 : Int) + 1) = (f0 : Int) + 1 := IntWalk.i64_in _ ⟨by omega, by omega⟩
        clear hbad S4 hk
        go_wp2_with (fail)
        clear c4
        refine (s_map_int w ps pm pb 32 64 _ _ _ _ _ w5 p2 _ false hs).mono ?_
        rintro e w6 ⟨k2, rfl, t2, T2, H2, M2, S6⟩
        have HB := Lib.hid (HEND.out _ S6.sat.right.right.right.right.right)
        clear hs S6
        go_wp2_with (fail)
        go_ret
        exact ⟨rfl, HB.out⟩
      | ok q1 f1 t2 T2 H2 M2 hp1 hf1 hq1 hx1 ha1 hpg1 he S5 =>
        subst he
        have hff : f1 = f0 := by omega
        subst hff
        subst hp1
        obtain ⟨hx0, hpg0, hz1, hlow1, hr1⟩ := HX.out
        have hz2 : ∀ f k, f < 32 → k < 16 → M2 (16 * f + k) = 0 := fun f k hf hk => (ha1.low S4.inv S4.held hf hk).trans (hz1 f k hf hk)
        have hlow2 : LowPg t2 := hlow1.upd hpg1 (fun y hy => by cases hy; show f1 < 32; omega)
        have hr2 : t2.root = c := ha1.root.trans hr1
        have hne1 : q1 ≠ q0 := fun e => by rw [e, hpg0, updF_same] at hx1; cases hx1
        have hg0 : t2.pg q0 = some (f1, true) := by rw [hpg1, updF_ne _ _ (Ne.symm hne1), hpg0, updF_same]
        have hg1 : t2.pg q1 = some (f1, false) := by rw [hpg1, updF_same]
        obtain ⟨-, -, -, c4⟩ := HCL.out _ S5.sat.right.right.right.right.right
        have hwr : IntKind.i64.wrap ((f1 : Int) + 1) = (f1 : Int) + 1 := IntWalk.i64_in _ ⟨by omega, by omega⟩
        clear S4 ha1 hf1 hx1 hpg1 hx0 hpg0 hz1 hlow1 hr1 HX
        have HX := Lib.hid (And.intro hg0 (And.intro hg1 (And.intro hz2 (And.intro hlow2 hr2))))
        clear hg0 hg1 hz2 hlow2 hr2 hne1
        go_wp2_with (fail)
        clear c4
        refine (s_mapT w ps pm pb 32 64 _ _ _ _ _ w5 p2 _ false S5).mono ?_
        intro e w6 hp
        cases hp with
        | no k hk hbad he hs =>
          subst he
          have hk' : (k != 0) = true := by simpa using hk
          have HB := Lib.hid (HEND.out _ hs.sat.right.right.right.right.right)
          clear hs hbad S5 hk
          go_wp2_with (fail)
          go_ret
          exact ⟨rfl, HB.out⟩
        | ok q2 f2 t3 T3 H3 M3 hp2 hf2 hq2 hx2 ha2 hpg2 he S6 =>
          subst he
          have hff : f2 = f1 + 1 := by omega
          subst hff
          subst hp2
          obtain ⟨hg0', hg1', hz2, hlow2, hr2⟩ := HX.out
          have hn0 : q2 ≠ q0 := fun e => by rw [e, hg0'] at hx2; cases hx2
          have hn1 : q2 ≠ q1 := fun e => by rw [e, hg1'] at hx2; cases hx2
          have hg0 : t3.pg q0 = some (f1, true) := by rw [hpg2, updF_ne _ _ (Ne.symm hn0)]; exact hg0'
          have hg1 : t3.pg q1 = some (f1, false) := by rw [hpg2, updF_ne _ _ (Ne.symm hn1)]; exact hg1'
          have hg2 : t3.pg q2 = some (f1 + 1, false) := by rw [hpg2, updF_same]
          have hz3 : ∀ f k, f < 32 → k < 16 → M3 (16 * f + k) = 0 := fun f k hf hk => (ha2.low S5.inv S5.held hf hk).trans (hz2 f k hf hk)
          have hlow3 : LowPg t3 := hlow2.upd hpg2 (fun y hy => by cases hy; show f1 + 1 < 32; omega)
          have hr3 : t3.root = c := ha2.root.trans hr2
          have hpk : pk < 16 := by omega
          have hf32 : f1 < 32 := by omega
          have htw := S6.tree.w
          have hnt := (low_free S6.inv S6.held hf32).1
          -- what the calls tell
          have e0 : seT t3.pg (16 * q0 + pk) = 0 := by unfold seT; rw [div16 _ _ hpk, hg0]; rfl
          have m1 : swT t3.pg M3 (16 * q0 + pk) x = setW M3 (16 * f1 + pk) x := by unfold swT; rw [div16 _ _ hpk, mod16 _ _ hpk, hg0]; rfl
          have htw' : TreeW 64 (setW M3 (16 * f1 + pk) x) t3 := htw.set hnt hpk x
          have e1 : lxT t3.pg (setW M3 (16 * f1 + pk) x) (16 * q1 + pk) = x ∧ leT t3.pg (16 * q1 + pk) = 0 := by
            unfold lxT leT; rw [div16 _ _ hpk, mod16 _ _ hpk, hg1]; exact ⟨setW_same _ _ _, rfl⟩
          have e2 : lxT t3.pg (setW M3 (16 * f1 + pk) x) (16 * q2 + pk) = 0 ∧ leT t3.pg (16 * q2 + pk) = 0 := by
            unfold lxT leT; rw [div16 _ _ hpk, mod16 _ _ hpk, hg2]
            exact ⟨(setW_ne _ _ (by show 16 * (f1 + 1) + pk ≠ 16 * f1 + pk; omega)).trans (hz3 (f1 + 1) pk (by omega) hpk), rfl⟩
          have e3 : seT t3.pg (16 * q1 + pk) = 9 := by unfold seT; rw [div16 _ _ hpk, hg1]; rfl
          have m3 : ∀ M v, swT t3.pg M (16 * q1 + pk) v = M := fun M v => by unfold swT; rw [div16 _ _ hpk, hg1]; rfl
          have S7 : Sat w w6 (unitP pu pm pl t3.root 1 * (memP pm 64 M3 * (tlbP pl L0 * (spP ps pm pb t3.root * (midP pb pm T3 H3 * RR))))) := S6.sat.perm (by rw [hr3]; ac_rfl)
          have wr0 : IntKind.i64.wrap (16 * (q0 : Int)) = 16 * (q0 : Int) := IntWalk.i64_in _ ⟨by omega, by omega⟩
          have wr0' : IntKind.i64.wrap (16 * (q0 : Int) + (pk : Int)) = ((16 * q0 + pk : Nat) : Int) := (IntWalk.i64_in _ ⟨by omega, by omega⟩).trans (by omega)
          have wr1 : IntKind.i64.wrap (16 * (q1 : Int)) = 16 * (q1 : Int) := IntWalk.i64_in _ ⟨by omega, by omega⟩
          have wr1' : IntKind.i64.wrap (16 * (q1 : Int) + (pk : Int)) = ((16 * q1 + pk : Nat) : Int) := (IntWalk.i64_in _ ⟨by omega, by omega⟩).trans (by omega)
          have wr2 : IntKind.i64.wrap (16 * (q2 : Int)) = 16 * (q2 : Int) := IntWalk.i64_in _ ⟨by omega, by omega⟩
          have wr2' : IntKind.i64.wrap (16 * (q2 : Int) + (pk : Int)) = ((16 * q2 + pk : Nat) : Int) := (IntWalk.i64_in _ ⟨by omega, by omega⟩).trans (by omega)
          have F0 : FitL L0 1 t3.pg := FitL.none _ _
          have hc0 : ((16 * q0 + pk : Nat) : Int) = 16 * (q0 : Int) + (pk : Int) := by omega
          have hc1 : ((16 * q1 + pk : Nat) : Int) = 16 * (q1 : Int) + (pk : Int) := by omega
          have hc2 : ((16 * q2 + pk : Nat) : Int) = 16 * (q2 : Int) + (pk : Int) := by omega
          have HC := Lib.hid (And.intro hc0 (And.intro hc1 hc2))
          clear hc0 hc1 hc2
          obtain ⟨⟨-, -⟩, c5, c6, c7⟩ := HCL.out _ S7.right.right.right.right.right
          have HE := Lib.hid (And.intro e0 (And.intro e1 (And.intro e2 e3)))
          have HM := Lib.hid (And.intro m1 m3)
          have HZ := Lib.hid hz3
          clear HX hg0' hg1' hz2 hlow2 hr2 hx2 ha2 hpg2 hf2 S5 S6 hn0 hn1 e0 m1 e1 e2 e3 m3 hz3 hlow3
          go_wp2_with (fail)
          have hst := s_storeT pu pm pl 64 t3 1 M3 L0 (16 * q0 + pk) x 0 w w6 _ S7 htw (by omega) F0 (by omega) (by omega) (by omega) (by omega) (by omega) hx hx'
          rw [HE.out.1, HM.out.1] at hst
          have F1 := fTlb_fit (b := 1) (pg := t3.pg) htw (by omega) F0 (16 * q0 + pk) (by omega) 0 F0 (fun _ => rfl)
          generalize fTlb 64 M3 L0 t3.root 1 ((16 * q0 + pk : Nat) : Int) 0 = L1 at hst F1
          rw [HC.out.1] at hst
          with_reducible refine hst.mono ?_
          rintro e w7 ⟨rfl, S8⟩
          obtain ⟨⟨-, -⟩, -, c6, c7⟩ := HCL.out _ S8.right.right.right.right.right
          clear hst S7 c5
          go_wp2_with (fail)
          have hld := s_loadT pu pm pl 64 t3 1 _ L1 (16 * q1 + pk) 1 w w7 _ S8 htw' (by omega) F1 (by omega) (by omega) (by omega) (by omega) (by omega)
          rw [HE.out.2.1.1, HE.out.2.1.2] at hld
          have F2 := fTlb_fit (b := 1) (pg := t3.pg) htw' (by omega) F1 (16 * q1 + pk) (by omega) 1 F1 (fun _ => rfl)
          generalize fTlb 64 (setW M3 (16 * f1 + pk) x) L1 t3.root 1 ((16 * q1 + pk : Nat) : Int) 1 = L2 at hld F2
          rw [HC.out.2.1] at hld
          with_reducible refine hld.mono ?_
          rintro e w8 ⟨rfl, S9⟩
          obtain ⟨⟨-, -⟩, -, c6, c7⟩ := HCL.out _ S9.right.right.right.right.right
          clear hld S8
          go_wp2_with (fail)
          have hld := s_loadT pu pm pl 64 t3 1 _ L2 (16 * q2 + pk) 2 w w8 _ S9 htw' (by omega) F2 (by omega) (by omega) (by omega) (by omega) (by omega)
          rw [HE.out.2.2.1.1, HE.out.2.2.1.2] at hld
          have F3 := fTlb_fit (b := 1) (pg := t3.pg) htw' (by omega) F2 (16 * q2 + pk) (by omega) 2 F2 (fun _ => rfl)
          generalize fTlb 64 (setW M3 (16 * f1 + pk) x) L2 t3.root 1 ((16 * q2 + pk : Nat) : Int) 2 = L3 at hld F3
          rw [HC.out.2.2] at hld
          with_reducible refine hld.mono ?_
          rintro e w9 ⟨rfl, S10⟩
          obtain ⟨⟨-, -⟩, -, c6, -⟩ := HCL.out _ S10.right.right.right.right.right
          obtain ⟨x1, hx1⟩ : ∃ x1, IntKind.u64.wrap (x + 1) = x1 := ⟨_, rfl⟩
          have hxb : 0 ≤ x1 ∧ x1 < 18446744073709551616 := by
            rw [← hx1, IntKind.wrap_u64]; omega
          clear hld S9 c7
          go_wp2_with (fail)
          have hst := s_storeT pu pm pl 64 t3 1 _ L3 (16 * q1 + pk) x1 3 w w9 _ S10 htw' (by omega) F3 (by omega) (by omega) (by omega) (by omega) (by omega) hxb.1 hxb.2
          rw [HE.out.2.2.2, HM.out.2] at hst
          generalize fTlb 64 (setW M3 (16 * f1 + pk) x) L3 t3.root 1 ((16 * q1 + pk : Nat) : Int) 3 = L4 at hst
          rw [HC.out.2.1] at hst
          with_reducible refine hst.mono ?_
          rintro e w10 ⟨rfl, S11⟩
          obtain ⟨bk, hm, _, _⟩ := S11.right.mem
          clear hst S10 c6
          by_cases hx0 : x = 0
          · have hz := zero_yes pm bk 64 _ f1 w10 hm (by omega) (fun i h1 h2 => by
              by_cases e : i = 16 * f1 + pk
              · rw [e, setW_same]; exact hx0
              · rw [setW_ne _ _ e, show i = 16 * f1 + (i - 16 * f1) by omega]; exact HZ.out f1 _ hf32 (by omega))
            have HZZ := Lib.hid hz
            have HB := Lib.hid (HEND.out _ S11.right.right.right.right.right)
            have gx : (x != 0) = false := by simp [hx0]
            clear hz hm S11 hx0
            go_wp2_with (fail)
            refine HZZ.out.mono ?_
            rintro e w11 ⟨rfl, rfl⟩
            go_wp2_with (fail)
            go_ret
            exact ⟨rfl, HB.out⟩
          · have hz := zero_no pm bk 64 _ f1 w10 hm (by omega) pk hpk (by rw [setW_same]; exact hx0)
            have HZZ := Lib.hid hz
            have HB := Lib.hid (HEND.out _ S11.right.right.right.right.right)
            have gx : (x != 0) = true := by simp [hx0]
            clear hz hm S11 hx0
            go_wp2_with (fail)
            refine HZZ.out.mono ?_
            rintro e w11 ⟨rfl, rfl⟩
            go_wp2_with (fail)
            go_ret
            exact ⟨rfl, HB.out⟩

end Go.Proofs.Yteehghjdifbjbaa

namespace Go.Proofs.Yteehghjdifbjbaa
set_option linter.unusedSimpArgs false
set_option linter.unusedVariables false
set_option maxRecDepth 100000
open Go.ChangeShapes Go.WideShapes Go.ChangeAt Go.RowKit Go.Deep

variable {H : Type} {enc : TypeId × Value → H} {w : World} {base : Nat} {spare : Nat → Bool} {held : Bool}
theorem op_int {t : TypeId} {k : IntKind} (hu : Try.prog.underlying t = some (.int k)) {n : Nat} {c : Value} {r : DataW H × List MemPlace} (h : DataW.trod enc Try.prog w base spare held n t [c] = some r) :
    ∃ x, c = .int k x ∧ k.min ≤ x ∧ x ≤ k.max := by
  cases n with
  | zero => simp [DataW.trod] at h
  | succ n =>
    cases c <;> simp [DataW.trod, hu, Lit.wf] at h
    obtain ⟨⟨rfl, h1, h2⟩, _⟩ := h
    exact ⟨_, rfl, h1, h2⟩
theorem op_bool {t : TypeId} (hu : Try.prog.underlying t = some .bool) {n : Nat} {c : Value} {r : DataW H × List MemPlace} (h : DataW.trod enc Try.prog w base spare held n t [c] = some r) :
    ∃ x, c = .bool x := by
  cases n with
  | zero => simp [DataW.trod] at h
  | succ n =>
    cases c <;> simp [DataW.trod, hu] at h
    exact ⟨_, rfl⟩
theorem op_slice {t e : TypeId} (hu : Try.prog.underlying t = some (.slice e)) {n : Nat} {c : Value} {r : DataW H × List MemPlace} (h : DataW.trod enc Try.prog w base spare held n t [c] = some r) :
    ∃ a len cap, c = .slice a len cap := by
  rcases open_slice hu h with ⟨h1, _⟩ | ⟨ad, len', cap', m, n, D, Pl, h1, _⟩
  · simp at h1; exact ⟨_, _, _, h1⟩
  · simp at h1; exact ⟨_, _, _, h1⟩

theorem op_off (b off i : Nat) : (⟨b, off, none⟩ : Addr).add i = ⟨b, off + i, none⟩ := by
  unfold Addr.add; split
  · subst_vars; rfl
  · rfl

/-- A slice's elements: nothing, or what lies at an address. -/
def RowAt (w : World) (a : Option Addr) (len s : Nat) (P : Nat → List Value → Prop) : Prop :=
  len = 0 ∨ ∃ b off, a = some ⟨b, off, none⟩ ∧ b < w.heap.size ∧ ∀ i, i < len → ∃ cs, P i cs ∧ cs.length = s ∧ ∀ k, k < s → w.cell? ⟨b, off + i * s + k, none⟩ = cs[k]?

theorem row_open {T E : TypeId} {s : Nat} (hu : Try.prog.underlying T = some (.slice E)) (hs : Try.prog.cellsOf E = s) (h0 : 0 < s) {P : List Value → Prop}
    (hP : ∀ n cs r, DataW.trod enc Try.prog w base spare held n E cs = some r → P cs) {fuel : Nat} {a : Option Addr} {len cap : Nat} {r : DataW H × List MemPlace}
    (h : DataW.trod enc Try.prog w base spare held fuel T [.slice a len cap] = some r) : len ≤ cap ∧ cap ≤ maxLen ∧ RowAt w a len s (fun _ => P) := by
  rcases open_slice hu h with ⟨h1, _⟩ | ⟨ad, len', cap', m, n, D, Pl, h1, _, hl, hm, hmm, _, hel⟩
  · simp at h1
    obtain ⟨rfl, rfl, rfl⟩ := h1
    exact ⟨by omega, by unfold maxLen; omega, Or.inl rfl⟩
  · simp at h1
    obtain ⟨rfl, rfl, rfl⟩ := h1
    have hle : len ≤ m := by rw [hmm]; split <;> omega
    refine ⟨hl, hm, ?_⟩
    rw [hs] at hel
    by_cases hz : len = 0
    · exact Or.inl hz
    · obtain ⟨b, off, spot⟩ := ad
      have hspot : spot = none := by
        obtain ⟨cs, hc, _⟩ := hel 0 (by omega)
        obtain ⟨_, hlen, hcell⟩ := World.cells?_some hc
        have h1 := hcell 0 (by omega)
        rw [List.getElem?_eq_getElem (by omega)] at h1
        simpa [Addr.add] using World.cell?_spot h1
      subst hspot
      have hb : b < w.heap.size := by
        obtain ⟨cs, hc, _⟩ := hel 0 (by omega)
        have := World.cells?_block hc (by omega)
        simpa [op_off] using this
      refine Or.inr ⟨b, off, rfl, hb, fun i hi => ?_⟩
      obtain ⟨cs, hc, ht⟩ := hel i (by omega)
      obtain ⟨_, hlen, hcell⟩ := World.cells?_some hc
      refine ⟨cs, hP _ _ _ ht, hlen, fun k hk => ?_⟩
      have := hcell k hk
      simpa only [op_off] using this

/-- One number an element. -/
theorem ints_open {T E : TypeId} {k : IntKind} (hu : Try.prog.underlying T = some (.slice E)) (hE : Try.prog.underlying E = some (.int k)) (hs : Try.prog.cellsOf E = 1) {fuel : Nat} {a : Option Addr} {len cap : Nat} {r : DataW H × List MemPlace}
    (h : DataW.trod enc Try.prog w base spare held fuel T [.slice a len cap] = some r) : len ≤ cap ∧ cap ≤ maxLen ∧ ∃ V : Nat → Int, (∀ i, i < len → k.min ≤ V i ∧ V i ≤ k.max) ∧
      (len = 0 ∨ ∃ b off, a = some ⟨b, off, none⟩ ∧ b < w.heap.size ∧ ∀ i, i < len → w.cell? ⟨b, off + i, none⟩ = some (.int k (V i))) := by
  obtain ⟨h1, h2, h3⟩ := row_open (P := fun cs => ∃ x, cs = [.int k x] ∧ k.min ≤ x ∧ x ≤ k.max) hu hs (by omega) (fun n cs r ht => by
    cases n with
    | zero => simp [DataW.trod] at ht
    | succ n =>
      match cs, ht with
      | [c], ht => obtain ⟨x, rfl, hx⟩ := op_int hE ht; exact ⟨x, rfl, hx⟩
      | [], ht => simp [DataW.trod, hE] at ht
      | _ :: _ :: _, ht => simp [DataW.trod, hE] at ht) h
  refine ⟨h1, h2, ?_⟩
  rcases h3 with h0 | ⟨b, off, rfl, hb, hel⟩
  · exact ⟨fun _ => 0, fun i hi => by omega, Or.inl h0⟩
  · have hall : ∀ i, ∃ x : Int, i < len → (w.cell? ⟨b, off + i, none⟩ = some (.int k x) ∧ k.min ≤ x ∧ x ≤ k.max) := by
      intro i
      by_cases hi : i < len
      · obtain ⟨cs, ⟨x, rfl, hx⟩, _, hc⟩ := hel i hi
        exact ⟨x, fun _ => ⟨by simpa using hc 0 (by omega), hx⟩⟩
      · exact ⟨0, fun h => absurd h hi⟩
    obtain ⟨V, hV⟩ := Classical.skolem.1 hall
    exact ⟨V, fun i hi => (hV i hi).2, Or.inr ⟨b, off, rfl, hb, fun i hi => (hV i hi).1⟩⟩

end Go.Proofs.Yteehghjdifbjbaa

namespace Go.Proofs.Yteehghjdifbjbaa
set_option linter.unusedSimpArgs false
set_option linter.unusedVariables false
set_option maxRecDepth 100000
open Go.RowKit
set_option maxHeartbeats 1000000

/-- A call: what is done; address, line, frame, place; a word; an entry. -/
structure Op11 where
  d : Int
  addr : Int
  at_ : Int
  fr : Int
  pl : Int
  x : Int
  ev : Bool
  ew : Bool
  et : Bool
  ef : Int
structure OpAt (w : World) (b off : Nat) (o : Op11) : Prop where
  c0 : w.cell? ⟨b, off, none⟩ = some (.int .i64 o.d)
  c1 : w.cell? ⟨b, off + 1, none⟩ = some (.int .i64 o.addr)
  c2 : w.cell? ⟨b, off + 2, none⟩ = some (.int .i64 o.at_)
  c3 : w.cell? ⟨b, off + 3, none⟩ = some (.int .i64 o.fr)
  c4 : w.cell? ⟨b, off + 4, none⟩ = some (.int .i64 o.pl)
  c5 : w.cell? ⟨b, off + 5, none⟩ = some (.int .u64 o.x)
  c6 : w.cell? ⟨b, off + 6, none⟩ = some (.bool o.ev)
  c7 : w.cell? ⟨b, off + 7, none⟩ = some (.bool o.ew)
  c8 : w.cell? ⟨b, off + 8, none⟩ = some (.bool o.et)
  c9 : w.cell? ⟨b, off + 9, none⟩ = some (.int .i64 o.ef)
theorem OpAt.heap {w w' : World} {b off : Nat} {o : Op11} (h : OpAt w b off o) (e : w'.heap[b]? = w.heap[b]?) : OpAt w' b off o :=
  ⟨(cell_of_heap e _).trans h.c0, (cell_of_heap e _).trans h.c1, (cell_of_heap e _).trans h.c2, (cell_of_heap e _).trans h.c3, (cell_of_heap e _).trans h.c4, (cell_of_heap e _).trans h.c5, (cell_of_heap e _).trans h.c6, (cell_of_heap e _).trans h.c7, (cell_of_heap e _).trans h.c8, (cell_of_heap e _).trans h.c9⟩
def opP (b : Nat) (o : Op11) : HP := ownP (fun k => k = b) (fun w => OpAt w b 0 o)
theorem loc_op (b : Nat) (o : Op11) : Loc (fun k => k = b) (fun w => OpAt w b 0 o) := fun _ _ h e => h.heap (e b rfl)
def Ops11 (w : World) (a : Option Addr) (len : Nat) (L : Nat → Op11) : Prop := len = 0 ∨ ∃ b off, a = some ⟨b, off, none⟩ ∧ b < w.heap.size ∧ ∀ i, i < len → OpAt w b (off + i * 10) (L i)
theorem Sat.inv1 {g w : World} {S : Nat → Prop} {I : World → Prop} (h : Sat g w (ownP S I)) : I w := (h.emp.perm (star_comm _ _)).inv
theorem op_new (w : World) (o : Op11) (t : TypeId) : OpAt (w.alloc (.cells #[.int .i64 o.d, .int .i64 o.addr, .int .i64 o.at_, .int .i64 o.fr, .int .i64 o.pl, .int .u64 o.x, .bool o.ev, .bool o.ew, .bool o.et, .int .i64 o.ef] t)) w.heap.size 0 o :=
  ⟨by simp [go_sem], by simp [go_sem], by simp [go_sem], by simp [go_sem], by simp [go_sem], by simp [go_sem], by simp [go_sem], by simp [go_sem], by simp [go_sem], by simp [go_sem]⟩

end Go.Proofs.Yteehghjdifbjbaa
