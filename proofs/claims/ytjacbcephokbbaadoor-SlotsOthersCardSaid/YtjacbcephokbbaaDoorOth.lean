/- Plain: what a call does to others' windows: nothing. -/
import Derived.Test.YtjacbcephokbbaaDoorLawSlotsApart
namespace Go.Proofs.YtjacbcephokbbaaDoor
set_option linter.unusedSimpArgs false
set_option linter.unusedVariables false
set_option maxRecDepth 100000
open Go.RowKit Go.Shelf
set_option maxHeartbeats 4000000

theorem notP_ins {L : List Win} {p f m : Int} (hr : Rising L) (hr2 : Rising (insW ⟨p, f, m⟩ L)) : notP p (insW ⟨p, f, m⟩ L) = notP p L := by
  refine rising_eq ?_ (rising_sub hr2 (notP_sub _ _)) (rising_sub hr (notP_sub _ _))
  have h1 : (notP p (insW ⟨p, f, m⟩ L)).Perm (notP p ((⟨p, f, m⟩ : Win) :: L)) := (insW_perm _ _).filter _
  have h2 : notP p ((⟨p, f, m⟩ : Win) :: L) = notP p L := by unfold notP; rw [List.filter_cons_of_neg (by simp)]
  rw [h2] at h1
  exact h1
theorem notP_erase {L : List Win} {p : Int} {i : Nat} (hi : i < L.length) (hp : L[i].p = p) (hr : Rising L) : notP p (L.eraseIdx i) = notP p L := by
  refine rising_eq ?_ (rising_sub (rising_sub hr (List.eraseIdx_sublist _ _)) (notP_sub _ _)) (rising_sub hr (notP_sub _ _))
  have h1 : (notP p (L[i] :: L.eraseIdx i)).Perm (notP p L) := (erase_perm L i hi).filter _
  have h2 : notP p (L[i] :: L.eraseIdx i) = notP p (L.eraseIdx i) := by unfold notP; rw [List.filter_cons_of_neg (by simp [hp])]
  rw [h2] at h1
  exact h1
theorem notP_twice (p : Int) (L : List Win) : notP p (notP p L) = notP p L := by unfold notP; rw [List.filter_filter]; simp
/-- What was refused changes nothing; what was done changes nothing of others. -/
def OthersOk (p : Int) (M M' : List Win) (e : Int) : Prop := (e ≠ 0 → M' = M) ∧ notP p M' = notP p M
theorem oth_ins {n p m f e : Int} {M M' : List Win} (h : InsAt n M p m f e M') (hr : Rising M) (hr2 : Rising M') : OthersOk p M M' e := by
  cases h with
  | bad _ => exact ⟨fun _ => rfl, rfl⟩
  | full _ _ => exact ⟨fun _ => rfl, rfl⟩
  | yes _ _ _ _ => exact ⟨fun h => absurd rfl h, notP_ins hr hr2⟩
theorem oth_place {n p f m : Int} {M : List Win} (hr : Rising M) (hr2 : Rising (placeL n M p f m)) : OthersOk p M (placeL n M p f m) (placeE n M p f m) := by
  unfold placeL placeE at *
  cases hp : placeOk n p f m with
  | false => exact ⟨fun _ => rfl, rfl⟩
  | true =>
    cases hf : freeB M f m.toNat with
    | false => exact ⟨fun _ => rfl, rfl⟩
    | true =>
      rw [hp, hf, Bool.and_true, if_pos rfl] at hr2
      exact ⟨fun h => absurd rfl h, notP_ins hr hr2⟩
theorem oth_move {n p f t e : Int} {M M' : List Win} (h : MoveAt n M p f t e M') (hr : Rising M) (hr2 : Rising M') : OthersOk p M M' e := by
  cases h with
  | none _ => exact ⟨fun _ => rfl, rfl⟩
  | no i hi hx e he hb => exact ⟨fun _ => rfl, rfl⟩
  | yes i hi hx hp hf => exact ⟨fun h => absurd rfl h, (notP_ins (rising_sub hr (List.eraseIdx_sublist _ _)) hr2).trans (notP_erase hi hx.1 hr)⟩
theorem oth_remove (p : Int) (M : List Win) : OthersOk p M (notP p M) 0 := ⟨fun h => absurd rfl h, notP_twice p M⟩

end Go.Proofs.YtjacbcephokbbaaDoor
