/- SlotsOthers: always true. -/
import Derived.Test.YtjacbcephokbbaaDoorOth
import Derived.Test.YtjacbcephokbbaaDoorApp
namespace Go.Proofs.YtjacbcephokbbaaDoor
set_option linter.unusedSimpArgs false
set_option linter.unusedVariables false
set_option maxRecDepth 100000
open Go.RowKit Go.Shelf
set_option maxHeartbeats 40000000

/-- A list of windows that is being made, as a part of its own. -/
def rowW (v : Value) (L : List Win) : HP := ownP (fun k => v.ownBlock = some k) (fun w => w.ownsRow 0 38 3 v L.length (winCells L))
theorem loc_rowW (v : Value) (L : List Win) : Loc (fun k => v.ownBlock = some k) (fun w => w.ownsRow 0 38 3 v L.length (winCells L)) := fun _ _ h e => own_heap h fun k hk => e k hk
theorem rowW_nil {g w : World} {R : HP} (h : Sat g w R) : Sat g w (rowW (.slice none 0 0) [] * R) :=
  h.new (Below.refl _ _) (World.ownsRow_nil _ _ _ _) (loc_rowW _ _) (fun k e => by cases e) (fun k e => by cases e)
theorem rowW_own {g w : World} {v : Value} {L : List Win} {R : HP} (h : Sat g w (rowW v L * R)) : w.ownsRow 0 38 3 v L.length (winCells L) := h.inv
theorem rowW_at {g w : World} {v : Value} {L : List Win} {R : HP} (h : Sat g w (rowW v L * R)) : ∃ a cap, v = .slice a L.length cap ∧ WinsAt w a L := own_wins (rowW_own h) rfl
theorem rowW_more {g w w5 : World} {v v' : Value} {L : List Win} {x : Win} {R : HP} {o : Obj} (h : Sat g w (rowW v L * R)) (ha : Appd (w.alloc o) w5 0 38 3 v v' (L.length + 1) (winCells L ++ encW x)) : Sat g w5 (rowW v' (L ++ [x]) * R) := by
  have h1 := h.alloc o
  have hl : (L ++ [x]).length = L.length + 1 := by simp
  refine h1.touch (S' := fun k => v'.ownBlock = some k) (I' := fun w => w.ownsRow 0 38 3 v' (L ++ [x]).length (winCells (L ++ [x]))) ?_ (by rw [hl, winCells_snoc]; exact ha.own) (loc_rowW _ _) (fun k hk => ?_) (fun k hk => (World.ownsRow.lt ha.own k hk).2)
  · exact Touch.grown (S := fun k => v.ownBlock = some k) (Touch.refl _ _) ha.grown (fun k e => Or.inl e)
  · rcases ha.at_ with e | e
    · rw [e] at hk; exact Or.inl hk
    · rw [e] at hk; cases hk; exact Or.inr (Nat.le_refl _)
theorem notP_snoc (p : Int) (L : List Win) (x : Win) : notP p (L ++ [x]) = if x.p == p then notP p L else notP p L ++ [x] := by
  rw [notP_take]
  cases x.p == p <;> simp
theorem lit_srcW (w : World) (x : Win) (t : TypeId) : Src (w.alloc (.cells #[.int .i64 x.p, .int .i64 x.f, .int .i64 x.l] t)) 3 (.slice (some ⟨w.heap.size, 0, none⟩) 1 1) 1 (encW x) :=
  Src.own (World.ownsRow_lit (base := 0) (e := t) w #[.int .i64 x.p, .int .i64 x.f, .int .i64 x.l] 1 (Nat.zero_le _) (by decide) rfl)

end Go.Proofs.YtjacbcephokbbaaDoor
