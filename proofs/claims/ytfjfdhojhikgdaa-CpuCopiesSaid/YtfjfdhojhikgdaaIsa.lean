/- What the functions of package isa return, by walks over their text. -/
import Derived.Test.YtfjfdhojhikgdaaBits
import Derived.Test.YtfjfdhojhikgdaaShelf
import Derived.Deep.WholeRow
namespace Go.Proofs.Ytfjfdhojhikgdaa
set_option linter.unusedSimpArgs false
set_option linter.unusedVariables false
open Go.RowKit
set_option maxHeartbeats 1000000

/-- What an operation names, as letters. -/
def namesS (op : Int) : ByteArray :=
  if op = 0 then ⟨#[]⟩ else if op = 1 then ⟨#[97, 105]⟩ else if op = 2 then ⟨#[97, 98, 99]⟩ else if op = 3 then ⟨#[97, 98, 99]⟩ else if op = 4 then ⟨#[97, 98, 99]⟩ else if op = 5 then ⟨#[97, 98, 99]⟩
  else if op = 6 then ⟨#[97, 98, 105]⟩ else if op = 7 then ⟨#[97, 98, 105]⟩ else if op = 8 then ⟨#[105]⟩ else if op = 9 then ⟨#[97, 105]⟩ else if op = 10 then ⟨#[97, 98, 99]⟩ else ⟨#[105]⟩
def wordS (op : Int) : ByteArray :=
  if op = 0 then ⟨#[104, 97, 108, 116]⟩ else if op = 1 then ⟨#[105, 109, 109]⟩ else if op = 2 then ⟨#[97, 100, 100]⟩ else if op = 3 then ⟨#[115, 117, 98]⟩ else if op = 4 then ⟨#[97, 110, 100]⟩ else if op = 5 then ⟨#[120, 111, 114]⟩
  else if op = 6 then ⟨#[108, 111, 97, 100]⟩ else if op = 7 then ⟨#[115, 116, 111, 114, 101]⟩ else if op = 8 then ⟨#[106, 117, 109, 112]⟩ else if op = 9 then ⟨#[122, 101, 114, 111]⟩ else if op = 10 then ⟨#[108, 101, 115, 115]⟩ else ⟨#[116, 114, 97, 112]⟩
/-- Does an operation name the part k? -/
def needB (op : Int) (k : Nat) : Bool :=
  match k with
  | 1 => decide (1 ≤ op ∧ op ≤ 7 ∨ op = 9 ∨ op = 10)
  | 2 => decide (2 ≤ op ∧ op ≤ 7 ∨ op = 10)
  | 3 => decide (2 ≤ op ∧ op ≤ 5 ∨ op = 10)
  | 4 => decide (op = 1 ∨ 6 ≤ op ∧ op ≤ 9 ∨ op = 11)
  | _ => true

theorem op_cases {op : Int} (h0 : 0 ≤ op) (h1 : op ≤ 11) : op = 0 ∨ op = 1 ∨ op = 2 ∨ op = 3 ∨ op = 4 ∨ op = 5 ∨ op = 6 ∨ op = 7 ∨ op = 8 ∨ op = 9 ∨ op = 10 ∨ op = 11 := by omega

theorem cont_a (op : Int) (h0 : 0 ≤ op) (h1 : op ≤ 11) (w : World) :
    Calls Try.prog 38 #[.string (namesS op), .string ⟨#[97]⟩] w fun e w' => e = .returned (.bool (needB op 1)) ∧ w = w' := by
  refine (Try.strings_Contains_one _ _ _).mono ?_
  rintro e w' ⟨rfl, rfl⟩
  exact ⟨by rcases op_cases h0 h1 with h | h | h | h | h | h | h | h | h | h | h | h <;> subst h <;> rfl, rfl⟩
theorem cont_b (op : Int) (h0 : 0 ≤ op) (h1 : op ≤ 11) (w : World) :
    Calls Try.prog 38 #[.string (namesS op), .string ⟨#[98]⟩] w fun e w' => e = .returned (.bool (needB op 2)) ∧ w = w' := by
  refine (Try.strings_Contains_one _ _ _).mono ?_
  rintro e w' ⟨rfl, rfl⟩
  exact ⟨by rcases op_cases h0 h1 with h | h | h | h | h | h | h | h | h | h | h | h <;> subst h <;> rfl, rfl⟩
theorem cont_c (op : Int) (h0 : 0 ≤ op) (h1 : op ≤ 11) (w : World) :
    Calls Try.prog 38 #[.string (namesS op), .string ⟨#[99]⟩] w fun e w' => e = .returned (.bool (needB op 3)) ∧ w = w' := by
  refine (Try.strings_Contains_one _ _ _).mono ?_
  rintro e w' ⟨rfl, rfl⟩
  exact ⟨by rcases op_cases h0 h1 with h | h | h | h | h | h | h | h | h | h | h | h <;> subst h <;> rfl, rfl⟩
theorem cont_i (op : Int) (h0 : 0 ≤ op) (h1 : op ≤ 11) (w : World) :
    Calls Try.prog 38 #[.string (namesS op), .string ⟨#[105]⟩] w fun e w' => e = .returned (.bool (needB op 4)) ∧ w = w' := by
  refine (Try.strings_Contains_one _ _ _).mono ?_
  rintro e w' ⟨rfl, rfl⟩
  exact ⟨by rcases op_cases h0 h1 with h | h | h | h | h | h | h | h | h | h | h | h <;> subst h <;> rfl, rfl⟩

/-- The fields' places, as one value; the forms. -/
def fieldsV : Value := .agg #[.int .i64 0, .int .i64 8, .int .i64 8, .int .i64 3, .int .i64 11, .int .i64 3, .int .i64 14, .int .i64 3, .int .i64 24, .int .i64 16]
def formsC : Array Value := #[.string ⟨#[104, 97, 108, 116]⟩, .string ⟨#[]⟩, .string ⟨#[105, 109, 109]⟩, .string ⟨#[97, 105]⟩, .string ⟨#[97, 100, 100]⟩, .string ⟨#[97, 98, 99]⟩, .string ⟨#[115, 117, 98]⟩, .string ⟨#[97, 98, 99]⟩,
  .string ⟨#[97, 110, 100]⟩, .string ⟨#[97, 98, 99]⟩, .string ⟨#[120, 111, 114]⟩, .string ⟨#[97, 98, 99]⟩, .string ⟨#[108, 111, 97, 100]⟩, .string ⟨#[97, 98, 105]⟩, .string ⟨#[115, 116, 111, 114, 101]⟩, .string ⟨#[97, 98, 105]⟩,
  .string ⟨#[106, 117, 109, 112]⟩, .string ⟨#[105]⟩, .string ⟨#[122, 101, 114, 111]⟩, .string ⟨#[97, 105]⟩, .string ⟨#[108, 101, 115, 115]⟩, .string ⟨#[97, 98, 99]⟩, .string ⟨#[116, 114, 97, 112]⟩, .string ⟨#[105]⟩]

def formsV : Value := .agg formsC

theorem fields12_any (w : World) :
    Calls Try.prog 25 #[] w fun e w' => e = .returned fieldsV ∧ Below w.heap.size w w' := by
  go_enter Try.func25, Try.ntmps25
  go_wp2
  go_returns
  exact ⟨rfl, by go_grown⟩

theorem wpList_built {P : Program} {ops : Array Oper} {rest : List Oper} {o : Oper} {a : Act} {w : World} {Q : Exit → Act → World → Prop} (hg : o.guard = none) (t : TypeId) (parts : Array (Nat × Operand)) (ho : o.op = .build t parts)
    (cs : Array Value) (hb : P.built t (parts.map fun (i, x) => (i, a.eval x)).toList = some cs) (h : wpList P ops Q rest (a.put o.dst (.agg cs)) w) : wpList P ops Q (o :: rest) a w :=
  wpList_build hg t parts ho (by rw [hb]; rfl) (by rw [hb]; exact h)

theorem forms_any (w : World) :
    Calls Try.prog 37 #[] w fun e w' => e = .returned formsV ∧ Below w.heap.size w w' := by
  have hi : (Try.prog.info? 84).map (·.size) = some formsC.size := by kernel_rfl
  go_enter Try.func37, Try.ntmps37
  go_step
  go_step
  go_step
  go_step
  go_step
  go_step
  go_step
  go_step
  go_step
  go_step
  go_step
  -- FORMS
  refine wpList_built (by rfl) 83 _ (by rfl) #[.string ⟨#[104, 97, 108, 116]⟩, .string ⟨#[]⟩] (by kernel_rfl) ?_
  refine wpList_built (by rfl) 83 _ (by rfl) #[.string ⟨#[105, 109, 109]⟩, .string ⟨#[97, 105]⟩] (by kernel_rfl) ?_
  refine wpList_built (by rfl) 83 _ (by rfl) #[.string ⟨#[97, 100, 100]⟩, .string ⟨#[97, 98, 99]⟩] (by kernel_rfl) ?_
  refine wpList_built (by rfl) 83 _ (by rfl) #[.string ⟨#[115, 117, 98]⟩, .string ⟨#[97, 98, 99]⟩] (by kernel_rfl) ?_
  refine wpList_built (by rfl) 83 _ (by rfl) #[.string ⟨#[97, 110, 100]⟩, .string ⟨#[97, 98, 99]⟩] (by kernel_rfl) ?_
  refine wpList_built (by rfl) 83 _ (by rfl) #[.string ⟨#[120, 111, 114]⟩, .string ⟨#[97, 98, 99]⟩] (by kernel_rfl) ?_
  refine wpList_built (by rfl) 83 _ (by rfl) #[.string ⟨#[108, 111, 97, 100]⟩, .string ⟨#[97, 98, 105]⟩] (by kernel_rfl) ?_
  refine wpList_built (by rfl) 83 _ (by rfl) #[.string ⟨#[115, 116, 111, 114, 101]⟩, .string ⟨#[97, 98, 105]⟩] (by kernel_rfl) ?_
  refine wpList_built (by rfl) 83 _ (by rfl) #[.string ⟨#[106, 117, 109, 112]⟩, .string ⟨#[105]⟩] (by kernel_rfl) ?_
  refine wpList_built (by rfl) 83 _ (by rfl) #[.string ⟨#[122, 101, 114, 111]⟩, .string ⟨#[97, 105]⟩] (by kernel_rfl) ?_
  refine wpList_built (by rfl) 83 _ (by rfl) #[.string ⟨#[108, 101, 115, 115]⟩, .string ⟨#[97, 98, 99]⟩] (by kernel_rfl) ?_
  refine wpList_built (by rfl) 83 _ (by rfl) #[.string ⟨#[116, 114, 97, 112]⟩, .string ⟨#[105]⟩] (by kernel_rfl) ?_
  refine wpList_built (by rfl) 84 _ (by rfl) formsC (by kernel_rfl) ?_
  -- END FORMS
  refine wpList_store_row (by rfl) 84 (.tmp 0) (.tmp 13) (by rfl) w.heap.size formsC (by kernel_rfl) (by kernel_rfl) 84 _ (heap_alloc_new w _) hi (by kernel_rfl) (by kernel_rfl) ?_
  rw [World.setRow_alloc_new]
  go_step
  go_step
  go_step
  go_step
  go_step
  refine bodyPost_ret (v := formsV) ?_ ?_ ?_
  · refine results_cell_row (p := 0) ?_ _ _ w.heap.size 84 formsC (0, 0) _ ?_ (heap_alloc_new w _) Try.underlying84 ?_ hi
    · kernel_rfl
    · kernel_rfl
    · rfl
  · kernel_rfl
  · exact ⟨rfl, (Below.refl _ _).alloc (Nat.le_refl _) _⟩

theorem split_any (o a b c m : Int) (w : World) :
    Calls Try.prog 33 #[.agg #[.int .i64 o, .int .i64 a, .int .i64 b, .int .i64 c, .int .i64 m]] w fun e w' => e = .returned (.agg #[.int .i64 o, .int .i64 a, .int .i64 b, .int .i64 c, .int .i64 m]) ∧ Below w.heap.size w w' := by
  go_enter Try.func33, Try.ntmps33
  go_wp2
  go_returns
  exact ⟨rfl, by go_grown⟩

theorem join_any (o a b c m : Int) (w : World) :
    Calls Try.prog 27 #[.agg #[.int .i64 o, .int .i64 a, .int .i64 b, .int .i64 c, .int .i64 m]] w fun e w' => e = .returned (.agg #[.int .i64 o, .int .i64 a, .int .i64 b, .int .i64 c, .int .i64 m]) ∧ Below w.heap.size w w' := by
  go_enter Try.func27, Try.ntmps27
  go_wp2
  go_returns
  exact ⟨rfl, by go_grown⟩

theorem forms_at (op : Int) (h0 : 0 ≤ op) (h1 : op ≤ 11) : ∀ w, (Instr.index 84 formsV (.int .i64 op)).run Try.prog w = .ok (.agg #[.string (wordS op), .string (namesS op)]) w := by
  rcases op_cases h0 h1 with h | h | h | h | h | h | h | h | h | h | h | h <;> subst h <;> exact fun _ => by kernel_rfl

/-- Where a part stands, and how many bits it has. -/
def fromI (k : Nat) : Int := if k = 0 then 0 else if k = 1 then 8 else if k = 2 then 11 else if k = 3 then 14 else 24
def manyI (k : Nat) : Int := if k = 0 then 8 else if k = 1 then 3 else if k = 2 then 3 else if k = 3 then 3 else 16
theorem fields_at : (∀ w, (Instr.index 67 fieldsV (.int .i64 0)).run Try.prog w = .ok (.agg #[.int .i64 0, .int .i64 8]) w) ∧ (∀ w, (Instr.index 67 fieldsV (.int .i64 1)).run Try.prog w = .ok (.agg #[.int .i64 8, .int .i64 3]) w) ∧
    (∀ w, (Instr.index 67 fieldsV (.int .i64 2)).run Try.prog w = .ok (.agg #[.int .i64 11, .int .i64 3]) w) ∧ (∀ w, (Instr.index 67 fieldsV (.int .i64 3)).run Try.prog w = .ok (.agg #[.int .i64 14, .int .i64 3]) w) ∧
    (∀ w, (Instr.index 67 fieldsV (.int .i64 4)).run Try.prog w = .ok (.agg #[.int .i64 24, .int .i64 16]) w) :=
  ⟨fun _ => by kernel_rfl, fun _ => by kernel_rfl, fun _ => by kernel_rfl, fun _ => by kernel_rfl, fun _ => by kernel_rfl⟩

end Go.Proofs.Ytfjfdhojhikgdaa
