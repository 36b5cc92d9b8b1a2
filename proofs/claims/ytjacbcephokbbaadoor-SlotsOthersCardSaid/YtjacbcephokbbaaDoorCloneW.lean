/-
  DERIVED: THE SHELF's CONTRACTS AT THIS DUMP, IN PLAIN WORDS (tools/lay-plain.mjs out of 'TryShelf.lean', which tools/lay-shelf.mjs wrote): THE SAME DECLARATIONS UNDER THE SAME NAMES: 'import', 'namespace', 'open', 'def', 'theorem' AND NOTHING ELSE: no command of the shelf's: FOR A HAND-IN. Each laying: the table of numbers ('.._ren') and one theorem, a field a fact of the dump's own or the kernel's comparison; each contract: ONE APPLICATION.
-/
import Derived.Shelf.SlGeneric
import Derived.Shelf.SlicesE.Clone
import Derived.Ground.SlgnProg
import Derived.Test.YtjacbcephokbbaaDoorProg
namespace Go.Proofs
open Go.Shelf
def Tryd.cloneWin_ren : Go.Shelf.Ren := ⟨fun | 41 => 33 | n => n, fun | 22 => 54 | 23 => 58 | 4 => 4 | n => n, fun | n => n⟩
theorem Tryd.cloneWin : Go.Proofs.SlLaysE0.n41 Tryd.prog Tryd.cloneWin_ren := {
  mixed := by kernel_rfl
  f41 := ⟨Tryd.f33.name, by decide, Tryd.func33.trans (congrArg some (by kernel_rfl))⟩
  t4 := Tryd.underlying4
  a4 := Tryd.isAgg4
  z4 := Tryd.sizeOf4
  v4 := Tryd.zeroValue4
  t22 := Tryd.underlying54
  a22 := Tryd.isAgg54
  z22 := Tryd.sizeOf54
  v22 := Tryd.zeroValue54 }
end Go.Proofs
