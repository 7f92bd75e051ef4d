/-
  DERIVED: THE SHELF's CONTRACTS AT THIS DUMP, IN PLAIN WORDS (tools/lay-plain.mjs out of 'TryShelf.lean', which tools/lay-shelf.mjs wrote): THE SAME DECLARATIONS UNDER THE SAME NAMES: 'import', 'namespace', 'open', 'def', 'theorem' AND NOTHING ELSE: no command of the shelf's: FOR A HAND-IN. Each laying: the table of numbers ('.._ren') and one theorem, a field a fact of the dump's own or the kernel's comparison; each contract: ONE APPLICATION.
-/
import Derived.Shelf.Spec.SlicesInsert
import Derived.Shelf.Spec.SearchS
import Derived.Shelf.Slices.Delete
import Derived.Shelf.Slices.Empties
import Derived.Ground.Names2Prog
import Derived.Test.YtanglcdiebkmiaaProg
namespace Go.Proofs
open Go.Shelf
def Try.laysInsS_ren : Go.Shelf.Ren := ⟨fun | 22 => 50 | 29 => 65 | 30 => 66 | 36 => 81 | 17 => 90 | n => n, fun | 24 => 35 | 9 => 9 | 3 => 3 | 4 => 4 | 0 => 0 | n => n, fun | n => n⟩
theorem Try.laysInsS : Go.Proofs.Lays2.n22 Try.prog Try.laysInsS_ren := {
  mixed := by kernel_rfl
  f17 := Try.func90.trans (congrArg some (by kernel_rfl))
  f22 := Try.func50.trans (congrArg some (by kernel_rfl))
  f29 := Try.func65.trans (congrArg some (by kernel_rfl))
  f30 := Try.func66.trans (congrArg some (by kernel_rfl))
  f36 := Try.func81.trans (congrArg some (by kernel_rfl))
  t0 := Try.underlying0
  a0 := Try.isAgg0
  z0 := Try.sizeOf0
  v0 := Try.zeroValue0
  t3 := Try.underlying3
  a3 := Try.isAgg3
  z3 := Try.sizeOf3
  v3 := Try.zeroValue3
  t4 := Try.underlying4
  a4 := Try.isAgg4
  z4 := Try.sizeOf4
  v4 := Try.zeroValue4
  t9 := Try.underlying9
  a9 := Try.isAgg9
  z9 := Try.sizeOf9
  v9 := Try.zeroValue9
  t24 := Try.underlying35
  a24 := Try.isAgg35
  z24 := Try.sizeOf35
  v24 := Try.zeroValue35
  i9 := by kernel_rfl }
def Try.laysInsI_ren : Go.Shelf.Ren := ⟨fun | 21 => 51 | 27 => 67 | 28 => 68 | 35 => 82 | 39 => 91 | n => n, fun | 22 => 46 | 3 => 3 | 4 => 4 | 0 => 0 | n => n, fun | n => n⟩
theorem Try.laysInsI : Go.Proofs.Lays2.n21 Try.prog Try.laysInsI_ren := {
  mixed := by kernel_rfl
  f21 := Try.func51.trans (congrArg some (by kernel_rfl))
  f27 := Try.func67.trans (congrArg some (by kernel_rfl))
  f28 := Try.func68.trans (congrArg some (by kernel_rfl))
  f35 := Try.func82.trans (congrArg some (by kernel_rfl))
  f39 := Try.func91.trans (congrArg some (by kernel_rfl))
  t0 := Try.underlying0
  a0 := Try.isAgg0
  z0 := Try.sizeOf0
  v0 := Try.zeroValue0
  t3 := Try.underlying3
  a3 := Try.isAgg3
  z3 := Try.sizeOf3
  v3 := Try.zeroValue3
  t4 := Try.underlying4
  a4 := Try.isAgg4
  z4 := Try.sizeOf4
  v4 := Try.zeroValue4
  t22 := Try.underlying46
  a22 := Try.isAgg46
  z22 := Try.sizeOf46
  v22 := Try.zeroValue46
  i3 := by kernel_rfl }
def Try.laysBinS_ren : Go.Shelf.Ren := ⟨fun | 26 => 63 | 33 => 79 | 34 => 80 | 38 => 89 | n => n, fun | 24 => 35 | 9 => 9 | 3 => 3 | 4 => 4 | 40 => 120 | 0 => 0 | n => n, fun | n => n⟩
theorem Try.laysBinS : Go.Proofs.Lays2.n26 Try.prog Try.laysBinS_ren := {
  mixed := by kernel_rfl
  f26 := Try.func63.trans (congrArg some (by kernel_rfl))
  f33 := Try.func79.trans (congrArg some (by kernel_rfl))
  f34 := Try.func80.trans (congrArg some (by kernel_rfl))
  f38 := Try.func89.trans (congrArg some (by kernel_rfl))
  t0 := Try.underlying0
  a0 := Try.isAgg0
  z0 := Try.sizeOf0
  v0 := Try.zeroValue0
  t3 := Try.underlying3
  a3 := Try.isAgg3
  z3 := Try.sizeOf3
  v3 := Try.zeroValue3
  t4 := Try.underlying4
  a4 := Try.isAgg4
  z4 := Try.sizeOf4
  v4 := Try.zeroValue4
  t9 := Try.underlying9
  a9 := Try.isAgg9
  z9 := Try.sizeOf9
  v9 := Try.zeroValue9
  t24 := Try.underlying35
  a24 := Try.isAgg35
  z24 := Try.sizeOf35
  v24 := Try.zeroValue35
  t40 := Try.underlying120
  a40 := Try.isAgg120
  z40 := Try.sizeOf120
  v40 := Try.zeroValue120 }
def Try.laysDelI_ren : Go.Shelf.Ren := ⟨fun | 23 => 73 | n => n, fun | 22 => 46 | 3 => 3 | 4 => 4 | 0 => 0 | n => n, fun | n => n⟩
theorem Try.laysDelI : Go.Proofs.Lays2.n23 Try.prog Try.laysDelI_ren := {
  mixed := by kernel_rfl
  f23 := Try.func73.trans (congrArg some (by kernel_rfl))
  t0 := Try.underlying0
  a0 := Try.isAgg0
  z0 := Try.sizeOf0
  v0 := Try.zeroValue0
  t3 := Try.underlying3
  a3 := Try.isAgg3
  z3 := Try.sizeOf3
  v3 := Try.zeroValue3
  t4 := Try.underlying4
  a4 := Try.isAgg4
  z4 := Try.sizeOf4
  v4 := Try.zeroValue4
  t22 := Try.underlying46
  a22 := Try.isAgg46
  z22 := Try.sizeOf46
  v22 := Try.zeroValue46
  i3 := by kernel_rfl }
def Try.laysDelS_ren : Go.Shelf.Ren := ⟨fun | 24 => 54 | n => n, fun | 24 => 35 | 9 => 9 | 3 => 3 | 4 => 4 | 0 => 0 | n => n, fun | n => n⟩
theorem Try.laysDelS : Go.Proofs.Lays2.n24 Try.prog Try.laysDelS_ren := {
  mixed := by kernel_rfl
  f24 := Try.func54.trans (congrArg some (by kernel_rfl))
  t0 := Try.underlying0
  a0 := Try.isAgg0
  z0 := Try.sizeOf0
  v0 := Try.zeroValue0
  t3 := Try.underlying3
  a3 := Try.isAgg3
  z3 := Try.sizeOf3
  v3 := Try.zeroValue3
  t4 := Try.underlying4
  a4 := Try.isAgg4
  z4 := Try.sizeOf4
  v4 := Try.zeroValue4
  t9 := Try.underlying9
  a9 := Try.isAgg9
  z9 := Try.sizeOf9
  v9 := Try.zeroValue9
  t24 := Try.underlying35
  a24 := Try.isAgg35
  z24 := Try.sizeOf35
  v24 := Try.zeroValue35
  i9 := by kernel_rfl }
end Go.Proofs
