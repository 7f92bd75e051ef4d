/-
  DERIVED: THE SHELF's CONTRACTS AT THIS DUMP, IN PLAIN WORDS (tools/lay-plain.mjs out of 'TryzShelf.lean', which tools/lay-shelf.mjs wrote): THE SAME DECLARATIONS UNDER THE SAME NAMES: 'import', 'namespace', 'open', 'def', 'theorem' AND NOTHING ELSE: no command of the shelf's: FOR A HAND-IN. Each laying: the table of numbers ('.._ren') and one theorem, a field a fact of the dump's own or the kernel's comparison; each contract: ONE APPLICATION.
-/
import Derived.Shelf.Spec.SlicesInsert
import Derived.Shelf.Spec.SearchS
import Derived.Shelf.Slices.Delete
import Derived.Shelf.Slices.Empties
import Derived.Ground.Names2Prog
import Derived.Test.YtanglcdiebkmiaaGreatProg
namespace Go.Proofs
open Go.Shelf
def Tryz.laysInsS_ren : Go.Shelf.Ren := ⟨fun | 22 => 71 | 29 => 99 | 30 => 100 | 36 => 121 | 17 => 132 | n => n, fun | 24 => 33 | 9 => 9 | 3 => 3 | 4 => 4 | 0 => 0 | n => n, fun | n => n⟩
theorem Tryz.laysInsS : Go.Proofs.Lays2.n22 Tryz.prog Tryz.laysInsS_ren := {
  mixed := by kernel_rfl
  f17 := Tryz.func132.trans (congrArg some (by kernel_rfl))
  f22 := Tryz.func71.trans (congrArg some (by kernel_rfl))
  f29 := Tryz.func99.trans (congrArg some (by kernel_rfl))
  f30 := Tryz.func100.trans (congrArg some (by kernel_rfl))
  f36 := Tryz.func121.trans (congrArg some (by kernel_rfl))
  t0 := Tryz.underlying0
  a0 := Tryz.isAgg0
  z0 := Tryz.sizeOf0
  v0 := Tryz.zeroValue0
  t3 := Tryz.underlying3
  a3 := Tryz.isAgg3
  z3 := Tryz.sizeOf3
  v3 := Tryz.zeroValue3
  t4 := Tryz.underlying4
  a4 := Tryz.isAgg4
  z4 := Tryz.sizeOf4
  v4 := Tryz.zeroValue4
  t9 := Tryz.underlying9
  a9 := Tryz.isAgg9
  z9 := Tryz.sizeOf9
  v9 := Tryz.zeroValue9
  t24 := Tryz.underlying33
  a24 := Tryz.isAgg33
  z24 := Tryz.sizeOf33
  v24 := Tryz.zeroValue33
  i9 := by kernel_rfl }
def Tryz.laysInsI_ren : Go.Shelf.Ren := ⟨fun | 21 => 72 | 27 => 101 | 28 => 102 | 35 => 122 | 39 => 133 | n => n, fun | 22 => 41 | 3 => 3 | 4 => 4 | 0 => 0 | n => n, fun | n => n⟩
theorem Tryz.laysInsI : Go.Proofs.Lays2.n21 Tryz.prog Tryz.laysInsI_ren := {
  mixed := by kernel_rfl
  f21 := Tryz.func72.trans (congrArg some (by kernel_rfl))
  f27 := Tryz.func101.trans (congrArg some (by kernel_rfl))
  f28 := Tryz.func102.trans (congrArg some (by kernel_rfl))
  f35 := Tryz.func122.trans (congrArg some (by kernel_rfl))
  f39 := Tryz.func133.trans (congrArg some (by kernel_rfl))
  t0 := Tryz.underlying0
  a0 := Tryz.isAgg0
  z0 := Tryz.sizeOf0
  v0 := Tryz.zeroValue0
  t3 := Tryz.underlying3
  a3 := Tryz.isAgg3
  z3 := Tryz.sizeOf3
  v3 := Tryz.zeroValue3
  t4 := Tryz.underlying4
  a4 := Tryz.isAgg4
  z4 := Tryz.sizeOf4
  v4 := Tryz.zeroValue4
  t22 := Tryz.underlying41
  a22 := Tryz.isAgg41
  z22 := Tryz.sizeOf41
  v22 := Tryz.zeroValue41
  i3 := by kernel_rfl }
def Tryz.laysBinS_ren : Go.Shelf.Ren := ⟨fun | 26 => 106 | 33 => 125 | 34 => 126 | 38 => 134 | n => n, fun | 24 => 33 | 9 => 9 | 3 => 3 | 4 => 4 | 40 => 115 | 0 => 0 | n => n, fun | n => n⟩
theorem Tryz.laysBinS : Go.Proofs.Lays2.n26 Tryz.prog Tryz.laysBinS_ren := {
  mixed := by kernel_rfl
  f26 := Tryz.func106.trans (congrArg some (by kernel_rfl))
  f33 := Tryz.func125.trans (congrArg some (by kernel_rfl))
  f34 := Tryz.func126.trans (congrArg some (by kernel_rfl))
  f38 := Tryz.func134.trans (congrArg some (by kernel_rfl))
  t0 := Tryz.underlying0
  a0 := Tryz.isAgg0
  z0 := Tryz.sizeOf0
  v0 := Tryz.zeroValue0
  t3 := Tryz.underlying3
  a3 := Tryz.isAgg3
  z3 := Tryz.sizeOf3
  v3 := Tryz.zeroValue3
  t4 := Tryz.underlying4
  a4 := Tryz.isAgg4
  z4 := Tryz.sizeOf4
  v4 := Tryz.zeroValue4
  t9 := Tryz.underlying9
  a9 := Tryz.isAgg9
  z9 := Tryz.sizeOf9
  v9 := Tryz.zeroValue9
  t24 := Tryz.underlying33
  a24 := Tryz.isAgg33
  z24 := Tryz.sizeOf33
  v24 := Tryz.zeroValue33
  t40 := Tryz.underlying115
  a40 := Tryz.isAgg115
  z40 := Tryz.sizeOf115
  v40 := Tryz.zeroValue115 }
def Tryz.laysDelI_ren : Go.Shelf.Ren := ⟨fun | 23 => 108 | n => n, fun | 22 => 41 | 3 => 3 | 4 => 4 | 0 => 0 | n => n, fun | n => n⟩
theorem Tryz.laysDelI : Go.Proofs.Lays2.n23 Tryz.prog Tryz.laysDelI_ren := {
  mixed := by kernel_rfl
  f23 := Tryz.func108.trans (congrArg some (by kernel_rfl))
  t0 := Tryz.underlying0
  a0 := Tryz.isAgg0
  z0 := Tryz.sizeOf0
  v0 := Tryz.zeroValue0
  t3 := Tryz.underlying3
  a3 := Tryz.isAgg3
  z3 := Tryz.sizeOf3
  v3 := Tryz.zeroValue3
  t4 := Tryz.underlying4
  a4 := Tryz.isAgg4
  z4 := Tryz.sizeOf4
  v4 := Tryz.zeroValue4
  t22 := Tryz.underlying41
  a22 := Tryz.isAgg41
  z22 := Tryz.sizeOf41
  v22 := Tryz.zeroValue41
  i3 := by kernel_rfl }
def Tryz.laysDelS_ren : Go.Shelf.Ren := ⟨fun | 24 => 76 | n => n, fun | 24 => 33 | 9 => 9 | 3 => 3 | 4 => 4 | 0 => 0 | n => n, fun | n => n⟩
theorem Tryz.laysDelS : Go.Proofs.Lays2.n24 Tryz.prog Tryz.laysDelS_ren := {
  mixed := by kernel_rfl
  f24 := Tryz.func76.trans (congrArg some (by kernel_rfl))
  t0 := Tryz.underlying0
  a0 := Tryz.isAgg0
  z0 := Tryz.sizeOf0
  v0 := Tryz.zeroValue0
  t3 := Tryz.underlying3
  a3 := Tryz.isAgg3
  z3 := Tryz.sizeOf3
  v3 := Tryz.zeroValue3
  t4 := Tryz.underlying4
  a4 := Tryz.isAgg4
  z4 := Tryz.sizeOf4
  v4 := Tryz.zeroValue4
  t9 := Tryz.underlying9
  a9 := Tryz.isAgg9
  z9 := Tryz.sizeOf9
  v9 := Tryz.zeroValue9
  t24 := Tryz.underlying33
  a24 := Tryz.isAgg33
  z24 := Tryz.sizeOf33
  v24 := Tryz.zeroValue33
  i9 := by kernel_rfl }
end Go.Proofs
