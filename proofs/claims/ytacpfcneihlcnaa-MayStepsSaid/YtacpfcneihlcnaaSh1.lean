/-
  DERIVED: THE SHELF's CONTRACTS AT THIS DUMP, IN PLAIN WORDS (tools/lay-plain.mjs out of 'YtacpfcneihlcnaaSh1.lean', which tools/lay-shelf.mjs wrote): THE SAME DECLARATIONS UNDER THE SAME NAMES: 'import', 'namespace', 'open', 'def', 'theorem' AND NOTHING ELSE: no command of the shelf's: FOR A HAND-IN. Each laying: the table of numbers ('.._ren') and one theorem, a field a fact of the dump's own or the kernel's comparison; each contract: ONE APPLICATION.
-/
import Derived.Shelf.SlMaps.Equal
import Derived.Ground.SlmeProg
import Derived.Test.YtacpfcneihlcnaaProg
namespace Go.Proofs
open Go.Shelf
def Try.equalM_ren : Go.Shelf.Ren := ⟨fun | 6 => 37 | n => n, fun | 23 => 29 | 24 => 29 | 26 => 3 | 27 => 3 | 4 => 4 | 3 => 3 | 0 => 0 | 36 => 52 | n => n, fun | n => n⟩
theorem Try.equalM : Go.Proofs.SlLaysEq.n6 Try.prog Try.equalM_ren := {
  mixed := by kernel_rfl
  f6 := ⟨Try.f37.name, by decide, Try.func37.trans (congrArg some (by kernel_rfl))⟩
  t0 := Try.underlying0
  a0 := Try.isAgg0
  z0 := Try.sizeOf0
  v0 := Try.zeroValue0
  t3 := Try.underlying3
  a3 := Try.isAgg3
  z3 := Try.sizeOf3
  v3 := Try.zeroValue3
  t4 := Try.underlying4
  a4 := Try.isAgg4
  z4 := Try.sizeOf4
  v4 := Try.zeroValue4
  t23 := Try.underlying29
  a23 := Try.isAgg29
  z23 := Try.sizeOf29
  v23 := Try.zeroValue29
  t24 := Try.underlying29
  a24 := Try.isAgg29
  z24 := Try.sizeOf29
  v24 := Try.zeroValue29
  a26 := Try.isAgg3
  z26 := Try.sizeOf3
  a27 := Try.isAgg3
  z27 := Try.sizeOf3
  t36 := Try.underlying52
  a36 := Try.isAgg52
  z36 := Try.sizeOf52 }
end Go.Proofs
