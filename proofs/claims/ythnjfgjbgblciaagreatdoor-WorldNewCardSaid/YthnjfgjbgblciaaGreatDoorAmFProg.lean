import Derived.Test.YthnjfgjbgblciaaGreatDoorGE
import Derived.KernelRfl
import Derived.Test.YthnjfgjbgblciaaGreatDoorRows
/-
  What the rows take of the program: the facts that all rows share.
-/
namespace Go.Proofs.YthnjfgjbgblciaaGreatDoor
open Go
set_option maxRecDepth 100000
theorem laidOut : laidOutB Tryz.prog = true := by kernel_rfl
theorem fp3 : mapsRowed Tryz.prog = true := by kernel_rfl
theorem fp7 : (Tryz.prog.stops == []) = true := by kernel_rfl
theorem fp9 : (Tryz.prog.stopKnobs == []) = true := by kernel_rfl
theorem fp22 : Tryz.prog.plainKeys = Rows.cacheNoneRow.plainKeys := by kernel_rfl
theorem fp23b : Tryz.prog.stopsHeard = true := by kernel_rfl
theorem fp24 : Tryz.prog.mayEnter = true := by kernel_rfl
theorem fp24b : Tryz.prog.liftsFinal = Rows.cacheNoneRow.lifted := by kernel_rfl
theorem fpGoes : Tryz.prog.funcs.toList.any Func.goes = false := by kernel_rfl
theorem fp24c : (Tryz.prog.make == some Rows.cacheNoneRow.make) = true := by kernel_rfl
end Go.Proofs.YthnjfgjbgblciaaGreatDoor
