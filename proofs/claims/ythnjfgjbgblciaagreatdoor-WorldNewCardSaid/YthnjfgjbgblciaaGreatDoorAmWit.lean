import Derived.Test.YthnjfgjbgblciaaGreatDoorAmStart
import Derived.Deep.DeepHandedRow
import Derived.ProofKit
import Derived.LaidMore
import Derived.Lay
/-
  A world for the witness: it holds the two tables.
-/
namespace Go.Proofs.YthnjfgjbgblciaaGreatDoor
open Go
set_option maxRecDepth 100000
noncomputable def w0 (os : Os) : World := World.laidAll Tryz.prog os laid2
theorem w0_fits (os : Os) : (World.holding Tryz.prog os ⟨#[], #[], []⟩).layFits Tryz.prog laid2 [] = true := by kernel_rfl
theorem w0_ifaces (os : Os) : (World.holding Tryz.prog os ⟨#[], #[], []⟩).layIfaces Tryz.prog laid2 (World.laidAll Tryz.prog os laid2) = true := by kernel_rfl
theorem w0_laid (os : Os) (args : Array Value) : laidMet Tryz.prog laid2 ((w0 os).forCall (fun _ _ => 0) ⟨#[], args, []⟩).memory := laidMet_laidAll args (w0_fits os) (w0_ifaces os)
theorem w0_laidH (os : Os) (args : Array Value) : laidMetH Tryz.prog laid2 ((w0 os).forCall (fun _ _ => 0) ⟨#[], args, []⟩).memory := by
  rw [MakeChecks.laidMetH_plain _ _ _ (by kernel_rfl)]
  exact w0_laid os args
theorem w0_vars (os : Os) (args : Array Value) : ((w0 os).forCall (fun _ _ => 0) ⟨#[], args, []⟩).variablesB Tryz.prog = true := by kernel_rfl
theorem w0_rest (os : Os) (args : Array Value) : (((w0 os).forCall (fun _ _ => 0) ⟨#[], args, []⟩).heap.toList.drop Tryz.prog.globals.size).take ((begin Tryz.prog (fun _ _ => 0) default).world.heap.size - Tryz.prog.globals.size) =
      (begin Tryz.prog (fun _ _ => 0) default).world.heap.toList.drop Tryz.prog.globals.size := by kernel_rfl
end Go.Proofs.YthnjfgjbgblciaaGreatDoor
