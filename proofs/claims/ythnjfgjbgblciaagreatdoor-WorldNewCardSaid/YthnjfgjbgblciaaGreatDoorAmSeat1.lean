import Derived.Test.YthnjfgjbgblciaaGreatDoorAmPlan
import Derived.Test.YthnjfgjbgblciaaGreatDoorChecked
import Derived.KernelRfl
/-
  THE ABSTRACT MACHINE over the seat's program: the plans are good.
-/
namespace Go.Proofs.YthnjfgjbgblciaaGreatDoor
open Go Go.Am
noncomputable def cfg0 : Cfg := { flats := [], prim := fun _ _ _ => none, plan := planAt }
set_option maxRecDepth 100000 in
theorem plansB_ok : plansL Tryz.prog cfg0 0 Tryz.prog.funcs.toList = true := by decide +kernel
end Go.Proofs.YthnjfgjbgblciaaGreatDoor
