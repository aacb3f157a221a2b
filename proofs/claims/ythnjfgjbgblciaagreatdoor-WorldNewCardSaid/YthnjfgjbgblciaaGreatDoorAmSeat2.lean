import Derived.Test.YthnjfgjbgblciaaGreatDoorGD
import Derived.Test.YthnjfgjbgblciaaGreatDoorChecked
import Derived.KernelRfl
namespace Go.Proofs.YthnjfgjbgblciaaGreatDoor
open Go Go.Am
set_option maxRecDepth 100000 in
theorem typesB_ok : allN (typeB Tryz.prog) Tryz.prog.types.size = true := by decide +kernel
theorem nextB_ok : allL nextB Tryz.prog.funcs.toList = true := by decide +kernel
theorem pgood : PGood Tryz.prog := pgood_of (by kernel_rfl) typesB_ok nextB_ok
end Go.Proofs.YthnjfgjbgblciaaGreatDoor
