import Derived.Test.YthnjfgjbgblciaaGreatDoorAmSeat3
import Derived.Test.YthnjfgjbgblciaaGreatDoorGE
import Derived.KernelRfl
/-
  alive of law 27, run by the abstract machine.
-/
namespace Go.Proofs.YthnjfgjbgblciaaGreatDoor
open Go Go.Am
theorem alive_run : isTrueR (fCall Tryz.prog cfg 3000 22 [] ⟨tr0, 3⟩) = true := by kernel_rfl
end Go.Proofs.YthnjfgjbgblciaaGreatDoor
