import Derived.Test.YthnjfgjbgblciaaGreatDoorAmSeat3
import Derived.Test.YthnjfgjbgblciaaGreatDoorAm33
import Derived.KernelRfl
/-
  CacheNone, run by the abstract machine, for every session, key and pattern.
-/
namespace Go.Proofs.YthnjfgjbgblciaaGreatDoor
open Go Go.Am
theorem l3 (a : Int) (key pat : ByteArray) : isTrueR (fCall Tryz.prog cfg 3000 3 [.int .i64 a, .string key, .string pat] ⟨tr0, 20⟩) = true := by kernel_rfl
end Go.Proofs.YthnjfgjbgblciaaGreatDoor
