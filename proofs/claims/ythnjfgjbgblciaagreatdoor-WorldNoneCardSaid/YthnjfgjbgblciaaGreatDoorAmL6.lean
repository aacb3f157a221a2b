import Derived.Test.YthnjfgjbgblciaaGreatDoorAmSeat3
import Derived.Test.YthnjfgjbgblciaaGreatDoorAm33
import Derived.KernelRfl
/-
  WorldNone, run by the abstract machine, for every step.
-/
namespace Go.Proofs.YthnjfgjbgblciaaGreatDoor
open Go Go.Am
theorem l6 (a b n p q x : Int) (key val : ByteArray) (ks ms : Value) : isTrueR (fCall Tryz.prog cfg 3000 5 [.agg #[.int .i64 a, .int .i64 b, .string key, .string val, ks, .int .i64 n, ms, .int .i64 p, .int .i64 q, .int .i64 x]] ⟨tr0, 20⟩) = true := by kernel_rfl
end Go.Proofs.YthnjfgjbgblciaaGreatDoor
