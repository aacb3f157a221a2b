import Derived.Test.YthnjfgjbgblciaaGreatDoorAmSeat2
import Derived.Test.YthnjfgjbgblciaaGreatDoorAmPlan
import Derived.Test.YthnjfgjbgblciaaGreatDoorGE
import GoSem.PinnedTables
namespace Go.Proofs.YthnjfgjbgblciaaGreatDoor
open Go Go.Am
noncomputable def accL : List Int := [128, 191, 160, 191, 128, 159, 144, 191, 128, 143] ++ List.replicate 22 0
noncomputable def u8s (l : List Int) : List Value := l.map fun n => Value.int .u8 n
noncomputable def n8s (l : List Nat) : List Value := l.map fun n => Value.int .u8 (Int.ofNat n)
noncomputable def tr0 : Tr := (Tri.nil.set 0 (some (.row (n8s Go.Pinned.utf8FirstZ) 305 515))).set 1 (some (.row (u8s accL) 308 67))
noncomputable def cfg : Cfg := { flats := [7, 8, 49, 50, 72, 73, 81, 82, 87, 88, 92, 93, 141, 142, 155, 156, 251, 252, 255, 256, 271, 272, 280, 281, 306, 307, 347, 348, 351, 352, 364, 365, 377, 378, 447, 448], prim := fun _ _ _ => none, plan := planAt }
end Go.Proofs.YthnjfgjbgblciaaGreatDoor
