import Derived.Test.YtboliefifcmkfaaGreatDoorAmSeat2
import Derived.Test.YtboliefifcmkfaaGreatDoorAmPlan
import Derived.Test.YtboliefifcmkfaaGreatDoorAm32
import GoSem.PinnedTables
namespace Go.Proofs.YtboliefifcmkfaaGreatDoor
open Go Go.Am
noncomputable def accL : List Int := [128, 191, 160, 191, 128, 159, 144, 191, 128, 143] ++ List.replicate 22 0
noncomputable def u8s (l : List Int) : List Value := l.map fun n => Value.int .u8 n
noncomputable def n8s (l : List Nat) : List Value := l.map fun n => Value.int .u8 (Int.ofNat n)
noncomputable def tr0 : Tr := (Tri.nil.set 1 (some (.row (n8s Go.Pinned.utf8FirstZ) 339 515))).set 2 (some (.row (u8s accL) 342 67))
noncomputable def cfg : Cfg := { flats := [7, 8, 49, 50, 58, 59, 91, 92, 97, 98, 102, 103, 161, 162, 175, 176, 282, 283, 286, 287, 299, 300, 314, 315, 340, 341, 374, 375, 378, 379, 413, 414, 426, 427, 461, 462, 545, 546], prim := fun _ _ _ => none, plan := planAt }
end Go.Proofs.YtboliefifcmkfaaGreatDoor
