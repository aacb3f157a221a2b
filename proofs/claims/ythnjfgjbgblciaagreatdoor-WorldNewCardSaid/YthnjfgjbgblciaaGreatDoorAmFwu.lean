import Derived.Test.YthnjfgjbgblciaaGreatDoorAmFProg
import GoSem.ClaimSeven
/-
  WorldNew's row: the closed facts.
-/
namespace Go.Proofs.YthnjfgjbgblciaaGreatDoor
open Go
set_option maxRecDepth 100000
theorem wu10 : (Rows.worldNewRow.inPlace == Tryz.prog.inPlace 4) = true := by kernel_rfl
theorem wu11 : (Rows.worldNewRow.unfollowed == Tryz.prog.unfollowed 4) = true := by kernel_rfl
theorem wu12 : (Rows.worldNewRow.recurses == Tryz.prog.recurses 4) = true := by kernel_rfl
theorem wu13 : (Rows.worldNewRow.named == Tryz.prog.varsNamed 4) = true := by kernel_rfl
theorem wuG : false = Rows.worldNewRow.goesBy Tryz.prog := Am.goesBy_none fpGoes rfl
theorem wuF : Tryz.prog.funcNamed "cachepot/cachepotlaw27.WorldNew" = some 4 := by kernel_rfl
theorem wu_joined : joinedFacts Tryz.prog 4 Tryz.f4 Rows.worldNewSpec Rows.worldNewRow = true :=
  Am.joinedFacts_of (by kernel_rfl) laidOut fp3 (by kernel_rfl) (by kernel_rfl) rfl fp7 rfl fp9 wu10 wu11 wu12 wu13 (by kernel_rfl) (by kernel_rfl) (by kernel_rfl) (by kernel_rfl) (by kernel_rfl) rfl (by kernel_rfl) (by kernel_rfl) (by kernel_rfl)
    (by rw [fp22]; rfl) rfl fp23b fp24 (by rw [fp24b]; rfl) fp24c rfl rfl (by kernel_rfl) (by kernel_rfl)
end Go.Proofs.YthnjfgjbgblciaaGreatDoor
