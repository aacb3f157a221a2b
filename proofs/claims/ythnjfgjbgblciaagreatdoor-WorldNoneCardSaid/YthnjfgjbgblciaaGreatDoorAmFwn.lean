import Derived.Test.YthnjfgjbgblciaaGreatDoorAmFProg
import GoSem.ClaimSeven
/-
  WorldNone's row: the closed facts.
-/
namespace Go.Proofs.YthnjfgjbgblciaaGreatDoor
open Go
set_option maxRecDepth 100000
theorem wn10 : (Rows.worldNoneRow.inPlace == Tryz.prog.inPlace 5) = true := by kernel_rfl
theorem wn11 : (Rows.worldNoneRow.unfollowed == Tryz.prog.unfollowed 5) = true := by kernel_rfl
theorem wn12 : (Rows.worldNoneRow.recurses == Tryz.prog.recurses 5) = true := by kernel_rfl
theorem wn13 : (Rows.worldNoneRow.named == Tryz.prog.varsNamed 5) = true := by kernel_rfl
theorem wnG : false = Rows.worldNoneRow.goesBy Tryz.prog := Am.goesBy_none fpGoes rfl
theorem wnF : Tryz.prog.funcNamed "cachepot/cachepotlaw27.WorldNone" = some 5 := by kernel_rfl
theorem wn_joined : joinedFacts Tryz.prog 5 Tryz.f5 Rows.worldNoneSpec Rows.worldNoneRow = true :=
  Am.joinedFacts_of (by kernel_rfl) laidOut fp3 (by kernel_rfl) (by kernel_rfl) rfl fp7 rfl fp9 wn10 wn11 wn12 wn13 (by kernel_rfl) (by kernel_rfl) (by kernel_rfl) (by kernel_rfl) (by kernel_rfl) rfl (by kernel_rfl) (by kernel_rfl) (by kernel_rfl)
    (by rw [fp22]; rfl) rfl fp23b fp24 (by rw [fp24b]; rfl) fp24c rfl rfl (by kernel_rfl) (by kernel_rfl)
end Go.Proofs.YthnjfgjbgblciaaGreatDoor
