import Derived.Test.YthnjfgjbgblciaaGreatDoorAmFProg
import GoSem.ClaimSeven
/-
  CacheNone's row: the closed facts.
-/
namespace Go.Proofs.YthnjfgjbgblciaaGreatDoor
open Go
set_option maxRecDepth 100000
theorem cn10 : (Rows.cacheNoneRow.inPlace == Tryz.prog.inPlace 3) = true := by kernel_rfl
theorem cn11 : (Rows.cacheNoneRow.unfollowed == Tryz.prog.unfollowed 3) = true := by kernel_rfl
theorem cn12 : (Rows.cacheNoneRow.recurses == Tryz.prog.recurses 3) = true := by kernel_rfl
theorem cn13 : (Rows.cacheNoneRow.named == Tryz.prog.varsNamed 3) = true := by kernel_rfl
theorem cnG : false = Rows.cacheNoneRow.goesBy Tryz.prog := Am.goesBy_none fpGoes rfl
theorem cnF : Tryz.prog.funcNamed "cachepot/cachepotlaw24.CacheNone" = some 3 := by kernel_rfl
theorem cn_joined : joinedFacts Tryz.prog 3 Tryz.f3 Rows.cacheNoneSpec Rows.cacheNoneRow = true :=
  Am.joinedFacts_of (by kernel_rfl) laidOut fp3 (by kernel_rfl) (by kernel_rfl) rfl fp7 rfl fp9 cn10 cn11 cn12 cn13 (by kernel_rfl) (by kernel_rfl) (by kernel_rfl) (by kernel_rfl) (by kernel_rfl) rfl (by kernel_rfl) (by kernel_rfl) (by kernel_rfl)
    (by rw [fp22]; rfl) rfl fp23b fp24 (by rw [fp24b]; rfl) fp24c rfl rfl (by kernel_rfl) (by kernel_rfl)
end Go.Proofs.YthnjfgjbgblciaaGreatDoor
