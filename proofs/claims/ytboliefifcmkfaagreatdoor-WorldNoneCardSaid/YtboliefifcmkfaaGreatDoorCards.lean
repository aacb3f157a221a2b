/-
  DERIVED. GIVEN WITH THE SEED: THE CARDS: each row of YtboliefifcmkfaaGreatDoorRows.lean that lists a variable, with what it lists TIED to the program's text (the seventh form; the later family's looks); each row that meets fmt, with fmt's text TOLD by the authors' own Lean function (tested against real Go, not proved from fmt's source: count such statements apart). THE CARD IS WHAT COUNTS. Prove the row's statement (the work); the ties are given (YtboliefifcmkfaaGreatDoorTie.lean); close each card by the builder's one call (the guide's Derived/Test/ToyasCard.lean, 'card_holds'). Laid BY PROGRAM, IN A SANDBOX (cutbox-door.mjs). By AI agents, Wed Nov 11 2026. No macro, syntax, notation, axiom, sorry.
-/
import Derived.Test.YtboliefifcmkfaaGreatDoorRows
import GoSem.ClaimSeven
namespace Go.Proofs.YtboliefifcmkfaaGreatDoor
namespace Rows

/-- THE TIED CARD OF 'cachepotlaw24.CacheNone'. -/
def cacheNoneCard : Claim7 := { stood := { row := cacheNoneRow, standIns := [], harness := (true, "bee83317c1573833fd85b67305609da8e41ad05eb7101f7eef81d49895905a79"), looks := true }, kinds := [], alts := [], laidByText := true, laidKinds := [.data, .pinned], laidTests := true, laidLooks := .later }
def CacheNoneCardSaid : Prop := Claim7.holds Tryz.pinned (.plain (OpenSpec.ofChange cacheNoneSpec)) cacheNoneCard

/-- THE TIED CARD OF 'cachepotlaw24.CacheDown'. -/
def cacheDownCard : Claim7 := { stood := { row := cacheDownRow, standIns := [], harness := (true, "bee83317c1573833fd85b67305609da8e41ad05eb7101f7eef81d49895905a79"), looks := true }, kinds := [], alts := [], laidByText := true, laidKinds := [.data, .data, .pinned], laidTests := true, laidLooks := .later }
def CacheDownCardSaid : Prop := Claim7.holds Tryz.pinned (.plain (OpenSpec.ofChange cacheDownSpec)) cacheDownCard

/-- THE TIED CARD OF 'cachepotlaw27.WorldNew'. -/
def worldNewCard : Claim7 := { stood := { row := worldNewRow, standIns := [], harness := (true, "bee83317c1573833fd85b67305609da8e41ad05eb7101f7eef81d49895905a79"), looks := true }, kinds := [], alts := [], laidByText := true, laidKinds := [.data, .pinned], laidTests := true, laidLooks := .later }
def WorldNewCardSaid : Prop := Claim7.holds Tryz.pinned (.plain (OpenSpec.ofChange worldNewSpec)) worldNewCard

/-- THE TIED CARD OF 'cachepotlaw27.WorldNone'. -/
def worldNoneCard : Claim7 := { stood := { row := worldNoneRow, standIns := [], harness := (true, "bee83317c1573833fd85b67305609da8e41ad05eb7101f7eef81d49895905a79"), looks := true }, kinds := [], alts := [], laidByText := true, laidKinds := [.data, .pinned], laidTests := true, laidLooks := .later }
def WorldNoneCardSaid : Prop := Claim7.holds Tryz.pinned (.plain (OpenSpec.ofChange worldNoneSpec)) worldNoneCard

/-- THE TIED CARD OF 'cachepotlaw29.WholeTells'. -/
def wholeTellsCard : Claim7 := { stood := { row := wholeTellsRow, standIns := [], harness := (true, "bee83317c1573833fd85b67305609da8e41ad05eb7101f7eef81d49895905a79"), looks := true }, kinds := [], alts := [], laidByText := true, laidKinds := [.data, .data, .data, .data, .sentinel, .sentinel, .pinned], laidTests := true, laidLooks := .later }
def WholeTellsCardSaid : Prop := Claim7.holds Tryz.pinned (.plain (OpenSpec.ofChange wholeTellsSpec)) wholeTellsCard

/-- THE SECOND FORM's CARD OF 'cachepotlaw24.CacheNone'. -/
def cacheNoneUptoCard : Claim7 := { stood := { row := cacheNoneUptoRow, standIns := [], harness := (true, "bee83317c1573833fd85b67305609da8e41ad05eb7101f7eef81d49895905a79"), looks := true }, kinds := [], alts := [], laidByText := true, laidKinds := [.data, .pinned], laidTests := true, laidLooks := .later }
def CacheNoneUptoCardSaid : Prop := Claim7.holds Tryz.pinned (.plain (OpenSpec.upto cacheNoneSpec)) cacheNoneUptoCard

/-- THE SECOND FORM's CARD OF 'cachepotlaw24.CacheDown'. -/
def cacheDownUptoCard : Claim7 := { stood := { row := cacheDownUptoRow, standIns := [], harness := (true, "bee83317c1573833fd85b67305609da8e41ad05eb7101f7eef81d49895905a79"), looks := true }, kinds := [], alts := [], laidByText := true, laidKinds := [.data, .data, .pinned], laidTests := true, laidLooks := .later }
def CacheDownUptoCardSaid : Prop := Claim7.holds Tryz.pinned (.plain (OpenSpec.upto cacheDownSpec)) cacheDownUptoCard

/-- THE SECOND FORM's CARD OF 'cachepotlaw27.WorldNew'. -/
def worldNewUptoCard : Claim7 := { stood := { row := worldNewUptoRow, standIns := [], harness := (true, "bee83317c1573833fd85b67305609da8e41ad05eb7101f7eef81d49895905a79"), looks := true }, kinds := [], alts := [], laidByText := true, laidKinds := [.data, .pinned], laidTests := true, laidLooks := .later }
def WorldNewUptoCardSaid : Prop := Claim7.holds Tryz.pinned (.plain (OpenSpec.upto worldNewSpec)) worldNewUptoCard

/-- THE SECOND FORM's CARD OF 'cachepotlaw27.WorldNone'. -/
def worldNoneUptoCard : Claim7 := { stood := { row := worldNoneUptoRow, standIns := [], harness := (true, "bee83317c1573833fd85b67305609da8e41ad05eb7101f7eef81d49895905a79"), looks := true }, kinds := [], alts := [], laidByText := true, laidKinds := [.data, .pinned], laidTests := true, laidLooks := .later }
def WorldNoneUptoCardSaid : Prop := Claim7.holds Tryz.pinned (.plain (OpenSpec.upto worldNoneSpec)) worldNoneUptoCard

/-- THE SECOND FORM's CARD OF 'cachepotlaw29.WholeTells'. -/
def wholeTellsUptoCard : Claim7 := { stood := { row := wholeTellsUptoRow, standIns := [], harness := (true, "bee83317c1573833fd85b67305609da8e41ad05eb7101f7eef81d49895905a79"), looks := true }, kinds := [], alts := [], laidByText := true, laidKinds := [.data, .data, .data, .data, .sentinel, .sentinel, .pinned], laidTests := true, laidLooks := .later }
def WholeTellsUptoCardSaid : Prop := Claim7.holds Tryz.pinned (.plain (OpenSpec.upto wholeTellsSpec)) wholeTellsUptoCard
end Rows
end Go.Proofs.YtboliefifcmkfaaGreatDoor
