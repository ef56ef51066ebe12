/-
  DERIVED. GIVEN WITH THE SEED: THE CARDS: each row of YtaddlkokencbkaaDoorRows.lean that lists a variable, with what it lists TIED to the program's text (the seventh form; the later family's looks); each row that meets fmt, with fmt's text TOLD by the authors' own Lean function (tested against real Go, not proved from fmt's source: count such statements apart). THE CARD IS WHAT COUNTS. Prove the row's statement (the work); the ties are given (YtaddlkokencbkaaDoorTie.lean); close each card by the builder's one call (the guide's Derived/Test/ToyasCard.lean, 'card_holds'). Laid BY PROGRAM, IN A SANDBOX (cutbox-door.mjs). By AI agents, Wed Nov 11 2026. No macro, syntax, notation, axiom, sorry.
-/
import Derived.Test.YtaddlkokencbkaaDoorRows
import GoSem.ClaimSeven
namespace Go.Proofs.YtaddlkokencbkaaDoor
namespace Rows

/-- THE TIED CARD OF 'pantographlaw05.ImageReads'. -/
def imageReadsCard : Claim7 := { stood := { row := imageReadsRow, standIns := [], harness := (true, "3f84123bbe1a2f10575d104b44fca05c5996c2285ac2919fa49198d27cb40dde"), looks := false }, kinds := [], alts := [], laidByText := true, laidKinds := [.data, .pinned], laidTests := true, laidLooks := .later }
def ImageReadsCardSaid : Prop := Claim7.holds Tryd.pinned (.plain (OpenSpec.ofChange imageReadsSpec)) imageReadsCard

/-- THE TIED CARD OF 'pantographlaw05.ImageRound'. -/
def imageRoundCard : Claim7 := { stood := { row := imageRoundRow, standIns := [], harness := (true, "3f84123bbe1a2f10575d104b44fca05c5996c2285ac2919fa49198d27cb40dde"), looks := false }, kinds := [], alts := [], laidByText := true, laidKinds := [.data, .pinned], laidTests := true, laidLooks := .later }
def ImageRoundCardSaid : Prop := Claim7.holds Tryd.pinned (.plain (OpenSpec.ofChange imageRoundSpec)) imageRoundCard

/-- THE TIED CARD OF 'pantographlaw03.ValueOrders'. -/
def valueOrdersCard : Claim7 := { stood := { row := valueOrdersRow, standIns := [], harness := (true, "3f84123bbe1a2f10575d104b44fca05c5996c2285ac2919fa49198d27cb40dde"), looks := false }, kinds := [], alts := [], laidByText := true, laidKinds := [.data, .data, .data, .data, .pinned], laidTests := true, laidLooks := .later }
def ValueOrdersCardSaid : Prop := Claim7.holds Tryd.pinned (.plain (OpenSpec.ofChange valueOrdersSpec)) valueOrdersCard

/-- THE TIED CARD OF 'pantographlaw03.ValueShows'. -/
def valueShowsCard : Claim7 := { stood := { row := valueShowsRow, standIns := [], harness := (true, "3f84123bbe1a2f10575d104b44fca05c5996c2285ac2919fa49198d27cb40dde"), looks := false }, kinds := [], alts := [], laidByText := true, laidKinds := [.data, .data, .data, .data, .pinned], laidTests := true, laidLooks := .later }
def ValueShowsCardSaid : Prop := Claim7.holds Tryd.pinned (.plain (OpenSpec.ofChange valueShowsSpec)) valueShowsCard

/-- THE TIED CARD OF 'pantographlaw03.ValueParts'. -/
def valuePartsCard : Claim7 := { stood := { row := valuePartsRow, standIns := [], harness := (true, "3f84123bbe1a2f10575d104b44fca05c5996c2285ac2919fa49198d27cb40dde"), looks := false }, kinds := [], alts := [], laidByText := true, laidKinds := [.data, .data, .data, .data, .pinned], laidTests := true, laidLooks := .later }
def ValuePartsCardSaid : Prop := Claim7.holds Tryd.pinned (.plain (OpenSpec.ofChange valuePartsSpec)) valuePartsCard

/-- THE TIED CARD OF 'pantographlaw03.ValueMay'. -/
def valueMayCard : Claim7 := { stood := { row := valueMayRow, standIns := [], harness := (true, "3f84123bbe1a2f10575d104b44fca05c5996c2285ac2919fa49198d27cb40dde"), looks := false }, kinds := [], alts := [], laidByText := true, laidKinds := [.data, .data, .data, .data, .pinned], laidTests := true, laidLooks := .later }
def ValueMayCardSaid : Prop := Claim7.holds Tryd.pinned (.plain (OpenSpec.ofChange valueMaySpec)) valueMayCard

/-- THE TIED CARD OF 'pantographlaw03.ValueKeys'. -/
def valueKeysCard : Claim7 := { stood := { row := valueKeysRow, standIns := [], harness := (true, "3f84123bbe1a2f10575d104b44fca05c5996c2285ac2919fa49198d27cb40dde"), looks := false }, kinds := [], alts := [], laidByText := true, laidKinds := [.data, .data, .data, .data, .pinned], laidTests := true, laidLooks := .later }
def ValueKeysCardSaid : Prop := Claim7.holds Tryd.pinned (.plain (OpenSpec.ofChange valueKeysSpec)) valueKeysCard

/-- THE TIED CARD OF 'pantographlaw03.ValueReads'. -/
def valueReadsCard : Claim7 := { stood := { row := valueReadsRow, standIns := [], harness := (true, "3f84123bbe1a2f10575d104b44fca05c5996c2285ac2919fa49198d27cb40dde"), looks := false }, kinds := [], alts := [], laidByText := true, laidKinds := [.data, .data, .data, .data, .pinned], laidTests := true, laidLooks := .later }
def ValueReadsCardSaid : Prop := Claim7.holds Tryd.pinned (.plain (OpenSpec.ofChange valueReadsSpec)) valueReadsCard

/-- THE TIED CARD OF 'pantographlaw03.ValueBytes'. -/
def valueBytesCard : Claim7 := { stood := { row := valueBytesRow, standIns := [], harness := (true, "3f84123bbe1a2f10575d104b44fca05c5996c2285ac2919fa49198d27cb40dde"), looks := false }, kinds := [], alts := [], laidByText := true, laidKinds := [.data, .data, .data, .data, .pinned], laidTests := true, laidLooks := .later }
def ValueBytesCardSaid : Prop := Claim7.holds Tryd.pinned (.plain (OpenSpec.ofChange valueBytesSpec)) valueBytesCard

/-- THE SECOND FORM's CARD OF 'pantographlaw05.ImageReads'. -/
def imageReadsUptoCard : Claim7 := { stood := { row := imageReadsUptoRow, standIns := [], harness := (true, "3f84123bbe1a2f10575d104b44fca05c5996c2285ac2919fa49198d27cb40dde"), looks := false }, kinds := [], alts := [], laidByText := true, laidKinds := [.data, .pinned], laidTests := true, laidLooks := .later }
def ImageReadsUptoCardSaid : Prop := Claim7.holds Tryd.pinned (.plain (OpenSpec.upto imageReadsSpec)) imageReadsUptoCard

/-- THE SECOND FORM's CARD OF 'pantographlaw05.ImageRound'. -/
def imageRoundUptoCard : Claim7 := { stood := { row := imageRoundUptoRow, standIns := [], harness := (true, "3f84123bbe1a2f10575d104b44fca05c5996c2285ac2919fa49198d27cb40dde"), looks := false }, kinds := [], alts := [], laidByText := true, laidKinds := [.data, .pinned], laidTests := true, laidLooks := .later }
def ImageRoundUptoCardSaid : Prop := Claim7.holds Tryd.pinned (.plain (OpenSpec.upto imageRoundSpec)) imageRoundUptoCard

/-- THE SECOND FORM's CARD OF 'pantographlaw03.ValueOrders'. -/
def valueOrdersUptoCard : Claim7 := { stood := { row := valueOrdersUptoRow, standIns := [], harness := (true, "3f84123bbe1a2f10575d104b44fca05c5996c2285ac2919fa49198d27cb40dde"), looks := false }, kinds := [], alts := [], laidByText := true, laidKinds := [.data, .data, .data, .data, .pinned], laidTests := true, laidLooks := .later }
def ValueOrdersUptoCardSaid : Prop := Claim7.holds Tryd.pinned (.plain (OpenSpec.upto valueOrdersSpec)) valueOrdersUptoCard

/-- THE SECOND FORM's CARD OF 'pantographlaw03.ValueShows'. -/
def valueShowsUptoCard : Claim7 := { stood := { row := valueShowsUptoRow, standIns := [], harness := (true, "3f84123bbe1a2f10575d104b44fca05c5996c2285ac2919fa49198d27cb40dde"), looks := false }, kinds := [], alts := [], laidByText := true, laidKinds := [.data, .data, .data, .data, .pinned], laidTests := true, laidLooks := .later }
def ValueShowsUptoCardSaid : Prop := Claim7.holds Tryd.pinned (.plain (OpenSpec.upto valueShowsSpec)) valueShowsUptoCard

/-- THE SECOND FORM's CARD OF 'pantographlaw03.ValueParts'. -/
def valuePartsUptoCard : Claim7 := { stood := { row := valuePartsUptoRow, standIns := [], harness := (true, "3f84123bbe1a2f10575d104b44fca05c5996c2285ac2919fa49198d27cb40dde"), looks := false }, kinds := [], alts := [], laidByText := true, laidKinds := [.data, .data, .data, .data, .pinned], laidTests := true, laidLooks := .later }
def ValuePartsUptoCardSaid : Prop := Claim7.holds Tryd.pinned (.plain (OpenSpec.upto valuePartsSpec)) valuePartsUptoCard

/-- THE SECOND FORM's CARD OF 'pantographlaw03.ValueMay'. -/
def valueMayUptoCard : Claim7 := { stood := { row := valueMayUptoRow, standIns := [], harness := (true, "3f84123bbe1a2f10575d104b44fca05c5996c2285ac2919fa49198d27cb40dde"), looks := false }, kinds := [], alts := [], laidByText := true, laidKinds := [.data, .data, .data, .data, .pinned], laidTests := true, laidLooks := .later }
def ValueMayUptoCardSaid : Prop := Claim7.holds Tryd.pinned (.plain (OpenSpec.upto valueMaySpec)) valueMayUptoCard

/-- THE SECOND FORM's CARD OF 'pantographlaw03.ValueKeys'. -/
def valueKeysUptoCard : Claim7 := { stood := { row := valueKeysUptoRow, standIns := [], harness := (true, "3f84123bbe1a2f10575d104b44fca05c5996c2285ac2919fa49198d27cb40dde"), looks := false }, kinds := [], alts := [], laidByText := true, laidKinds := [.data, .data, .data, .data, .pinned], laidTests := true, laidLooks := .later }
def ValueKeysUptoCardSaid : Prop := Claim7.holds Tryd.pinned (.plain (OpenSpec.upto valueKeysSpec)) valueKeysUptoCard

/-- THE SECOND FORM's CARD OF 'pantographlaw03.ValueReads'. -/
def valueReadsUptoCard : Claim7 := { stood := { row := valueReadsUptoRow, standIns := [], harness := (true, "3f84123bbe1a2f10575d104b44fca05c5996c2285ac2919fa49198d27cb40dde"), looks := false }, kinds := [], alts := [], laidByText := true, laidKinds := [.data, .data, .data, .data, .pinned], laidTests := true, laidLooks := .later }
def ValueReadsUptoCardSaid : Prop := Claim7.holds Tryd.pinned (.plain (OpenSpec.upto valueReadsSpec)) valueReadsUptoCard

/-- THE SECOND FORM's CARD OF 'pantographlaw03.ValueBytes'. -/
def valueBytesUptoCard : Claim7 := { stood := { row := valueBytesUptoRow, standIns := [], harness := (true, "3f84123bbe1a2f10575d104b44fca05c5996c2285ac2919fa49198d27cb40dde"), looks := false }, kinds := [], alts := [], laidByText := true, laidKinds := [.data, .data, .data, .data, .pinned], laidTests := true, laidLooks := .later }
def ValueBytesUptoCardSaid : Prop := Claim7.holds Tryd.pinned (.plain (OpenSpec.upto valueBytesSpec)) valueBytesUptoCard
end Rows
end Go.Proofs.YtaddlkokencbkaaDoor
