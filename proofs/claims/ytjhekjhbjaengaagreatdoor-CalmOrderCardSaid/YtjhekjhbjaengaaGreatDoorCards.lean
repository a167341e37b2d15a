/-
  DERIVED. GIVEN WITH THE SEED: THE CARDS: each row of YtjhekjhbjaengaaGreatDoorRows.lean that lists a variable, with what it lists TIED to the program's text (the seventh form; the later family's looks); each row that meets fmt, with fmt's text TOLD by the authors' own Lean function (tested against real Go, not proved from fmt's source: count such statements apart). THE CARD IS WHAT COUNTS. Prove the row's statement (the work); the ties are given (YtjhekjhbjaengaaGreatDoorTie.lean); close each card by the builder's one call (the guide's Derived/Test/ToyasCard.lean, 'card_holds'). Laid BY PROGRAM, IN A SANDBOX (cutbox-door.mjs). By AI agents, Wed Nov 11 2026. No macro, syntax, notation, axiom, sorry.
-/
import Derived.Test.YtjhekjhbjaengaaGreatDoorRows
import GoSem.ClaimSeven
namespace Go.Proofs.YtjhekjhbjaengaaGreatDoor
namespace Rows

/-- THE TIED CARD OF 'drumlinelaw16.SteerFollows'. -/
def steerFollowsCard : Claim7 := { stood := { row := steerFollowsRow, standIns := [], harness := (true, "e1b8a6a6ba95adb17276956bbf0c18be5d1c5a6763c33a4a9e8687d0219b0fcb"), looks := true }, kinds := [], alts := [], laidByText := true, laidKinds := [.handle, .sentinel], laidTests := true, laidLooks := .later }
def SteerFollowsCardSaid : Prop := Claim7.holds Tryz.pinned (.plain (OpenSpec.ofChange steerFollowsSpec)) steerFollowsCard

/-- THE TIED CARD OF 'drumlinelaw16.SteerClamps'. -/
def steerClampsCard : Claim7 := { stood := { row := steerClampsRow, standIns := [], harness := (true, "e1b8a6a6ba95adb17276956bbf0c18be5d1c5a6763c33a4a9e8687d0219b0fcb"), looks := true }, kinds := [], alts := [], laidByText := true, laidKinds := [.handle, .sentinel], laidTests := true, laidLooks := .later }
def SteerClampsCardSaid : Prop := Claim7.holds Tryz.pinned (.plain (OpenSpec.ofChange steerClampsSpec)) steerClampsCard

/-- THE TIED CARD OF 'drumlinelaw16.SteerMeets'. -/
def steerMeetsCard : Claim7 := { stood := { row := steerMeetsRow, standIns := [], harness := (true, "e1b8a6a6ba95adb17276956bbf0c18be5d1c5a6763c33a4a9e8687d0219b0fcb"), looks := true }, kinds := [], alts := [], laidByText := true, laidKinds := [.handle, .sentinel], laidTests := true, laidLooks := .later }
def SteerMeetsCardSaid : Prop := Claim7.holds Tryz.pinned (.plain (OpenSpec.ofChange steerMeetsSpec)) steerMeetsCard

/-- THE TIED CARD OF 'drumlinelaw29.CalmTells'. -/
def calmTellsCard : Claim7 := { stood := { row := calmTellsRow, standIns := [], harness := (true, "e1b8a6a6ba95adb17276956bbf0c18be5d1c5a6763c33a4a9e8687d0219b0fcb"), looks := true }, kinds := [], alts := [], laidByText := true, laidKinds := [.handle, .sentinel], laidTests := true, laidLooks := .later }
def CalmTellsCardSaid : Prop := Claim7.holds Tryz.pinned (.plain (OpenSpec.ofChange calmTellsSpec)) calmTellsCard

/-- THE TIED CARD OF 'drumlinelaw29.CalmMade'. -/
def calmMadeCard : Claim7 := { stood := { row := calmMadeRow, standIns := [], harness := (true, "e1b8a6a6ba95adb17276956bbf0c18be5d1c5a6763c33a4a9e8687d0219b0fcb"), looks := true }, kinds := [], alts := [], laidByText := true, laidKinds := [.handle, .sentinel], laidTests := true, laidLooks := .later }
def CalmMadeCardSaid : Prop := Claim7.holds Tryz.pinned (.plain (OpenSpec.ofChange calmMadeSpec)) calmMadeCard

/-- THE TIED CARD OF 'drumlinelaw29.CalmOrder'. -/
def calmOrderCard : Claim7 := { stood := { row := calmOrderRow, standIns := [], harness := (true, "e1b8a6a6ba95adb17276956bbf0c18be5d1c5a6763c33a4a9e8687d0219b0fcb"), looks := true }, kinds := [], alts := [], laidByText := true, laidKinds := [.handle, .sentinel], laidTests := true, laidLooks := .later }
def CalmOrderCardSaid : Prop := Claim7.holds Tryz.pinned (.plain (OpenSpec.ofChange calmOrderSpec)) calmOrderCard

/-- THE TIED CARD OF 'drumlinelaw12.GaugeBegins'. -/
def gaugeBeginsCard : Claim7 := { stood := { row := gaugeBeginsRow, standIns := [], harness := (true, "e1b8a6a6ba95adb17276956bbf0c18be5d1c5a6763c33a4a9e8687d0219b0fcb"), looks := true }, kinds := [], alts := [], laidByText := true, laidKinds := [.handle, .sentinel], laidTests := true, laidLooks := .later }
def GaugeBeginsCardSaid : Prop := Claim7.holds Tryz.pinned (.plain (OpenSpec.ofChange gaugeBeginsSpec)) gaugeBeginsCard

/-- THE TIED CARD OF 'drumlinelaw12.GaugeAlike'. -/
def gaugeAlikeCard : Claim7 := { stood := { row := gaugeAlikeRow, standIns := [], harness := (true, "e1b8a6a6ba95adb17276956bbf0c18be5d1c5a6763c33a4a9e8687d0219b0fcb"), looks := true }, kinds := [], alts := [], laidByText := true, laidKinds := [.handle, .sentinel], laidTests := true, laidLooks := .later }
def GaugeAlikeCardSaid : Prop := Claim7.holds Tryz.pinned (.plain (OpenSpec.ofChange gaugeAlikeSpec)) gaugeAlikeCard

/-- THE TIED CARD OF 'drumlinelaw16.SteerAdopts'. -/
def steerAdoptsCard : Claim7 := { stood := { row := steerAdoptsRow, standIns := [], harness := (true, "e1b8a6a6ba95adb17276956bbf0c18be5d1c5a6763c33a4a9e8687d0219b0fcb"), looks := true }, kinds := [], alts := [], laidByText := true, laidKinds := [.handle, .sentinel], laidTests := true, laidLooks := .later }
def SteerAdoptsCardSaid : Prop := Claim7.holds Tryz.pinned (.plain (OpenSpec.ofChange steerAdoptsSpec)) steerAdoptsCard

/-- THE SECOND FORM's CARD OF 'drumlinelaw16.SteerFollows'. -/
def steerFollowsUptoCard : Claim7 := { stood := { row := steerFollowsUptoRow, standIns := [], harness := (true, "e1b8a6a6ba95adb17276956bbf0c18be5d1c5a6763c33a4a9e8687d0219b0fcb"), looks := true }, kinds := [], alts := [], laidByText := true, laidKinds := [.handle, .sentinel], laidTests := true, laidLooks := .later }
def SteerFollowsUptoCardSaid : Prop := Claim7.holds Tryz.pinned (.plain (OpenSpec.upto steerFollowsSpec)) steerFollowsUptoCard

/-- THE SECOND FORM's CARD OF 'drumlinelaw16.SteerClamps'. -/
def steerClampsUptoCard : Claim7 := { stood := { row := steerClampsUptoRow, standIns := [], harness := (true, "e1b8a6a6ba95adb17276956bbf0c18be5d1c5a6763c33a4a9e8687d0219b0fcb"), looks := true }, kinds := [], alts := [], laidByText := true, laidKinds := [.handle, .sentinel], laidTests := true, laidLooks := .later }
def SteerClampsUptoCardSaid : Prop := Claim7.holds Tryz.pinned (.plain (OpenSpec.upto steerClampsSpec)) steerClampsUptoCard

/-- THE SECOND FORM's CARD OF 'drumlinelaw16.SteerMeets'. -/
def steerMeetsUptoCard : Claim7 := { stood := { row := steerMeetsUptoRow, standIns := [], harness := (true, "e1b8a6a6ba95adb17276956bbf0c18be5d1c5a6763c33a4a9e8687d0219b0fcb"), looks := true }, kinds := [], alts := [], laidByText := true, laidKinds := [.handle, .sentinel], laidTests := true, laidLooks := .later }
def SteerMeetsUptoCardSaid : Prop := Claim7.holds Tryz.pinned (.plain (OpenSpec.upto steerMeetsSpec)) steerMeetsUptoCard

/-- THE SECOND FORM's CARD OF 'drumlinelaw29.CalmTells'. -/
def calmTellsUptoCard : Claim7 := { stood := { row := calmTellsUptoRow, standIns := [], harness := (true, "e1b8a6a6ba95adb17276956bbf0c18be5d1c5a6763c33a4a9e8687d0219b0fcb"), looks := true }, kinds := [], alts := [], laidByText := true, laidKinds := [.handle, .sentinel], laidTests := true, laidLooks := .later }
def CalmTellsUptoCardSaid : Prop := Claim7.holds Tryz.pinned (.plain (OpenSpec.upto calmTellsSpec)) calmTellsUptoCard

/-- THE SECOND FORM's CARD OF 'drumlinelaw29.CalmMade'. -/
def calmMadeUptoCard : Claim7 := { stood := { row := calmMadeUptoRow, standIns := [], harness := (true, "e1b8a6a6ba95adb17276956bbf0c18be5d1c5a6763c33a4a9e8687d0219b0fcb"), looks := true }, kinds := [], alts := [], laidByText := true, laidKinds := [.handle, .sentinel], laidTests := true, laidLooks := .later }
def CalmMadeUptoCardSaid : Prop := Claim7.holds Tryz.pinned (.plain (OpenSpec.upto calmMadeSpec)) calmMadeUptoCard

/-- THE SECOND FORM's CARD OF 'drumlinelaw29.CalmOrder'. -/
def calmOrderUptoCard : Claim7 := { stood := { row := calmOrderUptoRow, standIns := [], harness := (true, "e1b8a6a6ba95adb17276956bbf0c18be5d1c5a6763c33a4a9e8687d0219b0fcb"), looks := true }, kinds := [], alts := [], laidByText := true, laidKinds := [.handle, .sentinel], laidTests := true, laidLooks := .later }
def CalmOrderUptoCardSaid : Prop := Claim7.holds Tryz.pinned (.plain (OpenSpec.upto calmOrderSpec)) calmOrderUptoCard

/-- THE SECOND FORM's CARD OF 'drumlinelaw12.GaugeBegins'. -/
def gaugeBeginsUptoCard : Claim7 := { stood := { row := gaugeBeginsUptoRow, standIns := [], harness := (true, "e1b8a6a6ba95adb17276956bbf0c18be5d1c5a6763c33a4a9e8687d0219b0fcb"), looks := true }, kinds := [], alts := [], laidByText := true, laidKinds := [.handle, .sentinel], laidTests := true, laidLooks := .later }
def GaugeBeginsUptoCardSaid : Prop := Claim7.holds Tryz.pinned (.plain (OpenSpec.upto gaugeBeginsSpec)) gaugeBeginsUptoCard

/-- THE SECOND FORM's CARD OF 'drumlinelaw12.GaugeAlike'. -/
def gaugeAlikeUptoCard : Claim7 := { stood := { row := gaugeAlikeUptoRow, standIns := [], harness := (true, "e1b8a6a6ba95adb17276956bbf0c18be5d1c5a6763c33a4a9e8687d0219b0fcb"), looks := true }, kinds := [], alts := [], laidByText := true, laidKinds := [.handle, .sentinel], laidTests := true, laidLooks := .later }
def GaugeAlikeUptoCardSaid : Prop := Claim7.holds Tryz.pinned (.plain (OpenSpec.upto gaugeAlikeSpec)) gaugeAlikeUptoCard

/-- THE SECOND FORM's CARD OF 'drumlinelaw16.SteerAdopts'. -/
def steerAdoptsUptoCard : Claim7 := { stood := { row := steerAdoptsUptoRow, standIns := [], harness := (true, "e1b8a6a6ba95adb17276956bbf0c18be5d1c5a6763c33a4a9e8687d0219b0fcb"), looks := true }, kinds := [], alts := [], laidByText := true, laidKinds := [.handle, .sentinel], laidTests := true, laidLooks := .later }
def SteerAdoptsUptoCardSaid : Prop := Claim7.holds Tryz.pinned (.plain (OpenSpec.upto steerAdoptsSpec)) steerAdoptsUptoCard
end Rows
end Go.Proofs.YtjhekjhbjaengaaGreatDoor
