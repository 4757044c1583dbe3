/-
  DERIVED. GIVEN WITH THE SEED: THE CARDS: each row of YtjaegolanbjgfaaDoorRows.lean that lists a variable, with what it lists TIED to the program's text (the seventh form; the later family's looks); each row that meets fmt, with fmt's text TOLD by the authors' own Lean function (tested against real Go, not proved from fmt's source: count such statements apart). THE CARD IS WHAT COUNTS. Prove the row's statement (the work); the ties are given (YtjaegolanbjgfaaDoorTie.lean); close each card by the builder's one call (the guide's Derived/Test/ToyasCard.lean, 'card_holds'). Laid BY PROGRAM, IN A SANDBOX (cutbox-door.mjs). By AI agents, Wed Nov 11 2026. No macro, syntax, notation, axiom, sorry.
-/
import Derived.Test.YtjaegolanbjgfaaDoorRows
import GoSem.ClaimSeven
namespace Go.Proofs.YtjaegolanbjgfaaDoor
namespace Rows

/-- THE TIED CARD OF 'pledgelaw20.AllocBest'. -/
def allocBestCard : Claim7 := { stood := { row := allocBestRow, standIns := [], harness := (true, "0868dd9780099cbf1dfca38c3981adffec88ae1e888af9a2fe57fe4173710fad"), looks := true }, kinds := [], alts := [], laidByText := true, laidKinds := [.sentinel, .sentinel, .sentinel, .sentinel, .sentinel, .sentinel, .sentinel, .sentinel, .sentinel, .sentinel, .sentinel, .sentinel, .sentinel, .sentinel, .sentinel, .sentinel, .sentinel, .sentinel, .sentinel, .sentinel, .sentinel], laidTests := true, laidLooks := .later }
def AllocBestCardSaid : Prop := Claim7.holds Tryd.pinned (.plain (OpenSpec.ofChange allocBestSpec)) allocBestCard

/-- THE TIED CARD OF 'pledgelaw20.AllocSame'. -/
def allocSameCard : Claim7 := { stood := { row := allocSameRow, standIns := [], harness := (true, "0868dd9780099cbf1dfca38c3981adffec88ae1e888af9a2fe57fe4173710fad"), looks := true }, kinds := [], alts := [], laidByText := true, laidKinds := [.sentinel, .sentinel, .sentinel], laidTests := true, laidLooks := .later }
def AllocSameCardSaid : Prop := Claim7.holds Tryd.pinned (.plain (OpenSpec.ofChange allocSameSpec)) allocSameCard

/-- THE TIED CARD OF 'pledgelaw20.AllocOne'. -/
def allocOneCard : Claim7 := { stood := { row := allocOneRow, standIns := [], harness := (true, "0868dd9780099cbf1dfca38c3981adffec88ae1e888af9a2fe57fe4173710fad"), looks := true }, kinds := [], alts := [], laidByText := true, laidKinds := [.sentinel, .sentinel, .sentinel], laidTests := true, laidLooks := .later }
def AllocOneCardSaid : Prop := Claim7.holds Tryd.pinned (.plain (OpenSpec.ofChange allocOneSpec)) allocOneCard

/-- THE TIED CARD OF 'pledgelaw20.AllocCaps'. -/
def allocCapsCard : Claim7 := { stood := { row := allocCapsRow, standIns := [], harness := (true, "0868dd9780099cbf1dfca38c3981adffec88ae1e888af9a2fe57fe4173710fad"), looks := true }, kinds := [], alts := [], laidByText := true, laidKinds := [.sentinel, .sentinel, .sentinel], laidTests := true, laidLooks := .later }
def AllocCapsCardSaid : Prop := Claim7.holds Tryd.pinned (.plain (OpenSpec.ofChange allocCapsSpec)) allocCapsCard

/-- THE TIED CARD OF 'pledgelaw20.AllocMore'. -/
def allocMoreCard : Claim7 := { stood := { row := allocMoreRow, standIns := [], harness := (true, "0868dd9780099cbf1dfca38c3981adffec88ae1e888af9a2fe57fe4173710fad"), looks := true }, kinds := [], alts := [], laidByText := true, laidKinds := [.sentinel, .sentinel, .sentinel], laidTests := true, laidLooks := .later }
def AllocMoreCardSaid : Prop := Claim7.holds Tryd.pinned (.plain (OpenSpec.ofChange allocMoreSpec)) allocMoreCard

/-- THE TIED CARD OF 'pledgelaw20.AllocCosts'. -/
def allocCostsCard : Claim7 := { stood := { row := allocCostsRow, standIns := [], harness := (true, "0868dd9780099cbf1dfca38c3981adffec88ae1e888af9a2fe57fe4173710fad"), looks := true }, kinds := [], alts := [], laidByText := true, laidKinds := [.sentinel, .sentinel, .sentinel, .sentinel, .sentinel, .sentinel, .sentinel, .sentinel, .sentinel, .sentinel, .sentinel, .sentinel, .sentinel, .sentinel, .sentinel, .sentinel, .sentinel, .sentinel, .sentinel, .sentinel, .sentinel], laidTests := true, laidLooks := .later }
def AllocCostsCardSaid : Prop := Claim7.holds Tryd.pinned (.plain (OpenSpec.ofChange allocCostsSpec)) allocCostsCard

/-- THE TIED CARD OF 'pledgelaw21.CertTakes'. -/
def certTakesCard : Claim7 := { stood := { row := certTakesRow, standIns := [], harness := (true, "0868dd9780099cbf1dfca38c3981adffec88ae1e888af9a2fe57fe4173710fad"), looks := true }, kinds := [], alts := [], laidByText := true, laidKinds := [.sentinel, .sentinel, .sentinel, .sentinel, .sentinel, .sentinel, .sentinel, .sentinel, .sentinel, .sentinel, .sentinel, .sentinel, .sentinel, .sentinel, .sentinel, .sentinel, .sentinel, .sentinel, .sentinel, .sentinel, .sentinel], laidTests := true, laidLooks := .later }
def CertTakesCardSaid : Prop := Claim7.holds Tryd.pinned (.plain (OpenSpec.ofChange certTakesSpec)) certTakesCard

/-- THE SECOND FORM's CARD OF 'pledgelaw20.AllocBest'. -/
def allocBestUptoCard : Claim7 := { stood := { row := allocBestUptoRow, standIns := [], harness := (true, "0868dd9780099cbf1dfca38c3981adffec88ae1e888af9a2fe57fe4173710fad"), looks := true }, kinds := [], alts := [], laidByText := true, laidKinds := [.sentinel, .sentinel, .sentinel, .sentinel, .sentinel, .sentinel, .sentinel, .sentinel, .sentinel, .sentinel, .sentinel, .sentinel, .sentinel, .sentinel, .sentinel, .sentinel, .sentinel, .sentinel, .sentinel, .sentinel, .sentinel], laidTests := true, laidLooks := .later }
def AllocBestUptoCardSaid : Prop := Claim7.holds Tryd.pinned (.plain (OpenSpec.upto allocBestSpec)) allocBestUptoCard

/-- THE SECOND FORM's CARD OF 'pledgelaw20.AllocSame'. -/
def allocSameUptoCard : Claim7 := { stood := { row := allocSameUptoRow, standIns := [], harness := (true, "0868dd9780099cbf1dfca38c3981adffec88ae1e888af9a2fe57fe4173710fad"), looks := true }, kinds := [], alts := [], laidByText := true, laidKinds := [.sentinel, .sentinel, .sentinel], laidTests := true, laidLooks := .later }
def AllocSameUptoCardSaid : Prop := Claim7.holds Tryd.pinned (.plain (OpenSpec.upto allocSameSpec)) allocSameUptoCard

/-- THE SECOND FORM's CARD OF 'pledgelaw20.AllocOne'. -/
def allocOneUptoCard : Claim7 := { stood := { row := allocOneUptoRow, standIns := [], harness := (true, "0868dd9780099cbf1dfca38c3981adffec88ae1e888af9a2fe57fe4173710fad"), looks := true }, kinds := [], alts := [], laidByText := true, laidKinds := [.sentinel, .sentinel, .sentinel], laidTests := true, laidLooks := .later }
def AllocOneUptoCardSaid : Prop := Claim7.holds Tryd.pinned (.plain (OpenSpec.upto allocOneSpec)) allocOneUptoCard

/-- THE SECOND FORM's CARD OF 'pledgelaw20.AllocCaps'. -/
def allocCapsUptoCard : Claim7 := { stood := { row := allocCapsUptoRow, standIns := [], harness := (true, "0868dd9780099cbf1dfca38c3981adffec88ae1e888af9a2fe57fe4173710fad"), looks := true }, kinds := [], alts := [], laidByText := true, laidKinds := [.sentinel, .sentinel, .sentinel], laidTests := true, laidLooks := .later }
def AllocCapsUptoCardSaid : Prop := Claim7.holds Tryd.pinned (.plain (OpenSpec.upto allocCapsSpec)) allocCapsUptoCard

/-- THE SECOND FORM's CARD OF 'pledgelaw20.AllocMore'. -/
def allocMoreUptoCard : Claim7 := { stood := { row := allocMoreUptoRow, standIns := [], harness := (true, "0868dd9780099cbf1dfca38c3981adffec88ae1e888af9a2fe57fe4173710fad"), looks := true }, kinds := [], alts := [], laidByText := true, laidKinds := [.sentinel, .sentinel, .sentinel], laidTests := true, laidLooks := .later }
def AllocMoreUptoCardSaid : Prop := Claim7.holds Tryd.pinned (.plain (OpenSpec.upto allocMoreSpec)) allocMoreUptoCard

/-- THE SECOND FORM's CARD OF 'pledgelaw20.AllocCosts'. -/
def allocCostsUptoCard : Claim7 := { stood := { row := allocCostsUptoRow, standIns := [], harness := (true, "0868dd9780099cbf1dfca38c3981adffec88ae1e888af9a2fe57fe4173710fad"), looks := true }, kinds := [], alts := [], laidByText := true, laidKinds := [.sentinel, .sentinel, .sentinel, .sentinel, .sentinel, .sentinel, .sentinel, .sentinel, .sentinel, .sentinel, .sentinel, .sentinel, .sentinel, .sentinel, .sentinel, .sentinel, .sentinel, .sentinel, .sentinel, .sentinel, .sentinel], laidTests := true, laidLooks := .later }
def AllocCostsUptoCardSaid : Prop := Claim7.holds Tryd.pinned (.plain (OpenSpec.upto allocCostsSpec)) allocCostsUptoCard

/-- THE SECOND FORM's CARD OF 'pledgelaw21.CertTakes'. -/
def certTakesUptoCard : Claim7 := { stood := { row := certTakesUptoRow, standIns := [], harness := (true, "0868dd9780099cbf1dfca38c3981adffec88ae1e888af9a2fe57fe4173710fad"), looks := true }, kinds := [], alts := [], laidByText := true, laidKinds := [.sentinel, .sentinel, .sentinel, .sentinel, .sentinel, .sentinel, .sentinel, .sentinel, .sentinel, .sentinel, .sentinel, .sentinel, .sentinel, .sentinel, .sentinel, .sentinel, .sentinel, .sentinel, .sentinel, .sentinel, .sentinel], laidTests := true, laidLooks := .later }
def CertTakesUptoCardSaid : Prop := Claim7.holds Tryd.pinned (.plain (OpenSpec.upto certTakesSpec)) certTakesUptoCard
end Rows
end Go.Proofs.YtjaegolanbjgfaaDoor
