/-
  DERIVED. GIVEN WITH THE SEED: THE CARDS: each row of YtcllhahbhmehkaaGreatDoorRows.lean that lists a variable, with what it lists TIED to the program's text (the seventh form; the later family's looks); each row that meets fmt, with fmt's text TOLD by the authors' own Lean function (tested against real Go, not proved from fmt's source: count such statements apart). THE CARD IS WHAT COUNTS. Prove the row's statement (the work); the ties are given (YtcllhahbhmehkaaGreatDoorTie.lean); close each card by the builder's one call (the guide's Derived/Test/ToyasCard.lean, 'card_holds'). Laid BY PROGRAM, IN A SANDBOX (cutbox-door.mjs). By AI agents, Wed Nov 11 2026. No macro, syntax, notation, axiom, sorry.
-/
import Derived.Test.YtcllhahbhmehkaaGreatDoorRows
import GoSem.ClaimSeven
namespace Go.Proofs.YtcllhahbhmehkaaGreatDoor
namespace Rows

/-- THE TIED CARD OF 'paideialaw14.EntailMore'. -/
def entailMoreCard : Claim7 := { stood := { row := entailMoreRow, standIns := [], harness := (true, "baff837dda469a4c0c14993fed81e181a9715264097b0695eb600efbf6943e93"), looks := true }, kinds := [], alts := [], laidByText := true, laidKinds := [.sentinel, .sentinel, .sentinel, .sentinel], laidTests := true, laidLooks := .later }
def EntailMoreCardSaid : Prop := Claim7.holds Tryz.pinned (.plain (OpenSpec.ofChange entailMoreSpec)) entailMoreCard

/-- THE TIED CARD OF 'paideialaw14.EntailSteps'. -/
def entailStepsCard : Claim7 := { stood := { row := entailStepsRow, standIns := [], harness := (true, "baff837dda469a4c0c14993fed81e181a9715264097b0695eb600efbf6943e93"), looks := true }, kinds := [], alts := [], laidByText := true, laidKinds := [.sentinel, .sentinel, .sentinel, .sentinel], laidTests := true, laidLooks := .later }
def EntailStepsCardSaid : Prop := Claim7.holds Tryz.pinned (.plain (OpenSpec.ofChange entailStepsSpec)) entailStepsCard

/-- THE TIED CARD OF 'paideialaw14.EntailUps'. -/
def entailUpsCard : Claim7 := { stood := { row := entailUpsRow, standIns := [], harness := (true, "baff837dda469a4c0c14993fed81e181a9715264097b0695eb600efbf6943e93"), looks := true }, kinds := [], alts := [], laidByText := true, laidKinds := [.sentinel, .sentinel, .sentinel, .sentinel], laidTests := true, laidLooks := .later }
def EntailUpsCardSaid : Prop := Claim7.holds Tryz.pinned (.plain (OpenSpec.ofChange entailUpsSpec)) entailUpsCard

/-- THE TIED CARD OF 'paideialaw14.EntailSays'. -/
def entailSaysCard : Claim7 := { stood := { row := entailSaysRow, standIns := [], harness := (true, "baff837dda469a4c0c14993fed81e181a9715264097b0695eb600efbf6943e93"), looks := true }, kinds := [], alts := [], laidByText := true, laidKinds := [.sentinel, .sentinel, .sentinel, .sentinel, .sentinel, .sentinel, .sentinel, .sentinel, .sentinel, .sentinel, .sentinel, .sentinel, .sentinel, .sentinel, .sentinel], laidTests := true, laidLooks := .later }
def EntailSaysCardSaid : Prop := Claim7.holds Tryz.pinned (.plain (OpenSpec.ofChange entailSaysSpec)) entailSaysCard

/-- THE SECOND FORM's CARD OF 'paideialaw14.EntailMore'. -/
def entailMoreUptoCard : Claim7 := { stood := { row := entailMoreUptoRow, standIns := [], harness := (true, "baff837dda469a4c0c14993fed81e181a9715264097b0695eb600efbf6943e93"), looks := true }, kinds := [], alts := [], laidByText := true, laidKinds := [.sentinel, .sentinel, .sentinel, .sentinel], laidTests := true, laidLooks := .later }
def EntailMoreUptoCardSaid : Prop := Claim7.holds Tryz.pinned (.plain (OpenSpec.upto entailMoreSpec)) entailMoreUptoCard

/-- THE SECOND FORM's CARD OF 'paideialaw14.EntailSteps'. -/
def entailStepsUptoCard : Claim7 := { stood := { row := entailStepsUptoRow, standIns := [], harness := (true, "baff837dda469a4c0c14993fed81e181a9715264097b0695eb600efbf6943e93"), looks := true }, kinds := [], alts := [], laidByText := true, laidKinds := [.sentinel, .sentinel, .sentinel, .sentinel], laidTests := true, laidLooks := .later }
def EntailStepsUptoCardSaid : Prop := Claim7.holds Tryz.pinned (.plain (OpenSpec.upto entailStepsSpec)) entailStepsUptoCard

/-- THE SECOND FORM's CARD OF 'paideialaw14.EntailUps'. -/
def entailUpsUptoCard : Claim7 := { stood := { row := entailUpsUptoRow, standIns := [], harness := (true, "baff837dda469a4c0c14993fed81e181a9715264097b0695eb600efbf6943e93"), looks := true }, kinds := [], alts := [], laidByText := true, laidKinds := [.sentinel, .sentinel, .sentinel, .sentinel], laidTests := true, laidLooks := .later }
def EntailUpsUptoCardSaid : Prop := Claim7.holds Tryz.pinned (.plain (OpenSpec.upto entailUpsSpec)) entailUpsUptoCard

/-- THE SECOND FORM's CARD OF 'paideialaw14.EntailSays'. -/
def entailSaysUptoCard : Claim7 := { stood := { row := entailSaysUptoRow, standIns := [], harness := (true, "baff837dda469a4c0c14993fed81e181a9715264097b0695eb600efbf6943e93"), looks := true }, kinds := [], alts := [], laidByText := true, laidKinds := [.sentinel, .sentinel, .sentinel, .sentinel, .sentinel, .sentinel, .sentinel, .sentinel, .sentinel, .sentinel, .sentinel, .sentinel, .sentinel, .sentinel, .sentinel], laidTests := true, laidLooks := .later }
def EntailSaysUptoCardSaid : Prop := Claim7.holds Tryz.pinned (.plain (OpenSpec.upto entailSaysSpec)) entailSaysUptoCard
end Rows
end Go.Proofs.YtcllhahbhmehkaaGreatDoor
