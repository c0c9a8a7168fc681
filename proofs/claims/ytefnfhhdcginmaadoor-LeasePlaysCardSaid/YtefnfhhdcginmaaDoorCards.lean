/-
  DERIVED. GIVEN WITH THE SEED: THE CARDS: each row of YtefnfhhdcginmaaDoorRows.lean that lists a variable, with what it lists TIED to the program's text (the seventh form; the later family's looks); each row that meets fmt, with fmt's text TOLD by the authors' own Lean function (tested against real Go, not proved from fmt's source: count such statements apart). THE CARD IS WHAT COUNTS. Prove the row's statement (the work); the ties are given (YtefnfhhdcginmaaDoorTie.lean); close each card by the builder's one call (the guide's Derived/Test/ToyasCard.lean, 'card_holds'). Laid BY PROGRAM, IN A SANDBOX (cutbox-door.mjs). By AI agents, Wed Nov 11 2026. No macro, syntax, notation, axiom, sorry.
-/
import Derived.Test.YtefnfhhdcginmaaDoorRows
import GoSem.ClaimSeven
namespace Go.Proofs.YtefnfhhdcginmaaDoor
namespace Rows

/-- THE TIED CARD OF 'subwaylaw13.LeaseFull'. -/
def leaseFullCard : Claim7 := { stood := { row := leaseFullRow, standIns := [], harness := (true, "0f773da27b04cdb071e0144649102170e8d35bf1fa8e657794dbe83630e799fd"), looks := false }, kinds := [], alts := [], laidByText := true, laidKinds := [.data, .pinned], laidTests := true, laidLooks := .later }
def LeaseFullCardSaid : Prop := Claim7.holds Tryd.pinned (.plain (OpenSpec.ofChange leaseFullSpec)) leaseFullCard

/-- THE TIED CARD OF 'subwaylaw13.LeasePlays'. -/
def leasePlaysCard : Claim7 := { stood := { row := leasePlaysRow, standIns := [], harness := (true, "0f773da27b04cdb071e0144649102170e8d35bf1fa8e657794dbe83630e799fd"), looks := false }, kinds := [], alts := [], laidByText := true, laidKinds := [.data, .pinned], laidTests := true, laidLooks := .later }
def LeasePlaysCardSaid : Prop := Claim7.holds Tryd.pinned (.plain (OpenSpec.ofChange leasePlaysSpec)) leasePlaysCard

/-- THE TIED CARD OF 'subwaylaw13.LeaseOne'. -/
def leaseOneCard : Claim7 := { stood := { row := leaseOneRow, standIns := [], harness := (true, "0f773da27b04cdb071e0144649102170e8d35bf1fa8e657794dbe83630e799fd"), looks := false }, kinds := [], alts := [], laidByText := true, laidKinds := [.data, .pinned], laidTests := true, laidLooks := .later }
def LeaseOneCardSaid : Prop := Claim7.holds Tryd.pinned (.plain (OpenSpec.ofChange leaseOneSpec)) leaseOneCard

/-- THE TIED CARD OF 'subwaylaw13.LeaseEpochs'. -/
def leaseEpochsCard : Claim7 := { stood := { row := leaseEpochsRow, standIns := [], harness := (true, "0f773da27b04cdb071e0144649102170e8d35bf1fa8e657794dbe83630e799fd"), looks := false }, kinds := [], alts := [], laidByText := true, laidKinds := [.data, .pinned], laidTests := true, laidLooks := .later }
def LeaseEpochsCardSaid : Prop := Claim7.holds Tryd.pinned (.plain (OpenSpec.ofChange leaseEpochsSpec)) leaseEpochsCard

/-- THE TIED CARD OF 'subwaylaw13.LeaseKept'. -/
def leaseKeptCard : Claim7 := { stood := { row := leaseKeptRow, standIns := [], harness := (true, "0f773da27b04cdb071e0144649102170e8d35bf1fa8e657794dbe83630e799fd"), looks := false }, kinds := [], alts := [], laidByText := true, laidKinds := [.data, .pinned], laidTests := true, laidLooks := .later }
def LeaseKeptCardSaid : Prop := Claim7.holds Tryd.pinned (.plain (OpenSpec.ofChange leaseKeptSpec)) leaseKeptCard

/-- THE TIED CARD OF 'subwaylaw13.LeaseTimes'. -/
def leaseTimesCard : Claim7 := { stood := { row := leaseTimesRow, standIns := [], harness := (true, "0f773da27b04cdb071e0144649102170e8d35bf1fa8e657794dbe83630e799fd"), looks := false }, kinds := [], alts := [], laidByText := true, laidKinds := [.data, .pinned], laidTests := true, laidLooks := .later }
def LeaseTimesCardSaid : Prop := Claim7.holds Tryd.pinned (.plain (OpenSpec.ofChange leaseTimesSpec)) leaseTimesCard

/-- THE TIED CARD OF 'subwaylaw13.LeaseLeaves'. -/
def leaseLeavesCard : Claim7 := { stood := { row := leaseLeavesRow, standIns := [], harness := (true, "0f773da27b04cdb071e0144649102170e8d35bf1fa8e657794dbe83630e799fd"), looks := false }, kinds := [], alts := [], laidByText := true, laidKinds := [.data, .pinned], laidTests := true, laidLooks := .later }
def LeaseLeavesCardSaid : Prop := Claim7.holds Tryd.pinned (.plain (OpenSpec.ofChange leaseLeavesSpec)) leaseLeavesCard

/-- THE SECOND FORM's CARD OF 'subwaylaw13.LeaseFull'. -/
def leaseFullUptoCard : Claim7 := { stood := { row := leaseFullUptoRow, standIns := [], harness := (true, "0f773da27b04cdb071e0144649102170e8d35bf1fa8e657794dbe83630e799fd"), looks := false }, kinds := [], alts := [], laidByText := true, laidKinds := [.data, .pinned], laidTests := true, laidLooks := .later }
def LeaseFullUptoCardSaid : Prop := Claim7.holds Tryd.pinned (.plain (OpenSpec.upto leaseFullSpec)) leaseFullUptoCard

/-- THE SECOND FORM's CARD OF 'subwaylaw13.LeasePlays'. -/
def leasePlaysUptoCard : Claim7 := { stood := { row := leasePlaysUptoRow, standIns := [], harness := (true, "0f773da27b04cdb071e0144649102170e8d35bf1fa8e657794dbe83630e799fd"), looks := false }, kinds := [], alts := [], laidByText := true, laidKinds := [.data, .pinned], laidTests := true, laidLooks := .later }
def LeasePlaysUptoCardSaid : Prop := Claim7.holds Tryd.pinned (.plain (OpenSpec.upto leasePlaysSpec)) leasePlaysUptoCard

/-- THE SECOND FORM's CARD OF 'subwaylaw13.LeaseOne'. -/
def leaseOneUptoCard : Claim7 := { stood := { row := leaseOneUptoRow, standIns := [], harness := (true, "0f773da27b04cdb071e0144649102170e8d35bf1fa8e657794dbe83630e799fd"), looks := false }, kinds := [], alts := [], laidByText := true, laidKinds := [.data, .pinned], laidTests := true, laidLooks := .later }
def LeaseOneUptoCardSaid : Prop := Claim7.holds Tryd.pinned (.plain (OpenSpec.upto leaseOneSpec)) leaseOneUptoCard

/-- THE SECOND FORM's CARD OF 'subwaylaw13.LeaseEpochs'. -/
def leaseEpochsUptoCard : Claim7 := { stood := { row := leaseEpochsUptoRow, standIns := [], harness := (true, "0f773da27b04cdb071e0144649102170e8d35bf1fa8e657794dbe83630e799fd"), looks := false }, kinds := [], alts := [], laidByText := true, laidKinds := [.data, .pinned], laidTests := true, laidLooks := .later }
def LeaseEpochsUptoCardSaid : Prop := Claim7.holds Tryd.pinned (.plain (OpenSpec.upto leaseEpochsSpec)) leaseEpochsUptoCard

/-- THE SECOND FORM's CARD OF 'subwaylaw13.LeaseKept'. -/
def leaseKeptUptoCard : Claim7 := { stood := { row := leaseKeptUptoRow, standIns := [], harness := (true, "0f773da27b04cdb071e0144649102170e8d35bf1fa8e657794dbe83630e799fd"), looks := false }, kinds := [], alts := [], laidByText := true, laidKinds := [.data, .pinned], laidTests := true, laidLooks := .later }
def LeaseKeptUptoCardSaid : Prop := Claim7.holds Tryd.pinned (.plain (OpenSpec.upto leaseKeptSpec)) leaseKeptUptoCard

/-- THE SECOND FORM's CARD OF 'subwaylaw13.LeaseTimes'. -/
def leaseTimesUptoCard : Claim7 := { stood := { row := leaseTimesUptoRow, standIns := [], harness := (true, "0f773da27b04cdb071e0144649102170e8d35bf1fa8e657794dbe83630e799fd"), looks := false }, kinds := [], alts := [], laidByText := true, laidKinds := [.data, .pinned], laidTests := true, laidLooks := .later }
def LeaseTimesUptoCardSaid : Prop := Claim7.holds Tryd.pinned (.plain (OpenSpec.upto leaseTimesSpec)) leaseTimesUptoCard

/-- THE SECOND FORM's CARD OF 'subwaylaw13.LeaseLeaves'. -/
def leaseLeavesUptoCard : Claim7 := { stood := { row := leaseLeavesUptoRow, standIns := [], harness := (true, "0f773da27b04cdb071e0144649102170e8d35bf1fa8e657794dbe83630e799fd"), looks := false }, kinds := [], alts := [], laidByText := true, laidKinds := [.data, .pinned], laidTests := true, laidLooks := .later }
def LeaseLeavesUptoCardSaid : Prop := Claim7.holds Tryd.pinned (.plain (OpenSpec.upto leaseLeavesSpec)) leaseLeavesUptoCard
end Rows
end Go.Proofs.YtefnfhhdcginmaaDoor
