/-
  DERIVED. GIVEN WITH THE SEED: THE CARDS: each row of YtpjfakmalhenjaaDoorRows.lean that lists a variable, with what it lists TIED to the program's text (the seventh form; the later family's looks); each row that meets fmt, with fmt's text TOLD by the authors' own Lean function (tested against real Go, not proved from fmt's source: count such statements apart). THE CARD IS WHAT COUNTS. Prove the row's statement (the work); the ties are given (YtpjfakmalhenjaaDoorTie.lean); close each card by the builder's one call (the guide's Derived/Test/ToyasCard.lean, 'card_holds'). Laid BY PROGRAM, IN A SANDBOX (cutbox-door.mjs). By AI agents, Wed Nov 11 2026. No macro, syntax, notation, axiom, sorry.
-/
import Derived.Test.YtpjfakmalhenjaaDoorRows
import GoSem.ClaimSeven
namespace Go.Proofs.YtpjfakmalhenjaaDoor
namespace Rows

/-- THE TIED CARD OF 'subwaylaw22.PortsTells'. -/
def portsTellsCard : Claim7 := { stood := { row := portsTellsRow, standIns := [], harness := (true, "e4d56479401fbd538c7972ba6edc7a02a67368874de6401975974db25654929c"), looks := false }, kinds := [], alts := [], laidByText := true, laidKinds := [.data, .data, .data], laidTests := true, laidLooks := .later }
def PortsTellsCardSaid : Prop := Claim7.holds Tryd.pinned (.plain (OpenSpec.ofChange portsTellsSpec)) portsTellsCard

/-- THE TIED CARD OF 'subwaylaw22.PortsHeld'. -/
def portsHeldCard : Claim7 := { stood := { row := portsHeldRow, standIns := [], harness := (true, "e4d56479401fbd538c7972ba6edc7a02a67368874de6401975974db25654929c"), looks := false }, kinds := [], alts := [], laidByText := true, laidKinds := [.data, .data, .data], laidTests := true, laidLooks := .later }
def PortsHeldCardSaid : Prop := Claim7.holds Tryd.pinned (.plain (OpenSpec.ofChange portsHeldSpec)) portsHeldCard

/-- THE TIED CARD OF 'subwaylaw22.PortsMore'. -/
def portsMoreCard : Claim7 := { stood := { row := portsMoreRow, standIns := [], harness := (true, "e4d56479401fbd538c7972ba6edc7a02a67368874de6401975974db25654929c"), looks := false }, kinds := [], alts := [], laidByText := true, laidKinds := [.data, .data, .data], laidTests := true, laidLooks := .later }
def PortsMoreCardSaid : Prop := Claim7.holds Tryd.pinned (.plain (OpenSpec.ofChange portsMoreSpec)) portsMoreCard

/-- THE TIED CARD OF 'subwaylaw22.PortsBack'. -/
def portsBackCard : Claim7 := { stood := { row := portsBackRow, standIns := [], harness := (true, "e4d56479401fbd538c7972ba6edc7a02a67368874de6401975974db25654929c"), looks := false }, kinds := [], alts := [], laidByText := true, laidKinds := [.data, .data, .data, .data, .pinned], laidTests := true, laidLooks := .later }
def PortsBackCardSaid : Prop := Claim7.holds Tryd.pinned (.plain (OpenSpec.ofChange portsBackSpec)) portsBackCard

/-- THE TIED CARD OF 'subwaylaw22.PortsClaims'. -/
def portsClaimsCard : Claim7 := { stood := { row := portsClaimsRow, standIns := [], harness := (true, "e4d56479401fbd538c7972ba6edc7a02a67368874de6401975974db25654929c"), looks := false }, kinds := [], alts := [], laidByText := true, laidKinds := [.data, .data, .data, .data, .pinned], laidTests := true, laidLooks := .later }
def PortsClaimsCardSaid : Prop := Claim7.holds Tryd.pinned (.plain (OpenSpec.ofChange portsClaimsSpec)) portsClaimsCard

/-- THE SECOND FORM's CARD OF 'subwaylaw22.PortsTells'. -/
def portsTellsUptoCard : Claim7 := { stood := { row := portsTellsUptoRow, standIns := [], harness := (true, "e4d56479401fbd538c7972ba6edc7a02a67368874de6401975974db25654929c"), looks := false }, kinds := [], alts := [], laidByText := true, laidKinds := [.data, .data, .data], laidTests := true, laidLooks := .later }
def PortsTellsUptoCardSaid : Prop := Claim7.holds Tryd.pinned (.plain (OpenSpec.upto portsTellsSpec)) portsTellsUptoCard

/-- THE SECOND FORM's CARD OF 'subwaylaw22.PortsHeld'. -/
def portsHeldUptoCard : Claim7 := { stood := { row := portsHeldUptoRow, standIns := [], harness := (true, "e4d56479401fbd538c7972ba6edc7a02a67368874de6401975974db25654929c"), looks := false }, kinds := [], alts := [], laidByText := true, laidKinds := [.data, .data, .data], laidTests := true, laidLooks := .later }
def PortsHeldUptoCardSaid : Prop := Claim7.holds Tryd.pinned (.plain (OpenSpec.upto portsHeldSpec)) portsHeldUptoCard

/-- THE SECOND FORM's CARD OF 'subwaylaw22.PortsMore'. -/
def portsMoreUptoCard : Claim7 := { stood := { row := portsMoreUptoRow, standIns := [], harness := (true, "e4d56479401fbd538c7972ba6edc7a02a67368874de6401975974db25654929c"), looks := false }, kinds := [], alts := [], laidByText := true, laidKinds := [.data, .data, .data], laidTests := true, laidLooks := .later }
def PortsMoreUptoCardSaid : Prop := Claim7.holds Tryd.pinned (.plain (OpenSpec.upto portsMoreSpec)) portsMoreUptoCard

/-- THE SECOND FORM's CARD OF 'subwaylaw22.PortsBack'. -/
def portsBackUptoCard : Claim7 := { stood := { row := portsBackUptoRow, standIns := [], harness := (true, "e4d56479401fbd538c7972ba6edc7a02a67368874de6401975974db25654929c"), looks := false }, kinds := [], alts := [], laidByText := true, laidKinds := [.data, .data, .data, .data, .pinned], laidTests := true, laidLooks := .later }
def PortsBackUptoCardSaid : Prop := Claim7.holds Tryd.pinned (.plain (OpenSpec.upto portsBackSpec)) portsBackUptoCard

/-- THE SECOND FORM's CARD OF 'subwaylaw22.PortsClaims'. -/
def portsClaimsUptoCard : Claim7 := { stood := { row := portsClaimsUptoRow, standIns := [], harness := (true, "e4d56479401fbd538c7972ba6edc7a02a67368874de6401975974db25654929c"), looks := false }, kinds := [], alts := [], laidByText := true, laidKinds := [.data, .data, .data, .data, .pinned], laidTests := true, laidLooks := .later }
def PortsClaimsUptoCardSaid : Prop := Claim7.holds Tryd.pinned (.plain (OpenSpec.upto portsClaimsSpec)) portsClaimsUptoCard
end Rows
end Go.Proofs.YtpjfakmalhenjaaDoor
