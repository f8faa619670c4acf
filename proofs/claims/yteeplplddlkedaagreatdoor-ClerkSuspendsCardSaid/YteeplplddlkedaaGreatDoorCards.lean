/-
  DERIVED. GIVEN WITH THE SEED: THE CARDS: each row of YteeplplddlkedaaGreatDoorRows.lean that lists a variable, with what it lists TIED to the program's text (the seventh form; the later family's looks); each row that meets fmt, with fmt's text TOLD by the authors' own Lean function (tested against real Go, not proved from fmt's source: count such statements apart). THE CARD IS WHAT COUNTS. Prove the row's statement (the work); the ties are given (YteeplplddlkedaaGreatDoorTie.lean); close each card by the builder's one call (the guide's Derived/Test/ToyasCard.lean, 'card_holds'). Laid BY PROGRAM, IN A SANDBOX (cutbox-door.mjs). By AI agents, Wed Nov 11 2026. No macro, syntax, notation, axiom, sorry.
-/
import Derived.Test.YteeplplddlkedaaGreatDoorRows
import GoSem.ClaimSeven
namespace Go.Proofs.YteeplplddlkedaaGreatDoor
namespace Rows

/-- THE TIED CARD OF 'horologelaw19.ClerkSuspends'. -/
def clerkSuspendsCard : Claim7 := { stood := { row := clerkSuspendsRow, standIns := [], harness := (true, "ac904b0c7b61bb264d54230c79cbf427384793277e59759ee4f58072b924ad39"), looks := true }, kinds := [], alts := [], laidByText := true, laidKinds := [.data, .data, .data, .data, .pinned], laidTests := true, laidLooks := .later }
def ClerkSuspendsCardSaid : Prop := Claim7.holds Tryz.pinned (.plain (OpenSpec.ofChange clerkSuspendsSpec)) clerkSuspendsCard

/-- THE TIED CARD OF 'horologelaw19.ClerkTime'. -/
def clerkTimeCard : Claim7 := { stood := { row := clerkTimeRow, standIns := [], harness := (true, "ac904b0c7b61bb264d54230c79cbf427384793277e59759ee4f58072b924ad39"), looks := true }, kinds := [], alts := [], laidByText := true, laidKinds := [.data, .data, .data, .data, .pinned], laidTests := true, laidLooks := .later }
def ClerkTimeCardSaid : Prop := Claim7.holds Tryz.pinned (.plain (OpenSpec.ofChange clerkTimeSpec)) clerkTimeCard

/-- THE TIED CARD OF 'horologelaw19.ClerkPlays'. -/
def clerkPlaysCard : Claim7 := { stood := { row := clerkPlaysRow, standIns := [], harness := (true, "ac904b0c7b61bb264d54230c79cbf427384793277e59759ee4f58072b924ad39"), looks := true }, kinds := [], alts := [], laidByText := true, laidKinds := [.data, .data, .data, .data, .pinned], laidTests := true, laidLooks := .later }
def ClerkPlaysCardSaid : Prop := Claim7.holds Tryz.pinned (.plain (OpenSpec.ofChange clerkPlaysSpec)) clerkPlaysCard

/-- THE TIED CARD OF 'horologelaw20.AgentOrder'. -/
def agentOrderCard : Claim7 := { stood := { row := agentOrderRow, standIns := [], harness := (true, "ac904b0c7b61bb264d54230c79cbf427384793277e59759ee4f58072b924ad39"), looks := true }, kinds := [], alts := [], laidByText := true, laidKinds := [.data, .data, .data, .data, .pinned], laidTests := true, laidLooks := .later }
def AgentOrderCardSaid : Prop := Claim7.holds Tryz.pinned (.plain (OpenSpec.ofChange agentOrderSpec)) agentOrderCard

/-- THE TIED CARD OF 'horologelaw20.AgentOne'. -/
def agentOneCard : Claim7 := { stood := { row := agentOneRow, standIns := [], harness := (true, "ac904b0c7b61bb264d54230c79cbf427384793277e59759ee4f58072b924ad39"), looks := true }, kinds := [], alts := [], laidByText := true, laidKinds := [.data, .data, .data, .data, .pinned], laidTests := true, laidLooks := .later }
def AgentOneCardSaid : Prop := Claim7.holds Tryz.pinned (.plain (OpenSpec.ofChange agentOneSpec)) agentOneCard

/-- THE TIED CARD OF 'horologelaw20.AgentLeases'. -/
def agentLeasesCard : Claim7 := { stood := { row := agentLeasesRow, standIns := [], harness := (true, "ac904b0c7b61bb264d54230c79cbf427384793277e59759ee4f58072b924ad39"), looks := true }, kinds := [], alts := [], laidByText := true, laidKinds := [.data, .data, .data, .data, .pinned], laidTests := true, laidLooks := .later }
def AgentLeasesCardSaid : Prop := Claim7.holds Tryz.pinned (.plain (OpenSpec.ofChange agentLeasesSpec)) agentLeasesCard

/-- THE TIED CARD OF 'horologelaw20.AgentPlays'. -/
def agentPlaysCard : Claim7 := { stood := { row := agentPlaysRow, standIns := [], harness := (true, "ac904b0c7b61bb264d54230c79cbf427384793277e59759ee4f58072b924ad39"), looks := true }, kinds := [], alts := [], laidByText := true, laidKinds := [.data, .data, .data, .data, .pinned], laidTests := true, laidLooks := .later }
def AgentPlaysCardSaid : Prop := Claim7.holds Tryz.pinned (.plain (OpenSpec.ofChange agentPlaysSpec)) agentPlaysCard

/-- THE SECOND FORM's CARD OF 'horologelaw19.ClerkSuspends'. -/
def clerkSuspendsUptoCard : Claim7 := { stood := { row := clerkSuspendsUptoRow, standIns := [], harness := (true, "ac904b0c7b61bb264d54230c79cbf427384793277e59759ee4f58072b924ad39"), looks := true }, kinds := [], alts := [], laidByText := true, laidKinds := [.data, .data, .data, .data, .pinned], laidTests := true, laidLooks := .later }
def ClerkSuspendsUptoCardSaid : Prop := Claim7.holds Tryz.pinned (.plain (OpenSpec.upto clerkSuspendsSpec)) clerkSuspendsUptoCard

/-- THE SECOND FORM's CARD OF 'horologelaw19.ClerkTime'. -/
def clerkTimeUptoCard : Claim7 := { stood := { row := clerkTimeUptoRow, standIns := [], harness := (true, "ac904b0c7b61bb264d54230c79cbf427384793277e59759ee4f58072b924ad39"), looks := true }, kinds := [], alts := [], laidByText := true, laidKinds := [.data, .data, .data, .data, .pinned], laidTests := true, laidLooks := .later }
def ClerkTimeUptoCardSaid : Prop := Claim7.holds Tryz.pinned (.plain (OpenSpec.upto clerkTimeSpec)) clerkTimeUptoCard

/-- THE SECOND FORM's CARD OF 'horologelaw19.ClerkPlays'. -/
def clerkPlaysUptoCard : Claim7 := { stood := { row := clerkPlaysUptoRow, standIns := [], harness := (true, "ac904b0c7b61bb264d54230c79cbf427384793277e59759ee4f58072b924ad39"), looks := true }, kinds := [], alts := [], laidByText := true, laidKinds := [.data, .data, .data, .data, .pinned], laidTests := true, laidLooks := .later }
def ClerkPlaysUptoCardSaid : Prop := Claim7.holds Tryz.pinned (.plain (OpenSpec.upto clerkPlaysSpec)) clerkPlaysUptoCard

/-- THE SECOND FORM's CARD OF 'horologelaw20.AgentOrder'. -/
def agentOrderUptoCard : Claim7 := { stood := { row := agentOrderUptoRow, standIns := [], harness := (true, "ac904b0c7b61bb264d54230c79cbf427384793277e59759ee4f58072b924ad39"), looks := true }, kinds := [], alts := [], laidByText := true, laidKinds := [.data, .data, .data, .data, .pinned], laidTests := true, laidLooks := .later }
def AgentOrderUptoCardSaid : Prop := Claim7.holds Tryz.pinned (.plain (OpenSpec.upto agentOrderSpec)) agentOrderUptoCard

/-- THE SECOND FORM's CARD OF 'horologelaw20.AgentOne'. -/
def agentOneUptoCard : Claim7 := { stood := { row := agentOneUptoRow, standIns := [], harness := (true, "ac904b0c7b61bb264d54230c79cbf427384793277e59759ee4f58072b924ad39"), looks := true }, kinds := [], alts := [], laidByText := true, laidKinds := [.data, .data, .data, .data, .pinned], laidTests := true, laidLooks := .later }
def AgentOneUptoCardSaid : Prop := Claim7.holds Tryz.pinned (.plain (OpenSpec.upto agentOneSpec)) agentOneUptoCard

/-- THE SECOND FORM's CARD OF 'horologelaw20.AgentLeases'. -/
def agentLeasesUptoCard : Claim7 := { stood := { row := agentLeasesUptoRow, standIns := [], harness := (true, "ac904b0c7b61bb264d54230c79cbf427384793277e59759ee4f58072b924ad39"), looks := true }, kinds := [], alts := [], laidByText := true, laidKinds := [.data, .data, .data, .data, .pinned], laidTests := true, laidLooks := .later }
def AgentLeasesUptoCardSaid : Prop := Claim7.holds Tryz.pinned (.plain (OpenSpec.upto agentLeasesSpec)) agentLeasesUptoCard

/-- THE SECOND FORM's CARD OF 'horologelaw20.AgentPlays'. -/
def agentPlaysUptoCard : Claim7 := { stood := { row := agentPlaysUptoRow, standIns := [], harness := (true, "ac904b0c7b61bb264d54230c79cbf427384793277e59759ee4f58072b924ad39"), looks := true }, kinds := [], alts := [], laidByText := true, laidKinds := [.data, .data, .data, .data, .pinned], laidTests := true, laidLooks := .later }
def AgentPlaysUptoCardSaid : Prop := Claim7.holds Tryz.pinned (.plain (OpenSpec.upto agentPlaysSpec)) agentPlaysUptoCard
end Rows
end Go.Proofs.YteeplplddlkedaaGreatDoor
