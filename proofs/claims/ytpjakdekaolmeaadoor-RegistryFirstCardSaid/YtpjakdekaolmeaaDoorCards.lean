/-
  DERIVED. GIVEN WITH THE SEED: THE CARDS: each row of YtpjakdekaolmeaaDoorRows.lean that lists a variable, with what it lists TIED to the program's text (the seventh form; the later family's looks); each row that meets fmt, with fmt's text TOLD by the authors' own Lean function (tested against real Go, not proved from fmt's source: count such statements apart). THE CARD IS WHAT COUNTS. Prove the row's statement (the work); the ties are given (YtpjakdekaolmeaaDoorTie.lean); close each card by the builder's one call (the guide's Derived/Test/ToyasCard.lean, 'card_holds'). Laid BY PROGRAM, IN A SANDBOX (cutbox-door.mjs). By AI agents, Wed Nov 11 2026. No macro, syntax, notation, axiom, sorry.
-/
import Derived.Test.YtpjakdekaolmeaaDoorRows
import GoSem.ClaimSeven
namespace Go.Proofs.YtpjakdekaolmeaaDoor
namespace Rows

/-- THE TIED CARD OF 'pouncelaw19.RegistryNames'. -/
def registryNamesCard : Claim7 := { stood := { row := registryNamesRow, standIns := [], harness := (true, "c722ebdb375c4bc9330bfa1220db517d6b4d7d8f441a39ee8e405db29012818d"), looks := false }, kinds := [], alts := [], laidByText := true, laidKinds := [.data, .pinned], laidTests := true, laidLooks := .later }
def RegistryNamesCardSaid : Prop := Claim7.holds Tryd.pinned (.plain (OpenSpec.ofChange registryNamesSpec)) registryNamesCard

/-- THE TIED CARD OF 'pouncelaw19.RegistryMakes'. -/
def registryMakesCard : Claim7 := { stood := { row := registryMakesRow, standIns := [], harness := (true, "c722ebdb375c4bc9330bfa1220db517d6b4d7d8f441a39ee8e405db29012818d"), looks := false }, kinds := [], alts := [], laidByText := true, laidKinds := [.data, .pinned], laidTests := true, laidLooks := .later }
def RegistryMakesCardSaid : Prop := Claim7.holds Tryd.pinned (.plain (OpenSpec.ofChange registryMakesSpec)) registryMakesCard

/-- THE TIED CARD OF 'pouncelaw19.RegistryKeeps'. -/
def registryKeepsCard : Claim7 := { stood := { row := registryKeepsRow, standIns := [], harness := (true, "c722ebdb375c4bc9330bfa1220db517d6b4d7d8f441a39ee8e405db29012818d"), looks := false }, kinds := [], alts := [], laidByText := true, laidKinds := [.data, .pinned], laidTests := true, laidLooks := .later }
def RegistryKeepsCardSaid : Prop := Claim7.holds Tryd.pinned (.plain (OpenSpec.ofChange registryKeepsSpec)) registryKeepsCard

/-- THE TIED CARD OF 'pouncelaw19.RegistryMore'. -/
def registryMoreCard : Claim7 := { stood := { row := registryMoreRow, standIns := [], harness := (true, "c722ebdb375c4bc9330bfa1220db517d6b4d7d8f441a39ee8e405db29012818d"), looks := false }, kinds := [], alts := [], laidByText := true, laidKinds := [.data, .pinned], laidTests := true, laidLooks := .later }
def RegistryMoreCardSaid : Prop := Claim7.holds Tryd.pinned (.plain (OpenSpec.ofChange registryMoreSpec)) registryMoreCard

/-- THE TIED CARD OF 'pouncelaw19.RegistryTwice'. -/
def registryTwiceCard : Claim7 := { stood := { row := registryTwiceRow, standIns := [], harness := (true, "c722ebdb375c4bc9330bfa1220db517d6b4d7d8f441a39ee8e405db29012818d"), looks := false }, kinds := [], alts := [], laidByText := true, laidKinds := [.data, .pinned], laidTests := true, laidLooks := .later }
def RegistryTwiceCardSaid : Prop := Claim7.holds Tryd.pinned (.plain (OpenSpec.ofChange registryTwiceSpec)) registryTwiceCard

/-- THE TIED CARD OF 'pouncelaw19.RegistryFirst'. -/
def registryFirstCard : Claim7 := { stood := { row := registryFirstRow, standIns := [], harness := (true, "c722ebdb375c4bc9330bfa1220db517d6b4d7d8f441a39ee8e405db29012818d"), looks := false }, kinds := [], alts := [], laidByText := true, laidKinds := [.data, .pinned], laidTests := true, laidLooks := .later }
def RegistryFirstCardSaid : Prop := Claim7.holds Tryd.pinned (.plain (OpenSpec.ofChange registryFirstSpec)) registryFirstCard

/-- THE SECOND FORM's CARD OF 'pouncelaw19.RegistryNames'. -/
def registryNamesUptoCard : Claim7 := { stood := { row := registryNamesUptoRow, standIns := [], harness := (true, "c722ebdb375c4bc9330bfa1220db517d6b4d7d8f441a39ee8e405db29012818d"), looks := false }, kinds := [], alts := [], laidByText := true, laidKinds := [.data, .pinned], laidTests := true, laidLooks := .later }
def RegistryNamesUptoCardSaid : Prop := Claim7.holds Tryd.pinned (.plain (OpenSpec.upto registryNamesSpec)) registryNamesUptoCard

/-- THE SECOND FORM's CARD OF 'pouncelaw19.RegistryMakes'. -/
def registryMakesUptoCard : Claim7 := { stood := { row := registryMakesUptoRow, standIns := [], harness := (true, "c722ebdb375c4bc9330bfa1220db517d6b4d7d8f441a39ee8e405db29012818d"), looks := false }, kinds := [], alts := [], laidByText := true, laidKinds := [.data, .pinned], laidTests := true, laidLooks := .later }
def RegistryMakesUptoCardSaid : Prop := Claim7.holds Tryd.pinned (.plain (OpenSpec.upto registryMakesSpec)) registryMakesUptoCard

/-- THE SECOND FORM's CARD OF 'pouncelaw19.RegistryKeeps'. -/
def registryKeepsUptoCard : Claim7 := { stood := { row := registryKeepsUptoRow, standIns := [], harness := (true, "c722ebdb375c4bc9330bfa1220db517d6b4d7d8f441a39ee8e405db29012818d"), looks := false }, kinds := [], alts := [], laidByText := true, laidKinds := [.data, .pinned], laidTests := true, laidLooks := .later }
def RegistryKeepsUptoCardSaid : Prop := Claim7.holds Tryd.pinned (.plain (OpenSpec.upto registryKeepsSpec)) registryKeepsUptoCard

/-- THE SECOND FORM's CARD OF 'pouncelaw19.RegistryMore'. -/
def registryMoreUptoCard : Claim7 := { stood := { row := registryMoreUptoRow, standIns := [], harness := (true, "c722ebdb375c4bc9330bfa1220db517d6b4d7d8f441a39ee8e405db29012818d"), looks := false }, kinds := [], alts := [], laidByText := true, laidKinds := [.data, .pinned], laidTests := true, laidLooks := .later }
def RegistryMoreUptoCardSaid : Prop := Claim7.holds Tryd.pinned (.plain (OpenSpec.upto registryMoreSpec)) registryMoreUptoCard

/-- THE SECOND FORM's CARD OF 'pouncelaw19.RegistryTwice'. -/
def registryTwiceUptoCard : Claim7 := { stood := { row := registryTwiceUptoRow, standIns := [], harness := (true, "c722ebdb375c4bc9330bfa1220db517d6b4d7d8f441a39ee8e405db29012818d"), looks := false }, kinds := [], alts := [], laidByText := true, laidKinds := [.data, .pinned], laidTests := true, laidLooks := .later }
def RegistryTwiceUptoCardSaid : Prop := Claim7.holds Tryd.pinned (.plain (OpenSpec.upto registryTwiceSpec)) registryTwiceUptoCard

/-- THE SECOND FORM's CARD OF 'pouncelaw19.RegistryFirst'. -/
def registryFirstUptoCard : Claim7 := { stood := { row := registryFirstUptoRow, standIns := [], harness := (true, "c722ebdb375c4bc9330bfa1220db517d6b4d7d8f441a39ee8e405db29012818d"), looks := false }, kinds := [], alts := [], laidByText := true, laidKinds := [.data, .pinned], laidTests := true, laidLooks := .later }
def RegistryFirstUptoCardSaid : Prop := Claim7.holds Tryd.pinned (.plain (OpenSpec.upto registryFirstSpec)) registryFirstUptoCard
end Rows
end Go.Proofs.YtpjakdekaolmeaaDoor
