/-
  DERIVED. GIVEN WITH THE SEED: THE CARDS: each row of YthknbhghkcdepaaGreatDoorRows.lean that lists a variable, with what it lists TIED to the program's text (the seventh form; the later family's looks); each row that meets fmt, with fmt's text TOLD by the authors' own Lean function (tested against real Go, not proved from fmt's source: count such statements apart). THE CARD IS WHAT COUNTS. Prove the row's statement (the work); the ties are given (YthknbhghkcdepaaGreatDoorTie.lean); close each card by the builder's one call (the guide's Derived/Test/ToyasCard.lean, 'card_holds'). Laid BY PROGRAM, IN A SANDBOX (cutbox-door.mjs). By AI agents, Wed Nov 11 2026. No macro, syntax, notation, axiom, sorry.
-/
import Derived.Test.YthknbhghkcdepaaGreatDoorRows
import GoSem.ClaimSeven
namespace Go.Proofs.YthknbhghkcdepaaGreatDoor
namespace Rows

/-- THE TIED CARD OF 'joistlaw20.SessionBack'. -/
def sessionBackCard : Claim7 := { stood := { row := sessionBackRow, standIns := [], harness := (true, "378eab9d109d8b547c6af9e52cb11cca95f5cbb4522de7472bb85a2dfeefc76c"), looks := true }, kinds := [], alts := [], laidByText := true, laidKinds := [.data, .sentinel, .pinned], laidTests := true, laidLooks := .later }
def SessionBackCardSaid : Prop := Claim7.holds Tryz.pinned (.plain (OpenSpec.ofChange sessionBackSpec)) sessionBackCard

/-- THE TIED CARD OF 'joistlaw20.SessionAsks'. -/
def sessionAsksCard : Claim7 := { stood := { row := sessionAsksRow, standIns := [], harness := (true, "378eab9d109d8b547c6af9e52cb11cca95f5cbb4522de7472bb85a2dfeefc76c"), looks := true }, kinds := [], alts := [], laidByText := true, laidKinds := [.data, .sentinel, .pinned], laidTests := true, laidLooks := .later }
def SessionAsksCardSaid : Prop := Claim7.holds Tryz.pinned (.plain (OpenSpec.ofChange sessionAsksSpec)) sessionAsksCard

/-- THE TIED CARD OF 'joistlaw20.SessionOnce'. -/
def sessionOnceCard : Claim7 := { stood := { row := sessionOnceRow, standIns := [], harness := (true, "378eab9d109d8b547c6af9e52cb11cca95f5cbb4522de7472bb85a2dfeefc76c"), looks := true }, kinds := [], alts := [], laidByText := true, laidKinds := [.data, .sentinel, .pinned], laidTests := true, laidLooks := .later }
def SessionOnceCardSaid : Prop := Claim7.holds Tryz.pinned (.plain (OpenSpec.ofChange sessionOnceSpec)) sessionOnceCard

/-- THE TIED CARD OF 'joistlaw20.SessionApart'. -/
def sessionApartCard : Claim7 := { stood := { row := sessionApartRow, standIns := [], harness := (true, "378eab9d109d8b547c6af9e52cb11cca95f5cbb4522de7472bb85a2dfeefc76c"), looks := true }, kinds := [], alts := [], laidByText := true, laidKinds := [.data, .sentinel, .pinned], laidTests := true, laidLooks := .later }
def SessionApartCardSaid : Prop := Claim7.holds Tryz.pinned (.plain (OpenSpec.ofChange sessionApartSpec)) sessionApartCard

/-- THE TIED CARD OF 'joistlaw20.SessionBytes'. -/
def sessionBytesCard : Claim7 := { stood := { row := sessionBytesRow, standIns := [], harness := (true, "378eab9d109d8b547c6af9e52cb11cca95f5cbb4522de7472bb85a2dfeefc76c"), looks := true }, kinds := [], alts := [], laidByText := true, laidKinds := [.data, .sentinel, .pinned], laidTests := true, laidLooks := .later }
def SessionBytesCardSaid : Prop := Claim7.holds Tryz.pinned (.plain (OpenSpec.ofChange sessionBytesSpec)) sessionBytesCard

/-- THE SECOND FORM's CARD OF 'joistlaw20.SessionBack'. -/
def sessionBackUptoCard : Claim7 := { stood := { row := sessionBackUptoRow, standIns := [], harness := (true, "378eab9d109d8b547c6af9e52cb11cca95f5cbb4522de7472bb85a2dfeefc76c"), looks := true }, kinds := [], alts := [], laidByText := true, laidKinds := [.data, .sentinel, .pinned], laidTests := true, laidLooks := .later }
def SessionBackUptoCardSaid : Prop := Claim7.holds Tryz.pinned (.plain (OpenSpec.upto sessionBackSpec)) sessionBackUptoCard

/-- THE SECOND FORM's CARD OF 'joistlaw20.SessionAsks'. -/
def sessionAsksUptoCard : Claim7 := { stood := { row := sessionAsksUptoRow, standIns := [], harness := (true, "378eab9d109d8b547c6af9e52cb11cca95f5cbb4522de7472bb85a2dfeefc76c"), looks := true }, kinds := [], alts := [], laidByText := true, laidKinds := [.data, .sentinel, .pinned], laidTests := true, laidLooks := .later }
def SessionAsksUptoCardSaid : Prop := Claim7.holds Tryz.pinned (.plain (OpenSpec.upto sessionAsksSpec)) sessionAsksUptoCard

/-- THE SECOND FORM's CARD OF 'joistlaw20.SessionOnce'. -/
def sessionOnceUptoCard : Claim7 := { stood := { row := sessionOnceUptoRow, standIns := [], harness := (true, "378eab9d109d8b547c6af9e52cb11cca95f5cbb4522de7472bb85a2dfeefc76c"), looks := true }, kinds := [], alts := [], laidByText := true, laidKinds := [.data, .sentinel, .pinned], laidTests := true, laidLooks := .later }
def SessionOnceUptoCardSaid : Prop := Claim7.holds Tryz.pinned (.plain (OpenSpec.upto sessionOnceSpec)) sessionOnceUptoCard

/-- THE SECOND FORM's CARD OF 'joistlaw20.SessionApart'. -/
def sessionApartUptoCard : Claim7 := { stood := { row := sessionApartUptoRow, standIns := [], harness := (true, "378eab9d109d8b547c6af9e52cb11cca95f5cbb4522de7472bb85a2dfeefc76c"), looks := true }, kinds := [], alts := [], laidByText := true, laidKinds := [.data, .sentinel, .pinned], laidTests := true, laidLooks := .later }
def SessionApartUptoCardSaid : Prop := Claim7.holds Tryz.pinned (.plain (OpenSpec.upto sessionApartSpec)) sessionApartUptoCard

/-- THE SECOND FORM's CARD OF 'joistlaw20.SessionBytes'. -/
def sessionBytesUptoCard : Claim7 := { stood := { row := sessionBytesUptoRow, standIns := [], harness := (true, "378eab9d109d8b547c6af9e52cb11cca95f5cbb4522de7472bb85a2dfeefc76c"), looks := true }, kinds := [], alts := [], laidByText := true, laidKinds := [.data, .sentinel, .pinned], laidTests := true, laidLooks := .later }
def SessionBytesUptoCardSaid : Prop := Claim7.holds Tryz.pinned (.plain (OpenSpec.upto sessionBytesSpec)) sessionBytesUptoCard
end Rows
end Go.Proofs.YthknbhghkcdepaaGreatDoor
