/-
  DERIVED. GIVEN WITH THE SEED: THE CARDS: each row of YtphhafaoccfdpaaDoorRows.lean that lists a variable, with what it lists TIED to the program's text (the seventh form; the later family's looks); each row that meets fmt, with fmt's text TOLD by the authors' own Lean function (tested against real Go, not proved from fmt's source: count such statements apart). THE CARD IS WHAT COUNTS. Prove the row's statement (the work); the ties are given (YtphhafaoccfdpaaDoorTie.lean); close each card by the builder's one call (the guide's Derived/Test/ToyasCard.lean, 'card_holds'). Laid BY PROGRAM, IN A SANDBOX (cutbox-door.mjs). By AI agents, Wed Nov 11 2026. No macro, syntax, notation, axiom, sorry.
-/
import Derived.Test.YtphhafaoccfdpaaDoorRows
import GoSem.ClaimSeven
namespace Go.Proofs.YtphhafaoccfdpaaDoor
namespace Rows

/-- THE TIED CARD OF 'fingerpostlaw14.RingAlive'. -/
def ringAliveCard : Claim7 := { stood := { row := ringAliveRow, standIns := [], harness := (true, "55220b80acd2514912badb11731b603fe857e40d10c66d515b3b1ebe310bd7e0"), looks := false }, kinds := [], alts := [], laidByText := true, laidKinds := [.data], laidTests := true, laidLooks := .later }
def RingAliveCardSaid : Prop := Claim7.holds Tryd.pinned (.plain (OpenSpec.ofChange ringAliveSpec)) ringAliveCard

/-- THE TIED CARD OF 'fingerpostlaw14.RingNil'. -/
def ringNilCard : Claim7 := { stood := { row := ringNilRow, standIns := [], harness := (true, "55220b80acd2514912badb11731b603fe857e40d10c66d515b3b1ebe310bd7e0"), looks := false }, kinds := [], alts := [], laidByText := true, laidKinds := [.data], laidTests := true, laidLooks := .later }
def RingNilCardSaid : Prop := Claim7.holds Tryd.pinned (.plain (OpenSpec.ofChange ringNilSpec)) ringNilCard

/-- THE TIED CARD OF 'fingerpostlaw14.RingPlays'. -/
def ringPlaysCard : Claim7 := { stood := { row := ringPlaysRow, standIns := [], harness := (true, "55220b80acd2514912badb11731b603fe857e40d10c66d515b3b1ebe310bd7e0"), looks := false }, kinds := [], alts := [], laidByText := true, laidKinds := [.data], laidTests := true, laidLooks := .later }
def RingPlaysCardSaid : Prop := Claim7.holds Tryd.pinned (.plain (OpenSpec.ofChange ringPlaysSpec)) ringPlaysCard

/-- THE SECOND FORM's CARD OF 'fingerpostlaw14.RingAlive'. -/
def ringAliveUptoCard : Claim7 := { stood := { row := ringAliveUptoRow, standIns := [], harness := (true, "55220b80acd2514912badb11731b603fe857e40d10c66d515b3b1ebe310bd7e0"), looks := false }, kinds := [], alts := [], laidByText := true, laidKinds := [.data], laidTests := true, laidLooks := .later }
def RingAliveUptoCardSaid : Prop := Claim7.holds Tryd.pinned (.plain (OpenSpec.upto ringAliveSpec)) ringAliveUptoCard

/-- THE SECOND FORM's CARD OF 'fingerpostlaw14.RingNil'. -/
def ringNilUptoCard : Claim7 := { stood := { row := ringNilUptoRow, standIns := [], harness := (true, "55220b80acd2514912badb11731b603fe857e40d10c66d515b3b1ebe310bd7e0"), looks := false }, kinds := [], alts := [], laidByText := true, laidKinds := [.data], laidTests := true, laidLooks := .later }
def RingNilUptoCardSaid : Prop := Claim7.holds Tryd.pinned (.plain (OpenSpec.upto ringNilSpec)) ringNilUptoCard

/-- THE SECOND FORM's CARD OF 'fingerpostlaw14.RingPlays'. -/
def ringPlaysUptoCard : Claim7 := { stood := { row := ringPlaysUptoRow, standIns := [], harness := (true, "55220b80acd2514912badb11731b603fe857e40d10c66d515b3b1ebe310bd7e0"), looks := false }, kinds := [], alts := [], laidByText := true, laidKinds := [.data], laidTests := true, laidLooks := .later }
def RingPlaysUptoCardSaid : Prop := Claim7.holds Tryd.pinned (.plain (OpenSpec.upto ringPlaysSpec)) ringPlaysUptoCard
end Rows
end Go.Proofs.YtphhafaoccfdpaaDoor
