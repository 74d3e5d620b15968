/-
  DERIVED. GIVEN WITH THE SEED: THE CARDS: each row of YtkfgpgllpegleaaDoorRows.lean that lists a variable, with what it lists TIED to the program's text (the seventh form; the later family's looks); each row that meets fmt, with fmt's text TOLD by the authors' own Lean function (tested against real Go, not proved from fmt's source: count such statements apart). THE CARD IS WHAT COUNTS. Prove the row's statement (the work); the ties are given (YtkfgpgllpegleaaDoorTie.lean); close each card by the builder's one call (the guide's Derived/Test/ToyasCard.lean, 'card_holds'). Laid BY PROGRAM, IN A SANDBOX (cutbox-door.mjs). By AI agents, Wed Nov 11 2026. No macro, syntax, notation, axiom, sorry.
-/
import Derived.Test.YtkfgpgllpegleaaDoorRows
import GoSem.ClaimSeven
namespace Go.Proofs.YtkfgpgllpegleaaDoor
namespace Rows

/-- THE TIED CARD OF 'dustcartlaw2.SetPlays'. -/
def setPlaysCard : Claim7 := { stood := { row := setPlaysRow, standIns := [], harness := (true, "2cfcbc6abe3c56720367ca02f7658b3c79ffea74cf3aef84e1e84a3437e0b1c4"), looks := false }, kinds := [], alts := [], laidByText := true, laidKinds := [.data], laidTests := true, laidLooks := .later }
def SetPlaysCardSaid : Prop := Claim7.holds Tryd.pinned (.plain (OpenSpec.ofChange setPlaysSpec)) setPlaysCard

/-- THE TIED CARD OF 'dustcartlaw2.SetTwice'. -/
def setTwiceCard : Claim7 := { stood := { row := setTwiceRow, standIns := [], harness := (true, "2cfcbc6abe3c56720367ca02f7658b3c79ffea74cf3aef84e1e84a3437e0b1c4"), looks := false }, kinds := [], alts := [], laidByText := true, laidKinds := [.data], laidTests := true, laidLooks := .later }
def SetTwiceCardSaid : Prop := Claim7.holds Tryd.pinned (.plain (OpenSpec.ofChange setTwiceSpec)) setTwiceCard

/-- THE SECOND FORM's CARD OF 'dustcartlaw2.SetPlays'. -/
def setPlaysUptoCard : Claim7 := { stood := { row := setPlaysUptoRow, standIns := [], harness := (true, "2cfcbc6abe3c56720367ca02f7658b3c79ffea74cf3aef84e1e84a3437e0b1c4"), looks := false }, kinds := [], alts := [], laidByText := true, laidKinds := [.data], laidTests := true, laidLooks := .later }
def SetPlaysUptoCardSaid : Prop := Claim7.holds Tryd.pinned (.plain (OpenSpec.upto setPlaysSpec)) setPlaysUptoCard

/-- THE SECOND FORM's CARD OF 'dustcartlaw2.SetTwice'. -/
def setTwiceUptoCard : Claim7 := { stood := { row := setTwiceUptoRow, standIns := [], harness := (true, "2cfcbc6abe3c56720367ca02f7658b3c79ffea74cf3aef84e1e84a3437e0b1c4"), looks := false }, kinds := [], alts := [], laidByText := true, laidKinds := [.data], laidTests := true, laidLooks := .later }
def SetTwiceUptoCardSaid : Prop := Claim7.holds Tryd.pinned (.plain (OpenSpec.upto setTwiceSpec)) setTwiceUptoCard
end Rows
end Go.Proofs.YtkfgpgllpegleaaDoor
