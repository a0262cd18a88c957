/-
  DERIVED. GIVEN WITH THE SEED: THE CARDS: each row of YtjneiglpfdkehaaDoorRows.lean that lists a variable, with what it lists TIED to the program's text (the seventh form; the later family's looks); each row that meets fmt, with fmt's text TOLD by the authors' own Lean function (tested against real Go, not proved from fmt's source: count such statements apart). THE CARD IS WHAT COUNTS. Prove the row's statement (the work); the ties are given (YtjneiglpfdkehaaDoorTie.lean); close each card by the builder's one call (the guide's Derived/Test/ToyasCard.lean, 'card_holds'). Laid BY PROGRAM, IN A SANDBOX (cutbox-door.mjs). By AI agents, Wed Nov 11 2026. No macro, syntax, notation, axiom, sorry.
-/
import Derived.Test.YtjneiglpfdkehaaDoorRows
import GoSem.ClaimSeven
namespace Go.Proofs.YtjneiglpfdkehaaDoor
namespace Rows

/-- THE TIED CARD OF 'parterretop.TopSinger'. -/
def topSingerCard : Claim7 := { stood := { row := topSingerRow, standIns := [], harness := (true, "d37e92b3a3f6952552f191bb9361e02fe4eceeab3ef508f950f8360b7490bb87"), looks := false }, kinds := [], alts := [], laidByText := true, laidKinds := [.data], laidTests := true, laidLooks := .later }
def TopSingerCardSaid : Prop := Claim7.holds Tryd.pinned (.plain (OpenSpec.ofChange topSingerSpec)) topSingerCard

/-- THE TIED CARD OF 'parterretop.TopSpaces'. -/
def topSpacesCard : Claim7 := { stood := { row := topSpacesRow, standIns := [], harness := (true, "d37e92b3a3f6952552f191bb9361e02fe4eceeab3ef508f950f8360b7490bb87"), looks := false }, kinds := [], alts := [], laidByText := true, laidKinds := [.data], laidTests := true, laidLooks := .later }
def TopSpacesCardSaid : Prop := Claim7.holds Tryd.pinned (.plain (OpenSpec.ofChange topSpacesSpec)) topSpacesCard

/-- THE TIED CARD OF 'parterretop.TopSteiner'. -/
def topSteinerCard : Claim7 := { stood := { row := topSteinerRow, standIns := [], harness := (true, "d37e92b3a3f6952552f191bb9361e02fe4eceeab3ef508f950f8360b7490bb87"), looks := false }, kinds := [], alts := [], laidByText := true, laidKinds := [.data], laidTests := true, laidLooks := .later }
def TopSteinerCardSaid : Prop := Claim7.holds Tryd.pinned (.plain (OpenSpec.ofChange topSteinerSpec)) topSteinerCard

/-- THE TIED CARD OF 'parterrelaw2.TripleTurns'. -/
def tripleTurnsCard : Claim7 := { stood := { row := tripleTurnsRow, standIns := [], harness := (true, "d37e92b3a3f6952552f191bb9361e02fe4eceeab3ef508f950f8360b7490bb87"), looks := false }, kinds := [], alts := [], laidByText := true, laidKinds := [.data], laidTests := true, laidLooks := .later }
def TripleTurnsCardSaid : Prop := Claim7.holds Tryd.pinned (.plain (OpenSpec.ofChange tripleTurnsSpec)) tripleTurnsCard

/-- THE TIED CARD OF 'parterrelaw2.TripleDoubled'. -/
def tripleDoubledCard : Claim7 := { stood := { row := tripleDoubledRow, standIns := [], harness := (true, "d37e92b3a3f6952552f191bb9361e02fe4eceeab3ef508f950f8360b7490bb87"), looks := false }, kinds := [], alts := [], laidByText := true, laidKinds := [.data], laidTests := true, laidLooks := .later }
def TripleDoubledCardSaid : Prop := Claim7.holds Tryd.pinned (.plain (OpenSpec.ofChange tripleDoubledSpec)) tripleDoubledCard

/-- THE SECOND FORM's CARD OF 'parterretop.TopSinger'. -/
def topSingerUptoCard : Claim7 := { stood := { row := topSingerUptoRow, standIns := [], harness := (true, "d37e92b3a3f6952552f191bb9361e02fe4eceeab3ef508f950f8360b7490bb87"), looks := false }, kinds := [], alts := [], laidByText := true, laidKinds := [.data], laidTests := true, laidLooks := .later }
def TopSingerUptoCardSaid : Prop := Claim7.holds Tryd.pinned (.plain (OpenSpec.upto topSingerSpec)) topSingerUptoCard

/-- THE SECOND FORM's CARD OF 'parterretop.TopSpaces'. -/
def topSpacesUptoCard : Claim7 := { stood := { row := topSpacesUptoRow, standIns := [], harness := (true, "d37e92b3a3f6952552f191bb9361e02fe4eceeab3ef508f950f8360b7490bb87"), looks := false }, kinds := [], alts := [], laidByText := true, laidKinds := [.data], laidTests := true, laidLooks := .later }
def TopSpacesUptoCardSaid : Prop := Claim7.holds Tryd.pinned (.plain (OpenSpec.upto topSpacesSpec)) topSpacesUptoCard

/-- THE SECOND FORM's CARD OF 'parterretop.TopSteiner'. -/
def topSteinerUptoCard : Claim7 := { stood := { row := topSteinerUptoRow, standIns := [], harness := (true, "d37e92b3a3f6952552f191bb9361e02fe4eceeab3ef508f950f8360b7490bb87"), looks := false }, kinds := [], alts := [], laidByText := true, laidKinds := [.data], laidTests := true, laidLooks := .later }
def TopSteinerUptoCardSaid : Prop := Claim7.holds Tryd.pinned (.plain (OpenSpec.upto topSteinerSpec)) topSteinerUptoCard

/-- THE SECOND FORM's CARD OF 'parterrelaw2.TripleTurns'. -/
def tripleTurnsUptoCard : Claim7 := { stood := { row := tripleTurnsUptoRow, standIns := [], harness := (true, "d37e92b3a3f6952552f191bb9361e02fe4eceeab3ef508f950f8360b7490bb87"), looks := false }, kinds := [], alts := [], laidByText := true, laidKinds := [.data], laidTests := true, laidLooks := .later }
def TripleTurnsUptoCardSaid : Prop := Claim7.holds Tryd.pinned (.plain (OpenSpec.upto tripleTurnsSpec)) tripleTurnsUptoCard

/-- THE SECOND FORM's CARD OF 'parterrelaw2.TripleDoubled'. -/
def tripleDoubledUptoCard : Claim7 := { stood := { row := tripleDoubledUptoRow, standIns := [], harness := (true, "d37e92b3a3f6952552f191bb9361e02fe4eceeab3ef508f950f8360b7490bb87"), looks := false }, kinds := [], alts := [], laidByText := true, laidKinds := [.data], laidTests := true, laidLooks := .later }
def TripleDoubledUptoCardSaid : Prop := Claim7.holds Tryd.pinned (.plain (OpenSpec.upto tripleDoubledSpec)) tripleDoubledUptoCard
end Rows
end Go.Proofs.YtjneiglpfdkehaaDoor
