/-
  NARROWER THAN 'FOR EVERY INPUT', by the rows' own cells (each row's printed sentence says how): TopSinger: laid · TopSpaces: laid · TopSteiner: laid · TripleTurns: laid · TripleDoubled: laid.
  DERIVED. THE GIVEN ROWS OF THIS SEAT. 5 by the template 'for every input the law returns true; each argument reads behind the call as it read before'; 0 by the template 'total and deterministic' (their statements: YtjneiglpfdkehaaDoorTotals.lean).
  GIVEN WITH THE SEED: the statements are not yours to turn. If you find one false, say at which input.
  Laid BY PROGRAM, IN A SANDBOX (cutbox-rows.mjs): the forced cells as the released guide's own fill.sh prints them over the translation 63f40ce2db64850b… (all of the seat's roots in one cut). By AI agents, Wed Nov 11 2026. No macro, syntax, notation, axiom, sorry.
-/
import Derived.Test.YtjneiglpfdkehaaDoorChecked
import GoSem.Claim
import GoSem.ClaimJoined
import GoSem.ClaimMapViews
import Derived.JoinedTies
import Derived.KernelRfl
namespace Go.Proofs.YtjneiglpfdkehaaDoor
/- THE CELL 'sum', in the pinned program and in every row, IS THE sha256 OF THE DUMP (.gsa) THAT YtjneiglpfdkehaaDoorProg.lean LOADS. Nothing in Lean hashes anything: it is a label: what it is worth is what the hold of that sum in a sandbox is worth. -/
noncomputable def Tryd.pinned : Pinned := { name := "ytjneiglpfdkehaadoor", sum := "63f40ce2db64850b490837dea113dbbad6fca71dcbae2b4f331e83f863166730", checked := Tryd.checked }
namespace Rows
def none {H : Type} : Left H := { results := [], args := [] }

/- WHAT THE LISTED PACKAGE-LEVEL VARIABLES READ AS WHEN THE CALL BEGINS. Each datum BY PROGRAM (the guide's laid-datum.mjs) off the statement by which the dump's own 'gosem.cut.vars' lays the variable. In a bare row this is a premise. The card (YtjneiglpfdkehaaDoorCards.lean) ties it to the program's text. -/
def laid_parterre_field_primes {H : Type} : DataW H := .agg [.lit (.int .i64 2), .lit (.int .i64 3), .lit (.int .i64 5), .lit (.int .i64 7), .lit (.int .i64 11), .lit (.int .i64 13), .lit (.int .i64 17), .lit (.int .i64 19), .lit (.int .i64 23), .lit (.int .i64 29), .lit (.int .i64 31), .lit (.int .i64 37), .lit (.int .i64 41), .lit (.int .i64 43), .lit (.int .i64 47), .lit (.int .i64 53), .lit (.int .i64 59), .lit (.int .i64 61)]
def laid_parterre_triple_pairings {H : Type} : DataW H := .agg [.agg [.lit (.int .i64 0), .lit (.int .i64 1), .lit (.int .i64 2)], .agg [.lit (.int .i64 0), .lit (.int .i64 2), .lit (.int .i64 1)], .agg [.lit (.int .i64 1), .lit (.int .i64 0), .lit (.int .i64 2)], .agg [.lit (.int .i64 1), .lit (.int .i64 2), .lit (.int .i64 0)], .agg [.lit (.int .i64 2), .lit (.int .i64 0), .lit (.int .i64 1)], .agg [.lit (.int .i64 2), .lit (.int .i64 1), .lit (.int .i64 0)]]

/-- 'parterretop.TopSinger': WHATEVER THE INPUT: true; the input reads as it did. -/
def topSingerSpec : ChangeSpec := { name := "topSinger", fn := fun _ => fun
  | [d] => { results := [.lit (.bool true)], args := [d] }
  | _ => none }
def topSingerRow : OpenClaim := { program := "ytjneiglpfdkehaadoor", sum := "63f40ce2db64850b490837dea113dbbad6fca71dcbae2b4f331e83f863166730", func := "parterre/parterretop.TopSinger", spec := "topSinger", unfollowed := true, recurses := true, named := ["parterre/field.primes"], apart := false, laid := [("parterre/field.primes", laid_parterre_field_primes)] }
def TopSingerSaid : Prop := topSingerRow.holds Tryd.pinned (OpenSpec.ofChange topSingerSpec)

/-- ITS FALSE NEIGHBOUR: 'it returns false'. Refute it at one input. -/
def topSingerWrong : ChangeSpec := { name := "topSinger", fn := fun _ => fun
  | [d] => { results := [.lit (.bool false)], args := [d] }
  | _ => none }
def TopSingerWrongFalsely : Prop := topSingerRow.holds Tryd.pinned (OpenSpec.ofChange topSingerWrong)

/-- 'parterretop.TopSpaces': WHATEVER THE INPUT: true; the input reads as it did. -/
def topSpacesSpec : ChangeSpec := { name := "topSpaces", fn := fun _ => fun
  | [d1, d2] => { results := [.lit (.bool true)], args := [d1, d2] }
  | _ => none }
def topSpacesRow : OpenClaim := { program := "ytjneiglpfdkehaadoor", sum := "63f40ce2db64850b490837dea113dbbad6fca71dcbae2b4f331e83f863166730", func := "parterre/parterretop.TopSpaces", spec := "topSpaces", unfollowed := true, recurses := true, named := ["parterre/field.primes"], apart := false, laid := [("parterre/field.primes", laid_parterre_field_primes)] }
def TopSpacesSaid : Prop := topSpacesRow.holds Tryd.pinned (OpenSpec.ofChange topSpacesSpec)

/-- ITS FALSE NEIGHBOUR: 'it returns false'. Refute it at one input. -/
def topSpacesWrong : ChangeSpec := { name := "topSpaces", fn := fun _ => fun
  | [d1, d2] => { results := [.lit (.bool false)], args := [d1, d2] }
  | _ => none }
def TopSpacesWrongFalsely : Prop := topSpacesRow.holds Tryd.pinned (OpenSpec.ofChange topSpacesWrong)

/-- 'parterretop.TopSteiner': WHATEVER THE INPUT: true; the input reads as it did. -/
def topSteinerSpec : ChangeSpec := { name := "topSteiner", fn := fun _ => fun
  | [d] => { results := [.lit (.bool true)], args := [d] }
  | _ => none }
def topSteinerRow : OpenClaim := { program := "ytjneiglpfdkehaadoor", sum := "63f40ce2db64850b490837dea113dbbad6fca71dcbae2b4f331e83f863166730", func := "parterre/parterretop.TopSteiner", spec := "topSteiner", unfollowed := true, recurses := true, named := ["parterre/field.primes"], apart := false, laid := [("parterre/field.primes", laid_parterre_field_primes)] }
def TopSteinerSaid : Prop := topSteinerRow.holds Tryd.pinned (OpenSpec.ofChange topSteinerSpec)

/-- ITS FALSE NEIGHBOUR: 'it returns false'. Refute it at one input. -/
def topSteinerWrong : ChangeSpec := { name := "topSteiner", fn := fun _ => fun
  | [d] => { results := [.lit (.bool false)], args := [d] }
  | _ => none }
def TopSteinerWrongFalsely : Prop := topSteinerRow.holds Tryd.pinned (OpenSpec.ofChange topSteinerWrong)

/-- 'parterrelaw2.TripleTurns': WHATEVER THE INPUT: true; the input reads as it did. -/
def tripleTurnsSpec : ChangeSpec := { name := "tripleTurns", fn := fun _ => fun
  | [d1, d2] => { results := [.lit (.bool true)], args := [d1, d2] }
  | _ => none }
def tripleTurnsRow : OpenClaim := { program := "ytjneiglpfdkehaadoor", sum := "63f40ce2db64850b490837dea113dbbad6fca71dcbae2b4f331e83f863166730", func := "parterre/parterrelaw2.TripleTurns", spec := "tripleTurns", unfollowed := true, recurses := true, named := ["parterre/triple.pairings"], apart := false, laid := [("parterre/triple.pairings", laid_parterre_triple_pairings)] }
def TripleTurnsSaid : Prop := tripleTurnsRow.holds Tryd.pinned (OpenSpec.ofChange tripleTurnsSpec)

/-- ITS FALSE NEIGHBOUR: 'it returns false'. Refute it at one input. -/
def tripleTurnsWrong : ChangeSpec := { name := "tripleTurns", fn := fun _ => fun
  | [d1, d2] => { results := [.lit (.bool false)], args := [d1, d2] }
  | _ => none }
def TripleTurnsWrongFalsely : Prop := tripleTurnsRow.holds Tryd.pinned (OpenSpec.ofChange tripleTurnsWrong)

/-- 'parterrelaw2.TripleDoubled': WHATEVER THE INPUT: true; the input reads as it did. -/
def tripleDoubledSpec : ChangeSpec := { name := "tripleDoubled", fn := fun _ => fun
  | [d1, d2] => { results := [.lit (.bool true)], args := [d1, d2] }
  | _ => none }
def tripleDoubledRow : OpenClaim := { program := "ytjneiglpfdkehaadoor", sum := "63f40ce2db64850b490837dea113dbbad6fca71dcbae2b4f331e83f863166730", func := "parterre/parterrelaw2.TripleDoubled", spec := "tripleDoubled", unfollowed := true, recurses := true, named := ["parterre/triple.pairings"], apart := false, laid := [("parterre/triple.pairings", laid_parterre_triple_pairings)] }
def TripleDoubledSaid : Prop := tripleDoubledRow.holds Tryd.pinned (OpenSpec.ofChange tripleDoubledSpec)

/-- ITS FALSE NEIGHBOUR: 'it returns false'. Refute it at one input. -/
def tripleDoubledWrong : ChangeSpec := { name := "tripleDoubled", fn := fun _ => fun
  | [d1, d2] => { results := [.lit (.bool false)], args := [d1, d2] }
  | _ => none }
def TripleDoubledWrongFalsely : Prop := tripleDoubledRow.holds Tryd.pinned (OpenSpec.ofChange tripleDoubledWrong)

/- THE SECOND FORM. 'bulk': how many values and letters a reading holds, each counted each time it is reached (what is shared counts as often as it is met; a slice's spare places count too). A statement '..UptoSaid' is the law's where the arguments, and the package variables that the reading takes, are together of bulk at most 1048576: NARROWER than '..Said'. Prove '..Said' where nothing that the law and all that it calls make is longer than what came in: it says more and counts as full. Else prove '..UptoSaid'. A law counts once. -/
mutual
def uptoBulk {H : Type} : DataW H → Nat
  | .lit (.string bytes) => bytes.length + 1
  | .lit _ => 1
  | .nil => 1
  | .ptr d => uptoBulk d + 1
  | .slice elems spare => uptoBulkAll elems + uptoBulkAll spare + 1
  | .agg parts => uptoBulkAll parts + 1
  | .iface _ d => uptoBulk d + 1
  | .map entries => uptoBulkEntries entries + 1
  | .held _ => 1
def uptoBulkAll {H : Type} : List (DataW H) → Nat
  | [] => 0
  | d :: r => uptoBulk d + uptoBulkAll r
def uptoBulkEntries {H : Type} : List (Lit × DataW H) → Nat
  | [] => 0
  | x :: r => uptoBulkEntry x + uptoBulkEntries r
def uptoBulkEntry {H : Type} : Lit × DataW H → Nat
  | (.string bytes, d) => bytes.length + uptoBulk d + 1
  | (_, d) => uptoBulk d + 1
 end
def uptoSmall : (H : Type) → List (DataW H) → Bool := fun _ ds => decide (uptoBulkAll ds ≤ 1048576)
def OpenSpec.upto (s : _root_.Go.ChangeSpec) : _root_.Go.OpenSpec := { _root_.Go.OpenSpec.ofChange s with cond := some uptoSmall }

/-- 'parterretop.TopSinger', WHERE WHAT IT READS IS OF BULK AT MOST 1048576: true; the input reads as it did. -/
def topSingerUptoRow : OpenClaim := { program := "ytjneiglpfdkehaadoor", sum := "63f40ce2db64850b490837dea113dbbad6fca71dcbae2b4f331e83f863166730", func := "parterre/parterretop.TopSinger", spec := "topSinger", unfollowed := true, recurses := true, named := ["parterre/field.primes"], apart := false, laid := [("parterre/field.primes", laid_parterre_field_primes)], narrowed := true }
def TopSingerUptoSaid : Prop := topSingerUptoRow.holds Tryd.pinned (OpenSpec.upto topSingerSpec)

/-- 'parterretop.TopSpaces', WHERE WHAT IT READS IS OF BULK AT MOST 1048576: true; the input reads as it did. -/
def topSpacesUptoRow : OpenClaim := { program := "ytjneiglpfdkehaadoor", sum := "63f40ce2db64850b490837dea113dbbad6fca71dcbae2b4f331e83f863166730", func := "parterre/parterretop.TopSpaces", spec := "topSpaces", unfollowed := true, recurses := true, named := ["parterre/field.primes"], apart := false, laid := [("parterre/field.primes", laid_parterre_field_primes)], narrowed := true }
def TopSpacesUptoSaid : Prop := topSpacesUptoRow.holds Tryd.pinned (OpenSpec.upto topSpacesSpec)

/-- 'parterretop.TopSteiner', WHERE WHAT IT READS IS OF BULK AT MOST 1048576: true; the input reads as it did. -/
def topSteinerUptoRow : OpenClaim := { program := "ytjneiglpfdkehaadoor", sum := "63f40ce2db64850b490837dea113dbbad6fca71dcbae2b4f331e83f863166730", func := "parterre/parterretop.TopSteiner", spec := "topSteiner", unfollowed := true, recurses := true, named := ["parterre/field.primes"], apart := false, laid := [("parterre/field.primes", laid_parterre_field_primes)], narrowed := true }
def TopSteinerUptoSaid : Prop := topSteinerUptoRow.holds Tryd.pinned (OpenSpec.upto topSteinerSpec)

/-- 'parterrelaw2.TripleTurns', WHERE WHAT IT READS IS OF BULK AT MOST 1048576: true; the input reads as it did. -/
def tripleTurnsUptoRow : OpenClaim := { program := "ytjneiglpfdkehaadoor", sum := "63f40ce2db64850b490837dea113dbbad6fca71dcbae2b4f331e83f863166730", func := "parterre/parterrelaw2.TripleTurns", spec := "tripleTurns", unfollowed := true, recurses := true, named := ["parterre/triple.pairings"], apart := false, laid := [("parterre/triple.pairings", laid_parterre_triple_pairings)], narrowed := true }
def TripleTurnsUptoSaid : Prop := tripleTurnsUptoRow.holds Tryd.pinned (OpenSpec.upto tripleTurnsSpec)

/-- 'parterrelaw2.TripleDoubled', WHERE WHAT IT READS IS OF BULK AT MOST 1048576: true; the input reads as it did. -/
def tripleDoubledUptoRow : OpenClaim := { program := "ytjneiglpfdkehaadoor", sum := "63f40ce2db64850b490837dea113dbbad6fca71dcbae2b4f331e83f863166730", func := "parterre/parterrelaw2.TripleDoubled", spec := "tripleDoubled", unfollowed := true, recurses := true, named := ["parterre/triple.pairings"], apart := false, laid := [("parterre/triple.pairings", laid_parterre_triple_pairings)], narrowed := true }
def TripleDoubledUptoSaid : Prop := tripleDoubledUptoRow.holds Tryd.pinned (OpenSpec.upto tripleDoubledSpec)

end Rows
end Go.Proofs.YtjneiglpfdkehaaDoor
