/-
  No cell of these rows narrows 'for every input' (looked for: loops, veiled, ifaces, maps, wideKeys, modest, calm, conditions, laid).
  DERIVED. THE GIVEN ROWS OF THIS SEAT. 4 by the template 'for every input the law returns true; each argument reads behind the call as it read before'; 0 by the template 'total and deterministic' (their statements: YtjneiglpfdkehaaTotals.lean).
  GIVEN WITH THE SEED: the statements are not yours to turn. If you find one false, say at which input.
  Laid BY PROGRAM, IN A SANDBOX (cutbox-rows.mjs): the forced cells as the released guide's own fill.sh prints them over the translation 1406223b2e386072… (all of the seat's roots in one cut). By AI agents, Wed Nov 11 2026. No macro, syntax, notation, axiom, sorry.
-/
import Derived.Test.YtjneiglpfdkehaaChecked
import GoSem.Claim
import GoSem.ClaimJoined
import GoSem.ClaimMapViews
import Derived.JoinedTies
import Derived.KernelRfl
namespace Go.Proofs.Ytjneiglpfdkehaa
/- THE CELL 'sum', in the pinned program and in every row, IS THE sha256 OF THE DUMP (.gsa) THAT YtjneiglpfdkehaaProg.lean LOADS. Nothing in Lean hashes anything: it is a label: what it is worth is what the hold of that sum in a sandbox is worth. -/
noncomputable def Try.pinned : Pinned := { name := "ytjneiglpfdkehaa", sum := "1406223b2e386072955f0e93a324c798e2f8a090a75648f520fccfc942b40818", checked := Try.checked }
namespace Rows
def none {H : Type} : Left H := { results := [], args := [] }

/-- 'parterrelaw2.TriplePasses': WHATEVER THE INPUT: true; the input reads as it did. -/
def triplePassesSpec : ChangeSpec := { name := "triplePasses", fn := fun _ => fun
  | [d] => { results := [.lit (.bool true)], args := [d] }
  | _ => none }
def triplePassesRow : OpenClaim := { program := "ytjneiglpfdkehaa", sum := "1406223b2e386072955f0e93a324c798e2f8a090a75648f520fccfc942b40818", func := "parterre/parterrelaw2.TriplePasses", spec := "triplePasses", unfollowed := true, recurses := true, plainKeys := false, apart := false }
def TriplePassesSaid : Prop := triplePassesRow.holds Try.pinned (OpenSpec.ofChange triplePassesSpec)

/-- ITS FALSE NEIGHBOUR: 'it returns false'. Refute it at one input. -/
def triplePassesWrong : ChangeSpec := { name := "triplePasses", fn := fun _ => fun
  | [d] => { results := [.lit (.bool false)], args := [d] }
  | _ => none }
def TriplePassesWrongFalsely : Prop := triplePassesRow.holds Try.pinned (OpenSpec.ofChange triplePassesWrong)

/-- 'parterrelaw2.TripleGrows': WHATEVER THE INPUT: true; the input reads as it did. -/
def tripleGrowsSpec : ChangeSpec := { name := "tripleGrows", fn := fun _ => fun
  | [d1, d2] => { results := [.lit (.bool true)], args := [d1, d2] }
  | _ => none }
def tripleGrowsRow : OpenClaim := { program := "ytjneiglpfdkehaa", sum := "1406223b2e386072955f0e93a324c798e2f8a090a75648f520fccfc942b40818", func := "parterre/parterrelaw2.TripleGrows", spec := "tripleGrows", unfollowed := true, recurses := true, plainKeys := false, apart := false }
def TripleGrowsSaid : Prop := tripleGrowsRow.holds Try.pinned (OpenSpec.ofChange tripleGrowsSpec)

/-- ITS FALSE NEIGHBOUR: 'it returns false'. Refute it at one input. -/
def tripleGrowsWrong : ChangeSpec := { name := "tripleGrows", fn := fun _ => fun
  | [d1, d2] => { results := [.lit (.bool false)], args := [d1, d2] }
  | _ => none }
def TripleGrowsWrongFalsely : Prop := tripleGrowsRow.holds Try.pinned (OpenSpec.ofChange tripleGrowsWrong)

/-- 'parterrelaw2.TripleKirkman': WHATEVER THE INPUT: true; the input reads as it did. -/
def tripleKirkmanSpec : ChangeSpec := { name := "tripleKirkman", fn := fun _ => fun
  | [d1, d2] => { results := [.lit (.bool true)], args := [d1, d2] }
  | _ => none }
def tripleKirkmanRow : OpenClaim := { program := "ytjneiglpfdkehaa", sum := "1406223b2e386072955f0e93a324c798e2f8a090a75648f520fccfc942b40818", func := "parterre/parterrelaw2.TripleKirkman", spec := "tripleKirkman", unfollowed := true, recurses := true, plainKeys := false, apart := false }
def TripleKirkmanSaid : Prop := tripleKirkmanRow.holds Try.pinned (OpenSpec.ofChange tripleKirkmanSpec)

/-- ITS FALSE NEIGHBOUR: 'it returns false'. Refute it at one input. -/
def tripleKirkmanWrong : ChangeSpec := { name := "tripleKirkman", fn := fun _ => fun
  | [d1, d2] => { results := [.lit (.bool false)], args := [d1, d2] }
  | _ => none }
def TripleKirkmanWrongFalsely : Prop := tripleKirkmanRow.holds Try.pinned (OpenSpec.ofChange tripleKirkmanWrong)

/-- 'parterrelaw2.TripleCuts': WHATEVER THE INPUT: true; the input reads as it did. -/
def tripleCutsSpec : ChangeSpec := { name := "tripleCuts", fn := fun _ => fun
  | [d] => { results := [.lit (.bool true)], args := [d] }
  | _ => none }
def tripleCutsRow : OpenClaim := { program := "ytjneiglpfdkehaa", sum := "1406223b2e386072955f0e93a324c798e2f8a090a75648f520fccfc942b40818", func := "parterre/parterrelaw2.TripleCuts", spec := "tripleCuts", unfollowed := true, recurses := true, plainKeys := false, apart := false }
def TripleCutsSaid : Prop := tripleCutsRow.holds Try.pinned (OpenSpec.ofChange tripleCutsSpec)

/-- ITS FALSE NEIGHBOUR: 'it returns false'. Refute it at one input. -/
def tripleCutsWrong : ChangeSpec := { name := "tripleCuts", fn := fun _ => fun
  | [d] => { results := [.lit (.bool false)], args := [d] }
  | _ => none }
def TripleCutsWrongFalsely : Prop := tripleCutsRow.holds Try.pinned (OpenSpec.ofChange tripleCutsWrong)

/- THE SECOND FORM. 'bulk': how many values and letters a reading holds, each counted each time it is reached (what is shared counts as often as it is met; a slice's spare places count too). A statement '..UptoSaid' is the law's where the arguments, and the package variables that the reading takes, are together of bulk at most 1048576: NARROWER than '..Said'. Prove '..Said' where nothing that the law and all that it calls make is longer than what came in: it says more and counts as full. Else prove '..UptoSaid'. A law counts once. -/
mutual
def uptoBulk {H : Type} : DataW H → Nat
  | .lit (.string bytes) => bytes.length + 1
  | .lit _ => 1
  | .nil => 1
  | .ptr d => uptoBulk d + 1
  | .slice elems spare => uptoBulkAll elems + uptoBulkAll spare + 1
  | .agg parts => uptoBulkAll parts + 1
  | .iface _ d => uptoBulk d + 1
  | .map entries => uptoBulkEntries entries + 1
  | .held _ => 1
def uptoBulkAll {H : Type} : List (DataW H) → Nat
  | [] => 0
  | d :: r => uptoBulk d + uptoBulkAll r
def uptoBulkEntries {H : Type} : List (Lit × DataW H) → Nat
  | [] => 0
  | x :: r => uptoBulkEntry x + uptoBulkEntries r
def uptoBulkEntry {H : Type} : Lit × DataW H → Nat
  | (.string bytes, d) => bytes.length + uptoBulk d + 1
  | (_, d) => uptoBulk d + 1
 end
def uptoSmall : (H : Type) → List (DataW H) → Bool := fun _ ds => decide (uptoBulkAll ds ≤ 1048576)
def OpenSpec.upto (s : _root_.Go.ChangeSpec) : _root_.Go.OpenSpec := { _root_.Go.OpenSpec.ofChange s with cond := some uptoSmall }

/-- 'parterrelaw2.TriplePasses', WHERE WHAT IT READS IS OF BULK AT MOST 1048576: true; the input reads as it did. -/
def triplePassesUptoRow : OpenClaim := { program := "ytjneiglpfdkehaa", sum := "1406223b2e386072955f0e93a324c798e2f8a090a75648f520fccfc942b40818", func := "parterre/parterrelaw2.TriplePasses", spec := "triplePasses", unfollowed := true, recurses := true, plainKeys := false, apart := false, narrowed := true }
def TriplePassesUptoSaid : Prop := triplePassesUptoRow.holds Try.pinned (OpenSpec.upto triplePassesSpec)

/-- 'parterrelaw2.TripleGrows', WHERE WHAT IT READS IS OF BULK AT MOST 1048576: true; the input reads as it did. -/
def tripleGrowsUptoRow : OpenClaim := { program := "ytjneiglpfdkehaa", sum := "1406223b2e386072955f0e93a324c798e2f8a090a75648f520fccfc942b40818", func := "parterre/parterrelaw2.TripleGrows", spec := "tripleGrows", unfollowed := true, recurses := true, plainKeys := false, apart := false, narrowed := true }
def TripleGrowsUptoSaid : Prop := tripleGrowsUptoRow.holds Try.pinned (OpenSpec.upto tripleGrowsSpec)

/-- 'parterrelaw2.TripleKirkman', WHERE WHAT IT READS IS OF BULK AT MOST 1048576: true; the input reads as it did. -/
def tripleKirkmanUptoRow : OpenClaim := { program := "ytjneiglpfdkehaa", sum := "1406223b2e386072955f0e93a324c798e2f8a090a75648f520fccfc942b40818", func := "parterre/parterrelaw2.TripleKirkman", spec := "tripleKirkman", unfollowed := true, recurses := true, plainKeys := false, apart := false, narrowed := true }
def TripleKirkmanUptoSaid : Prop := tripleKirkmanUptoRow.holds Try.pinned (OpenSpec.upto tripleKirkmanSpec)

/-- 'parterrelaw2.TripleCuts', WHERE WHAT IT READS IS OF BULK AT MOST 1048576: true; the input reads as it did. -/
def tripleCutsUptoRow : OpenClaim := { program := "ytjneiglpfdkehaa", sum := "1406223b2e386072955f0e93a324c798e2f8a090a75648f520fccfc942b40818", func := "parterre/parterrelaw2.TripleCuts", spec := "tripleCuts", unfollowed := true, recurses := true, plainKeys := false, apart := false, narrowed := true }
def TripleCutsUptoSaid : Prop := tripleCutsUptoRow.holds Try.pinned (OpenSpec.upto tripleCutsSpec)

end Rows
end Go.Proofs.Ytjneiglpfdkehaa
