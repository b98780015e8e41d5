/-
  No cell of these rows narrows 'for every input' (looked for: loops, veiled, ifaces, maps, wideKeys, modest, calm, conditions, laid).
  DERIVED. THE GIVEN ROWS OF THIS SEAT. 7 by the template 'for every input the law returns true; each argument reads behind the call as it read before'; 0 by the template 'total and deterministic' (their statements: YtmcboobmnipjlaaTotals.lean).
  GIVEN WITH THE SEED: the statements are not yours to turn. If you find one false, say at which input.
  Laid BY PROGRAM, IN A SANDBOX (cutbox-rows.mjs): the forced cells as the released guide's own fill.sh prints them over the translation fbab43c98555aea8… (all of the seat's roots in one cut). By AI agents, Wed Nov 11 2026. No macro, syntax, notation, axiom, sorry.
-/
import Derived.Test.YtmcboobmnipjlaaChecked
import GoSem.Claim
import GoSem.ClaimJoined
import GoSem.ClaimMapViews
import Derived.JoinedTies
import Derived.KernelRfl
namespace Go.Proofs.Ytmcboobmnipjlaa
/- THE CELL 'sum', in the pinned program and in every row, IS THE sha256 OF THE DUMP (.gsa) THAT YtmcboobmnipjlaaProg.lean LOADS. Nothing in Lean hashes anything: it is a label: what it is worth is what the hold of that sum in a sandbox is worth. -/
noncomputable def Try.pinned : Pinned := { name := "ytmcboobmnipjlaa", sum := "fbab43c98555aea885b16cbf46321a30d72159a6b4bc83bca953ba3079dfab8f", checked := Try.checked }
namespace Rows
def none {H : Type} : Left H := { results := [], args := [] }

/-- 'prolepsislaw04.PenTurns': WHATEVER THE INPUT: true; the input reads as it did. -/
def penTurnsSpec : ChangeSpec := { name := "penTurns", fn := fun _ => fun
  | [d1, d2, d3, d4] => { results := [.lit (.bool true)], args := [d1, d2, d3, d4] }
  | _ => none }
def penTurnsRow : OpenClaim := { program := "ytmcboobmnipjlaa", sum := "fbab43c98555aea885b16cbf46321a30d72159a6b4bc83bca953ba3079dfab8f", func := "prolepsis/prolepsislaw04.PenTurns", spec := "penTurns", unfollowed := true, recurses := true, apart := false }
def PenTurnsSaid : Prop := penTurnsRow.holds Try.pinned (OpenSpec.ofChange penTurnsSpec)

/-- ITS FALSE NEIGHBOUR: 'it returns false'. Refute it at one input. -/
def penTurnsWrong : ChangeSpec := { name := "penTurns", fn := fun _ => fun
  | [d1, d2, d3, d4] => { results := [.lit (.bool false)], args := [d1, d2, d3, d4] }
  | _ => none }
def PenTurnsWrongFalsely : Prop := penTurnsRow.holds Try.pinned (OpenSpec.ofChange penTurnsWrong)

/-- 'prolepsislaw04.PenJoins': WHATEVER THE INPUT: true; the input reads as it did. -/
def penJoinsSpec : ChangeSpec := { name := "penJoins", fn := fun _ => fun
  | [d1, d2, d3, d4] => { results := [.lit (.bool true)], args := [d1, d2, d3, d4] }
  | _ => none }
def penJoinsRow : OpenClaim := { program := "ytmcboobmnipjlaa", sum := "fbab43c98555aea885b16cbf46321a30d72159a6b4bc83bca953ba3079dfab8f", func := "prolepsis/prolepsislaw04.PenJoins", spec := "penJoins", unfollowed := true, recurses := true, apart := false }
def PenJoinsSaid : Prop := penJoinsRow.holds Try.pinned (OpenSpec.ofChange penJoinsSpec)

/-- ITS FALSE NEIGHBOUR: 'it returns false'. Refute it at one input. -/
def penJoinsWrong : ChangeSpec := { name := "penJoins", fn := fun _ => fun
  | [d1, d2, d3, d4] => { results := [.lit (.bool false)], args := [d1, d2, d3, d4] }
  | _ => none }
def PenJoinsWrongFalsely : Prop := penJoinsRow.holds Try.pinned (OpenSpec.ofChange penJoinsWrong)

/-- 'prolepsislaw04.PenNumbers': WHATEVER THE INPUT: true; the input reads as it did. -/
def penNumbersSpec : ChangeSpec := { name := "penNumbers", fn := fun _ => fun
  | [d1, d2] => { results := [.lit (.bool true)], args := [d1, d2] }
  | _ => none }
def penNumbersRow : OpenClaim := { program := "ytmcboobmnipjlaa", sum := "fbab43c98555aea885b16cbf46321a30d72159a6b4bc83bca953ba3079dfab8f", func := "prolepsis/prolepsislaw04.PenNumbers", spec := "penNumbers", unfollowed := true, recurses := true, apart := false }
def PenNumbersSaid : Prop := penNumbersRow.holds Try.pinned (OpenSpec.ofChange penNumbersSpec)

/-- ITS FALSE NEIGHBOUR: 'it returns false'. Refute it at one input. -/
def penNumbersWrong : ChangeSpec := { name := "penNumbers", fn := fun _ => fun
  | [d1, d2] => { results := [.lit (.bool false)], args := [d1, d2] }
  | _ => none }
def PenNumbersWrongFalsely : Prop := penNumbersRow.holds Try.pinned (OpenSpec.ofChange penNumbersWrong)

/-- 'prolepsislaw04.PenCodes': WHATEVER THE INPUT: true; the input reads as it did. -/
def penCodesSpec : ChangeSpec := { name := "penCodes", fn := fun _ => fun
  | [d1, d2] => { results := [.lit (.bool true)], args := [d1, d2] }
  | _ => none }
def penCodesRow : OpenClaim := { program := "ytmcboobmnipjlaa", sum := "fbab43c98555aea885b16cbf46321a30d72159a6b4bc83bca953ba3079dfab8f", func := "prolepsis/prolepsislaw04.PenCodes", spec := "penCodes", unfollowed := true, recurses := true, apart := false }
def PenCodesSaid : Prop := penCodesRow.holds Try.pinned (OpenSpec.ofChange penCodesSpec)

/-- ITS FALSE NEIGHBOUR: 'it returns false'. Refute it at one input. -/
def penCodesWrong : ChangeSpec := { name := "penCodes", fn := fun _ => fun
  | [d1, d2] => { results := [.lit (.bool false)], args := [d1, d2] }
  | _ => none }
def PenCodesWrongFalsely : Prop := penCodesRow.holds Try.pinned (OpenSpec.ofChange penCodesWrong)

/-- 'prolepsislaw34.TapeParses': WHATEVER THE INPUT: true; the input reads as it did. -/
def tapeParsesSpec : ChangeSpec := { name := "tapeParses", fn := fun _ => fun
  | [d] => { results := [.lit (.bool true)], args := [d] }
  | _ => none }
def tapeParsesRow : OpenClaim := { program := "ytmcboobmnipjlaa", sum := "fbab43c98555aea885b16cbf46321a30d72159a6b4bc83bca953ba3079dfab8f", func := "prolepsis/prolepsislaw34.TapeParses", spec := "tapeParses", unfollowed := true, recurses := true, apart := false }
def TapeParsesSaid : Prop := tapeParsesRow.holds Try.pinned (OpenSpec.ofChange tapeParsesSpec)

/-- ITS FALSE NEIGHBOUR: 'it returns false'. Refute it at one input. -/
def tapeParsesWrong : ChangeSpec := { name := "tapeParses", fn := fun _ => fun
  | [d] => { results := [.lit (.bool false)], args := [d] }
  | _ => none }
def TapeParsesWrongFalsely : Prop := tapeParsesRow.holds Try.pinned (OpenSpec.ofChange tapeParsesWrong)

/-- 'prolepsislaw34.TapeJoins': WHATEVER THE INPUT: true; the input reads as it did. -/
def tapeJoinsSpec : ChangeSpec := { name := "tapeJoins", fn := fun _ => fun
  | [d1, d2, d3, d4] => { results := [.lit (.bool true)], args := [d1, d2, d3, d4] }
  | _ => none }
def tapeJoinsRow : OpenClaim := { program := "ytmcboobmnipjlaa", sum := "fbab43c98555aea885b16cbf46321a30d72159a6b4bc83bca953ba3079dfab8f", func := "prolepsis/prolepsislaw34.TapeJoins", spec := "tapeJoins", unfollowed := true, recurses := true, apart := false }
def TapeJoinsSaid : Prop := tapeJoinsRow.holds Try.pinned (OpenSpec.ofChange tapeJoinsSpec)

/-- ITS FALSE NEIGHBOUR: 'it returns false'. Refute it at one input. -/
def tapeJoinsWrong : ChangeSpec := { name := "tapeJoins", fn := fun _ => fun
  | [d1, d2, d3, d4] => { results := [.lit (.bool false)], args := [d1, d2, d3, d4] }
  | _ => none }
def TapeJoinsWrongFalsely : Prop := tapeJoinsRow.holds Try.pinned (OpenSpec.ofChange tapeJoinsWrong)

/-- 'prolepsislaw34.TapeTells': WHATEVER THE INPUT: true; the input reads as it did. -/
def tapeTellsSpec : ChangeSpec := { name := "tapeTells", fn := fun _ => fun
  | [d1, d2, d3, d4] => { results := [.lit (.bool true)], args := [d1, d2, d3, d4] }
  | _ => none }
def tapeTellsRow : OpenClaim := { program := "ytmcboobmnipjlaa", sum := "fbab43c98555aea885b16cbf46321a30d72159a6b4bc83bca953ba3079dfab8f", func := "prolepsis/prolepsislaw34.TapeTells", spec := "tapeTells", unfollowed := true, recurses := true, apart := false }
def TapeTellsSaid : Prop := tapeTellsRow.holds Try.pinned (OpenSpec.ofChange tapeTellsSpec)

/-- ITS FALSE NEIGHBOUR: 'it returns false'. Refute it at one input. -/
def tapeTellsWrong : ChangeSpec := { name := "tapeTells", fn := fun _ => fun
  | [d1, d2, d3, d4] => { results := [.lit (.bool false)], args := [d1, d2, d3, d4] }
  | _ => none }
def TapeTellsWrongFalsely : Prop := tapeTellsRow.holds Try.pinned (OpenSpec.ofChange tapeTellsWrong)

/- THE SECOND FORM. 'bulk': how many values and letters a reading holds, each counted each time it is reached (what is shared counts as often as it is met; a slice's spare places count too). A statement '..UptoSaid' is the law's where the arguments, and the package variables that the reading takes, are together of bulk at most 1048576: NARROWER than '..Said'. Prove '..Said' where nothing that the law and all that it calls make is longer than what came in: it says more and counts as full. Else prove '..UptoSaid'. A law counts once. -/
mutual
def uptoBulk {H : Type} : DataW H → Nat
  | .lit (.string bytes) => bytes.length + 1
  | .lit _ => 1
  | .nil => 1
  | .ptr d => uptoBulk d + 1
  | .slice elems spare => uptoBulkAll elems + uptoBulkAll spare + 1
  | .agg parts => uptoBulkAll parts + 1
  | .iface _ d => uptoBulk d + 1
  | .map entries => uptoBulkEntries entries + 1
  | .held _ => 1
def uptoBulkAll {H : Type} : List (DataW H) → Nat
  | [] => 0
  | d :: r => uptoBulk d + uptoBulkAll r
def uptoBulkEntries {H : Type} : List (Lit × DataW H) → Nat
  | [] => 0
  | x :: r => uptoBulkEntry x + uptoBulkEntries r
def uptoBulkEntry {H : Type} : Lit × DataW H → Nat
  | (.string bytes, d) => bytes.length + uptoBulk d + 1
  | (_, d) => uptoBulk d + 1
 end
def uptoSmall : (H : Type) → List (DataW H) → Bool := fun _ ds => decide (uptoBulkAll ds ≤ 1048576)
def OpenSpec.upto (s : _root_.Go.ChangeSpec) : _root_.Go.OpenSpec := { _root_.Go.OpenSpec.ofChange s with cond := some uptoSmall }

/-- 'prolepsislaw04.PenTurns', WHERE WHAT IT READS IS OF BULK AT MOST 1048576: true; the input reads as it did. -/
def penTurnsUptoRow : OpenClaim := { program := "ytmcboobmnipjlaa", sum := "fbab43c98555aea885b16cbf46321a30d72159a6b4bc83bca953ba3079dfab8f", func := "prolepsis/prolepsislaw04.PenTurns", spec := "penTurns", unfollowed := true, recurses := true, apart := false, narrowed := true }
def PenTurnsUptoSaid : Prop := penTurnsUptoRow.holds Try.pinned (OpenSpec.upto penTurnsSpec)

/-- 'prolepsislaw04.PenJoins', WHERE WHAT IT READS IS OF BULK AT MOST 1048576: true; the input reads as it did. -/
def penJoinsUptoRow : OpenClaim := { program := "ytmcboobmnipjlaa", sum := "fbab43c98555aea885b16cbf46321a30d72159a6b4bc83bca953ba3079dfab8f", func := "prolepsis/prolepsislaw04.PenJoins", spec := "penJoins", unfollowed := true, recurses := true, apart := false, narrowed := true }
def PenJoinsUptoSaid : Prop := penJoinsUptoRow.holds Try.pinned (OpenSpec.upto penJoinsSpec)

/-- 'prolepsislaw04.PenNumbers', WHERE WHAT IT READS IS OF BULK AT MOST 1048576: true; the input reads as it did. -/
def penNumbersUptoRow : OpenClaim := { program := "ytmcboobmnipjlaa", sum := "fbab43c98555aea885b16cbf46321a30d72159a6b4bc83bca953ba3079dfab8f", func := "prolepsis/prolepsislaw04.PenNumbers", spec := "penNumbers", unfollowed := true, recurses := true, apart := false, narrowed := true }
def PenNumbersUptoSaid : Prop := penNumbersUptoRow.holds Try.pinned (OpenSpec.upto penNumbersSpec)

/-- 'prolepsislaw04.PenCodes', WHERE WHAT IT READS IS OF BULK AT MOST 1048576: true; the input reads as it did. -/
def penCodesUptoRow : OpenClaim := { program := "ytmcboobmnipjlaa", sum := "fbab43c98555aea885b16cbf46321a30d72159a6b4bc83bca953ba3079dfab8f", func := "prolepsis/prolepsislaw04.PenCodes", spec := "penCodes", unfollowed := true, recurses := true, apart := false, narrowed := true }
def PenCodesUptoSaid : Prop := penCodesUptoRow.holds Try.pinned (OpenSpec.upto penCodesSpec)

/-- 'prolepsislaw34.TapeParses', WHERE WHAT IT READS IS OF BULK AT MOST 1048576: true; the input reads as it did. -/
def tapeParsesUptoRow : OpenClaim := { program := "ytmcboobmnipjlaa", sum := "fbab43c98555aea885b16cbf46321a30d72159a6b4bc83bca953ba3079dfab8f", func := "prolepsis/prolepsislaw34.TapeParses", spec := "tapeParses", unfollowed := true, recurses := true, apart := false, narrowed := true }
def TapeParsesUptoSaid : Prop := tapeParsesUptoRow.holds Try.pinned (OpenSpec.upto tapeParsesSpec)

/-- 'prolepsislaw34.TapeJoins', WHERE WHAT IT READS IS OF BULK AT MOST 1048576: true; the input reads as it did. -/
def tapeJoinsUptoRow : OpenClaim := { program := "ytmcboobmnipjlaa", sum := "fbab43c98555aea885b16cbf46321a30d72159a6b4bc83bca953ba3079dfab8f", func := "prolepsis/prolepsislaw34.TapeJoins", spec := "tapeJoins", unfollowed := true, recurses := true, apart := false, narrowed := true }
def TapeJoinsUptoSaid : Prop := tapeJoinsUptoRow.holds Try.pinned (OpenSpec.upto tapeJoinsSpec)

/-- 'prolepsislaw34.TapeTells', WHERE WHAT IT READS IS OF BULK AT MOST 1048576: true; the input reads as it did. -/
def tapeTellsUptoRow : OpenClaim := { program := "ytmcboobmnipjlaa", sum := "fbab43c98555aea885b16cbf46321a30d72159a6b4bc83bca953ba3079dfab8f", func := "prolepsis/prolepsislaw34.TapeTells", spec := "tapeTells", unfollowed := true, recurses := true, apart := false, narrowed := true }
def TapeTellsUptoSaid : Prop := tapeTellsUptoRow.holds Try.pinned (OpenSpec.upto tapeTellsSpec)

end Rows
end Go.Proofs.Ytmcboobmnipjlaa
