/-
  No cell of these rows narrows 'for every input' (looked for: loops, veiled, ifaces, maps, wideKeys, modest, calm, conditions, laid).
  DERIVED. THE GIVEN ROWS OF THIS SEAT. 5 by the template 'for every input the law returns true; each argument reads behind the call as it read before'; 0 by the template 'total and deterministic' (their statements: YtaamhddpmbombaaGreatTotals.lean).
  GIVEN WITH THE SEED: the statements are not yours to turn. If you find one false, say at which input.
  Laid BY PROGRAM, IN A SANDBOX (cutbox-rows.mjs): the forced cells as the released guide's own fill.sh prints them over the translation 0d1430e63c81c279… (all of the seat's roots in one cut). By AI agents, Wed Nov 11 2026. No macro, syntax, notation, axiom, sorry.
-/
import Derived.Test.YtaamhddpmbombaaGreatChecked
import GoSem.Claim
import GoSem.ClaimJoined
import GoSem.ClaimMapViews
import Derived.JoinedTies
import Derived.KernelRfl
namespace Go.Proofs.YtaamhddpmbombaaGreat
/- THE CELL 'sum', in the pinned program and in every row, IS THE sha256 OF THE DUMP (.gsa) THAT YtaamhddpmbombaaGreatProg.lean LOADS. Nothing in Lean hashes anything: it is a label: what it is worth is what the hold of that sum in a sandbox is worth. -/
noncomputable def Tryz.pinned : Pinned := { name := "ytaamhddpmbombaagreat", sum := "0d1430e63c81c279c0865ac45a466b80a44ad18dff54f8a699c29a3c183a7192", checked := Tryz.checked }
namespace Rows
def none {H : Type} : Left H := { results := [], args := [] }

/-- 'prolepsislaw24.RuleNext': WHATEVER THE INPUT: true; the input reads as it did. -/
def ruleNextSpec : ChangeSpec := { name := "ruleNext", fn := fun _ => fun
  | [d1, d2, d3, d4] => { results := [.lit (.bool true)], args := [d1, d2, d3, d4] }
  | _ => none }
def ruleNextRow : OpenClaim := { program := "ytaamhddpmbombaagreat", sum := "0d1430e63c81c279c0865ac45a466b80a44ad18dff54f8a699c29a3c183a7192", func := "prolepsis/prolepsislaw24.RuleNext", spec := "ruleNext", unfollowed := true, recurses := true, apart := false }
def RuleNextSaid : Prop := ruleNextRow.holds Tryz.pinned (OpenSpec.ofChange ruleNextSpec)

/-- ITS FALSE NEIGHBOUR: 'it returns false'. Refute it at one input. -/
def ruleNextWrong : ChangeSpec := { name := "ruleNext", fn := fun _ => fun
  | [d1, d2, d3, d4] => { results := [.lit (.bool false)], args := [d1, d2, d3, d4] }
  | _ => none }
def RuleNextWrongFalsely : Prop := ruleNextRow.holds Tryz.pinned (OpenSpec.ofChange ruleNextWrong)

/-- 'prolepsislaw24.RuleBack': WHATEVER THE INPUT: true; the input reads as it did. -/
def ruleBackSpec : ChangeSpec := { name := "ruleBack", fn := fun _ => fun
  | [d1, d2, d3, d4] => { results := [.lit (.bool true)], args := [d1, d2, d3, d4] }
  | _ => none }
def ruleBackRow : OpenClaim := { program := "ytaamhddpmbombaagreat", sum := "0d1430e63c81c279c0865ac45a466b80a44ad18dff54f8a699c29a3c183a7192", func := "prolepsis/prolepsislaw24.RuleBack", spec := "ruleBack", unfollowed := true, recurses := true, apart := false }
def RuleBackSaid : Prop := ruleBackRow.holds Tryz.pinned (OpenSpec.ofChange ruleBackSpec)

/-- ITS FALSE NEIGHBOUR: 'it returns false'. Refute it at one input. -/
def ruleBackWrong : ChangeSpec := { name := "ruleBack", fn := fun _ => fun
  | [d1, d2, d3, d4] => { results := [.lit (.bool false)], args := [d1, d2, d3, d4] }
  | _ => none }
def RuleBackWrongFalsely : Prop := ruleBackRow.holds Tryz.pinned (OpenSpec.ofChange ruleBackWrong)

/-- 'prolepsislaw09.EmuDoes': WHATEVER THE INPUT: true; the input reads as it did. -/
def emuDoesSpec : ChangeSpec := { name := "emuDoes", fn := fun _ => fun
  | [d1, d2, d3] => { results := [.lit (.bool true)], args := [d1, d2, d3] }
  | _ => none }
def emuDoesRow : OpenClaim := { program := "ytaamhddpmbombaagreat", sum := "0d1430e63c81c279c0865ac45a466b80a44ad18dff54f8a699c29a3c183a7192", func := "prolepsis/prolepsislaw09.EmuDoes", spec := "emuDoes", unfollowed := true, recurses := true, apart := false }
def EmuDoesSaid : Prop := emuDoesRow.holds Tryz.pinned (OpenSpec.ofChange emuDoesSpec)

/-- ITS FALSE NEIGHBOUR: 'it returns false'. Refute it at one input. -/
def emuDoesWrong : ChangeSpec := { name := "emuDoes", fn := fun _ => fun
  | [d1, d2, d3] => { results := [.lit (.bool false)], args := [d1, d2, d3] }
  | _ => none }
def EmuDoesWrongFalsely : Prop := emuDoesRow.holds Tryz.pinned (OpenSpec.ofChange emuDoesWrong)

/-- 'prolepsislaw09.EmuCuts': WHATEVER THE INPUT: true; the input reads as it did. -/
def emuCutsSpec : ChangeSpec := { name := "emuCuts", fn := fun _ => fun
  | [d1, d2, d3, d4] => { results := [.lit (.bool true)], args := [d1, d2, d3, d4] }
  | _ => none }
def emuCutsRow : OpenClaim := { program := "ytaamhddpmbombaagreat", sum := "0d1430e63c81c279c0865ac45a466b80a44ad18dff54f8a699c29a3c183a7192", func := "prolepsis/prolepsislaw09.EmuCuts", spec := "emuCuts", unfollowed := true, recurses := true, apart := false }
def EmuCutsSaid : Prop := emuCutsRow.holds Tryz.pinned (OpenSpec.ofChange emuCutsSpec)

/-- ITS FALSE NEIGHBOUR: 'it returns false'. Refute it at one input. -/
def emuCutsWrong : ChangeSpec := { name := "emuCuts", fn := fun _ => fun
  | [d1, d2, d3, d4] => { results := [.lit (.bool false)], args := [d1, d2, d3, d4] }
  | _ => none }
def EmuCutsWrongFalsely : Prop := emuCutsRow.holds Tryz.pinned (OpenSpec.ofChange emuCutsWrong)

/-- 'prolepsislaw09.EmuPlays': WHATEVER THE INPUT: true; the input reads as it did. -/
def emuPlaysSpec : ChangeSpec := { name := "emuPlays", fn := fun _ => fun
  | [d1, d2, d3] => { results := [.lit (.bool true)], args := [d1, d2, d3] }
  | _ => none }
def emuPlaysRow : OpenClaim := { program := "ytaamhddpmbombaagreat", sum := "0d1430e63c81c279c0865ac45a466b80a44ad18dff54f8a699c29a3c183a7192", func := "prolepsis/prolepsislaw09.EmuPlays", spec := "emuPlays", unfollowed := true, recurses := true, apart := false }
def EmuPlaysSaid : Prop := emuPlaysRow.holds Tryz.pinned (OpenSpec.ofChange emuPlaysSpec)

/-- ITS FALSE NEIGHBOUR: 'it returns false'. Refute it at one input. -/
def emuPlaysWrong : ChangeSpec := { name := "emuPlays", fn := fun _ => fun
  | [d1, d2, d3] => { results := [.lit (.bool false)], args := [d1, d2, d3] }
  | _ => none }
def EmuPlaysWrongFalsely : Prop := emuPlaysRow.holds Tryz.pinned (OpenSpec.ofChange emuPlaysWrong)

/- THE SECOND FORM. 'bulk': how many values and letters a reading holds, each counted each time it is reached (what is shared counts as often as it is met; a slice's spare places count too). A statement '..UptoSaid' is the law's where the arguments, and the package variables that the reading takes, are together of bulk at most 1048576: NARROWER than '..Said'. Prove '..Said' where nothing that the law and all that it calls make is longer than what came in: it says more and counts as full. Else prove '..UptoSaid'. A law counts once. -/
mutual
def uptoBulk {H : Type} : DataW H → Nat
  | .lit (.string bytes) => bytes.length + 1
  | .lit _ => 1
  | .nil => 1
  | .ptr d => uptoBulk d + 1
  | .slice elems spare => uptoBulkAll elems + uptoBulkAll spare + 1
  | .agg parts => uptoBulkAll parts + 1
  | .iface _ d => uptoBulk d + 1
  | .map entries => uptoBulkEntries entries + 1
  | .held _ => 1
def uptoBulkAll {H : Type} : List (DataW H) → Nat
  | [] => 0
  | d :: r => uptoBulk d + uptoBulkAll r
def uptoBulkEntries {H : Type} : List (Lit × DataW H) → Nat
  | [] => 0
  | x :: r => uptoBulkEntry x + uptoBulkEntries r
def uptoBulkEntry {H : Type} : Lit × DataW H → Nat
  | (.string bytes, d) => bytes.length + uptoBulk d + 1
  | (_, d) => uptoBulk d + 1
 end
def uptoSmall : (H : Type) → List (DataW H) → Bool := fun _ ds => decide (uptoBulkAll ds ≤ 1048576)
def OpenSpec.upto (s : _root_.Go.ChangeSpec) : _root_.Go.OpenSpec := { _root_.Go.OpenSpec.ofChange s with cond := some uptoSmall }

/-- 'prolepsislaw24.RuleNext', WHERE WHAT IT READS IS OF BULK AT MOST 1048576: true; the input reads as it did. -/
def ruleNextUptoRow : OpenClaim := { program := "ytaamhddpmbombaagreat", sum := "0d1430e63c81c279c0865ac45a466b80a44ad18dff54f8a699c29a3c183a7192", func := "prolepsis/prolepsislaw24.RuleNext", spec := "ruleNext", unfollowed := true, recurses := true, apart := false, narrowed := true }
def RuleNextUptoSaid : Prop := ruleNextUptoRow.holds Tryz.pinned (OpenSpec.upto ruleNextSpec)

/-- 'prolepsislaw24.RuleBack', WHERE WHAT IT READS IS OF BULK AT MOST 1048576: true; the input reads as it did. -/
def ruleBackUptoRow : OpenClaim := { program := "ytaamhddpmbombaagreat", sum := "0d1430e63c81c279c0865ac45a466b80a44ad18dff54f8a699c29a3c183a7192", func := "prolepsis/prolepsislaw24.RuleBack", spec := "ruleBack", unfollowed := true, recurses := true, apart := false, narrowed := true }
def RuleBackUptoSaid : Prop := ruleBackUptoRow.holds Tryz.pinned (OpenSpec.upto ruleBackSpec)

/-- 'prolepsislaw09.EmuDoes', WHERE WHAT IT READS IS OF BULK AT MOST 1048576: true; the input reads as it did. -/
def emuDoesUptoRow : OpenClaim := { program := "ytaamhddpmbombaagreat", sum := "0d1430e63c81c279c0865ac45a466b80a44ad18dff54f8a699c29a3c183a7192", func := "prolepsis/prolepsislaw09.EmuDoes", spec := "emuDoes", unfollowed := true, recurses := true, apart := false, narrowed := true }
def EmuDoesUptoSaid : Prop := emuDoesUptoRow.holds Tryz.pinned (OpenSpec.upto emuDoesSpec)

/-- 'prolepsislaw09.EmuCuts', WHERE WHAT IT READS IS OF BULK AT MOST 1048576: true; the input reads as it did. -/
def emuCutsUptoRow : OpenClaim := { program := "ytaamhddpmbombaagreat", sum := "0d1430e63c81c279c0865ac45a466b80a44ad18dff54f8a699c29a3c183a7192", func := "prolepsis/prolepsislaw09.EmuCuts", spec := "emuCuts", unfollowed := true, recurses := true, apart := false, narrowed := true }
def EmuCutsUptoSaid : Prop := emuCutsUptoRow.holds Tryz.pinned (OpenSpec.upto emuCutsSpec)

/-- 'prolepsislaw09.EmuPlays', WHERE WHAT IT READS IS OF BULK AT MOST 1048576: true; the input reads as it did. -/
def emuPlaysUptoRow : OpenClaim := { program := "ytaamhddpmbombaagreat", sum := "0d1430e63c81c279c0865ac45a466b80a44ad18dff54f8a699c29a3c183a7192", func := "prolepsis/prolepsislaw09.EmuPlays", spec := "emuPlays", unfollowed := true, recurses := true, apart := false, narrowed := true }
def EmuPlaysUptoSaid : Prop := emuPlaysUptoRow.holds Tryz.pinned (OpenSpec.upto emuPlaysSpec)

end Rows
end Go.Proofs.YtaamhddpmbombaaGreat
