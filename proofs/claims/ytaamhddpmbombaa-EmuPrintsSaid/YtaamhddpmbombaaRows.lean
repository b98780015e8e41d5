/-
  No cell of these rows narrows 'for every input' (looked for: loops, veiled, ifaces, maps, wideKeys, modest, calm, conditions, laid).
  DERIVED. THE GIVEN ROWS OF THIS SEAT. 6 by the template 'for every input the law returns true; each argument reads behind the call as it read before'; 0 by the template 'total and deterministic' (their statements: YtaamhddpmbombaaTotals.lean).
  GIVEN WITH THE SEED: the statements are not yours to turn. If you find one false, say at which input.
  Laid BY PROGRAM, IN A SANDBOX (cutbox-rows.mjs): the forced cells as the released guide's own fill.sh prints them over the translation f470ff7bdc267014… (all of the seat's roots in one cut). By AI agents, Wed Nov 11 2026. No macro, syntax, notation, axiom, sorry.
-/
import Derived.Test.YtaamhddpmbombaaChecked
import GoSem.Claim
import GoSem.ClaimJoined
import GoSem.ClaimMapViews
import Derived.JoinedTies
import Derived.KernelRfl
namespace Go.Proofs.Ytaamhddpmbombaa
/- THE CELL 'sum', in the pinned program and in every row, IS THE sha256 OF THE DUMP (.gsa) THAT YtaamhddpmbombaaProg.lean LOADS. Nothing in Lean hashes anything: it is a label: what it is worth is what the hold of that sum in a sandbox is worth. -/
noncomputable def Try.pinned : Pinned := { name := "ytaamhddpmbombaa", sum := "f470ff7bdc267014006cff9ff289920cb862c56d7c0e5006e99430d558974272", checked := Try.checked }
namespace Rows
def none {H : Type} : Left H := { results := [], args := [] }

/-- 'prolepsislaw23.GuessOrder': WHATEVER THE INPUT: true; the input reads as it did. -/
def guessOrderSpec : ChangeSpec := { name := "guessOrder", fn := fun _ => fun
  | [d1, d2, d3] => { results := [.lit (.bool true)], args := [d1, d2, d3] }
  | _ => none }
def guessOrderRow : OpenClaim := { program := "ytaamhddpmbombaa", sum := "f470ff7bdc267014006cff9ff289920cb862c56d7c0e5006e99430d558974272", func := "prolepsis/prolepsislaw23.GuessOrder", spec := "guessOrder", unfollowed := true, recurses := true, plainKeys := false, apart := false }
def GuessOrderSaid : Prop := guessOrderRow.holds Try.pinned (OpenSpec.ofChange guessOrderSpec)

/-- ITS FALSE NEIGHBOUR: 'it returns false'. Refute it at one input. -/
def guessOrderWrong : ChangeSpec := { name := "guessOrder", fn := fun _ => fun
  | [d1, d2, d3] => { results := [.lit (.bool false)], args := [d1, d2, d3] }
  | _ => none }
def GuessOrderWrongFalsely : Prop := guessOrderRow.holds Try.pinned (OpenSpec.ofChange guessOrderWrong)

/-- 'prolepsislaw23.GuessBounds': WHATEVER THE INPUT: true; the input reads as it did. -/
def guessBoundsSpec : ChangeSpec := { name := "guessBounds", fn := fun _ => fun
  | [d1, d2, d3] => { results := [.lit (.bool true)], args := [d1, d2, d3] }
  | _ => none }
def guessBoundsRow : OpenClaim := { program := "ytaamhddpmbombaa", sum := "f470ff7bdc267014006cff9ff289920cb862c56d7c0e5006e99430d558974272", func := "prolepsis/prolepsislaw23.GuessBounds", spec := "guessBounds", unfollowed := true, recurses := true, plainKeys := false, apart := false }
def GuessBoundsSaid : Prop := guessBoundsRow.holds Try.pinned (OpenSpec.ofChange guessBoundsSpec)

/-- ITS FALSE NEIGHBOUR: 'it returns false'. Refute it at one input. -/
def guessBoundsWrong : ChangeSpec := { name := "guessBounds", fn := fun _ => fun
  | [d1, d2, d3] => { results := [.lit (.bool false)], args := [d1, d2, d3] }
  | _ => none }
def GuessBoundsWrongFalsely : Prop := guessBoundsRow.holds Try.pinned (OpenSpec.ofChange guessBoundsWrong)

/-- 'prolepsislaw23.GuessPlays': WHATEVER THE INPUT: true; the input reads as it did. -/
def guessPlaysSpec : ChangeSpec := { name := "guessPlays", fn := fun _ => fun
  | [d1, d2, d3, d4, d5] => { results := [.lit (.bool true)], args := [d1, d2, d3, d4, d5] }
  | _ => none }
def guessPlaysRow : OpenClaim := { program := "ytaamhddpmbombaa", sum := "f470ff7bdc267014006cff9ff289920cb862c56d7c0e5006e99430d558974272", func := "prolepsis/prolepsislaw23.GuessPlays", spec := "guessPlays", inPlace := ["maps.clone"], unfollowed := true, recurses := true, plainKeys := false, apart := false }
def GuessPlaysSaid : Prop := guessPlaysRow.holds Try.pinned (OpenSpec.ofChange guessPlaysSpec)

/-- ITS FALSE NEIGHBOUR: 'it returns false'. Refute it at one input. -/
def guessPlaysWrong : ChangeSpec := { name := "guessPlays", fn := fun _ => fun
  | [d1, d2, d3, d4, d5] => { results := [.lit (.bool false)], args := [d1, d2, d3, d4, d5] }
  | _ => none }
def GuessPlaysWrongFalsely : Prop := guessPlaysRow.holds Try.pinned (OpenSpec.ofChange guessPlaysWrong)

/-- 'prolepsislaw23.GuessNil': WHATEVER THE INPUT: true; the input reads as it did. -/
def guessNilSpec : ChangeSpec := { name := "guessNil", fn := fun _ => fun
  | [d] => { results := [.lit (.bool true)], args := [d] }
  | _ => none }
def guessNilRow : OpenClaim := { program := "ytaamhddpmbombaa", sum := "f470ff7bdc267014006cff9ff289920cb862c56d7c0e5006e99430d558974272", func := "prolepsis/prolepsislaw23.GuessNil", spec := "guessNil", inPlace := ["maps.clone"], unfollowed := true, recurses := true, plainKeys := false, apart := false }
def GuessNilSaid : Prop := guessNilRow.holds Try.pinned (OpenSpec.ofChange guessNilSpec)

/-- ITS FALSE NEIGHBOUR: 'it returns false'. Refute it at one input. -/
def guessNilWrong : ChangeSpec := { name := "guessNil", fn := fun _ => fun
  | [d] => { results := [.lit (.bool false)], args := [d] }
  | _ => none }
def GuessNilWrongFalsely : Prop := guessNilRow.holds Try.pinned (OpenSpec.ofChange guessNilWrong)

/-- 'prolepsislaw09.EmuPrints': WHATEVER THE INPUT: true; the input reads as it did. -/
def emuPrintsSpec : ChangeSpec := { name := "emuPrints", fn := fun _ => fun
  | [d1, d2, d3, d4, d5] => { results := [.lit (.bool true)], args := [d1, d2, d3, d4, d5] }
  | _ => none }
def emuPrintsRow : OpenClaim := { program := "ytaamhddpmbombaa", sum := "f470ff7bdc267014006cff9ff289920cb862c56d7c0e5006e99430d558974272", func := "prolepsis/prolepsislaw09.EmuPrints", spec := "emuPrints", unfollowed := true, recurses := true, plainKeys := false, apart := false }
def EmuPrintsSaid : Prop := emuPrintsRow.holds Try.pinned (OpenSpec.ofChange emuPrintsSpec)

/-- ITS FALSE NEIGHBOUR: 'it returns false'. Refute it at one input. -/
def emuPrintsWrong : ChangeSpec := { name := "emuPrints", fn := fun _ => fun
  | [d1, d2, d3, d4, d5] => { results := [.lit (.bool false)], args := [d1, d2, d3, d4, d5] }
  | _ => none }
def EmuPrintsWrongFalsely : Prop := emuPrintsRow.holds Try.pinned (OpenSpec.ofChange emuPrintsWrong)

/-- 'prolepsislaw09.EmuNil': WHATEVER THE INPUT: true; the input reads as it did. -/
def emuNilSpec : ChangeSpec := { name := "emuNil", fn := fun _ => fun
  | [d1, d2, d3] => { results := [.lit (.bool true)], args := [d1, d2, d3] }
  | _ => none }
def emuNilRow : OpenClaim := { program := "ytaamhddpmbombaa", sum := "f470ff7bdc267014006cff9ff289920cb862c56d7c0e5006e99430d558974272", func := "prolepsis/prolepsislaw09.EmuNil", spec := "emuNil", unfollowed := true, recurses := true, plainKeys := false, apart := false }
def EmuNilSaid : Prop := emuNilRow.holds Try.pinned (OpenSpec.ofChange emuNilSpec)

/-- ITS FALSE NEIGHBOUR: 'it returns false'. Refute it at one input. -/
def emuNilWrong : ChangeSpec := { name := "emuNil", fn := fun _ => fun
  | [d1, d2, d3] => { results := [.lit (.bool false)], args := [d1, d2, d3] }
  | _ => none }
def EmuNilWrongFalsely : Prop := emuNilRow.holds Try.pinned (OpenSpec.ofChange emuNilWrong)

/- THE SECOND FORM. 'bulk': how many values and letters a reading holds, each counted each time it is reached (what is shared counts as often as it is met; a slice's spare places count too). A statement '..UptoSaid' is the law's where the arguments, and the package variables that the reading takes, are together of bulk at most 1048576: NARROWER than '..Said'. Prove '..Said' where nothing that the law and all that it calls make is longer than what came in: it says more and counts as full. Else prove '..UptoSaid'. A law counts once. -/
mutual
def uptoBulk {H : Type} : DataW H → Nat
  | .lit (.string bytes) => bytes.length + 1
  | .lit _ => 1
  | .nil => 1
  | .ptr d => uptoBulk d + 1
  | .slice elems spare => uptoBulkAll elems + uptoBulkAll spare + 1
  | .agg parts => uptoBulkAll parts + 1
  | .iface _ d => uptoBulk d + 1
  | .map entries => uptoBulkEntries entries + 1
  | .held _ => 1
def uptoBulkAll {H : Type} : List (DataW H) → Nat
  | [] => 0
  | d :: r => uptoBulk d + uptoBulkAll r
def uptoBulkEntries {H : Type} : List (Lit × DataW H) → Nat
  | [] => 0
  | x :: r => uptoBulkEntry x + uptoBulkEntries r
def uptoBulkEntry {H : Type} : Lit × DataW H → Nat
  | (.string bytes, d) => bytes.length + uptoBulk d + 1
  | (_, d) => uptoBulk d + 1
 end
def uptoSmall : (H : Type) → List (DataW H) → Bool := fun _ ds => decide (uptoBulkAll ds ≤ 1048576)
def OpenSpec.upto (s : _root_.Go.ChangeSpec) : _root_.Go.OpenSpec := { _root_.Go.OpenSpec.ofChange s with cond := some uptoSmall }

/-- 'prolepsislaw23.GuessOrder', WHERE WHAT IT READS IS OF BULK AT MOST 1048576: true; the input reads as it did. -/
def guessOrderUptoRow : OpenClaim := { program := "ytaamhddpmbombaa", sum := "f470ff7bdc267014006cff9ff289920cb862c56d7c0e5006e99430d558974272", func := "prolepsis/prolepsislaw23.GuessOrder", spec := "guessOrder", unfollowed := true, recurses := true, plainKeys := false, apart := false, narrowed := true }
def GuessOrderUptoSaid : Prop := guessOrderUptoRow.holds Try.pinned (OpenSpec.upto guessOrderSpec)

/-- 'prolepsislaw23.GuessBounds', WHERE WHAT IT READS IS OF BULK AT MOST 1048576: true; the input reads as it did. -/
def guessBoundsUptoRow : OpenClaim := { program := "ytaamhddpmbombaa", sum := "f470ff7bdc267014006cff9ff289920cb862c56d7c0e5006e99430d558974272", func := "prolepsis/prolepsislaw23.GuessBounds", spec := "guessBounds", unfollowed := true, recurses := true, plainKeys := false, apart := false, narrowed := true }
def GuessBoundsUptoSaid : Prop := guessBoundsUptoRow.holds Try.pinned (OpenSpec.upto guessBoundsSpec)

/-- 'prolepsislaw23.GuessPlays', WHERE WHAT IT READS IS OF BULK AT MOST 1048576: true; the input reads as it did. -/
def guessPlaysUptoRow : OpenClaim := { program := "ytaamhddpmbombaa", sum := "f470ff7bdc267014006cff9ff289920cb862c56d7c0e5006e99430d558974272", func := "prolepsis/prolepsislaw23.GuessPlays", spec := "guessPlays", inPlace := ["maps.clone"], unfollowed := true, recurses := true, plainKeys := false, apart := false, narrowed := true }
def GuessPlaysUptoSaid : Prop := guessPlaysUptoRow.holds Try.pinned (OpenSpec.upto guessPlaysSpec)

/-- 'prolepsislaw23.GuessNil', WHERE WHAT IT READS IS OF BULK AT MOST 1048576: true; the input reads as it did. -/
def guessNilUptoRow : OpenClaim := { program := "ytaamhddpmbombaa", sum := "f470ff7bdc267014006cff9ff289920cb862c56d7c0e5006e99430d558974272", func := "prolepsis/prolepsislaw23.GuessNil", spec := "guessNil", inPlace := ["maps.clone"], unfollowed := true, recurses := true, plainKeys := false, apart := false, narrowed := true }
def GuessNilUptoSaid : Prop := guessNilUptoRow.holds Try.pinned (OpenSpec.upto guessNilSpec)

/-- 'prolepsislaw09.EmuPrints', WHERE WHAT IT READS IS OF BULK AT MOST 1048576: true; the input reads as it did. -/
def emuPrintsUptoRow : OpenClaim := { program := "ytaamhddpmbombaa", sum := "f470ff7bdc267014006cff9ff289920cb862c56d7c0e5006e99430d558974272", func := "prolepsis/prolepsislaw09.EmuPrints", spec := "emuPrints", unfollowed := true, recurses := true, plainKeys := false, apart := false, narrowed := true }
def EmuPrintsUptoSaid : Prop := emuPrintsUptoRow.holds Try.pinned (OpenSpec.upto emuPrintsSpec)

/-- 'prolepsislaw09.EmuNil', WHERE WHAT IT READS IS OF BULK AT MOST 1048576: true; the input reads as it did. -/
def emuNilUptoRow : OpenClaim := { program := "ytaamhddpmbombaa", sum := "f470ff7bdc267014006cff9ff289920cb862c56d7c0e5006e99430d558974272", func := "prolepsis/prolepsislaw09.EmuNil", spec := "emuNil", unfollowed := true, recurses := true, plainKeys := false, apart := false, narrowed := true }
def EmuNilUptoSaid : Prop := emuNilUptoRow.holds Try.pinned (OpenSpec.upto emuNilSpec)

end Rows
end Go.Proofs.Ytaamhddpmbombaa
