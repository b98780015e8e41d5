/- A nil store has nothing: the whole law is reckoned. -/
import Derived.Test.YtjejpchdejlmfaaProg
import Derived.Test.YtjejpchdejlmfaaI8
set_option linter.unusedSimpArgs false
set_option linter.unusedVariables false
set_option linter.defProp false
set_option maxRecDepth 100000
namespace Go.Sim
open Go.Proofs

theorem guessNil_run (kk : Nat → IntKind) (xx : Nat → Int) : callX Try.prog (execX Try.prog 10000) 3 [.agg ((List.range 25).map fun i => .int (kk i) (xx i)).toArray] (p0 0) (fun v _ => isTrueV v) = true := by kernel_rfl
theorem und33 : ∃ fs, Try.prog.underlying 33 = some (.struct fs) := ⟨_, Try.underlying33⟩
theorem flat33 : intT Try.prog 12 33 = true := by kernel_rfl
theorem cells33 : Try.prog.cellsOf 33 = 25 := by kernel_rfl

theorem guessNil_walk (h : Heap) (l : List Value) (hv : RVals Try.prog h 12 [33] l) : ACalls Try.prog 3 l h (fun v _ => v = .bool true) := by
  obtain ⟨a, r, rfl, ha, hv⟩ := RVals_cons hv
  cases RVals_nil hv
  obtain ⟨fs, hu⟩ := und33
  rw [RVal_struct hu] at ha
  obtain ⟨cs, rfl, ha⟩ := ha
  have hi := rv_flat 12 flat33 ha
  have hl : cs.length = 25 := by
    rw [RV_struct hu, cells33] at ha
    exact ha.1
  obtain ⟨kk, xx, rfl⟩ := ints_form hl hi
  refine (calls_under (reckon_true (guessNil_run kk xx)) (p0_ro _) fun β w ms hm hr => ⟨fun _ => none, ?_, p0_rel hr fun c m s e => (by cases e)⟩).mono fun _ _ q => q.1
  cases hm with | cons h1 hm =>
  cases hm
  exact .cons (agg_any hi h1) .nil
end Go.Sim
