/- The chapter's example, out of what its calls do. -/
import Derived.Test.YtonejeaomblpiaaGreatK28
set_option linter.unusedSimpArgs false
set_option linter.unusedVariables false
set_option linter.defProp false
set_option maxRecDepth 100000
namespace Go.Sim
open Go.Proofs
abbrev zzn28_M : Memo := [⟨9, [], none, .bool true⟩]
theorem zzn28_m : MemoOk Tryz.prog zzn28_M := MemoOk.cons (memo_of (M := zzk28_M28) zzk28_m28 (n := 10000) rfl rfl (by kernel_rfl)) (MemoOk.nil _)
end Go.Sim
