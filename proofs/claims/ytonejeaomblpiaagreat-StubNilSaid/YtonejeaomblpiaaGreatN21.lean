/- The chapter's example, out of what its calls do. -/
import Derived.Test.YtonejeaomblpiaaGreatK21
set_option linter.unusedSimpArgs false
set_option linter.unusedVariables false
set_option linter.defProp false
set_option maxRecDepth 100000
namespace Go.Sim
open Go.Proofs
abbrev zzn21_M : Memo := [⟨59, [], none, .bool true⟩]
theorem zzn21_m : MemoOk Tryz.prog zzn21_M := MemoOk.cons (memo_of (M := zzk21_M29) zzk21_m29 (n := 10000) rfl rfl (by kernel_rfl)) (MemoOk.nil _)
end Go.Sim
