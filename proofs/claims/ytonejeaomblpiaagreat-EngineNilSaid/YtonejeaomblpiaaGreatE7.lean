/- EngineNil: the whole law is reckoned. -/
import Derived.Test.YtonejeaomblpiaaGreatProg
import Derived.Test.YtonejeaomblpiaaGreatI8
import Derived.Test.YtonejeaomblpiaaGreatN28
set_option linter.unusedSimpArgs false
set_option linter.unusedVariables false
set_option linter.defProp false
set_option maxRecDepth 100000
namespace Go.Sim
open Go.Proofs

theorem engineNil_nil (x0 : Int) : bodyX Tryz.prog zzn28_M (execX Tryz.prog zzn28_M 10000) 3 [.slice none 0 0, .int .u64 x0] (p0 0) (fun v _ => isTrueV v) = true := by kernel_rfl
theorem engineNil_dud (x0 : Int) : bodyX Tryz.prog zzn28_M (execX Tryz.prog zzn28_M 10000) 3 [.slice (some ⟨0, 0, none⟩) 0 dud, .int .u64 x0] (p0 0) (fun v _ => isTrueV v) = true := by kernel_rfl
theorem engineNil_slice (x0 : Int) (m : Nat) : bodyX Tryz.prog zzn28_M (execX Tryz.prog zzn28_M 10000) 3 [.slice (some ⟨0, 0, none⟩) m noapp, .int .u64 x0] (p0 1) (fun v _ => isTrueV v) = true := by kernel_rfl
end Go.Sim
