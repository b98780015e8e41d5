/- StubNil: the whole law is reckoned. -/
import Derived.Test.YtonejeaomblpiaaGreatProg
import Derived.Test.YtonejeaomblpiaaGreatI8
import Derived.Test.YtonejeaomblpiaaGreatN21
set_option linter.unusedSimpArgs false
set_option linter.unusedVariables false
set_option linter.defProp false
set_option maxRecDepth 100000
namespace Go.Sim
open Go.Proofs

theorem stubNil_nil : bodyX Tryz.prog zzn21_M (execX Tryz.prog zzn21_M 10000) 6 [.slice none 0 0] (p0 0) (fun v _ => isTrueV v) = true := by kernel_rfl
theorem stubNil_dud : bodyX Tryz.prog zzn21_M (execX Tryz.prog zzn21_M 10000) 6 [.slice (some ⟨0, 0, none⟩) 0 dud] (p0 0) (fun v _ => isTrueV v) = true := by kernel_rfl
theorem stubNil_slice (m : Nat) : bodyX Tryz.prog zzn21_M (execX Tryz.prog zzn21_M 10000) 6 [.slice (some ⟨0, 0, none⟩) m noapp] (p0 1) (fun v _ => isTrueV v) = true := by kernel_rfl
end Go.Sim
