/- A nil link has nothing: the whole law is reckoned. -/
import Derived.Test.YtonejeaomblpiaaGreatProg
import Derived.Test.YtonejeaomblpiaaGreatI8
set_option linter.unusedSimpArgs false
set_option linter.unusedVariables false
set_option linter.defProp false
set_option maxRecDepth 100000
namespace Go.Sim
open Go.Proofs

theorem linkNil_nil (k n r c : Int) : callX Tryz.prog [] (execX Tryz.prog [] 10000) (.func 5) [.agg #[.int .i64 k, .slice none 0 0, .int .u64 n, .int .i64 r, .int .i64 c]] (p0 0) (fun v _ => isTrueV v) = true := by kernel_rfl
theorem linkNil_dud (k n r c : Int) : callX Tryz.prog [] (execX Tryz.prog [] 10000) (.func 5) [.agg #[.int .i64 k, .slice (some ⟨0, 0, none⟩) 0 dud, .int .u64 n, .int .i64 r, .int .i64 c]] (p0 0) (fun v _ => isTrueV v) = true := by kernel_rfl
theorem linkNil_slice (k n r c : Int) (m : Nat) : callX Tryz.prog [] (execX Tryz.prog [] 10000) (.func 5) [.agg #[.int .i64 k, .slice (some ⟨0, 0, none⟩) m noapp, .int .u64 n, .int .i64 r, .int .i64 c]] (p0 1) (fun v _ => isTrueV v) = true := by kernel_rfl

end Go.Sim
