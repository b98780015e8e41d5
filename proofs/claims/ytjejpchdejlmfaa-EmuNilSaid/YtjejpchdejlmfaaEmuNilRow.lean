/- The statement EmuNil. -/
import Derived.Test.YtjejpchdejlmfaaE1
import Derived.Test.YtjejpchdejlmfaaRows
import Derived.Test.YtjejpchdejlmfaaB2
set_option linter.unusedSimpArgs false
set_option linter.unusedVariables false
set_option linter.defProp false
namespace Go.Proofs.Ytjejpchdejlmfaa.emuNil
open Go.ChangeShapes Go.WideShapes Go.ChangeAt Go.RowKit Go.Sim
theorem own : ownKnob Try.prog.godebug = none := by kernel_rfl
set_option maxRecDepth 100000 in
theorem lifted (os : Os) (started : os.Started) (H : Type) (enc : TypeId × Value → H) :
    ReturnsInHanded {} Try.checked os 4 .any (Rows.emuNilSpec.pre6 enc Try.prog Try.f4 Rows.emuNilRow.domain false) (Rows.emuNilSpec.post enc Try.prog Try.f4 false true false false) :=
  returnsInHanded_of_change (C := Try.checked) (s := Rows.emuNilSpec) own started (by kernel_rfl) Try.func4
    (ChangeSpec.witness6 (enc := enc) (C := Try.checked) (s := Rows.emuNilSpec) false ⟨#[], #[zeroV Try.prog 53, zeroV Try.prog 3, zeroV Try.prog 3], []⟩ 12 (by kernel_rfl) (by kernel_rfl) (by kernel_rfl) (by kernel_rfl))
    (fun W base args ds gs before hval hW _ _ => law_calls (P := Try.prog) (fn := Try.f4) (s := Rows.emuNilSpec) (tb := 4) (n := 3) (d := 12) (by kernel_rfl) Try.underlying4 rfl (by kernel_rfl)
      (fun ds hd => by
        match ds, hd with
        | [d0, d1, d2], _ => rfl) (by kernel_rfl) (by kernel_rfl) (by kernel_rfl) (fun h l _ hv => Go.Sim.emuNil_walk h l hv) W base args ds gs before hval hW)
theorem over : Rows.emuNilRow.holds Try.pinned (OpenSpec.ofChange Rows.emuNilSpec) :=
  OpenClaim.holds_of_wide 4 Try.f4 rfl rfl rfl rfl rfl rfl rfl ⟨rfl, rfl, rfl, rfl, rfl⟩ rfl rfl rfl rfl rfl (by kernel_rfl) Try.func4 (by kernel_rfl)
    (of_decide_eq_true (by kernel_rfl)) (by unfold Func.isWrapper; first | (rw [if_pos (by decide +kernel)]; kernel_rfl) | (rw [if_neg (by decide +kernel)]; exact ⟨rfl, rfl⟩))
    (fun os started H enc _ => lifted os started H enc)
theorem proved : Rows.EmuNilSaid := over
end Go.Proofs.Ytjejpchdejlmfaa.emuNil
namespace Go.Proofs.Ytjejpchdejlmfaa
theorem emuNil_holds : Rows.EmuNilSaid := emuNil.proved
#print axioms emuNil_holds
end Go.Proofs.Ytjejpchdejlmfaa
