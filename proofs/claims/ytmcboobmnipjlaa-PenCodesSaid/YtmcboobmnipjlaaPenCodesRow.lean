/- The statement PenCodes. -/
import Derived.Test.YtmcboobmnipjlaaG10
import Derived.Test.YtmcboobmnipjlaaRows
import Derived.Test.YtmcboobmnipjlaaB2
set_option linter.unusedSimpArgs false
set_option linter.unusedVariables false
set_option linter.defProp false
namespace Go.Proofs.Ytmcboobmnipjlaa.penCodes
open Go.ChangeShapes Go.WideShapes Go.ChangeAt Go.RowKit Go.Sim
theorem own : ownKnob Try.prog.godebug = none := by kernel_rfl
set_option maxRecDepth 100000 in
theorem lifted (os : Os) (started : os.Started) (H : Type) (enc : TypeId × Value → H) :
    ReturnsInHanded {} Try.checked os 6 .any (Rows.penCodesSpec.pre6 enc Try.prog Try.f6 Rows.penCodesRow.domain false) (Rows.penCodesSpec.post enc Try.prog Try.f6 false true false false) :=
  returnsInHanded_of_change (C := Try.checked) (s := Rows.penCodesSpec) own started (by kernel_rfl) Try.func6
    (ChangeSpec.witness6 (enc := enc) (C := Try.checked) (s := Rows.penCodesSpec) false ⟨#[], #[zeroV Try.prog 23, zeroV Try.prog 23], []⟩ 12 (by kernel_rfl) (by kernel_rfl) (by kernel_rfl) (by kernel_rfl))
    (fun W base args ds gs before hval hW _ _ => law_calls (P := Try.prog) (fn := Try.f6) (s := Rows.penCodesSpec) (tb := 4) (n := 2) (d := 12) (by kernel_rfl) Try.underlying4 rfl (by kernel_rfl)
      (fun ds hd => by
        match ds, hd with
        | [d0, d1], _ => rfl) (by kernel_rfl) (by kernel_rfl) (by kernel_rfl) (fun h l ho hv => Go.Sim.penCodes h l ho hv) W base args ds gs before hval hW)
theorem over : Rows.penCodesRow.holds Try.pinned (OpenSpec.ofChange Rows.penCodesSpec) :=
  OpenClaim.holds_of_wide 6 Try.f6 rfl rfl rfl rfl rfl rfl rfl ⟨rfl, rfl, rfl, rfl, rfl⟩ rfl rfl rfl rfl rfl (by kernel_rfl) Try.func6 (by kernel_rfl)
    (of_decide_eq_true (by kernel_rfl)) (by unfold Func.isWrapper; first | (rw [if_pos (by decide +kernel)]; kernel_rfl) | (rw [if_neg (by decide +kernel)]; exact ⟨rfl, rfl⟩))
    (fun os started H enc _ => lifted os started H enc)
theorem proved : Rows.PenCodesSaid := over
end Go.Proofs.Ytmcboobmnipjlaa.penCodes
namespace Go.Proofs.Ytmcboobmnipjlaa
theorem penCodes_holds : Rows.PenCodesSaid := penCodes.proved
#print axioms penCodes_holds
end Go.Proofs.Ytmcboobmnipjlaa
