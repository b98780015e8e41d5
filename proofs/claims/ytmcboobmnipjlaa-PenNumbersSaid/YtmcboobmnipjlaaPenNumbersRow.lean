/- The statement PenNumbers. -/
import Derived.Test.YtmcboobmnipjlaaG9
import Derived.Test.YtmcboobmnipjlaaRows
import Derived.Test.YtmcboobmnipjlaaB2
set_option linter.unusedSimpArgs false
set_option linter.unusedVariables false
set_option linter.defProp false
namespace Go.Proofs.Ytmcboobmnipjlaa.penNumbers
open Go.ChangeShapes Go.WideShapes Go.ChangeAt Go.RowKit Go.Sim
theorem own : ownKnob Try.prog.godebug = none := by kernel_rfl
set_option maxRecDepth 100000 in
theorem lifted (os : Os) (started : os.Started) (H : Type) (enc : TypeId × Value → H) :
    ReturnsInHanded {} Try.checked os 5 .any (Rows.penNumbersSpec.pre6 enc Try.prog Try.f5 Rows.penNumbersRow.domain false) (Rows.penNumbersSpec.post enc Try.prog Try.f5 false true false false) :=
  returnsInHanded_of_change (C := Try.checked) (s := Rows.penNumbersSpec) own started (by kernel_rfl) Try.func5
    (ChangeSpec.witness6 (enc := enc) (C := Try.checked) (s := Rows.penNumbersSpec) false ⟨#[], #[zeroV Try.prog 23, zeroV Try.prog 3], []⟩ 12 (by kernel_rfl) (by kernel_rfl) (by kernel_rfl) (by kernel_rfl))
    (fun W base args ds gs before hval hW _ _ => law_calls (P := Try.prog) (fn := Try.f5) (s := Rows.penNumbersSpec) (tb := 4) (n := 2) (d := 12) (by kernel_rfl) Try.underlying4 rfl (by kernel_rfl)
      (fun ds hd => by
        match ds, hd with
        | [d0, d1], _ => rfl) (by kernel_rfl) (by kernel_rfl) (by kernel_rfl) (fun h l ho hv => Go.Sim.penNumbers h l ho hv) W base args ds gs before hval hW)
theorem over : Rows.penNumbersRow.holds Try.pinned (OpenSpec.ofChange Rows.penNumbersSpec) :=
  OpenClaim.holds_of_wide 5 Try.f5 rfl rfl rfl rfl rfl rfl rfl ⟨rfl, rfl, rfl, rfl, rfl⟩ rfl rfl rfl rfl rfl (by kernel_rfl) Try.func5 (by kernel_rfl)
    (of_decide_eq_true (by kernel_rfl)) (by unfold Func.isWrapper; first | (rw [if_pos (by decide +kernel)]; kernel_rfl) | (rw [if_neg (by decide +kernel)]; exact ⟨rfl, rfl⟩))
    (fun os started H enc _ => lifted os started H enc)
theorem proved : Rows.PenNumbersSaid := over
end Go.Proofs.Ytmcboobmnipjlaa.penNumbers
namespace Go.Proofs.Ytmcboobmnipjlaa
theorem penNumbers_holds : Rows.PenNumbersSaid := penNumbers.proved
#print axioms penNumbers_holds
end Go.Proofs.Ytmcboobmnipjlaa
