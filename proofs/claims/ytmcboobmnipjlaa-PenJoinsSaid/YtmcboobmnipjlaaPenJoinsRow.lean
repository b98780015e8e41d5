/- The statement PenJoins. -/
import Derived.Test.YtmcboobmnipjlaaG12
import Derived.Test.YtmcboobmnipjlaaRows
import Derived.Test.YtmcboobmnipjlaaB2
set_option linter.unusedSimpArgs false
set_option linter.unusedVariables false
set_option linter.defProp false
namespace Go.Proofs.Ytmcboobmnipjlaa.penJoins
open Go.ChangeShapes Go.WideShapes Go.ChangeAt Go.RowKit Go.Sim
theorem own : ownKnob Try.prog.godebug = none := by kernel_rfl
set_option maxRecDepth 100000 in
theorem lifted (os : Os) (started : os.Started) (H : Type) (enc : TypeId × Value → H) :
    ReturnsInHanded {} Try.checked os 4 .any (Rows.penJoinsSpec.pre6 enc Try.prog Try.f4 Rows.penJoinsRow.domain false) (Rows.penJoinsSpec.post enc Try.prog Try.f4 false true false false) :=
  returnsInHanded_of_change (C := Try.checked) (s := Rows.penJoinsSpec) own started (by kernel_rfl) Try.func4
    (ChangeSpec.witness6 (enc := enc) (C := Try.checked) (s := Rows.penJoinsSpec) false ⟨#[], #[zeroV Try.prog 23, zeroV Try.prog 24, zeroV Try.prog 24, zeroV Try.prog 5], []⟩ 12 (by kernel_rfl) (by kernel_rfl) (by kernel_rfl) (by kernel_rfl))
    (fun W base args ds gs before hval hW _ _ => law_calls (P := Try.prog) (fn := Try.f4) (s := Rows.penJoinsSpec) (tb := 4) (n := 4) (d := 12) (by kernel_rfl) Try.underlying4 rfl (by kernel_rfl)
      (fun ds hd => by
        match ds, hd with
        | [d0, d1, d2, d3], _ => rfl) (by kernel_rfl) (by kernel_rfl) (by kernel_rfl) (fun h l ho hv => Go.Sim.penJoins h l ho hv) W base args ds gs before hval hW)
theorem over : Rows.penJoinsRow.holds Try.pinned (OpenSpec.ofChange Rows.penJoinsSpec) :=
  OpenClaim.holds_of_wide 4 Try.f4 rfl rfl rfl rfl rfl rfl rfl ⟨rfl, rfl, rfl, rfl, rfl⟩ rfl rfl rfl rfl rfl (by kernel_rfl) Try.func4 (by kernel_rfl)
    (of_decide_eq_true (by kernel_rfl)) (by unfold Func.isWrapper; first | (rw [if_pos (by decide +kernel)]; kernel_rfl) | (rw [if_neg (by decide +kernel)]; exact ⟨rfl, rfl⟩))
    (fun os started H enc _ => lifted os started H enc)
theorem proved : Rows.PenJoinsSaid := over
end Go.Proofs.Ytmcboobmnipjlaa.penJoins
namespace Go.Proofs.Ytmcboobmnipjlaa
theorem penJoins_holds : Rows.PenJoinsSaid := penJoins.proved
#print axioms penJoins_holds
end Go.Proofs.Ytmcboobmnipjlaa
