/- The statement PenTurns. -/
import Derived.Test.YtmcboobmnipjlaaG12
import Derived.Test.YtmcboobmnipjlaaRows
import Derived.Test.YtmcboobmnipjlaaB2
set_option linter.unusedSimpArgs false
set_option linter.unusedVariables false
set_option linter.defProp false
namespace Go.Proofs.Ytmcboobmnipjlaa.penTurns
open Go.ChangeShapes Go.WideShapes Go.ChangeAt Go.RowKit Go.Sim
theorem own : ownKnob Try.prog.godebug = none := by kernel_rfl
set_option maxRecDepth 100000 in
theorem lifted (os : Os) (started : os.Started) (H : Type) (enc : TypeId × Value → H) :
    ReturnsInHanded {} Try.checked os 3 .any (Rows.penTurnsSpec.pre6 enc Try.prog Try.f3 Rows.penTurnsRow.domain false) (Rows.penTurnsSpec.post enc Try.prog Try.f3 false true false false) :=
  returnsInHanded_of_change (C := Try.checked) (s := Rows.penTurnsSpec) own started (by kernel_rfl) Try.func3
    (ChangeSpec.witness6 (enc := enc) (C := Try.checked) (s := Rows.penTurnsSpec) false ⟨#[], #[zeroV Try.prog 23, zeroV Try.prog 24, zeroV Try.prog 5, zeroV Try.prog 4], []⟩ 12 (by kernel_rfl) (by kernel_rfl) (by kernel_rfl) (by kernel_rfl))
    (fun W base args ds gs before hval hW _ _ => law_calls (P := Try.prog) (fn := Try.f3) (s := Rows.penTurnsSpec) (tb := 4) (n := 4) (d := 12) (by kernel_rfl) Try.underlying4 rfl (by kernel_rfl)
      (fun ds hd => by
        match ds, hd with
        | [d0, d1, d2, d3], _ => rfl) (by kernel_rfl) (by kernel_rfl) (by kernel_rfl) (fun h l ho hv => Go.Sim.penTurns h l ho hv) W base args ds gs before hval hW)
theorem over : Rows.penTurnsRow.holds Try.pinned (OpenSpec.ofChange Rows.penTurnsSpec) :=
  OpenClaim.holds_of_wide 3 Try.f3 rfl rfl rfl rfl rfl rfl rfl ⟨rfl, rfl, rfl, rfl, rfl⟩ rfl rfl rfl rfl rfl (by kernel_rfl) Try.func3 (by kernel_rfl)
    (of_decide_eq_true (by kernel_rfl)) (by unfold Func.isWrapper; first | (rw [if_pos (by decide +kernel)]; kernel_rfl) | (rw [if_neg (by decide +kernel)]; exact ⟨rfl, rfl⟩))
    (fun os started H enc _ => lifted os started H enc)
theorem proved : Rows.PenTurnsSaid := over
end Go.Proofs.Ytmcboobmnipjlaa.penTurns
namespace Go.Proofs.Ytmcboobmnipjlaa
theorem penTurns_holds : Rows.PenTurnsSaid := penTurns.proved
#print axioms penTurns_holds
end Go.Proofs.Ytmcboobmnipjlaa
