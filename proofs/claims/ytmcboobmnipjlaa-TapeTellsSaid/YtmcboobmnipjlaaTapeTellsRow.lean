/- Part 11 of the claim TapeTells: TapeTellsRow -/
import Derived.Test.YtmcboobmnipjlaaRows
import Derived.Test.YtmcboobmnipjlaaW10
set_option linter.unusedSimpArgs false
set_option linter.unusedVariables false
set_option linter.defProp false
/- The statement TapeTells. -/
namespace Go.Proofs.Ytmcboobmnipjlaa.tapeTells
open Go.ChangeShapes Go.WideShapes Go.ChangeAt Go.RowKit Go.Sim
theorem own : ownKnob Try.prog.godebug = none := by kernel_rfl
set_option maxRecDepth 100000 in
theorem lifted (os : Os) (started : os.Started) (H : Type) (enc : TypeId × Value → H) :
    ReturnsInHanded {} Try.checked os 9 .any (Rows.tapeTellsSpec.pre6 enc Try.prog Try.f9 Rows.tapeTellsRow.domain false) (Rows.tapeTellsSpec.post enc Try.prog Try.f9 false true false false) :=
  returnsInHanded_of_change (C := Try.checked) (s := Rows.tapeTellsSpec) own started (by kernel_rfl) Try.func9
    (ChangeSpec.witness6 (enc := enc) (C := Try.checked) (s := Rows.tapeTellsSpec) false ⟨#[], #[zeroV Try.prog 3, zeroV Try.prog 3, zeroV Try.prog 46, zeroV Try.prog 46], []⟩ 12 (by kernel_rfl) (by kernel_rfl) (by kernel_rfl) (by kernel_rfl))
    (fun W base args ds gs before hval hW _ _ => law_calls (P := Try.prog) (fn := Try.f9) (s := Rows.tapeTellsSpec) (tb := 4) (n := 4) (d := 12) (by kernel_rfl) Try.underlying4 rfl (by kernel_rfl)
      (fun ds hd => by
        match ds, hd with
        | [d0, d1, d2, d3], _ => rfl) (by kernel_rfl) (by kernel_rfl) (by kernel_rfl) (fun h vs _ hr => tells_walk h vs hr) W base args ds gs before hval hW)
theorem k10 : (Rows.tapeTellsRow.inPlace == Try.prog.inPlace 9) = true := by kernel_rfl
theorem k11 : (Rows.tapeTellsRow.unfollowed == Try.prog.unfollowed 9) = true := by kernel_rfl
theorem k12 : (Rows.tapeTellsRow.recurses == Try.prog.recurses 9) = true := by kernel_rfl
theorem k13 : (Rows.tapeTellsRow.named == Try.prog.varsNamed 9) = true := by kernel_rfl
theorem closed : joinedFacts Try.prog 9 Try.f9 Rows.tapeTellsSpec Rows.tapeTellsRow = true := by
  unfold joinedFacts
  simp only [k10, k11, k12, k13, Bool.and_true]
  kernel_rfl
theorem inst : Func.isInstance Try.prog Try.f9 Rows.tapeTellsRow.origin Rows.tapeTellsRow.targs := of_decide_eq_true (by kernel_rfl)
theorem found : Try.prog.funcNamed Rows.tapeTellsRow.func = some 9 := by kernel_rfl
theorem over : Rows.tapeTellsRow.holds Try.pinned (OpenSpec.ofChange Rows.tapeTellsSpec) :=
  OpenClaim.holds_of_wide 9 Try.f9 rfl rfl rfl rfl rfl rfl rfl ⟨rfl, rfl, rfl, rfl, rfl⟩ rfl rfl rfl rfl rfl found Try.func9 closed
    inst (by unfold Func.isWrapper; first | (rw [if_pos (by decide +kernel)]; kernel_rfl) | (rw [if_neg (by decide +kernel)]; exact ⟨rfl, rfl⟩))
    (fun os started H enc _ => lifted os started H enc)
theorem proved : Rows.TapeTellsSaid := over
end Go.Proofs.Ytmcboobmnipjlaa.tapeTells
namespace Go.Proofs.Ytmcboobmnipjlaa
theorem tapeTells_holds : Rows.TapeTellsSaid := tapeTells.proved
#print axioms tapeTells_holds
end Go.Proofs.Ytmcboobmnipjlaa
