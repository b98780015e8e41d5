/- Part 11 of the claim TapeParses: TapeParsesRow -/
import Derived.Test.YtmcboobmnipjlaaRows
import Derived.Test.YtmcboobmnipjlaaW10
set_option linter.unusedSimpArgs false
set_option linter.unusedVariables false
set_option linter.defProp false
/- The statement TapeParses. -/
namespace Go.Proofs.Ytmcboobmnipjlaa.tapeParses
open Go.ChangeShapes Go.WideShapes Go.ChangeAt Go.RowKit Go.Sim
theorem own : ownKnob Try.prog.godebug = none := by kernel_rfl
set_option maxRecDepth 100000 in
theorem lifted (os : Os) (started : os.Started) (H : Type) (enc : TypeId × Value → H) :
    ReturnsInHanded {} Try.checked os 7 .any (Rows.tapeParsesSpec.pre6 enc Try.prog Try.f7 Rows.tapeParsesRow.domain false) (Rows.tapeParsesSpec.post enc Try.prog Try.f7 false true false false) :=
  returnsInHanded_of_change (C := Try.checked) (s := Rows.tapeParsesSpec) own started (by kernel_rfl) Try.func7
    (ChangeSpec.witness6 (enc := enc) (C := Try.checked) (s := Rows.tapeParsesSpec) false ⟨#[], #[zeroV Try.prog 45], []⟩ 12 (by kernel_rfl) (by kernel_rfl) (by kernel_rfl) (by kernel_rfl))
    (fun W base args ds gs before hval hW _ _ => law_calls (P := Try.prog) (fn := Try.f7) (s := Rows.tapeParsesSpec) (tb := 4) (n := 1) (d := 12) (by kernel_rfl) Try.underlying4 rfl (by kernel_rfl)
      (fun ds hd => by
        match ds, hd with
        | [d0], _ => rfl) (by kernel_rfl) (by kernel_rfl) (by kernel_rfl) (fun h vs _ hr => parses_walk h vs hr) W base args ds gs before hval hW)
theorem k10 : (Rows.tapeParsesRow.inPlace == Try.prog.inPlace 7) = true := by kernel_rfl
theorem k11 : (Rows.tapeParsesRow.unfollowed == Try.prog.unfollowed 7) = true := by kernel_rfl
theorem k12 : (Rows.tapeParsesRow.recurses == Try.prog.recurses 7) = true := by kernel_rfl
theorem k13 : (Rows.tapeParsesRow.named == Try.prog.varsNamed 7) = true := by kernel_rfl
theorem closed : joinedFacts Try.prog 7 Try.f7 Rows.tapeParsesSpec Rows.tapeParsesRow = true := by
  unfold joinedFacts
  simp only [k10, k11, k12, k13, Bool.and_true]
  kernel_rfl
theorem inst : Func.isInstance Try.prog Try.f7 Rows.tapeParsesRow.origin Rows.tapeParsesRow.targs := of_decide_eq_true (by kernel_rfl)
theorem found : Try.prog.funcNamed Rows.tapeParsesRow.func = some 7 := by kernel_rfl
theorem over : Rows.tapeParsesRow.holds Try.pinned (OpenSpec.ofChange Rows.tapeParsesSpec) :=
  OpenClaim.holds_of_wide 7 Try.f7 rfl rfl rfl rfl rfl rfl rfl ⟨rfl, rfl, rfl, rfl, rfl⟩ rfl rfl rfl rfl rfl found Try.func7 closed
    inst (by unfold Func.isWrapper; first | (rw [if_pos (by decide +kernel)]; kernel_rfl) | (rw [if_neg (by decide +kernel)]; exact ⟨rfl, rfl⟩))
    (fun os started H enc _ => lifted os started H enc)
theorem proved : Rows.TapeParsesSaid := over
end Go.Proofs.Ytmcboobmnipjlaa.tapeParses
namespace Go.Proofs.Ytmcboobmnipjlaa
theorem tapeParses_holds : Rows.TapeParsesSaid := tapeParses.proved
#print axioms tapeParses_holds
end Go.Proofs.Ytmcboobmnipjlaa
