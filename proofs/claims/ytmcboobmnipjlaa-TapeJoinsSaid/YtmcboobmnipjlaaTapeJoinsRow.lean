/- Part 12 of the claim TapeJoins: TapeJoinsRow -/
import Derived.Test.YtmcboobmnipjlaaRows
import Derived.Test.YtmcboobmnipjlaaW11
set_option linter.unusedSimpArgs false
set_option linter.unusedVariables false
set_option linter.defProp false
/- The statement TapeJoins. -/
namespace Go.Proofs.Ytmcboobmnipjlaa.tapeJoins
open Go.ChangeShapes Go.WideShapes Go.ChangeAt Go.RowKit Go.Sim
theorem own : ownKnob Try.prog.godebug = none := by kernel_rfl
set_option maxRecDepth 100000 in
theorem lifted (os : Os) (started : os.Started) (H : Type) (enc : TypeId × Value → H) :
    ReturnsInHanded {} Try.checked os 8 .any (Rows.tapeJoinsSpec.pre6 enc Try.prog Try.f8 Rows.tapeJoinsRow.domain false) (Rows.tapeJoinsSpec.post enc Try.prog Try.f8 false true false false) :=
  returnsInHanded_of_change (C := Try.checked) (s := Rows.tapeJoinsSpec) own started (by kernel_rfl) Try.func8
    (ChangeSpec.witness6 (enc := enc) (C := Try.checked) (s := Rows.tapeJoinsSpec) false ⟨#[], #[zeroV Try.prog 3, zeroV Try.prog 3, zeroV Try.prog 46, zeroV Try.prog 46], []⟩ 12 (by kernel_rfl) (by kernel_rfl) (by kernel_rfl) (by kernel_rfl))
    (fun W base args ds gs before hval hW _ _ => law_calls (P := Try.prog) (fn := Try.f8) (s := Rows.tapeJoinsSpec) (tb := 4) (n := 4) (d := 12) (by kernel_rfl) Try.underlying4 rfl (by kernel_rfl)
      (fun ds hd => by
        match ds, hd with
        | [d0, d1, d2, d3], _ => rfl) (by kernel_rfl) (by kernel_rfl) (by kernel_rfl) (fun h vs _ hr => joins_walk h vs hr) W base args ds gs before hval hW)
theorem k10 : (Rows.tapeJoinsRow.inPlace == Try.prog.inPlace 8) = true := by kernel_rfl
theorem k11 : (Rows.tapeJoinsRow.unfollowed == Try.prog.unfollowed 8) = true := by kernel_rfl
theorem k12 : (Rows.tapeJoinsRow.recurses == Try.prog.recurses 8) = true := by kernel_rfl
theorem k13 : (Rows.tapeJoinsRow.named == Try.prog.varsNamed 8) = true := by kernel_rfl
theorem closed : joinedFacts Try.prog 8 Try.f8 Rows.tapeJoinsSpec Rows.tapeJoinsRow = true := by
  unfold joinedFacts
  simp only [k10, k11, k12, k13, Bool.and_true]
  kernel_rfl
theorem inst : Func.isInstance Try.prog Try.f8 Rows.tapeJoinsRow.origin Rows.tapeJoinsRow.targs := of_decide_eq_true (by kernel_rfl)
theorem found : Try.prog.funcNamed Rows.tapeJoinsRow.func = some 8 := by kernel_rfl
theorem over : Rows.tapeJoinsRow.holds Try.pinned (OpenSpec.ofChange Rows.tapeJoinsSpec) :=
  OpenClaim.holds_of_wide 8 Try.f8 rfl rfl rfl rfl rfl rfl rfl ⟨rfl, rfl, rfl, rfl, rfl⟩ rfl rfl rfl rfl rfl found Try.func8 closed
    inst (by unfold Func.isWrapper; first | (rw [if_pos (by decide +kernel)]; kernel_rfl) | (rw [if_neg (by decide +kernel)]; exact ⟨rfl, rfl⟩))
    (fun os started H enc _ => lifted os started H enc)
theorem proved : Rows.TapeJoinsSaid := over
end Go.Proofs.Ytmcboobmnipjlaa.tapeJoins
namespace Go.Proofs.Ytmcboobmnipjlaa
theorem tapeJoins_holds : Rows.TapeJoinsSaid := tapeJoins.proved
#print axioms tapeJoins_holds
end Go.Proofs.Ytmcboobmnipjlaa
