/- Part 11 of the claim EmuPrints: EmuPrintsRow -/
import Derived.Test.YtaamhddpmbombaaRows
import Derived.Test.YtaamhddpmbombaaW10
import Derived.Test.YtaamhddpmbombaaW9
set_option linter.unusedSimpArgs false
set_option linter.unusedVariables false
set_option linter.defProp false
/- The statement EmuPrints. -/
namespace Go.Proofs.Ytaamhddpmbombaa.emuPrints
open Go.ChangeShapes Go.WideShapes Go.ChangeAt Go.RowKit Go.Sim
theorem own : ownKnob Try.prog.godebug = none := by kernel_rfl
set_option maxRecDepth 100000 in
theorem lifted (os : Os) (started : os.Started) (H : Type) (enc : TypeId × Value → H) :
    ReturnsInHanded {} Try.checked os 7 .any (Rows.emuPrintsSpec.pre6 enc Try.prog Try.f7 Rows.emuPrintsRow.domain false) (Rows.emuPrintsSpec.post enc Try.prog Try.f7 false true false false) :=
  returnsInHanded_of_change (C := Try.checked) (s := Rows.emuPrintsSpec) own started (by kernel_rfl) Try.func7
    (ChangeSpec.witness6 (enc := enc) (C := Try.checked) (s := Rows.emuPrintsSpec) false ⟨#[], #[a5k Try.prog 3, a5k Try.prog 3, a5k Try.prog 3, a5k Try.prog 84, a5k Try.prog 85], []⟩ 12 (by kernel_rfl) (by kernel_rfl) (by kernel_rfl) (by kernel_rfl))
    (fun W base args ds gs before hval hW _ _ => aaP (P := Try.prog) (fn := Try.f7) (s := Rows.emuPrintsSpec) (tb := 4) (n := 5) (d := 12) (by kernel_rfl) Try.underlying4 rfl (by kernel_rfl)
      (fun ds hd => by
        match ds, hd with
        | [d0, d1, d2, d3, d4], _ => rfl) (by kernel_rfl) (by kernel_rfl) (by kernel_rfl) (fun h vs _ hr => a47 h vs hr) W base args ds gs before hval hW)
theorem k10 : (Rows.emuPrintsRow.inPlace == Try.prog.inPlace 7) = true := by kernel_rfl
theorem k11 : (Rows.emuPrintsRow.unfollowed == Try.prog.unfollowed 7) = true := by kernel_rfl
theorem k12 : (Rows.emuPrintsRow.recurses == Try.prog.recurses 7) = true := by kernel_rfl
theorem k13 : (Rows.emuPrintsRow.named == Try.prog.varsNamed 7) = true := by kernel_rfl
theorem closed : joinedFacts Try.prog 7 Try.f7 Rows.emuPrintsSpec Rows.emuPrintsRow = true := by
  unfold joinedFacts
  simp only [k10, k11, k12, k13, Bool.and_true]
  kernel_rfl
theorem inst : Func.isInstance Try.prog Try.f7 Rows.emuPrintsRow.origin Rows.emuPrintsRow.targs := of_decide_eq_true (by kernel_rfl)
theorem found : Try.prog.funcNamed Rows.emuPrintsRow.func = some 7 := by kernel_rfl
theorem over : Rows.emuPrintsRow.holds Try.pinned (OpenSpec.ofChange Rows.emuPrintsSpec) :=
  OpenClaim.holds_of_wide 7 Try.f7 rfl rfl rfl rfl rfl rfl rfl ⟨rfl, rfl, rfl, rfl, rfl⟩ rfl rfl rfl rfl rfl found Try.func7 closed
    inst (by unfold Func.isWrapper; first | (rw [if_pos (by decide +kernel)]; kernel_rfl) | (rw [if_neg (by decide +kernel)]; exact ⟨rfl, rfl⟩))
    (fun os started H enc _ => lifted os started H enc)
theorem proved : Rows.EmuPrintsSaid := over
end Go.Proofs.Ytaamhddpmbombaa.emuPrints
namespace Go.Proofs.Ytaamhddpmbombaa
theorem emuPrints_holds : Rows.EmuPrintsSaid := emuPrints.proved
#print axioms emuPrints_holds
end Go.Proofs.Ytaamhddpmbombaa
