/- Part 12 of the claim EmuDoes: EmuDoesRow -/
import Derived.Test.YtaamhddpmbombaaGreatRows
import Derived.Test.YtaamhddpmbombaaGreatW11
import Derived.Test.YtaamhddpmbombaaGreatW10
set_option linter.unusedSimpArgs false
set_option linter.unusedVariables false
set_option linter.defProp false
/- The statement EmuDoes. -/
namespace Go.Proofs.YtaamhddpmbombaaGreat.emuDoes
open Go.ChangeShapes Go.WideShapes Go.ChangeAt Go.RowKit Go.Sim
theorem own : ownKnob Tryz.prog.godebug = none := by kernel_rfl
set_option maxRecDepth 100000 in
theorem lifted (os : Os) (started : os.Started) (H : Type) (enc : TypeId × Value → H) :
    ReturnsInHanded {} Tryz.checked os 5 .any (Rows.emuDoesSpec.pre6 enc Tryz.prog Tryz.f5 Rows.emuDoesRow.domain false) (Rows.emuDoesSpec.post enc Tryz.prog Tryz.f5 false true false false) :=
  returnsInHanded_of_change (C := Tryz.checked) (s := Rows.emuDoesSpec) own started (by kernel_rfl) Tryz.func5
    (ChangeSpec.witness6 (enc := enc) (C := Tryz.checked) (s := Rows.emuDoesSpec) false ⟨#[], #[ags Tryz.prog 3, ags Tryz.prog 3, ags Tryz.prog 63], []⟩ 12 (by kernel_rfl) (by kernel_rfl) (by kernel_rfl) (by kernel_rfl))
    (fun W base args ds gs before hval hW _ _ => acf (P := Tryz.prog) (fn := Tryz.f5) (s := Rows.emuDoesSpec) (tb := 4) (n := 3) (d := 12) (by kernel_rfl) Tryz.underlying4 rfl (by kernel_rfl)
      (fun ds hd => by
        match ds, hd with
        | [d0, d1, d2], _ => rfl) (by kernel_rfl) (by kernel_rfl) (by kernel_rfl) (fun h vs _ hr => aer h vs hr) W base args ds gs before hval hW)
theorem k10 : (Rows.emuDoesRow.inPlace == Tryz.prog.inPlace 5) = true := by kernel_rfl
theorem k11 : (Rows.emuDoesRow.unfollowed == Tryz.prog.unfollowed 5) = true := by kernel_rfl
theorem k12 : (Rows.emuDoesRow.recurses == Tryz.prog.recurses 5) = true := by kernel_rfl
theorem k13 : (Rows.emuDoesRow.named == Tryz.prog.varsNamed 5) = true := by kernel_rfl
theorem closed : joinedFacts Tryz.prog 5 Tryz.f5 Rows.emuDoesSpec Rows.emuDoesRow = true := by
  unfold joinedFacts
  simp only [k10, k11, k12, k13, Bool.and_true]
  kernel_rfl
theorem inst : Func.isInstance Tryz.prog Tryz.f5 Rows.emuDoesRow.origin Rows.emuDoesRow.targs := of_decide_eq_true (by kernel_rfl)
theorem found : Tryz.prog.funcNamed Rows.emuDoesRow.func = some 5 := by kernel_rfl
theorem over : Rows.emuDoesRow.holds Tryz.pinned (OpenSpec.ofChange Rows.emuDoesSpec) :=
  OpenClaim.holds_of_wide 5 Tryz.f5 rfl rfl rfl rfl rfl rfl rfl ⟨rfl, rfl, rfl, rfl, rfl⟩ rfl rfl rfl rfl rfl found Tryz.func5 closed
    inst (by unfold Func.isWrapper; first | (rw [if_pos (by decide +kernel)]; kernel_rfl) | (rw [if_neg (by decide +kernel)]; exact ⟨rfl, rfl⟩))
    (fun os started H enc _ => lifted os started H enc)
theorem proved : Rows.EmuDoesSaid := over
end Go.Proofs.YtaamhddpmbombaaGreat.emuDoes
namespace Go.Proofs.YtaamhddpmbombaaGreat
theorem emuDoes_holds : Rows.EmuDoesSaid := emuDoes.proved
#print axioms emuDoes_holds
end Go.Proofs.YtaamhddpmbombaaGreat
