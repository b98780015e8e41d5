/- Part 12 of the claim RuleNext: RuleNextRow -/
import Derived.Test.YtaamhddpmbombaaGreatRows
import Derived.Test.YtaamhddpmbombaaGreatW11
import Derived.Test.YtaamhddpmbombaaGreatW10
set_option linter.unusedSimpArgs false
set_option linter.unusedVariables false
set_option linter.defProp false
/- The statement RuleNext. -/
namespace Go.Proofs.YtaamhddpmbombaaGreat.ruleNext
open Go.ChangeShapes Go.WideShapes Go.ChangeAt Go.RowKit Go.Sim
theorem own : ownKnob Tryz.prog.godebug = none := by kernel_rfl
set_option maxRecDepth 100000 in
theorem lifted (os : Os) (started : os.Started) (H : Type) (enc : TypeId × Value → H) :
    ReturnsInHanded {} Tryz.checked os 3 .any (Rows.ruleNextSpec.pre6 enc Tryz.prog Tryz.f3 Rows.ruleNextRow.domain false) (Rows.ruleNextSpec.post enc Tryz.prog Tryz.f3 false true false false) :=
  returnsInHanded_of_change (C := Tryz.checked) (s := Rows.ruleNextSpec) own started (by kernel_rfl) Tryz.func3
    (ChangeSpec.witness6 (enc := enc) (C := Tryz.checked) (s := Rows.ruleNextSpec) false ⟨#[], #[aa0 Tryz.prog 3, aa0 Tryz.prog 3, aa0 Tryz.prog 22, aa0 Tryz.prog 23], []⟩ 12 (by kernel_rfl) (by kernel_rfl) (by kernel_rfl) (by kernel_rfl))
    (fun W base args ds gs before hval hW _ _ => abF (P := Tryz.prog) (fn := Tryz.f3) (s := Rows.ruleNextSpec) (tb := 4) (n := 4) (d := 12) (by kernel_rfl) Tryz.underlying4 rfl (by kernel_rfl)
      (fun ds hd => by
        match ds, hd with
        | [d0, d1, d2, d3], _ => rfl) (by kernel_rfl) (by kernel_rfl) (by kernel_rfl) (fun h vs _ hr => aaA h vs hr) W base args ds gs before hval hW)
theorem k10 : (Rows.ruleNextRow.inPlace == Tryz.prog.inPlace 3) = true := by kernel_rfl
theorem k11 : (Rows.ruleNextRow.unfollowed == Tryz.prog.unfollowed 3) = true := by kernel_rfl
theorem k12 : (Rows.ruleNextRow.recurses == Tryz.prog.recurses 3) = true := by kernel_rfl
theorem k13 : (Rows.ruleNextRow.named == Tryz.prog.varsNamed 3) = true := by kernel_rfl
theorem closed : joinedFacts Tryz.prog 3 Tryz.f3 Rows.ruleNextSpec Rows.ruleNextRow = true := by
  unfold joinedFacts
  simp only [k10, k11, k12, k13, Bool.and_true]
  kernel_rfl
theorem inst : Func.isInstance Tryz.prog Tryz.f3 Rows.ruleNextRow.origin Rows.ruleNextRow.targs := of_decide_eq_true (by kernel_rfl)
theorem found : Tryz.prog.funcNamed Rows.ruleNextRow.func = some 3 := by kernel_rfl
theorem over : Rows.ruleNextRow.holds Tryz.pinned (OpenSpec.ofChange Rows.ruleNextSpec) :=
  OpenClaim.holds_of_wide 3 Tryz.f3 rfl rfl rfl rfl rfl rfl rfl ⟨rfl, rfl, rfl, rfl, rfl⟩ rfl rfl rfl rfl rfl found Tryz.func3 closed
    inst (by unfold Func.isWrapper; first | (rw [if_pos (by decide +kernel)]; kernel_rfl) | (rw [if_neg (by decide +kernel)]; exact ⟨rfl, rfl⟩))
    (fun os started H enc _ => lifted os started H enc)
theorem proved : Rows.RuleNextSaid := over
end Go.Proofs.YtaamhddpmbombaaGreat.ruleNext
namespace Go.Proofs.YtaamhddpmbombaaGreat
theorem ruleNext_holds : Rows.RuleNextSaid := ruleNext.proved
#print axioms ruleNext_holds
end Go.Proofs.YtaamhddpmbombaaGreat
