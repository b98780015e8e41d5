/- Part 11 of the claim RuleBack: RuleBackRow -/
import Derived.Test.YtaamhddpmbombaaGreatRows
import Derived.Test.YtaamhddpmbombaaGreatW10
set_option linter.unusedSimpArgs false
set_option linter.unusedVariables false
set_option linter.defProp false
/- The statement RuleBack. -/
namespace Go.Proofs.YtaamhddpmbombaaGreat.ruleBack
open Go.ChangeShapes Go.WideShapes Go.ChangeAt Go.RowKit Go.Sim
theorem own : ownKnob Tryz.prog.godebug = none := by kernel_rfl
set_option maxRecDepth 100000 in
theorem ahe (os : Os) (started : os.Started) (H : Type) (enc : TypeId × Value → H) :
    ReturnsInHanded {} Tryz.checked os 4 .any (Rows.ruleBackSpec.pre6 enc Tryz.prog Tryz.f4 Rows.ruleBackRow.domain false) (Rows.ruleBackSpec.post enc Tryz.prog Tryz.f4 false true false false) :=
  returnsInHanded_of_change (C := Tryz.checked) (s := Rows.ruleBackSpec) own started (by kernel_rfl) Tryz.func4
    (ChangeSpec.witness6 (enc := enc) (C := Tryz.checked) (s := Rows.ruleBackSpec) false ⟨#[], #[a8Z Tryz.prog 3, a8Z Tryz.prog 3, a8Z Tryz.prog 22, a8Z Tryz.prog 42], []⟩ 12 (by kernel_rfl) (by kernel_rfl) (by kernel_rfl) (by kernel_rfl))
    (fun W base args ds gs before hval hW _ _ => abo (P := Tryz.prog) (fn := Tryz.f4) (s := Rows.ruleBackSpec) (tb := 4) (n := 4) (d := 12) (by kernel_rfl) Tryz.underlying4 rfl (by kernel_rfl)
      (fun ds hd => by
        match ds, hd with
        | [d0, d1, d2, d3], _ => rfl) (by kernel_rfl) (by kernel_rfl) (by kernel_rfl) (fun h vs _ hr => aaD h vs hr) W base args ds gs before hval hW)
theorem k10 : (Rows.ruleBackRow.inPlace == Tryz.prog.inPlace 4) = true := by kernel_rfl
theorem k11 : (Rows.ruleBackRow.unfollowed == Tryz.prog.unfollowed 4) = true := by kernel_rfl
theorem k12 : (Rows.ruleBackRow.recurses == Tryz.prog.recurses 4) = true := by kernel_rfl
theorem k13 : (Rows.ruleBackRow.named == Tryz.prog.varsNamed 4) = true := by kernel_rfl
theorem closed : joinedFacts Tryz.prog 4 Tryz.f4 Rows.ruleBackSpec Rows.ruleBackRow = true := by
  unfold joinedFacts
  simp only [k10, k11, k12, k13, Bool.and_true]
  kernel_rfl
theorem aiL : Func.isInstance Tryz.prog Tryz.f4 Rows.ruleBackRow.origin Rows.ruleBackRow.targs := of_decide_eq_true (by kernel_rfl)
theorem ac2 : Tryz.prog.funcNamed Rows.ruleBackRow.func = some 4 := by kernel_rfl
theorem aiF : Rows.ruleBackRow.holds Tryz.pinned (OpenSpec.ofChange Rows.ruleBackSpec) :=
  OpenClaim.holds_of_wide 4 Tryz.f4 rfl rfl rfl rfl rfl rfl rfl ⟨rfl, rfl, rfl, rfl, rfl⟩ rfl rfl rfl rfl rfl ac2 Tryz.func4 closed
    aiL (by unfold Func.isWrapper; first | (rw [if_pos (by decide +kernel)]; kernel_rfl) | (rw [if_neg (by decide +kernel)]; exact ⟨rfl, rfl⟩))
    (fun os started H enc _ => ahe os started H enc)
theorem proved : Rows.RuleBackSaid := aiF
end Go.Proofs.YtaamhddpmbombaaGreat.ruleBack
namespace Go.Proofs.YtaamhddpmbombaaGreat
theorem ruleBack_holds : Rows.RuleBackSaid := ruleBack.proved
#print axioms ruleBack_holds
end Go.Proofs.YtaamhddpmbombaaGreat
