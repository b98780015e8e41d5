/- The statement GuessNil. -/
import Derived.Test.YtjejpchdejlmfaaE2
import Derived.Test.YtjejpchdejlmfaaRows
import Derived.Test.YtjejpchdejlmfaaB2
set_option linter.unusedSimpArgs false
set_option linter.unusedVariables false
set_option linter.defProp false
namespace Go.Proofs.Ytjejpchdejlmfaa.guessNil
open Go.ChangeShapes Go.WideShapes Go.ChangeAt Go.RowKit Go.Sim
theorem own : ownKnob Try.prog.godebug = none := by kernel_rfl
set_option maxRecDepth 100000 in
theorem lifted (os : Os) (started : os.Started) (H : Type) (enc : TypeId × Value → H) :
    ReturnsInHanded {} Try.checked os 3 .any (Rows.guessNilSpec.pre6 enc Try.prog Try.f3 Rows.guessNilRow.domain false) (Rows.guessNilSpec.post enc Try.prog Try.f3 false true false false) :=
  returnsInHanded_of_change (C := Try.checked) (s := Rows.guessNilSpec) own started (by kernel_rfl) Try.func3
    (ChangeSpec.witness6 (enc := enc) (C := Try.checked) (s := Rows.guessNilSpec) false ⟨#[], #[zeroV Try.prog 33], []⟩ 12 (by kernel_rfl) (by kernel_rfl) (by kernel_rfl) (by kernel_rfl))
    (fun W base args ds gs before hval hW _ _ => law_calls (P := Try.prog) (fn := Try.f3) (s := Rows.guessNilSpec) (tb := 4) (n := 1) (d := 12) (by kernel_rfl) Try.underlying4 rfl (by kernel_rfl)
      (fun ds hd => by
        match ds, hd with
        | [d0], _ => rfl) (by kernel_rfl) (by kernel_rfl) (by kernel_rfl) (fun h l _ hv => Go.Sim.guessNil_walk h l hv) W base args ds gs before hval hW)
theorem over : Rows.guessNilRow.holds Try.pinned (OpenSpec.ofChange Rows.guessNilSpec) :=
  OpenClaim.holds_of_wide 3 Try.f3 rfl rfl rfl rfl rfl rfl rfl ⟨rfl, rfl, rfl, rfl, rfl⟩ rfl rfl rfl rfl rfl (by kernel_rfl) Try.func3 (by kernel_rfl)
    (of_decide_eq_true (by kernel_rfl)) (by unfold Func.isWrapper; first | (rw [if_pos (by decide +kernel)]; kernel_rfl) | (rw [if_neg (by decide +kernel)]; exact ⟨rfl, rfl⟩))
    (fun os started H enc _ => lifted os started H enc)
theorem proved : Rows.GuessNilSaid := over
end Go.Proofs.Ytjejpchdejlmfaa.guessNil
namespace Go.Proofs.Ytjejpchdejlmfaa
theorem guessNil_holds : Rows.GuessNilSaid := guessNil.proved
#print axioms guessNil_holds
end Go.Proofs.Ytjejpchdejlmfaa
