/- The statement EngineNil. -/
import Derived.Test.YtonejeaomblpiaaGreatE7w
import Derived.Test.YtonejeaomblpiaaGreatRows
import Derived.Test.YtonejeaomblpiaaGreatB2
set_option linter.unusedSimpArgs false
set_option linter.unusedVariables false
set_option linter.defProp false
namespace Go.Proofs.YtonejeaomblpiaaGreat.engineNil
open Go.ChangeShapes Go.WideShapes Go.ChangeAt Go.RowKit Go.Sim
theorem own : ownKnob Tryz.prog.godebug = none := by kernel_rfl
set_option maxRecDepth 100000 in
theorem lifted (os : Os) (started : os.Started) (H : Type) (enc : TypeId × Value → H) :
    ReturnsInHanded {} Tryz.checked os 3 .any (Rows.engineNilSpec.pre6 enc Tryz.prog Tryz.f3 Rows.engineNilRow.domain false) (Rows.engineNilSpec.post enc Tryz.prog Tryz.f3 false true false false) :=
  returnsInHanded_of_change (C := Tryz.checked) (s := Rows.engineNilSpec) own started (by kernel_rfl) Tryz.func3
    (ChangeSpec.witness6 (enc := enc) (C := Tryz.checked) (s := Rows.engineNilSpec) false ⟨#[], #[zeroV Tryz.prog 22, zeroV Tryz.prog 23], []⟩ 12 (by kernel_rfl) (by kernel_rfl) (by kernel_rfl) (by kernel_rfl))
    (fun W base args ds gs before hval hW _ _ => law_calls (P := Tryz.prog) (fn := Tryz.f3) (s := Rows.engineNilSpec) (tb := 4) (n := 2) (d := 12) (by kernel_rfl) Tryz.underlying4 rfl (by kernel_rfl)
      (fun ds hd => by
        match ds, hd with
        | [d0, d1], _ => rfl) (by kernel_rfl) (by kernel_rfl) (by kernel_rfl) (fun h l _ hv => Go.Sim.engineNil_walk h l hv) W base args ds gs before hval hW)
theorem k10 : (Rows.engineNilRow.inPlace == Tryz.prog.inPlace 3) = true := by kernel_rfl
theorem k11 : (Rows.engineNilRow.unfollowed == Tryz.prog.unfollowed 3) = true := by kernel_rfl
theorem k12 : (Rows.engineNilRow.recurses == Tryz.prog.recurses 3) = true := by kernel_rfl
theorem k13 : (Rows.engineNilRow.named == Tryz.prog.varsNamed 3) = true := by kernel_rfl
theorem closed : joinedFacts Tryz.prog 3 Tryz.f3 Rows.engineNilSpec Rows.engineNilRow = true := by
  unfold joinedFacts
  simp only [k10, k11, k12, k13, Bool.and_true]
  kernel_rfl
theorem inst : Func.isInstance Tryz.prog Tryz.f3 Rows.engineNilRow.origin Rows.engineNilRow.targs := of_decide_eq_true (by kernel_rfl)
theorem found : Tryz.prog.funcNamed Rows.engineNilRow.func = some 3 := by kernel_rfl
theorem over : Rows.engineNilRow.holds Tryz.pinned (OpenSpec.ofChange Rows.engineNilSpec) :=
  OpenClaim.holds_of_wide 3 Tryz.f3 rfl rfl rfl rfl rfl rfl rfl ⟨rfl, rfl, rfl, rfl, rfl⟩ rfl rfl rfl rfl rfl found Tryz.func3 closed
    inst (by unfold Func.isWrapper; first | (rw [if_pos (by decide +kernel)]; kernel_rfl) | (rw [if_neg (by decide +kernel)]; exact ⟨rfl, rfl⟩))
    (fun os started H enc _ => lifted os started H enc)
theorem proved : Rows.EngineNilSaid := over
end Go.Proofs.YtonejeaomblpiaaGreat.engineNil
namespace Go.Proofs.YtonejeaomblpiaaGreat
theorem engineNil_holds : Rows.EngineNilSaid := engineNil.proved
#print axioms engineNil_holds
end Go.Proofs.YtonejeaomblpiaaGreat
