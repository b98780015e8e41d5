/- The statement StubNil. -/
import Derived.Test.YtonejeaomblpiaaGreatE6w
import Derived.Test.YtonejeaomblpiaaGreatRows
import Derived.Test.YtonejeaomblpiaaGreatB2
set_option linter.unusedSimpArgs false
set_option linter.unusedVariables false
set_option linter.defProp false
namespace Go.Proofs.YtonejeaomblpiaaGreat.stubNil
open Go.ChangeShapes Go.WideShapes Go.ChangeAt Go.RowKit Go.Sim
theorem own : ownKnob Tryz.prog.godebug = none := by kernel_rfl
set_option maxRecDepth 100000 in
theorem lifted (os : Os) (started : os.Started) (H : Type) (enc : TypeId × Value → H) :
    ReturnsInHanded {} Tryz.checked os 6 .any (Rows.stubNilSpec.pre6 enc Tryz.prog Tryz.f6 Rows.stubNilRow.domain false) (Rows.stubNilSpec.post enc Tryz.prog Tryz.f6 false true false false) :=
  returnsInHanded_of_change (C := Tryz.checked) (s := Rows.stubNilSpec) own started (by kernel_rfl) Tryz.func6
    (ChangeSpec.witness6 (enc := enc) (C := Tryz.checked) (s := Rows.stubNilSpec) false ⟨#[], #[zeroV Tryz.prog 22], []⟩ 12 (by kernel_rfl) (by kernel_rfl) (by kernel_rfl) (by kernel_rfl))
    (fun W base args ds gs before hval hW _ _ => law_calls (P := Tryz.prog) (fn := Tryz.f6) (s := Rows.stubNilSpec) (tb := 4) (n := 1) (d := 12) (by kernel_rfl) Tryz.underlying4 rfl (by kernel_rfl)
      (fun ds hd => by
        match ds, hd with
        | [d0], _ => rfl) (by kernel_rfl) (by kernel_rfl) (by kernel_rfl) (fun h l _ hv => Go.Sim.stubNil_walk h l hv) W base args ds gs before hval hW)
theorem k10 : (Rows.stubNilRow.inPlace == Tryz.prog.inPlace 6) = true := by kernel_rfl
theorem k11 : (Rows.stubNilRow.unfollowed == Tryz.prog.unfollowed 6) = true := by kernel_rfl
theorem k12 : (Rows.stubNilRow.recurses == Tryz.prog.recurses 6) = true := by kernel_rfl
theorem k13 : (Rows.stubNilRow.named == Tryz.prog.varsNamed 6) = true := by kernel_rfl
theorem closed : joinedFacts Tryz.prog 6 Tryz.f6 Rows.stubNilSpec Rows.stubNilRow = true := by
  unfold joinedFacts
  simp only [k10, k11, k12, k13, Bool.and_true]
  kernel_rfl
theorem inst : Func.isInstance Tryz.prog Tryz.f6 Rows.stubNilRow.origin Rows.stubNilRow.targs := of_decide_eq_true (by kernel_rfl)
theorem found : Tryz.prog.funcNamed Rows.stubNilRow.func = some 6 := by kernel_rfl
theorem over : Rows.stubNilRow.holds Tryz.pinned (OpenSpec.ofChange Rows.stubNilSpec) :=
  OpenClaim.holds_of_wide 6 Tryz.f6 rfl rfl rfl rfl rfl rfl rfl ⟨rfl, rfl, rfl, rfl, rfl⟩ rfl rfl rfl rfl rfl found Tryz.func6 closed
    inst (by unfold Func.isWrapper; first | (rw [if_pos (by decide +kernel)]; kernel_rfl) | (rw [if_neg (by decide +kernel)]; exact ⟨rfl, rfl⟩))
    (fun os started H enc _ => lifted os started H enc)
theorem proved : Rows.StubNilSaid := over
end Go.Proofs.YtonejeaomblpiaaGreat.stubNil
namespace Go.Proofs.YtonejeaomblpiaaGreat
theorem stubNil_holds : Rows.StubNilSaid := stubNil.proved
#print axioms stubNil_holds
end Go.Proofs.YtonejeaomblpiaaGreat
