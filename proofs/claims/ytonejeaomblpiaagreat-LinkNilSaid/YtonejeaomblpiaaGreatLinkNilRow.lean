/- The statement LinkNil. -/
import Derived.Test.YtonejeaomblpiaaGreatE4
import Derived.Test.YtonejeaomblpiaaGreatRows
import Derived.Test.YtonejeaomblpiaaGreatB2
set_option linter.unusedSimpArgs false
set_option linter.unusedVariables false
set_option linter.defProp false
namespace Go.Proofs.YtonejeaomblpiaaGreat.linkNil
open Go.ChangeShapes Go.WideShapes Go.ChangeAt Go.RowKit Go.Sim
theorem own : ownKnob Tryz.prog.godebug = none := by kernel_rfl
set_option maxRecDepth 100000 in
theorem lifted (os : Os) (started : os.Started) (H : Type) (enc : TypeId × Value → H) :
    ReturnsInHanded {} Tryz.checked os 5 .any (Rows.linkNilSpec.pre6 enc Tryz.prog Tryz.f5 Rows.linkNilRow.domain false) (Rows.linkNilSpec.post enc Tryz.prog Tryz.f5 false true false false) :=
  returnsInHanded_of_change (C := Tryz.checked) (s := Rows.linkNilSpec) own started (by kernel_rfl) Tryz.func5
    (ChangeSpec.witness6 (enc := enc) (C := Tryz.checked) (s := Rows.linkNilSpec) false ⟨#[], #[zeroV Tryz.prog 63], []⟩ 12 (by kernel_rfl) (by kernel_rfl) (by kernel_rfl) (by kernel_rfl))
    (fun W base args ds gs before hval hW _ _ => law_calls (P := Tryz.prog) (fn := Tryz.f5) (s := Rows.linkNilSpec) (tb := 4) (n := 1) (d := 12) (by kernel_rfl) Tryz.underlying4 rfl (by kernel_rfl)
      (fun ds hd => by
        match ds, hd with
        | [d0], _ => rfl) (by kernel_rfl) (by kernel_rfl) (by kernel_rfl) (fun h l _ hv => Go.Sim.linkNil_walk h l hv) W base args ds gs before hval hW)
theorem k10 : (Rows.linkNilRow.inPlace == Tryz.prog.inPlace 5) = true := by kernel_rfl
theorem k11 : (Rows.linkNilRow.unfollowed == Tryz.prog.unfollowed 5) = true := by kernel_rfl
theorem k12 : (Rows.linkNilRow.recurses == Tryz.prog.recurses 5) = true := by kernel_rfl
theorem k13 : (Rows.linkNilRow.named == Tryz.prog.varsNamed 5) = true := by kernel_rfl
theorem closed : joinedFacts Tryz.prog 5 Tryz.f5 Rows.linkNilSpec Rows.linkNilRow = true := by
  unfold joinedFacts
  simp only [k10, k11, k12, k13, Bool.and_true]
  kernel_rfl
theorem inst : Func.isInstance Tryz.prog Tryz.f5 Rows.linkNilRow.origin Rows.linkNilRow.targs := of_decide_eq_true (by kernel_rfl)
theorem found : Tryz.prog.funcNamed Rows.linkNilRow.func = some 5 := by kernel_rfl
theorem over : Rows.linkNilRow.holds Tryz.pinned (OpenSpec.ofChange Rows.linkNilSpec) :=
  OpenClaim.holds_of_wide 5 Tryz.f5 rfl rfl rfl rfl rfl rfl rfl ⟨rfl, rfl, rfl, rfl, rfl⟩ rfl rfl rfl rfl rfl found Tryz.func5 closed
    inst (by unfold Func.isWrapper; first | (rw [if_pos (by decide +kernel)]; kernel_rfl) | (rw [if_neg (by decide +kernel)]; exact ⟨rfl, rfl⟩))
    (fun os started H enc _ => lifted os started H enc)
theorem proved : Rows.LinkNilSaid := over
end Go.Proofs.YtonejeaomblpiaaGreat.linkNil
namespace Go.Proofs.YtonejeaomblpiaaGreat
theorem linkNil_holds : Rows.LinkNilSaid := linkNil.proved
#print axioms linkNil_holds
end Go.Proofs.YtonejeaomblpiaaGreat
