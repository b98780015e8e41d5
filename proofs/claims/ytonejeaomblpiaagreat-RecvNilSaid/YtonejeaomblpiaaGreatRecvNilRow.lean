/- The statement RecvNil. -/
import Derived.Test.YtonejeaomblpiaaGreatE5w
import Derived.Test.YtonejeaomblpiaaGreatRows
import Derived.Test.YtonejeaomblpiaaGreatB2
set_option linter.unusedSimpArgs false
set_option linter.unusedVariables false
set_option linter.defProp false
namespace Go.Proofs.YtonejeaomblpiaaGreat.recvNil
open Go.ChangeShapes Go.WideShapes Go.ChangeAt Go.RowKit Go.Sim
theorem own : ownKnob Tryz.prog.godebug = none := by kernel_rfl
set_option maxRecDepth 100000 in
theorem lifted (os : Os) (started : os.Started) (H : Type) (enc : TypeId × Value → H) :
    ReturnsInHanded {} Tryz.checked os 4 .any (Rows.recvNilSpec.pre6 enc Tryz.prog Tryz.f4 Rows.recvNilRow.domain false) (Rows.recvNilSpec.post enc Tryz.prog Tryz.f4 false true false false) :=
  returnsInHanded_of_change (C := Tryz.checked) (s := Rows.recvNilSpec) own started (by kernel_rfl) Tryz.func4
    (ChangeSpec.witness6 (enc := enc) (C := Tryz.checked) (s := Rows.recvNilSpec) false ⟨#[], #[zeroV Tryz.prog 22, zeroV Tryz.prog 23], []⟩ 12 (by kernel_rfl) (by kernel_rfl) (by kernel_rfl) (by kernel_rfl))
    (fun W base args ds gs before hval hW _ _ => law_calls (P := Tryz.prog) (fn := Tryz.f4) (s := Rows.recvNilSpec) (tb := 4) (n := 2) (d := 12) (by kernel_rfl) Tryz.underlying4 rfl (by kernel_rfl)
      (fun ds hd => by
        match ds, hd with
        | [d0, d1], _ => rfl) (by kernel_rfl) (by kernel_rfl) (by kernel_rfl) (fun h l _ hv => Go.Sim.recvNil_walk h l hv) W base args ds gs before hval hW)
theorem k10 : (Rows.recvNilRow.inPlace == Tryz.prog.inPlace 4) = true := by kernel_rfl
theorem k11 : (Rows.recvNilRow.unfollowed == Tryz.prog.unfollowed 4) = true := by kernel_rfl
theorem k12 : (Rows.recvNilRow.recurses == Tryz.prog.recurses 4) = true := by kernel_rfl
theorem k13 : (Rows.recvNilRow.named == Tryz.prog.varsNamed 4) = true := by kernel_rfl
theorem closed : joinedFacts Tryz.prog 4 Tryz.f4 Rows.recvNilSpec Rows.recvNilRow = true := by
  unfold joinedFacts
  simp only [k10, k11, k12, k13, Bool.and_true]
  kernel_rfl
theorem inst : Func.isInstance Tryz.prog Tryz.f4 Rows.recvNilRow.origin Rows.recvNilRow.targs := of_decide_eq_true (by kernel_rfl)
theorem found : Tryz.prog.funcNamed Rows.recvNilRow.func = some 4 := by kernel_rfl
theorem over : Rows.recvNilRow.holds Tryz.pinned (OpenSpec.ofChange Rows.recvNilSpec) :=
  OpenClaim.holds_of_wide 4 Tryz.f4 rfl rfl rfl rfl rfl rfl rfl ⟨rfl, rfl, rfl, rfl, rfl⟩ rfl rfl rfl rfl rfl found Tryz.func4 closed
    inst (by unfold Func.isWrapper; first | (rw [if_pos (by decide +kernel)]; kernel_rfl) | (rw [if_neg (by decide +kernel)]; exact ⟨rfl, rfl⟩))
    (fun os started H enc _ => lifted os started H enc)
theorem proved : Rows.RecvNilSaid := over
end Go.Proofs.YtonejeaomblpiaaGreat.recvNil
namespace Go.Proofs.YtonejeaomblpiaaGreat
theorem recvNil_holds : Rows.RecvNilSaid := recvNil.proved
#print axioms recvNil_holds
end Go.Proofs.YtonejeaomblpiaaGreat
