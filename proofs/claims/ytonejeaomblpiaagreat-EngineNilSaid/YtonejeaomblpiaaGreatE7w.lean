/- EngineNil: whatever comes in. -/
import Derived.Test.YtonejeaomblpiaaGreatE7
set_option linter.unusedSimpArgs false
set_option linter.unusedVariables false
set_option linter.defProp false
set_option maxRecDepth 100000
namespace Go.Sim
open Go.Proofs

theorem engineNil_walk (h : Heap) (l : List Value) (hv : RVals Tryz.prog h 12 [22, 23] l) : ACalls Tryz.prog 3 l h (fun v _ => v = .bool true) := by
  obtain ⟨v2, r, rfl, hb, hv⟩ := RVals_cons hv
  obtain ⟨b0, r, rfl, h0, hv⟩ := RVals_cons hv
  cases RVals_nil hv
  rw [RVal_slice Tryz.underlying22] at hb
  rw [RVal_int Tryz.underlying23] at h0
  obtain ⟨x0, rfl, _⟩ := h0
  have fin : ∀ {l0 : List Value} {n : Nat}, bodyX Tryz.prog zzn28_M (execX Tryz.prog zzn28_M 10000) 3 l0 (p0 n) (fun v _ => isTrueV v) = true →
      (∀ β w ms, VRels β [v2, .int .u64 x0] ms → Rel Tryz.prog β h w → ∃ β0, VRels β0 l0 ms ∧ Rel Tryz.prog β0 (p0 n).heap w) →
      ACalls Tryz.prog 3 [v2, .int .u64 x0] h (fun v _ => v = .bool true) :=
    fun q hs => (calls_under (reckon_true zzn28_m q) (p0_ro _) hs).mono fun _ _ q => q.1
  have wrap : ∀ {β β0 : Place} {ms : List Value} {u : Value}, VRels β [v2, .int .u64 x0] ms → (∀ mv, VRel β v2 mv → VRel β0 u mv) → VRels β0 [u, .int .u64 x0] ms := by
    intro β β0 ms u hm hu
    cases hm with | cons k0 h2 =>
    cases h2 with | cons k1 h2 =>
    cases h2
    cases k1
    exact .cons (hu _ k0) (.cons (.int _ _) .nil)
  rcases hb with rfl | rfl | ⟨b, rows, rfl, hne, _⟩
  · exact fin (engineNil_nil x0) fun β w ms hm hr => ⟨fun _ => none, wrap hm fun mv k => (by cases k; exact .nilslice), p0_rel hr fun c m s e => (by cases e)⟩
  · refine fin (engineNil_dud x0) fun β w ms hm hr => ⟨fun _ => none, wrap hm fun mv k => ?_, p0_rel hr fun c m s e => (by cases e)⟩
    rcases k.slice_inv with ⟨m', s', c', hb, rfl, hc, _⟩ | ⟨_, _, a', c', rfl⟩
    · rcases hc with hc | hc | hc
      · exact absurd hc (by decide)
      · exact absurd hc (by decide)
      · subst hc; exact .dud
    · exact .dud
  · refine fin (engineNil_slice x0 rows.length) fun β w ms hm hr => ⟨fun c => if c = 0 then β b else none, wrap hm fun mv k => ?_, p0_rel hr fun c m s e => ?_⟩
    · rcases k.slice_inv with ⟨m', s', c', hb, rfl, k1, k2, k3, k4⟩ | ⟨h0, _⟩
      · exact .slice (by simp [hb]) k1 k2 k3 k4
      · exact absurd (List.length_eq_zero_iff.1 h0) hne
    · by_cases hc : c = 0
      · subst hc
        exact ⟨by omega, b, by simpa using e⟩
      · simp [hc] at e
end Go.Sim
