/- A nil emulator does nothing: the whole law is reckoned. -/
import Derived.Test.YtjejpchdejlmfaaProg
import Derived.Test.YtjejpchdejlmfaaI7
set_option linter.unusedSimpArgs false
set_option linter.unusedVariables false
set_option linter.defProp false
set_option maxRecDepth 100000
namespace Go.Sim
open Go.Proofs

theorem emuNil_nil (x y : Int) : callX Try.prog (execX Try.prog 10000) 4 [.slice none 0 0, .int .i64 x, .int .i64 y] (p0 0) (fun v _ => isTrueV v) = true := by kernel_rfl
theorem emuNil_dud (x y : Int) : callX Try.prog (execX Try.prog 10000) 4 [.slice (some ⟨0, 0, none⟩) 0 dud, .int .i64 x, .int .i64 y] (p0 0) (fun v _ => isTrueV v) = true := by kernel_rfl
theorem emuNil_slice (x y : Int) (n : Nat) : callX Try.prog (execX Try.prog 10000) 4 [.slice (some ⟨0, 0, none⟩) n noapp, .int .i64 x, .int .i64 y] (p0 1) (fun v _ => isTrueV v) = true := by kernel_rfl

theorem und53 : ∃ e, Try.prog.underlying 53 = some (.slice e) := ⟨5, by kernel_rfl⟩
theorem und3 : Try.prog.underlying 3 = some (.int .i64) := by kernel_rfl

theorem emuNil_walk (h : Heap) (l : List Value) (hv : RVals Try.prog h 12 [53, 3, 3] l) : ACalls Try.prog 4 l h (fun v _ => v = .bool true) := by
  obtain ⟨a, r, rfl, ha, hv⟩ := RVals_cons hv
  obtain ⟨b, r, rfl, hb, hv⟩ := RVals_cons hv
  obtain ⟨c, r, rfl, hc, hv⟩ := RVals_cons hv
  cases RVals_nil hv
  obtain ⟨e, hu⟩ := und53
  rw [RVal_int und3] at hb hc
  rw [RVal_slice hu] at ha
  obtain ⟨x, rfl, _⟩ := hb
  obtain ⟨y, rfl, _⟩ := hc
  have fin : ∀ {l0 : List Value} {n : Nat}, callX Try.prog (execX Try.prog 10000) 4 l0 (p0 n) (fun v _ => isTrueV v) = true →
      (∀ β w ms, VRels β [a, .int .i64 x, .int .i64 y] ms → Rel Try.prog β h w → ∃ β0, VRels β0 l0 ms ∧ Rel Try.prog β0 (p0 n).heap w) →
      ACalls Try.prog 4 [a, .int .i64 x, .int .i64 y] h (fun v _ => v = .bool true) :=
    fun q hs => (calls_under (reckon_true q) (p0_ro _) hs).mono fun _ _ q => q.1
  rcases ha with rfl | rfl | ⟨b, rows, rfl, hne, _⟩
  · refine fin (emuNil_nil x y) fun β w ms hm hr => ⟨fun _ => none, ?_, p0_rel hr fun c m s e => (by cases e)⟩
    cases hm with | cons h1 hm =>
    cases hm with | cons h2 hm =>
    cases hm with | cons h3 hm =>
    cases hm
    cases h1; cases h2; cases h3
    exact .cons .nilslice (.cons (.int _ _) (.cons (.int _ _) .nil))
  · refine fin (emuNil_dud x y) fun β w ms hm hr => ⟨fun _ => none, ?_, p0_rel hr fun c m s e => (by cases e)⟩
    cases hm with | cons h1 hm =>
    cases hm with | cons h2 hm =>
    cases hm with | cons h3 hm =>
    cases hm
    cases h2; cases h3
    refine .cons ?_ (.cons (.int _ _) (.cons (.int _ _) .nil))
    rcases h1.slice_inv with ⟨m', s', c', hb, rfl, hc, _⟩ | ⟨_, _, a', c', rfl⟩
    · rcases hc with hc | hc | hc
      · exact absurd hc (by decide)
      · exact absurd hc (by decide)
      · subst hc; exact .dud
    · exact .dud
  · refine fin (emuNil_slice x y rows.length) fun β w ms hm hr => ⟨fun c => if c = 0 then β b else none, ?_, p0_rel hr fun c m s e => ?_⟩
    · cases hm with | cons h1 hm =>
      cases hm with | cons h2 hm =>
      cases hm with | cons h3 hm =>
      cases hm
      cases h2; cases h3
      refine .cons ?_ (.cons (.int _ _) (.cons (.int _ _) .nil))
      rcases h1.slice_inv with ⟨m', s', c', hb, rfl, k1, k2, k3, k4⟩ | ⟨h0, _⟩
      · exact .slice (by simp [hb]) k1 k2 k3 k4
      · exact absurd (List.length_eq_zero_iff.1 h0) hne
    · by_cases hc : c = 0
      · subst hc
        exact ⟨by omega, b, by simpa using e⟩
      · simp [hc] at e
end Go.Sim
