/- A nil link has nothing: whatever comes in. -/
import Derived.Test.YtonejeaomblpiaaGreatE3
set_option linter.unusedSimpArgs false
set_option linter.unusedVariables false
set_option linter.defProp false
set_option maxRecDepth 100000
namespace Go.Sim
open Go.Proofs

theorem und_22 : Tryz.prog.underlying 22 = some (.slice 5) := Tryz.underlying22
theorem und_23 : Tryz.prog.underlying 23 = some (.int .u64) := Tryz.underlying23
theorem und_3 : Tryz.prog.underlying 3 = some (.int .i64) := Tryz.underlying3
theorem co_63 : Tryz.prog.cellsOf 63 = 5 := by kernel_rfl
theorem co_22 : Tryz.prog.cellsOf 22 = 1 := by kernel_rfl
theorem co_23 : Tryz.prog.cellsOf 23 = 1 := by kernel_rfl
theorem co_3 : Tryz.prog.cellsOf 3 = 1 := by kernel_rfl
theorem linkNil_walk (h : Heap) (l : List Value) (hv : RVals Tryz.prog h 12 [63] l) : ACalls Tryz.prog 5 l h (fun v _ => v = .bool true) := by
  obtain ⟨a, r, rfl, ha, hv⟩ := RVals_cons hv
  cases RVals_nil hv
  rw [RVal_struct Tryz.underlying63] at ha
  obtain ⟨cs, rfl, ha⟩ := ha
  rw [RV_struct Tryz.underlying63, co_63] at ha
  obtain ⟨hl, ha⟩ := ha
  obtain ⟨v1, c1, rfl, hl1⟩ := cons_of_len hl
  obtain ⟨v2, c2, rfl, hl2⟩ := cons_of_len hl1
  obtain ⟨v3, c3, rfl, hl3⟩ := cons_of_len hl2
  obtain ⟨v4, c4, rfl, hl4⟩ := cons_of_len hl3
  obtain ⟨v5, c5, rfl, hl5⟩ := cons_of_len hl4
  obtain rfl := List.length_eq_zero_iff.1 hl5
  simp only [List.mem_cons, List.not_mem_nil, or_false, forall_eq_or_imp, forall_eq, co_22, co_23, co_3, RV_int und_3, RV_int und_23, RV_slice und_22, List.drop_zero, List.drop_succ_cons, List.take_succ_cons, List.take_zero, List.cons.injEq, and_true] at ha
  obtain ⟨⟨x1, rfl, _⟩, hb, ⟨x3, rfl, _⟩, ⟨x4, rfl, _⟩, ⟨x5, rfl, _⟩⟩ := ha
  have fin : ∀ {l0 : List Value} {n : Nat}, callX Tryz.prog [] (execX Tryz.prog [] 10000) (.func 5) l0 (p0 n) (fun v _ => isTrueV v) = true →
      (∀ β w ms, VRels β [.agg #[.int .i64 x1, v2, .int .u64 x3, .int .i64 x4, .int .i64 x5]] ms → Rel Tryz.prog β h w → ∃ β0, VRels β0 l0 ms ∧ Rel Tryz.prog β0 (p0 n).heap w) →
      ACalls Tryz.prog 5 [.agg #[.int .i64 x1, v2, .int .u64 x3, .int .i64 x4, .int .i64 x5]] h (fun v _ => v = .bool true) :=
    fun q hs => (calls_under (reckon_true (MemoOk.nil _) q) (p0_ro _) hs).mono fun _ _ q => q.1
  have wrap : ∀ {β β0 : Place} {ms : List Value} {u : Value}, VRels β [.agg #[.int .i64 x1, v2, .int .u64 x3, .int .i64 x4, .int .i64 x5]] ms → (∀ mv, VRel β v2 mv → VRel β0 u mv) → VRels β0 [.agg #[.int .i64 x1, u, .int .u64 x3, .int .i64 x4, .int .i64 x5]] ms := by
    intro β β0 ms u hm hu
    cases hm with | cons h1 hm =>
    cases hm
    obtain ⟨xs, rfl, h2⟩ := VRel.agg_iff.1 h1
    refine .cons (VRel.agg_iff.2 ⟨xs, rfl, ?_⟩) .nil
    generalize xs.toList = l at h2 ⊢
    cases h2 with | cons k1 h2 =>
    cases h2 with | cons k2 h2 =>
    cases h2 with | cons k3 h2 =>
    cases h2 with | cons k4 h2 =>
    cases h2 with | cons k5 h2 =>
    cases h2
    cases k1; cases k3; cases k4; cases k5
    exact .cons (.int _ _) (.cons (hu _ k2) (.cons (.int _ _) (.cons (.int _ _) (.cons (.int _ _) .nil))))
  rcases hb with rfl | rfl | ⟨b, rows, rfl, hne, _⟩
  · exact fin (linkNil_nil x1 x3 x4 x5) fun β w ms hm hr => ⟨fun _ => none, wrap hm fun mv k => (by cases k; exact .nilslice), p0_rel hr fun c m s e => (by cases e)⟩
  · refine fin (linkNil_dud x1 x3 x4 x5) fun β w ms hm hr => ⟨fun _ => none, wrap hm fun mv k => ?_, p0_rel hr fun c m s e => (by cases e)⟩
    rcases k.slice_inv with ⟨m', s', c', hb, rfl, hc, _⟩ | ⟨_, _, a', c', rfl⟩
    · rcases hc with hc | hc | hc
      · exact absurd hc (by decide)
      · exact absurd hc (by decide)
      · subst hc; exact .dud
    · exact .dud
  · refine fin (linkNil_slice x1 x3 x4 x5 rows.length) fun β w ms hm hr => ⟨fun c => if c = 0 then β b else none, wrap hm fun mv k => ?_, p0_rel hr fun c m s e => ?_⟩
    · rcases k.slice_inv with ⟨m', s', c', hb, rfl, k1, k2, k3, k4⟩ | ⟨h0, _⟩
      · exact .slice (by simp [hb]) k1 k2 k3 k4
      · exact absurd (List.length_eq_zero_iff.1 h0) hne
    · by_cases hc : c = 0
      · subst hc
        exact ⟨by omega, b, by simpa using e⟩
      · simp [hc] at e
end Go.Sim
