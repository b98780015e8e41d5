/- Chapter 4: the law on the parameters that make a pen. -/
import Derived.Test.YtmcboobmnipjlaaG9
set_option linter.unusedSimpArgs false
set_option linter.unusedVariables false
set_option linter.defProp false
set_option maxRecDepth 100000
set_option maxHeartbeats 8000000
namespace Go.Sim
open Go.Proofs
attribute [local irreducible] IntKind.wrap bits

theorem flags_codes : ∀ f < 256, flagsM ⟨(f : Nat), 0, 0⟩ = rflagsM ⟨(f : Nat), 0, 0⟩ := by decide +kernel
theorem col_fore : ∀ c < 256, (if (0 : Int) < (c : Nat) then [codeM (c : Nat) 30] else []) = rcolM (c : Nat) 81 29 := by decide +kernel
theorem col_back : ∀ c < 256, (if (0 : Int) < (c : Nat) then [codeM (c : Nat) 40] else []) = rcolM (c : Nat) 91 39 := by decide +kernel
theorem codes_eq {p : Pen} (hp : PenOk p) : rcodesM p = codesM p := by
  obtain ⟨f, g, b⟩ := p
  obtain ⟨x, hx, rfl⟩ := byte_nat hp.f
  obtain ⟨y, hy, rfl⟩ := byte_nat hp.g
  obtain ⟨z, hz, rfl⟩ := byte_nat hp.b
  unfold rcodesM codesM
  rw [right_eq, ← col_fore y hy, ← col_back z hz]
  have := flags_codes x hx
  unfold flagsM rflagsM at *
  simp only at this ⊢
  rw [this]
theorem flags_make : ∀ f < 32, (flagsM ⟨(f : Nat), 0, 0⟩).foldl turnM ⟨0, 0, 0⟩ = ⟨(f : Nat), 0, 0⟩ := by decide +kernel
theorem fore_dec : ∀ c < 17, 0 < c → (flagM (codeM (c : Nat) 30) = 0 ∧ codeM (c : Nat) 30 ≠ 0 ∧ (colorM (codeM (c : Nat) 30) 30).2.1 = true ∧ (colorM (codeM (c : Nat) 30) 30).1 = (c : Nat)) := by decide +kernel
theorem back_dec : ∀ c < 17, 0 < c → (flagM (codeM (c : Nat) 40) = 0 ∧ codeM (c : Nat) 40 ≠ 0 ∧ (colorM (codeM (c : Nat) 40) 30).2.1 = false ∧ (colorM (codeM (c : Nat) 40) 40).2.1 = true ∧ (colorM (codeM (c : Nat) 40) 40).1 = (c : Nat)) := by decide +kernel
theorem codes_make {p : Pen} (q : Pen) (hp : PenOk p) (hr : rightM p = true) : TurnM q (codesM p) = p := by
  have hlt := right_lt.1 hr
  obtain ⟨f, g, b⟩ := p
  simp only at hlt
  obtain ⟨x, hx, rfl⟩ := byte_nat hp.f
  obtain ⟨y, hy, rfl⟩ := byte_nat hp.g
  obtain ⟨z, hz, rfl⟩ := byte_nat hp.b
  have h0 : ∀ p, turnM p 0 = ⟨0, 0, 0⟩ := fun p => by simp [turnM]
  have hf : flagsM ⟨(x : Int), y, z⟩ = flagsM ⟨(x : Int), 0, 0⟩ := rfl
  unfold TurnM codesM
  rw [if_pos hr, if_neg (by simp), List.foldl_append, List.foldl_append, List.foldl_append]
  simp only [List.foldl_cons, List.foldl_nil, h0]
  rw [hf, flags_make x (by omega)]
  have e1 : (if (0 : Int) < (y : Int) then [codeM y 30] else []).foldl turnM ⟨(x : Int), 0, 0⟩ = ⟨(x : Int), y, 0⟩ := by
    by_cases hy0 : y = 0
    · subst hy0; rfl
    · obtain ⟨a1, a2, a3, a4⟩ := fore_dec y (by omega) (by omega)
      rw [if_pos (by omega)]
      simp only [List.foldl_cons, List.foldl_nil]
      unfold turnM
      rw [if_neg a2, if_neg (by simp [a1]), if_pos a3, a4]
  rw [e1]
  by_cases hz0 : z = 0
  · subst hz0; rfl
  · obtain ⟨a1, a2, a3, a4, a5⟩ := back_dec z (by omega) (by omega)
    rw [if_pos (by omega)]
    simp only [List.foldl_cons, List.foldl_nil]
    unfold turnM
    rw [if_neg a2, if_neg (by simp [a1]), if_neg (by simp [a3]), if_pos a4, a5]

theorem penCodes (h : Heap) (l : List Value) (_ : RO h) (hv : RVals Try.prog h 12 Try.f6.params.toList l) : ACalls Try.prog 6 l h (fun v _ => v = .bool true) := by
  have hp : Try.f6.params.toList = [23, 23] := by kernel_rfl
  rw [hp] at hv
  obtain ⟨a, r, rfl, h1, hv⟩ := RVals_cons hv
  obtain ⟨b, r, rfl, h2, hv⟩ := RVals_cons hv
  obtain rfl := RVals_nil hv
  clear hv hp
  obtain ⟨p, hp, rfl⟩ := rv_pen h1
  obtain ⟨q, hq, rfl⟩ := rv_pen h2
  clear h1 h2
  have s1 := fun h => codes_spec p.f p.g p.b h
  have s2 := fun h => rcodes_spec p.f p.g p.b h
  have e1 := codes_eq hp
  have e2 : rightM p = true → TurnM q (codesM p) = p := codes_make q hp
  obtain ⟨f, g, b⟩ := p
  obtain ⟨f2, g2, b2⟩ := q
  simp only [penV] at s1 s2
  rw [e1] at s2
  obtain ⟨cs, hcs⟩ := named (codesM ⟨f, g, b⟩)
  rw [← hcs.out] at s1 s2 e2
  clear e1
  refine call6 (by simp) ?_
  simp only [penV]
  repeat' first | (with_reducible refine x_go ?_; simp -implicitDefEqProofs (disch := (first | (simp -implicitDefEqProofs only [Heap.next_push, Heap.next_set, Heap.next_kill, Nat.add_eq_left, Nat.left_eq_add, Nat.reduceEqDiff, Nat.add_left_cancel_iff, ne_eq, not_false_eq_true, reduceCtorEq, Nat.succ_ne_self, Nat.succ_ne_zero, Nat.reduceAdd]; done) | omega | (simp -implicitDefEqProofs only [Heap.next_push, Heap.next_set, Heap.next_kill]; omega))) only [go_sem, push_cast, Nat.reduceEqDiff, Nat.reduceLT, Nat.reduceLeDiff, ↓reduceIte, List.reduceReplicate, Nat.reduceAdd, Nat.reduceSub, Nat.reduceMul, reduceCtorEq, Int.reduceToNat, Int.reduceEq, Int.reduceNe, Int.reduceLT, Int.reduceLE, *]) | (with_reducible refine list_go ?_; simp -implicitDefEqProofs (disch := (first | (simp -implicitDefEqProofs only [Heap.next_push, Heap.next_set, Heap.next_kill, Nat.add_eq_left, Nat.left_eq_add, Nat.reduceEqDiff, Nat.add_left_cancel_iff, ne_eq, not_false_eq_true, reduceCtorEq, Nat.succ_ne_self, Nat.succ_ne_zero, Nat.reduceAdd]; done) | omega | (simp -implicitDefEqProofs only [Heap.next_push, Heap.next_set, Heap.next_kill]; omega))) only [go_sem, push_cast, Nat.reduceEqDiff, Nat.reduceLT, Nat.reduceLeDiff, ↓reduceIte, List.reduceReplicate, Nat.reduceAdd, Nat.reduceSub, Nat.reduceMul, reduceCtorEq, Int.reduceToNat, Int.reduceEq, Int.reduceNe, Int.reduceLT, Int.reduceLE, *]) | (with_reducible refine draw_go ?_; simp -implicitDefEqProofs (disch := (first | (simp -implicitDefEqProofs only [Heap.next_push, Heap.next_set, Heap.next_kill, Nat.add_eq_left, Nat.left_eq_add, Nat.reduceEqDiff, Nat.add_left_cancel_iff, ne_eq, not_false_eq_true, reduceCtorEq, Nat.succ_ne_self, Nat.succ_ne_zero, Nat.reduceAdd]; done) | omega | (simp -implicitDefEqProofs only [Heap.next_push, Heap.next_set, Heap.next_kill]; omega))) only [go_sem, push_cast, Nat.reduceEqDiff, Nat.reduceLT, Nat.reduceLeDiff, ↓reduceIte, List.reduceReplicate, Nat.reduceAdd, Nat.reduceSub, Nat.reduceMul, reduceCtorEq, Int.reduceToNat, Int.reduceEq, Int.reduceNe, Int.reduceLT, Int.reduceLE, *]) | with_reducible refine guard_split_not (fun hc => ?_) (fun hc => ?_) | with_reducible refine guard_split_dec (fun hc => ?_) (fun hc => ?_) | with_reducible refine guard_split (fun hc => ?_) (fun hc => ?_) | with_reducible refine cond_split_not (fun hc => ?_) (fun hc => ?_) | with_reducible refine cond_split_dec (fun hc => ?_) (fun hc => ?_) | with_reducible refine cond_split (fun hc => ?_) (fun hc => ?_) | with_reducible refine draw_and ?_ ?_ | (first | (refine ACalls.mono (s1 _) ?_; rintro v1 h1 ⟨o1, hx1⟩; have hg1 := hx1.get; have hl1 := hx1.le; try simp only [Heap.next_push] at hl1) | (refine ACalls.mono (s2 _) ?_; rintro v2 h2 ⟨o2, hx2⟩; have hg2 := hx2.get; have hl2 := hx2.le; have o3 := OwnSl.at (OwnSl.ext o1 hx2); obtain ⟨b1, p1, c1, w1, L1, I1, G1, C1, M1, N1⟩ := SlAt.view (P := Try.prog) o3 und_24 sz_3; obtain ⟨d2, p2, c2, w2, L2, I2, G2, C2, M2, N2⟩ := SlAt.view (P := Try.prog) (OwnSl.at o2) und_24 sz_3; simp only [List.length_map] at L1 L2 I1 I2 G1 G2 C1 C2))
  have hm : maxLen = 9223372036854775807 := rfl
  rw [List.length_map] at M1
  have hp2 : h2.get h.next = some (.cells [.int .u8 f, .int .u8 g, .int .u8 b] 23 true) := by rw [hg2 _ (by omega), hg1 _ (by simp only [Heap.next_push]; omega)]; simp -implicitDefEqProofs (disch := (first | (simp -implicitDefEqProofs only [Heap.next_push, Heap.next_set, Heap.next_kill, Nat.add_eq_left, Nat.left_eq_add, Nat.reduceEqDiff, Nat.add_left_cancel_iff, ne_eq, not_false_eq_true, reduceCtorEq, Nat.succ_ne_self, Nat.succ_ne_zero, Nat.reduceAdd]; done) | omega | (simp -implicitDefEqProofs only [Heap.next_push, Heap.next_set, Heap.next_kill]; omega))) only [go_sem, push_cast, Nat.reduceEqDiff, Nat.reduceLT, Nat.reduceLeDiff, ↓reduceIte, List.reduceReplicate, Nat.reduceAdd, Nat.reduceSub, Nat.reduceMul, reduceCtorEq, Int.reduceToNat, Int.reduceEq, Int.reduceNe, Int.reduceLT, Int.reduceLE, *]
  have hp3 : h2.get (h.next + 1) = some (.cells [.int .u8 f2, .int .u8 g2, .int .u8 b2] 23 true) := by rw [hg2 _ (by omega), hg1 _ (by simp only [Heap.next_push]; omega)]; simp -implicitDefEqProofs (disch := (first | (simp -implicitDefEqProofs only [Heap.next_push, Heap.next_set, Heap.next_kill, Nat.add_eq_left, Nat.left_eq_add, Nat.reduceEqDiff, Nat.add_left_cancel_iff, ne_eq, not_false_eq_true, reduceCtorEq, Nat.succ_ne_self, Nat.succ_ne_zero, Nat.reduceAdd]; done) | omega | (simp -implicitDefEqProofs only [Heap.next_push, Heap.next_set, Heap.next_kill]; omega))) only [go_sem, push_cast, Nat.reduceEqDiff, Nat.reduceLT, Nat.reduceLeDiff, ↓reduceIte, List.reduceReplicate, Nat.reduceAdd, Nat.reduceSub, Nat.reduceMul, reduceCtorEq, Int.reduceToNat, Int.reduceEq, Int.reduceNe, Int.reduceLT, Int.reduceLE, *]
  have N1' : 0 < cs.length → b1 < h2.next := fun hc => N1 (by simpa using hc)
  have N2' : 0 < cs.length → d2 < h2.next := fun hc => N2 (by simpa using hc)
  have s3 := fun h hv => Turn_spec f2 g2 b2 v1 cs h hv
  simp only [penV] at s3
  obtain ⟨T, hT⟩ := named (TurnM ⟨f2, g2, b2⟩ cs)
  rw [← hT.out] at s3 e2
  have o4 := o3
  clear hg1 hg2 N1 N2 s1 s2 o1 o2 o3
  refine loop_x (σ := Nat) (n := 45)
    (fun i => [(7, .int .i64 i), (6, v2), (5, v1), (3, .pointer (some ⟨h.next + 1, 0, none⟩)), (2, .pointer (some ⟨h.next, 0, none⟩))])
    (fun i h3 => i ≤ cs.length ∧ h3 = h2) (fun i => cs.length - i) 0 ?_ ?_
  · simp -implicitDefEqProofs (disch := (first | (simp -implicitDefEqProofs only [Heap.next_push, Heap.next_set, Heap.next_kill, Nat.add_eq_left, Nat.left_eq_add, Nat.reduceEqDiff, Nat.add_left_cancel_iff, ne_eq, not_false_eq_true, reduceCtorEq, Nat.succ_ne_self, Nat.succ_ne_zero, Nat.reduceAdd]; done) | omega | (simp -implicitDefEqProofs only [Heap.next_push, Heap.next_set, Heap.next_kill]; omega))) only [go_sem, push_cast, Nat.reduceEqDiff, Nat.reduceLT, Nat.reduceLeDiff, ↓reduceIte, List.reduceReplicate, Nat.reduceAdd, Nat.reduceSub, Nat.reduceMul, reduceCtorEq, Int.reduceToNat, Int.reduceEq, Int.reduceNe, Int.reduceLT, Int.reduceLE, *]
    and_intros <;> first | rfl | omega
  · rintro i h3 ⟨hi, rfl⟩
    have hcs : i < cs.length → (List.map (Value.int .i64) cs)[i]? = some (.int .i64 (cs.getD i 0)) := fun hi => by simp [List.getD_eq_getElem?_getD, hi]
    repeat' first | (with_reducible refine x_go ?_; simp -implicitDefEqProofs (disch := (first | (simp -implicitDefEqProofs only [Heap.next_push, Heap.next_set, Heap.next_kill, Nat.add_eq_left, Nat.left_eq_add, Nat.reduceEqDiff, Nat.add_left_cancel_iff, ne_eq, not_false_eq_true, reduceCtorEq, Nat.succ_ne_self, Nat.succ_ne_zero, Nat.reduceAdd]; done) | omega | (simp -implicitDefEqProofs only [Heap.next_push, Heap.next_set, Heap.next_kill]; omega))) only [go_sem, push_cast, Nat.reduceEqDiff, Nat.reduceLT, Nat.reduceLeDiff, ↓reduceIte, List.reduceReplicate, Nat.reduceAdd, Nat.reduceSub, Nat.reduceMul, reduceCtorEq, Int.reduceToNat, Int.reduceEq, Int.reduceNe, Int.reduceLT, Int.reduceLE, *, goInt]) | (with_reducible refine list_go ?_; simp -implicitDefEqProofs (disch := (first | (simp -implicitDefEqProofs only [Heap.next_push, Heap.next_set, Heap.next_kill, Nat.add_eq_left, Nat.left_eq_add, Nat.reduceEqDiff, Nat.add_left_cancel_iff, ne_eq, not_false_eq_true, reduceCtorEq, Nat.succ_ne_self, Nat.succ_ne_zero, Nat.reduceAdd]; done) | omega | (simp -implicitDefEqProofs only [Heap.next_push, Heap.next_set, Heap.next_kill]; omega))) only [go_sem, push_cast, Nat.reduceEqDiff, Nat.reduceLT, Nat.reduceLeDiff, ↓reduceIte, List.reduceReplicate, Nat.reduceAdd, Nat.reduceSub, Nat.reduceMul, reduceCtorEq, Int.reduceToNat, Int.reduceEq, Int.reduceNe, Int.reduceLT, Int.reduceLE, *, goInt]) | (with_reducible refine draw_go ?_; simp -implicitDefEqProofs (disch := (first | (simp -implicitDefEqProofs only [Heap.next_push, Heap.next_set, Heap.next_kill, Nat.add_eq_left, Nat.left_eq_add, Nat.reduceEqDiff, Nat.add_left_cancel_iff, ne_eq, not_false_eq_true, reduceCtorEq, Nat.succ_ne_self, Nat.succ_ne_zero, Nat.reduceAdd]; done) | omega | (simp -implicitDefEqProofs only [Heap.next_push, Heap.next_set, Heap.next_kill]; omega))) only [go_sem, push_cast, Nat.reduceEqDiff, Nat.reduceLT, Nat.reduceLeDiff, ↓reduceIte, List.reduceReplicate, Nat.reduceAdd, Nat.reduceSub, Nat.reduceMul, reduceCtorEq, Int.reduceToNat, Int.reduceEq, Int.reduceNe, Int.reduceLT, Int.reduceLE, *, goInt]) | with_reducible refine guard_split_not (fun hc => ?_) (fun hc => ?_) | with_reducible refine guard_split_dec (fun hc => ?_) (fun hc => ?_) | with_reducible refine guard_split (fun hc => ?_) (fun hc => ?_) | with_reducible refine cond_split_not (fun hc => ?_) (fun hc => ?_) | with_reducible refine cond_split_dec (fun hc => ?_) (fun hc => ?_) | with_reducible refine cond_split (fun hc => ?_) (fun hc => ?_) | with_reducible refine draw_and ?_ ?_ | (first | (with_reducible refine ACalls.mono (known_spec _) ?_; rintro _ h1 ⟨rfl, hx⟩; have hl := hx.le; have hg := hx.get; try simp only [Heap.next_push, Heap.next_set, Heap.next_kill] at hl) | (with_reducible refine ACalls.mono (right_spec _ _ _ _) ?_; rintro _ h1 ⟨rfl, hx⟩; have hl := hx.le; have hg := hx.get; try simp only [Heap.next_push, Heap.next_set, Heap.next_kill] at hl) | (refine ACalls.mono (s3 _ (SlAt.ext o4 (by ((repeat' first | with_reducible exact Ext.refl _ | assumption | with_reducible refine Ext.push ?_ _ | with_reducible refine Ext.set ?_ (by (first | (simp -implicitDefEqProofs only [Heap.next_push, Heap.next_set, Heap.next_kill, Nat.add_eq_left, Nat.left_eq_add, Nat.reduceEqDiff, Nat.add_left_cancel_iff, ne_eq, not_false_eq_true, reduceCtorEq, Nat.succ_ne_self, Nat.succ_ne_zero, Nat.reduceAdd]; done) | omega | (simp -implicitDefEqProofs only [Heap.next_push, Heap.next_set, Heap.next_kill]; omega))) _ | with_reducible refine Ext.kill ?_ (by (first | (simp -implicitDefEqProofs only [Heap.next_push, Heap.next_set, Heap.next_kill, Nat.add_eq_left, Nat.left_eq_add, Nat.reduceEqDiff, Nat.add_left_cancel_iff, ne_eq, not_false_eq_true, reduceCtorEq, Nat.succ_ne_self, Nat.succ_ne_zero, Nat.reduceAdd]; done) | omega | (simp -implicitDefEqProofs only [Heap.next_push, Heap.next_set, Heap.next_kill]; omega))) | with_reducible refine Ext.other ?_ (by assumption) (by assumption) (by (first | (simp -implicitDefEqProofs only [Heap.next_push, Heap.next_set, Heap.next_kill, Nat.add_eq_left, Nat.left_eq_add, Nat.reduceEqDiff, Nat.add_left_cancel_iff, ne_eq, not_false_eq_true, reduceCtorEq, Nat.succ_ne_self, Nat.succ_ne_zero, Nat.reduceAdd]; done) | omega | (simp -implicitDefEqProofs only [Heap.next_push, Heap.next_set, Heap.next_kill]; omega))) | with_reducible refine Ext.but ?_ (by assumption) (by (first | (simp -implicitDefEqProofs only [Heap.next_push, Heap.next_set, Heap.next_kill, Nat.add_eq_left, Nat.left_eq_add, Nat.reduceEqDiff, Nat.add_left_cancel_iff, ne_eq, not_false_eq_true, reduceCtorEq, Nat.succ_ne_self, Nat.succ_ne_zero, Nat.reduceAdd]; done) | omega | (simp -implicitDefEqProofs only [Heap.next_push, Heap.next_set, Heap.next_kill]; omega))) | with_reducible refine Ext.trans ?_ (by assumption) | with_reducible exact ExtB.refl _ _ | with_reducible refine ExtB.push ?_ _ | with_reducible refine ExtB.set ?_ (by first | exact .inl rfl | exact .inr (by (first | (simp -implicitDefEqProofs only [Heap.next_push, Heap.next_set, Heap.next_kill, Nat.add_eq_left, Nat.left_eq_add, Nat.reduceEqDiff, Nat.add_left_cancel_iff, ne_eq, not_false_eq_true, reduceCtorEq, Nat.succ_ne_self, Nat.succ_ne_zero, Nat.reduceAdd]; done) | omega | (simp -implicitDefEqProofs only [Heap.next_push, Heap.next_set, Heap.next_kill]; omega)))) _ | with_reducible refine ExtB.ext ?_ (by assumption) | with_reducible refine ExtB.trans ?_ (by assumption)); done)))) ?_; rintro _ h1 ⟨rfl, hx⟩; have hl := hx.le; have hg := hx.get))
    · exact ⟨i + 1, ⟨by rw [wrap_i64 (by omega) (by omega)]; rfl, by omega⟩, by omega⟩
    all_goals
      by_cases hrr : rightM ⟨f, g, b⟩ = true
      · try rw [e2 hrr]
        simp_all
      · simp_all
end Go.Sim
