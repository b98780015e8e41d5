/- Chapter 4: the laws on numbers and parameters. -/
import Derived.Test.YtmcboobmnipjlaaL4
import Derived.Test.YtmcboobmnipjlaaB2
set_option linter.unusedSimpArgs false
set_option linter.unusedVariables false
set_option linter.defProp false
set_option maxRecDepth 100000
set_option maxHeartbeats 8000000
namespace Go.Sim
open Go.Proofs
attribute [local irreducible] IntKind.wrap bits

theorem known_spec (h : Heap) : ACalls Try.prog 11 [] h (fun v h' => v = .bool true ∧ Ext h h') := by
  have t1 : TurnM ⟨0, 0, 0⟩ [1, 31] = ⟨1, 2, 0⟩ := by decide +kernel
  have t2 : TurnM ⟨1, 2, 0⟩ [0] = ⟨0, 0, 0⟩ := by decide +kernel
  have t3 : numberM ⟨1, 2, 0⟩ = 65 := by decide +kernel
  refine call11 (by simp) ?_
  repeat' first | (with_reducible refine x_go ?_; simp -implicitDefEqProofs (disch := (first | (simp -implicitDefEqProofs only [Heap.next_push, Heap.next_set, Heap.next_kill, Nat.add_eq_left, Nat.left_eq_add, Nat.reduceEqDiff, Nat.add_left_cancel_iff, ne_eq, not_false_eq_true, reduceCtorEq, Nat.succ_ne_self, Nat.succ_ne_zero, Nat.reduceAdd]; done) | omega | (simp -implicitDefEqProofs only [Heap.next_push, Heap.next_set, Heap.next_kill]; omega))) only [go_sem, push_cast, Nat.reduceEqDiff, Nat.reduceLT, Nat.reduceLeDiff, ↓reduceIte, List.reduceReplicate, Nat.reduceAdd, Nat.reduceSub, Nat.reduceMul, reduceCtorEq, Int.reduceToNat, Int.reduceEq, Int.reduceNe, Int.reduceLT, Int.reduceLE, *]) | (with_reducible refine list_go ?_; simp -implicitDefEqProofs (disch := (first | (simp -implicitDefEqProofs only [Heap.next_push, Heap.next_set, Heap.next_kill, Nat.add_eq_left, Nat.left_eq_add, Nat.reduceEqDiff, Nat.add_left_cancel_iff, ne_eq, not_false_eq_true, reduceCtorEq, Nat.succ_ne_self, Nat.succ_ne_zero, Nat.reduceAdd]; done) | omega | (simp -implicitDefEqProofs only [Heap.next_push, Heap.next_set, Heap.next_kill]; omega))) only [go_sem, push_cast, Nat.reduceEqDiff, Nat.reduceLT, Nat.reduceLeDiff, ↓reduceIte, List.reduceReplicate, Nat.reduceAdd, Nat.reduceSub, Nat.reduceMul, reduceCtorEq, Int.reduceToNat, Int.reduceEq, Int.reduceNe, Int.reduceLT, Int.reduceLE, *]) | (with_reducible refine draw_go ?_; simp -implicitDefEqProofs (disch := (first | (simp -implicitDefEqProofs only [Heap.next_push, Heap.next_set, Heap.next_kill, Nat.add_eq_left, Nat.left_eq_add, Nat.reduceEqDiff, Nat.add_left_cancel_iff, ne_eq, not_false_eq_true, reduceCtorEq, Nat.succ_ne_self, Nat.succ_ne_zero, Nat.reduceAdd]; done) | omega | (simp -implicitDefEqProofs only [Heap.next_push, Heap.next_set, Heap.next_kill]; omega))) only [go_sem, push_cast, Nat.reduceEqDiff, Nat.reduceLT, Nat.reduceLeDiff, ↓reduceIte, List.reduceReplicate, Nat.reduceAdd, Nat.reduceSub, Nat.reduceMul, reduceCtorEq, Int.reduceToNat, Int.reduceEq, Int.reduceNe, Int.reduceLT, Int.reduceLE, *]) | with_reducible refine guard_split_not (fun hc => ?_) (fun hc => ?_) | with_reducible refine guard_split_dec (fun hc => ?_) (fun hc => ?_) | with_reducible refine guard_split (fun hc => ?_) (fun hc => ?_) | with_reducible refine cond_split_not (fun hc => ?_) (fun hc => ?_) | with_reducible refine cond_split_dec (fun hc => ?_) (fun hc => ?_) | with_reducible refine cond_split (fun hc => ?_) (fun hc => ?_) | with_reducible refine draw_and ?_ ?_ | (first | (refine ACalls.mono (Turn_spec _ _ _ _ [1, 31] _ (.inr (.inr ⟨_, 0, 2, _, true, rfl, Heap.get_push_self _ _, rfl, by decide⟩))) ?_; rintro _ h1 ⟨rfl, hx⟩; have hl := hx.le; have hg := hx.get; try simp only [Heap.next_push, Heap.next_set, Heap.next_kill] at hl) | (refine ACalls.mono (Turn_spec _ _ _ _ [0] _ (.inr (.inr ⟨_, 0, 1, _, true, rfl, Heap.get_push_self _ _, rfl, by decide⟩))) ?_; rintro _ h1 ⟨rfl, hx⟩; have hl := hx.le; have hg := hx.get; try simp only [Heap.next_push, Heap.next_set, Heap.next_kill] at hl) | (with_reducible refine ACalls.mono (number_spec _ _ _ _) ?_; rintro _ h1 ⟨rfl, hx⟩; have hl := hx.le; have hg := hx.get; try simp only [Heap.next_push, Heap.next_set, Heap.next_kill] at hl))
  all_goals and_intros <;> first | ((repeat' first | with_reducible exact Ext.refl _ | assumption | with_reducible refine Ext.push ?_ _ | with_reducible refine Ext.set ?_ (by (first | (simp -implicitDefEqProofs only [Heap.next_push, Heap.next_set, Heap.next_kill, Nat.add_eq_left, Nat.left_eq_add, Nat.reduceEqDiff, Nat.add_left_cancel_iff, ne_eq, not_false_eq_true, reduceCtorEq, Nat.succ_ne_self, Nat.succ_ne_zero, Nat.reduceAdd]; done) | omega | (simp -implicitDefEqProofs only [Heap.next_push, Heap.next_set, Heap.next_kill]; omega))) _ | with_reducible refine Ext.kill ?_ (by (first | (simp -implicitDefEqProofs only [Heap.next_push, Heap.next_set, Heap.next_kill, Nat.add_eq_left, Nat.left_eq_add, Nat.reduceEqDiff, Nat.add_left_cancel_iff, ne_eq, not_false_eq_true, reduceCtorEq, Nat.succ_ne_self, Nat.succ_ne_zero, Nat.reduceAdd]; done) | omega | (simp -implicitDefEqProofs only [Heap.next_push, Heap.next_set, Heap.next_kill]; omega))) | with_reducible refine Ext.other ?_ (by assumption) (by assumption) (by (first | (simp -implicitDefEqProofs only [Heap.next_push, Heap.next_set, Heap.next_kill, Nat.add_eq_left, Nat.left_eq_add, Nat.reduceEqDiff, Nat.add_left_cancel_iff, ne_eq, not_false_eq_true, reduceCtorEq, Nat.succ_ne_self, Nat.succ_ne_zero, Nat.reduceAdd]; done) | omega | (simp -implicitDefEqProofs only [Heap.next_push, Heap.next_set, Heap.next_kill]; omega))) | with_reducible refine Ext.but ?_ (by assumption) (by (first | (simp -implicitDefEqProofs only [Heap.next_push, Heap.next_set, Heap.next_kill, Nat.add_eq_left, Nat.left_eq_add, Nat.reduceEqDiff, Nat.add_left_cancel_iff, ne_eq, not_false_eq_true, reduceCtorEq, Nat.succ_ne_self, Nat.succ_ne_zero, Nat.reduceAdd]; done) | omega | (simp -implicitDefEqProofs only [Heap.next_push, Heap.next_set, Heap.next_kill]; omega))) | with_reducible refine Ext.trans ?_ (by assumption) | with_reducible exact ExtB.refl _ _ | with_reducible refine ExtB.push ?_ _ | with_reducible refine ExtB.set ?_ (by first | exact .inl rfl | exact .inr (by (first | (simp -implicitDefEqProofs only [Heap.next_push, Heap.next_set, Heap.next_kill, Nat.add_eq_left, Nat.left_eq_add, Nat.reduceEqDiff, Nat.add_left_cancel_iff, ne_eq, not_false_eq_true, reduceCtorEq, Nat.succ_ne_self, Nat.succ_ne_zero, Nat.reduceAdd]; done) | omega | (simp -implicitDefEqProofs only [Heap.next_push, Heap.next_set, Heap.next_kill]; omega)))) _ | with_reducible refine ExtB.ext ?_ (by assumption) | with_reducible refine ExtB.trans ?_ (by assumption)); done) | rfl | (simp [*]; done)

theorem wf_u8 {x : Int} (h : (Lit.int .u8 x).wf = true) : Byte x := by
  simpa [Lit.wf, IntKind.min, IntKind.max, IntKind.signed, IntKind.bits, Byte] using h
theorem wf_i64 {x : Int} (h : (Lit.int .i64 x).wf = true) : -9223372036854775808 ≤ x ∧ x < 9223372036854775808 := by
  have : -9223372036854775808 ≤ x ∧ x ≤ 9223372036854775807 := by simpa [Lit.wf, IntKind.min, IntKind.max, IntKind.signed, IntKind.bits] using h
  omega
theorem co_23 : Try.prog.cellsOf 23 = 3 := by kernel_rfl
theorem co_5 : Try.prog.cellsOf 5 = 1 := by kernel_rfl
theorem rv_pen {h : Heap} {v : Value} (hv : RVal Try.prog h 12 23 v) : ∃ p : Pen, PenOk p ∧ v = penV p := by
  rw [RVal_struct und_23] at hv
  obtain ⟨cs, rfl, hv⟩ := hv
  rw [RV_struct und_23, co_23] at hv
  obtain ⟨hl, hv⟩ := hv
  obtain ⟨a, c1, rfl, hl1⟩ := cons_of_len hl
  obtain ⟨b, c2, rfl, hl2⟩ := cons_of_len hl1
  obtain ⟨c, c3, rfl, hl3⟩ := cons_of_len hl2
  obtain rfl := List.length_eq_zero_iff.1 hl3
  simp only [List.mem_cons, List.not_mem_nil, or_false, forall_eq_or_imp, forall_eq, co_5, RV_int und_5, List.drop_zero, List.drop_succ_cons, List.take_succ_cons, List.take_zero, List.cons.injEq, and_true] at hv
  obtain ⟨⟨x, rfl, hx⟩, ⟨y, rfl, hy⟩, ⟨z, rfl, hz⟩⟩ := hv
  exact ⟨⟨x, y, z⟩, ⟨wf_u8 hx, wf_u8 hy, wf_u8 hz⟩, rfl⟩

theorem i64_sum {a b c : Int} (ha : Byte a) (hb : Byte b) (hc : Byte c) : IntKind.i64.wrap (IntKind.i64.wrap (IntKind.i64.wrap a + IntKind.i64.wrap (32 * IntKind.i64.wrap b)) + IntKind.i64.wrap (1024 * IntKind.i64.wrap c)) = a + 32 * b + 1024 * c := by
  unfold Byte at *
  rw [wrap_i64 (n := a) (by omega) (by omega), wrap_i64 (n := b) (by omega) (by omega), wrap_i64 (n := c) (by omega) (by omega), wrap_i64 (n := 32 * b) (by omega) (by omega), wrap_i64 (n := 1024 * c) (by omega) (by omega), wrap_i64 (n := a + 32 * b) (by omega) (by omega), wrap_i64 (by omega) (by omega)]
theorem number_eq (p : Pen) : rnumberM p = numberM p := by unfold rnumberM numberM; rw [right_eq]
theorem number_val {p : Pen} (hp : PenOk p) (hr : rightM p = true) : numberM p = p.f + 32 * p.g + 1024 * p.b := by
  unfold numberM; rw [if_pos hr, i64_sum hp.f hp.g hp.b]
theorem right_lt {p : Pen} : rightM p = true ↔ p.f < 32 ∧ p.g < 17 ∧ p.b < 17 := by
  simp [rightM, and_assoc]
theorem ofPen_val {n : Int} (h0 : 0 ≤ n) (h1 : n < 32768) : ofPen n = ⟨n % 32, n / 32 % 32, n / 1024⟩ := by
  unfold ofPen
  simp only [Int.tdiv_eq_ediv_of_nonneg h0, Int.tmod_eq_emod_of_nonneg h0]
  rw [wrap_i64 (n := n / 32) (by omega) (by omega), Int.tdiv_eq_ediv_of_nonneg (by omega), Int.tmod_eq_emod_of_nonneg (by omega), wrap_i64 (n := n / 32 / 32) (by omega) (by omega),
    wrap_u8 (by unfold Byte; omega), wrap_u8 (by unfold Byte; omega), wrap_u8 (by unfold Byte; omega), show n / 32 / 32 = n / 1024 by omega]
theorem rofPen_val {n : Int} (h0 : 0 ≤ n) (h1 : n < 32768) : rofPen n = ⟨n % 32, n / 32 % 32, n / 1024⟩ := by
  unfold rofPen
  simp only [Int.tdiv_eq_ediv_of_nonneg h0, Int.tmod_eq_emod_of_nonneg h0]
  rw [wrap_i64 (n := n / 32) (by omega) (by omega), Int.tmod_eq_emod_of_nonneg (by omega), wrap_i64 (n := n / 1024) (by omega) (by omega),
    wrap_u8 (by unfold Byte; omega), wrap_u8 (by unfold Byte; omega), wrap_u8 (by unfold Byte; omega)]
theorem of_eq (n : Int) : rofM n = ofM n ∧ ((ofM n).2 = true → numberM (ofM n).1 = n) := by
  unfold rofM ofM
  by_cases h : n < 0 ∨ 32768 ≤ n
  · rw [if_pos h, if_pos (by omega)]; exact ⟨rfl, by simp⟩
  · rw [if_neg h, ofPen_val (by omega) (by omega), rofPen_val (by omega) (by omega), right_eq]
    by_cases hr : rightM ⟨n % 32, n / 32 % 32, n / 1024⟩ = true
    · have hlt := right_lt.1 hr
      simp only at hlt
      have hv : numberM ⟨n % 32, n / 32 % 32, n / 1024⟩ = n := by
        rw [number_val ⟨by unfold Byte; simp only; omega, by unfold Byte; simp only; omega, by unfold Byte; simp only; omega⟩ hr]
        simp only
        omega
      rw [if_pos hr, if_neg (by omega), if_pos hr, hv]
      exact ⟨by simp, fun _ => rfl⟩
    · rw [if_neg hr, if_neg hr]
      exact ⟨by split <;> rfl, by simp⟩
theorem of_number {p : Pen} (hp : PenOk p) : (ofM (numberM p)).2 = rightM p ∧ (rightM p = true → (ofM (numberM p)).1 = p) := by
  by_cases hr : rightM p = true
  · have hlt := right_lt.1 hr
    have hv := number_val hp hr
    obtain ⟨⟨f0, f1⟩, ⟨g0, g1⟩, ⟨b0, b1⟩⟩ := hp
    have he : ofPen (numberM p) = p := by
      rw [hv, ofPen_val (by omega) (by omega)]
      cases p
      simp only [Pen.mk.injEq] at *
      omega
    unfold ofM
    rw [if_neg (by rw [hv]; omega), he, if_pos hr, hr]
    exact ⟨by simp, fun _ => rfl⟩
  · have : numberM p = -1 := by unfold numberM; rw [if_neg hr]
    rw [this]
    exact ⟨by simp only [Bool.not_eq_true] at hr; rw [hr]; decide, fun h => absurd h hr⟩

theorem penNumbers (h : Heap) (l : List Value) (_ : RO h) (hv : RVals Try.prog h 12 Try.f5.params.toList l) : ACalls Try.prog 5 l h (fun v _ => v = .bool true) := by
  have hp : Try.f5.params.toList = [23, 3] := by kernel_rfl
  rw [hp] at hv
  obtain ⟨a, r, rfl, h1, hv⟩ := RVals_cons hv
  obtain ⟨b, r, rfl, h2, hv⟩ := RVals_cons hv
  obtain rfl := RVals_nil hv
  · clear hv hp
    obtain ⟨p, hp, rfl⟩ := rv_pen h1
    rw [RVal_int und_3] at h2
    obtain ⟨n, rfl, hn⟩ := h2
    obtain ⟨f, g, b⟩ := p
    have e1 := number_eq ⟨f, g, b⟩
    obtain ⟨e2, e3⟩ := of_eq n
    obtain ⟨e4, e5⟩ := of_number hp
    obtain ⟨q, hq⟩ := named (ofM n)
    rw [← hq.out] at e2 e3
    obtain ⟨q2, hq2⟩ := named (ofM (numberM ⟨f, g, b⟩))
    rw [← hq2.out] at e4 e5
    obtain ⟨⟨qf, qg, qb⟩, qo⟩ := q
    obtain ⟨⟨xf, xg, xb⟩, xo⟩ := q2
    simp only at e2 e3 e4 e5
    have s1 := fun h => of_spec n h
    have s2 := fun h => of_spec (numberM ⟨f, g, b⟩) h
    have s3 := fun h => rof_spec n h
    rw [← hq.out] at s1
    rw [← hq2.out] at s2
    rw [e2] at s3
    simp only [penV] at s1 s2 s3
    clear e2
    refine call5 (by simp) ?_
    simp only [penV]
    repeat' first | (with_reducible refine x_go ?_; simp -implicitDefEqProofs (disch := (first | (simp -implicitDefEqProofs only [Heap.next_push, Heap.next_set, Heap.next_kill, Nat.add_eq_left, Nat.left_eq_add, Nat.reduceEqDiff, Nat.add_left_cancel_iff, ne_eq, not_false_eq_true, reduceCtorEq, Nat.succ_ne_self, Nat.succ_ne_zero, Nat.reduceAdd]; done) | omega | (simp -implicitDefEqProofs only [Heap.next_push, Heap.next_set, Heap.next_kill]; omega))) only [go_sem, push_cast, Nat.reduceEqDiff, Nat.reduceLT, Nat.reduceLeDiff, ↓reduceIte, List.reduceReplicate, Nat.reduceAdd, Nat.reduceSub, Nat.reduceMul, reduceCtorEq, Int.reduceToNat, Int.reduceEq, Int.reduceNe, Int.reduceLT, Int.reduceLE, *]) | (with_reducible refine list_go ?_; simp -implicitDefEqProofs (disch := (first | (simp -implicitDefEqProofs only [Heap.next_push, Heap.next_set, Heap.next_kill, Nat.add_eq_left, Nat.left_eq_add, Nat.reduceEqDiff, Nat.add_left_cancel_iff, ne_eq, not_false_eq_true, reduceCtorEq, Nat.succ_ne_self, Nat.succ_ne_zero, Nat.reduceAdd]; done) | omega | (simp -implicitDefEqProofs only [Heap.next_push, Heap.next_set, Heap.next_kill]; omega))) only [go_sem, push_cast, Nat.reduceEqDiff, Nat.reduceLT, Nat.reduceLeDiff, ↓reduceIte, List.reduceReplicate, Nat.reduceAdd, Nat.reduceSub, Nat.reduceMul, reduceCtorEq, Int.reduceToNat, Int.reduceEq, Int.reduceNe, Int.reduceLT, Int.reduceLE, *]) | (with_reducible refine draw_go ?_; simp -implicitDefEqProofs (disch := (first | (simp -implicitDefEqProofs only [Heap.next_push, Heap.next_set, Heap.next_kill, Nat.add_eq_left, Nat.left_eq_add, Nat.reduceEqDiff, Nat.add_left_cancel_iff, ne_eq, not_false_eq_true, reduceCtorEq, Nat.succ_ne_self, Nat.succ_ne_zero, Nat.reduceAdd]; done) | omega | (simp -implicitDefEqProofs only [Heap.next_push, Heap.next_set, Heap.next_kill]; omega))) only [go_sem, push_cast, Nat.reduceEqDiff, Nat.reduceLT, Nat.reduceLeDiff, ↓reduceIte, List.reduceReplicate, Nat.reduceAdd, Nat.reduceSub, Nat.reduceMul, reduceCtorEq, Int.reduceToNat, Int.reduceEq, Int.reduceNe, Int.reduceLT, Int.reduceLE, *]) | with_reducible refine guard_split_not (fun hc => ?_) (fun hc => ?_) | with_reducible refine guard_split_dec (fun hc => ?_) (fun hc => ?_) | with_reducible refine guard_split (fun hc => ?_) (fun hc => ?_) | with_reducible refine cond_split_not (fun hc => ?_) (fun hc => ?_) | with_reducible refine cond_split_dec (fun hc => ?_) (fun hc => ?_) | with_reducible refine cond_split (fun hc => ?_) (fun hc => ?_) | with_reducible refine draw_and ?_ ?_ | (first | (with_reducible refine ACalls.mono (s1 _) ?_; rintro _ h1 ⟨rfl, hx⟩; have hl := hx.le; have hg := hx.get; try simp only [Heap.next_push, Heap.next_set, Heap.next_kill] at hl) | (with_reducible refine ACalls.mono (s2 _) ?_; rintro _ h1 ⟨rfl, hx⟩; have hl := hx.le; have hg := hx.get; try simp only [Heap.next_push, Heap.next_set, Heap.next_kill] at hl) | (with_reducible refine ACalls.mono (s3 _) ?_; rintro _ h1 ⟨rfl, hx⟩; have hl := hx.le; have hg := hx.get; try simp only [Heap.next_push, Heap.next_set, Heap.next_kill] at hl) | (with_reducible refine ACalls.mono (number_spec _ _ _ _) ?_; rintro _ h1 ⟨rfl, hx⟩; have hl := hx.le; have hg := hx.get; try simp only [Heap.next_push, Heap.next_set, Heap.next_kill] at hl) | (with_reducible refine ACalls.mono (rnumber_spec _ _ _ _) ?_; rintro _ h1 ⟨rfl, hx⟩; have hl := hx.le; have hg := hx.get; try simp only [Heap.next_push, Heap.next_set, Heap.next_kill] at hl) | (with_reducible refine ACalls.mono (right_spec _ _ _ _) ?_; rintro _ h1 ⟨rfl, hx⟩; have hl := hx.le; have hg := hx.get; try simp only [Heap.next_push, Heap.next_set, Heap.next_kill] at hl) | (with_reducible refine ACalls.mono (known_spec _) ?_; rintro _ h1 ⟨rfl, hx⟩; have hl := hx.le; have hg := hx.get; try simp only [Heap.next_push, Heap.next_set, Heap.next_kill] at hl))
    all_goals clear s1 s2 s3 hq hq2 hv
    all_goals by_cases hrr : rightM ⟨f, g, b⟩ = true <;> cases qo <;> simp_all
end Go.Sim
