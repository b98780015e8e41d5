/- Chapter 4: that the pens' functions and the document's agree. -/
import Derived.Test.YtmcboobmnipjlaaG8
set_option linter.unusedSimpArgs false
set_option linter.unusedVariables false
set_option linter.defProp false
set_option maxRecDepth 100000
namespace Go.Sim
open Go.Proofs

theorem right_eq (p : Pen) : rright p = rightM p := by
  unfold rright rightM
  congr 1
  · congr 1
    · exact decide_eq_decide.2 (by omega)
    · exact decide_eq_decide.2 (by omega)
  · exact decide_eq_decide.2 (by omega)
def Byte (x : Int) : Prop := 0 ≤ x ∧ x ≤ 255
structure PenOk (p : Pen) : Prop where
  f : Byte p.f
  g : Byte p.g
  b : Byte p.b
theorem byte_nat {x : Int} (h : Byte x) : ∃ n : Nat, n < 256 ∧ x = n := ⟨x.toNat, by unfold Byte at h; omega, by unfold Byte at h; omega⟩

def flags12 : List Int := [1, 2, 4, 5, 7, 22, 24, 25, 27]
theorem flags_dec : ∀ f < 256, ∀ n ∈ flags12, (withM ⟨(f : Nat), 0, 0⟩ (flagM n) (decide (n < 20))).f = (List.range 5).foldl (flagF n) (f : Nat) := by
  decide +kernel

theorem wrap_u8 {n : Int} (h : Byte n) : IntKind.u8.wrap n = n := by
  unfold Byte at h
  rw [IntKind.wrap_u8']
  omega
theorem byte_bv {x : Int} (h : Byte x) : ∃ v : BitVec 8, x = (v.toNat : Int) := by
  unfold Byte at h
  exact ⟨BitVec.ofNat 8 x.toNat, by simp; omega⟩
theorem ofInt_bv (v : BitVec 8) : BitVec.ofInt IntKind.u8.bits (v.toNat : Int) = v := by
  simp [IntKind.bits]
theorem wrap_bv (v : BitVec 8) : IntKind.u8.wrap (v.toNat : Int) = v.toNat := wrap_u8 ⟨by omega, by have := v.isLt; omega⟩
theorem bits_and_bv (x y : BitVec 8) : bits .and .u8 (x.toNat : Int) (y.toNat : Int) = ((x &&& y).toNat : Int) := by
  unfold bits; simp only [ofInt_bv]; exact wrap_bv _
theorem bits_or_bv (x y : BitVec 8) : bits .or .u8 (x.toNat : Int) (y.toNat : Int) = ((x ||| y).toNat : Int) := by
  unfold bits; simp only [ofInt_bv]; exact wrap_bv _
theorem bits_not_bv (x y : BitVec 8) : bits .andNot .u8 (x.toNat : Int) (y.toNat : Int) = ((x &&& ~~~y).toNat : Int) := by
  unfold bits; simp only [ofInt_bv]; exact wrap_bv _

theorem step_dec : ∀ x < 256, ∀ i < 8, hasM (x : Nat) (2 ^ i) = Nat.testBit x i ∧ (Nat.testBit x i = false → IntKind.u8.wrap ((x : Nat) + 2 ^ i) = ((x ||| 2 ^ i : Nat) : Int)) ∧ (Nat.testBit x i = true → IntKind.u8.wrap ((x : Nat) - 2 ^ i) = ((x ^^^ 2 ^ i : Nat) : Int)) ∧ (x ||| 2 ^ i) < 256 ∧ (x ^^^ 2 ^ i) < 256 := by
  decide +kernel
def stepN (fl : Nat) (set : Bool) (x i : Nat) : Nat := if fl.testBit i ∧ x.testBit i ≠ set then (if set then x ||| 2 ^ i else x ^^^ 2 ^ i) else x
theorem stepM_nat {fl x i : Nat} {set : Bool} (hf : fl < 256) (hx : x < 256) (hi : i < 8) : stepM fl set x i = stepN fl set x i ∧ stepN fl set x i < 256 := by
  obtain ⟨h1, h2, h3, h4, h5⟩ := step_dec x hx i hi
  obtain ⟨g1, _⟩ := step_dec fl hf i hi
  unfold stepM stepN
  rw [h1, g1]
  by_cases hc : fl.testBit i = true ∧ x.testBit i ≠ set
  · rw [if_pos hc, if_pos hc]
    cases set
    · simp only [Bool.false_eq_true, if_false]
      exact ⟨h3 (by simpa using hc.2), h5⟩
    · simp only [if_true]
      exact ⟨h2 (by simpa using hc.2), h4⟩
  · rw [if_neg hc, if_neg hc]
    exact ⟨rfl, hx⟩
theorem stepN_bit (fl x i j : Nat) (set : Bool) : (stepN fl set x i).testBit j = if j = i ∧ fl.testBit i = true then set else x.testBit j := by
  unfold stepN
  by_cases hf : fl.testBit i = true
  · by_cases hs : x.testBit i = set
    · rw [if_neg (by simp [hs])]
      split
      · rename_i h; rw [h.1, hs]
      · rfl
    · rw [if_pos ⟨hf, hs⟩]
      cases set
      · simp only [Bool.false_eq_true, if_false, Nat.testBit_xor, Nat.testBit_two_pow]
        by_cases hj : j = i
        · subst hj; simp_all
        · rw [if_neg (by simp [hj])]; simp [Ne.symm hj]
      · simp only [if_true, Nat.testBit_or, Nat.testBit_two_pow]
        by_cases hj : j = i
        · subst hj; simp_all
        · rw [if_neg (by simp [hj])]; simp [Ne.symm hj]
  · rw [if_neg (by simp [hf]), if_neg (by simp [hf])]
theorem fold_step {fl x : Nat} {set : Bool} (hf : fl < 256) (hx : x < 256) : ∀ k, k ≤ 8 → ∃ y : Nat, (List.range k).foldl (stepM fl set) (x : Int) = (y : Int) ∧ y < 256 ∧ ∀ j, y.testBit j = if j < k ∧ fl.testBit j = true then set else x.testBit j
  | 0, _ => ⟨x, rfl, hx, fun j => by simp⟩
  | k + 1, hk => by
    obtain ⟨y, h1, h2, h3⟩ := fold_step hf hx k (by omega)
    obtain ⟨h4, h5⟩ := stepM_nat (fl := fl) (x := y) (i := k) (set := set) hf h2 (by omega)
    refine ⟨stepN fl set y k, ?_, h5, fun j => ?_⟩
    · rw [List.range_succ, List.foldl_append, h1]
      exact h4
    · rw [stepN_bit, h3]
      by_cases hj : j = k
      · subst hj
        by_cases hb : fl.testBit j = true <;> simp [hb]
      · by_cases hb : j < k
        · simp [hj, hb, show j < k + 1 by omega]
        · simp [hj, hb, show ¬ j < k + 1 by omega]
theorem with_eq {p : Pen} {fl : Int} {on : Bool} (hp : Byte p.f) (hf : Byte fl) : rwithM p fl on = withM p fl on := by
  unfold rwithM withM
  congr 1
  obtain ⟨x, hx⟩ := byte_bv hp
  obtain ⟨y, hy⟩ := byte_bv hf
  rw [hx, hy]
  obtain ⟨z, h1, h2, h3⟩ := fold_step (set := on) y.isLt x.isLt 8 (by omega)
  rw [h1, bits_not_bv, bits_or_bv]
  have key : ∀ w : BitVec 8, (∀ j, j < 8 → w.getLsbD j = if y.getLsbD j = true then on else x.getLsbD j) → (z : Int) = (w.toNat : Int) := by
    intro w hw
    congr 1
    apply Nat.eq_of_testBit_eq
    intro j
    rw [h3 j]
    by_cases hj : j < 8
    · rw [BitVec.testBit_toNat, BitVec.testBit_toNat, BitVec.testBit_toNat, hw j hj]
      simp [hj]
    · rw [if_neg (by omega), BitVec.testBit_toNat, BitVec.testBit_toNat, BitVec.getLsbD_of_ge _ _ (by omega), BitVec.getLsbD_of_ge _ _ (by omega)]
  cases on
  · rw [if_neg (by simp)]
    refine key _ fun j hj => ?_
    rw [BitVec.getLsbD_and, BitVec.getLsbD_not]
    cases x.getLsbD j <;> cases y.getLsbD j <;> simp [hj]
  · rw [if_pos rfl]
    refine key _ fun j hj => ?_
    rw [BitVec.getLsbD_or, BitVec.getLsbD_and, BitVec.getLsbD_not]
    cases x.getLsbD j <;> cases y.getLsbD j <;> simp [hj]

/-! ### Turning -/
theorem flagM_cases (n : Int) : (flagM n = 0 ∧ n ∉ flags12) ∨ (flagM n ≠ 0 ∧ n ∈ flags12) := by
  unfold flagM flags12
  simp only [List.mem_cons, List.not_mem_nil, or_false]
  repeat' split
  all_goals omega
theorem flagF_none {n x : Int} (h : n ∉ flags12) : (List.range 5).foldl (flagF n) x = x := by
  have e : ∀ i < 5, onM i ∈ flags12 ∧ offM i ∈ flags12 := by decide
  have one : ∀ i, i < 5 → ∀ x, flagF n x i = x := by
    intro i hi x
    obtain ⟨h1, h2⟩ := e i hi
    unfold flagF clrF setF
    have n1 : n ≠ onM i := by rintro rfl; exact h h1
    have n2 : n ≠ offM i := by rintro rfl; exact h h2
    simp [n1, n2]
  simp [List.range_succ, one]
theorem fore_fold (n x : Int) : (List.range 8).foldl (foreF n) x = if 90 ≤ n ∧ n ≤ 97 then IntKind.u8.wrap (9 + (n - 90)) else if 30 ≤ n ∧ n ≤ 37 then IntKind.u8.wrap (1 + (n - 30)) else x := by
  have e : List.range 8 = [0, 1, 2, 3, 4, 5, 6, 7] := by decide
  rw [e]
  simp only [List.foldl_cons, List.foldl_nil]
  by_cases h1 : 90 ≤ n ∧ n ≤ 97
  · rw [if_pos h1]
    have : n = 90 ∨ n = 91 ∨ n = 92 ∨ n = 93 ∨ n = 94 ∨ n = 95 ∨ n = 96 ∨ n = 97 := by omega
    rcases this with rfl | rfl | rfl | rfl | rfl | rfl | rfl | rfl <;> simp [foreF]
  · rw [if_neg h1]
    by_cases h2 : 30 ≤ n ∧ n ≤ 37
    · rw [if_pos h2]
      have : n = 30 ∨ n = 31 ∨ n = 32 ∨ n = 33 ∨ n = 34 ∨ n = 35 ∨ n = 36 ∨ n = 37 := by omega
      rcases this with rfl | rfl | rfl | rfl | rfl | rfl | rfl | rfl <;> simp [foreF]
    · rw [if_neg h2]
      have one : ∀ (i : Nat) (y : Int), i < 8 → foreF n y i = y := fun i y hi => by
        unfold foreF
        rw [if_neg (by omega), if_neg (by omega)]
      simp [one]
theorem back_fold (n x : Int) : (List.range 8).foldl (backF n) x = if 100 ≤ n ∧ n ≤ 107 then IntKind.u8.wrap (9 + (n - 100)) else if 40 ≤ n ∧ n ≤ 47 then IntKind.u8.wrap (1 + (n - 40)) else x := by
  have e : List.range 8 = [0, 1, 2, 3, 4, 5, 6, 7] := by decide
  rw [e]
  simp only [List.foldl_cons, List.foldl_nil]
  by_cases h1 : 100 ≤ n ∧ n ≤ 107
  · rw [if_pos h1]
    have : n = 100 ∨ n = 101 ∨ n = 102 ∨ n = 103 ∨ n = 104 ∨ n = 105 ∨ n = 106 ∨ n = 107 := by omega
    rcases this with rfl | rfl | rfl | rfl | rfl | rfl | rfl | rfl <;> simp [backF]
  · rw [if_neg h1]
    by_cases h2 : 40 ≤ n ∧ n ≤ 47
    · rw [if_pos h2]
      have : n = 40 ∨ n = 41 ∨ n = 42 ∨ n = 43 ∨ n = 44 ∨ n = 45 ∨ n = 46 ∨ n = 47 := by omega
      rcases this with rfl | rfl | rfl | rfl | rfl | rfl | rfl | rfl <;> simp [backF]
    · rw [if_neg h2]
      have one : ∀ (i : Nat) (y : Int), i < 8 → backF n y i = y := fun i y hi => by
        unfold backF
        rw [if_neg (by omega), if_neg (by omega)]
      simp [one]

theorem color_eq (n fr : Int) (h1 : -9223372036854775808 ≤ n) (h2 : n < 9223372036854775808) (hf : fr = 30 ∨ fr = 40) (x : Int) :
    (if n = fr + 9 then 0 else if fr + 60 ≤ n ∧ n ≤ fr + 67 then IntKind.u8.wrap (9 + (n - (fr + 60))) else if fr ≤ n ∧ n ≤ fr + 7 then IntKind.u8.wrap (1 + (n - fr)) else x) = (if (colorM n fr).2.1 = true then (colorM n fr).1 else x) := by
  have hk : IntKind.i64.wrap (n - fr) = n - fr ∨ n < fr - 9223372036854775808 ∧ IntKind.i64.wrap (n - fr) = n - fr + 18446744073709551616 := by
    by_cases hq : n < fr - 9223372036854775808
    · refine .inr ⟨hq, ?_⟩
      unfold IntKind.wrap
      simp only [IntKind.bits, IntKind.signed, Bool.true_and, decide_eq_true_eq, ge_iff_le]
      split <;> omega
    · exact .inl (wrap_i64 (by omega) (by omega))
  generalize hg : IntKind.i64.wrap (n - fr) = k at hk
  by_cases c1 : 60 ≤ k ∧ k < 68
  · have hc : colorM n fr = (IntKind.u8.wrap (9 + (n - (fr + 60))), true, some (n - 60)) := by
      unfold colorM
      simp only [hg]
      rw [if_pos c1, wrap_i64 (n := n - 60) (by omega) (by omega), wrap_i64 (n := n - 60 - fr) (by omega) (by omega), wrap_i64 (by omega) (by omega), show n - 60 - fr + 9 = 9 + (n - (fr + 60)) by omega]
    rw [hc, if_pos rfl, if_neg (by omega), if_pos (by omega)]
  · by_cases c2 : 0 ≤ k ∧ k < 8
    · have hc : colorM n fr = (IntKind.u8.wrap (1 + (n - fr)), true, none) := by
        unfold colorM
        simp only [hg]
        rw [if_neg c1, if_pos c2, wrap_i64 (by omega) (by omega), show k + 1 = 1 + (n - fr) by omega]
      rw [hc, if_pos rfl, if_neg (by omega), if_neg (by omega), if_pos (by omega)]
    · by_cases c3 : k = 9
      · have hc : colorM n fr = (0, true, none) := by
          unfold colorM
          simp only [hg]
          rw [if_neg c1, if_neg c2, if_pos c3]
        rw [hc, if_pos rfl, if_pos (by omega)]
      · have hc : colorM n fr = (0, false, none) := by
          unfold colorM
          simp only [hg]
          rw [if_neg c1, if_neg c2, if_neg c3]
        rw [hc]
        simp only [Bool.false_eq_true, if_false]
        rw [if_neg (by omega), if_neg (by omega), if_neg (by omega)]

theorem turn_eq {p : Pen} {n : Int} (hp : PenOk p) (h1 : -9223372036854775808 ≤ n) (h2 : n < 9223372036854775808) : turnM p n = rturn1 p n := by
  unfold turnM rturn1
  by_cases h0 : n = 0
  · subst h0
    rw [if_pos rfl, fore_fold, back_fold, flagF_none (by decide)]
    rfl
  · have hr : rturn0 p n = p := by simp [rturn0, h0]
    rw [if_neg h0, hr, fore_fold, back_fold]
    have c30 := color_eq n 30 h1 h2 (.inl rfl) p.g
    have c40 := color_eq n 40 h1 h2 (.inr rfl) p.b
    simp only [show (30 : Int) + 9 = 39 from rfl, show (30 : Int) + 60 = 90 from rfl, show (30 : Int) + 67 = 97 from rfl, show (30 : Int) + 7 = 37 from rfl, show (40 : Int) + 9 = 49 from rfl, show (40 : Int) + 60 = 100 from rfl, show (40 : Int) + 67 = 107 from rfl, show (40 : Int) + 7 = 47 from rfl] at c30 c40
    rw [c30, c40]
    rcases flagM_cases n with ⟨hf, hn⟩ | ⟨hf, hn⟩
    · rw [if_neg (by simp [hf]), flagF_none hn]
      by_cases q1 : (colorM n 30).2.1 = true
      · have q2 : ¬ (colorM n 40).2.1 = true := by
          intro q2
          have a1 := color_eq n 30 h1 h2 (.inl rfl) (-1)
          have a2 := color_eq n 40 h1 h2 (.inr rfl) (-1)
          simp only [colorM] at q1 q2
          revert q1 q2
          have hk : IntKind.i64.wrap (n - 30) = IntKind.i64.wrap (n - 40) + 10 ∨ IntKind.i64.wrap (n - 40) ≥ 9223372036854775000 := by
            unfold IntKind.wrap
            simp only [IntKind.bits, IntKind.signed, Bool.true_and, decide_eq_true_eq, ge_iff_le]
            split <;> split <;> omega
          repeat' split
          all_goals (intros; first | omega | simp_all)
        rw [if_pos q1, if_pos q1, if_neg q2]
      · rw [if_neg q1, if_neg q1]
        by_cases q2 : (colorM n 40).2.1 = true
        · rw [if_pos q2, if_pos q2]
        · rw [if_neg q2, if_neg q2]
    · rw [if_pos hf]
      obtain ⟨x, hx, hxe⟩ := byte_nat hp.f
      have hd := flags_dec x hx n hn
      have hnn : (∀ m ∈ flags12, (colorM m 30).2.1 = false ∧ (colorM m 40).2.1 = false) := by decide +kernel
      obtain ⟨q1, q2⟩ := hnn n hn
      rw [if_neg (by simp [q1]), if_neg (by simp [q2])]
      simp only [withM, hxe] at hd ⊢
      rw [hd]
end Go.Sim
