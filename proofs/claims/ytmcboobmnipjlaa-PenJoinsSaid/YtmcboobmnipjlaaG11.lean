/- Chapter 4: the laws on turning. -/
import Derived.Test.YtmcboobmnipjlaaG10
set_option linter.unusedSimpArgs false
set_option linter.unusedVariables false
set_option linter.defProp false
set_option maxRecDepth 100000
set_option maxHeartbeats 8000000
namespace Go.Sim
open Go.Proofs
attribute [local irreducible] IntKind.wrap bits

theorem byte_bits_or {x y : Int} (hx : Byte x) (hy : Byte y) : Byte (bits .or .u8 x y) := by
  obtain ⟨v, rfl⟩ := byte_bv hx
  obtain ⟨w, rfl⟩ := byte_bv hy
  rw [bits_or_bv]
  unfold Byte
  have := (v ||| w).isLt
  omega
theorem byte_bits_not {x y : Int} (hx : Byte x) (hy : Byte y) : Byte (bits .andNot .u8 x y) := by
  obtain ⟨v, rfl⟩ := byte_bv hx
  obtain ⟨w, rfl⟩ := byte_bv hy
  rw [bits_not_bv]
  unfold Byte
  have := (v &&& ~~~w).isLt
  omega
theorem flagM_byte (n : Int) : Byte (flagM n) ∧ flagM n < 32 := by
  unfold flagM Byte
  repeat' split
  all_goals omega
theorem withM_ok {p : Pen} {fl : Int} {on : Bool} (hp : PenOk p) (hf : Byte fl) : PenOk (withM p fl on) := by
  refine ⟨?_, hp.g, hp.b⟩
  unfold withM
  simp only
  split
  · exact byte_bits_or (byte_bits_not hp.f hf) hf
  · exact byte_bits_not hp.f hf
theorem wrap_byte (n : Int) : Byte (IntKind.u8.wrap n) := by
  rw [IntKind.wrap_u8']
  unfold Byte
  omega
theorem color_byte (n fr : Int) : Byte (colorM n fr).1 := by
  unfold colorM
  simp only
  repeat' split
  all_goals first | exact wrap_byte _ | (unfold Byte; decide)
theorem turn_ok {p : Pen} {n : Int} (hp : PenOk p) : PenOk (turnM p n) := by
  unfold turnM
  split
  · exact ⟨by unfold Byte; decide, by unfold Byte; decide, by unfold Byte; decide⟩
  · split
    · exact withM_ok hp (flagM_byte n).1
    · split
      · exact ⟨hp.f, color_byte _ _, hp.b⟩
      · split
        · exact ⟨hp.f, hp.g, color_byte _ _⟩
        · exact hp
theorem fold_turn : ∀ (l : List Int) {p : Pen}, PenOk p → (∀ n ∈ l, -9223372036854775808 ≤ n ∧ n < 9223372036854775808) → l.foldl turnM p = l.foldl rturn1 p ∧ PenOk (l.foldl turnM p)
  | [], p, hp, _ => ⟨rfl, hp⟩
  | n :: l, p, hp, hl => by
    obtain ⟨h1, h2⟩ := hl n (by simp)
    have := fold_turn l (turn_ok (n := n) hp) fun m hm => hl m (by simp [hm])
    simp only [List.foldl_cons]
    rw [← turn_eq hp h1 h2]
    exact this
theorem Turn_eq {p : Pen} {l : List Int} (hp : PenOk p) (hl : ∀ n ∈ l, -9223372036854775808 ≤ n ∧ n < 9223372036854775808) : rTurnM p l = TurnM p l := by
  unfold rTurnM TurnM
  rw [(fold_turn l hp hl).1]
theorem Turn_ok {p : Pen} {l : List Int} (hp : PenOk p) (hl : ∀ n ∈ l, -9223372036854775808 ≤ n ∧ n < 9223372036854775808) : PenOk (TurnM p l) := by
  unfold TurnM
  split
  · exact ⟨by unfold Byte; decide, by unfold Byte; decide, by unfold Byte; decide⟩
  · exact (fold_turn l hp hl).2
theorem flag_lt32 : ∀ f < 32, ∀ n ∈ flags12, (withM ⟨(f : Nat), 0, 0⟩ (flagM n) (decide (n < 20))).f < 32 := by decide +kernel
theorem color_lt (n : Int) (fr : Int) (h : (colorM n fr).2.1 = true) (h1 : -9223372036854775808 ≤ n) (h2 : n < 9223372036854775808) (hf : fr = 30 ∨ fr = 40) : (colorM n fr).1 < 17 := by
  have := color_eq n fr h1 h2 hf 0
  rw [if_pos h] at this
  rw [← this]
  repeat' split
  all_goals first | (rw [wrap_u8 (by unfold Byte; omega)]; omega) | omega
theorem right_turn {p : Pen} {n : Int} (hp : PenOk p) (hr : rightM p = true) (h1 : -9223372036854775808 ≤ n) (h2 : n < 9223372036854775808) : rightM (turnM p n) = true := by
  obtain ⟨r1, r2, r3⟩ := right_lt.1 hr
  refine right_lt.2 ?_
  unfold turnM
  split
  · simp
  · rcases flagM_cases n with ⟨hf, hn⟩ | ⟨hf, hn⟩
    · rw [if_neg (by simp [hf])]
      split
      · rename_i q; exact ⟨r1, color_lt n 30 q h1 h2 (.inl rfl), r3⟩
      · split
        · rename_i q; exact ⟨r1, r2, color_lt n 40 q h1 h2 (.inr rfl)⟩
        · exact ⟨r1, r2, r3⟩
    · rw [if_pos hf]
      obtain ⟨x, hx, hxe⟩ := byte_nat hp.f
      have := flag_lt32 x (by omega) n hn
      refine ⟨?_, r2, r3⟩
      simp only [withM, hxe] at this ⊢
      exact this
theorem fold_right : ∀ (l : List Int) {p : Pen}, PenOk p → rightM p = true → (∀ n ∈ l, -9223372036854775808 ≤ n ∧ n < 9223372036854775808) → rightM (l.foldl turnM p) = true
  | [], p, _, hr, _ => hr
  | n :: l, p, hp, hr, hl => by
    obtain ⟨h1, h2⟩ := hl n (by simp)
    exact fold_right l (turn_ok hp) (right_turn hp hr h1 h2) fun m hm => hl m (by simp [hm])
theorem Turn_right {p : Pen} {l : List Int} (hp : PenOk p) (hr : rightM p = true) (hl : ∀ n ∈ l, -9223372036854775808 ≤ n ∧ n < 9223372036854775808) : rightM (TurnM p l) = true := by
  unfold TurnM
  split
  · decide
  · exact fold_right l hp hr hl
theorem Turn_join {p : Pen} {a b : List Int} (ha : a ≠ []) (hb : b ≠ []) : TurnM p (a ++ b) = TurnM (TurnM p a) b := by
  unfold TurnM
  rw [if_neg (by simp [ha]), if_neg ha, if_neg hb, List.foldl_append]
theorem with_join {p : Pen} {fl : Int} (hp : PenOk p) (hf : Byte fl) : withM (withM p fl true) fl false = withM p fl false ∧ withM (withM p fl false) fl true = withM p fl true := by
  obtain ⟨f, g, b⟩ := p
  obtain ⟨v, rfl⟩ := byte_bv hp.f
  obtain ⟨w, rfl⟩ := byte_bv hf
  unfold withM
  simp only [if_true, Bool.false_eq_true, if_false, bits_not_bv, bits_or_bv, Pen.mk.injEq, and_true]
  constructor
  · congr 2
    apply BitVec.eq_of_getLsbD_eq
    intro i hi
    simp only [BitVec.getLsbD_and, BitVec.getLsbD_or, BitVec.getLsbD_not]
    cases v.getLsbD i <;> cases w.getLsbD i <;> simp [hi]
  · congr 2
    apply BitVec.eq_of_getLsbD_eq
    intro i hi
    simp only [BitVec.getLsbD_and, BitVec.getLsbD_or, BitVec.getLsbD_not]
    cases v.getLsbD i <;> cases w.getLsbD i <;> simp [hi]
end Go.Sim
