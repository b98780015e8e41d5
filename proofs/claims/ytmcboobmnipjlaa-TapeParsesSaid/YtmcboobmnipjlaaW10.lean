/- Part 10 of the claim TapeParses: S5, S6, S7, R5, S8, B1, B2, T21, LParses -/
import Derived.Test.YtmcboobmnipjlaaProg
import Derived.ProofKit
import Derived.OpenShut
import Derived.Carry
import Derived.JoinedOf
import Derived.Test.YtmcboobmnipjlaaW9
import Derived.Test.YtmcboobmnipjlaaW8
import Derived.Test.YtmcboobmnipjlaaW3
set_option linter.unusedSimpArgs false
set_option linter.unusedVariables false
set_option linter.defProp false
/- Chapter 34: the models of parsing. -/
set_option maxRecDepth 100000
set_option maxHeartbeats 4000000
set_option linter.unusedVariables false
namespace Go.Sim
theorem tape_Parse_l1_eq (a b c) : m_tape_Parse_l1 (a, b, c) = unr (m_tape_Parse_l1_step a b c) m_tape_Parse_l1 := loopM_unr _ _
theorem r34_Parse_l1_eq (a b c) : m_r34_Parse_l1 (a, b, c) = unr (m_r34_Parse_l1_step a b c) m_r34_Parse_l1 := loopM_unr _ _
abbrev P4 : Type := Int × Int × List E5 × Int
def fin (r c : Int) (x : Nat × List Ev) : P4 := if x.1 ≠ 0 then (0, 0, [], (x.1 : Int)) else (r, c, x.2.map evT, 0)
theorem evsP_run (bs : List Int) (a e : Nat) (l : List Ev) (h : e = 0 ∧ a < bs.length) : evsP bs a e l = evsP bs (oneP bs a).1 (oneP bs a).2.1 (l ++ [(oneP bs a).2.2]) := by rw [evsP, dif_pos h]
theorem evsP_end (bs : List Int) (a e : Nat) (l : List Ev) (h : ¬ (e = 0 ∧ a < bs.length)) : evsP bs a e l = (e, l) := by rw [evsP, dif_neg h]
theorem oneP_le {bs : List Int} {a : Nat} (ha : a ≤ bs.length) : a ≤ (oneP bs a).1 ∧ (oneP bs a).1 ≤ bs.length ∧ (oneP bs a).2.1 < 100 := by
  unfold oneP
  have h1 := rNum_le (bs := bs) (e := 0) ha (by decide)
  have h2 := (rNum_mono bs a 0).1
  have h3 := kindP_mono bs (rNum bs a 0).1 (if (rNum bs a 0).2.1 = 0 ∧ ((rNum bs a 0).2.2 < 1 ∨ 5 < (rNum bs a 0).2.2) then 9 else (rNum bs a 0).2.1) (rNum bs a 0).2.2
  have h4 := kindP_le (bs := bs) (a := (rNum bs a 0).1) (e := (if (rNum bs a 0).2.1 = 0 ∧ ((rNum bs a 0).2.2 < 1 ∨ 5 < (rNum bs a 0).2.2) then 9 else (rNum bs a 0).2.1)) (rNum bs a 0).2.2 h1.1 (by split <;> omega)
  simp only
  exact ⟨Nat.le_trans h2 h3.1, h4.1, h4.2⟩
def out4 (x : Nat × Nat × List Ev × Nat) : P4 := (x.1, x.2.1, x.2.2.1.map evT, x.2.2.2)
theorem fin_out (r c : Nat) (x : Nat × List Ev) : fin r c x = out4 (if x.1 ≠ 0 then (0, 0, [], x.1) else (r, c, x.2, 0)) := by
  unfold fin out4
  split <;> simp_all
theorem parse_num_loop {bs : List Int} (hB : ∀ c ∈ bs, Byt c) (hl : bs.length ≤ 1000000) (r c : Int) : ∀ (k a e : Nat) (l : List Ev) (L : List E5), (if e = 0 then bs.length + 1 - a else 0) ≤ k → 1 ≤ a → a ≤ bs.length → (e = 0 → L = l.map evT ∧ L.length ≤ a) →
    m_tape_Parse_l1 ((bs, r, c), (bs.drop a, ((a - 1 : Nat) : Int), (e : Int)), L) = some (fin r c (evsP bs a e l)) := by
  have stop : ∀ (a e : Nat) (l : List Ev) (L : List E5), 1 ≤ a → a ≤ bs.length → (e = 0 → L = l.map evT ∧ L.length ≤ a) → ¬ (e = 0 ∧ a < bs.length) → m_tape_Parse_l1 ((bs, r, c), (bs.drop a, ((a - 1 : Nat) : Int), (e : Int)), L) = some (fin r c (evsP bs a e l)) := by
    intro a e l L h1 ha hL h
    rw [evsP_end _ _ _ _ h, tape_Parse_l1_eq]
    have hw : IntKind.i64.wrap ((bs.length : Int) - 1) = (bs.length : Int) - 1 := wrap_i64n (by omega) (by omega)
    unfold m_tape_Parse_l1_step fin
    by_cases he : e = 0
    · subst he
      have hd : decide (((a - 1 : Nat) : Int) < (bs.length : Int) - 1) = false := by simp; omega
      simp [m_num_Err, m_num_At, hw, hd, (hL rfl).1]
    · have h1 : ((e : Int) == 0) = false := by simp; omega
      have h2 : ((e : Int) != 0) = true := by simp; omega
      simp [m_num_Err, h1, h2, he]
  intro k
  induction k with
  | zero =>
    intro a e l L hk h1 ha hL
    refine stop a e l L h1 ha hL fun h => ?_
    rw [if_pos h.1] at hk
    omega
  | succ k ih =>
    intro a e l L hk h1 ha hL
    by_cases h : e = 0 ∧ a < bs.length
    · obtain ⟨rfl, hlt⟩ := h
      obtain ⟨hL1, hL2⟩ := hL rfl
      obtain ⟨ev, hev, hev2⟩ := one_num hB hl (s := 1) ha h1
      have ho := oneP_le (bs := bs) ha
      have hol := oneP_lt bs a
      rw [evsP_run _ _ _ _ ⟨rfl, hlt⟩, tape_Parse_l1_eq]
      have hw : IntKind.i64.wrap ((bs.length : Int) - 1) = (bs.length : Int) - 1 := wrap_i64n (by omega) (by omega)
      have hd : decide (((a - 1 : Nat) : Int) < (bs.length : Int) - 1) = true := by simp; omega
      have hd2 : decide (L.length ≤ 2513169434915) = true := by simp; omega
      have e1 : m_tape_Parse_l1_step (bs, r, c) (bs.drop a, ((a - 1 : Nat) : Int), ((0 : Nat) : Int)) L = some (.inl ((bs, r, c), (bs.drop (oneP bs a).1, (((oneP bs a).1 - 1 : Nat) : Int), ((oneP bs a).2.1 : Int)), L ++ [ev])) := by
        unfold m_tape_Parse_l1_step
        simp [m_num_Err, m_num_At, hw, hd, hev, hd2]
      rw [e1, unr_l]
      refine ih _ _ _ _ ?_ (by omega) ho.2.1 fun h0 => ?_
      · rw [if_pos rfl] at hk
        by_cases h0 : (oneP bs a).2.1 = 0
        · rw [if_pos h0]; have := hol h0; omega
        · rw [if_neg h0]; omega
      · rw [hev2 h0, hL1]
        refine ⟨by simp, ?_⟩
        have := hol h0
        rw [hL1] at hL2
        simp at hL2 ⊢
        omega
    · exact stop a e l L h1 ha hL h
theorem parse_ref_loop {bs : List Int} (hB : ∀ c ∈ bs, Byt c) (hl : bs.length ≤ 1000000) (r c : Int) : ∀ (k a e : Nat) (l : List Ev) (L : List E5), (if e = 0 then bs.length + 1 - a else 0) ≤ k → a ≤ bs.length → (e = 0 → L = l.map evT ∧ L.length ≤ a) →
    m_r34_Parse_l1 ((bs, r, c), (bs, (a : Int), (e : Int)), L) = some (fin r c (evsP bs a e l)) := by
  have stop : ∀ (a e : Nat) (l : List Ev) (L : List E5), a ≤ bs.length → (e = 0 → L = l.map evT ∧ L.length ≤ a) → ¬ (e = 0 ∧ a < bs.length) → m_r34_Parse_l1 ((bs, r, c), (bs, (a : Int), (e : Int)), L) = some (fin r c (evsP bs a e l)) := by
    intro a e l L ha hL h
    rw [evsP_end _ _ _ _ h, r34_Parse_l1_eq]
    unfold m_r34_Parse_l1_step fin
    by_cases he : e = 0
    · subst he
      have hd : decide (a < bs.length) = false := by simp; omega
      simp [hd, (hL rfl).1]
    · have h1 : ((e : Int) == 0) = false := by simp; omega
      have h2 : ((e : Int) != 0) = true := by simp; omega
      simp [h1, h2, he]
  intro k
  induction k with
  | zero =>
    intro a e l L hk ha hL
    refine stop a e l L ha hL fun h => ?_
    rw [if_pos h.1] at hk
    omega
  | succ k ih =>
    intro a e l L hk ha hL
    by_cases h : e = 0 ∧ a < bs.length
    · obtain ⟨rfl, hlt⟩ := h
      obtain ⟨hL1, hL2⟩ := hL rfl
      obtain ⟨ev, hev, hev2⟩ := one_ref hB hl ha hlt r c L (by omega)
      have ho := oneP_le (bs := bs) ha
      have hol := oneP_lt bs a
      rw [evsP_run _ _ _ _ ⟨rfl, hlt⟩, r34_Parse_l1_eq]
      refine (congrArg (unr · m_r34_Parse_l1) hev).trans ?_
      rw [unr_l]
      refine ih _ _ _ _ ?_ ho.2.1 fun h0 => ?_
      · rw [if_pos rfl] at hk
        by_cases h0 : (oneP bs a).2.1 = 0
        · rw [if_pos h0]; have := hol h0; omega
        · rw [if_neg h0]; omega
      · rw [hev2 h0, hL1]
        refine ⟨by simp, ?_⟩
        have := hol h0
        rw [hL1] at hL2
        simp at hL2 ⊢
        omega
    · exact stop a e l L ha hL h
/-- What a tape tells. -/
def outP (bs : List Int) : P4 := out4 (parseP bs)
theorem parse_num {bs : List Int} (hB : ∀ c ∈ bs, Byt c) (hl : bs.length ≤ 1000000) : m_tape_Parse bs = some (outP bs) := by
  unfold m_tape_Parse outP parseP
  cases hbs : bs with
  | nil => simp [out4]
  | cons x xs =>
    by_cases hx : x = 84
    · subst hx
      rw [← hbs]
      have h0 : bs[0]? = some 84 := by rw [hbs]; rfl
      have hlen : 1 ≤ bs.length := by rw [hbs]; simp
      have hz : ((bs.length : Int) == 0) = false := beq_eq_false_iff_ne.2 (by omega)
      have hz1 : decide ((0 : Int) ≤ 1 ∧ 1 ≤ bs.length) = true := decide_eq_true ⟨by decide, hlen⟩
      have hU : m_num_Upto 512 (bs.drop 1) 0 0 = _ := up_num hB hl (s := 1) hlen (Nat.le_refl 1) 0 512 (by decide)
      have g1 := rUp_le (bs := bs) (a := 1) (e := 0) (m := 512) (w := 5) hlen (by decide) (by decide)
      have g2 := (rUp_mono bs 1 0 512 5).1
      have hV : m_num_Upto 512 (bs.drop (rUp bs 1 0 512 5).1) (((rUp bs 1 0 512 5).1 - 1 : Nat) : Int) _ = _ := up_num hB hl (s := 1) g1.1 g2 (rUp bs 1 0 512 5).2.1 512 (by decide)
      have g3 := rUp_le (bs := bs) (a := (rUp bs 1 0 512 5).1) (e := (rUp bs 1 0 512 5).2.1) (m := 512) (w := 5) g1.1 g1.2.1 (by decide)
      have g4 := (rUp_mono bs (rUp bs 1 0 512 5).1 (rUp bs 1 0 512 5).2.1 512 5).1
      simp only [hz, h0, cond_false, Option.bind_some, bne_self_eq_false, hz1, m_num_New, hU, hV]
      generalize rUp bs 1 0 512 5 = u at g1 g2 hV g3 g4 ⊢
      generalize rUp bs u.1 u.2.1 512 5 = t at g3 g4 ⊢
      have hloop := fun e => parse_num_loop hB hl (u.2.2 : Int) (t.2.2 : Int) _ t.1 e [] [] (Nat.le_refl _) (Nat.le_trans g2 g4) g3.1 (fun _ => ⟨rfl, Nat.zero_le _⟩)
      rw [if_neg (by simp), ← fin_out]
      by_cases ht : t.2.1 = 0
      · have ht' : ((t.2.1 : Int) == 0) = true := beq_iff_eq.2 (by omega)
        by_cases hu : u.2.2 = 0
        · have hu' : ((u.2.2 : Int) == 0) = true := beq_iff_eq.2 (by omega)
          have hq : m_tape_Parse_l1 ((bs, (u.2.2 : Int), (t.2.2 : Int)), (bs.drop t.1, ((t.1 - 1 : Nat) : Int), 11), []) = _ := hloop 11
          rw [if_pos ⟨ht, .inl hu⟩, ← hq]
          simp only [m_num_Err, m_num_Fail, ht', hu', Option.bind_some, cond_true, decide_true, Option.bind_fun_some]
        · have hu' : ((u.2.2 : Int) == 0) = false := beq_eq_false_iff_ne.2 (by omega)
          by_cases hc : t.2.2 = 0
          · have hc' : ((t.2.2 : Int) == 0) = true := beq_iff_eq.2 (by omega)
            have hq : m_tape_Parse_l1 ((bs, (u.2.2 : Int), (t.2.2 : Int)), (bs.drop t.1, ((t.1 - 1 : Nat) : Int), 11), []) = _ := hloop 11
            rw [if_pos ⟨ht, .inr hc⟩, ← hq]
            simp only [m_num_Err, m_num_Fail, ht', hu', hc', Option.bind_some, cond_true, cond_false, decide_true, Option.bind_fun_some]
          · have hc' : ((t.2.2 : Int) == 0) = false := beq_eq_false_iff_ne.2 (by omega)
            have hq := hloop t.2.1
            rw [if_neg (by omega), ← hq]
            simp only [m_num_Err, m_num_Fail, ht', hu', hc', Option.bind_some, cond_true, cond_false, decide_true, Option.bind_fun_some]
      · have ht' : ((t.2.1 : Int) == 0) = false := beq_eq_false_iff_ne.2 (by omega)
        have hq := hloop t.2.1
        rw [if_neg (by omega), ← hq]
        simp only [m_num_Err, m_num_Fail, ht', Option.bind_some, cond_true, cond_false, decide_true, Option.bind_fun_some]
    · have hx2 : (x != 84) = true := bne_iff_ne.2 hx
      have hz : ((xs.length : Int) + 1 == 0) = false := beq_eq_false_iff_ne.2 (by omega)
      simp [hx, hx2, hz, out4]
theorem parse_ref {bs : List Int} (hB : ∀ c ∈ bs, Byt c) (hl : bs.length ≤ 1000000) : m_r34_Parse bs = some (outP bs) := by
  unfold m_r34_Parse outP parseP
  cases hbs : bs with
  | nil => simp [out4]
  | cons x xs =>
    by_cases hx : x = 84
    · subst hx
      rw [← hbs]
      have h0 : bs[0]? = some 84 := by rw [hbs]; rfl
      have hlen : 1 ≤ bs.length := by rw [hbs]; simp
      have hz : ((bs.length : Int) == 0) = false := beq_eq_false_iff_ne.2 (by omega)
      have hU : m_r01_Up (bs, 1, 0) 512 5 = _ := up_ref hB hl hlen 0 512 5 (by decide)
      have g1 := rUp_le (bs := bs) (a := 1) (e := 0) (m := 512) (w := 5) hlen (by decide) (by decide)
      have g2 := (rUp_mono bs 1 0 512 5).1
      have hV : m_r01_Up (bs, ((rUp bs 1 0 512 5).1 : Int), _) 512 5 = _ := up_ref hB hl g1.1 (rUp bs 1 0 512 5).2.1 512 5 (by decide)
      have g3 := rUp_le (bs := bs) (a := (rUp bs 1 0 512 5).1) (e := (rUp bs 1 0 512 5).2.1) (m := 512) (w := 5) g1.1 g1.2.1 (by decide)
      have g4 := (rUp_mono bs (rUp bs 1 0 512 5).1 (rUp bs 1 0 512 5).2.1 512 5).1
      simp only [hz, h0, cond_false, Option.bind_some, bne_self_eq_false, hU, hV]
      generalize rUp bs 1 0 512 5 = u at g1 g2 hV g3 g4 ⊢
      generalize rUp bs u.1 u.2.1 512 5 = t at g3 g4 ⊢
      have hloop := fun e => parse_ref_loop hB hl (u.2.2 : Int) (t.2.2 : Int) _ t.1 e [] [] (Nat.le_refl _) g3.1 (fun _ => ⟨rfl, Nat.zero_le _⟩)
      rw [if_neg (by simp), ← fin_out]
      by_cases ht : t.2.1 = 0
      · have ht' : ((t.2.1 : Int) == 0) = true := beq_iff_eq.2 (by omega)
        by_cases hu : u.2.2 = 0
        · have hu' : ((u.2.2 : Int) == 0) = true := beq_iff_eq.2 (by omega)
          have hq : m_r34_Parse_l1 ((bs, (u.2.2 : Int), (t.2.2 : Int)), (bs, (t.1 : Int), 11), []) = _ := hloop 11
          rw [if_pos ⟨ht, .inl hu⟩, ← hq]
          simp only [ht', hu', Option.bind_some, cond_true, decide_true, Option.bind_fun_some]
        · have hu' : ((u.2.2 : Int) == 0) = false := beq_eq_false_iff_ne.2 (by omega)
          by_cases hc : t.2.2 = 0
          · have hc' : ((t.2.2 : Int) == 0) = true := beq_iff_eq.2 (by omega)
            have hq : m_r34_Parse_l1 ((bs, (u.2.2 : Int), (t.2.2 : Int)), (bs, (t.1 : Int), 11), []) = _ := hloop 11
            rw [if_pos ⟨ht, .inr hc⟩, ← hq]
            simp only [ht', hu', hc', Option.bind_some, cond_true, cond_false, decide_true, Option.bind_fun_some]
          · have hc' : ((t.2.2 : Int) == 0) = false := beq_eq_false_iff_ne.2 (by omega)
            have hq := hloop t.2.1
            rw [if_neg (by omega), ← hq]
            simp only [ht', hu', hc', Option.bind_some, cond_true, cond_false, decide_true, Option.bind_fun_some]
      · have ht' : ((t.2.1 : Int) == 0) = false := beq_eq_false_iff_ne.2 (by omega)
        have hq := hloop t.2.1
        rw [if_neg (by omega), ← hq]
        simp only [ht', Option.bind_some, cond_true, cond_false, decide_true, Option.bind_fun_some]
    · have hx2 : (x != 84) = true := bne_iff_ne.2 hx
      have hz : ((xs.length : Int) + 1 == 0) = false := beq_eq_false_iff_ne.2 (by omega)
      simp [hx, hx2, hz, out4]
end Go.Sim
/- Chapters 1 and 34: what was parsed has just these bytes (plain). -/
set_option maxRecDepth 100000
set_option maxHeartbeats 4000000
set_option linter.unusedVariables false
namespace Go.Sim
theorem readM_num : ∀ (cs : List Int), (∀ c ∈ cs, Byt c) → ∀ (i acc : Nat), (readM cs i acc).2.2 = 0 → ∃ v j, (readM cs i acc).1 = acc + v * un i ∧ (readM cs i acc).2.1 = i + j ∧ j ≤ cs.length ∧ numB v = cs.take j ∧ (0 < i → 1 ≤ v)
  | [], _, i, acc, h => by simp [readM] at h
  | c :: r, hB, i, acc, h => by
    obtain ⟨m, rfl, hm⟩ := (hB c List.mem_cons_self).nat
    rw [readM] at h ⊢
    split at h
    · simp at h
    · rename_i h1
      rw [if_neg h1]
      split at h
      · rename_i h2
        rw [if_pos h2]
        refine ⟨m, 1, ?_, rfl, by simp, ?_, ?_⟩
        · rw [Int.toNat_natCast, Nat.mod_eq_of_lt (by omega)]
        · rw [numB, if_pos (by omega)]; rfl
        · intro h; omega
      · rename_i h2
        rw [if_neg h2]
        obtain ⟨v, j, g1, g2, g3, g4, g5⟩ := readM_num r (fun c h => hB c (List.mem_cons_of_mem _ h)) (i + 1) _ h
        have hv := g5 (by omega)
        refine ⟨m % 128 + 128 * v, j + 1, ?_, by rw [g2]; omega, by simp; omega, ?_, fun _ => by omega⟩
        · rw [g1, un_succ, Int.toNat_natCast, Nat.add_mul, Nat.mul_assoc, Nat.add_assoc]
          congr 2
          rw [Nat.mul_comm 128, Nat.mul_assoc]
        · rw [numB, if_neg (by omega), List.take_succ_cons, show (m % 128 + 128 * v) / 128 = v by omega, g4]
          congr 1
          omega
theorem rNum_num {bs : List Int} (hB : ∀ c ∈ bs, Byt c) {a : Nat} (ha : a ≤ bs.length) (e : Nat) (h : (rNum bs a e).2.1 = 0) : bs.drop a = numB (rNum bs a e).2.2 ++ bs.drop (rNum bs a e).1 := by
  have he := ((rNum_mono bs a e).2 h).2
  subst he
  rw [rNum_0] at h ⊢
  obtain ⟨v, j, g1, g2, g3, g4, -⟩ := readM_num (bs.drop a) (Byts.drop hB a) 0 0 h
  simp only
  rw [g1, g2, show 0 + v * un 0 = v by unfold un; simp, g4, Nat.zero_add, ← List.drop_drop]
  exact (List.take_append_drop _ _).symm
theorem rUp_num {bs : List Int} (hB : ∀ c ∈ bs, Byt c) {a : Nat} (ha : a ≤ bs.length) (e m w : Nat) (hw : w ≠ 0) (h : (rUp bs a e m w).2.1 = 0) : bs.drop a = numB (rUp bs a e m w).2.2 ++ bs.drop (rUp bs a e m w).1 := by
  unfold rUp at h ⊢
  split at h
  · exact absurd h hw
  · rename_i h1
    rw [if_neg h1]
    exact rNum_num hB ha e h
theorem rTake_num {bs : List Int} {a : Nat} (ha : a ≤ bs.length) (e n : Nat) (h : (rTake bs a e n).2.1 = 0) : bs.drop a = (rTake bs a e n).2.2 ++ bs.drop (rTake bs a e n).1 ∧ (rTake bs a e n).2.2.length = n := by
  have he := (rTake_mono bs a e n).2 h
  subst he
  rw [rTake_0] at h ⊢
  split at h
  · cases h
  · rename_i h1
    rw [if_neg h1]
    refine ⟨?_, by simp; omega⟩
    rw [← List.drop_drop]
    exact (List.take_append_drop _ _).symm
def okE (e : Ev) : Prop := 1 ≤ e.kind ∧ e.kind ≤ 5 ∧ e.b.length ≤ 4096 ∧ 0 ≤ e.rows ∧ e.rows ≤ 1048576 ∧ 0 ≤ e.cols ∧ e.cols ≤ 1048576 ∧ 0 ≤ e.n ∧ e.n < 18446744073709551616
theorem oneP_bytes {bs : List Int} (hB : ∀ c ∈ bs, Byt c) {a : Nat} (ha : a ≤ bs.length) (h : (oneP bs a).2.1 = 0) : bs.drop a = evB (oneP bs a).2.2 ++ bs.drop (oneP bs a).1 ∧ okE (oneP bs a).2.2 := by
  unfold oneP at h ⊢
  simp only at h ⊢
  have h0 := rNum_num hB ha 0
  have hp := (rNum_le (bs := bs) (a := a) (e := 0) ha (by decide)).1
  generalize rNum bs a 0 = u at h h0 hp ⊢
  obtain ⟨p, e, n⟩ := u
  simp only at h h0 hp ⊢
  have he := (kindP_mono bs p (if e = 0 ∧ (n < 1 ∨ 5 < n) then 9 else e) n).2 h
  have hk : e = 0 ∧ 1 ≤ n ∧ n ≤ 5 := by
    split at he
    · cases he
    · omega
  obtain ⟨rfl, k1, k2⟩ := hk
  rw [if_neg (by omega)] at h ⊢
  have h0 := h0 rfl
  have hnb : numB n = [(n : Int)] := by rw [numB, if_pos (by omega)]
  rw [hnb] at h0
  have hU := fun m => rUp_num hB hp 0 m 5 (by decide)
  have hN := rNum_num hB hp 0
  have hNl := rNum_lt bs hB p 0
  have g1 := rUp_le (bs := bs) (a := p) (e := 0) (m := 4096) (w := 5) hp (by decide) (by decide)
  have g3 := rUp_le (bs := bs) (a := p) (e := 0) (m := 1048576) (w := 5) hp (by decide) (by decide)
  have g5 := rUp_le (bs := bs) (a := (rUp bs p 0 1048576 5).1) (e := (rUp bs p 0 1048576 5).2.1) (m := 1048576) (w := 5) g3.1 g3.2.1 (by decide)
  have hT := rTake_num g1.1 (rUp bs p 0 4096 5).2.1 (rUp bs p 0 4096 5).2.2
  have hTm := rTake_mono bs (rUp bs p 0 4096 5).1 (rUp bs p 0 4096 5).2.1 (rUp bs p 0 4096 5).2.2
  have hV := rUp_num hB g3.1 (rUp bs p 0 1048576 5).2.1 1048576 5 (by decide)
  have hVm := rUp_mono bs (rUp bs p 0 1048576 5).1 (rUp bs p 0 1048576 5).2.1 1048576 5
  have hk : n = 1 ∨ n = 2 ∨ n = 3 ∨ n = 4 ∨ n = 5 := by omega
  rcases hk with rfl | rfl | rfl | rfl | rfl
  · simp only [kindP, true_or, if_true] at h ⊢
    have hT := hT h
    have hU := hU 4096 (hTm.2 h)
    refine ⟨?_, ?_⟩
    · rw [h0, hU, hT.1]; simp [evB, hT.2]
    · simp [okE, hT.2]; omega
  · simp only [kindP, or_true, if_true] at h ⊢
    have hT := hT h
    have hU := hU 4096 (hTm.2 h)
    refine ⟨?_, ?_⟩
    · rw [h0, hU, hT.1]; simp [evB, hT.2]
    · simp [okE, hT.2]; omega
  · simp only [kindP, show ¬ (3 = 1 ∨ 3 = 2) by decide, if_false, true_or, if_true] at h ⊢
    refine ⟨?_, ?_⟩
    · rw [h0, hN h]; simp [evB]
    · simp [okE]; omega
  · simp only [kindP, show ¬ (4 = 1 ∨ 4 = 2) by decide, show ¬ (4 = 3 ∨ 4 = 5) by decide, if_false, if_true] at h ⊢
    refine ⟨?_, ?_⟩
    · rw [h0, hU 1048576 (hVm.2 h (by decide)), hV h]; simp [evB]
    · simp [okE]; omega
  · simp only [kindP, show ¬ (5 = 1 ∨ 5 = 2) by decide, if_false, or_true, if_true] at h ⊢
    refine ⟨?_, ?_⟩
    · rw [h0, hN h]; simp [evB]
    · simp [okE]; omega
theorem evsP_bytes {bs : List Int} (hB : ∀ c ∈ bs, Byt c) : ∀ (k a e : Nat) (l : List Ev), (if e = 0 then bs.length + 1 - a else 0) ≤ k → a ≤ bs.length → (∀ x ∈ l, okE x) → l.length ≤ a → (evsP bs a e l).1 = 0 → evsB (evsP bs a e l).2 = evsB l ++ bs.drop a ∧ (∀ x ∈ (evsP bs a e l).2, okE x) ∧ (evsP bs a e l).2.length ≤ bs.length := by
  have stop : ∀ (a e : Nat) (l : List Ev), a ≤ bs.length → (∀ x ∈ l, okE x) → l.length ≤ a → ¬ (e = 0 ∧ a < bs.length) → (evsP bs a e l).1 = 0 → evsB (evsP bs a e l).2 = evsB l ++ bs.drop a ∧ (∀ x ∈ (evsP bs a e l).2, okE x) ∧ (evsP bs a e l).2.length ≤ bs.length := by
    intro a e l ha ho hla h h0
    rw [evsP_end _ _ _ _ h] at h0 ⊢
    simp only at h0 ⊢
    rw [List.drop_eq_nil_of_le (by omega), List.append_nil]
    exact ⟨rfl, ho, by omega⟩
  intro k
  induction k with
  | zero =>
    intro a e l hk ha ho hla h0
    refine stop a e l ha ho hla (fun h => ?_) h0
    rw [if_pos h.1] at hk
    omega
  | succ k ih =>
    intro a e l hk ha ho hla h0
    by_cases h : e = 0 ∧ a < bs.length
    · obtain ⟨rfl, hlt⟩ := h
      rw [evsP_run _ _ _ _ ⟨rfl, hlt⟩] at h0 ⊢
      have hle := oneP_le (bs := bs) ha
      by_cases h1 : (oneP bs a).2.1 = 0
      · have hol := oneP_lt bs a h1
        obtain ⟨b1, b2⟩ := oneP_bytes hB ha h1
        obtain ⟨c1, c2, c3⟩ := ih _ _ _ (by rw [if_pos h1]; rw [if_pos rfl] at hk; omega) hle.2.1 (fun x hx => by rcases List.mem_append.1 hx with hx | hx; exact ho x hx; cases List.mem_singleton.1 hx; exact b2) (by simp; omega) h0
        refine ⟨?_, c2, c3⟩
        rw [c1, b1]
        simp [evsB]
      · rw [evsP_end _ _ _ _ (fun q => h1 q.1)] at h0
        exact absurd h0 h1
    · exact stop a e l ha ho hla h h0
theorem parseP_bytes {bs : List Int} (hB : ∀ c ∈ bs, Byt c) (h : (parseP bs).2.2.2 = 0) : headB (parseP bs).1 (parseP bs).2.1 ++ evsB (parseP bs).2.2.1 = bs ∧ (∀ x ∈ (parseP bs).2.2.1, okE x) ∧ 1 ≤ (parseP bs).1 ∧ (parseP bs).1 ≤ 512 ∧ 1 ≤ (parseP bs).2.1 ∧ (parseP bs).2.1 ≤ 512 ∧ (parseP bs).2.2.1.length ≤ bs.length := by
  unfold parseP at h ⊢
  by_cases h84 : bs[0]? = some 84
  · rw [if_neg (by simp [h84])] at h ⊢
    simp only at h ⊢
    have hlen : 1 ≤ bs.length := by
      cases bs with
      | nil => simp at h84
      | cons x xs => simp
    have hb1 : bs = 84 :: bs.drop 1 := by
      cases bs with
      | nil => simp at h84
      | cons x xs => simp at h84; simp [h84]
    have g1 := rUp_le (bs := bs) (a := 1) (e := 0) (m := 512) (w := 5) hlen (by decide) (by decide)
    have g2 := (rUp_mono bs 1 0 512 5).1
    have n1 := rUp_num hB hlen 0 512 5 (by decide)
    have n2 := rUp_num hB g1.1 (rUp bs 1 0 512 5).2.1 512 5 (by decide)
    have g3 := rUp_le (bs := bs) (a := (rUp bs 1 0 512 5).1) (e := (rUp bs 1 0 512 5).2.1) (m := 512) (w := 5) g1.1 g1.2.1 (by decide)
    have g4 := rUp_mono bs (rUp bs 1 0 512 5).1 (rUp bs 1 0 512 5).2.1 512 5
    generalize rUp bs 1 0 512 5 = u at h g1 g2 n1 n2 g3 g4 ⊢
    generalize rUp bs u.1 u.2.1 512 5 = t at h g3 g4 n2 ⊢
    have hev := evsP_bytes hB _ t.1 (if t.2.1 = 0 ∧ (u.2.2 = 0 ∨ t.2.2 = 0) then 11 else t.2.1) [] (Nat.le_refl _) g3.1 (by simp) (by simp)
    by_cases hr : (evsP bs t.1 (if t.2.1 = 0 ∧ (u.2.2 = 0 ∨ t.2.2 = 0) then 11 else t.2.1) []).1 = 0
    · obtain ⟨c1, c2, c3⟩ := hev hr
      rw [if_neg (by simp [hr])] at h ⊢
      simp only at h ⊢
      have hok : t.2.1 = 0 ∧ u.2.2 ≠ 0 ∧ t.2.2 ≠ 0 := by
        by_cases hc : t.2.1 = 0 ∧ (u.2.2 = 0 ∨ t.2.2 = 0)
        · rw [if_pos hc, evsP_end _ _ _ _ (by simp)] at hr
          cases hr
        · rw [if_neg hc] at hr
          by_cases ht : t.2.1 = 0
          · exact ⟨ht, fun q => hc ⟨ht, .inl q⟩, fun q => hc ⟨ht, .inr q⟩⟩
          · rw [evsP_end _ _ _ _ (fun q => ht q.1)] at hr
            exact absurd hr ht
      refine ⟨?_, c2, by omega, by omega, by omega, by omega, c3⟩
      rw [c1]
      conv => rhs; rw [hb1, n1 (g4.2 hok.1 (by decide)), n2 hok.1]
      simp [headB, evsB]
    · rw [if_pos hr] at h
      exact absurd h hr
  · rw [if_pos h84] at h
    cases h
end Go.Sim
/- Chapters 1 and 34: the models of taping. -/
set_option maxRecDepth 100000
set_option maxHeartbeats 4000000
set_option linter.unusedVariables false
namespace Go.Sim
theorem num_Bytes_l1_eq (a b) : m_num_Bytes_l1 (a, b) = unr (m_num_Bytes_l1_step a b) m_num_Bytes_l1 := loopM_unr _ _
theorem num_Bytes_l2_eq (a b) : m_num_Bytes_l2 (a, b) = unr (m_num_Bytes_l2_step a b) m_num_Bytes_l2 := loopM_unr _ _
theorem tape_Bytes_1l_l1_eq (a b) : m_tape_Bytes_1l_l1 (a, b) = unr (m_tape_Bytes_1l_l1_step a b) m_tape_Bytes_1l_l1 := loopM_unr _ _
theorem tape_Bytes_l1_eq (a b) : m_tape_Bytes_l1 (a, b) = unr (m_tape_Bytes_l1_step a b) m_tape_Bytes_l1 := loopM_unr _ _
theorem numB_len10 {n : Nat} (h : n < 18446744073709551616) : (numB n).length ≤ 10 := numB_len n 9 (by omega)
theorem bytes_num_l1 (l : List Int) (n i : Int) : ∀ (k m : Nat) (out : List Int), m ≤ k → m < 18446744073709551616 → out.length + (numB m).length ≤ 140737488355328 →
    m_num_Bytes_l1 (((m : Int), l, n, i), out) = some (.inl ((l, n, IntKind.i64.wrap (i + 1)), out ++ numB m)) := by
  intro k
  induction k with
  | zero =>
    intro m out hm hlt hl
    have : m = 0 := by omega
    subst this
    rw [numB, if_pos (by omega)] at hl ⊢
    simp only [List.length_singleton] at hl
    rw [num_Bytes_l1_eq]
    unfold m_num_Bytes_l1_step
    have w0 : IntKind.u8.wrap 0 = 0 := by decide +kernel
    have hd : decide (out.length ≤ 140737488355327) = true := decide_eq_true (by omega)
    simp [w0, hd]
  | succ k ih =>
    intro m out hm hlt hl
    rw [num_Bytes_l1_eq]
    unfold m_num_Bytes_l1_step
    by_cases h : m < 128
    · rw [numB, if_pos h] at hl ⊢
      simp only [List.length_singleton] at hl
      have hd : decide (out.length ≤ 140737488355327) = true := decide_eq_true (by omega)
      have hc : decide ((127 : Int) < (m : Int)) = false := by simp; omega
      simp [hc, hd, wrap_u8 (n := (m : Int)) (by omega) (by omega)]
    · have hpos := numB_pos (m / 128)
      rw [numB, if_neg h] at hl ⊢
      simp only [List.length_cons] at hl
      have hd : decide (out.length + 1 ≤ 140737488355328) = true := by simp; omega
      have hc : decide ((127 : Int) < (m : Int)) = true := by simp; omega
      have hb : bits .or .u64 (bits .and .u64 (m : Int) 127) 128 = ((128 + m % 128 : Nat) : Int) := by
        rw [show (127 : Int) = ((127 : Nat) : Int) from rfl, bits_and_nat hlt (by omega), show (128 : Int) = ((128 : Nat) : Int) from rfl, show (127 : Nat) = 2 ^ 7 - 1 from rfl, Nat.and_two_pow_sub_one_eq_mod, bits_or_nat (by omega) (by omega)]
        congr 1
        have := Nat.two_pow_add_eq_or_of_lt (i := 7) (b := m % 2 ^ 7) (by omega) 1
        rw [Nat.or_comm, ← this]
      have hf : (m : Int).fdiv 128 = ((m / 128 : Nat) : Int) := by rw [Int.fdiv_eq_ediv_of_nonneg _ (by omega)]; rfl
      have hw : IntKind.u8.wrap ((128 + m % 128 : Nat) : Int) = ((128 + m % 128 : Nat) : Int) := wrap_u8 (by omega) (by omega)
      have hih := ih (m / 128) (out ++ [((128 + m % 128 : Nat) : Int)]) (by omega) (by omega) (by simp; omega)
      simp only [hb, hw, hf, hc, hd, cond_true, decide_true, true_and, List.length_append, List.length_singleton, unr_l]
      rw [hih]
      simp
theorem bytes_num (m : Nat) (h : m < 18446744073709551616) : m_num_Bytes [(m : Int)] = some (numB m) := by
  have hl := numB_len10 h
  have h1 := bytes_num_l1 [(m : Int)] 1 0 m m [] (Nat.le_refl _) h (by simp; omega)
  have w1 : IntKind.i64.wrap (0 + 1) = 1 := by decide +kernel
  rw [w1] at h1
  unfold m_num_Bytes
  rw [num_Bytes_l2_eq]
  have e1 : m_num_Bytes_l2_step ([(m : Int)], 1, 0) [] = some (.inl (([(m : Int)], 1, 1), numB m)) := by
    unfold m_num_Bytes_l2_step
    simp [h1]
  have e2 : m_num_Bytes_l2_step ([(m : Int)], 1, 1) (numB m) = some (.inr (numB m)) := by
    unfold m_num_Bytes_l2_step
    simp
  simp only [List.length_singleton]
  rw [show ((1 : Nat) : Int) = 1 from rfl, e1, unr_l, num_Bytes_l2_eq, e2]
  rfl
def nums (xs : List Nat) : List Int := (xs.map numB).flatten
theorem tape_put_l1 (xs : List Nat) (hx : ∀ x ∈ xs, x < 9223372036854775808) (hxl : xs.length ≤ 1000) : ∀ (k i : Nat) (out : List Int), k = xs.length - i → i ≤ xs.length → out.length + 10 * k ≤ 140737488355328 →
    m_tape_Bytes_1l_l1 ((xs.map Int.ofNat, (xs.length : Int), (i : Int)), out) = some (out ++ nums (xs.drop i)) := by
  intro k
  induction k with
  | zero =>
    intro i out hk hi hl
    rw [tape_Bytes_1l_l1_eq]
    unfold m_tape_Bytes_1l_l1_step
    have hd : decide ((i : Int) < (xs.length : Int)) = false := by simp; omega
    rw [List.drop_eq_nil_of_le (by omega)]
    simp only [hd, cond_false, decide_true, cond_true, unr_r]
    simp [nums]
  | succ k ih =>
    intro i out hk hi hl
    have hlt : i < xs.length := by omega
    obtain ⟨x, hxi⟩ : ∃ x, xs[i]? = some x := ⟨_, List.getElem?_eq_getElem hlt⟩
    have hd : xs.drop i = x :: xs.drop (i + 1) := by rw [List.drop_eq_getElem_cons hlt]; rw [List.getElem?_eq_getElem hlt] at hxi; cases hxi; rfl
    have hxm := hx x (List.mem_of_getElem? hxi)
    have hn := numB_len10 (n := x) (by omega)
    have hb := bytes_num x (by omega)
    rw [tape_Bytes_1l_l1_eq, hd]
    have hxi' : (xs.map Int.ofNat)[i]? = some (x : Int) := by rw [List.getElem?_map, hxi]; rfl
    have wi : IntKind.i64.wrap ((i : Int) + 1) = (i + 1 : Nat) := by rw [wrap_i64n (by omega) (by omega)]; omega
    have hc : decide ((i : Int) < (xs.length : Int)) = true := by simp; omega
    have hz : decide ((0 : Int) ≤ (i : Int)) = true := by simp
    have hd2 : decide (out.length + (numB x).length ≤ 140737488355328) = true := by simp; omega
    have e1 : m_tape_Bytes_1l_l1_step (xs.map Int.ofNat, (xs.length : Int), (i : Int)) out = some (.inl ((xs.map Int.ofNat, (xs.length : Int), ((i + 1 : Nat) : Int)), out ++ numB x)) := by
      unfold m_tape_Bytes_1l_l1_step
      simp only [hc, hz, cond_true, Int.toNat_natCast, hxi', Option.bind_some, decide_true, wrap_u64 (n := (x : Int)) (by omega) (by omega), hb, wi, true_and, hd2, List.length_append]
    rw [e1, unr_l, ih (i + 1) (out ++ numB x) (by omega) (by omega) (by simp; omega)]
    simp [nums]
theorem tape_put (xs : List Nat) (hx : ∀ x ∈ xs, x < 9223372036854775808) (hxl : xs.length ≤ 1000) (out : List Int) (hl : out.length + 10 * xs.length ≤ 140737488355328) : m_tape_Bytes_1l (xs.map Int.ofNat) out = some (out ++ nums xs) := by
  have := tape_put_l1 xs hx hxl xs.length 0 out rfl (Nat.zero_le _) hl
  unfold m_tape_Bytes_1l
  rw [List.length_map, show ((0 : Int)) = ((0 : Nat) : Int) from rfl, this]
  simp
theorem put1 (x : Nat) (hx : x < 9223372036854775808) (out : List Int) (hl : out.length ≤ 100000000000) : m_tape_Bytes_1l [(x : Int)] out = some (out ++ numB x) := by
  have := tape_put [x] (by simpa using hx) (by simp) out (by simp; omega)
  simpa [nums] using this
theorem put2 (x y : Nat) (hx : x < 9223372036854775808) (hy : y < 9223372036854775808) (out : List Int) (hl : out.length ≤ 100000000000) : m_tape_Bytes_1l [(x : Int), (y : Int)] out = some (out ++ (numB x ++ numB y)) := by
  have := tape_put [x, y] (by simpa using ⟨hx, hy⟩) (by simp) out (by simp; omega)
  simpa [nums] using this
theorem check_ok {e : Ev} (h : okE e) : m_tape_Check e.kind e.b e.n e.rows e.cols = some 0 := by
  obtain ⟨h1, h2, h3, h4, h5, h6, h7, -⟩ := h
  have c1 : decide (e.kind < 1) = false := by simp; omega
  have c2 : decide (5 < e.kind) = false := by simp; omega
  have c3 : decide ((4096 : Int) < (e.b.length : Int)) = false := by simp; omega
  have c4 : decide (0 ≤ e.rows) = true := by simp; omega
  have c5 : decide (e.rows ≤ 1048576) = true := by simp; omega
  have c6 : decide (0 ≤ e.cols) = true := by simp; omega
  have c7 : decide (e.cols ≤ 1048576) = true := by simp; omega
  unfold m_tape_Check m_tape_Check_1
  simp only [c1, c2, c3, c4, c5, c6, c7, cond_false, cond_true, Option.bind_some, Bool.not_true, Bool.not_false]
theorem evB_len {e : Ev} (h : okE e) : (evB e).length ≤ 5000 := by
  obtain ⟨h1, h2, h3, h4, h5, h6, h7, h8, h9⟩ := h
  have n1 := numB_len10 (n := e.b.length) (by omega)
  have n2 := numB_len10 (n := e.rows.toNat) (by omega)
  have n3 := numB_len10 (n := e.cols.toNat) (by omega)
  have n4 := numB_len10 (n := e.n.toNat) (by omega)
  unfold evB
  split
  · simp; omega
  · split
    · simp; omega
    · simp; omega
theorem tape_loop (l : List Ev) (ho : ∀ e ∈ l, okE e) (hl : l.length ≤ 1000000) : ∀ (k i : Nat) (out : List Int), k = l.length - i → i ≤ l.length → out.length + 5000 * k ≤ 10000000000 →
    m_tape_Bytes_l1 ((l.map evT, (l.length : Int), (i : Int)), out) = some (out ++ evsB (l.drop i), 0) := by
  intro k
  induction k with
  | zero =>
    intro i out hk hi hlo
    rw [tape_Bytes_l1_eq]
    unfold m_tape_Bytes_l1_step
    have hd : decide ((i : Int) < (l.length : Int)) = false := by simp; omega
    rw [List.drop_eq_nil_of_le (by omega)]
    simp only [hd, cond_false, decide_true, cond_true, unr_r]
    simp [evsB]
  | succ k ih =>
    intro i out hk hi hlo
    have hlt : i < l.length := by omega
    obtain ⟨e, hei⟩ : ∃ x, l[i]? = some x := ⟨_, List.getElem?_eq_getElem hlt⟩
    have hd : l.drop i = e :: l.drop (i + 1) := by rw [List.drop_eq_getElem_cons hlt]; rw [List.getElem?_eq_getElem hlt] at hei; cases hei; rfl
    have hok := ho e (List.mem_of_getElem? hei)
    have hck := check_ok hok
    have hle := evB_len hok
    obtain ⟨h1, h2, h3, h4, h5, h6, h7, h8, h9⟩ := hok
    rw [tape_Bytes_l1_eq, hd]
    have hxi' : (l.map evT)[i]? = some (evT e) := by rw [List.getElem?_map, hei]; rfl
    have wi : IntKind.i64.wrap ((i : Int) + 1) = (i + 1 : Nat) := by rw [wrap_i64n (by omega) (by omega)]; omega
    have hc : decide ((i : Int) < (l.length : Int)) = true := by simp; omega
    have hz : decide ((0 : Int) ≤ (i : Int)) = true := by simp
    have e1 : m_tape_Bytes_l1_step (l.map evT, (l.length : Int), (i : Int)) out = some (.inl ((l.map evT, (l.length : Int), ((i + 1 : Nat) : Int)), out ++ evB e)) := by
      unfold m_tape_Bytes_l1_step
      simp only [hc, hz, cond_true, Int.toNat_natCast, hxi', Option.bind_some, decide_true]
      obtain ⟨kd, b, n, rows, cols⟩ := e
      simp only [evT] at h1 h2 h3 h4 h5 h6 h7 h8 h9 hck ⊢
      obtain ⟨kn, rfl⟩ : ∃ kn : Nat, kd = kn := ⟨kd.toNat, by omega⟩
      obtain ⟨nn, rfl⟩ : ∃ kn : Nat, n = kn := ⟨n.toNat, by omega⟩
      obtain ⟨rn, rfl⟩ : ∃ kn : Nat, rows = kn := ⟨rows.toNat, by omega⟩
      obtain ⟨cn, rfl⟩ : ∃ kn : Nat, cols = kn := ⟨cols.toNat, by omega⟩
      have hk0 := numB_len10 (n := kn) (by omega)
      have hb0 := numB_len10 (n := b.length) (by omega)
      have hn0 := numB_len10 (n := nn) (by omega)
      have hkn : numB kn = [(kn : Int)] := by rw [numB, if_pos (by omega)]
      have p1 := put1 kn (by omega) out (by omega)
      have p2 := put1 b.length (by omega) (out ++ numB kn) (by simp; omega)
      have p3 := put2 rn cn (by omega) (by omega) (out ++ numB kn) (by simp; omega)
      have p4 := bytes_num nn (by omega)
      rw [hkn] at p1 p2 p3
      simp only [hck, Option.bind_some, bne_self_eq_false, cond_false, p1]
      have d1 : decide ((out ++ [(kn : Int)] ++ numB b.length).length + b.length ≤ 140737488355328) = true := by simp; omega
      have d2 : decide ((out ++ [(kn : Int)]).length + (numB nn).length ≤ 140737488355328) = true := by simp; omega
      have d0 : (out ++ [(kn : Int)] ++ numB b.length ++ b).length = (out ++ [(kn : Int)] ++ numB b.length).length + b.length := List.length_append
      have d3 : (out ++ [(kn : Int)] ++ numB nn).length = (out ++ [(kn : Int)]).length + (numB nn).length := List.length_append
      have f3 : ∀ m : Nat, kn ≠ m → ((kn : Int) == (m : Int)) = false := fun m h => beq_eq_false_iff_ne.2 (by omega)
      have t3 : ∀ m : Nat, kn = m → ((kn : Int) == (m : Int)) = true := fun m h => beq_iff_eq.2 (by omega)
      by_cases k1 : kn = 1
      · have q1 : ((kn : Int) == 1) = true := t3 1 k1
        simp only [q1, cond_true, Option.bind_some, p2, decide_true, true_and, d1, d0, wi]
        simp only [evB]
        rw [if_pos (by omega)]
        simp
      · have q1 : ((kn : Int) == 1) = false := f3 1 k1
        by_cases k2 : kn = 2
        · have q2 : ((kn : Int) == 2) = true := t3 2 k2
          simp only [q1, q2, cond_true, cond_false, Option.bind_some, p2, decide_true, true_and, d1, d0, wi]
          simp only [evB]
          rw [if_pos (by omega)]
          simp
        · have q2 : ((kn : Int) == 2) = false := f3 2 k2
          by_cases k4 : kn = 4
          · have q4 : ((kn : Int) == 4) = true := t3 4 k4
            simp only [q1, q2, q4, cond_true, cond_false, Option.bind_some, p3, decide_true, wi]
            simp only [evB]
            rw [if_neg (by omega), if_pos (by omega)]
            simp
          · have q4 : ((kn : Int) == 4) = false := f3 4 k4
            simp only [q1, q2, q4, cond_true, cond_false, Option.bind_some, p4, decide_true, true_and, d2, d3, wi]
            simp only [evB]
            rw [if_neg (by omega), if_neg (by omega)]
            simp
    rw [e1, unr_l, ih (i + 1) (out ++ evB e) (by omega) (by omega) (by simp; omega)]
    simp [evsB]
end Go.Sim
/- Models of functions, printed by program (tm.py). -/
set_option maxRecDepth 100000
set_option maxHeartbeats 0
set_option linter.unusedVariables false
namespace Go.Sim
open Go.Proofs
/-! prolepsislaw34.TapeParses -/
noncomputable def m_TapeParses (x0 : (List Int)) : Option Bool :=
  bif decide (((0 : Int) ≤ if (400 : Int) < (↑x0.length : Int) then (400 : Int) else (↑x0.length : Int)) ∧ (if (400 : Int) < (↑x0.length : Int) then (400 : Int) else (↑x0.length : Int)).toNat ≤ x0.length) then
    Option.bind (m_tape_Parse (List.take (if (400 : Int) < (↑x0.length : Int) then (400 : Int) else (↑x0.length : Int)).toNat x0)) fun (x1 : (Int × (Int × ((List (Int × ((List Int) × (Int × (Int × Int))))) × Int)))) =>
      Option.bind (m_r34_Parse (List.take (if (400 : Int) < (↑x0.length : Int) then (400 : Int) else (↑x0.length : Int)).toNat x0)) fun (x2 : (Int × (Int × ((List (Int × ((List Int) × (Int × (Int × Int))))) × Int)))) =>
        bif x1.2.2.2 != x2.2.2.2 then
          some Bool.false
        else bif x1.1 != x2.1 then
            some Bool.false
          else bif x1.2.1 != x2.2.1 then
              some Bool.false
            else Option.bind (m_L34_ofs x1.2.2.1) fun (x3 : (List (Int × ((List Int) × (Int × (Int × Int)))))) =>
                Option.bind (m_r34_Same x3 x2.2.2.1) fun (x4 : Bool) =>
                  bif !x4 then
                    some Bool.false
                  else bif x1.2.2.2 != (0 : Int) then
                      Option.bind (m_L34_known) fun (x5 : Bool) =>
                        some x5
                    else Option.bind (m_tape_Bytes x1.1 x1.2.1 x1.2.2.1) fun (x5 : ((List Int) × Int)) =>
                        Option.bind (m_L34_known) fun (x6 : Bool) =>
                          bif x6 then
                            bif x5.2 == (0 : Int) then
                              Option.bind (m_r01_Same x5.1 (List.take (if (400 : Int) < (↑x0.length : Int) then (400 : Int) else (↑x0.length : Int)).toNat x0)) fun (x7 : Bool) =>
                                some x7
                            else some Bool.false
                          else some Bool.false
  else none
noncomputable def e_TapeParses : TEnt := ⟨7, .sl (.int .u8), [], [(.bool, [])], fun s => m_TapeParses s⟩
theorem e_TapeParses_ok : EntT Try.prog e_TapeParses := ent_of (tab := [e_r01_Same, e_tape_Parse, e_tape_Bytes, e_r34_Parse, e_r34_Same, e_L34_ofs, e_L34_known]) (loops := []) (joins := []) _ (by
    intro e he
    simp only [List.mem_cons, List.not_mem_nil, or_false] at he
    rcases he with rfl | rfl | rfl | rfl | rfl | rfl | rfl
    · exact e_r01_Same_ok
    · exact e_tape_Parse_ok
    · exact e_tape_Bytes_ok
    · exact e_r34_Parse_ok
    · exact e_r34_Same_ok
    · exact e_L34_ofs_ok
    · exact e_L34_known_ok) (fun s => by kernel_rfl) (by kernel_rfl)
/-! prolepsislaw34.TapeJoins -/
noncomputable def m_TapeJoins (x0 : Int) (x1 : Int) (x2 : (List (Int × ((List Int) × (Int × (Int × Int)))))) (x3 : (List (Int × ((List Int) × (Int × (Int × Int)))))) : Option Bool :=
  Option.bind (m_L34_cut x2) fun (x4 : (List (Int × ((List Int) × (Int × (Int × Int)))))) =>
    Option.bind (m_L34_cut x3) fun (x5 : (List (Int × ((List Int) × (Int × (Int × Int)))))) =>
      Option.bind (m_tape_Bytes x0 x1 x4) fun (x6 : ((List Int) × Int)) =>
        Option.bind (m_tape_Bytes x0 x1 x5) fun (x7 : ((List Int) × Int)) =>
          Option.bind (m_tape_Bytes x0 x1 []) fun (x8 : ((List Int) × Int)) =>
            Option.bind (
              bif x6.2 != (0 : Int) then
                some (Sum.inl (x0, (x1, (x4, (x5, (x6.1, (x6.2, (x7.1, (x7.2, (x8.1, Bool.true))))))))))
              else bif x7.2 != (0 : Int) then
                  some (Sum.inl (x0, (x1, (x4, (x5, (x6.1, (x6.2, (x7.1, (x7.2, (x8.1, Bool.true))))))))))
                else some (Sum.inl (x0, (x1, (x4, (x5, (x6.1, (x6.2, (x7.1, (x7.2, (x8.1, (x8.2 != (0 : Int))))))))))))) fun (x9 : ((Int × (Int × ((List (Int × ((List Int) × (Int × (Int × Int))))) × ((List (Int × ((List Int) × (Int × (Int × Int))))) × ((List Int) × (Int × ((List Int) × (Int × ((List Int) × Bool))))))))) ⊕ Bool)) =>
              match x9 with
              | Sum.inl x10 =>
                  bif x10.2.2.2.2.2.2.2.2.2 then
                    Option.bind (m_L34_known) fun (x11 : Bool) =>
                      bif x11 then
                        bif x10.2.2.2.2.2.1 != (0 : Int) then
                          some Bool.true
                        else some (x10.2.2.2.2.2.2.2.1 != (0 : Int))
                      else some Bool.false
                  else bif decide ((↑x10.2.2.2.2.2.2.1.length : Int) < (↑x10.2.2.2.2.2.2.2.2.1.length : Int)) then
                      some Bool.false
                    else bif decide ((0 : Int) ≤ (↑x10.2.2.2.2.2.2.2.2.1.length : Int) ∧ (↑x10.2.2.2.2.2.2.2.2.1.length : Int).toNat ≤ x10.2.2.2.2.2.2.1.length) then
                        bif decide ((0 : Nat) = (0 : Nat) ∧ (0 : Nat) + x10.2.2.2.2.1.length ≤ (140737488355328 : Nat)) then
                          none
                        else none
                      else none
              | Sum.inr x10 =>
                  some x10
noncomputable def e_TapeJoins : TEnt := ⟨8, .cons (.int .i64) (.cons (.int .i64) (.cons (.sl (.pair (.int .i64) (.pair (.sl (.int .u8)) (.pair (.int .u64) (.pair (.int .i64) (.int .i64)))))) (.sl (.pair (.int .i64) (.pair (.sl (.int .u8)) (.pair (.int .u64) (.pair (.int .i64) (.int .i64)))))))), [], [(.bool, [])], fun s => m_TapeJoins s.1 s.2.1 s.2.2.1 s.2.2.2⟩
theorem e_TapeJoins_ok : EntT Try.prog e_TapeJoins := ent_of (tab := [e_r01_Same, e_tape_Parse, e_tape_Bytes, e_L34_cut, e_L34_known]) (loops := []) (joins := [(37449, [0, 1, 2, 3, 9, 10, 11, 12, 13, 55], (.cons (.int .i64) (.cons (.int .i64) (.cons (.sl (.pair (.int .i64) (.pair (.sl (.int .u8)) (.pair (.int .u64) (.pair (.int .i64) (.int .i64)))))) (.cons (.sl (.pair (.int .i64) (.pair (.sl (.int .u8)) (.pair (.int .u64) (.pair (.int .i64) (.int .i64)))))) (.cons (.sl (.int .u8)) (.cons (.int .i64) (.cons (.sl (.int .u8)) (.cons (.int .i64) (.cons (.sl (.int .u8)) .bool))))))))), [])]) _ (by
    intro e he
    simp only [List.mem_cons, List.not_mem_nil, or_false] at he
    rcases he with rfl | rfl | rfl | rfl | rfl
    · exact e_r01_Same_ok
    · exact e_tape_Parse_ok
    · exact e_tape_Bytes_ok
    · exact e_L34_cut_ok
    · exact e_L34_known_ok) (fun s => by kernel_rfl) (by kernel_rfl)
/-! prolepsislaw34.TapeTells -/
noncomputable def m_TapeTells_l1_step (x6 : (Int × (Int × ((List (Int × ((List Int) × (Int × (Int × Int))))) × ((List (Int × ((List Int) × (Int × (Int × Int))))) × Int))))) (x7 : (List (Int × ((List Int) × (Int × (Int × Int)))))) : Option (((Int × (Int × ((List (Int × ((List Int) × (Int × (Int × Int))))) × ((List (Int × ((List Int) × (Int × (Int × Int))))) × Int)))) × (List (Int × ((List Int) × (Int × (Int × Int)))))) ⊕ Bool) :=
  bif decide (x6.2.2.2.2 < (↑x6.2.2.1.length : Int)) then
    bif decide ((0 : Int) ≤ x6.2.2.2.2) then
      Option.bind (x6.2.2.1[x6.2.2.2.2.toNat]?) fun (x8 : (Int × ((List Int) × (Int × (Int × Int))))) =>
        bif decide ((0 : Int) ≤ x6.2.2.2.2) then
          Option.bind (x6.2.2.1[x6.2.2.2.2.toNat]?) fun (x9 : (Int × ((List Int) × (Int × (Int × Int))))) =>
            Option.bind (m_tape_Check x8.1 x8.2.1 x8.2.2.1 x8.2.2.2.1 x8.2.2.2.2) fun (x10 : Int) =>
              bif decide (x9.1 = x9.1) then
                none
              else none
        else none
    else none
  else Option.bind (m_tape_Bytes x6.1 x6.2.1 x6.2.2.1) fun (x8 : ((List Int) × Int)) =>
      Option.bind (m_L34_ofs x6.2.2.1) fun (x9 : (List (Int × ((List Int) × (Int × (Int × Int)))))) =>
        Option.bind (m_r34_Bytes x6.1 x6.2.1 x9) fun (x10 : ((List Int) × Int)) =>
          bif x8.2 != x10.2 then
            some (Sum.inr Bool.false)
          else Option.bind (m_r01_Same x8.1 x10.1) fun (x11 : Bool) =>
              bif !x11 then
                some (Sum.inr Bool.false)
              else Option.bind (m_tape_Same x6.2.2.1 x6.2.2.2.1) fun (x12 : Bool) =>
                  Option.bind (m_L34_ofs x6.2.2.1) fun (x13 : (List (Int × ((List Int) × (Int × (Int × Int)))))) =>
                    Option.bind (m_L34_ofs x6.2.2.2.1) fun (x14 : (List (Int × ((List Int) × (Int × (Int × Int)))))) =>
                      Option.bind (m_r34_Same x13 x14) fun (x15 : Bool) =>
                        bif !x12 == x15 then
                          some (Sum.inr Bool.false)
                        else bif x10.2 != (0 : Int) then
                            Option.bind (m_L34_known) fun (x16 : Bool) =>
                              some (Sum.inr x16)
                          else Option.bind (m_tape_Parse x8.1) fun (x16 : (Int × (Int × ((List (Int × ((List Int) × (Int × (Int × Int))))) × Int)))) =>
                              Option.bind (m_L34_known) fun (x17 : Bool) =>
                                bif x17 then
                                  bif x16.2.2.2 == (0 : Int) then
                                    bif x16.1 == x6.1 then
                                      bif x16.2.1 == x6.2.1 then
                                        bif decide (x7.length = x7.length) then
                                          Option.bind (m_tape_Same x16.2.2.1 x7) fun (x18 : Bool) =>
                                            some (Sum.inr x18)
                                        else none
                                      else some (Sum.inr Bool.false)
                                    else some (Sum.inr Bool.false)
                                  else some (Sum.inr Bool.false)
                                else some (Sum.inr Bool.false)
noncomputable def m_TapeTells_l1 : ((Int × (Int × ((List (Int × ((List Int) × (Int × (Int × Int))))) × ((List (Int × ((List Int) × (Int × (Int × Int))))) × Int)))) × (List (Int × ((List Int) × (Int × (Int × Int)))))) → Option Bool := loopM fun s => m_TapeTells_l1_step s.1 s.2
noncomputable def m_TapeTells (x0 : Int) (x1 : Int) (x2 : (List (Int × ((List Int) × (Int × (Int × Int)))))) (x3 : (List (Int × ((List Int) × (Int × (Int × Int)))))) : Option Bool :=
  Option.bind (m_L34_cut x2) fun (x4 : (List (Int × ((List Int) × (Int × (Int × Int)))))) =>
    Option.bind (m_L34_cut x3) fun (x5 : (List (Int × ((List Int) × (Int × (Int × Int)))))) =>
      Option.bind (m_TapeTells_l1 ((x0, (x1, (x4, (x5, ((0 : Int)))))), [])) fun (x6 : Bool) =>
        some x6
noncomputable def e_TapeTells : TEnt := ⟨9, .cons (.int .i64) (.cons (.int .i64) (.cons (.sl (.pair (.int .i64) (.pair (.sl (.int .u8)) (.pair (.int .u64) (.pair (.int .i64) (.int .i64)))))) (.sl (.pair (.int .i64) (.pair (.sl (.int .u8)) (.pair (.int .u64) (.pair (.int .i64) (.int .i64)))))))), [], [(.bool, [])], fun s => m_TapeTells s.1 s.2.1 s.2.2.1 s.2.2.2⟩
theorem e_TapeTells_ok : EntT Try.prog e_TapeTells := ent_of (tab := [e_r01_Same, e_tape_Parse, e_tape_Check, e_tape_Plain, e_tape_Bytes, e_tape_Same, e_r34_Check, e_r34_Plain, e_r34_Bytes, e_r34_Same, e_L29_Of, e_L34_ofs, e_L34_cut, e_L34_known]) (loops := [(37450, [0, 1, 2, 3, 9, 10], (.cons (.int .i64) (.cons (.int .i64) (.cons (.sl (.pair (.int .i64) (.pair (.sl (.int .u8)) (.pair (.int .u64) (.pair (.int .i64) (.int .i64)))))) (.cons (.sl (.pair (.int .i64) (.pair (.sl (.int .u8)) (.pair (.int .u64) (.pair (.int .i64) (.int .i64)))))) (.cons (.own 0) (.int .i64)))))), [.li (.pair (.int .i64) (.pair (.sl (.int .u8)) (.pair (.int .u64) (.pair (.int .i64) (.int .i64))))) 64 false])]) (joins := []) _ (by
    intro e he
    simp only [List.mem_cons, List.not_mem_nil, or_false] at he
    rcases he with rfl | rfl | rfl | rfl | rfl | rfl | rfl | rfl | rfl | rfl | rfl | rfl | rfl | rfl
    · exact e_r01_Same_ok
    · exact e_tape_Parse_ok
    · exact e_tape_Check_ok
    · exact e_tape_Plain_ok
    · exact e_tape_Bytes_ok
    · exact e_tape_Same_ok
    · exact e_r34_Check_ok
    · exact e_r34_Plain_ok
    · exact e_r34_Bytes_ok
    · exact e_r34_Same_ok
    · exact e_L29_Of_ok
    · exact e_L34_ofs_ok
    · exact e_L34_cut_ok
    · exact e_L34_known_ok) (fun s => by kernel_rfl) (by kernel_rfl)
end Go.Sim
/- Chapter 34: the law on parsing, in plain Lean. -/
set_option maxRecDepth 100000
set_option maxHeartbeats 4000000
set_option linter.unusedVariables false
namespace Go.Sim
theorem side_ok {x : Nat} (h1 : 1 ≤ x) (h2 : x ≤ 512) : m_tape_side x = some true := by
  unfold m_tape_side
  have c1 : decide ((1 : Int) ≤ (x : Int)) = true := by simp; omega
  have c2 : decide ((x : Int) ≤ 512) = true := by simp; omega
  simp only [c1, c2, cond_true]
theorem tape_bytes (r c : Nat) (hr : 1 ≤ r) (hr2 : r ≤ 512) (hc : 1 ≤ c) (hc2 : c ≤ 512) (l : List Ev) (ho : ∀ e ∈ l, okE e) (hl : l.length ≤ 1000000) : m_tape_Bytes r c (l.map evT) = some (headB r c ++ evsB l, 0) := by
  unfold m_tape_Bytes
  have n1 := numB_len10 (n := r) (by omega)
  have n2 := numB_len10 (n := c) (by omega)
  have hp := put2 r c (by omega) (by omega) [84] (by simp)
  have ht := tape_loop l ho hl l.length 0 ([84] ++ (numB r ++ numB c)) rfl (Nat.zero_le _) (by simp; omega)
  rw [List.drop_zero, show ((0 : Nat) : Int) = 0 from rfl] at ht
  simp only [side_ok hr hr2, side_ok hc hc2, Option.bind_some, Bool.not_true, cond_false, decide_true, cond_true, hp, List.length_map, ht]
  simp [headB]
theorem known_true : m_L34_known = some true := by
  have h := tape_bytes 1 5 (by decide) (by decide) (by decide) (by decide) [⟨1, [97], 0, 0, 0⟩, ⟨3, [], 300, 0, 0⟩] (by
    intro e he
    simp only [List.mem_cons, List.not_mem_nil, or_false] at he
    rcases he with rfl | rfl <;> simp [okE]) (by decide)
  have hb : headB 1 5 ++ evsB [⟨1, [97], 0, 0, 0⟩, ⟨3, [], 300, 0, 0⟩] = [84, 1, 5, 1, 1, 97, 3, 172, 2] := by
    simp [headB, evsB, evB, numB]
  have h' : m_tape_Bytes 1 5 [((1 : Int), [(97 : Int)], (0 : Int), (0 : Int), (0 : Int)), ((3 : Int), [], (300 : Int), (0 : Int), (0 : Int))] = some ([84, 1, 5, 1, 1, 97, 3, 172, 2], 0) := by
    rw [← hb]; exact h
  unfold m_L34_known
  rw [h']
  simp [m_r01_Same]
theorem L34_ofs_l1_eq (a b) : m_L34_ofs_l1 (a, b) = unr (m_L34_ofs_l1_step a b) m_L34_ofs_l1 := loopM_unr _ _
theorem ofs_loop (l : List E5) (hl : l.length ≤ 1000000) : ∀ (k i : Nat), k = l.length - i → i ≤ l.length → m_L34_ofs_l1 ((l, (i : Int)), l.take i) = some l := by
  intro k
  induction k with
  | zero =>
    intro i hk hi
    rw [L34_ofs_l1_eq]
    unfold m_L34_ofs_l1_step
    have hd : decide ((i : Int) < (l.length : Int)) = false := by simp; omega
    rw [List.take_of_length_le (by omega)]
    simp only [hd, cond_false, decide_true, cond_true, unr_r]
  | succ k ih =>
    intro i hk hi
    have hlt : i < l.length := by omega
    obtain ⟨x, hxi⟩ : ∃ x, l[i]? = some x := ⟨_, List.getElem?_eq_getElem hlt⟩
    have wi : IntKind.i64.wrap ((i : Int) + 1) = (i + 1 : Nat) := by rw [wrap_i64n (by omega) (by omega)]; omega
    have hc : decide ((i : Int) < (l.length : Int)) = true := by simp; omega
    have hz : decide ((0 : Int) ≤ (i : Int)) = true := by simp
    have ht : l.take (i + 1) = l.take i ++ [x] := by rw [List.take_add_one, hxi]; rfl
    have hlen : (l.take i).length = i := by simp; omega
    have hd : decide (i + 1 ≤ 2513169434916) = true := by simp; omega
    rw [L34_ofs_l1_eq]
    have e1 : m_L34_ofs_l1_step (l, (i : Int)) (l.take i) = some (.inl ((l, ((i + 1 : Nat) : Int)), l.take (i + 1))) := by
      unfold m_L34_ofs_l1_step
      simp only [hc, hz, cond_true, Int.toNat_natCast, hxi, Option.bind_some, m_L29_Of, decide_true, true_and, wi, hlen, hd, List.length_append, List.length_singleton, ht]
    rw [e1, unr_l]
    exact ih (i + 1) (by omega) (by omega)
theorem ofs_id (l : List E5) (hl : l.length ≤ 1000000) : m_L34_ofs l = some l := by
  have := ofs_loop l hl _ 0 rfl (Nat.zero_le _)
  unfold m_L34_ofs
  rw [show (((l, (0 : Int)), ([] : List E5)) : (List E5 × Int) × List E5) = ((l, ((0 : Nat) : Int)), l.take 0) from rfl, this]
  rfl
theorem r34_Same_l1_eq (a b c) : m_r34_Same_l1 (a, b, c) = unr (m_r34_Same_l1_step a b c) m_r34_Same_l1 := loopM_unr _ _
theorem same_loop (l : List E5) (hl : l.length ≤ 1000000) : ∀ (k i : Nat), k = l.length - i → i ≤ l.length → m_r34_Same_l1 (l, l, (i : Int)) = some true := by
  intro k
  induction k with
  | zero =>
    intro i hk hi
    rw [r34_Same_l1_eq]
    unfold m_r34_Same_l1_step
    have hd : decide ((i : Int) < (l.length : Int)) = false := by simp; omega
    simp only [hd, cond_false, unr_r]
  | succ k ih =>
    intro i hk hi
    have hlt : i < l.length := by omega
    obtain ⟨x, hxi⟩ : ∃ x, l[i]? = some x := ⟨_, List.getElem?_eq_getElem hlt⟩
    have wi : IntKind.i64.wrap ((i : Int) + 1) = (i + 1 : Nat) := by rw [wrap_i64n (by omega) (by omega)]; omega
    have hc : decide ((i : Int) < (l.length : Int)) = true := by simp; omega
    have hz : decide ((0 : Int) ≤ (i : Int)) = true := by simp
    rw [r34_Same_l1_eq]
    have e1 : m_r34_Same_l1_step l l (i : Int) = some (.inl (l, l, ((i + 1 : Nat) : Int))) := by
      unfold m_r34_Same_l1_step
      simp only [hc, hz, cond_true, Int.toNat_natCast, hxi, Option.bind_some, wi, bne_self_eq_false, cond_false, beq_self_eq_true, Bool.not_true]
    rw [e1, unr_l]
    exact ih (i + 1) (by omega) (by omega)
theorem same_self (l : List E5) (hl : l.length ≤ 1000000) : m_r34_Same l l = some true := by
  unfold m_r34_Same
  rw [show ((0 : Int)) = ((0 : Nat) : Int) from rfl, same_loop l hl _ 0 rfl (Nat.zero_le _)]
  simp
theorem parseP_short {bs : List Int} (hB : ∀ c ∈ bs, Byt c) : (parseP bs).2.2.1.length ≤ bs.length := by
  by_cases h : (parseP bs).2.2.2 = 0
  · exact (parseP_bytes hB h).2.2.2.2.2.2
  · unfold parseP at h ⊢
    split at h
    · simp [*]
    · rename_i h1
      rw [if_neg h1]
      simp only at h ⊢
      generalize evsP bs _ _ [] = r at h ⊢
      by_cases hr : r.1 = 0
      · rw [if_neg (by simp [hr])] at h
        exact absurd rfl h
      · rw [if_pos hr]; simp
theorem parses_plain (x : List Int) (hB : ∀ c ∈ x, Byt c) : m_TapeParses x = some true := by
  unfold m_TapeParses
  obtain ⟨bs, hbs⟩ : ∃ bs, bs = List.take (if (400 : Int) < (x.length : Int) then (400 : Int) else (x.length : Int)).toNat x := ⟨_, rfl⟩
  have hBs : ∀ c ∈ bs, Byt c := fun c h => hB c (by rw [hbs] at h; exact List.mem_of_mem_take h)
  have hg : decide (((0 : Int) ≤ if (400 : Int) < (x.length : Int) then (400 : Int) else (x.length : Int)) ∧ (if (400 : Int) < (x.length : Int) then (400 : Int) else (x.length : Int)).toNat ≤ x.length) = true := by
    refine decide_eq_true ⟨?_, ?_⟩ <;> split <;> omega
  have hl : bs.length ≤ 400 := by
    rw [hbs, List.length_take]
    split <;> omega
  rw [hg, cond_true, ← hbs]
  have hs := parseP_short hBs
  have hp := @parseP_bytes bs hBs
  simp only [parse_num hBs (by omega), parse_ref hBs (by omega), Option.bind_some, bne_self_eq_false, cond_false, outP, out4]
  rw [ofs_id _ (by simp; omega)]
  simp only [Option.bind_some]
  rw [same_self _ (by simp; omega)]
  simp only [Option.bind_some, Bool.not_true, cond_false, known_true]
  by_cases h : (parseP bs).2.2.2 = 0
  · obtain ⟨h1, h2, h3, h4, h5, h6, h7⟩ := hp h
    have hz : (((parseP bs).2.2.2 : Int) != 0) = false := by rw [h]; rfl
    rw [hz, cond_false, tape_bytes _ _ h3 h4 h5 h6 _ h2 (by omega), h1]
    simp [m_r01_Same]
  · have hz : (((parseP bs).2.2.2 : Int) != 0) = true := bne_iff_ne.2 (by omega)
    rw [hz, cond_true]
end Go.Sim
/- What a law's arguments are, read as data: lifted into an abstract heap that is only read. -/
namespace Go.Sim
open Go.RowKit

/-! ### Types of plain data -/
def plainF (P : Program) (pt : TypeId → Bool) : List Field → Nat → Nat → Bool
  | [], off, n => decide (off = n)
  | f :: fs, off, n => decide (f.offset = off) && pt f.type && plainF P pt fs (off + P.cellsOf f.type) n
def plainT (P : Program) : Nat → TypeId → Bool
  | 0, _ => false
  | d + 1, t => match P.underlying t with
    | some .bool => true
    | some (.int _) => true
    | some .string => true
    | some (.slice e) => plainT P d e && decide (0 < P.cellsOf e)
    | some (.struct fs) => plainF P (plainT P d) fs.toList 0 (P.cellsOf t)
    | some (.array n e) => plainT P d e && decide (n * P.cellsOf e = P.cellsOf t)
    | _ => false

/-- Abstract cells that read as a value of a type. -/
def RV (P : Program) (h : Heap) : Nat → TypeId → List Value → Prop
  | 0, _, _ => False
  | d + 1, t, cs => match P.underlying t with
    | some .bool => ∃ b, cs = [.bool b]
    | some (.int k) => ∃ x, cs = [.int k x] ∧ (Lit.int k x).wf = true
    | some .string => ∃ s : ByteArray, cs = [.string s] ∧ s.size ≤ maxLen
    | some (.slice e) => cs = [.slice none 0 0] ∨ cs = [.slice (some ⟨0, 0, none⟩) 0 dud] ∨ ∃ (b : Nat) (rows : List (List Value)), cs = [.slice (some ⟨b, 0, none⟩) rows.length noapp] ∧ rows ≠ [] ∧ rows.length ≤ maxLen ∧
        h.get b = some (.cells rows.flatten e false) ∧ ∀ r ∈ rows, r.length = P.cellsOf e ∧ RV P h d e r
    | some (.struct fs) => cs.length = P.cellsOf t ∧ ∀ f ∈ fs.toList, RV P h d f.type ((cs.drop f.offset).take (P.cellsOf f.type))
    | some (.array n e) => cs.length = P.cellsOf t ∧ ∀ i, i < n → RV P h d e ((cs.drop (i * P.cellsOf e)).take (P.cellsOf e))
    | _ => False

theorem RV.ext {P : Program} {h h' : Heap} (hx : Ext h h') : ∀ {d : Nat} {t : TypeId} {cs : List Value}, RV P h d t cs → RV P h' d t cs
  | 0, _, _, q => q
  | d + 1, t, cs, q => by
    unfold RV at q ⊢
    split at q
    · exact q
    · exact q
    · exact q
    · rcases q with q | q | ⟨b, rows, h1, h0, h2, h3, h4⟩
      · exact .inl q
      · exact .inr (.inl q)
      · exact .inr (.inr ⟨b, rows, h1, h0, h2, (hx.get b (h.wf _ _ h3)).trans h3, fun r hr => ⟨(h4 r hr).1, (h4 r hr).2.ext hx⟩⟩)
    · exact ⟨q.1, fun f hf => (q.2 f hf).ext hx⟩
    · exact ⟨q.1, fun i hi => (q.2 i hi).ext hx⟩
    · exact q

/-- More fuel does no harm. -/
theorem RV.succ {P : Program} {h : Heap} : ∀ {d : Nat} {t : TypeId} {cs : List Value}, RV P h d t cs → RV P h (d + 1) t cs
  | 0, _, _, q => q.elim
  | d + 1, t, cs, q => by
    unfold RV at q ⊢
    split at q
    · exact q
    · exact q
    · exact q
    · rcases q with q | q | ⟨b, rows, h1, h0, h2, h3, h4⟩
      · exact .inl q
      · exact .inr (.inl q)
      · exact .inr (.inr ⟨b, rows, h1, h0, h2, h3, fun r hr => ⟨(h4 r hr).1, (h4 r hr).2.succ⟩⟩)
    · exact ⟨q.1, fun f hf => (q.2 f hf).succ⟩
    · exact ⟨q.1, fun i hi => (q.2 i hi).succ⟩
    · exact q.elim

/-- Nothing may be written. -/
def RO (h : Heap) : Prop := ∀ b o, h.get b = some o → o.rw = false

/-- How the abstract state goes on while the machine's stays. -/
structure Lift (P : Program) (w : World) (β : Place) (h : Heap) (β' : Place) (h' : Heap) : Prop where
  rel : Rel P β' h' w
  ro : RO h'
  place : ∀ b x, β b = some x → β' b = some x
  ext : Ext h h'
theorem Lift.refl {P : Program} {w : World} {β : Place} {h : Heap} (hr : Rel P β h w) (ho : RO h) : Lift P w β h β h := ⟨hr, ho, fun _ _ e => e, Ext.refl h⟩
theorem Lift.trans {P : Program} {w : World} {β β1 β2 : Place} {h h1 h2 : Heap} (x : Lift P w β h β1 h1) (y : Lift P w β1 h1 β2 h2) : Lift P w β h β2 h2 :=
  ⟨y.rel, y.ro, fun b q e => y.place _ _ (x.place _ _ e), x.ext.trans y.ext⟩

theorem Lift.push {P : Program} {w : World} {β : Place} {h : Heap} (hr : Rel P β h w) (ho : RO h) {m off : Nat} {mc : Array Value} {te e : TypeId} {fr : Nat × Nat} {cs : List Value}
    (hm : w.heap[m]? = some (.cells mc te fr)) (hle : off + cs.length ≤ mc.size) (hv : VRels β cs ((mc.toList.drop off).take cs.length)) :
    Lift P w β h (β.add h.next m ⟨off, 0, 0⟩) (h.push (.cells cs e false)) := by
  have hn := hr.noNext
  have hmono := Place.add_mono m ⟨off, 0, 0⟩ hn
  have hmw : m < w.heap.size := (Array.getElem?_eq_some_iff.1 hm).1
  have old : ∀ b, b ≠ h.next → (h.push (.cells cs e false)).get b = h.get b := fun b hb => Heap.get_push_ne _ _ hb
  refine ⟨⟨fun b m1 s1 q => ?_, fun b m1 s1 o q g => ?_, fun b b' m1 s1 s2 o o' q q' g g' hrw => ?_⟩, fun b o g => ?_, hmono, (Ext.refl h).push _⟩
  · by_cases hb : b = h.next
    · subst hb; rw [Place.add_same] at q; cases q; exact ⟨by simp, hmw⟩
    · rw [Place.add_ne _ _ _ hb] at q
      obtain ⟨h1, h2⟩ := hr.dom b m1 s1 q
      exact ⟨by simp; omega, h2⟩
  · by_cases hb : b = h.next
    · subst hb
      rw [Place.add_same] at q
      cases q
      rw [Heap.get_push_self] at g
      cases g
      exact ⟨mc, fr, te, hm, hle, hv.mono hmono, fun e => by cases e⟩
    · rw [Place.add_ne _ _ _ hb] at q
      rw [old b hb] at g
      exact (hr.obj b m1 s1 o q g).mono hmono rfl
  · exfalso
    by_cases hb : b = h.next
    · subst hb; rw [Heap.get_push_self] at g; cases g; cases hrw
    · rw [old b hb] at g; rw [ho b o g] at hrw; cases hrw
  · by_cases hb : b = h.next
    · subst hb; rw [Heap.get_push_self] at g; cases g; rfl
    · rw [old b hb] at g; exact ho b o g

section
variable {H : Type} {enc : TypeId × Value → H} {P : Program} {w : World}

/-- A list of readings, each lifted. -/
theorem lift_list (d : Nat) (t : TypeId) (step : ∀ (n : Nat) (cs : List Value) (x : DataW H × List MemPlace), DataW.trod enc P w 0 (fun _ => true) true n t cs = some x → ∀ β h, Rel P β h w → RO h →
      ∃ β' h' acs, Lift P w β h β' h' ∧ VRels β' acs cs ∧ RV P h' d t acs) :
    ∀ (ls : List (List Value)), (∀ l ∈ ls, ∃ n x, DataW.trod enc P w 0 (fun _ => true) true n t l = some x) → ∀ β h, Rel P β h w → RO h →
      ∃ (β' : Place) (h' : Heap) (als : List (List Value)), Lift P w β h β' h' ∧ VRels β' als.flatten ls.flatten ∧ als.length = ls.length ∧ (∀ (i : Nat) (a : List Value), als[i]? = some a → ∃ l : List Value, ls[i]? = some l ∧ a.length = l.length ∧ RV P h' d t a)
  | [], _, β, h, hr, ho => ⟨β, h, [], Lift.refl hr ho, .nil, rfl, fun i a e => by simp at e⟩
  | l :: ls, hl, β, h, hr, ho => by
    obtain ⟨n, x, e⟩ := hl l (by simp)
    obtain ⟨β1, h1, acs, L1, v1, r1⟩ := step n l x e β h hr ho
    obtain ⟨β2, h2, als, L2, v2, hlen, r2⟩ := lift_list d t step ls (fun l' h' => hl l' (by simp [h'])) β1 h1 L1.rel L1.ro
    refine ⟨β2, h2, acs :: als, L1.trans L2, ?_, by simp [hlen], fun i a e => ?_⟩
    · simp only [List.flatten_cons]
      exact (v1.mono L2.place).append v2
    · cases i with
      | zero => simp at e; subst e; exact ⟨l, rfl, v1.length, r1.ext L2.ext⟩
      | succ i => simpa using r2 i a (by simpa using e)

theorem flat_len : ∀ (ls : List (List Value)) (z : Nat), (∀ l ∈ ls, l.length = z) → ls.flatten.length = ls.length * z
  | [], z, _ => by simp
  | a :: ls, z, hz => by
    rw [List.flatten_cons, List.length_append, flat_len ls z (fun l h => hz l (by simp [h])), hz a (by simp), List.length_cons, Nat.add_mul]
    omega
theorem flat_at : ∀ (ls : List (List Value)) (z i : Nat) (l : List Value), (∀ l ∈ ls, l.length = z) → ls[i]? = some l → (ls.flatten.drop (i * z)).take z = l
  | [], z, i, l, _, e => by simp at e
  | a :: ls, z, 0, l, hz, e => by
    simp at e; subst e
    have := hz a (by simp)
    simp [← this]
  | a :: ls, z, i + 1, l, hz, e => by
    have ha := hz a (by simp)
    have := flat_at ls z i l (fun l h => hz l (by simp [h])) (by simpa using e)
    rw [List.flatten_cons, List.drop_append, show (i + 1) * z = a.length + i * z by rw [ha, Nat.add_mul]; omega]
    rw [List.drop_eq_nil_of_le (by omega)]
    simpa using this

theorem flat_of (xs : List Value) (z : Nat) : ∀ (n : Nat), xs.length = n * z → ((List.range n).map fun i => (xs.drop (i * z)).take z).flatten = xs
  | 0, h => by
    have : xs.length = 0 := by simpa using h
    simp [List.length_eq_zero_iff.1 this]
  | n + 1, h => by
    have hn : (n + 1) * z = n * z + z := by rw [Nat.add_mul]; omega
    have ih := flat_of (xs.take (n * z)) z n (by simp; omega)
    rw [List.range_succ, List.map_append, List.flatten_append]
    have e : (List.range n).map (fun i => (xs.drop (i * z)).take z) = (List.range n).map (fun i => ((xs.take (n * z)).drop (i * z)).take z) := by
      apply List.map_congr_left
      intro i hi
      have hi' : i < n := by simpa using hi
      have : (i + 1) * z ≤ n * z := Nat.mul_le_mul_right _ hi'
      rw [List.drop_take, List.take_take, Nat.min_eq_left (by rw [Nat.add_mul] at this; omega)]
    rw [e, ih]
    simp only [List.map_cons, List.map_nil, List.flatten_cons, List.flatten_nil, List.append_nil]
    rw [List.take_of_length_le (l := xs.drop (n * z)) (by simp; omega)]
    exact List.take_append_drop _ _

/-- What stands in a slice, row by row. -/
theorem cells_rows {a : Addr} {z n : Nat} {ls : List (List Value)} (hz : 0 < z) (hn : 0 < n) (hl : ls.length = n) (h : ∀ i, i < n → w.cells? 0 (a.add (i * z)) z = ls[i]?) :
    ∃ mc te fr, w.heap[a.block]? = some (.cells mc te fr) ∧ a.spot = none ∧ a.off + n * z ≤ mc.size ∧ ls.flatten = (mc.toList.drop a.off).take (n * z) ∧ ∀ l ∈ ls, l.length = z := by
  have each : ∀ i, i < n → ∃ l, ls[i]? = some l ∧ l.length = z ∧ ∀ j, j < z → w.cell? ((a.add (i * z)).add j) = l[j]? := by
    intro i hi
    have hs : ∃ l, ls[i]? = some l := ⟨_, List.getElem?_eq_getElem (by omega)⟩
    obtain ⟨l, e⟩ := hs
    have hc := h i hi
    rw [e] at hc
    unfold World.cells? at hc
    rw [if_pos (Nat.zero_le _)] at hc
    have h1 := mapM_some_length hc
    refine ⟨l, e, by simpa using h1, fun j hj => mapM_some_get hc j j (by simp [hj])⟩
  have addadd : ∀ i j, (a.add i).add j = a.add (i + j) := by
    intro i j
    unfold Addr.add
    by_cases h1 : i = 0
    · subst h1; simp
    · by_cases h2 : j = 0
      · subst h2; simp
      · simp [h1, h2]; omega
  obtain ⟨l0, e0, hl0, c0⟩ := each 0 hn
  have c00 := c0 0 hz
  rw [Nat.zero_mul, addadd] at c00
  simp only [Nat.add_zero, Addr.add, if_true] at c00
  have hv0 : ∃ v, w.cell? a = some v := ⟨l0[0]'(by omega), by rw [c00]; exact List.getElem?_eq_getElem _⟩
  obtain ⟨v0, hv0⟩ := hv0
  unfold World.cell? at hv0
  split at hv0
  · rename_i mc te fr hm
    by_cases hsp : a.spot.isSome = true
    · rw [if_pos hsp] at hv0; cases hv0
    · have hspn : a.spot = none := by cases hq : a.spot with
        | none => rfl
        | some _ => rw [hq] at hsp; simp at hsp
      have cell : ∀ k, w.cell? (a.add k) = mc[a.off + k]? := by
        intro k
        unfold World.cell? Addr.add
        by_cases hk : k = 0
        · subst hk; simp [hm, hspn]
        · simp [hk, hm]
      have all : ∀ i, i < n → ∀ j, j < z → mc[a.off + (i * z + j)]? = (ls.flatten)[i * z + j]? := by
        intro i hi j hj
        obtain ⟨l, e, hl1, c1⟩ := each i hi
        have hlen : ∀ l ∈ ls, l.length = z := by
          intro l hm2
          obtain ⟨k, hk⟩ := List.getElem?_of_mem hm2
          have hkl : k < ls.length := (List.getElem?_eq_some_iff.1 hk).1
          obtain ⟨l2, e2, hl2, _⟩ := each k (by omega)
          rw [hk] at e2; cases e2; exact hl2
        have := flat_at ls z i l hlen e
        have h2 : l[j]? = ls.flatten[i * z + j]? := by
          rw [← this, List.getElem?_take, if_pos hj, List.getElem?_drop]
        rw [← h2, ← c1 j hj, addadd, cell]
      have hlen : ∀ l ∈ ls, l.length = z := by
        intro l hm2
        obtain ⟨k, hk⟩ := List.getElem?_of_mem hm2
        have hkl : k < ls.length := (List.getElem?_eq_some_iff.1 hk).1
        obtain ⟨l2, e2, hl2, _⟩ := each k (by omega)
        rw [hk] at e2; cases e2; exact hl2
      have hfl := flat_len ls z hlen
      rw [hl] at hfl
      have pos : ∀ q, q < n * z → mc[a.off + q]? = ls.flatten[q]? := by
        intro q hq
        have h1 := all (q / z) ((Nat.div_lt_iff_lt_mul hz).2 hq) (q % z) (Nat.mod_lt _ hz)
        rw [Nat.mul_comm, Nat.div_add_mod] at h1
        exact h1
      have hsz : a.off + n * z ≤ mc.size := by
        have hq : n * z - 1 < n * z := by have := Nat.mul_le_mul_right z hn; omega
        have h1 := pos (n * z - 1) hq
        rw [List.getElem?_eq_getElem (by omega)] at h1
        have := (Array.getElem?_eq_some_iff.1 h1).1
        omega
      refine ⟨mc, te, fr, hm, hspn, hsz, ?_, hlen⟩
      apply List.ext_getElem?
      intro q
      by_cases hq : q < n * z
      · rw [← pos q hq, List.getElem?_take, if_pos hq, List.getElem?_drop]
        simp
      · rw [List.getElem?_eq_none (by omega), List.getElem?_eq_none (by simp; omega)]
  · cases hv0


theorem lift_fields (d : Nat) (ih : ∀ t, plainT P d t = true → ∀ (n : Nat) (cs : List Value) (x : DataW H × List MemPlace), DataW.trod enc P w 0 (fun _ => true) true n t cs = some x → ∀ β h, Rel P β h w → RO h →
      ∃ (β' : Place) (h' : Heap) (acs : List Value), Lift P w β h β' h' ∧ VRels β' acs cs ∧ RV P h' d t acs) :
    ∀ (fs : List Field) (off N : Nat) (cs : List Value), plainF P (plainT P d) fs off N = true → off + cs.length = N →
      (∀ f ∈ fs, off ≤ f.offset → ∃ n x, DataW.trod enc P w 0 (fun _ => true) true n f.type ((cs.drop (f.offset - off)).take (P.cellsOf f.type)) = some x) → ∀ β h, Rel P β h w → RO h →
      ∃ (β' : Place) (h' : Heap) (acs : List Value), Lift P w β h β' h' ∧ VRels β' acs cs ∧ ∀ f ∈ fs, off ≤ f.offset ∧ RV P h' d f.type ((acs.drop (f.offset - off)).take (P.cellsOf f.type))
  | [], off, N, cs, hp, hl, _, β, h, hr, ho => by
    simp only [plainF, decide_eq_true_eq] at hp
    have : cs.length = 0 := by omega
    have : cs = [] := List.length_eq_zero_iff.1 this
    subst this
    exact ⟨β, h, [], Lift.refl hr ho, .nil, by simp⟩
  | f :: fs, off, N, cs, hp, hl, ht, β, h, hr, ho => by
    simp only [plainF, Bool.and_eq_true, decide_eq_true_eq] at hp
    obtain ⟨⟨hoff, hpt⟩, hrest⟩ := hp
    have hle : ∀ (fs : List Field) (off N : Nat), plainF P (plainT P d) fs off N = true → off ≤ N ∧ ∀ f ∈ fs, off ≤ f.offset := by
      intro fs
      induction fs with
      | nil => intro off N hp; simp [plainF] at hp; exact ⟨by omega, by simp⟩
      | cons g gs ihg =>
        intro off N hp
        simp only [plainF, Bool.and_eq_true, decide_eq_true_eq] at hp
        obtain ⟨h1, h2⟩ := ihg _ _ hp.2
        refine ⟨by omega, fun f hf => ?_⟩
        rcases List.mem_cons.1 hf with rfl | hf
        · omega
        · have := h2 f hf; omega
    obtain ⟨hN, hge⟩ := hle _ _ _ hrest
    obtain ⟨n, x, e⟩ := ht f (by simp) (by omega)
    rw [hoff, Nat.sub_self, List.drop_zero] at e
    obtain ⟨β1, h1, a1, L1, v1, r1⟩ := ih f.type hpt n _ x e β h hr ho
    obtain ⟨β2, h2, a2, L2, v2, r2⟩ := lift_fields d ih fs (off + P.cellsOf f.type) N (cs.drop (P.cellsOf f.type)) hrest (by simp; omega) (fun g hg hgo => by
      obtain ⟨n, x, e⟩ := ht g (by simp [hg]) (by omega)
      refine ⟨n, x, ?_⟩
      rw [List.drop_drop]
      rw [← e]
      congr 3
      omega) β1 h1 L1.rel L1.ro
    have hlen1 : a1.length = P.cellsOf f.type := by rw [v1.length]; simp; omega
    refine ⟨β2, h2, a1 ++ a2, L1.trans L2, ?_, fun g hg => ?_⟩
    · have := (v1.mono L2.place).append v2
      rwa [List.take_append_drop] at this
    · rcases List.mem_cons.1 hg with rfl | hg
      · refine ⟨by omega, ?_⟩
        rw [hoff, Nat.sub_self, List.drop_zero, List.take_left' hlen1]
        exact r1.ext L2.ext
      · obtain ⟨q1, q2⟩ := r2 g hg
        refine ⟨by omega, ?_⟩
        rw [List.drop_append, List.drop_eq_nil_of_le (by omega), List.nil_append, hlen1]
        rwa [show g.offset - off - P.cellsOf f.type = g.offset - (off + P.cellsOf f.type) by omega]

theorem lift (d : Nat) : ∀ t, plainT P d t = true → ∀ (n : Nat) (cs : List Value) (x : DataW H × List MemPlace), DataW.trod enc P w 0 (fun _ => true) true n t cs = some x → ∀ β h, Rel P β h w → RO h →
    ∃ (β' : Place) (h' : Heap) (acs : List Value), Lift P w β h β' h' ∧ VRels β' acs cs ∧ RV P h' d t acs := by
  induction d with
  | zero => intro t h; simp [plainT] at h
  | succ d ih =>
    intro t hp n cs x ht β h hr ho
    unfold plainT at hp
    cases hu : P.underlying t with
    | none => simp [hu] at hp
    | some D =>
      rw [hu] at hp
      cases D <;> simp only [Bool.false_eq_true] at hp
      case bool =>
        obtain ⟨b, rfl, _⟩ := DataW.trod_bool hu ht
        exact ⟨β, h, [.bool b], Lift.refl hr ho, .cons (.bool b) .nil, by unfold RV; rw [hu]; exact ⟨b, rfl⟩⟩
      case int k =>
        obtain ⟨m, rfl, _, hw⟩ := DataW.trod_int hu ht
        exact ⟨β, h, [.int k m], Lift.refl hr ho, .cons (.int k m) .nil, by unfold RV; rw [hu]; exact ⟨m, rfl, hw⟩⟩
      case string =>
        obtain ⟨s, rfl, _, hs⟩ := DataW.trod_string hu ht
        exact ⟨β, h, [.string s], Lift.refl hr ho, .cons (.string s) .nil, by unfold RV; rw [hu]; exact ⟨s, rfl, hs⟩⟩
      case struct fs =>
        obtain ⟨xs, m, rfl, _, hl, hxl, hx⟩ := DataW.trod_struct hu ht
        have hp' : plainF P (plainT P d) fs.toList 0 (P.cellsOf t) = true := hp
        obtain ⟨β', h', acs, L, v, r⟩ := lift_fields d ih fs.toList 0 (P.cellsOf t) cs hp' (by omega) (fun f hf _ => by
          obtain ⟨i, hi⟩ := List.getElem?_of_mem hf
          have hi' : fs[i]? = some f := by simpa using hi
          have := hx i f hi'
          have hlt : i < xs.length := by rw [hxl]; exact (Array.getElem?_eq_some_iff.1 hi').1
          rw [List.getElem?_eq_getElem hlt] at this
          exact ⟨m, _, by simpa using this⟩) β h hr ho
        refine ⟨β', h', acs, L, v, ?_⟩
        unfold RV
        rw [hu]
        refine ⟨by rw [v.length]; exact hl, fun f hf => ?_⟩
        have := (r f hf).2
        simpa using this
      case array n2 e =>
        simp only [Bool.and_eq_true, decide_eq_true_eq] at hp
        obtain ⟨hpe, hsz⟩ := hp
        obtain ⟨xs, m, rfl, _, hl, hxl, hx⟩ := DataW.trod_array hu ht
        have hflat := flat_of cs (P.cellsOf e) n2 (by rw [hl, hsz])
        obtain ⟨β', h', als, L, v, hlen, r⟩ := lift_list d e (fun n cs x ht β h hr ho => ih e hpe n cs x ht β h hr ho) ((List.range n2).map fun i => (cs.drop (i * P.cellsOf e)).take (P.cellsOf e)) (fun l hl2 => by
          obtain ⟨i, hi, rfl⟩ := List.mem_map.1 hl2
          have hi' : i < n2 := by simpa using hi
          have := hx i hi'
          rw [List.getElem?_eq_getElem (by omega)] at this
          exact ⟨m, _, this⟩) β h hr ho
        rw [hflat] at v
        refine ⟨β', h', als.flatten, L, v, ?_⟩
        have hz : ∀ a ∈ als, a.length = P.cellsOf e ∧ RV P h' d e a := by
          intro a ha
          obtain ⟨i, hi⟩ := List.getElem?_of_mem ha
          obtain ⟨l, h1, h2, h3⟩ := r i a hi
          refine ⟨?_, h3⟩
          rw [h2]
          have hm := List.mem_of_getElem? h1
          obtain ⟨k, hk, rfl⟩ := List.mem_map.1 hm
          have hk' : k < n2 := by simpa using hk
          have : (k + 1) * P.cellsOf e ≤ n2 * P.cellsOf e := Nat.mul_le_mul_right _ hk'
          rw [Nat.add_mul] at this
          simp
          omega
        unfold RV
        rw [hu]
        refine ⟨by rw [v.length]; exact hl, fun i hi => ?_⟩
        have hal : i < als.length := by rw [hlen]; simpa using hi
        rw [flat_at als (P.cellsOf e) i als[i] (fun a ha => (hz a ha).1) (List.getElem?_eq_getElem hal)]
        exact (hz _ (List.getElem_mem hal)).2
      case slice e =>
        simp only [Bool.and_eq_true, decide_eq_true_eq] at hp
        obtain ⟨hpe, hpos⟩ := hp
        rcases DataW.trod_slice hu ht with ⟨rfl, _⟩ | ⟨a, len, cap, elems, rest, m, rfl, rfl, _, _, hlc, hcm, hel, hx, _, _⟩
        · exact ⟨β, h, [.slice none 0 0], Lift.refl hr ho, .cons .nilslice .nil, by unfold RV; rw [hu]; exact .inl rfl⟩
        · by_cases h0 : len = 0
          · subst h0
            exact ⟨β, h, [.slice (some ⟨0, 0, none⟩) 0 dud], Lift.refl hr ho, .cons .dud .nil, by unfold RV; rw [hu]; exact .inr (.inl rfl)⟩
          · have hex : ∀ i, i < len → ∃ l y, w.cells? 0 (a.add (i * P.cellsOf e)) (P.cellsOf e) = some l ∧ DataW.trod enc P w 0 (fun _ => true) true m e l = some y := by
              intro i hi
              have := hx i hi
              rw [List.getElem?_eq_getElem (by omega), Option.bind_eq_some_iff] at this
              obtain ⟨l, h1, h2⟩ := this
              exact ⟨l, _, h1, h2⟩
            let ls : List (List Value) := (List.range len).map fun i => (w.cells? 0 (a.add (i * P.cellsOf e)) (P.cellsOf e)).getD []
            have hls : ∀ i, i < len → w.cells? 0 (a.add (i * P.cellsOf e)) (P.cellsOf e) = ls[i]? := by
              intro i hi
              obtain ⟨l, _, h1, _⟩ := hex i hi
              simp [ls, hi, h1]
            have hlsl : ls.length = len := by simp [ls]
            obtain ⟨mc, te, fr, hm, hsp, hsz, hfl, hlz⟩ := cells_rows hpos (by omega) hlsl hls
            obtain ⟨β', h', als, L, v, hlen, r⟩ := lift_list d e (fun n cs x ht β h hr ho => ih e hpe n cs x ht β h hr ho) ls (fun l hl2 => by
              obtain ⟨i, hi, rfl⟩ := List.mem_map.1 hl2
              obtain ⟨l, y, h1, h2⟩ := hex i (by simpa using hi)
              exact ⟨m, y, by rw [h1]; exact h2⟩) β h hr ho
            have hz : ∀ a ∈ als, a.length = P.cellsOf e ∧ RV P h' d e a := by
              intro a ha
              obtain ⟨i, hi⟩ := List.getElem?_of_mem ha
              obtain ⟨l, h1, h2, h3⟩ := r i a hi
              exact ⟨by rw [h2]; exact hlz l (List.mem_of_getElem? h1), h3⟩
            have hfl2 : als.flatten.length = len * P.cellsOf e := by rw [flat_len als _ (fun a ha => (hz a ha).1), hlen, hlsl]
            have L2 := Lift.push (off := a.off) (e := e) (cs := als.flatten) L.rel L.ro hm (by omega) (by rw [hfl2, ← hfl]; exact v)
            refine ⟨_, _, [.slice (some ⟨h'.next, 0, none⟩) als.length noapp], L.trans L2, .cons ?_ .nil, ?_⟩
            · have haddr : a = ⟨a.block, a.off + 0, none⟩ := by
                cases a; simp_all
              rw [haddr, hlen, hlsl]
              exact VRel.slice (s := ⟨a.off, 0, 0⟩) (Place.add_same _ _ _ _) (.inr (.inl rfl)) hlc hcm (.inl rfl)
            · unfold RV
              rw [hu]
              refine .inr (.inr ⟨h'.next, als, rfl, ?_, by omega, Heap.get_push_self _ _, fun r hr => ⟨(hz r hr).1, (hz r hr).2.ext L2.ext⟩⟩)
              rintro rfl
              simp at hlen
              omega
end

/-- A value that reads as one of a type. -/
def RVal (P : Program) (h : Heap) (d : Nat) (t : TypeId) (v : Value) : Prop :=
  match P.underlying t with
  | some (.struct _) => ∃ cs : List Value, v = .agg cs.toArray ∧ RV P h d t cs
  | some (.array _ _) => ∃ cs : List Value, v = .agg cs.toArray ∧ RV P h d t cs
  | _ => RV P h d t [v]
def RVals (P : Program) (h : Heap) (d : Nat) : List TypeId → List Value → Prop
  | [], [] => True
  | t :: ts, v :: vs => RVal P h d t v ∧ RVals P h d ts vs
  | _, _ => False
theorem RVal.ext {P : Program} {h h' : Heap} (hx : Ext h h') {d : Nat} {t : TypeId} {v : Value} (q : RVal P h d t v) : RVal P h' d t v := by
  unfold RVal at q ⊢
  split
  · rename_i hu; rw [hu] at q; obtain ⟨cs, e, r⟩ := q; exact ⟨cs, e, r.ext hx⟩
  · rename_i hu; rw [hu] at q; obtain ⟨cs, e, r⟩ := q; exact ⟨cs, e, r.ext hx⟩
  · rename_i h1 h2
    split at q
    · rename_i hu; exact absurd hu (h1 _)
    · rename_i hu; exact absurd hu (h2 _ _)
    · exact q.ext hx
theorem RVals.ext {P : Program} {h h' : Heap} (hx : Ext h h') {d : Nat} : ∀ {ts : List TypeId} {vs : List Value}, RVals P h d ts vs → RVals P h' d ts vs
  | [], [], q => q
  | t :: ts, v :: vs, q => ⟨q.1.ext hx, RVals.ext hx q.2⟩
  | [], _ :: _, q => q
  | _ :: _, [], q => q

theorem rvs_one {P : Program} {h : Heap} {d : Nat} {t : TypeId} {acs : List Value} (r : RV P h d t acs) (ha : ∀ fs, P.underlying t ≠ some (.struct fs)) (hb : ∀ n e, P.underlying t ≠ some (.array n e)) : ∃ a, acs = [a] := by
  cases d with
  | zero => exact r.elim
  | succ d =>
    unfold RV at r
    split at r
    · obtain ⟨b, rfl⟩ := r; exact ⟨_, rfl⟩
    · obtain ⟨b, rfl, _⟩ := r; exact ⟨_, rfl⟩
    · obtain ⟨b, rfl, _⟩ := r; exact ⟨_, rfl⟩
    · rcases r with rfl | rfl | ⟨_, _, rfl, _⟩ <;> exact ⟨_, rfl⟩
    · rename_i hu; exact absurd hu (ha _)
    · rename_i hu; exact absurd hu (hb _ _)
    · exact r.elim

/-- All arguments are lifted. -/
theorem lift_args {H : Type} {enc : TypeId × Value → H} {P : Program} {w : World} (d : Nat) : ∀ (ts : List TypeId) (vs : List Value) (ds : List (DataW H)) (ps : List MemPlace), DataW.TrodAll enc P w 0 (fun _ => true) true ts vs ds ps →
    ts.all (plainT P d) = true → (∀ (j : Nat) t v, ts[j]? = some t → vs[j]? = some v → ∃ base, Value.okWide P w .any base t v) → ∀ β h, Rel P β h w → RO h →
    ∃ (β' : Place) (h' : Heap) (ars : List Value), Lift P w β h β' h' ∧ VRels β' ars vs ∧ RVals P h' d ts ars
  | [], [], _, _, _, _, _, β, h, hr, ho => ⟨β, h, [], Lift.refl hr ho, .nil, trivial⟩
  | t :: ts, v :: vs, d1 :: ds, ps, ht, hp, hok, β, h, hr, ho => by
    obtain ⟨p, q, ⟨fuel, h1⟩, h2, rfl⟩ := ht
    simp only [List.all_cons, Bool.and_eq_true] at hp
    obtain ⟨β1, hp1, acs, L1, v1, r1⟩ := lift d t hp.1 fuel _ _ h1 β h hr ho
    obtain ⟨β2, hp2, ars, L2, v2, r2⟩ := lift_args d ts vs ds q h2 hp.2 (fun j t v e1 e2 => hok (j + 1) t v (by simpa using e1) (by simpa using e2)) β1 hp1 L1.rel L1.ro
    obtain ⟨base, hv⟩ := hok 0 t v rfl rfl
    have v1' := v1.mono L2.place
    have r1' := r1.ext L2.ext
    have aggs : (∃ cs, v = .agg cs) → ∃ a : List Value, acs = a ∧ VRel β2 (.agg a.toArray) v := by
      rintro ⟨cs, rfl⟩
      exact ⟨acs, rfl, VRel.agg_iff.2 ⟨cs, rfl, by simpa [Value.cells] using v1'⟩⟩
    cases hu : P.underlying t with
    | none =>
      exfalso
      have := hp.1
      cases d with
      | zero => simp [plainT] at this
      | succ d => unfold plainT at this; rw [hu] at this; simp at this
    | some D =>
      by_cases hagg : (∃ fs, D = .struct fs) ∨ ∃ n e, D = .array n e
      · have hc : ∃ cs, v = .agg cs := by
          unfold Value.okWide at hv
          rw [hu] at hv
          rcases hagg with ⟨fs, rfl⟩ | ⟨n, e, rfl⟩
          · obtain ⟨cs, e, _⟩ := hv; exact ⟨cs, e⟩
          · obtain ⟨cs, e, _⟩ := hv; exact ⟨cs, e⟩
        obtain ⟨a, rfl, hrel⟩ := aggs hc
        refine ⟨β2, hp2, .agg acs.toArray :: ars, L1.trans L2, .cons hrel v2, ?_, r2⟩
        unfold RVal
        rw [hu]
        rcases hagg with ⟨fs, rfl⟩ | ⟨n, e, rfl⟩
        · exact ⟨acs, rfl, r1'⟩
        · exact ⟨acs, rfl, r1'⟩
      · have n1 : ∀ fs, P.underlying t ≠ some (.struct fs) := fun fs e => hagg (.inl ⟨fs, Option.some.inj (hu.symm.trans e)⟩)
        have n2 : ∀ n e, P.underlying t ≠ some (.array n e) := fun n e e1 => hagg (.inr ⟨n, e, Option.some.inj (hu.symm.trans e1)⟩)
        obtain ⟨a, rfl⟩ := rvs_one r1' n1 n2
        have hnot : ∀ cs, v ≠ .agg cs := by
          rintro cs rfl
          unfold Value.okWide at hv
          rw [hu] at hv
          cases D <;> first
            | exact hagg (.inl ⟨_, rfl⟩)
            | exact hagg (.inr ⟨_, _, rfl⟩)
            | (simp only [Cell.okWide, hu, Cell.ok] at hv; done)
            | (simp [Cell.okWide, hu, Cell.ok] at hv; done)
            | (have := hp.1; cases d <;> simp [plainT, hu] at this; done)
        have hcell : v.cells.toList = [v] := by
          cases v <;> first | rfl | exact absurd rfl (hnot _)
        rw [hcell] at v1'
        refine ⟨β2, hp2, a :: ars, L1.trans L2, ?_, ?_, r2⟩
        · cases v1' with
          | cons x _ => exact .cons x v2
        · unfold RVal
          split
          · rename_i hu2; exact absurd hu2 (n1 _)
          · rename_i hu2; exact absurd hu2 (n2 _ _)
          · exact r1'
  | [], _ :: _, _, _, ht, _, _, _, _, _, _ => by simp [DataW.TrodAll] at ht
  | _ :: _, [], _, _, ht, _, _, _, _, _, _ => by simp [DataW.TrodAll] at ht
  | _ :: _, _ :: _, [], _, ht, _, _, _, _, _, _ => by simp [DataW.TrodAll] at ht
end Go.Sim
namespace Go.Sim
open Go.RowKit
section
variable {P : Program} {h : Heap} {d : Nat} {t : TypeId} {cs : List Value}
theorem RV_bool (hu : P.underlying t = some .bool) : RV P h (d + 1) t cs = ∃ b, cs = [.bool b] := by unfold RV; rw [hu]
theorem RV_int {k : IntKind} (hu : P.underlying t = some (.int k)) : RV P h (d + 1) t cs = ∃ x, cs = [.int k x] ∧ (Lit.int k x).wf = true := by unfold RV; rw [hu]
theorem RV_string (hu : P.underlying t = some .string) : RV P h (d + 1) t cs = ∃ s : ByteArray, cs = [.string s] ∧ s.size ≤ maxLen := by unfold RV; rw [hu]
theorem RV_struct {fs : Array Field} (hu : P.underlying t = some (.struct fs)) : RV P h (d + 1) t cs = (cs.length = P.cellsOf t ∧ ∀ f ∈ fs.toList, RV P h d f.type ((cs.drop f.offset).take (P.cellsOf f.type))) := by
  conv => lhs; unfold RV
  rw [hu]
theorem RV_array {n : Nat} {e : TypeId} (hu : P.underlying t = some (.array n e)) : RV P h (d + 1) t cs = (cs.length = P.cellsOf t ∧ ∀ i, i < n → RV P h d e ((cs.drop (i * P.cellsOf e)).take (P.cellsOf e))) := by
  conv => lhs; unfold RV
  rw [hu]
theorem RV_slice {e : TypeId} (hu : P.underlying t = some (.slice e)) : RV P h (d + 1) t cs = (cs = [.slice none 0 0] ∨ cs = [.slice (some ⟨0, 0, none⟩) 0 dud] ∨ ∃ (b : Nat) (rows : List (List Value)), cs = [.slice (some ⟨b, 0, none⟩) rows.length noapp] ∧ rows ≠ [] ∧ rows.length ≤ maxLen ∧
        h.get b = some (.cells rows.flatten e false) ∧ ∀ r ∈ rows, r.length = P.cellsOf e ∧ RV P h d e r) := by
  conv => lhs; unfold RV
  rw [hu]
theorem RVal_struct {v : Value} {fs : Array Field} (hu : P.underlying t = some (.struct fs)) : RVal P h d t v = ∃ cs : List Value, v = .agg cs.toArray ∧ RV P h d t cs := by unfold RVal; rw [hu]
theorem RVal_int {v : Value} {k : IntKind} (hu : P.underlying t = some (.int k)) : RVal P h (d + 1) t v = ∃ x, v = .int k x ∧ (Lit.int k x).wf = true := by
  unfold RVal; rw [hu]; simp [RV_int hu]
theorem RVal_bool {v : Value} (hu : P.underlying t = some .bool) : RVal P h (d + 1) t v = ∃ x, v = .bool x := by
  unfold RVal; rw [hu]; simp [RV_bool hu]
theorem RVal_string {v : Value} (hu : P.underlying t = some .string) : RVal P h (d + 1) t v = ∃ s : ByteArray, v = .string s ∧ s.size ≤ maxLen := by
  unfold RVal; rw [hu]; simp [RV_string hu]
theorem RVal_slice {v : Value} {e : TypeId} (hu : P.underlying t = some (.slice e)) : RVal P h (d + 1) t v = (v = .slice none 0 0 ∨ v = .slice (some ⟨0, 0, none⟩) 0 dud ∨ ∃ (b : Nat) (rows : List (List Value)), v = .slice (some ⟨b, 0, none⟩) rows.length noapp ∧ rows ≠ [] ∧ rows.length ≤ maxLen ∧
        h.get b = some (.cells rows.flatten e false) ∧ ∀ r ∈ rows, r.length = P.cellsOf e ∧ RV P h d e r) := by
  unfold RVal; rw [hu]; simp [RV_slice hu]
end
theorem cons_of_len {cs : List Value} {n : Nat} (h : cs.length = n + 1) : ∃ a r, cs = a :: r ∧ r.length = n := by
  cases cs with
  | nil => simp at h
  | cons a r => exact ⟨a, r, rfl, by simpa using h⟩
/-- A slice of whole numbers that came in. -/
theorem rv_ints {P : Program} {h : Heap} {d : Nat} {t e : TypeId} {k : IntKind} {v : Value} (hu : P.underlying t = some (.slice e)) (he : P.underlying e = some (.int k)) (hv : RVal P h (d + 2) t v) :
    ∃ l : List Int, (∀ x ∈ l, (Lit.int k x).wf = true) ∧ ((v = .slice none 0 0 ∧ l = []) ∨ (v = .slice (some ⟨0, 0, none⟩) 0 dud ∧ l = []) ∨ ∃ b, v = .slice (some ⟨b, 0, none⟩) l.length noapp ∧ l ≠ [] ∧ l.length ≤ maxLen ∧ h.get b = some (.cells (l.map (.int k)) e false)) := by
  rw [RVal_slice hu] at hv
  rcases hv with rfl | rfl | ⟨b, rows, rfl, h1, h2, h3, h4⟩
  · exact ⟨[], by simp, .inl ⟨rfl, rfl⟩⟩
  · exact ⟨[], by simp, .inr (.inl ⟨rfl, rfl⟩)⟩
  · have key : ∀ rows : List (List Value), (∀ r ∈ rows, r.length = P.cellsOf e ∧ RV P h (d + 1) e r) → ∃ l : List Int, (∀ x ∈ l, (Lit.int k x).wf = true) ∧ l.length = rows.length ∧ rows.flatten = l.map (.int k) := by
      intro rows
      induction rows with
      | nil => intro _; exact ⟨[], by simp, rfl, rfl⟩
      | cons r rows ih =>
        intro hr
        obtain ⟨l, q1, q2, q3⟩ := ih fun r h => hr r (by simp [h])
        have := (hr r (by simp)).2
        rw [RV_int he] at this
        obtain ⟨x, rfl, hx⟩ := this
        exact ⟨x :: l, by simpa using ⟨hx, q1⟩, by simp [q2], by simp [q3]⟩
    obtain ⟨l, q1, q2, q3⟩ := key rows h4
    refine ⟨l, q1, .inr (.inr ⟨b, by rw [q2], ?_, by omega, by rw [h3, q3]⟩)⟩
    rintro rfl
    simp at q2
    exact h1 (List.length_eq_zero_iff.1 q2.symm)
end Go.Sim
namespace Go.Sim
theorem RVals_cons {P : Program} {h : Heap} {d : Nat} {t : TypeId} {ts : List TypeId} {l : List Value} (hv : RVals P h d (t :: ts) l) : ∃ a r, l = a :: r ∧ RVal P h d t a ∧ RVals P h d ts r := by
  cases l with
  | nil => exact hv.elim
  | cons a r => exact ⟨a, r, rfl, hv.1, hv.2⟩
theorem RVals_nil {P : Program} {h : Heap} {d : Nat} {l : List Value} (hv : RVals P h d [] l) : l = [] := by
  cases l with
  | nil => rfl
  | cons a r => exact hv.elim
end Go.Sim
/- From the abstract logic to a law's row. -/
namespace Go.Sim
open Go.RowKit Go.ChangeShapes

def h00 : Heap := ⟨0, fun _ => none, fun b o e => by cases e⟩
def β00 : Place := fun _ => none
theorem rel00 (P : Program) (w : World) : Rel P β00 h00 w := ⟨fun b m s e => (by cases e), fun b m s o e => (by cases e), fun b b' m s s' o o' e => (by cases e)⟩
theorem ro00 : RO h00 := fun b o e => by cases e

theorem keptBut_below {W W' : World} (hb : Below W.heap.size W W') (may : MemPlace → Prop) : W.keptBut W' may := by
  refine ⟨hb.os, hb.output, fun i hi => ?_⟩
  rw [hb.block i hi]
  cases W.heap[i]? with
  | none => trivial
  | some o => cases o with
    | cells c t fr => exact ⟨rfl, rfl, rfl, fun _ _ => rfl⟩
    | map es ck => exact .inr ⟨rfl, rfl⟩
    | _ => rfl

theorem trodAll_below {H : Type} {enc : TypeId × Value → H} {P : Program} (hl : laidOutB P = true) {W W' : World} (hb : Below W.heap.size W W') : ∀ {ts : List TypeId} {vs : List Value} {ds : List (DataW H)} {ps : List MemPlace},
    ts.all (fun t => P.readableRec t && decide (t < P.types.size)) = true → DataW.TrodAll enc P W 0 (fun _ => true) true ts vs ds ps → (∀ x ∈ ps, x.block < W.heap.size) →
    DataW.TrodAll enc P W' 0 (fun b => decide (b < W.heap.size)) true ts vs ds ps
  | [], [], [], _, _, h, _ => h
  | t :: ts, v :: vs, d :: ds, ps, hr, h, hlt => by
    obtain ⟨p, q, h1, h2, rfl⟩ := h
    simp only [List.all_cons, Bool.and_eq_true, decide_eq_true_eq] at hr
    exact ⟨p, q, Below.trod hl hr.1.1 hr.1.2 h1 hb (fun x hx => hlt x (by simp [hx])), trodAll_below hl hb hr.2 h2 (fun x hx => hlt x (by simp [hx])), rfl⟩
  | [], [], _ :: _, _, _, h, _ => by simp [DataW.TrodAll] at h
  | [], _ :: _, _, _, _, h, _ => by simp [DataW.TrodAll] at h
  | _ :: _, [], _, _, _, h, _ => by simp [DataW.TrodAll] at h
  | _ :: _, _ :: _, [], _, _, h, _ => by simp [DataW.TrodAll] at h

theorem trodAll_len {H : Type} {enc : TypeId × Value → H} {P : Program} {w : World} {base : Nat} {sp : Nat → Bool} {held : Bool} : ∀ {ts : List TypeId} {vs : List Value} {ds : List (DataW H)} {ps : List MemPlace}, DataW.TrodAll enc P w base sp held ts vs ds ps → ds.length = ts.length
  | [], [], [], _, _ => rfl
  | t :: ts, v :: vs, d :: ds, ps, h => by
    obtain ⟨p, q, _, h2, _⟩ := h
    simp [trodAll_len h2]
  | [], [], _ :: _, _, h => by simp [DataW.TrodAll] at h
  | [], _ :: _, _, _, h => by simp [DataW.TrodAll] at h
  | _ :: _, [], _, _, h => by simp [DataW.TrodAll] at h
  | _ :: _, _ :: _, [], _, h => by simp [DataW.TrodAll] at h

/-- What a law's walk gives its row. -/
theorem law_calls {H : Type} {enc : TypeId × Value → H} {P : Program} {f : FuncId} {fn : Func} {s : ChangeSpec} {tb : TypeId} {n d : Nat} (hres : fn.resultTypes = #[tb]) (hb : P.underlying tb = some .bool) (hvars : s.vars = [])
    (hn : fn.params.toList.length = n) (hs : ∀ ds : List (DataW H), ds.length = n → s.fn H ds = { results := [.lit (.bool true)], args := ds })
    (hl : laidOutB P = true) (hr : fn.params.toList.all (fun t => P.readableRec t && decide (t < P.types.size)) = true) (hp : fn.params.toList.all (plainT P d) = true)
    (walk : ∀ h ars, RO h → RVals P h d fn.params.toList ars → ACalls P f ars h (fun v _ => v = .bool true))
    (W : World) (base : Nat) (args : Array Value) (ds gs : List (DataW H)) (before : List MemPlace) (hval : ∀ (j : Nat) t v, fn.params[j]? = some t → args[j]? = some v → Value.okWide P W .any base t v)
    (hW : DataW.Whole enc P fn.params.toList s.vars false W args.toList ds gs before) :
    Calls P f args W fun e W' => ∃ v, e = .returned v ∧ s.post enc P fn false true false false W args v W' := by
  have hW' := hW
  obtain ⟨p, q, hA, hV, hpq, hfz, hnd⟩ := hW
  rw [hvars] at hV
  obtain ⟨rfl, rfl⟩ := trodVars_none hV
  have hlen := trodAll_len hA
  obtain ⟨β, h, ars, L, hv, hrv⟩ := lift_args d _ _ _ _ hA hp (fun j t v e1 e2 => ⟨base, hval j t v (by simpa using e1) (by simpa using e2)⟩) β00 h00 (rel00 P W) ro00
  have hc := (walk h ars L.ro hrv).2 β W args.toList hv L.rel
  rw [Array.toArray_toList] at hc
  refine hc.mono fun e W' => ?_
  rintro ⟨mv, rfl, v, h', β', hvr, hr', st, rfl⟩
  cases hvr
  have hbel : Below W.heap.size W W' := ⟨st.os, st.tape, st.output, st.size, fun m hm => st.frame m hm (by
    rintro ⟨b, s1, o, _, hg, hrw⟩
    rw [L.ro b o hg] at hrw
    cases hrw)⟩
  have hsp : s.fn H (ds ++ []) = { results := [.lit (.bool true)], args := ds } := by rw [List.append_nil]; exact hs ds (by rw [hlen, hn])
  have hlt : ∀ x ∈ before, x.block < W.heap.size := fun x hx => hW'.lt x hx
  refine ⟨_, rfl, ds, [], before, [], before, [], hW', ?_, ?_, ?_, keptBut_below hbel _, fun e => by cases e⟩
  · rw [hsp, hres]
    exact trodAll_mk1 ⟨1, by unfold DataW.trod; rw [hb]; rfl⟩
  · rw [hsp]
    have : p = before := by rw [hpq, List.append_nil]
    subst this
    exact trodAll_below hl hbel hr hA hlt
  · rw [hsp, hvars]; rfl
end Go.Sim
/- Typed values: a law's arguments. -/
set_option linter.unusedVariables false
namespace Go.Sim
open Go.RowKit
/-- What holds of the values of a type. -/
def CT.ok : (c : CT) → c.T → Prop
  | .int k, n => k.min ≤ (show Int from n) ∧ (show Int from n) ≤ k.max
  | .bool, _ => True
  | .str, s => s.size ≤ maxLen
  | .sl r, xs => (show List r.T from xs).length ≤ maxLen ∧ ∀ x ∈ (show List r.T from xs), CT.ok r x
  | .pair a b, x => CT.ok a x.1 ∧ CT.ok b x.2
def fitF (f : TypeId → CT → Bool) (P : Program) : List Field → CT → Nat → Nat → Bool
  | [], _, _, _ => false
  | fd :: r, c, off, tot => match r with
    | [] => fd.offset == off && f fd.type c && P.cellsOf fd.type == c.size && off + c.size == tot
    | _ :: _ => match c with
      | .pair a b => fd.offset == off && f fd.type a && P.cellsOf fd.type == a.size && fitF f P r b (off + a.size) tot
      | _ => false
def fitN (f : CT → Bool) (z : Nat) : Nat → CT → Bool
  | 0, _ => false
  | n + 1, c => match n with
    | 0 => f c && c.size == z
    | m + 1 => match c with
      | .pair a b => f a && a.size == z && fitN f z (m + 1) b
      | _ => false
/-- Is it the type's? -/
def fitT (P : Program) : Nat → TypeId → CT → Bool
  | 0, _, _ => false
  | n + 1, t, c => match P.underlying t with
    | some .bool => c.eqb .bool
    | some (.int k) => c.eqb (.int k)
    | some .string => c.eqb .str
    | some (.slice e) => match c with
      | .sl r => fitT P n e r && P.cellsOf e == r.size
      | _ => false
    | some (.struct fs) => fitF (fitT P n) P fs.toList c 0 (P.cellsOf t)
    | some (.array len e) => fitN (fitT P n e) (P.cellsOf e) len c && c.size == P.cellsOf t
    | _ => false
section
variable {P : Program} {h : Heap}
def below (h : Heap) (b : Nat) : Prop := b < h.next
abbrev PRs (P : Program) (h : Heap) := All2 (fun (p : PV) (v : Value) => PR P (below h) h p v)
theorem rows_flat {z : Nat} : ∀ {rows : List (List Value)}, (∀ r ∈ rows, r.length = z) → ∀ (i : Nat) (row : List Value) (j : Nat), rows[i]? = some row → j < z → rows.flatten[i * z + j]? = row[j]?
  | [], _, i, row, j, h, _ => by simp at h
  | r :: rows, hz, i, row, j, h, hj => by
    have hr := hz r List.mem_cons_self
    cases i with
    | zero =>
      simp at h; subst h
      rw [List.flatten_cons, Nat.zero_mul, Nat.zero_add, List.getElem?_append_left (by omega)]
    | succ i =>
      rw [List.flatten_cons, List.getElem?_append_right (by rw [hr, Nat.succ_mul]; omega), hr, show (i + 1) * z + j - z = i * z + j by rw [Nat.succ_mul]; omega]
      exact rows_flat (fun r hr => hz r (List.mem_cons_of_mem _ hr)) i row j (by simpa using h) hj
theorem choose_rows {c : CT} : ∀ {rows : List (List Value)}, (∀ r ∈ rows, ∃ x : c.T, CT.ok c x ∧ PRs P h (encC c x) r) → ∃ xs : List c.T, (∀ x ∈ xs, CT.ok c x) ∧ All2 (fun x r => PRs P h (encC c x) r) xs rows
  | [], _ => ⟨[], fun x hx => by simp at hx, .nil⟩
  | r :: rows, hr => by
    obtain ⟨x, h1, h2⟩ := hr r List.mem_cons_self
    obtain ⟨xs, h3, h4⟩ := choose_rows fun r h => hr r (List.mem_cons_of_mem _ h)
    exact ⟨x :: xs, fun y hy => by rcases List.mem_cons.1 hy with rfl | hy; exact h1; exact h3 y hy, .cons h2 h4⟩
theorem fitF_sound {f : TypeId → CT → Bool} {R : TypeId → List Value → Prop} (hf : ∀ t c cs, R t cs → f t c = true → cs.length = c.size ∧ ∃ x : c.T, CT.ok c x ∧ PRs P h (encC c x) cs) {cs : List Value} {tot : Nat} (hl : cs.length = tot) :
    ∀ (fs : List Field) (c : CT) (off : Nat), fitF f P fs c off tot = true → (∀ fd ∈ fs, R fd.type ((cs.drop fd.offset).take (P.cellsOf fd.type))) → (cs.drop off).length = c.size ∧ ∃ x : c.T, CT.ok c x ∧ PRs P h (encC c x) (cs.drop off)
  | [], c, off, e, _ => by cases e
  | [fd], c, off, e, hr => by
    simp only [fitF, Bool.and_eq_true, beq_iff_eq] at e
    obtain ⟨⟨⟨e1, e2⟩, e3⟩, e4⟩ := e
    obtain ⟨h1, x, h2, h3⟩ := hf _ c _ (hr fd List.mem_cons_self) e2
    rw [e1, e3, List.take_of_length_le (by simp; omega)] at h1 h3
    exact ⟨h1, x, h2, h3⟩
  | fd :: g :: r, c, off, e, hr => by
    cases c with
    | pair a b =>
      simp only [fitF, Bool.and_eq_true, beq_iff_eq] at e
      obtain ⟨⟨⟨e1, e2⟩, e3⟩, e4⟩ := e
      obtain ⟨h1, x, h2, h3⟩ := hf _ a _ (hr fd List.mem_cons_self) e2
      obtain ⟨g1, y, g2, g3⟩ := fitF_sound hf hl (g :: r) b (off + a.size) (by simpa [fitF] using e4) fun fd h => hr fd (List.mem_cons_of_mem _ h)
      rw [e1, e3] at h1 h3
      have hcut : cs.drop off = (cs.drop off).take a.size ++ cs.drop (off + a.size) := by
        rw [← List.drop_drop]; exact (List.take_append_drop _ _).symm
      refine ⟨?_, (x, y), ⟨h2, g2⟩, ?_⟩
      · rw [hcut, List.length_append, h1, g1]; rfl
      · rw [hcut]; exact h3.append g3
    | _ => simp [fitF] at e
theorem fitN_sound {f : CT → Bool} {z : Nat} {R : List Value → Prop} (hf : ∀ c cs, R cs → f c = true → cs.length = c.size ∧ ∃ x : c.T, CT.ok c x ∧ PRs P h (encC c x) cs) {cs : List Value} :
    ∀ (n : Nat) (c : CT) (k : Nat), fitN f z n c = true → (∀ i, i < n → R ((cs.drop ((k + i) * z)).take z)) → cs.length = k * z + c.size → (cs.drop (k * z)).length = c.size ∧ ∃ x : c.T, CT.ok c x ∧ PRs P h (encC c x) (cs.drop (k * z))
  | 0, c, k, e, _, _ => by cases e
  | 1, c, k, e, hr, hl => by
    simp only [fitN, Bool.and_eq_true, beq_iff_eq] at e
    have h0 := hr 0 (by omega)
    rw [Nat.add_zero, List.take_of_length_le (by simp; omega)] at h0
    obtain ⟨h1, x, h2, h3⟩ := hf c _ h0 e.1
    exact ⟨h1, x, h2, h3⟩
  | n + 2, c, k, e, hr, hl => by
    cases c with
    | pair a b =>
      simp only [fitN, Bool.and_eq_true, beq_iff_eq] at e
      obtain ⟨⟨e1, e2⟩, e3⟩ := e
      have h0 := hr 0 (by omega)
      rw [Nat.add_zero] at h0
      obtain ⟨h1, x, h2, h3⟩ := hf a _ h0 e1
      have hl' : cs.length = (k + 1) * z + b.size := by rw [hl, Nat.succ_mul]; simp only [CT.size]; omega
      obtain ⟨g1, y, g2, g3⟩ := fitN_sound hf (n + 1) b (k + 1) (by simpa [fitN] using e3) (fun i hi => by have := hr (i + 1) (by omega); rwa [show k + (i + 1) = k + 1 + i by omega] at this) hl'
      have hcut : cs.drop (k * z) = (cs.drop (k * z)).take z ++ cs.drop ((k + 1) * z) := by
        rw [show (k + 1) * z = k * z + z by rw [Nat.succ_mul], ← List.drop_drop]; exact (List.take_append_drop _ _).symm
      refine ⟨?_, (x, y), ⟨h2, g2⟩, ?_⟩
      · rw [hcut, List.length_append, h1, g1]; rfl
      · rw [hcut]; exact h3.append g3
    | _ => simp [fitN] at e
theorem rv_pr : ∀ (n d : Nat) (t : TypeId) (c : CT) (cs : List Value), RV P h d t cs → fitT P n t c = true → cs.length = c.size ∧ ∃ x : c.T, CT.ok c x ∧ PRs P h (encC c x) cs
  | 0, d, t, c, cs, _, e => by cases e
  | n + 1, 0, t, c, cs, hr, _ => hr.elim
  | n + 1, d + 1, t, c, cs, hr, e => by
    unfold fitT at e
    unfold RV at hr
    split at e
    · rename_i hu
      rw [hu] at hr
      have := CT.of_eqb e
      subst this
      obtain ⟨b, rfl⟩ := hr
      exact ⟨rfl, b, trivial, .cons (.v rfl) .nil⟩
    · rename_i k hu
      rw [hu] at hr
      have := CT.of_eqb e
      subst this
      obtain ⟨x, rfl, hx⟩ := hr
      simp only [Lit.wf, Bool.and_eq_true, decide_eq_true_eq] at hx
      exact ⟨rfl, x, hx, .cons (.v rfl) .nil⟩
    · rename_i hu
      rw [hu] at hr
      have := CT.of_eqb e
      subst this
      obtain ⟨s, rfl, hs⟩ := hr
      exact ⟨rfl, s, hs, .cons (.v rfl) .nil⟩
    · rename_i te hu
      rw [hu] at hr
      split at e
      · rename_i r
        simp only [Bool.and_eq_true, beq_iff_eq] at e
        rcases hr with rfl | rfl | ⟨b, rows, rfl, hne, hm, hg, hrows⟩
        · exact ⟨rfl, [], ⟨Nat.zero_le _, fun x hx => by simp at hx⟩, .cons .nil .nil⟩
        · exact ⟨rfl, [], ⟨Nat.zero_le _, fun x hx => by simp at hx⟩, .cons .dud .nil⟩
        · obtain ⟨xs, h1, h2⟩ := choose_rows (P := P) (h := h) (c := r) (rows := rows) fun row hrow => (rv_pr n d te r row (hrows row hrow).2 e.1).2
          have hl : xs.length = rows.length := h2.length
          have hz : ∀ row ∈ rows, row.length = r.size := fun row hrow => by rw [(hrows row hrow).1, e.2]
          refine ⟨rfl, xs, ⟨by rw [hl]; exact hm, h1⟩, .cons ?_ .nil⟩
          have hml : (xs.map (encC r)).length = rows.length := by simp [hl]
          rw [← hml]
          refine PR.sl (h.wf _ _ hg) hg (CT.size_pos r) ?_ ?_ ?_ (.inl rfl) (by rw [hml]; exact hm)
          · rw [hml, flat_len rows r.size hz]; omega
          · intro i row hrow
            rw [List.getElem?_map] at hrow
            cases hx : xs[i]? with
            | none => rw [hx] at hrow; cases hrow
            | some x => rw [hx] at hrow; cases hrow; exact encC_len r x
          · intro i row j p u hrow hp hu'
            rw [List.getElem?_map] at hrow
            cases hx : xs[i]? with
            | none => rw [hx] at hrow; cases hrow
            | some x =>
              rw [hx] at hrow; cases hrow
              obtain ⟨vrow, hv, hpr⟩ := h2.get hx
              have hj : j < r.size := by rw [← encC_len r x]; exact (List.getElem?_eq_some_iff.1 hp).1
              rw [Nat.zero_add, rows_flat hz i vrow j hv hj] at hu'
              obtain ⟨u', hu2, hpr2⟩ := hpr.get hp
              rw [hu'] at hu2; cases hu2
              exact hpr2
      · cases e
    · rename_i fs hu
      rw [hu] at hr
      obtain ⟨h1, h2⟩ := hr
      have := fitF_sound (P := P) (h := h) (f := fitT P n) (R := fun t cs => RV P h d t cs) (fun t c cs hr he => rv_pr n d t c cs hr he) h1 fs.toList c 0 e (fun fd hfd => h2 fd hfd)
      rwa [List.drop_zero] at this
    · rename_i len te hu
      rw [hu] at hr
      obtain ⟨h1, h2⟩ := hr
      simp only [Bool.and_eq_true, beq_iff_eq] at e
      have := fitN_sound (P := P) (h := h) (f := fitT P n te) (z := P.cellsOf te) (R := fun cs => RV P h d te cs) (fun c cs hr he => rv_pr n d te c cs hr he) len c 0 e.1 (fun i hi => by rw [Nat.zero_add]; exact h2 i hi) (by rw [h1, e.2]; omega)
      rwa [Nat.zero_mul, List.drop_zero] at this
    · cases e
/-! ### All arguments -/
def CTs : List CT → Type
  | [] => Unit
  | c :: r => c.T × CTs r
def CT.oks : (cs : List CT) → CTs cs → Prop
  | [], _ => True
  | c :: r, x => CT.ok c x.1 ∧ CT.oks r x.2
def isAggT (P : Program) (t : TypeId) : Bool := match P.underlying t with
  | some (.struct _) => true
  | some (.array _ _) => true
  | _ => false
def argT (P : Program) (t : TypeId) (c : CT) (x : c.T) : TV := if isAggT P t then .agg (tvC c x) else (tvC c x).headD undT
def argTs (P : Program) : List TypeId → (cs : List CT) → CTs cs → List TV
  | t :: ts, c :: cs, x => argT P t c x.1 :: argTs P ts cs x.2
  | _, _, _ => []
def fitTs (P : Program) (n : Nat) : List TypeId → List CT → Bool
  | [], [] => true
  | t :: ts, c :: cs => fitT P n t c && (isAggT P t || c.size == 1) && fitTs P n ts cs
  | _, _ => false
theorem tvC_isC : ∀ (c : CT) (x : c.T), (tvC c x).all isC = true
  | .int _, _ => rfl
  | .bool, _ => rfl
  | .str, _ => rfl
  | .sl _, _ => rfl
  | .pair a b, x => by simp only [tvC, List.all_append, tvC_isC a, tvC_isC b, Bool.and_self]
theorem pr_dc {S : Nat → Prop} {γ : Pl} {M : List Obj} : ∀ {c : CT} {x : c.T} {vs : List Value}, All2 (fun p v => PR P S h p v) (encC c x) vs → All2 (DC P S γ M h) ((tvC c x).map encK) vs := by
  intro c x vs ha
  rw [tvC_enc]
  generalize encC c x = ps at ha
  induction ha with
  | nil => exact .nil
  | cons a _ ih => exact .cons a ih
theorem rvals_dr {S : Nat → Prop} (hS : ∀ b, below h b → S b) {γ : Pl} {M : List Obj} (n d : Nat) : ∀ (ts : List TypeId) (cs : List CT) (vs : List Value), RVals P h d ts vs → fitTs P n ts cs = true → ∃ xs : CTs cs, CT.oks cs xs ∧ All2 (DR P S γ M h) ((argTs P ts cs xs).map enc) vs
  | [], [], [], _, _ => ⟨(), trivial, .nil⟩
  | t :: ts, c :: cs, v :: vs, hr, hf => by
    simp only [fitTs, Bool.and_eq_true] at hf
    obtain ⟨⟨f1, f2⟩, f3⟩ := hf
    obtain ⟨xs, h1, h2⟩ := rvals_dr hS n d ts cs vs hr.2 f3
    have mono : ∀ {x : c.T} {us : List Value}, PRs P h (encC c x) us → All2 (fun p v => PR P S h p v) (encC c x) us := fun q => q.mono fun _ _ hp => hp.mono fun b hb => ⟨hS b hb, rfl⟩
    have hv := hr.1
    unfold RVal at hv
    have agg : isAggT P t = true → (∃ us : List Value, v = .agg us.toArray ∧ RV P h d t us) → ∃ xs : CTs (c :: cs), CT.oks (c :: cs) xs ∧ All2 (DR P S γ M h) ((argTs P (t :: ts) (c :: cs) xs).map enc) (v :: vs) := by
      rintro ha ⟨us, rfl, hu⟩
      obtain ⟨_, x, q1, q2⟩ := rv_pr n d t c us hu f1
      refine ⟨(x, xs), ⟨q1, h1⟩, .cons ?_ h2⟩
      show DR P S γ M h (enc (argT P t c x)) _
      unfold argT
      rw [if_pos ha]
      exact ⟨us.toArray, rfl, by simpa using pr_dc (mono q2)⟩
    split at hv
    · rename_i fs hu; exact agg (by unfold isAggT; rw [hu]) hv
    · rename_i m te hu; exact agg (by unfold isAggT; rw [hu]) hv
    · rename_i n1 n2
      have hna : isAggT P t = false := by
        unfold isAggT
        split
        · rename_i hu; exact absurd hu (n1 _)
        · rename_i hu; exact absurd hu (n2 _ _)
        · rfl
      obtain ⟨_, x, q1, q2⟩ := rv_pr n d t c [v] hv f1
      refine ⟨(x, xs), ⟨q1, h1⟩, .cons ?_ h2⟩
      show DR P S γ M h (enc (argT P t c x)) _
      unfold argT
      rw [if_neg (by rw [hna]; decide)]
      have hdc := pr_dc (γ := γ) (M := M) (mono q2)
      have hC := tvC_isC c x
      generalize tvC c x = l at hdc hC
      cases l with
      | nil => cases hdc
      | cons y l =>
        cases hdc with
        | cons a t =>
          simp only [List.all_cons, Bool.and_eq_true] at hC
          exact (dr_cell hC.1).2 a
  | [], _ :: _, _, _, hf => by simp [fitTs] at hf
  | _ :: _, [], _, _, hf => by simp [fitTs] at hf
  | [], [], _ :: _, hr, _ => hr.elim
  | _ :: _, _ :: _, [], hr, _ => hr.elim
/-- A law that is reckoned: true of whatever it is given. -/
theorem law_walk {f : FuncId} {av : VS} {m : ShT av [] → Option (RT [(.bool, [])])} (he : EntT P ⟨f, av, [], [(.bool, [])], m⟩) (n d : Nat) (ts : List TypeId) (cs : List CT) (hf : fitTs P n ts cs = true) (conv : CTs cs → ShT av []) (hc : ∀ xs, (conv xs).vals = argTs P ts cs xs)
    (hm : ∀ xs, CT.oks cs xs → m (conv xs) = some (true : Bool)) (h : Heap) (ars : List Value) (hr : RVals P h d ts ars) : ACalls P f ars h (fun v _ => v = .bool true) := by
  let W0 : Ent := { start := h.next, W := fun _ => False, A := fun _ => True, pin := fun _ _ => False, cnt := 0, few := fun _ _ e => e.elim, sub := fun _ e => e.elim }
  have hS : ∀ b, below h b → Free W0 noPl [] h b := fun b hb => ⟨hb, .inr trivial, fun id o x e => by simp at e⟩
  obtain ⟨xs, h1, h2⟩ := rvals_dr (P := P) (γ := noPl) (M := []) hS n d ts cs ars hr hf
  have hd := he (conv xs) true (hm xs h1)
  simp only at hd
  rw [hc] at hd
  have hobj : (conv xs).objs = [] := List.length_eq_zero_iff.1 (inss_len _ _ _ _)
  rw [hobj] at hd
  refine (hd W0 noPl h ars (Nat.le_refl _) (hp_none W0 h rfl fun _ _ e => e) h2).mono ?_
  rintro v h' ⟨γ', r, A', hq, H', hdr⟩
  obtain ⟨w, hw, rfl, _⟩ := (show RQ1 (.bool, []) (true : Bool) r A' from hq)
  have hw' : [TV.v (.bool true)] = [w] := hw
  cases hw'
  exact PR.scal (P := P) (S := Free W0 γ' A' h') (h := h') hdr
end
end Go.Sim
/- TapeParses: the walk. -/
set_option maxRecDepth 100000
namespace Go.Sim
open Go.Proofs
theorem byt_of {c : Int} (h : CT.ok (.int .u8) c) : Byt c := by
  obtain ⟨h1, h2⟩ := h
  have e1 : IntKind.u8.min = 0 := by decide +kernel
  have e2 : IntKind.u8.max = 255 := by decide +kernel
  rw [e1] at h1
  rw [e2] at h2
  exact ⟨h1, Int.lt_of_le_of_lt h2 (by decide)⟩
theorem parses_walk (h : Heap) (vs : List Value) (hr : RVals Try.prog h 12 [45] vs) : ACalls Try.prog 7 vs h (fun v _ => v = .bool true) := by
  have ha : isAggT Try.prog 45 = false := by kernel_rfl
  refine law_walk (P := Try.prog) (f := 7) (av := .sl (.int .u8)) (m := fun s => m_TapeParses s) e_TapeParses_ok 12 12 [45] [.sl (.int .u8)] (by kernel_rfl) (fun x => x.1) (fun x => ?_) (fun x hx => ?_) h vs hr
  · simp only [argTs, argT, ha]
    rfl
  · exact parses_plain x.1 fun c hc => byt_of (hx.1.2 c hc)
end Go.Sim
