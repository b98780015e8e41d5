/- Part 9 of the claim TapeTells: S3, S4, S5, S6, S7, R5, S8, S9, S10, S11, S0, S12, S13, B1 -/
import Derived.Test.YtmcboobmnipjlaaProg
import Derived.ProofKit
import Derived.OpenShut
import Derived.Carry
import Derived.Test.YtmcboobmnipjlaaW8
import Derived.Test.YtmcboobmnipjlaaW3
set_option linter.unusedSimpArgs false
set_option linter.unusedVariables false
set_option linter.defProp false
set_option maxRecDepth 100000
set_option maxHeartbeats 4000000
set_option linter.unusedVariables false
namespace Go.Sim
theorem Byts.drop {bs : List Int} (hB : ∀ c ∈ bs, Byt c) (a : Nat) : ∀ c ∈ bs.drop a, Byt c := fun c h => hB c (List.mem_of_mem_drop h)
theorem rNum_0 (bs : List Int) (a : Nat) : rNum bs a 0 = (a + (readM (bs.drop a) 0 0).2.1, (readM (bs.drop a) 0 0).2.2, (readM (bs.drop a) 0 0).1) := by unfold rNum; rw [if_neg (by simp)]
theorem rNum_e (bs : List Int) (a : Nat) {e : Nat} (h : e ≠ 0) : rNum bs a e = (a, e, 0) := by unfold rNum; rw [if_pos h]
theorem rTake_0 (bs : List Int) (a n : Nat) : rTake bs a 0 n = if bs.length < a + n then (a, 4, []) else (a + n, 0, (bs.drop a).take n) := by unfold rTake; rw [if_neg (by simp)]
theorem rTake_e (bs : List Int) (a n : Nat) {e : Nat} (h : e ≠ 0) : rTake bs a e n = (a, e, []) := by unfold rTake; rw [if_pos h]
theorem number_ref {bs : List Int} (hB : ∀ c ∈ bs, Byt c) (hl : bs.length ≤ 1000000) {a : Nat} (ha : a ≤ bs.length) (e : Nat) : m_r01_Number bs a e = some ((bs, ((rNum bs a e).1 : Int), ((rNum bs a e).2.1 : Int)), ((rNum bs a e).2.2 : Int)) := by
  unfold m_r01_Number rNum
  by_cases he : e = 0
  · subst he
    have hr := read_ref (bs.drop a) (Byts.drop hB a) (by simp; omega)
    have := readM_len (bs.drop a) 0 0
    simp only [List.length_drop] at this
    have hw : IntKind.i64.wrap ((a : Int) + ((readM (bs.drop a) 0 0).2.1 : Int)) = ((a + (readM (bs.drop a) 0 0).2.1 : Nat) : Int) := by rw [wrap_i64n (by omega) (by omega)]; push_cast; rfl
    simp [Bool.cond_eq_ite, ha, hr, I3, hw]
  · simp [Bool.cond_eq_ite, he]
theorem number_num {bs : List Int} (hB : ∀ c ∈ bs, Byt c) (hl : bs.length ≤ 1000000) {a s : Nat} (ha : a ≤ bs.length) (hs : s ≤ a) (e : Nat) : m_num_Number (bs.drop a) ((a - s : Nat) : Int) e = some (((rNum bs a e).2.2 : Int), (bs.drop (rNum bs a e).1, (((rNum bs a e).1 - s : Nat) : Int), ((rNum bs a e).2.1 : Int))) := by
  unfold m_num_Number
  by_cases he : e = 0
  · subst he
    rw [rNum_0]
    have hr := read_num (bs.drop a) (Byts.drop hB a) (by simp; omega)
    have hn := readM_len (bs.drop a) 0 0
    have hz := readM_err (bs.drop a) 0 0
    simp only [List.length_drop] at hn
    simp only [hr, Option.bind_some, I3, Bool.cond_eq_ite, bne_iff_ne]
    rw [if_neg (by simp)]
    by_cases h2 : (readM (bs.drop a) 0 0).2.2 = 0
    · rw [if_neg (by omega)]
      unfold m_num_drop
      have hw : IntKind.i64.wrap (((a - s : Nat) : Int) + ((readM (bs.drop a) 0 0).2.1 : Int)) = ((a + (readM (bs.drop a) 0 0).2.1 - s : Nat) : Int) := by rw [wrap_i64n (by omega) (by omega)]; omega
      simp only [Bool.cond_eq_ite, decide_eq_true_eq, Int.toNat_natCast, hw, List.drop_drop, List.length_drop]
      rw [if_pos (by omega), if_pos (by omega), h2]
      simp
    · have hz := hz h2
      rw [if_pos (by omega), hz.1, hz.2]
      simp
  · rw [rNum_e _ _ he]; simp [Bool.cond_eq_ite, he]
theorem up_ref {bs : List Int} (hB : ∀ c ∈ bs, Byt c) (hl : bs.length ≤ 1000000) {a : Nat} (ha : a ≤ bs.length) (e m w : Nat) (hm : m < 2000000) : m_r01_Up (bs, (a : Int), (e : Int)) m w = some ((bs, ((rUp bs a e m w).1 : Int), ((rUp bs a e m w).2.1 : Int)), ((rUp bs a e m w).2.2 : Int)) := by
  unfold m_r01_Up rUp
  have hlt := rNum_lt bs hB a e
  have hz := @rNum_err bs a e
  simp only [number_ref hB hl ha, Option.bind_some, Bool.cond_eq_ite, beq_iff_eq, decide_eq_true_eq]
  rw [wrap_u64 (by omega) (by omega)]
  by_cases h1 : (rNum bs a e).2.1 = 0
  · rw [if_pos (by omega), if_neg (by omega)]
    by_cases h2 : m < (rNum bs a e).2.2
    · rw [if_pos (by omega), if_pos ⟨h1, h2⟩]; rfl
    · rw [if_neg (by omega), if_neg (by omega), wrap_i64n (by omega) (by omega)]
  · rw [if_neg (by omega), if_neg (by omega), hz h1]
    rfl
theorem up_num {bs : List Int} (hB : ∀ c ∈ bs, Byt c) (hl : bs.length ≤ 1000000) {a s : Nat} (ha : a ≤ bs.length) (hs : s ≤ a) (e m : Nat) (hm : m < 2000000) : m_num_Upto m (bs.drop a) ((a - s : Nat) : Int) e = some (((rUp bs a e m 5).2.2 : Int), (bs.drop (rUp bs a e m 5).1, (((rUp bs a e m 5).1 - s : Nat) : Int), ((rUp bs a e m 5).2.1 : Int))) := by
  unfold m_num_Upto m_num_under m_num_bounded rUp
  have hlt := rNum_lt bs hB a e
  have hz := @rNum_err bs a e
  simp only [number_num hB hl ha hs, Option.bind_some, Bool.cond_eq_ite, beq_iff_eq, bne_iff_ne, decide_eq_true_eq]
  by_cases he : e = 0
  · subst he
    rw [if_neg (by simp)]
    by_cases h1 : (rNum bs a 0).2.1 = 0
    · rw [if_pos (by omega)]
      unfold m_num_under_1
      simp only [Bool.cond_eq_ite, decide_eq_true_eq]
      rw [if_pos (by omega), wrap_u64 (by omega) (by omega)]
      by_cases h2 : m < (rNum bs a 0).2.2
      · rw [if_pos ⟨h1, h2⟩]
        simp only [Option.bind_some]
        rw [if_pos (by simp; omega)]
        simp
      · rw [if_neg (fun h => h2 h.2)]
        simp only [Option.bind_some]
        rw [if_neg (by simp; omega), wrap_i64n (by omega) (by omega)]
        simp
    · rw [if_neg (by omega), if_neg (fun h => h1 h.1), hz h1]
      rfl
  · rw [if_pos (by omega)]
    have hr : rNum bs a e = (a, e, 0) := by unfold rNum; rw [if_pos he]
    rw [hr, if_neg (by simp)]
    rfl
theorem take_ref {bs : List Int} (hl : bs.length ≤ 1000000) {a : Nat} (ha : a ≤ bs.length) (e n : Nat) (hn : n < 2000000) : m_r01_Take (bs, (a : Int), (e : Int)) n = some ((bs, ((rTake bs a e n).1 : Int), ((rTake bs a e n).2.1 : Int)), (rTake bs a e n).2.2) := by
  unfold m_r01_Take
  have hw : IntKind.i64.wrap ((a : Int) + (n : Int)) = ((a + n : Nat) : Int) := by rw [wrap_i64n (by omega) (by omega)]; push_cast; rfl
  have hw2 : IntKind.i64.wrap ((bs.length : Int) - (a : Int)) = ((bs.length - a : Nat) : Int) := by rw [wrap_i64n (by omega) (by omega)]; omega
  simp only [Bool.cond_eq_ite, beq_iff_eq, bne_iff_ne, decide_eq_true_eq, hw, hw2, List.nil_append, Int.toNat_natCast]
  by_cases he : e = 0
  · subst he
    rw [rTake_0]
    rw [if_pos (by simp), if_neg (by omega)]
    by_cases h1 : bs.length < a + n
    · rw [if_pos (by omega), if_pos h1]; rfl
    · rw [if_neg (by omega), if_neg (by simp), if_pos (by omega), if_pos (by simp; omega), if_pos (by simp), if_neg h1]
      rw [show a + n - a = n by omega]
  · rw [rTake_e _ _ _ he, if_neg (by omega), if_pos (by omega)]
theorem take_num {bs : List Int} (hl : bs.length ≤ 1000000) {a s : Nat} (ha : a ≤ bs.length) (hs : s ≤ a) (e n : Nat) (hn : n < 2000000) : m_num_Take n (bs.drop a) ((a - s : Nat) : Int) e = some ((rTake bs a e n).2.2, (bs.drop (rTake bs a e n).1, (((rTake bs a e n).1 - s : Nat) : Int), ((rTake bs a e n).2.1 : Int))) := by
  unfold m_num_Take m_num_drop m_slices_Clone8
  have hw : IntKind.i64.wrap (((a - s : Nat) : Int) + (n : Int)) = ((a + n - s : Nat) : Int) := by rw [wrap_i64n (by omega) (by omega)]; omega
  simp only [Bool.cond_eq_ite, beq_iff_eq, bne_iff_ne, decide_eq_true_eq, hw, List.nil_append, Int.toNat_natCast, List.length_drop, List.drop_drop]
  by_cases he : e = 0
  · subst he
    rw [rTake_0]
    rw [if_neg (by simp), if_neg (by omega)]
    by_cases h1 : bs.length < a + n
    · rw [if_pos (by omega), if_pos h1]; rfl
    · rw [if_neg (by omega), if_pos (by omega), if_pos (by omega), if_neg h1]
      simp only [Option.bind_some]
      have hc : (if True ∧ 0 + (List.take n (List.drop a bs)).length ≤ 140737488355328 then if (List.take n (List.drop a bs)).length = 0 + (List.take n (List.drop a bs)).length then some (List.take n (List.drop a bs)) else none else none) = some (List.take n (List.drop a bs)) := by
        rw [if_pos ⟨trivial, by simp; omega⟩, if_pos (by simp)]
      rw [hc]
      by_cases h0 : (List.take n (List.drop a bs)).length = 0
      · rw [if_pos h0, List.length_eq_zero_iff.1 h0, bothM_same]
        rfl
      · rw [if_neg h0]
        rfl
  · rw [rTake_e _ _ _ he, if_pos (by omega)]
end Go.Sim

set_option maxRecDepth 100000
set_option maxHeartbeats 4000000
set_option linter.unusedVariables false
namespace Go.Sim
abbrev E5 : Type := Int × List Int × Int × Int × Int
def evT (e : Ev) : E5 := (e.kind, e.b, e.n, e.rows, e.cols)
theorem rUp_e (bs : List Int) (a m w : Nat) {e : Nat} (h : e ≠ 0) : rUp bs a e m w = (a, e, 0) := by unfold rUp; rw [rNum_e _ _ h]; simp [h]
theorem kindP_e (bs : List Int) (a k : Nat) {e : Nat} (h : e ≠ 0) : (kindP bs a e k).1 = a ∧ (kindP bs a e k).2.1 = e := by
  unfold kindP
  rw [rUp_e _ _ _ _ h]
  simp only [rUp_e _ _ _ _ h, rTake_e _ _ _ h, rNum_e _ _ h]
  split
  · exact ⟨rfl, rfl⟩
  · split
    · exact ⟨rfl, rfl⟩
    · split <;> exact ⟨rfl, rfl⟩
theorem one_num {bs : List Int} (hB : ∀ c ∈ bs, Byt c) (hl : bs.length ≤ 1000000) {a s : Nat} (ha : a ≤ bs.length) (hs : s ≤ a) : ∃ ev : E5, m_tape_one (bs.drop a) ((a - s : Nat) : Int) 0 = some (ev, (bs.drop (oneP bs a).1, (((oneP bs a).1 - s : Nat) : Int), ((oneP bs a).2.1 : Int))) ∧ ((oneP bs a).2.1 = 0 → ev = evT (oneP bs a).2.2) := by
  have hN : m_num_Number (bs.drop a) ((a - s : Nat) : Int) 0 = _ := number_num hB hl ha hs 0
  have hp := rNum_le (bs := bs) (a := a) (e := 0) ha (by decide)
  have hap := (rNum_mono bs a 0).1
  have hlt := rNum_lt bs hB a 0
  unfold m_tape_one oneP
  simp only [hN, Option.bind_some]
  clear hN
  generalize rNum bs a 0 = u at hp hap hlt ⊢
  obtain ⟨p, e, n⟩ := u
  simp only at hp hap hlt ⊢
  by_cases he : e = 0
  · subst he
    by_cases hn : n < 1 ∨ 5 < n
    · have hk := kindP_e bs p n (e := 9) (by decide)
      rw [if_pos ⟨rfl, hn⟩, hk.1, hk.2]
      by_cases h1 : n < 1
      · refine ⟨(0, [], 0, 0, 0), ?_, fun h => by cases h⟩
        have h1' : decide ((n : Int) < 1) = true := by simp; omega
        simp [m_num_Err, m_num_Fail, h1']
      · refine ⟨(0, [], 0, 0, 0), ?_, fun h => by cases h⟩
        have h1' : decide ((n : Int) < 1) = false := by simp; omega
        have h2' : decide ((5 : Int) < (n : Int)) = true := by simp; omega
        simp [m_num_Err, m_num_Fail, h1', h2']
    · rw [if_neg (fun h => hn h.2)]
      have hps : s ≤ p := Nat.le_trans hs hap
      have hU := fun m hm => up_num hB hl hp.1 hps 0 m hm
      have hN : m_num_Number (bs.drop p) ((p - s : Nat) : Int) 0 = _ := number_num hB hl hp.1 hps 0
      have hk : n = 1 ∨ n = 2 ∨ n = 3 ∨ n = 4 ∨ n = 5 := by omega
      have w1 : IntKind.i64.wrap 1 = 1 := by decide +kernel
      have w2 : IntKind.i64.wrap 2 = 2 := by decide +kernel
      have w3 : IntKind.i64.wrap 3 = 3 := by decide +kernel
      have w4 : IntKind.i64.wrap 4 = 4 := by decide +kernel
      have w5 : IntKind.i64.wrap 5 = 5 := by decide +kernel
      have hU1 : m_num_Upto 4096 (bs.drop p) ((p - s : Nat) : Int) 0 = _ := hU 4096 (by decide)
      have hU2 : m_num_Upto 1048576 (bs.drop p) ((p - s : Nat) : Int) 0 = _ := hU 1048576 (by decide)
      have g1 := rUp_le (bs := bs) (a := p) (e := 0) (m := 4096) (w := 5) hp.1 (by decide) (by decide)
      have g2 := (rUp_mono bs p 0 4096 5).1
      have g3 := rUp_le (bs := bs) (a := p) (e := 0) (m := 1048576) (w := 5) hp.1 (by decide) (by decide)
      have g4 := (rUp_mono bs p 0 1048576 5).1
      have hT := take_num hl g1.1 (Nat.le_trans hps g2) (rUp bs p 0 4096 5).2.1 (rUp bs p 0 4096 5).2.2 (by omega)
      have hV : m_num_Upto 1048576 (bs.drop (rUp bs p 0 1048576 5).1) (((rUp bs p 0 1048576 5).1 - s : Nat) : Int) _ = _ := up_num hB hl g3.1 (Nat.le_trans hps g4) (rUp bs p 0 1048576 5).2.1 1048576 (by decide)
      rcases hk with rfl | rfl | rfl | rfl | rfl
      · refine ⟨_, ?_, fun _ => rfl⟩
        simp [m_num_Err, w1, hU1, hT, kindP, evT]
      · refine ⟨_, ?_, fun _ => rfl⟩
        simp [m_num_Err, w2, hU1, hT, kindP, evT]
      · refine ⟨_, ?_, fun _ => rfl⟩
        simp [m_num_Err, w3, hN, kindP, evT]
      · refine ⟨_, ?_, fun _ => rfl⟩
        simp [m_num_Err, w4, hU2, hV, kindP, evT]
      · refine ⟨_, ?_, fun _ => rfl⟩
        simp [m_num_Err, w5, hN, kindP, evT]
  · rw [if_neg (fun h => he h.1), (kindP_e bs p n he).1, (kindP_e bs p n he).2]
    refine ⟨(0, [], 0, 0, 0), ?_, fun h => absurd h he⟩
    have he' : ((e : Int) == 0) = false := by simp; omega
    have he2 : ((e : Int) != 0) = true := by simp; omega
    simp [m_num_Err, he', he2]
theorem one_ref {bs : List Int} (hB : ∀ c ∈ bs, Byt c) (hl : bs.length ≤ 1000000) {a : Nat} (ha : a ≤ bs.length) (hlt : a < bs.length) (r c : Int) (L : List E5) (hL : L.length ≤ 2000000) : ∃ ev : E5, m_r34_Parse_l1_step (bs, r, c) (bs, (a : Int), 0) L = some (.inl ((bs, r, c), (bs, ((oneP bs a).1 : Int), ((oneP bs a).2.1 : Int)), L ++ [ev])) ∧ ((oneP bs a).2.1 = 0 → ev = evT (oneP bs a).2.2) := by
  have hN : m_r01_Number bs (a : Int) 0 = _ := number_ref hB hl ha 0
  have hp := rNum_le (bs := bs) (a := a) (e := 0) ha (by decide)
  have hap := (rNum_mono bs a 0).1
  have hltn := rNum_lt bs hB a 0
  have hl1 : decide ((a : Int) < (bs.length : Int)) = true := by simp; omega
  have hL1 : decide (L.length + 1 ≤ 2513169434916) = true := by simp; omega
  have hL3 : decide (L.length ≤ 2513169434915) = true := by simp; omega
  have hz := @rNum_err bs a 0
  unfold m_r34_Parse_l1_step oneP
  simp only [hN, hl1, Option.bind_some, beq_self_eq_true, cond_true, decide_true]
  clear hN
  generalize rNum bs a 0 = u at hp hap hltn hz ⊢
  obtain ⟨p, e, n⟩ := u
  simp only at hp hap hltn hz ⊢
  have w1 : IntKind.i64.wrap 1 = 1 := by decide +kernel
  have w2 : IntKind.i64.wrap 2 = 2 := by decide +kernel
  have w3 : IntKind.i64.wrap 3 = 3 := by decide +kernel
  have w4 : IntKind.i64.wrap 4 = 4 := by decide +kernel
  have w5 : IntKind.i64.wrap 5 = 5 := by decide +kernel
  -- what comes behind the kind, for an error that is there
  by_cases hg : e = 0 ∧ ¬ (n < 1 ∨ 5 < n)
  · obtain ⟨rfl, hn⟩ := hg
    rw [if_neg (fun h => hn h.2)]
    have hU := fun m hm => up_ref hB hl hp.1 0 m 5 hm
    have hN : m_r01_Number bs (p : Int) 0 = _ := number_ref hB hl hp.1 0
    have hk : n = 1 ∨ n = 2 ∨ n = 3 ∨ n = 4 ∨ n = 5 := by omega
    have hU1 : m_r01_Up (bs, (p : Int), 0) 4096 5 = _ := hU 4096 (by decide)
    have hU2 : m_r01_Up (bs, (p : Int), 0) 1048576 5 = _ := hU 1048576 (by decide)
    have g1 := rUp_le (bs := bs) (a := p) (e := 0) (m := 4096) (w := 5) hp.1 (by decide) (by decide)
    have g3 := rUp_le (bs := bs) (a := p) (e := 0) (m := 1048576) (w := 5) hp.1 (by decide) (by decide)
    have hT := take_ref hl g1.1 (rUp bs p 0 4096 5).2.1 (rUp bs p 0 4096 5).2.2 (by omega)
    have hV : m_r01_Up (bs, ((rUp bs p 0 1048576 5).1 : Int), _) 1048576 5 = _ := up_ref hB hl g3.1 (rUp bs p 0 1048576 5).2.1 1048576 5 (by decide)
    rcases hk with rfl | rfl | rfl | rfl | rfl
    · refine ⟨_, ?_, fun _ => rfl⟩
      simp [w1, hU1, hT, kindP, evT, hL3]
    · refine ⟨_, ?_, fun _ => rfl⟩
      simp [w2, hU1, hT, kindP, evT, hL3]
    · refine ⟨_, ?_, fun _ => rfl⟩
      simp [w3, hN, kindP, evT, hL3]
    · refine ⟨_, ?_, fun _ => rfl⟩
      simp [w4, hU2, hV, kindP, evT, hL3]
    · refine ⟨_, ?_, fun _ => rfl⟩
      simp [w5, hN, kindP, evT, hL3]
  · have hn : n < 1 ∨ 5 < n := by
      by_cases h : e = 0
      · exact Classical.byContradiction fun q => hg ⟨h, q⟩
      · exact .inl (by have := hz h; omega)
    have b1 : ((n : Int) == 1) = false := by simp; omega
    have b2 : ((n : Int) == 2) = false := by simp; omega
    have b3 : ((n : Int) == 3) = false := by simp; omega
    have b4 : ((n : Int) == 4) = false := by simp; omega
    have b5 : ((n : Int) == 5) = false := by simp; omega
    by_cases h0 : e = 0
    · subst h0
      rw [if_pos ⟨rfl, hn⟩, (kindP_e bs p n (e := 9) (by decide)).1, (kindP_e bs p n (e := 9) (by decide)).2]
      refine ⟨(IntKind.i64.wrap n, [], 0, 0, 0), ?_, fun h => by cases h⟩
      by_cases h1 : n < 1
      · have h1' : decide ((n : Int) < 1) = true := by simp; omega
        simp [h1', b1, b2, b3, b4, b5, hL3]
      · have h1' : decide ((n : Int) < 1) = false := by simp; omega
        have h2' : decide ((5 : Int) < (n : Int)) = true := by simp; omega
        simp [h1', h2', b1, b2, b3, b4, b5, hL3]
    · rw [if_neg (fun h => h0 h.1), (kindP_e bs p n h0).1, (kindP_e bs p n h0).2]
      refine ⟨(IntKind.i64.wrap n, [], 0, 0, 0), ?_, fun h => absurd h h0⟩
      have he' : ((e : Int) == 0) = false := by simp; omega
      simp [he', b1, b2, b3, b4, b5, hL3]
end Go.Sim

set_option maxRecDepth 100000
set_option maxHeartbeats 4000000
set_option linter.unusedVariables false
namespace Go.Sim
theorem tape_Parse_l1_eq (a b c) : m_tape_Parse_l1 (a, b, c) = unr (m_tape_Parse_l1_step a b c) m_tape_Parse_l1 := loopM_unr _ _
theorem r34_Parse_l1_eq (a b c) : m_r34_Parse_l1 (a, b, c) = unr (m_r34_Parse_l1_step a b c) m_r34_Parse_l1 := loopM_unr _ _
abbrev P4 : Type := Int × Int × List E5 × Int
def fin (r c : Int) (x : Nat × List Ev) : P4 := if x.1 ≠ 0 then (0, 0, [], (x.1 : Int)) else (r, c, x.2.map evT, 0)
theorem evsP_run (bs : List Int) (a e : Nat) (l : List Ev) (h : e = 0 ∧ a < bs.length) : evsP bs a e l = evsP bs (oneP bs a).1 (oneP bs a).2.1 (l ++ [(oneP bs a).2.2]) := by rw [evsP, dif_pos h]
theorem evsP_end (bs : List Int) (a e : Nat) (l : List Ev) (h : ¬ (e = 0 ∧ a < bs.length)) : evsP bs a e l = (e, l) := by rw [evsP, dif_neg h]
theorem oneP_le {bs : List Int} {a : Nat} (ha : a ≤ bs.length) : a ≤ (oneP bs a).1 ∧ (oneP bs a).1 ≤ bs.length ∧ (oneP bs a).2.1 < 100 := by
  unfold oneP
  have h1 := rNum_le (bs := bs) (e := 0) ha (by decide)
  have h2 := (rNum_mono bs a 0).1
  have h3 := kindP_mono bs (rNum bs a 0).1 (if (rNum bs a 0).2.1 = 0 ∧ ((rNum bs a 0).2.2 < 1 ∨ 5 < (rNum bs a 0).2.2) then 9 else (rNum bs a 0).2.1) (rNum bs a 0).2.2
  have h4 := kindP_le (bs := bs) (a := (rNum bs a 0).1) (e := (if (rNum bs a 0).2.1 = 0 ∧ ((rNum bs a 0).2.2 < 1 ∨ 5 < (rNum bs a 0).2.2) then 9 else (rNum bs a 0).2.1)) (rNum bs a 0).2.2 h1.1 (by split <;> omega)
  simp only
  exact ⟨Nat.le_trans h2 h3.1, h4.1, h4.2⟩
def out4 (x : Nat × Nat × List Ev × Nat) : P4 := (x.1, x.2.1, x.2.2.1.map evT, x.2.2.2)
theorem fin_out (r c : Nat) (x : Nat × List Ev) : fin r c x = out4 (if x.1 ≠ 0 then (0, 0, [], x.1) else (r, c, x.2, 0)) := by
  unfold fin out4
  split <;> simp_all
theorem parse_num_loop {bs : List Int} (hB : ∀ c ∈ bs, Byt c) (hl : bs.length ≤ 1000000) (r c : Int) : ∀ (k a e : Nat) (l : List Ev) (L : List E5), (if e = 0 then bs.length + 1 - a else 0) ≤ k → 1 ≤ a → a ≤ bs.length → (e = 0 → L = l.map evT ∧ L.length ≤ a) →
    m_tape_Parse_l1 ((bs, r, c), (bs.drop a, ((a - 1 : Nat) : Int), (e : Int)), L) = some (fin r c (evsP bs a e l)) := by
  have stop : ∀ (a e : Nat) (l : List Ev) (L : List E5), 1 ≤ a → a ≤ bs.length → (e = 0 → L = l.map evT ∧ L.length ≤ a) → ¬ (e = 0 ∧ a < bs.length) → m_tape_Parse_l1 ((bs, r, c), (bs.drop a, ((a - 1 : Nat) : Int), (e : Int)), L) = some (fin r c (evsP bs a e l)) := by
    intro a e l L h1 ha hL h
    rw [evsP_end _ _ _ _ h, tape_Parse_l1_eq]
    have hw : IntKind.i64.wrap ((bs.length : Int) - 1) = (bs.length : Int) - 1 := wrap_i64n (by omega) (by omega)
    unfold m_tape_Parse_l1_step fin
    by_cases he : e = 0
    · subst he
      have hd : decide (((a - 1 : Nat) : Int) < (bs.length : Int) - 1) = false := by simp; omega
      simp [m_num_Err, m_num_At, hw, hd, (hL rfl).1]
    · have h1 : ((e : Int) == 0) = false := by simp; omega
      have h2 : ((e : Int) != 0) = true := by simp; omega
      simp [m_num_Err, h1, h2, he]
  intro k
  induction k with
  | zero =>
    intro a e l L hk h1 ha hL
    refine stop a e l L h1 ha hL fun h => ?_
    rw [if_pos h.1] at hk
    omega
  | succ k ih =>
    intro a e l L hk h1 ha hL
    by_cases h : e = 0 ∧ a < bs.length
    · obtain ⟨rfl, hlt⟩ := h
      obtain ⟨hL1, hL2⟩ := hL rfl
      obtain ⟨ev, hev, hev2⟩ := one_num hB hl (s := 1) ha h1
      have ho := oneP_le (bs := bs) ha
      have hol := oneP_lt bs a
      rw [evsP_run _ _ _ _ ⟨rfl, hlt⟩, tape_Parse_l1_eq]
      have hw : IntKind.i64.wrap ((bs.length : Int) - 1) = (bs.length : Int) - 1 := wrap_i64n (by omega) (by omega)
      have hd : decide (((a - 1 : Nat) : Int) < (bs.length : Int) - 1) = true := by simp; omega
      have hd2 : decide (L.length ≤ 2513169434915) = true := by simp; omega
      have e1 : m_tape_Parse_l1_step (bs, r, c) (bs.drop a, ((a - 1 : Nat) : Int), ((0 : Nat) : Int)) L = some (.inl ((bs, r, c), (bs.drop (oneP bs a).1, (((oneP bs a).1 - 1 : Nat) : Int), ((oneP bs a).2.1 : Int)), L ++ [ev])) := by
        unfold m_tape_Parse_l1_step
        simp [m_num_Err, m_num_At, hw, hd, hev, hd2]
      rw [e1, unr_l]
      refine ih _ _ _ _ ?_ (by omega) ho.2.1 fun h0 => ?_
      · rw [if_pos rfl] at hk
        by_cases h0 : (oneP bs a).2.1 = 0
        · rw [if_pos h0]; have := hol h0; omega
        · rw [if_neg h0]; omega
      · rw [hev2 h0, hL1]
        refine ⟨by simp, ?_⟩
        have := hol h0
        rw [hL1] at hL2
        simp at hL2 ⊢
        omega
    · exact stop a e l L h1 ha hL h
theorem parse_ref_loop {bs : List Int} (hB : ∀ c ∈ bs, Byt c) (hl : bs.length ≤ 1000000) (r c : Int) : ∀ (k a e : Nat) (l : List Ev) (L : List E5), (if e = 0 then bs.length + 1 - a else 0) ≤ k → a ≤ bs.length → (e = 0 → L = l.map evT ∧ L.length ≤ a) →
    m_r34_Parse_l1 ((bs, r, c), (bs, (a : Int), (e : Int)), L) = some (fin r c (evsP bs a e l)) := by
  have stop : ∀ (a e : Nat) (l : List Ev) (L : List E5), a ≤ bs.length → (e = 0 → L = l.map evT ∧ L.length ≤ a) → ¬ (e = 0 ∧ a < bs.length) → m_r34_Parse_l1 ((bs, r, c), (bs, (a : Int), (e : Int)), L) = some (fin r c (evsP bs a e l)) := by
    intro a e l L ha hL h
    rw [evsP_end _ _ _ _ h, r34_Parse_l1_eq]
    unfold m_r34_Parse_l1_step fin
    by_cases he : e = 0
    · subst he
      have hd : decide (a < bs.length) = false := by simp; omega
      simp [hd, (hL rfl).1]
    · have h1 : ((e : Int) == 0) = false := by simp; omega
      have h2 : ((e : Int) != 0) = true := by simp; omega
      simp [h1, h2, he]
  intro k
  induction k with
  | zero =>
    intro a e l L hk ha hL
    refine stop a e l L ha hL fun h => ?_
    rw [if_pos h.1] at hk
    omega
  | succ k ih =>
    intro a e l L hk ha hL
    by_cases h : e = 0 ∧ a < bs.length
    · obtain ⟨rfl, hlt⟩ := h
      obtain ⟨hL1, hL2⟩ := hL rfl
      obtain ⟨ev, hev, hev2⟩ := one_ref hB hl ha hlt r c L (by omega)
      have ho := oneP_le (bs := bs) ha
      have hol := oneP_lt bs a
      rw [evsP_run _ _ _ _ ⟨rfl, hlt⟩, r34_Parse_l1_eq]
      refine (congrArg (unr · m_r34_Parse_l1) hev).trans ?_
      rw [unr_l]
      refine ih _ _ _ _ ?_ ho.2.1 fun h0 => ?_
      · rw [if_pos rfl] at hk
        by_cases h0 : (oneP bs a).2.1 = 0
        · rw [if_pos h0]; have := hol h0; omega
        · rw [if_neg h0]; omega
      · rw [hev2 h0, hL1]
        refine ⟨by simp, ?_⟩
        have := hol h0
        rw [hL1] at hL2
        simp at hL2 ⊢
        omega
    · exact stop a e l L ha hL h
/-- What a tape tells. -/
def outP (bs : List Int) : P4 := out4 (parseP bs)
theorem parse_num {bs : List Int} (hB : ∀ c ∈ bs, Byt c) (hl : bs.length ≤ 1000000) : m_tape_Parse bs = some (outP bs) := by
  unfold m_tape_Parse outP parseP
  cases hbs : bs with
  | nil => simp [out4]
  | cons x xs =>
    by_cases hx : x = 84
    · subst hx
      rw [← hbs]
      have h0 : bs[0]? = some 84 := by rw [hbs]; rfl
      have hlen : 1 ≤ bs.length := by rw [hbs]; simp
      have hz : ((bs.length : Int) == 0) = false := beq_eq_false_iff_ne.2 (by omega)
      have hz1 : decide ((0 : Int) ≤ 1 ∧ 1 ≤ bs.length) = true := decide_eq_true ⟨by decide, hlen⟩
      have hU : m_num_Upto 512 (bs.drop 1) 0 0 = _ := up_num hB hl (s := 1) hlen (Nat.le_refl 1) 0 512 (by decide)
      have g1 := rUp_le (bs := bs) (a := 1) (e := 0) (m := 512) (w := 5) hlen (by decide) (by decide)
      have g2 := (rUp_mono bs 1 0 512 5).1
      have hV : m_num_Upto 512 (bs.drop (rUp bs 1 0 512 5).1) (((rUp bs 1 0 512 5).1 - 1 : Nat) : Int) _ = _ := up_num hB hl (s := 1) g1.1 g2 (rUp bs 1 0 512 5).2.1 512 (by decide)
      have g3 := rUp_le (bs := bs) (a := (rUp bs 1 0 512 5).1) (e := (rUp bs 1 0 512 5).2.1) (m := 512) (w := 5) g1.1 g1.2.1 (by decide)
      have g4 := (rUp_mono bs (rUp bs 1 0 512 5).1 (rUp bs 1 0 512 5).2.1 512 5).1
      simp only [hz, h0, cond_false, Option.bind_some, bne_self_eq_false, hz1, m_num_New, hU, hV]
      generalize rUp bs 1 0 512 5 = u at g1 g2 hV g3 g4 ⊢
      generalize rUp bs u.1 u.2.1 512 5 = t at g3 g4 ⊢
      have hloop := fun e => parse_num_loop hB hl (u.2.2 : Int) (t.2.2 : Int) _ t.1 e [] [] (Nat.le_refl _) (Nat.le_trans g2 g4) g3.1 (fun _ => ⟨rfl, Nat.zero_le _⟩)
      rw [if_neg (by simp), ← fin_out]
      by_cases ht : t.2.1 = 0
      · have ht' : ((t.2.1 : Int) == 0) = true := beq_iff_eq.2 (by omega)
        by_cases hu : u.2.2 = 0
        · have hu' : ((u.2.2 : Int) == 0) = true := beq_iff_eq.2 (by omega)
          have hq : m_tape_Parse_l1 ((bs, (u.2.2 : Int), (t.2.2 : Int)), (bs.drop t.1, ((t.1 - 1 : Nat) : Int), 11), []) = _ := hloop 11
          rw [if_pos ⟨ht, .inl hu⟩, ← hq]
          simp only [m_num_Err, m_num_Fail, ht', hu', Option.bind_some, cond_true, decide_true, Option.bind_fun_some]
        · have hu' : ((u.2.2 : Int) == 0) = false := beq_eq_false_iff_ne.2 (by omega)
          by_cases hc : t.2.2 = 0
          · have hc' : ((t.2.2 : Int) == 0) = true := beq_iff_eq.2 (by omega)
            have hq : m_tape_Parse_l1 ((bs, (u.2.2 : Int), (t.2.2 : Int)), (bs.drop t.1, ((t.1 - 1 : Nat) : Int), 11), []) = _ := hloop 11
            rw [if_pos ⟨ht, .inr hc⟩, ← hq]
            simp only [m_num_Err, m_num_Fail, ht', hu', hc', Option.bind_some, cond_true, cond_false, decide_true, Option.bind_fun_some]
          · have hc' : ((t.2.2 : Int) == 0) = false := beq_eq_false_iff_ne.2 (by omega)
            have hq := hloop t.2.1
            rw [if_neg (by omega), ← hq]
            simp only [m_num_Err, m_num_Fail, ht', hu', hc', Option.bind_some, cond_true, cond_false, decide_true, Option.bind_fun_some]
      · have ht' : ((t.2.1 : Int) == 0) = false := beq_eq_false_iff_ne.2 (by omega)
        have hq := hloop t.2.1
        rw [if_neg (by omega), ← hq]
        simp only [m_num_Err, m_num_Fail, ht', Option.bind_some, cond_true, cond_false, decide_true, Option.bind_fun_some]
    · have hx2 : (x != 84) = true := bne_iff_ne.2 hx
      have hz : ((xs.length : Int) + 1 == 0) = false := beq_eq_false_iff_ne.2 (by omega)
      simp [hx, hx2, hz, out4]
theorem parse_ref {bs : List Int} (hB : ∀ c ∈ bs, Byt c) (hl : bs.length ≤ 1000000) : m_r34_Parse bs = some (outP bs) := by
  unfold m_r34_Parse outP parseP
  cases hbs : bs with
  | nil => simp [out4]
  | cons x xs =>
    by_cases hx : x = 84
    · subst hx
      rw [← hbs]
      have h0 : bs[0]? = some 84 := by rw [hbs]; rfl
      have hlen : 1 ≤ bs.length := by rw [hbs]; simp
      have hz : ((bs.length : Int) == 0) = false := beq_eq_false_iff_ne.2 (by omega)
      have hU : m_r01_Up (bs, 1, 0) 512 5 = _ := up_ref hB hl hlen 0 512 5 (by decide)
      have g1 := rUp_le (bs := bs) (a := 1) (e := 0) (m := 512) (w := 5) hlen (by decide) (by decide)
      have g2 := (rUp_mono bs 1 0 512 5).1
      have hV : m_r01_Up (bs, ((rUp bs 1 0 512 5).1 : Int), _) 512 5 = _ := up_ref hB hl g1.1 (rUp bs 1 0 512 5).2.1 512 5 (by decide)
      have g3 := rUp_le (bs := bs) (a := (rUp bs 1 0 512 5).1) (e := (rUp bs 1 0 512 5).2.1) (m := 512) (w := 5) g1.1 g1.2.1 (by decide)
      have g4 := (rUp_mono bs (rUp bs 1 0 512 5).1 (rUp bs 1 0 512 5).2.1 512 5).1
      simp only [hz, h0, cond_false, Option.bind_some, bne_self_eq_false, hU, hV]
      generalize rUp bs 1 0 512 5 = u at g1 g2 hV g3 g4 ⊢
      generalize rUp bs u.1 u.2.1 512 5 = t at g3 g4 ⊢
      have hloop := fun e => parse_ref_loop hB hl (u.2.2 : Int) (t.2.2 : Int) _ t.1 e [] [] (Nat.le_refl _) g3.1 (fun _ => ⟨rfl, Nat.zero_le _⟩)
      rw [if_neg (by simp), ← fin_out]
      by_cases ht : t.2.1 = 0
      · have ht' : ((t.2.1 : Int) == 0) = true := beq_iff_eq.2 (by omega)
        by_cases hu : u.2.2 = 0
        · have hu' : ((u.2.2 : Int) == 0) = true := beq_iff_eq.2 (by omega)
          have hq : m_r34_Parse_l1 ((bs, (u.2.2 : Int), (t.2.2 : Int)), (bs, (t.1 : Int), 11), []) = _ := hloop 11
          rw [if_pos ⟨ht, .inl hu⟩, ← hq]
          simp only [ht', hu', Option.bind_some, cond_true, decide_true, Option.bind_fun_some]
        · have hu' : ((u.2.2 : Int) == 0) = false := beq_eq_false_iff_ne.2 (by omega)
          by_cases hc : t.2.2 = 0
          · have hc' : ((t.2.2 : Int) == 0) = true := beq_iff_eq.2 (by omega)
            have hq : m_r34_Parse_l1 ((bs, (u.2.2 : Int), (t.2.2 : Int)), (bs, (t.1 : Int), 11), []) = _ := hloop 11
            rw [if_pos ⟨ht, .inr hc⟩, ← hq]
            simp only [ht', hu', hc', Option.bind_some, cond_true, cond_false, decide_true, Option.bind_fun_some]
          · have hc' : ((t.2.2 : Int) == 0) = false := beq_eq_false_iff_ne.2 (by omega)
            have hq := hloop t.2.1
            rw [if_neg (by omega), ← hq]
            simp only [ht', hu', hc', Option.bind_some, cond_true, cond_false, decide_true, Option.bind_fun_some]
      · have ht' : ((t.2.1 : Int) == 0) = false := beq_eq_false_iff_ne.2 (by omega)
        have hq := hloop t.2.1
        rw [if_neg (by omega), ← hq]
        simp only [ht', Option.bind_some, cond_true, cond_false, decide_true, Option.bind_fun_some]
    · have hx2 : (x != 84) = true := bne_iff_ne.2 hx
      have hz : ((xs.length : Int) + 1 == 0) = false := beq_eq_false_iff_ne.2 (by omega)
      simp [hx, hx2, hz, out4]
end Go.Sim

set_option maxRecDepth 100000
set_option maxHeartbeats 4000000
set_option linter.unusedVariables false
namespace Go.Sim
theorem readM_num : ∀ (cs : List Int), (∀ c ∈ cs, Byt c) → ∀ (i acc : Nat), (readM cs i acc).2.2 = 0 → ∃ v j, (readM cs i acc).1 = acc + v * un i ∧ (readM cs i acc).2.1 = i + j ∧ j ≤ cs.length ∧ numB v = cs.take j ∧ (0 < i → 1 ≤ v)
  | [], _, i, acc, h => by simp [readM] at h
  | c :: r, hB, i, acc, h => by
    obtain ⟨m, rfl, hm⟩ := (hB c List.mem_cons_self).nat
    rw [readM] at h ⊢
    split at h
    · simp at h
    · rename_i h1
      rw [if_neg h1]
      split at h
      · rename_i h2
        rw [if_pos h2]
        refine ⟨m, 1, ?_, rfl, by simp, ?_, ?_⟩
        · rw [Int.toNat_natCast, Nat.mod_eq_of_lt (by omega)]
        · rw [numB, if_pos (by omega)]; rfl
        · intro h; omega
      · rename_i h2
        rw [if_neg h2]
        obtain ⟨v, j, g1, g2, g3, g4, g5⟩ := readM_num r (fun c h => hB c (List.mem_cons_of_mem _ h)) (i + 1) _ h
        have hv := g5 (by omega)
        refine ⟨m % 128 + 128 * v, j + 1, ?_, by rw [g2]; omega, by simp; omega, ?_, fun _ => by omega⟩
        · rw [g1, un_succ, Int.toNat_natCast, Nat.add_mul, Nat.mul_assoc, Nat.add_assoc]
          congr 2
          rw [Nat.mul_comm 128, Nat.mul_assoc]
        · rw [numB, if_neg (by omega), List.take_succ_cons, show (m % 128 + 128 * v) / 128 = v by omega, g4]
          congr 1
          omega
theorem rNum_num {bs : List Int} (hB : ∀ c ∈ bs, Byt c) {a : Nat} (ha : a ≤ bs.length) (e : Nat) (h : (rNum bs a e).2.1 = 0) : bs.drop a = numB (rNum bs a e).2.2 ++ bs.drop (rNum bs a e).1 := by
  have he := ((rNum_mono bs a e).2 h).2
  subst he
  rw [rNum_0] at h ⊢
  obtain ⟨v, j, g1, g2, g3, g4, -⟩ := readM_num (bs.drop a) (Byts.drop hB a) 0 0 h
  simp only
  rw [g1, g2, show 0 + v * un 0 = v by unfold un; simp, g4, Nat.zero_add, ← List.drop_drop]
  exact (List.take_append_drop _ _).symm
theorem rUp_num {bs : List Int} (hB : ∀ c ∈ bs, Byt c) {a : Nat} (ha : a ≤ bs.length) (e m w : Nat) (hw : w ≠ 0) (h : (rUp bs a e m w).2.1 = 0) : bs.drop a = numB (rUp bs a e m w).2.2 ++ bs.drop (rUp bs a e m w).1 := by
  unfold rUp at h ⊢
  split at h
  · exact absurd h hw
  · rename_i h1
    rw [if_neg h1]
    exact rNum_num hB ha e h
theorem rTake_num {bs : List Int} {a : Nat} (ha : a ≤ bs.length) (e n : Nat) (h : (rTake bs a e n).2.1 = 0) : bs.drop a = (rTake bs a e n).2.2 ++ bs.drop (rTake bs a e n).1 ∧ (rTake bs a e n).2.2.length = n := by
  have he := (rTake_mono bs a e n).2 h
  subst he
  rw [rTake_0] at h ⊢
  split at h
  · cases h
  · rename_i h1
    rw [if_neg h1]
    refine ⟨?_, by simp; omega⟩
    rw [← List.drop_drop]
    exact (List.take_append_drop _ _).symm
def okE (e : Ev) : Prop := 1 ≤ e.kind ∧ e.kind ≤ 5 ∧ e.b.length ≤ 4096 ∧ 0 ≤ e.rows ∧ e.rows ≤ 1048576 ∧ 0 ≤ e.cols ∧ e.cols ≤ 1048576 ∧ 0 ≤ e.n ∧ e.n < 18446744073709551616
theorem oneP_bytes {bs : List Int} (hB : ∀ c ∈ bs, Byt c) {a : Nat} (ha : a ≤ bs.length) (h : (oneP bs a).2.1 = 0) : bs.drop a = evB (oneP bs a).2.2 ++ bs.drop (oneP bs a).1 ∧ okE (oneP bs a).2.2 := by
  unfold oneP at h ⊢
  simp only at h ⊢
  have h0 := rNum_num hB ha 0
  have hp := (rNum_le (bs := bs) (a := a) (e := 0) ha (by decide)).1
  generalize rNum bs a 0 = u at h h0 hp ⊢
  obtain ⟨p, e, n⟩ := u
  simp only at h h0 hp ⊢
  have he := (kindP_mono bs p (if e = 0 ∧ (n < 1 ∨ 5 < n) then 9 else e) n).2 h
  have hk : e = 0 ∧ 1 ≤ n ∧ n ≤ 5 := by
    split at he
    · cases he
    · omega
  obtain ⟨rfl, k1, k2⟩ := hk
  rw [if_neg (by omega)] at h ⊢
  have h0 := h0 rfl
  have hnb : numB n = [(n : Int)] := by rw [numB, if_pos (by omega)]
  rw [hnb] at h0
  have hU := fun m => rUp_num hB hp 0 m 5 (by decide)
  have hN := rNum_num hB hp 0
  have hNl := rNum_lt bs hB p 0
  have g1 := rUp_le (bs := bs) (a := p) (e := 0) (m := 4096) (w := 5) hp (by decide) (by decide)
  have g3 := rUp_le (bs := bs) (a := p) (e := 0) (m := 1048576) (w := 5) hp (by decide) (by decide)
  have g5 := rUp_le (bs := bs) (a := (rUp bs p 0 1048576 5).1) (e := (rUp bs p 0 1048576 5).2.1) (m := 1048576) (w := 5) g3.1 g3.2.1 (by decide)
  have hT := rTake_num g1.1 (rUp bs p 0 4096 5).2.1 (rUp bs p 0 4096 5).2.2
  have hTm := rTake_mono bs (rUp bs p 0 4096 5).1 (rUp bs p 0 4096 5).2.1 (rUp bs p 0 4096 5).2.2
  have hV := rUp_num hB g3.1 (rUp bs p 0 1048576 5).2.1 1048576 5 (by decide)
  have hVm := rUp_mono bs (rUp bs p 0 1048576 5).1 (rUp bs p 0 1048576 5).2.1 1048576 5
  have hk : n = 1 ∨ n = 2 ∨ n = 3 ∨ n = 4 ∨ n = 5 := by omega
  rcases hk with rfl | rfl | rfl | rfl | rfl
  · simp only [kindP, true_or, if_true] at h ⊢
    have hT := hT h
    have hU := hU 4096 (hTm.2 h)
    refine ⟨?_, ?_⟩
    · rw [h0, hU, hT.1]; simp [evB, hT.2]
    · simp [okE, hT.2]; omega
  · simp only [kindP, or_true, if_true] at h ⊢
    have hT := hT h
    have hU := hU 4096 (hTm.2 h)
    refine ⟨?_, ?_⟩
    · rw [h0, hU, hT.1]; simp [evB, hT.2]
    · simp [okE, hT.2]; omega
  · simp only [kindP, show ¬ (3 = 1 ∨ 3 = 2) by decide, if_false, true_or, if_true] at h ⊢
    refine ⟨?_, ?_⟩
    · rw [h0, hN h]; simp [evB]
    · simp [okE]; omega
  · simp only [kindP, show ¬ (4 = 1 ∨ 4 = 2) by decide, show ¬ (4 = 3 ∨ 4 = 5) by decide, if_false, if_true] at h ⊢
    refine ⟨?_, ?_⟩
    · rw [h0, hU 1048576 (hVm.2 h (by decide)), hV h]; simp [evB]
    · simp [okE]; omega
  · simp only [kindP, show ¬ (5 = 1 ∨ 5 = 2) by decide, if_false, or_true, if_true] at h ⊢
    refine ⟨?_, ?_⟩
    · rw [h0, hN h]; simp [evB]
    · simp [okE]; omega
theorem evsP_bytes {bs : List Int} (hB : ∀ c ∈ bs, Byt c) : ∀ (k a e : Nat) (l : List Ev), (if e = 0 then bs.length + 1 - a else 0) ≤ k → a ≤ bs.length → (∀ x ∈ l, okE x) → l.length ≤ a → (evsP bs a e l).1 = 0 → evsB (evsP bs a e l).2 = evsB l ++ bs.drop a ∧ (∀ x ∈ (evsP bs a e l).2, okE x) ∧ (evsP bs a e l).2.length ≤ bs.length := by
  have stop : ∀ (a e : Nat) (l : List Ev), a ≤ bs.length → (∀ x ∈ l, okE x) → l.length ≤ a → ¬ (e = 0 ∧ a < bs.length) → (evsP bs a e l).1 = 0 → evsB (evsP bs a e l).2 = evsB l ++ bs.drop a ∧ (∀ x ∈ (evsP bs a e l).2, okE x) ∧ (evsP bs a e l).2.length ≤ bs.length := by
    intro a e l ha ho hla h h0
    rw [evsP_end _ _ _ _ h] at h0 ⊢
    simp only at h0 ⊢
    rw [List.drop_eq_nil_of_le (by omega), List.append_nil]
    exact ⟨rfl, ho, by omega⟩
  intro k
  induction k with
  | zero =>
    intro a e l hk ha ho hla h0
    refine stop a e l ha ho hla (fun h => ?_) h0
    rw [if_pos h.1] at hk
    omega
  | succ k ih =>
    intro a e l hk ha ho hla h0
    by_cases h : e = 0 ∧ a < bs.length
    · obtain ⟨rfl, hlt⟩ := h
      rw [evsP_run _ _ _ _ ⟨rfl, hlt⟩] at h0 ⊢
      have hle := oneP_le (bs := bs) ha
      by_cases h1 : (oneP bs a).2.1 = 0
      · have hol := oneP_lt bs a h1
        obtain ⟨b1, b2⟩ := oneP_bytes hB ha h1
        obtain ⟨c1, c2, c3⟩ := ih _ _ _ (by rw [if_pos h1]; rw [if_pos rfl] at hk; omega) hle.2.1 (fun x hx => by rcases List.mem_append.1 hx with hx | hx; exact ho x hx; cases List.mem_singleton.1 hx; exact b2) (by simp; omega) h0
        refine ⟨?_, c2, c3⟩
        rw [c1, b1]
        simp [evsB]
      · rw [evsP_end _ _ _ _ (fun q => h1 q.1)] at h0
        exact absurd h0 h1
    · exact stop a e l ha ho hla h h0
theorem parseP_bytes {bs : List Int} (hB : ∀ c ∈ bs, Byt c) (h : (parseP bs).2.2.2 = 0) : headB (parseP bs).1 (parseP bs).2.1 ++ evsB (parseP bs).2.2.1 = bs ∧ (∀ x ∈ (parseP bs).2.2.1, okE x) ∧ 1 ≤ (parseP bs).1 ∧ (parseP bs).1 ≤ 512 ∧ 1 ≤ (parseP bs).2.1 ∧ (parseP bs).2.1 ≤ 512 ∧ (parseP bs).2.2.1.length ≤ bs.length := by
  unfold parseP at h ⊢
  by_cases h84 : bs[0]? = some 84
  · rw [if_neg (by simp [h84])] at h ⊢
    simp only at h ⊢
    have hlen : 1 ≤ bs.length := by
      cases bs with
      | nil => simp at h84
      | cons x xs => simp
    have hb1 : bs = 84 :: bs.drop 1 := by
      cases bs with
      | nil => simp at h84
      | cons x xs => simp at h84; simp [h84]
    have g1 := rUp_le (bs := bs) (a := 1) (e := 0) (m := 512) (w := 5) hlen (by decide) (by decide)
    have g2 := (rUp_mono bs 1 0 512 5).1
    have n1 := rUp_num hB hlen 0 512 5 (by decide)
    have n2 := rUp_num hB g1.1 (rUp bs 1 0 512 5).2.1 512 5 (by decide)
    have g3 := rUp_le (bs := bs) (a := (rUp bs 1 0 512 5).1) (e := (rUp bs 1 0 512 5).2.1) (m := 512) (w := 5) g1.1 g1.2.1 (by decide)
    have g4 := rUp_mono bs (rUp bs 1 0 512 5).1 (rUp bs 1 0 512 5).2.1 512 5
    generalize rUp bs 1 0 512 5 = u at h g1 g2 n1 n2 g3 g4 ⊢
    generalize rUp bs u.1 u.2.1 512 5 = t at h g3 g4 n2 ⊢
    have hev := evsP_bytes hB _ t.1 (if t.2.1 = 0 ∧ (u.2.2 = 0 ∨ t.2.2 = 0) then 11 else t.2.1) [] (Nat.le_refl _) g3.1 (by simp) (by simp)
    by_cases hr : (evsP bs t.1 (if t.2.1 = 0 ∧ (u.2.2 = 0 ∨ t.2.2 = 0) then 11 else t.2.1) []).1 = 0
    · obtain ⟨c1, c2, c3⟩ := hev hr
      rw [if_neg (by simp [hr])] at h ⊢
      simp only at h ⊢
      have hok : t.2.1 = 0 ∧ u.2.2 ≠ 0 ∧ t.2.2 ≠ 0 := by
        by_cases hc : t.2.1 = 0 ∧ (u.2.2 = 0 ∨ t.2.2 = 0)
        · rw [if_pos hc, evsP_end _ _ _ _ (by simp)] at hr
          cases hr
        · rw [if_neg hc] at hr
          by_cases ht : t.2.1 = 0
          · exact ⟨ht, fun q => hc ⟨ht, .inl q⟩, fun q => hc ⟨ht, .inr q⟩⟩
          · rw [evsP_end _ _ _ _ (fun q => ht q.1)] at hr
            exact absurd hr ht
      refine ⟨?_, c2, by omega, by omega, by omega, by omega, c3⟩
      rw [c1]
      conv => rhs; rw [hb1, n1 (g4.2 hok.1 (by decide)), n2 hok.1]
      simp [headB, evsB]
    · rw [if_pos hr] at h
      exact absurd h hr
  · rw [if_pos h84] at h
    cases h
end Go.Sim

set_option maxRecDepth 100000
set_option maxHeartbeats 4000000
set_option linter.unusedVariables false
namespace Go.Sim
theorem num_Bytes_l1_eq (a b) : m_num_Bytes_l1 (a, b) = unr (m_num_Bytes_l1_step a b) m_num_Bytes_l1 := loopM_unr _ _
theorem num_Bytes_l2_eq (a b) : m_num_Bytes_l2 (a, b) = unr (m_num_Bytes_l2_step a b) m_num_Bytes_l2 := loopM_unr _ _
theorem tape_Bytes_1l_l1_eq (a b) : m_tape_Bytes_1l_l1 (a, b) = unr (m_tape_Bytes_1l_l1_step a b) m_tape_Bytes_1l_l1 := loopM_unr _ _
theorem tape_Bytes_l1_eq (a b) : m_tape_Bytes_l1 (a, b) = unr (m_tape_Bytes_l1_step a b) m_tape_Bytes_l1 := loopM_unr _ _
theorem numB_len10 {n : Nat} (h : n < 18446744073709551616) : (numB n).length ≤ 10 := numB_len n 9 (by omega)
theorem bytes_num_l1 (l : List Int) (n i : Int) : ∀ (k m : Nat) (out : List Int), m ≤ k → m < 18446744073709551616 → out.length + (numB m).length ≤ 140737488355328 →
    m_num_Bytes_l1 (((m : Int), l, n, i), out) = some (.inl ((l, n, IntKind.i64.wrap (i + 1)), out ++ numB m)) := by
  intro k
  induction k with
  | zero =>
    intro m out hm hlt hl
    have : m = 0 := by omega
    subst this
    rw [numB, if_pos (by omega)] at hl ⊢
    simp only [List.length_singleton] at hl
    rw [num_Bytes_l1_eq]
    unfold m_num_Bytes_l1_step
    have w0 : IntKind.u8.wrap 0 = 0 := by decide +kernel
    have hd : decide (out.length ≤ 140737488355327) = true := decide_eq_true (by omega)
    simp [w0, hd]
  | succ k ih =>
    intro m out hm hlt hl
    rw [num_Bytes_l1_eq]
    unfold m_num_Bytes_l1_step
    by_cases h : m < 128
    · rw [numB, if_pos h] at hl ⊢
      simp only [List.length_singleton] at hl
      have hd : decide (out.length ≤ 140737488355327) = true := decide_eq_true (by omega)
      have hc : decide ((127 : Int) < (m : Int)) = false := by simp; omega
      simp [hc, hd, wrap_u8 (n := (m : Int)) (by omega) (by omega)]
    · have hpos := numB_pos (m / 128)
      rw [numB, if_neg h] at hl ⊢
      simp only [List.length_cons] at hl
      have hd : decide (out.length + 1 ≤ 140737488355328) = true := by simp; omega
      have hc : decide ((127 : Int) < (m : Int)) = true := by simp; omega
      have hb : bits .or .u64 (bits .and .u64 (m : Int) 127) 128 = ((128 + m % 128 : Nat) : Int) := by
        rw [show (127 : Int) = ((127 : Nat) : Int) from rfl, bits_and_nat hlt (by omega), show (128 : Int) = ((128 : Nat) : Int) from rfl, show (127 : Nat) = 2 ^ 7 - 1 from rfl, Nat.and_two_pow_sub_one_eq_mod, bits_or_nat (by omega) (by omega)]
        congr 1
        have := Nat.two_pow_add_eq_or_of_lt (i := 7) (b := m % 2 ^ 7) (by omega) 1
        rw [Nat.or_comm, ← this]
      have hf : (m : Int).fdiv 128 = ((m / 128 : Nat) : Int) := by rw [Int.fdiv_eq_ediv_of_nonneg _ (by omega)]; rfl
      have hw : IntKind.u8.wrap ((128 + m % 128 : Nat) : Int) = ((128 + m % 128 : Nat) : Int) := wrap_u8 (by omega) (by omega)
      have hih := ih (m / 128) (out ++ [((128 + m % 128 : Nat) : Int)]) (by omega) (by omega) (by simp; omega)
      simp only [hb, hw, hf, hc, hd, cond_true, decide_true, true_and, List.length_append, List.length_singleton, unr_l]
      rw [hih]
      simp
theorem bytes_num (m : Nat) (h : m < 18446744073709551616) : m_num_Bytes [(m : Int)] = some (numB m) := by
  have hl := numB_len10 h
  have h1 := bytes_num_l1 [(m : Int)] 1 0 m m [] (Nat.le_refl _) h (by simp; omega)
  have w1 : IntKind.i64.wrap (0 + 1) = 1 := by decide +kernel
  rw [w1] at h1
  unfold m_num_Bytes
  rw [num_Bytes_l2_eq]
  have e1 : m_num_Bytes_l2_step ([(m : Int)], 1, 0) [] = some (.inl (([(m : Int)], 1, 1), numB m)) := by
    unfold m_num_Bytes_l2_step
    simp [h1]
  have e2 : m_num_Bytes_l2_step ([(m : Int)], 1, 1) (numB m) = some (.inr (numB m)) := by
    unfold m_num_Bytes_l2_step
    simp
  simp only [List.length_singleton]
  rw [show ((1 : Nat) : Int) = 1 from rfl, e1, unr_l, num_Bytes_l2_eq, e2]
  rfl
def nums (xs : List Nat) : List Int := (xs.map numB).flatten
theorem tape_put_l1 (xs : List Nat) (hx : ∀ x ∈ xs, x < 9223372036854775808) (hxl : xs.length ≤ 1000) : ∀ (k i : Nat) (out : List Int), k = xs.length - i → i ≤ xs.length → out.length + 10 * k ≤ 140737488355328 →
    m_tape_Bytes_1l_l1 ((xs.map Int.ofNat, (xs.length : Int), (i : Int)), out) = some (out ++ nums (xs.drop i)) := by
  intro k
  induction k with
  | zero =>
    intro i out hk hi hl
    rw [tape_Bytes_1l_l1_eq]
    unfold m_tape_Bytes_1l_l1_step
    have hd : decide ((i : Int) < (xs.length : Int)) = false := by simp; omega
    rw [List.drop_eq_nil_of_le (by omega)]
    simp only [hd, cond_false, decide_true, cond_true, unr_r]
    simp [nums]
  | succ k ih =>
    intro i out hk hi hl
    have hlt : i < xs.length := by omega
    obtain ⟨x, hxi⟩ : ∃ x, xs[i]? = some x := ⟨_, List.getElem?_eq_getElem hlt⟩
    have hd : xs.drop i = x :: xs.drop (i + 1) := by rw [List.drop_eq_getElem_cons hlt]; rw [List.getElem?_eq_getElem hlt] at hxi; cases hxi; rfl
    have hxm := hx x (List.mem_of_getElem? hxi)
    have hn := numB_len10 (n := x) (by omega)
    have hb := bytes_num x (by omega)
    rw [tape_Bytes_1l_l1_eq, hd]
    have hxi' : (xs.map Int.ofNat)[i]? = some (x : Int) := by rw [List.getElem?_map, hxi]; rfl
    have wi : IntKind.i64.wrap ((i : Int) + 1) = (i + 1 : Nat) := by rw [wrap_i64n (by omega) (by omega)]; omega
    have hc : decide ((i : Int) < (xs.length : Int)) = true := by simp; omega
    have hz : decide ((0 : Int) ≤ (i : Int)) = true := by simp
    have hd2 : decide (out.length + (numB x).length ≤ 140737488355328) = true := by simp; omega
    have e1 : m_tape_Bytes_1l_l1_step (xs.map Int.ofNat, (xs.length : Int), (i : Int)) out = some (.inl ((xs.map Int.ofNat, (xs.length : Int), ((i + 1 : Nat) : Int)), out ++ numB x)) := by
      unfold m_tape_Bytes_1l_l1_step
      simp only [hc, hz, cond_true, Int.toNat_natCast, hxi', Option.bind_some, decide_true, wrap_u64 (n := (x : Int)) (by omega) (by omega), hb, wi, true_and, hd2, List.length_append]
    rw [e1, unr_l, ih (i + 1) (out ++ numB x) (by omega) (by omega) (by simp; omega)]
    simp [nums]
theorem tape_put (xs : List Nat) (hx : ∀ x ∈ xs, x < 9223372036854775808) (hxl : xs.length ≤ 1000) (out : List Int) (hl : out.length + 10 * xs.length ≤ 140737488355328) : m_tape_Bytes_1l (xs.map Int.ofNat) out = some (out ++ nums xs) := by
  have := tape_put_l1 xs hx hxl xs.length 0 out rfl (Nat.zero_le _) hl
  unfold m_tape_Bytes_1l
  rw [List.length_map, show ((0 : Int)) = ((0 : Nat) : Int) from rfl, this]
  simp
theorem put1 (x : Nat) (hx : x < 9223372036854775808) (out : List Int) (hl : out.length ≤ 100000000000) : m_tape_Bytes_1l [(x : Int)] out = some (out ++ numB x) := by
  have := tape_put [x] (by simpa using hx) (by simp) out (by simp; omega)
  simpa [nums] using this
theorem put2 (x y : Nat) (hx : x < 9223372036854775808) (hy : y < 9223372036854775808) (out : List Int) (hl : out.length ≤ 100000000000) : m_tape_Bytes_1l [(x : Int), (y : Int)] out = some (out ++ (numB x ++ numB y)) := by
  have := tape_put [x, y] (by simpa using ⟨hx, hy⟩) (by simp) out (by simp; omega)
  simpa [nums] using this
theorem check_ok {e : Ev} (h : okE e) : m_tape_Check e.kind e.b e.n e.rows e.cols = some 0 := by
  obtain ⟨h1, h2, h3, h4, h5, h6, h7, -⟩ := h
  have c1 : decide (e.kind < 1) = false := by simp; omega
  have c2 : decide (5 < e.kind) = false := by simp; omega
  have c3 : decide ((4096 : Int) < (e.b.length : Int)) = false := by simp; omega
  have c4 : decide (0 ≤ e.rows) = true := by simp; omega
  have c5 : decide (e.rows ≤ 1048576) = true := by simp; omega
  have c6 : decide (0 ≤ e.cols) = true := by simp; omega
  have c7 : decide (e.cols ≤ 1048576) = true := by simp; omega
  unfold m_tape_Check m_tape_Check_1
  simp only [c1, c2, c3, c4, c5, c6, c7, cond_false, cond_true, Option.bind_some, Bool.not_true, Bool.not_false]
theorem evB_len {e : Ev} (h : okE e) : (evB e).length ≤ 5000 := by
  obtain ⟨h1, h2, h3, h4, h5, h6, h7, h8, h9⟩ := h
  have n1 := numB_len10 (n := e.b.length) (by omega)
  have n2 := numB_len10 (n := e.rows.toNat) (by omega)
  have n3 := numB_len10 (n := e.cols.toNat) (by omega)
  have n4 := numB_len10 (n := e.n.toNat) (by omega)
  unfold evB
  split
  · simp; omega
  · split
    · simp; omega
    · simp; omega
theorem tape_round (l : List Ev) (hl : l.length ≤ 1000000) {i : Nat} {e : Ev} (hei : l[i]? = some e) (hok : okE e) (out : List Int) (hlo : out.length ≤ 9999995000) : m_tape_Bytes_l1_step (l.map evT, (l.length : Int), (i : Int)) out = some (.inl ((l.map evT, (l.length : Int), ((i + 1 : Nat) : Int)), out ++ evB e)) := by
  have hlt : i < l.length := (List.getElem?_eq_some_iff.1 hei).1
  have hck := check_ok hok
  obtain ⟨h1, h2, h3, h4, h5, h6, h7, h8, h9⟩ := hok
  have hxi' : (l.map evT)[i]? = some (evT e) := by rw [List.getElem?_map, hei]; rfl
  have wi : IntKind.i64.wrap ((i : Int) + 1) = (i + 1 : Nat) := by rw [wrap_i64n (by omega) (by omega)]; omega
  have hc : decide ((i : Int) < (l.length : Int)) = true := by simp; omega
  have hz : decide ((0 : Int) ≤ (i : Int)) = true := by simp
  unfold m_tape_Bytes_l1_step
  simp only [hc, hz, cond_true, Int.toNat_natCast, hxi', Option.bind_some, decide_true]
  obtain ⟨kd, b, n, rows, cols⟩ := e
  simp only [evT] at h1 h2 h3 h4 h5 h6 h7 h8 h9 hck ⊢
  obtain ⟨kn, rfl⟩ : ∃ kn : Nat, kd = kn := ⟨kd.toNat, by omega⟩
  obtain ⟨nn, rfl⟩ : ∃ kn : Nat, n = kn := ⟨n.toNat, by omega⟩
  obtain ⟨rn, rfl⟩ : ∃ kn : Nat, rows = kn := ⟨rows.toNat, by omega⟩
  obtain ⟨cn, rfl⟩ : ∃ kn : Nat, cols = kn := ⟨cols.toNat, by omega⟩
  have hk0 := numB_len10 (n := kn) (by omega)
  have hb0 := numB_len10 (n := b.length) (by omega)
  have hn0 := numB_len10 (n := nn) (by omega)
  have hkn : numB kn = [(kn : Int)] := by rw [numB, if_pos (by omega)]
  have p1 := put1 kn (by omega) out (by omega)
  have p2 := put1 b.length (by omega) (out ++ numB kn) (by simp; omega)
  have p3 := put2 rn cn (by omega) (by omega) (out ++ numB kn) (by simp; omega)
  have p4 := bytes_num nn (by omega)
  rw [hkn] at p1 p2 p3
  simp only [hck, Option.bind_some, bne_self_eq_false, cond_false, p1]
  have d1 : decide ((out ++ [(kn : Int)] ++ numB b.length).length + b.length ≤ 140737488355328) = true := by simp; omega
  have d2 : decide ((out ++ [(kn : Int)]).length + (numB nn).length ≤ 140737488355328) = true := by simp; omega
  have d0 : (out ++ [(kn : Int)] ++ numB b.length ++ b).length = (out ++ [(kn : Int)] ++ numB b.length).length + b.length := List.length_append
  have d3 : (out ++ [(kn : Int)] ++ numB nn).length = (out ++ [(kn : Int)]).length + (numB nn).length := List.length_append
  have f3 : ∀ m : Nat, kn ≠ m → ((kn : Int) == (m : Int)) = false := fun m h => beq_eq_false_iff_ne.2 (by omega)
  have t3 : ∀ m : Nat, kn = m → ((kn : Int) == (m : Int)) = true := fun m h => beq_iff_eq.2 (by omega)
  by_cases k1 : kn = 1
  · have q1 : ((kn : Int) == 1) = true := t3 1 k1
    simp only [q1, cond_true, Option.bind_some, p2, decide_true, true_and, d1, d0, wi]
    simp only [evB]
    rw [if_pos (by omega)]
    simp
  · have q1 : ((kn : Int) == 1) = false := f3 1 k1
    by_cases k2 : kn = 2
    · have q2 : ((kn : Int) == 2) = true := t3 2 k2
      simp only [q1, q2, cond_true, cond_false, Option.bind_some, p2, decide_true, true_and, d1, d0, wi]
      simp only [evB]
      rw [if_pos (by omega)]
      simp
    · have q2 : ((kn : Int) == 2) = false := f3 2 k2
      by_cases k4 : kn = 4
      · have q4 : ((kn : Int) == 4) = true := t3 4 k4
        simp only [q1, q2, q4, cond_true, cond_false, Option.bind_some, p3, decide_true, wi]
        simp only [evB]
        rw [if_neg (by omega), if_pos (by omega)]
        simp
      · have q4 : ((kn : Int) == 4) = false := f3 4 k4
        simp only [q1, q2, q4, cond_true, cond_false, Option.bind_some, p4, decide_true, true_and, d2, d3, wi]
        simp only [evB]
        rw [if_neg (by omega), if_neg (by omega)]
        simp
theorem tape_loop (l : List Ev) (ho : ∀ e ∈ l, okE e) (hl : l.length ≤ 1000000) : ∀ (k i : Nat) (out : List Int), k = l.length - i → i ≤ l.length → out.length + 5000 * k ≤ 10000000000 →
    m_tape_Bytes_l1 ((l.map evT, (l.length : Int), (i : Int)), out) = some (out ++ evsB (l.drop i), 0) := by
  intro k
  induction k with
  | zero =>
    intro i out hk hi hlo
    rw [tape_Bytes_l1_eq]
    unfold m_tape_Bytes_l1_step
    have hd : decide ((i : Int) < (l.length : Int)) = false := by simp; omega
    rw [List.drop_eq_nil_of_le (by omega)]
    simp only [hd, cond_false, decide_true, cond_true, unr_r]
    simp [evsB]
  | succ k ih =>
    intro i out hk hi hlo
    have hlt : i < l.length := by omega
    obtain ⟨e, hei⟩ : ∃ x, l[i]? = some x := ⟨_, List.getElem?_eq_getElem hlt⟩
    have hd : l.drop i = e :: l.drop (i + 1) := by rw [List.drop_eq_getElem_cons hlt]; rw [List.getElem?_eq_getElem hlt] at hei; cases hei; rfl
    have hok := ho e (List.mem_of_getElem? hei)
    have hle := evB_len hok
    rw [tape_Bytes_l1_eq, hd]
    have e1 := tape_round l hl hei hok out (by omega)
    rw [e1, unr_l, ih (i + 1) (out ++ evB e) (by omega) (by omega) (by simp; omega)]
    simp [evsB]
end Go.Sim

set_option maxRecDepth 100000
set_option maxHeartbeats 0
set_option linter.unusedVariables false
namespace Go.Sim
open Go.Proofs
noncomputable def m_TapeParses (x0 : (List Int)) : Option Bool :=
  bif decide (((0 : Int) ≤ if (400 : Int) < (↑x0.length : Int) then (400 : Int) else (↑x0.length : Int)) ∧ (if (400 : Int) < (↑x0.length : Int) then (400 : Int) else (↑x0.length : Int)).toNat ≤ x0.length) then
    Option.bind (m_tape_Parse (List.take (if (400 : Int) < (↑x0.length : Int) then (400 : Int) else (↑x0.length : Int)).toNat x0)) fun (x1 : (Int × (Int × ((List (Int × ((List Int) × (Int × (Int × Int))))) × Int)))) =>
      Option.bind (m_r34_Parse (List.take (if (400 : Int) < (↑x0.length : Int) then (400 : Int) else (↑x0.length : Int)).toNat x0)) fun (x2 : (Int × (Int × ((List (Int × ((List Int) × (Int × (Int × Int))))) × Int)))) =>
        bif x1.2.2.2 != x2.2.2.2 then
          some Bool.false
        else bif x1.1 != x2.1 then
            some Bool.false
          else bif x1.2.1 != x2.2.1 then
              some Bool.false
            else Option.bind (m_L34_ofs x1.2.2.1) fun (x3 : (List (Int × ((List Int) × (Int × (Int × Int)))))) =>
                Option.bind (m_r34_Same x3 x2.2.2.1) fun (x4 : Bool) =>
                  bif !x4 then
                    some Bool.false
                  else bif x1.2.2.2 != (0 : Int) then
                      Option.bind (m_L34_known) fun (x5 : Bool) =>
                        some x5
                    else Option.bind (m_tape_Bytes x1.1 x1.2.1 x1.2.2.1) fun (x5 : ((List Int) × Int)) =>
                        Option.bind (m_L34_known) fun (x6 : Bool) =>
                          bif x6 then
                            bif x5.2 == (0 : Int) then
                              Option.bind (m_r01_Same x5.1 (List.take (if (400 : Int) < (↑x0.length : Int) then (400 : Int) else (↑x0.length : Int)).toNat x0)) fun (x7 : Bool) =>
                                some x7
                            else some Bool.false
                          else some Bool.false
  else none
noncomputable def m_TapeTells_l1_step (x6 : (Int × (Int × ((List (Int × ((List Int) × (Int × (Int × Int))))) × ((List (Int × ((List Int) × (Int × (Int × Int))))) × Int))))) (x7 : (List (Int × ((List Int) × (Int × (Int × Int)))))) : Option (((Int × (Int × ((List (Int × ((List Int) × (Int × (Int × Int))))) × ((List (Int × ((List Int) × (Int × (Int × Int))))) × Int)))) × (List (Int × ((List Int) × (Int × (Int × Int)))))) ⊕ Bool) :=
  bif decide (x6.2.2.2.2 < (↑x6.2.2.1.length : Int)) then
    bif decide ((0 : Int) ≤ x6.2.2.2.2) then
      Option.bind (x6.2.2.1[x6.2.2.2.2.toNat]?) fun (x8 : (Int × ((List Int) × (Int × (Int × Int))))) =>
        bif decide ((0 : Int) ≤ x6.2.2.2.2) then
          Option.bind (x6.2.2.1[x6.2.2.2.2.toNat]?) fun (x9 : (Int × ((List Int) × (Int × (Int × Int))))) =>
            Option.bind (m_tape_Check x8.1 x8.2.1 x8.2.2.1 x8.2.2.2.1 x8.2.2.2.2) fun (x10 : Int) =>
              Option.bind (m_L29_Of x9.1 x9.2.1 x9.2.2.1 x9.2.2.2.1 x9.2.2.2.2) fun (x11 : (Int × ((List Int) × (Int × (Int × Int))))) =>
                Option.bind (m_r34_Check x11.1 x11.2.1 x11.2.2.1 x11.2.2.2.1 x11.2.2.2.2) fun (x12 : Int) =>
                  bif x10 != x12 then
                    some (Sum.inr Bool.false)
                  else bif decide ((0 : Int) ≤ x6.2.2.2.2) then
                      Option.bind (x6.2.2.1[x6.2.2.2.2.toNat]?) fun (x13 : (Int × ((List Int) × (Int × (Int × Int))))) =>
                        bif decide ((0 : Int) ≤ x6.2.2.2.2) then
                          Option.bind (x6.2.2.1[x6.2.2.2.2.toNat]?) fun (x14 : (Int × ((List Int) × (Int × (Int × Int))))) =>
                            Option.bind (m_tape_Plain x13.1 x13.2.1 x13.2.2.1 x13.2.2.2.1 x13.2.2.2.2) fun (x15 : (Int × ((List Int) × (Int × (Int × Int))))) =>
                              bif decide ((1 : Nat) = (1 : Nat)) then
                                Option.bind (m_L34_ofs [(x15.1, x15.2.1, x15.2.2.1, x15.2.2.2.1, x15.2.2.2.2)]) fun (x16 : (List (Int × ((List Int) × (Int × (Int × Int)))))) =>
                                  Option.bind (m_L29_Of x14.1 x14.2.1 x14.2.2.1 x14.2.2.2.1 x14.2.2.2.2) fun (x17 : (Int × ((List Int) × (Int × (Int × Int))))) =>
                                    Option.bind (m_r34_Plain x17.1 x17.2.1 x17.2.2.1 x17.2.2.2.1 x17.2.2.2.2) fun (x18 : (Int × ((List Int) × (Int × (Int × Int))))) =>
                                      bif decide ((1 : Nat) = (1 : Nat)) then
                                        Option.bind (m_r34_Same x16 [(x18.1, x18.2.1, x18.2.2.1, x18.2.2.2.1, x18.2.2.2.2)]) fun (x19 : Bool) =>
                                          bif !x19 then
                                            some (Sum.inr Bool.false)
                                          else bif decide ((0 : Int) ≤ x6.2.2.2.2) then
                                              Option.bind (x6.2.2.1[x6.2.2.2.2.toNat]?) fun (x20 : (Int × ((List Int) × (Int × (Int × Int))))) =>
                                                Option.bind (m_tape_Plain x20.1 x20.2.1 x20.2.2.1 x20.2.2.2.1 x20.2.2.2.2) fun (x21 : (Int × ((List Int) × (Int × (Int × Int))))) =>
                                                  bif decide ((1 : Nat) = (1 : Nat)) then
                                                    bif decide (x7.length = x7.length ∧ x7.length + (1 : Nat) ≤ (2513169434916 : Nat)) then
                                                      bif decide (x7.length + (1 : Nat) = (x7 ++ [(x21.1, x21.2.1, x21.2.2.1, x21.2.2.2.1, x21.2.2.2.2)]).length) then
                                                        some (Sum.inl ((x6.1, (x6.2.1, (x6.2.2.1, (x6.2.2.2.1, (Go.IntKind.i64.wrap (x6.2.2.2.2 + (1 : Int))))))), (x7 ++ [(x21.1, x21.2.1, x21.2.2.1, x21.2.2.2.1, x21.2.2.2.2)])))
                                                      else none
                                                    else none
                                                  else none
                                            else none
                                      else none
                              else none
                        else none
                    else none
        else none
    else none
  else Option.bind (m_tape_Bytes x6.1 x6.2.1 x6.2.2.1) fun (x8 : ((List Int) × Int)) =>
      Option.bind (m_L34_ofs x6.2.2.1) fun (x9 : (List (Int × ((List Int) × (Int × (Int × Int)))))) =>
        Option.bind (m_r34_Bytes x6.1 x6.2.1 x9) fun (x10 : ((List Int) × Int)) =>
          bif x8.2 != x10.2 then
            some (Sum.inr Bool.false)
          else Option.bind (m_r01_Same x8.1 x10.1) fun (x11 : Bool) =>
              bif !x11 then
                some (Sum.inr Bool.false)
              else Option.bind (m_tape_Same x6.2.2.1 x6.2.2.2.1) fun (x12 : Bool) =>
                  Option.bind (m_L34_ofs x6.2.2.1) fun (x13 : (List (Int × ((List Int) × (Int × (Int × Int)))))) =>
                    Option.bind (m_L34_ofs x6.2.2.2.1) fun (x14 : (List (Int × ((List Int) × (Int × (Int × Int)))))) =>
                      Option.bind (m_r34_Same x13 x14) fun (x15 : Bool) =>
                        bif !x12 == x15 then
                          some (Sum.inr Bool.false)
                        else bif x10.2 != (0 : Int) then
                            Option.bind (m_L34_known) fun (x16 : Bool) =>
                              some (Sum.inr x16)
                          else Option.bind (m_tape_Parse x8.1) fun (x16 : (Int × (Int × ((List (Int × ((List Int) × (Int × (Int × Int))))) × Int)))) =>
                              Option.bind (m_L34_known) fun (x17 : Bool) =>
                                bif x17 then
                                  bif x16.2.2.2 == (0 : Int) then
                                    bif x16.1 == x6.1 then
                                      bif x16.2.1 == x6.2.1 then
                                        bif decide (x7.length = x7.length) then
                                          Option.bind (m_tape_Same x16.2.2.1 x7) fun (x18 : Bool) =>
                                            some (Sum.inr x18)
                                        else none
                                      else some (Sum.inr Bool.false)
                                    else some (Sum.inr Bool.false)
                                  else some (Sum.inr Bool.false)
                                else some (Sum.inr Bool.false)
noncomputable def m_TapeTells_l1 : ((Int × (Int × ((List (Int × ((List Int) × (Int × (Int × Int))))) × ((List (Int × ((List Int) × (Int × (Int × Int))))) × Int)))) × (List (Int × ((List Int) × (Int × (Int × Int)))))) → Option Bool := loopM fun s => m_TapeTells_l1_step s.1 s.2
noncomputable def m_TapeTells (x0 : Int) (x1 : Int) (x2 : (List (Int × ((List Int) × (Int × (Int × Int)))))) (x3 : (List (Int × ((List Int) × (Int × (Int × Int)))))) : Option Bool :=
  Option.bind (m_L34_cut x2) fun (x4 : (List (Int × ((List Int) × (Int × (Int × Int)))))) =>
    Option.bind (m_L34_cut x3) fun (x5 : (List (Int × ((List Int) × (Int × (Int × Int)))))) =>
      Option.bind (m_TapeTells_l1 ((x0, (x1, (x4, (x5, ((0 : Int)))))), [])) fun (x6 : Bool) =>
        some x6
noncomputable def e_TapeTells : TEnt := ⟨9, .cons (.int .i64) (.cons (.int .i64) (.cons (.sl (.pair (.int .i64) (.pair (.sl (.int .u8)) (.pair (.int .u64) (.pair (.int .i64) (.int .i64)))))) (.sl (.pair (.int .i64) (.pair (.sl (.int .u8)) (.pair (.int .u64) (.pair (.int .i64) (.int .i64)))))))), [], [(.bool, [])], fun s => m_TapeTells s.1 s.2.1 s.2.2.1 s.2.2.2⟩
theorem e_TapeTells_ok : EntT Try.prog e_TapeTells := ent_of (tab := [e_r01_Same, e_tape_Parse, e_tape_Check, e_tape_Plain, e_tape_Bytes, e_tape_Same, e_r34_Check, e_r34_Plain, e_r34_Bytes, e_r34_Same, e_L29_Of, e_L34_ofs, e_L34_cut, e_L34_known]) (loops := [(37450, [0, 1, 2, 3, 9, 10], (.cons (.int .i64) (.cons (.int .i64) (.cons (.sl (.pair (.int .i64) (.pair (.sl (.int .u8)) (.pair (.int .u64) (.pair (.int .i64) (.int .i64)))))) (.cons (.sl (.pair (.int .i64) (.pair (.sl (.int .u8)) (.pair (.int .u64) (.pair (.int .i64) (.int .i64)))))) (.cons (.own 0) (.int .i64)))))), [.li (.pair (.int .i64) (.pair (.sl (.int .u8)) (.pair (.int .u64) (.pair (.int .i64) (.int .i64))))) 64 false])]) (joins := []) _ (by
    intro e he
    simp only [List.mem_cons, List.not_mem_nil, or_false] at he
    rcases he with rfl | rfl | rfl | rfl | rfl | rfl | rfl | rfl | rfl | rfl | rfl | rfl | rfl | rfl
    · exact e_r01_Same_ok
    · exact e_tape_Parse_ok
    · exact e_tape_Check_ok
    · exact e_tape_Plain_ok
    · exact e_tape_Bytes_ok
    · exact e_tape_Same_ok
    · exact e_r34_Check_ok
    · exact e_r34_Plain_ok
    · exact e_r34_Bytes_ok
    · exact e_r34_Same_ok
    · exact e_L29_Of_ok
    · exact e_L34_ofs_ok
    · exact e_L34_cut_ok
    · exact e_L34_known_ok) (fun s => by kernel_rfl) (by kernel_rfl)
end Go.Sim

set_option maxRecDepth 100000
set_option maxHeartbeats 4000000
set_option linter.unusedVariables false
namespace Go.Sim
theorem side_ok {x : Nat} (h1 : 1 ≤ x) (h2 : x ≤ 512) : m_tape_side x = some true := by
  unfold m_tape_side
  have c1 : decide ((1 : Int) ≤ (x : Int)) = true := by simp; omega
  have c2 : decide ((x : Int) ≤ 512) = true := by simp; omega
  simp only [c1, c2, cond_true]
theorem tape_bytes (r c : Nat) (hr : 1 ≤ r) (hr2 : r ≤ 512) (hc : 1 ≤ c) (hc2 : c ≤ 512) (l : List Ev) (ho : ∀ e ∈ l, okE e) (hl : l.length ≤ 1000000) : m_tape_Bytes r c (l.map evT) = some (headB r c ++ evsB l, 0) := by
  unfold m_tape_Bytes
  have n1 := numB_len10 (n := r) (by omega)
  have n2 := numB_len10 (n := c) (by omega)
  have hp := put2 r c (by omega) (by omega) [84] (by simp)
  have ht := tape_loop l ho hl l.length 0 ([84] ++ (numB r ++ numB c)) rfl (Nat.zero_le _) (by simp; omega)
  rw [List.drop_zero, show ((0 : Nat) : Int) = 0 from rfl] at ht
  simp only [side_ok hr hr2, side_ok hc hc2, Option.bind_some, Bool.not_true, cond_false, decide_true, cond_true, hp, List.length_map, ht]
  simp [headB]
theorem known_true : m_L34_known = some true := by
  have h := tape_bytes 1 5 (by decide) (by decide) (by decide) (by decide) [⟨1, [97], 0, 0, 0⟩, ⟨3, [], 300, 0, 0⟩] (by
    intro e he
    simp only [List.mem_cons, List.not_mem_nil, or_false] at he
    rcases he with rfl | rfl <;> simp [okE]) (by decide)
  have hb : headB 1 5 ++ evsB [⟨1, [97], 0, 0, 0⟩, ⟨3, [], 300, 0, 0⟩] = [84, 1, 5, 1, 1, 97, 3, 172, 2] := by
    simp [headB, evsB, evB, numB]
  have h' : m_tape_Bytes 1 5 [((1 : Int), [(97 : Int)], (0 : Int), (0 : Int), (0 : Int)), ((3 : Int), [], (300 : Int), (0 : Int), (0 : Int))] = some ([84, 1, 5, 1, 1, 97, 3, 172, 2], 0) := by
    rw [← hb]; exact h
  unfold m_L34_known
  rw [h']
  simp [m_r01_Same]
theorem L34_ofs_l1_eq (a b) : m_L34_ofs_l1 (a, b) = unr (m_L34_ofs_l1_step a b) m_L34_ofs_l1 := loopM_unr _ _
theorem ofs_loop (l : List E5) (hl : l.length ≤ 1000000) : ∀ (k i : Nat), k = l.length - i → i ≤ l.length → m_L34_ofs_l1 ((l, (i : Int)), l.take i) = some l := by
  intro k
  induction k with
  | zero =>
    intro i hk hi
    rw [L34_ofs_l1_eq]
    unfold m_L34_ofs_l1_step
    have hd : decide ((i : Int) < (l.length : Int)) = false := by simp; omega
    rw [List.take_of_length_le (by omega)]
    simp only [hd, cond_false, decide_true, cond_true, unr_r]
  | succ k ih =>
    intro i hk hi
    have hlt : i < l.length := by omega
    obtain ⟨x, hxi⟩ : ∃ x, l[i]? = some x := ⟨_, List.getElem?_eq_getElem hlt⟩
    have wi : IntKind.i64.wrap ((i : Int) + 1) = (i + 1 : Nat) := by rw [wrap_i64n (by omega) (by omega)]; omega
    have hc : decide ((i : Int) < (l.length : Int)) = true := by simp; omega
    have hz : decide ((0 : Int) ≤ (i : Int)) = true := by simp
    have ht : l.take (i + 1) = l.take i ++ [x] := by rw [List.take_add_one, hxi]; rfl
    have hlen : (l.take i).length = i := by simp; omega
    have hd : decide (i + 1 ≤ 2513169434916) = true := by simp; omega
    rw [L34_ofs_l1_eq]
    have e1 : m_L34_ofs_l1_step (l, (i : Int)) (l.take i) = some (.inl ((l, ((i + 1 : Nat) : Int)), l.take (i + 1))) := by
      unfold m_L34_ofs_l1_step
      simp only [hc, hz, cond_true, Int.toNat_natCast, hxi, Option.bind_some, m_L29_Of, decide_true, true_and, wi, hlen, hd, List.length_append, List.length_singleton, ht]
    rw [e1, unr_l]
    exact ih (i + 1) (by omega) (by omega)
theorem ofs_id (l : List E5) (hl : l.length ≤ 1000000) : m_L34_ofs l = some l := by
  have := ofs_loop l hl _ 0 rfl (Nat.zero_le _)
  unfold m_L34_ofs
  rw [show (((l, (0 : Int)), ([] : List E5)) : (List E5 × Int) × List E5) = ((l, ((0 : Nat) : Int)), l.take 0) from rfl, this]
  rfl
theorem r34_Same_l1_eq (a b c) : m_r34_Same_l1 (a, b, c) = unr (m_r34_Same_l1_step a b c) m_r34_Same_l1 := loopM_unr _ _
theorem same_loop (l : List E5) (hl : l.length ≤ 1000000) : ∀ (k i : Nat), k = l.length - i → i ≤ l.length → m_r34_Same_l1 (l, l, (i : Int)) = some true := by
  intro k
  induction k with
  | zero =>
    intro i hk hi
    rw [r34_Same_l1_eq]
    unfold m_r34_Same_l1_step
    have hd : decide ((i : Int) < (l.length : Int)) = false := by simp; omega
    simp only [hd, cond_false, unr_r]
  | succ k ih =>
    intro i hk hi
    have hlt : i < l.length := by omega
    obtain ⟨x, hxi⟩ : ∃ x, l[i]? = some x := ⟨_, List.getElem?_eq_getElem hlt⟩
    have wi : IntKind.i64.wrap ((i : Int) + 1) = (i + 1 : Nat) := by rw [wrap_i64n (by omega) (by omega)]; omega
    have hc : decide ((i : Int) < (l.length : Int)) = true := by simp; omega
    have hz : decide ((0 : Int) ≤ (i : Int)) = true := by simp
    rw [r34_Same_l1_eq]
    have e1 : m_r34_Same_l1_step l l (i : Int) = some (.inl (l, l, ((i + 1 : Nat) : Int))) := by
      unfold m_r34_Same_l1_step
      simp only [hc, hz, cond_true, Int.toNat_natCast, hxi, Option.bind_some, wi, bne_self_eq_false, cond_false, beq_self_eq_true, Bool.not_true]
    rw [e1, unr_l]
    exact ih (i + 1) (by omega) (by omega)
theorem same_self (l : List E5) (hl : l.length ≤ 1000000) : m_r34_Same l l = some true := by
  unfold m_r34_Same
  rw [show ((0 : Int)) = ((0 : Nat) : Int) from rfl, same_loop l hl _ 0 rfl (Nat.zero_le _)]
  simp
theorem parseP_short {bs : List Int} (hB : ∀ c ∈ bs, Byt c) : (parseP bs).2.2.1.length ≤ bs.length := by
  by_cases h : (parseP bs).2.2.2 = 0
  · exact (parseP_bytes hB h).2.2.2.2.2.2
  · unfold parseP at h ⊢
    split at h
    · simp [*]
    · rename_i h1
      rw [if_neg h1]
      simp only at h ⊢
      generalize evsP bs _ _ [] = r at h ⊢
      by_cases hr : r.1 = 0
      · rw [if_neg (by simp [hr])] at h
        exact absurd rfl h
      · rw [if_pos hr]; simp
theorem parses_plain (x : List Int) (hB : ∀ c ∈ x, Byt c) : m_TapeParses x = some true := by
  unfold m_TapeParses
  obtain ⟨bs, hbs⟩ : ∃ bs, bs = List.take (if (400 : Int) < (x.length : Int) then (400 : Int) else (x.length : Int)).toNat x := ⟨_, rfl⟩
  have hBs : ∀ c ∈ bs, Byt c := fun c h => hB c (by rw [hbs] at h; exact List.mem_of_mem_take h)
  have hg : decide (((0 : Int) ≤ if (400 : Int) < (x.length : Int) then (400 : Int) else (x.length : Int)) ∧ (if (400 : Int) < (x.length : Int) then (400 : Int) else (x.length : Int)).toNat ≤ x.length) = true := by
    refine decide_eq_true ⟨?_, ?_⟩ <;> split <;> omega
  have hl : bs.length ≤ 400 := by
    rw [hbs, List.length_take]
    split <;> omega
  rw [hg, cond_true, ← hbs]
  have hs := parseP_short hBs
  have hp := @parseP_bytes bs hBs
  simp only [parse_num hBs (by omega), parse_ref hBs (by omega), Option.bind_some, bne_self_eq_false, cond_false, outP, out4]
  rw [ofs_id _ (by simp; omega)]
  simp only [Option.bind_some]
  rw [same_self _ (by simp; omega)]
  simp only [Option.bind_some, Bool.not_true, cond_false, known_true]
  by_cases h : (parseP bs).2.2.2 = 0
  · obtain ⟨h1, h2, h3, h4, h5, h6, h7⟩ := hp h
    have hz : (((parseP bs).2.2.2 : Int) != 0) = false := by rw [h]; rfl
    rw [hz, cond_false, tape_bytes _ _ h3 h4 h5 h6 _ h2 (by omega), h1]
    simp [m_r01_Same]
  · have hz : (((parseP bs).2.2.2 : Int) != 0) = true := bne_iff_ne.2 (by omega)
    rw [hz, cond_true]
end Go.Sim

set_option maxRecDepth 100000
set_option maxHeartbeats 4000000
set_option linter.unusedVariables false
namespace Go.Sim
theorem readM_numB : ∀ (n i acc : Nat) (r : List Int), i ≤ 9 → (0 < i → 1 ≤ n) → n * un i < 18446744073709551616 → readM (numB n ++ r) i acc = (acc + n * un i, i + (numB n).length, 0) := by
  intro n
  induction n using Nat.strongRecOn with
  | _ n ih =>
    intro i acc r hi h0 hn
    have hu : 9 ≤ i → un i = 9223372036854775808 := fun h => by
      have : i = 9 := by omega
      subst this; rfl
    by_cases h : n < 128
    · rw [numB, if_pos h]
      simp only [List.cons_append, List.nil_append, List.length_singleton]
      rw [readM, if_neg, if_pos (by omega), Int.toNat_natCast, Nat.mod_eq_of_lt h]
      rintro (⟨h9, h1⟩ | ⟨h1, h2⟩)
      · have := hu (by omega)
        rw [this] at hn
        omega
      · have := h0 h1; omega
    · have hi9 : i ≠ 9 := fun h9 => by
        have := hu (by omega)
        rw [this] at hn
        omega
      rw [numB, if_neg h]
      simp only [List.cons_append, List.length_cons]
      rw [readM, if_neg (by omega), if_neg (by omega)]
      have hm : (128 + (n : Int) % 128).toNat % 128 = n % 128 := by omega
      rw [hm]
      have hsum : n % 128 * un i + n / 128 * un (i + 1) = n * un i := by
        rw [un_succ, Nat.mul_comm (un i) 128, ← Nat.mul_assoc, ← Nat.add_mul]
        congr 1
        omega
      rw [ih (n / 128) (by omega) (i + 1) _ r (by omega) (by omega) (by omega)]
      rw [Nat.add_assoc, hsum]
      congr 2
      omega
theorem rNum_at {bs pre rest : List Int} {n : Nat} (hn : n < 18446744073709551616) (hb : bs = pre ++ (numB n ++ rest)) : rNum bs pre.length 0 = (pre.length + (numB n).length, 0, n) := by
  have hd : bs.drop pre.length = numB n ++ rest := by rw [hb, List.drop_left]
  rw [rNum_0, hd, readM_numB n 0 0 rest (by decide) (by omega) (by unfold un; simpa using hn)]
  simp [un]
theorem rUp_at {bs pre rest : List Int} {n m w : Nat} (hm : n ≤ m) (hn : n < 18446744073709551616) (hb : bs = pre ++ (numB n ++ rest)) : rUp bs pre.length 0 m w = (pre.length + (numB n).length, 0, n) := by
  unfold rUp
  rw [rNum_at hn hb, if_neg (by simp; omega)]
theorem rTake_at {bs pre xs rest : List Int} (hb : bs = pre ++ (xs ++ rest)) : rTake bs pre.length 0 xs.length = (pre.length + xs.length, 0, xs) := by
  have hd : bs.drop pre.length = xs ++ rest := by rw [hb, List.drop_left]
  rw [rTake_0, if_neg (by rw [hb]; simp), hd, List.take_left]
/-- What is plain of an event. -/
def plainE (e : Ev) : Ev := ⟨e.kind, if e.kind = 1 ∨ e.kind = 2 then e.b else [], if e.kind = 3 ∨ e.kind = 5 then e.n else 0, if e.kind = 4 then e.rows else 0, if e.kind = 4 then e.cols else 0⟩
theorem oneP_at {bs pre rest : List Int} {e : Ev} (ho : okE e) (hb : bs = pre ++ (evB e ++ rest)) : oneP bs pre.length = (pre.length + (evB e).length, 0, plainE e) := by
  obtain ⟨kd, b, n, rows, cols⟩ := e
  obtain ⟨h1, h2, h3, h4, h5, h6, h7, h8, h9⟩ := ho
  simp only at h1 h2 h3 h4 h5 h6 h7 h8 h9
  obtain ⟨kn, rfl⟩ : ∃ kn : Nat, kd = kn := ⟨kd.toNat, by omega⟩
  obtain ⟨nn, rfl⟩ : ∃ kn : Nat, n = kn := ⟨n.toNat, by omega⟩
  obtain ⟨rn, rfl⟩ : ∃ kn : Nat, rows = kn := ⟨rows.toNat, by omega⟩
  obtain ⟨cn, rfl⟩ : ∃ kn : Nat, cols = kn := ⟨cols.toNat, by omega⟩
  have hkn : numB kn = [(kn : Int)] := by rw [numB, if_pos (by omega)]
  have hk : kn = 1 ∨ kn = 2 ∨ kn = 3 ∨ kn = 4 ∨ kn = 5 := by omega
  unfold oneP
  have hl1 : (pre ++ [(kn : Int)]).length = pre.length + 1 := by simp
  rcases hk with hk | hk | hk | hk | hk
  · have hb' : bs = pre ++ (numB kn ++ (numB b.length ++ (b ++ rest))) := by rw [hb, hkn]; simp [evB, hk]
    have e1 := rNum_at (by omega) hb'
    have e2 := rUp_at (bs := bs) (pre := pre ++ [(kn : Int)]) (n := b.length) (m := 4096) (w := 5) (rest := b ++ rest) (by omega) (by omega) (by rw [hb', hkn]; simp)
    have e3 := rTake_at (bs := bs) (pre := pre ++ [(kn : Int)] ++ numB b.length) (xs := b) (rest := rest) (by rw [hb', hkn]; simp)
    rw [hkn] at e1
    rw [hl1] at e2
    simp only [List.length_append, List.length_singleton] at e1 e3
    subst hk
    simp only [e1, kindP, true_or, or_true, if_true, show ¬ (True ∧ (1 < 1 ∨ 5 < 1)) by decide, if_false, e2, e3]
    simp [evB, plainE]
    omega
  · have hb' : bs = pre ++ (numB kn ++ (numB b.length ++ (b ++ rest))) := by rw [hb, hkn]; simp [evB, hk]
    have e1 := rNum_at (by omega) hb'
    have e2 := rUp_at (bs := bs) (pre := pre ++ [(kn : Int)]) (n := b.length) (m := 4096) (w := 5) (rest := b ++ rest) (by omega) (by omega) (by rw [hb', hkn]; simp)
    have e3 := rTake_at (bs := bs) (pre := pre ++ [(kn : Int)] ++ numB b.length) (xs := b) (rest := rest) (by rw [hb', hkn]; simp)
    rw [hkn] at e1
    rw [hl1] at e2
    simp only [List.length_append, List.length_singleton] at e1 e3
    subst hk
    simp only [e1, kindP, true_or, or_true, if_true, show ¬ (True ∧ (2 < 1 ∨ 5 < 2)) by decide, if_false, e2, e3]
    simp [evB, plainE]
    omega
  · have hb' : bs = pre ++ (numB kn ++ (numB nn ++ rest)) := by rw [hb, hkn]; simp [evB, hk]
    have e1 := rNum_at (by omega) hb'
    have e2 := rNum_at (bs := bs) (pre := pre ++ [(kn : Int)]) (n := nn) (rest := rest) (by omega) (by rw [hb', hkn]; simp)
    rw [hkn] at e1
    rw [hl1] at e2
    simp only [List.length_singleton] at e1
    subst hk
    simp only [e1, kindP, true_or, or_true, if_true, show ¬ (True ∧ (3 < 1 ∨ 5 < 3)) by decide, show ¬ (3 = 1 ∨ 3 = 2) by decide, if_false, e2]
    simp [evB, plainE]
    omega
  · have hb' : bs = pre ++ (numB kn ++ (numB rn ++ (numB cn ++ rest))) := by rw [hb, hkn]; simp [evB, hk]
    have e1 := rNum_at (by omega) hb'
    have e2 := rUp_at (bs := bs) (pre := pre ++ [(kn : Int)]) (n := rn) (m := 1048576) (w := 5) (rest := numB cn ++ rest) (by omega) (by omega) (by rw [hb', hkn]; simp)
    have e3 := rUp_at (bs := bs) (pre := pre ++ [(kn : Int)] ++ numB rn) (n := cn) (m := 1048576) (w := 5) (rest := rest) (by omega) (by omega) (by rw [hb', hkn]; simp)
    rw [hkn] at e1
    rw [hl1] at e2
    simp only [List.length_append, List.length_singleton] at e1 e3
    subst hk
    simp only [e1, kindP, if_true, show ¬ (True ∧ (4 < 1 ∨ 5 < 4)) by decide, show ¬ (4 = 1 ∨ 4 = 2) by decide, show ¬ (4 = 3 ∨ 4 = 5) by decide, if_false, e2, e3]
    simp [evB, plainE]
    omega
  · have hb' : bs = pre ++ (numB kn ++ (numB nn ++ rest)) := by rw [hb, hkn]; simp [evB, hk]
    have e1 := rNum_at (by omega) hb'
    have e2 := rNum_at (bs := bs) (pre := pre ++ [(kn : Int)]) (n := nn) (rest := rest) (by omega) (by rw [hb', hkn]; simp)
    rw [hkn] at e1
    rw [hl1] at e2
    simp only [List.length_singleton] at e1
    subst hk
    simp only [e1, kindP, true_or, or_true, if_true, show ¬ (True ∧ (5 < 1 ∨ 5 < 5)) by decide, show ¬ (5 = 1 ∨ 5 = 2) by decide, if_false, e2]
    simp [evB, plainE]
    omega
theorem evsP_at : ∀ (l : List Ev) (bs pre : List Int) (acc : List Ev), (∀ e ∈ l, okE e) → bs = pre ++ evsB l → evsP bs pre.length 0 acc = (0, acc ++ l.map plainE)
  | [], bs, pre, acc, _, hb => by
    rw [evsP_end _ _ _ _ (by rw [hb]; simp [evsB])]
    simp
  | e :: l, bs, pre, acc, ho, hb => by
    have hoe := ho e List.mem_cons_self
    have hb' : bs = pre ++ (evB e ++ evsB l) := by rw [hb]; simp [evsB]
    have hpos : 0 < (evB e).length := by unfold evB; simp
    rw [evsP_run _ _ _ _ ⟨rfl, by rw [hb']; simp; omega⟩, oneP_at hoe hb']
    have := evsP_at l bs (pre ++ evB e) (acc ++ [plainE e]) (fun x hx => ho x (List.mem_cons_of_mem _ hx)) (by rw [hb']; simp)
    rw [List.length_append] at this
    simp only
    rw [this]
    simp
theorem parseP_at {r c : Nat} (hr : 1 ≤ r) (hr2 : r ≤ 512) (hc : 1 ≤ c) (hc2 : c ≤ 512) {l : List Ev} (ho : ∀ e ∈ l, okE e) : parseP (headB r c ++ evsB l) = (r, c, l.map plainE, 0) := by
  obtain ⟨bs, hbs⟩ : ∃ bs, bs = headB r c ++ evsB l := ⟨_, rfl⟩
  rw [← hbs]
  have hb1 : bs = [84] ++ (numB r ++ (numB c ++ evsB l)) := by rw [hbs]; simp [headB]
  have e1 := rUp_at (bs := bs) (pre := [84]) (n := r) (m := 512) (w := 5) (rest := numB c ++ evsB l) hr2 (by omega) hb1
  have e2 := rUp_at (bs := bs) (pre := [84] ++ numB r) (n := c) (m := 512) (w := 5) (rest := evsB l) hc2 (by omega) (by rw [hb1]; simp)
  have e3 := evsP_at l bs ([84] ++ numB r ++ numB c) [] ho (by rw [hb1]; simp)
  simp only [List.length_append, List.length_singleton] at e1 e2 e3
  unfold parseP
  rw [if_neg (by rw [hb1]; simp)]
  simp only [e1, e2]
  have hif : (if True ∧ (r = 0 ∨ c = 0) then 11 else 0) = 0 := if_neg (by omega)
  rw [hif, e3]
  simp
end Go.Sim

set_option maxRecDepth 100000
set_option maxHeartbeats 4000000
set_option linter.unusedVariables false
namespace Go.Sim
/-- What is wrong with an event. -/
def chkE (e : Ev) : Int := if e.kind < 1 ∨ 5 < e.kind then 9 else if 4096 < e.b.length then 2 else if 0 ≤ e.rows ∧ e.rows ≤ 1048576 ∧ 0 ≤ e.cols ∧ e.cols ≤ 1048576 then 0 else 5
theorem check_is (e : Ev) : m_tape_Check e.kind e.b e.n e.rows e.cols = some (chkE e) := by
  unfold m_tape_Check m_tape_Check_1 chkE
  simp only [Bool.cond_eq_ite, decide_eq_true_eq]
  by_cases h1 : e.kind < 1
  · simp [h1]
  · by_cases h2 : 5 < e.kind
    · simp [h1, h2]
    · by_cases h3 : (4096 : Int) < (e.b.length : Int)
      · have h3' : 4096 < e.b.length := by omega
        simp [h1, h2, h3, h3']
      · have h3' : ¬ 4096 < e.b.length := by omega
        by_cases h4 : 0 ≤ e.rows
        · by_cases h5 : e.rows ≤ 1048576
          · by_cases h6 : 0 ≤ e.cols
            · by_cases h7 : e.cols ≤ 1048576
              · simp [h1, h2, h3, h3', h4, h5, h6, h7]
              · simp [h1, h2, h3, h3', h4, h5, h6, h7]
            · simp [h1, h2, h3, h3', h4, h5, h6]
          · simp [h1, h2, h3, h3', h4, h5]
        · simp [h1, h2, h3, h3', h4]
def okN (e : Ev) : Prop := 0 ≤ e.n ∧ e.n < 18446744073709551616
theorem chkE_ok {e : Ev} (h : chkE e = 0) (hn : okN e) : okE e := by
  unfold chkE at h
  split at h
  · cases h
  · split at h
    · cases h
    · split at h
      · rename_i h1 h2 h3
        exact ⟨by omega, by omega, by omega, h3.1, h3.2.1, h3.2.2.1, h3.2.2.2, hn.1, hn.2⟩
      · cases h
/-- The first thing that is wrong. -/
def chksE : List Ev → Int
  | [] => 0
  | e :: l => if chkE e ≠ 0 then chkE e else chksE l
theorem chksE_ok : ∀ {l : List Ev}, chksE l = 0 → (∀ e ∈ l, okN e) → ∀ e ∈ l, okE e
  | [], _, _, e, h => by simp at h
  | x :: l, h, hn, e, he => by
    unfold chksE at h
    by_cases hx : chkE x = 0
    · rw [if_neg (by simp [hx])] at h
      rcases List.mem_cons.1 he with rfl | he
      · exact chkE_ok hx (hn _ List.mem_cons_self)
      · exact chksE_ok h (fun e he => hn e (List.mem_cons_of_mem _ he)) e he
    · rw [if_pos hx] at h
      exact absurd h hx
theorem tape_loop_bad (l : List Ev) (hn : ∀ e ∈ l, okN e) (hl : l.length ≤ 1000000) : ∀ (k i : Nat) (out : List Int), k = l.length - i → i ≤ l.length → out.length + 5000 * k ≤ 10000000000 → chksE (l.drop i) ≠ 0 →
    m_tape_Bytes_l1 ((l.map evT, (l.length : Int), (i : Int)), out) = some ([], chksE (l.drop i)) := by
  intro k
  induction k with
  | zero =>
    intro i out hk hi hlo hc
    rw [List.drop_eq_nil_of_le (by omega)] at hc
    exact absurd rfl hc
  | succ k ih =>
    intro i out hk hi hlo hc
    have hlt : i < l.length := by omega
    obtain ⟨e, hei⟩ : ∃ x, l[i]? = some x := ⟨_, List.getElem?_eq_getElem hlt⟩
    have hd : l.drop i = e :: l.drop (i + 1) := by rw [List.drop_eq_getElem_cons hlt]; rw [List.getElem?_eq_getElem hlt] at hei; cases hei; rfl
    have hon := hn e (List.mem_of_getElem? hei)
    rw [hd] at hc ⊢
    unfold chksE at hc ⊢
    have hxi' : (l.map evT)[i]? = some (evT e) := by rw [List.getElem?_map, hei]; rfl
    have hcc : decide ((i : Int) < (l.length : Int)) = true := by simp; omega
    have hz : decide ((0 : Int) ≤ (i : Int)) = true := by simp
    by_cases hx : chkE e = 0
    · rw [if_neg (by simp [hx])] at hc ⊢
      rw [tape_Bytes_l1_eq, tape_round l hl hei (chkE_ok hx hon) out (by omega), unr_l]
      have hle := evB_len (chkE_ok hx hon)
      exact ih (i + 1) (out ++ evB e) (by omega) (by omega) (by simp; omega) hc
    · rw [if_pos hx] at hc ⊢
      rw [tape_Bytes_l1_eq]
      have e1 : m_tape_Bytes_l1_step (l.map evT, (l.length : Int), (i : Int)) out = some (.inr ([], chkE e)) := by
        unfold m_tape_Bytes_l1_step
        have hne : (chkE e != 0) = true := bne_iff_ne.2 hx
        simp only [hcc, hz, cond_true, Int.toNat_natCast, hxi', Option.bind_some]
        have := check_is e
        simp only [evT]
        rw [this]
        simp only [Option.bind_some, hne, cond_true]
      rw [e1, unr_r]
end Go.Sim

set_option maxRecDepth 100000
set_option maxHeartbeats 4000000
set_option linter.unusedVariables false
namespace Go.Sim
def evO (x : E5) : Ev := ⟨x.1, x.2.1, x.2.2.1, x.2.2.2.1, x.2.2.2.2⟩
def cutE (e : Ev) : Ev := ⟨e.kind, e.b.take 400, e.n, e.rows, e.cols⟩
def cutEs (l : List E5) : List Ev := (l.take 30).map fun x => cutE (evO x)
theorem L34_cut_l1_eq (a b) : m_L34_cut_l1 (a, b) = unr (m_L34_cut_l1_step a b) m_L34_cut_l1 := loopM_unr _ _
theorem cut_loop (l : List E5) : ∀ (k i : Nat), k = 30 - i → i ≤ l.length → i ≤ 30 → m_L34_cut_l1 ((l, (i : Int)), ((l.take i).map fun x => evT (cutE (evO x)))) = some ((cutEs l).map evT) := by
  have stop : ∀ i : Nat, i ≤ l.length → i ≤ 30 → ¬ (i < l.length ∧ i < 30) → m_L34_cut_l1 ((l, (i : Int)), ((l.take i).map fun x => evT (cutE (evO x)))) = some ((cutEs l).map evT) := by
    intro i h1 h2 h3
    rw [L34_cut_l1_eq]
    have ht : l.take i = l.take 30 := by
      by_cases h : i = 30
      · rw [h]
      · rw [List.take_of_length_le (by omega), List.take_of_length_le (by omega)]
    have e1 : m_L34_cut_l1_step (l, (i : Int)) ((l.take i).map fun x => evT (cutE (evO x))) = some (.inr ((l.take i).map fun x => evT (cutE (evO x)))) := by
      unfold m_L34_cut_l1_step
      by_cases h : i < l.length
      · have c1 : decide ((i : Int) < (l.length : Int)) = true := by simp; omega
        have c2 : decide ((i : Int) < 30) = false := by simp; omega
        simp only [c1, c2, cond_true, cond_false, decide_true]
      · have c1 : decide ((i : Int) < (l.length : Int)) = false := by simp; omega
        simp only [c1, cond_true, cond_false, decide_true]
    rw [e1, unr_r, ht, cutEs, List.map_map]
    rfl
  intro k
  induction k with
  | zero => intro i hk h1 h2; exact stop i h1 h2 (by omega)
  | succ k ih =>
    intro i hk h1 h2
    by_cases h : i < l.length ∧ i < 30
    · obtain ⟨hlt, h30⟩ := h
      obtain ⟨x, hxi⟩ : ∃ x, l[i]? = some x := ⟨_, List.getElem?_eq_getElem hlt⟩
      have wi : IntKind.i64.wrap ((i : Int) + 1) = (i + 1 : Nat) := by rw [wrap_i64n (by omega) (by omega)]; omega
      have c1 : decide ((i : Int) < (l.length : Int)) = true := by simp; omega
      have c2 : decide ((i : Int) < 30) = true := by simp; omega
      have hz : decide ((0 : Int) ≤ (i : Int)) = true := by simp
      have ht : l.take (i + 1) = l.take i ++ [x] := by rw [List.take_add_one, hxi]; rfl
      have hmin : min i l.length = i := by omega
      have hd : decide (i + 1 ≤ 2513169434916) = true := by simp; omega
      have hg : decide (((0 : Int) ≤ if (400 : Int) < (x.2.1.length : Int) then (400 : Int) else (x.2.1.length : Int)) ∧ (if (400 : Int) < (x.2.1.length : Int) then (400 : Int) else (x.2.1.length : Int)).toNat ≤ x.2.1.length) = true := by
        refine decide_eq_true ⟨?_, ?_⟩ <;> split <;> omega
      have hcut : List.take (if (400 : Int) < (x.2.1.length : Int) then (400 : Int) else (x.2.1.length : Int)).toNat x.2.1 = x.2.1.take 400 := by
        split
        · rfl
        · rw [List.take_of_length_le (by omega), List.take_of_length_le (by omega)]
      rw [L34_cut_l1_eq]
      have e1 : m_L34_cut_l1_step (l, (i : Int)) ((l.take i).map fun x => evT (cutE (evO x))) = some (.inl ((l, ((i + 1 : Nat) : Int)), ((l.take (i + 1)).map fun x => evT (cutE (evO x))))) := by
        unfold m_L34_cut_l1_step
        simp only [c1, c2, hz, cond_true, Int.toNat_natCast, hxi, Option.bind_some, hg, hcut, decide_true, true_and, wi, List.length_map, List.length_take, hmin, hd, List.length_append, List.length_singleton, ht, List.map_append, List.map_cons, List.map_nil, evT, cutE, evO]
      rw [e1, unr_l]
      exact ih (i + 1) (by omega) (by omega) (by omega)
    · exact stop i h1 h2 h
theorem cut_is (l : List E5) : m_L34_cut l = some ((cutEs l).map evT) := by
  have := cut_loop l 30 0 rfl (Nat.zero_le _) (by decide)
  unfold m_L34_cut
  rw [show (((l, (0 : Int)), ([] : List E5)) : (List E5 × Int) × List E5) = ((l, ((0 : Nat) : Int)), ((l.take 0).map fun x => evT (cutE (evO x)))) from rfl, this]
  rfl
theorem cutEs_len (l : List E5) : (cutEs l).length ≤ 30 := by simp [cutEs]; omega
theorem cutEs_n {l : List E5} (h : ∀ x ∈ l, 0 ≤ x.2.2.1 ∧ x.2.2.1 < 18446744073709551616) : ∀ e ∈ cutEs l, okN e := by
  intro e he
  obtain ⟨x, hx, rfl⟩ := List.mem_map.1 he
  exact h x (List.mem_of_mem_take hx)
def sizeE (r c : Int) : Prop := 1 ≤ r ∧ r ≤ 512 ∧ 1 ≤ c ∧ c ≤ 512
theorem side_is (x : Int) : m_tape_side x = some (decide (1 ≤ x ∧ x ≤ 512)) := by
  unfold m_tape_side
  by_cases h1 : 1 ≤ x
  · by_cases h2 : x ≤ 512 <;> simp [h1, h2]
  · simp [h1]
theorem bytes_size (r c : Int) (l : List E5) (h : ¬ sizeE r c) : m_tape_Bytes r c l = some ([], 11) := by
  unfold m_tape_Bytes
  simp only [side_is, Option.bind_some]
  by_cases h1 : 1 ≤ r ∧ r ≤ 512
  · have h2 : ¬ (1 ≤ c ∧ c ≤ 512) := fun q => h ⟨h1.1, h1.2, q.1, q.2⟩
    rw [decide_eq_true h1, decide_eq_false h2]
    rfl
  · rw [decide_eq_false h1]
    rfl
theorem bytes_bad (r c : Nat) (hr : 1 ≤ r) (hr2 : r ≤ 512) (hc : 1 ≤ c) (hc2 : c ≤ 512) (l : List Ev) (hn : ∀ e ∈ l, okN e) (hl : l.length ≤ 1000000) (hb : chksE l ≠ 0) : m_tape_Bytes r c (l.map evT) = some ([], chksE l) := by
  unfold m_tape_Bytes
  have n1 := numB_len10 (n := r) (by omega)
  have n2 := numB_len10 (n := c) (by omega)
  have hp := put2 r c (by omega) (by omega) [84] (by simp)
  have ht := tape_loop_bad l hn hl l.length 0 ([84] ++ (numB r ++ numB c)) rfl (Nat.zero_le _) (by simp; omega) (by simpa using hb)
  rw [List.drop_zero, show ((0 : Nat) : Int) = 0 from rfl] at ht
  simp only [side_ok hr hr2, side_ok hc hc2, Option.bind_some, Bool.not_true, cond_false, decide_true, cond_true, hp, List.length_map, ht]
theorem numB_byt : ∀ (n : Nat), ∀ c ∈ numB n, Byt c := by
  intro n
  induction n using Nat.strongRecOn with
  | _ n ih =>
    intro c hc
    rw [numB] at hc
    split at hc
    · rw [List.mem_singleton] at hc; subst hc; exact ⟨by omega, by omega⟩
    · rcases List.mem_cons.1 hc with rfl | hc
      · exact ⟨by omega, by omega⟩
      · exact ih _ (by omega) c hc
theorem evB_byt {e : Ev} (ho : okE e) (hb : ∀ c ∈ e.b, Byt c) : ∀ c ∈ evB e, Byt c := by
  obtain ⟨h1, h2, -⟩ := ho
  intro c hc
  unfold evB at hc
  rcases List.mem_append.1 hc with hc | hc
  · rw [List.mem_singleton] at hc; subst hc; exact ⟨by omega, by omega⟩
  · split at hc
    · rcases List.mem_append.1 hc with hc | hc
      · exact numB_byt _ c hc
      · exact hb c hc
    · split at hc
      · rcases List.mem_append.1 hc with hc | hc
        · exact numB_byt _ c hc
        · exact numB_byt _ c hc
      · exact numB_byt _ c hc
theorem tape_byt (r c : Int) {l : List Ev} (ho : ∀ e ∈ l, okE e) (hb : ∀ e ∈ l, ∀ c ∈ e.b, Byt c) : ∀ x ∈ headB r c ++ evsB l, Byt x := by
  intro x hx
  rcases List.mem_append.1 hx with hx | hx
  · unfold headB at hx
    rcases List.mem_cons.1 hx with rfl | hx
    · exact ⟨by decide, by decide⟩
    · rcases List.mem_append.1 hx with hx | hx
      · exact numB_byt _ x hx
      · exact numB_byt _ x hx
  · unfold evsB at hx
    obtain ⟨y, hy, hx⟩ := List.mem_flatten.1 hx
    obtain ⟨e, he, rfl⟩ := List.mem_map.1 hy
    exact evB_byt (ho e he) (hb e he) x hx
theorem evsB_len : ∀ {l : List Ev}, (∀ e ∈ l, okE e) → (evsB l).length ≤ 5000 * l.length
  | [], _ => by simp [evsB]
  | e :: l, ho => by
    have h1 := evB_len (ho e List.mem_cons_self)
    have h2 := evsB_len (l := l) fun x hx => ho x (List.mem_cons_of_mem _ hx)
    simp only [evsB, List.map_cons, List.flatten_cons, List.length_append, List.length_cons] at h2 ⊢
    omega
end Go.Sim

set_option maxRecDepth 100000
namespace Go.Sim
/-- A loop that goes round by number. -/
theorem loop_to {σ T : Type} {step : σ → Option (σ ⊕ T)} (st : Nat → σ) {n : Nat} {t : T} (h : ∀ i, i < n → step (st i) = some (.inl (st (i + 1)))) (he : step (st n) = some (.inr t)) : ∀ i, i ≤ n → loopM step (st i) = some t := by
  intro i hi
  obtain ⟨k, hk⟩ : ∃ k, k = n - i := ⟨_, rfl⟩
  induction k generalizing i with
  | zero => rw [show i = n by omega]; exact loopM_r he
  | succ k ih => rw [loopM_l (h i (by omega))]; exact ih (i + 1) (by omega) (by omega)
theorem wr_i64 {n : Int} (h1 : -9223372036854775808 ≤ n) (h2 : n < 9223372036854775808) : IntKind.i64.wrap n = n := by
  unfold IntKind.wrap
  simp only [IntKind.bits, IntKind.signed, Bool.true_and]
  by_cases h : 0 ≤ n
  · have : n % 2 ^ 64 = n := by omega
    simp [this]
    omega
  · have : n % 2 ^ 64 = n + 18446744073709551616 := by omega
    simp [this]
    omega
theorem wr_i32 {n : Int} (h1 : -2147483648 ≤ n) (h2 : n < 2147483648) : IntKind.i32.wrap n = n := by
  unfold IntKind.wrap
  simp only [IntKind.bits, IntKind.signed, Bool.true_and]
  by_cases h : 0 ≤ n
  · have : n % 2 ^ 32 = n := by omega
    simp [this]
    omega
  · have : n % 2 ^ 32 = n + 4294967296 := by omega
    simp [this]
    omega
theorem wr_u64 {n : Int} (h1 : 0 ≤ n) (h2 : n < 18446744073709551616) : IntKind.u64.wrap n = n := wrap_u64 h1 h2
theorem wr_u8 {n : Int} (h1 : 0 ≤ n) (h2 : n < 256) : IntKind.u8.wrap n = n := wrap_u8 h1 h2
theorem de_t {p : Prop} {i : Decidable p} (h : p) : @decide p i = true := decide_eq_true h
theorem de_f {p : Prop} {i : Decidable p} (h : ¬ p) : @decide p i = false := decide_eq_false h
theorem be_t {a b : Int} (h : a = b) : (a == b) = true := beq_iff_eq.2 h
theorem be_f {a b : Int} (h : a ≠ b) : (a == b) = false := beq_eq_false_iff_ne.2 h
theorem bn_t {a b : Int} (h : a ≠ b) : (a != b) = true := bne_iff_ne.2 h
theorem bn_f {a b : Int} (h : a = b) : (a != b) = false := by rw [h]; exact bne_self_eq_false _
theorem drop_at {α : Type} {l : List α} {i : Nat} {x : α} (h : l[i]? = some x) : l.drop i = x :: l.drop (i + 1) := by
  obtain ⟨hlt, rfl⟩ := List.getElem?_eq_some_iff.1 h
  rw [List.drop_eq_getElem_cons hlt]
theorem take_at {α : Type} {l : List α} {i : Nat} {x : α} (h : l[i]? = some x) : l.take (i + 1) = l.take i ++ [x] := by rw [List.take_add_one, h]; rfl
theorem ix_some {α : Type} {l : List α} {i : Nat} (h : i < l.length) : ∃ x, l[i]? = some x := ⟨_, List.getElem?_eq_getElem h⟩
end Go.Sim

set_option maxRecDepth 100000
set_option maxHeartbeats 4000000
set_option linter.unusedVariables false
namespace Go.Sim
theorem wrap_ix {i : Nat} (h : i < 1000000000000) : IntKind.i64.wrap ((i : Int) + 1) = (i + 1 : Nat) := by rw [wrap_i64n (by omega) (by omega)]; omega
theorem ix_lt {i n : Nat} (h : i < n) : decide ((i : Int) < (n : Int)) = true := by simp; omega
theorem ix_ge {i n : Nat} (h : n ≤ i) : decide ((i : Int) < (n : Int)) = false := by simp; omega
theorem ix_0 (i : Nat) : decide ((0 : Int) ≤ (i : Int)) = true := by simp
theorem check_ref (e : Ev) : m_r34_Check e.kind e.b e.n e.rows e.cols = some (chkE e) := by
  unfold m_r34_Check chkE
  by_cases h1 : e.kind < 1
  · simp [h1]
  · by_cases h2 : 5 < e.kind
    · simp [h1, h2]
    · by_cases h3 : 4096 < e.b.length
      · have h3' : (4096 : Int) < (e.b.length : Int) := by omega
        simp [h1, h2, h3, h3']
      · have h3' : ¬ (4096 : Int) < (e.b.length : Int) := by omega
        by_cases h4 : e.rows < 0
        · have h4' : ¬ 0 ≤ e.rows := by omega
          simp [h1, h2, h3, h3', h4, h4']
        · by_cases h5 : 1048576 < e.rows
          · have h5' : ¬ e.rows ≤ 1048576 := by omega
            simp [h1, h2, h3, h3', h4, h5, h5']
          · by_cases h6 : e.cols < 0
            · have h6' : ¬ 0 ≤ e.cols := by omega
              simp [h1, h2, h3, h3', h4, h5, h6, h6']
            · by_cases h7 : 1048576 < e.cols
              · have h7' : ¬ e.cols ≤ 1048576 := by omega
                simp [h1, h2, h3, h3', h4, h5, h6, h7, h7']
              · have q : 0 ≤ e.rows ∧ e.rows ≤ 1048576 ∧ 0 ≤ e.cols ∧ e.cols ≤ 1048576 := by omega
                simp [h1, h2, h3, h3', h4, h5, h6, h7, q]
theorem clone_is (b : List Int) (h : b.length ≤ 140737488355328) : m_bytes_Clone b = some b := by
  unfold m_bytes_Clone
  have hd : decide ((0 : Nat) = 0 ∧ 0 + b.length ≤ 140737488355328) = true := decide_eq_true ⟨rfl, by omega⟩
  by_cases h0 : b.length = 0
  · have : b = [] := List.length_eq_zero_iff.1 h0
    subst this
    simp [bothM_same]
  · have h0' : decide (b.length = 0) = false := decide_eq_false h0
    rw [h0', hd]
    simp
theorem plain_num (e : Ev) (hb : e.b.length ≤ 140737488355328) : m_tape_Plain e.kind e.b e.n e.rows e.cols = some (evT (plainE e)) := by
  unfold m_tape_Plain plainE evT
  by_cases h1 : e.kind = 1
  · simp [h1, clone_is _ hb]
  · by_cases h2 : e.kind = 2
    · simp [h2, clone_is _ hb]
    · by_cases h4 : e.kind = 4
      · simp [h4]
      · by_cases h3 : e.kind = 3
        · simp [h3]
        · by_cases h5 : e.kind = 5
          · simp [h5]
          · simp [h1, h2, h3, h4, h5, beq_eq_false_iff_ne.2 h1, beq_eq_false_iff_ne.2 h2, beq_eq_false_iff_ne.2 h3, beq_eq_false_iff_ne.2 h4, beq_eq_false_iff_ne.2 h5]
theorem plain_ref (e : Ev) (hb : e.b.length ≤ 140737488355328) : m_r34_Plain e.kind e.b e.n e.rows e.cols = some (evT (plainE e)) := by
  unfold m_r34_Plain plainE evT
  have hd : decide ((0 : Nat) = 0 ∧ 0 + e.b.length ≤ 140737488355328) = true := decide_eq_true ⟨rfl, by omega⟩
  by_cases h1 : e.kind = 1
  · simp only [h1]
    simp [hb]
  · by_cases h2 : e.kind = 2
    · simp only [h2]
      simp [hb]
    · by_cases h4 : e.kind = 4
      · simp [h4]
      · by_cases h3 : e.kind = 3
        · simp [h3]
        · by_cases h5 : e.kind = 5
          · simp [h5]
          · simp [h1, h2, h3, h4, h5, beq_eq_false_iff_ne.2 h1, beq_eq_false_iff_ne.2 h2, beq_eq_false_iff_ne.2 h3, beq_eq_false_iff_ne.2 h4, beq_eq_false_iff_ne.2 h5]
/-- Are events the same? -/
def smE (x y : E5) : Bool := x.1 == y.1 && x.2.2.1 == y.2.2.1 && x.2.2.2.1 == y.2.2.2.1 && x.2.2.2.2 == y.2.2.2.2 && (Go.strOfNums x.2.1).toList == (Go.strOfNums y.2.1).toList
def smEs : List E5 → List E5 → Bool
  | [], [] => true
  | x :: l, y :: m => smE x y && smEs l m
  | _, _ => false
theorem smEs_len : ∀ {l m : List E5}, l.length ≠ m.length → smEs l m = false
  | [], [], h => absurd rfl h
  | [], _ :: _, _ => rfl
  | _ :: _, [], _ => rfl
  | x :: l, y :: m, h => by rw [smEs, smEs_len (l := l) (m := m) (by simpa using h), Bool.and_false]
theorem smE_self (x : E5) : smE x x = true := by simp [smE]
theorem smEs_self : ∀ (l : List E5), smEs l l = true
  | [] => rfl
  | x :: l => by rw [smEs, smE_self, smEs_self l]; rfl
theorem same1_is (x y : E5) : m_tape_Same_1 (x.1, x.2.1, x.2.2.1, x.2.2.2.1, x.2.2.2.2) y.1 y.2.1 y.2.2.1 y.2.2.2.1 y.2.2.2.2 = some (smE x y) := by
  unfold m_tape_Same_1 smE m_bytes_Equal
  cases h1 : x.1 == y.1
  · rfl
  · cases h2 : x.2.2.1 == y.2.2.1
    · rfl
    · cases h3 : x.2.2.2.1 == y.2.2.2.1
      · rfl
      · cases h4 : x.2.2.2.2 == y.2.2.2.2
        · rfl
        · rfl
theorem EqualFunc_ev_l1_eq (a b c d) : m_EqualFunc_ev_l1 (a, b, c, d) = unr (m_EqualFunc_ev_l1_step a b c d) m_EqualFunc_ev_l1 := loopM_unr _ _
theorem same_num_loop (l m : List E5) (hlm : l.length = m.length) (hl : l.length ≤ 1000000) : ∀ (k i : Nat), k = l.length - i → i ≤ l.length → m_EqualFunc_ev_l1 (m, l, (l.length : Int), (i : Int)) = some (smEs (l.drop i) (m.drop i)) := by
  intro k
  induction k with
  | zero =>
    intro i hk hi
    rw [EqualFunc_ev_l1_eq]
    unfold m_EqualFunc_ev_l1_step
    rw [ix_ge (by omega), cond_false, unr_r, List.drop_eq_nil_of_le (by omega), List.drop_eq_nil_of_le (by omega)]
    rfl
  | succ k ih =>
    intro i hk hi
    obtain ⟨x, hx⟩ : ∃ x, l[i]? = some x := ⟨_, List.getElem?_eq_getElem (by omega)⟩
    obtain ⟨y, hy⟩ : ∃ x, m[i]? = some x := ⟨_, List.getElem?_eq_getElem (by omega)⟩
    rw [EqualFunc_ev_l1_eq, drop_at hx, drop_at hy, smEs]
    have e1 : m_EqualFunc_ev_l1_step m l (l.length : Int) (i : Int) = some (bif smE x y then .inl (m, l, (l.length : Int), ((i + 1 : Nat) : Int)) else .inr false) := by
      unfold m_EqualFunc_ev_l1_step
      simp only [ix_lt (show i < l.length by omega), ix_0, cond_true, Int.toNat_natCast, hx, hy, Option.bind_some, same1_is, wrap_ix (show i < 1000000000000 by omega)]
      cases smE x y <;> rfl
    rw [e1]
    cases h : smE x y with
    | false => rfl
    | true => rw [cond_true, unr_l, ih (i + 1) (by omega) (by omega)]; rfl
theorem same_num (l m : List E5) (hl : l.length ≤ 1000000) : m_tape_Same l m = some (smEs l m) := by
  unfold m_tape_Same m_EqualFunc_ev
  by_cases h : l.length = m.length
  · have hne : ((l.length : Int) != (m.length : Int)) = false := by simp [h]
    have := same_num_loop l m h hl _ 0 rfl (Nat.zero_le _)
    rw [List.drop_zero, List.drop_zero] at this
    rw [hne, cond_false, show (0 : Int) = ((0 : Nat) : Int) from rfl, this]
    rfl
  · have hne : ((l.length : Int) != (m.length : Int)) = true := by simp; omega
    rw [hne, cond_true, smEs_len h]
    rfl
theorem same_ref_loop (l m : List E5) (hlm : l.length = m.length) (hl : l.length ≤ 1000000) : ∀ (k i : Nat), k = l.length - i → i ≤ l.length → m_r34_Same_l1 (l, m, (i : Int)) = some (smEs (l.drop i) (m.drop i)) := by
  intro k
  induction k with
  | zero =>
    intro i hk hi
    rw [r34_Same_l1_eq]
    unfold m_r34_Same_l1_step
    rw [ix_ge (by omega), cond_false, unr_r, List.drop_eq_nil_of_le (by omega), List.drop_eq_nil_of_le (by omega)]
    rfl
  | succ k ih =>
    intro i hk hi
    obtain ⟨x, hx⟩ : ∃ x, l[i]? = some x := ⟨_, List.getElem?_eq_getElem (by omega)⟩
    obtain ⟨y, hy⟩ : ∃ x, m[i]? = some x := ⟨_, List.getElem?_eq_getElem (by omega)⟩
    rw [r34_Same_l1_eq, drop_at hx, drop_at hy, smEs]
    have e1 : m_r34_Same_l1_step l m (i : Int) = some (bif smE x y then .inl (l, m, ((i + 1 : Nat) : Int)) else .inr false) := by
      unfold m_r34_Same_l1_step smE
      simp only [ix_lt (show i < l.length by omega), ix_0, cond_true, Int.toNat_natCast, hx, hy, Option.bind_some, wrap_ix (show i < 1000000000000 by omega), bne]
      cases x.1 == y.1
      · rfl
      · cases x.2.2.1 == y.2.2.1
        · rfl
        · cases x.2.2.2.1 == y.2.2.2.1
          · rfl
          · cases x.2.2.2.2 == y.2.2.2.2
            · rfl
            · cases (Go.strOfNums x.2.1).toList == (Go.strOfNums y.2.1).toList <;> rfl
    rw [e1]
    cases h : smE x y with
    | false => rfl
    | true => rw [cond_true, unr_l, ih (i + 1) (by omega) (by omega)]; rfl
theorem same_ref (l m : List E5) (hl : l.length ≤ 1000000) : m_r34_Same l m = some (smEs l m) := by
  unfold m_r34_Same
  by_cases h : l.length = m.length
  · have hne : ((l.length : Int) != (m.length : Int)) = false := by simp [h]
    have := same_ref_loop l m h hl _ 0 rfl (Nat.zero_le _)
    rw [List.drop_zero, List.drop_zero] at this
    rw [hne, cond_false, show (0 : Int) = ((0 : Nat) : Int) from rfl, this]
    rfl
  · have hne : ((l.length : Int) != (m.length : Int)) = true := by simp; omega
    rw [hne, cond_true, smEs_len h]
theorem r01_Bytes_l1_eq (a b) : m_r01_Bytes_l1 (a, b) = unr (m_r01_Bytes_l1_step a b) m_r01_Bytes_l1 := loopM_unr _ _
theorem bytes_ref_l1 : ∀ (k m : Nat) (out : List Int), m ≤ k → m < 18446744073709551616 → out.length + (numB m).length ≤ 140737488355328 →
    m_r01_Bytes_l1 ((m : Int), out) = some (out ++ numB m) := by
  intro k
  induction k with
  | zero =>
    intro m out hm hlt hl
    have : m = 0 := by omega
    subst this
    rw [numB, if_pos (by omega)] at hl ⊢
    simp only [List.length_singleton] at hl
    rw [r01_Bytes_l1_eq]
    unfold m_r01_Bytes_l1_step
    have w0 : IntKind.u8.wrap 0 = 0 := by decide +kernel
    have hd : decide (out.length ≤ 140737488355327) = true := decide_eq_true (by omega)
    simp [w0, hd]
  | succ k ih =>
    intro m out hm hlt hl
    rw [r01_Bytes_l1_eq]
    unfold m_r01_Bytes_l1_step
    by_cases h : m < 128
    · rw [numB, if_pos h] at hl ⊢
      simp only [List.length_singleton] at hl
      have hd : decide (out.length ≤ 140737488355327) = true := decide_eq_true (by omega)
      have hc : decide ((128 : Int) ≤ (m : Int)) = false := by simp; omega
      simp [hc, hd, wrap_u8 (n := (m : Int)) (by omega) (by omega)]
    · have hpos := numB_pos (m / 128)
      rw [numB, if_neg h] at hl ⊢
      simp only [List.length_cons] at hl
      have hd : decide (out.length + 1 ≤ 140737488355328) = true := by simp; omega
      have hc : decide ((128 : Int) ≤ (m : Int)) = true := by simp; omega
      have ht : Int.tmod (m : Int) 128 = ((m % 128 : Nat) : Int) := rfl
      have hq : Int.tdiv (m : Int) 128 = ((m / 128 : Nat) : Int) := rfl
      have hw : IntKind.u8.wrap (IntKind.u64.wrap ((128 : Int) + ((m % 128 : Nat) : Int))) = ((128 + m % 128 : Nat) : Int) := by
        rw [wrap_u64 (by omega) (by omega), wrap_u8 (by omega) (by omega)]; omega
      have hw2 : IntKind.u64.wrap ((m / 128 : Nat) : Int) = ((m / 128 : Nat) : Int) := wrap_u64 (by omega) (by omega)
      have hih := ih (m / 128) (out ++ [((128 + m % 128 : Nat) : Int)]) (by omega) (by omega) (by simp; omega)
      simp only [ht, hq, hw, hw2, hc, hd, cond_true, decide_true, true_and, List.length_append, List.length_singleton, unr_l]
      rw [hih]
      simp
theorem bytes_ref (m : Nat) (h : m < 18446744073709551616) : m_r01_Bytes (m : Int) = some (numB m) := by
  have hl := numB_len10 h
  unfold m_r01_Bytes
  rw [bytes_ref_l1 m m [] (Nat.le_refl _) h (by simp; omega)]
  rfl
theorem r01_All_l1_eq (a b) : m_r01_All_l1 (a, b) = unr (m_r01_All_l1_step a b) m_r01_All_l1 := loopM_unr _ _
theorem all2_ref (x y : Nat) (hx : x < 18446744073709551616) (hy : y < 18446744073709551616) : m_r01_All [(x : Int), (y : Int)] = some (numB x ++ numB y) := by
  have l1 := numB_len10 hx
  have l2 := numB_len10 hy
  have w1 : IntKind.i64.wrap 1 = 1 := by decide +kernel
  have w2 : IntKind.i64.wrap 2 = 2 := by decide +kernel
  have e1 : m_r01_All_l1_step ([(x : Int), (y : Int)], 0) [] = some (.inl (([(x : Int), (y : Int)], 1), numB x)) := by
    unfold m_r01_All_l1_step
    have d1 : decide ((numB x).length ≤ 140737488355328) = true := decide_eq_true (by omega)
    simp [bytes_ref x hx, w1, d1]
  have e2 : m_r01_All_l1_step ([(x : Int), (y : Int)], 1) (numB x) = some (.inl (([(x : Int), (y : Int)], 2), numB x ++ numB y)) := by
    unfold m_r01_All_l1_step
    have d1 : decide ((numB x).length + (numB y).length ≤ 140737488355328) = true := decide_eq_true (by omega)
    simp [bytes_ref y hy, w2, d1]
  have e3 : m_r01_All_l1_step ([(x : Int), (y : Int)], 2) (numB x ++ numB y) = some (.inr (numB x ++ numB y)) := by
    unfold m_r01_All_l1_step
    simp
  unfold m_r01_All
  rw [r01_All_l1_eq, e1, unr_l, r01_All_l1_eq, e2, unr_l, r01_All_l1_eq, e3, unr_r]
  rfl
theorem r34_Bytes_l1_eq (a b) : m_r34_Bytes_l1 (a, b) = unr (m_r34_Bytes_l1_step a b) m_r34_Bytes_l1 := loopM_unr _ _
theorem ref_round (l : List Ev) (hl : l.length ≤ 1000000) {i : Nat} {e : Ev} (hei : l[i]? = some e) (hok : okE e) (out : List Int) (hlo : out.length ≤ 9999995000) : m_r34_Bytes_l1_step (l.map evT, (i : Int)) out = some (.inl ((l.map evT, ((i + 1 : Nat) : Int)), out ++ evB e)) := by
  have hlt : i < l.length := (List.getElem?_eq_some_iff.1 hei).1
  have hlt' : i < (l.map evT).length := by simpa using hlt
  have hck : chkE e = 0 := by
    obtain ⟨h1, h2, h3, h4, h5, h6, h7, -⟩ := hok
    unfold chkE
    rw [if_neg (by omega), if_neg (by omega), if_pos ⟨h4, h5, h6, h7⟩]
  have hck' := check_ref e
  rw [hck] at hck'
  obtain ⟨h1, h2, h3, h4, h5, h6, h7, h8, h9⟩ := hok
  obtain ⟨kd, b, n, rows, cols⟩ := e
  simp only at h1 h2 h3 h4 h5 h6 h7 h8 h9 hck' ⊢
  obtain ⟨kn, rfl⟩ : ∃ kn : Nat, kd = kn := ⟨kd.toNat, by omega⟩
  obtain ⟨nn, rfl⟩ : ∃ kn : Nat, n = kn := ⟨n.toNat, by omega⟩
  obtain ⟨rn, rfl⟩ : ∃ kn : Nat, rows = kn := ⟨rows.toNat, by omega⟩
  obtain ⟨cn, rfl⟩ : ∃ kn : Nat, cols = kn := ⟨cols.toNat, by omega⟩
  have hxi' : (l.map evT)[i]? = some ((kn : Int), b, (nn : Int), (rn : Int), (cn : Int)) := by rw [List.getElem?_map, hei]; rfl
  have hb0 := numB_len10 (n := b.length) (by omega)
  have hn0 := numB_len10 (n := nn) (by omega)
  have hr0 := numB_len10 (n := rn) (by omega)
  have hc0 := numB_len10 (n := cn) (by omega)
  have p2 := bytes_ref b.length (by omega)
  have p3 := all2_ref rn cn (by omega) (by omega)
  have p4 := bytes_ref nn (by omega)
  unfold m_r34_Bytes_l1_step
  by_cases k3 : kn < 3
  · simp (disch := omega) only [de_t, de_f, be_t, be_f, bn_t, bn_f, wr_i64, wr_u64, wr_u8, wr_i32, cond_true, cond_false, Option.bind_some, Option.bind_none, Int.toNat_natCast, List.length_append, List.length_cons, List.length_nil, List.length_map, List.length_singleton, Bool.not_true, Bool.not_false, decide_true, decide_false, unr_l, unr_r, true_and, and_true, and_self, evB, if_pos, hxi', hck', p2, p3, p4]
    simp
  · by_cases k4 : kn = 4
    · simp (disch := omega) only [de_t, de_f, be_t, be_f, bn_t, bn_f, wr_i64, wr_u64, wr_u8, wr_i32, cond_true, cond_false, Option.bind_some, Option.bind_none, Int.toNat_natCast, List.length_append, List.length_cons, List.length_nil, List.length_map, List.length_singleton, Bool.not_true, Bool.not_false, decide_true, decide_false, unr_l, unr_r, true_and, and_true, and_self, evB, if_pos, if_neg, hxi', hck', p2, p3, p4]
      simp
    · simp (disch := omega) only [de_t, de_f, be_t, be_f, bn_t, bn_f, wr_i64, wr_u64, wr_u8, wr_i32, cond_true, cond_false, Option.bind_some, Option.bind_none, Int.toNat_natCast, List.length_append, List.length_cons, List.length_nil, List.length_map, List.length_singleton, Bool.not_true, Bool.not_false, decide_true, decide_false, unr_l, unr_r, true_and, and_true, and_self, evB, if_pos, if_neg, hxi', hck', p2, p3, p4]
      simp
theorem ref_loop (l : List Ev) (hn : ∀ e ∈ l, okN e) (hl : l.length ≤ 1000000) : ∀ (k i : Nat) (out : List Int), k = l.length - i → i ≤ l.length → out.length + 5000 * k ≤ 10000000000 →
    m_r34_Bytes_l1 ((l.map evT, (i : Int)), out) = some (if chksE (l.drop i) = 0 then (out ++ evsB (l.drop i), 0) else ([], chksE (l.drop i))) := by
  intro k
  induction k with
  | zero =>
    intro i out hk hi hlo
    rw [List.drop_eq_nil_of_le (by omega), show chksE [] = 0 from rfl, if_pos rfl, r34_Bytes_l1_eq]
    unfold m_r34_Bytes_l1_step
    simp (disch := omega) only [de_t, de_f, be_t, be_f, bn_t, bn_f, wr_i64, wr_u64, wr_u8, wr_i32, cond_true, cond_false, Option.bind_some, Option.bind_none, Int.toNat_natCast, List.length_append, List.length_cons, List.length_nil, List.length_map, List.length_singleton, Bool.not_true, Bool.not_false, decide_true, decide_false, unr_l, unr_r, true_and, and_true, and_self]
    simp [evsB]
  | succ k ih =>
    intro i out hk hi hlo
    obtain ⟨e, hei⟩ : ∃ x, l[i]? = some x := ⟨_, List.getElem?_eq_getElem (by omega)⟩
    have hon := hn e (List.mem_of_getElem? hei)
    have hxi' : (l.map evT)[i]? = some (evT e) := by rw [List.getElem?_map, hei]; rfl
    rw [drop_at hei, r34_Bytes_l1_eq]
    by_cases hx : chkE e = 0
    · have hle := evB_len (chkE_ok hx hon)
      rw [ref_round l hl hei (chkE_ok hx hon) out (by omega), unr_l, ih (i + 1) _ (by omega) (by omega) (by simp; omega), show chksE (e :: l.drop (i + 1)) = chksE (l.drop (i + 1)) by rw [chksE, if_neg (by simp [hx])]]
      simp [evsB]
    · have e1 : m_r34_Bytes_l1_step (l.map evT, (i : Int)) out = some (.inr ([], chkE e)) := by
        unfold m_r34_Bytes_l1_step
        have hne : (chkE e != 0) = true := bne_iff_ne.2 hx
        have hlt' : i < (l.map evT).length := by simp; omega
        have := check_ref e
        simp only [ix_lt hlt', ix_0, cond_true, Int.toNat_natCast, hxi', Option.bind_some, evT, this, hne]
      rw [e1, unr_r, show chksE (e :: l.drop (i + 1)) = chkE e by rw [chksE, if_pos hx], if_neg hx]


instance sizeE_dec (r c : Int) : Decidable (sizeE r c) := by unfold sizeE; infer_instance
def tapeO (r c : Int) (l : List Ev) : List Int × Int := if sizeE r c then (if chksE l = 0 then (headB r c ++ evsB l, 0) else ([], chksE l)) else ([], 11)
theorem size_is (r c : Int) : m_r07_Size r c = some (decide (sizeE r c)) := by
  unfold m_r07_Size sizeE
  by_cases h1 : 1 ≤ r
  · by_cases h2 : r ≤ 512
    · by_cases h3 : 1 ≤ c <;> simp [h1, h2, h3]
    · simp [h1, h2]
  · simp [h1]
theorem bytes_ref_is (r c : Int) (l : List Ev) (hn : ∀ e ∈ l, okN e) (hl : l.length ≤ 1000000) : m_r34_Bytes r c (l.map evT) = some (tapeO r c l) := by
  unfold m_r34_Bytes tapeO
  rw [size_is, Option.bind_some]
  by_cases hs : sizeE r c
  · rw [decide_eq_true hs, if_pos hs]
    obtain ⟨s1, s2, s3, s4⟩ := hs
    obtain ⟨rn, rfl⟩ : ∃ k : Nat, r = k := ⟨r.toNat, by omega⟩
    obtain ⟨cn, rfl⟩ : ∃ k : Nat, c = k := ⟨c.toNat, by omega⟩
    have l1 := numB_len10 (n := rn) (by omega)
    have l2 := numB_len10 (n := cn) (by omega)
    have wr : IntKind.u64.wrap (rn : Int) = rn := wrap_u64 (by omega) (by omega)
    have wc : IntKind.u64.wrap (cn : Int) = cn := wrap_u64 (by omega) (by omega)
    have hlp := ref_loop l hn hl _ 0 ([84] ++ (numB rn ++ numB cn)) rfl (Nat.zero_le _) (by simp; omega)
    rw [List.drop_zero, show ((0 : Nat) : Int) = 0 from rfl] at hlp
    simp (disch := omega) only [de_t, de_f, be_t, be_f, bn_t, bn_f, wr_i64, wr_u64, wr_u8, wr_i32, cond_true, cond_false, Option.bind_some, Option.bind_none, Int.toNat_natCast, List.length_append, List.length_cons, List.length_nil, List.length_map, List.length_singleton, Bool.not_true, Bool.not_false, decide_true, decide_false, unr_l, unr_r, true_and, and_true, and_self, wr, wc, all2_ref, hlp]
    simp [headB]
  · rw [decide_eq_false hs, if_neg hs]
    rfl
theorem bytes_num_is (r c : Int) (l : List Ev) (hn : ∀ e ∈ l, okN e) (hl : l.length ≤ 1000000) : m_tape_Bytes r c (l.map evT) = some (tapeO r c l) := by
  unfold tapeO
  by_cases hs : sizeE r c
  · rw [if_pos hs]
    obtain ⟨s1, s2, s3, s4⟩ := hs
    obtain ⟨rn, rfl⟩ : ∃ k : Nat, r = k := ⟨r.toNat, by omega⟩
    obtain ⟨cn, rfl⟩ : ∃ k : Nat, c = k := ⟨c.toNat, by omega⟩
    by_cases hc : chksE l = 0
    · rw [if_pos hc]
      exact tape_bytes rn cn (by omega) (by omega) (by omega) (by omega) l (chksE_ok hc hn) hl
    · rw [if_neg hc]
      exact bytes_bad rn cn (by omega) (by omega) (by omega) (by omega) l hn hl hc
  · rw [if_neg hs]
    exact bytes_size r c _ hs
end Go.Sim

set_option maxRecDepth 100000
set_option maxHeartbeats 4000000
set_option linter.unusedVariables false
namespace Go.Sim
def plE (l : List Ev) : List E5 := l.map fun e => evT (plainE e)
theorem ofs_ev (l : List Ev) (hl : l.length ≤ 1000000) : m_L34_ofs (l.map evT) = some (l.map evT) := ofs_id _ (by simpa using hl)
theorem r01_same_self (b : List Int) : m_r01_Same b b = some true := by simp [m_r01_Same]
theorem tells_round (r c : Int) (A B : List Ev) (hA : A.length ≤ 30) (hb : ∀ e ∈ A, e.b.length ≤ 400) {i : Nat} (hi : i < A.length) :
    m_TapeTells_l1_step (r, c, A.map evT, B.map evT, (i : Int)) (plE (A.take i)) = some (.inl ((r, c, A.map evT, B.map evT, ((i + 1 : Nat) : Int)), plE (A.take (i + 1)))) := by
  obtain ⟨e, hei⟩ := ix_some hi
  have hel := hb e (List.mem_of_getElem? hei)
  have hxi : (A.map evT)[i]? = some (e.kind, e.b, e.n, e.rows, e.cols) := by rw [List.getElem?_map, hei]; rfl
  have ht : plE (A.take (i + 1)) = plE (A.take i) ++ [evT (plainE e)] := by rw [take_at hei]; simp [plE]
  have hln : (plE (A.take i)).length ≤ 30 := by simp [plE]; omega
  have hp1 := plain_num e (by omega)
  have hp2 := plain_ref e (by omega)
  have hc1 := check_is e
  have hc2 := check_ref e
  generalize hpe : plainE e = p at *
  obtain ⟨pk, pb, pn, pr, pc⟩ := p
  have ho : m_L34_ofs [(pk, pb, pn, pr, pc)] = some [(pk, pb, pn, pr, pc)] := ofs_id _ (by simp)
  have hs : m_r34_Same [(pk, pb, pn, pr, pc)] [(pk, pb, pn, pr, pc)] = some true := by rw [same_ref _ _ (by simp), smEs_self]
  unfold m_TapeTells_l1_step
  simp only [evT] at hp1 hp2 ht
  simp (disch := omega) only [de_t, de_f, be_t, be_f, bn_t, bn_f, wr_i64, wr_u64, wr_u8, wr_i32, cond_true, cond_false, Option.bind_some, Option.bind_none, Int.toNat_natCast, List.length_append, List.length_cons, List.length_nil, List.length_map, List.length_singleton, Bool.not_true, Bool.not_false, decide_true, decide_false, unr_l, unr_r, true_and, and_true, and_self, hxi, hc1, hc2, hp1, hp2, m_L29_Of, ho, hs, ht]
  simp
theorem tells_end (r c : Int) (A B : List Ev) (hA : A.length ≤ 30) (hB : B.length ≤ 30) (hn : ∀ e ∈ A, okN e) (hbt : ∀ e ∈ A, ∀ c ∈ e.b, Byt c) :
    m_TapeTells_l1_step (r, c, A.map evT, B.map evT, (A.length : Int)) (plE A) = some (.inr true) := by
  have h1 := bytes_num_is r c A hn (by omega)
  have h2 := bytes_ref_is r c A hn (by omega)
  have h3 := same_num (A.map evT) (B.map evT) (by simp; omega)
  have h4 := same_ref (A.map evT) (B.map evT) (by simp; omega)
  unfold m_TapeTells_l1_step
  have hx : (!smEs (A.map evT) (B.map evT) == smEs (A.map evT) (B.map evT)) = false := by cases smEs (A.map evT) (B.map evT) <;> rfl
  have hnb : ((tapeO r c A).2 != (tapeO r c A).2) = false := bne_self_eq_false _
  simp (disch := omega) only [de_t, de_f, be_t, be_f, bn_t, bn_f, wr_i64, wr_u64, wr_u8, wr_i32, cond_true, cond_false, Option.bind_some, Option.bind_none, Int.toNat_natCast, List.length_append, List.length_cons, List.length_nil, List.length_map, List.length_singleton, Bool.not_true, Bool.not_false, decide_true, decide_false, unr_l, unr_r, true_and, and_true, and_self, h1, h2, h3, h4, ofs_ev, hx, r01_same_self, hnb, known_true]
  by_cases hw : (tapeO r c A).2 = 0
  · have hz : ((tapeO r c A).2 != 0) = false := by rw [hw]; rfl
    rw [hz, cond_false]
    unfold tapeO at hw ⊢
    by_cases hs : sizeE r c
    · rw [if_pos hs] at hw ⊢
      by_cases hc : chksE A = 0
      · rw [if_pos hc]
        obtain ⟨s1, s2, s3, s4⟩ := hs
        obtain ⟨rn, rfl⟩ : ∃ k : Nat, r = k := ⟨r.toNat, by omega⟩
        obtain ⟨cn, rfl⟩ : ∃ k : Nat, c = k := ⟨c.toNat, by omega⟩
        have ok := chksE_ok hc hn
        have hbyt := tape_byt rn cn ok hbt
        have hlen := evsB_len ok
        have hln1 := numB_len10 (n := rn) (by omega)
        have hln2 := numB_len10 (n := cn) (by omega)
        have hH : (headB rn cn).length ≤ 21 := by simp [headB]; omega
        have hpar := parse_num (bs := headB rn cn ++ evsB A) hbyt (by rw [List.length_append]; omega)
        rw [outP, parseP_at (by omega) (by omega) (by omega) (by omega) ok] at hpar
        have hpl : (A.map plainE).map evT = plE A := by simp [plE]
        have hsm := same_num (plE A) (plE A) (by simp [plE]; omega)
        rw [smEs_self] at hsm
        simp only [hpar, Option.bind_some, out4, hpl, hsm]
        simp
      · rw [if_neg hc] at hw
        exact absurd hw hc
    · rw [if_neg hs] at hw
      cases hw
  · have hz : ((tapeO r c A).2 != 0) = true := bne_iff_ne.2 hw
    rw [hz, cond_true]
theorem tells_plain (x0 x1 : Int) (x2 x3 : List E5) (h2 : ∀ x ∈ x2, 0 ≤ x.2.2.1 ∧ x.2.2.1 < 18446744073709551616)
    (hB : ∀ e ∈ cutEs x2, ∀ c ∈ e.b, Byt c) : m_TapeTells x0 x1 x2 x3 = some true := by
  have l2 := cutEs_len x2
  have l3 := cutEs_len x3
  have n2 := cutEs_n h2
  have hb : ∀ e ∈ cutEs x2, e.b.length ≤ 400 := by
    intro e he
    obtain ⟨x, hx, rfl⟩ := List.mem_map.1 he
    simp [cutE]; omega
  have hl := loop_to (step := fun s => m_TapeTells_l1_step s.1 s.2) (t := true) (fun i => ((x0, x1, (cutEs x2).map evT, (cutEs x3).map evT, (i : Int)), plE ((cutEs x2).take i))) (fun i hi => tells_round x0 x1 _ _ l2 hb hi)
    (by rw [List.take_length]; exact tells_end x0 x1 _ _ l2 l3 n2 hB) 0 (Nat.zero_le _)
  have hl' : m_TapeTells_l1 ((x0, x1, (cutEs x2).map evT, (cutEs x3).map evT, (0 : Int)), []) = some true := hl
  unfold m_TapeTells
  simp only [cut_is, Option.bind_some, hl']
end Go.Sim

namespace Go.Sim
open Go.RowKit

def plainF (P : Program) (pt : TypeId → Bool) : List Field → Nat → Nat → Bool
  | [], off, n => decide (off = n)
  | f :: fs, off, n => decide (f.offset = off) && pt f.type && plainF P pt fs (off + P.cellsOf f.type) n
def plainT (P : Program) : Nat → TypeId → Bool
  | 0, _ => false
  | d + 1, t => match P.underlying t with
    | some .bool => true
    | some (.int _) => true
    | some .string => true
    | some (.slice e) => plainT P d e && decide (0 < P.cellsOf e)
    | some (.struct fs) => plainF P (plainT P d) fs.toList 0 (P.cellsOf t)
    | some (.array n e) => plainT P d e && decide (n * P.cellsOf e = P.cellsOf t)
    | _ => false

/-- Abstract cells that read as a value of a type. -/
def RV (P : Program) (h : Heap) : Nat → TypeId → List Value → Prop
  | 0, _, _ => False
  | d + 1, t, cs => match P.underlying t with
    | some .bool => ∃ b, cs = [.bool b]
    | some (.int k) => ∃ x, cs = [.int k x] ∧ (Lit.int k x).wf = true
    | some .string => ∃ s : ByteArray, cs = [.string s] ∧ s.size ≤ maxLen
    | some (.slice e) => cs = [.slice none 0 0] ∨ cs = [.slice (some ⟨0, 0, none⟩) 0 dud] ∨ ∃ (b : Nat) (rows : List (List Value)), cs = [.slice (some ⟨b, 0, none⟩) rows.length noapp] ∧ rows ≠ [] ∧ rows.length ≤ maxLen ∧
        h.get b = some (.cells rows.flatten e false) ∧ ∀ r ∈ rows, r.length = P.cellsOf e ∧ RV P h d e r
    | some (.struct fs) => cs.length = P.cellsOf t ∧ ∀ f ∈ fs.toList, RV P h d f.type ((cs.drop f.offset).take (P.cellsOf f.type))
    | some (.array n e) => cs.length = P.cellsOf t ∧ ∀ i, i < n → RV P h d e ((cs.drop (i * P.cellsOf e)).take (P.cellsOf e))
    | _ => False

theorem RV.ext {P : Program} {h h' : Heap} (hx : Ext h h') : ∀ {d : Nat} {t : TypeId} {cs : List Value}, RV P h d t cs → RV P h' d t cs
  | 0, _, _, q => q
  | d + 1, t, cs, q => by
    unfold RV at q ⊢
    split at q
    · exact q
    · exact q
    · exact q
    · rcases q with q | q | ⟨b, rows, h1, h0, h2, h3, h4⟩
      · exact .inl q
      · exact .inr (.inl q)
      · exact .inr (.inr ⟨b, rows, h1, h0, h2, (hx.get b (h.wf _ _ h3)).trans h3, fun r hr => ⟨(h4 r hr).1, (h4 r hr).2.ext hx⟩⟩)
    · exact ⟨q.1, fun f hf => (q.2 f hf).ext hx⟩
    · exact ⟨q.1, fun i hi => (q.2 i hi).ext hx⟩
    · exact q

/-- Nothing may be written. -/
def RO (h : Heap) : Prop := ∀ b o, h.get b = some o → o.rw = false

/-- How the abstract state goes on while the machine's stays. -/
structure Lift (P : Program) (w : World) (β : Place) (h : Heap) (β' : Place) (h' : Heap) : Prop where
  rel : Rel P β' h' w
  ro : RO h'
  place : ∀ b x, β b = some x → β' b = some x
  ext : Ext h h'
theorem Lift.refl {P : Program} {w : World} {β : Place} {h : Heap} (hr : Rel P β h w) (ho : RO h) : Lift P w β h β h := ⟨hr, ho, fun _ _ e => e, Ext.refl h⟩
theorem Lift.trans {P : Program} {w : World} {β β1 β2 : Place} {h h1 h2 : Heap} (x : Lift P w β h β1 h1) (y : Lift P w β1 h1 β2 h2) : Lift P w β h β2 h2 :=
  ⟨y.rel, y.ro, fun b q e => y.place _ _ (x.place _ _ e), x.ext.trans y.ext⟩

theorem Lift.push {P : Program} {w : World} {β : Place} {h : Heap} (hr : Rel P β h w) (ho : RO h) {m off : Nat} {mc : Array Value} {te e : TypeId} {fr : Nat × Nat} {cs : List Value}
    (hm : w.heap[m]? = some (.cells mc te fr)) (hle : off + cs.length ≤ mc.size) (hv : VRels β cs ((mc.toList.drop off).take cs.length)) :
    Lift P w β h (β.add h.next m ⟨off, 0, 0⟩) (h.push (.cells cs e false)) := by
  have hn := hr.noNext
  have hmono := Place.add_mono m ⟨off, 0, 0⟩ hn
  have hmw : m < w.heap.size := (Array.getElem?_eq_some_iff.1 hm).1
  have old : ∀ b, b ≠ h.next → (h.push (.cells cs e false)).get b = h.get b := fun b hb => Heap.get_push_ne _ _ hb
  refine ⟨⟨fun b m1 s1 q => ?_, fun b m1 s1 o q g => ?_, fun b b' m1 s1 s2 o o' q q' g g' hrw => ?_⟩, fun b o g => ?_, hmono, (Ext.refl h).push _⟩
  · by_cases hb : b = h.next
    · subst hb; rw [Place.add_same] at q; cases q; exact ⟨by simp, hmw⟩
    · rw [Place.add_ne _ _ _ hb] at q
      obtain ⟨h1, h2⟩ := hr.dom b m1 s1 q
      exact ⟨by simp; omega, h2⟩
  · by_cases hb : b = h.next
    · subst hb
      rw [Place.add_same] at q
      cases q
      rw [Heap.get_push_self] at g
      cases g
      exact ⟨mc, fr, te, hm, hle, hv.mono hmono, fun e => by cases e⟩
    · rw [Place.add_ne _ _ _ hb] at q
      rw [old b hb] at g
      exact (hr.obj b m1 s1 o q g).mono hmono rfl
  · exfalso
    by_cases hb : b = h.next
    · subst hb; rw [Heap.get_push_self] at g; cases g; cases hrw
    · rw [old b hb] at g; rw [ho b o g] at hrw; cases hrw
  · by_cases hb : b = h.next
    · subst hb; rw [Heap.get_push_self] at g; cases g; rfl
    · rw [old b hb] at g; exact ho b o g

section
variable {H : Type} {enc : TypeId × Value → H} {P : Program} {w : World}

/-- A list of readings, each lifted. -/
theorem lift_list (d : Nat) (t : TypeId) (step : ∀ (n : Nat) (cs : List Value) (x : DataW H × List MemPlace), DataW.trod enc P w 0 (fun _ => true) true n t cs = some x → ∀ β h, Rel P β h w → RO h →
      ∃ β' h' acs, Lift P w β h β' h' ∧ VRels β' acs cs ∧ RV P h' d t acs) :
    ∀ (ls : List (List Value)), (∀ l ∈ ls, ∃ n x, DataW.trod enc P w 0 (fun _ => true) true n t l = some x) → ∀ β h, Rel P β h w → RO h →
      ∃ (β' : Place) (h' : Heap) (als : List (List Value)), Lift P w β h β' h' ∧ VRels β' als.flatten ls.flatten ∧ als.length = ls.length ∧ (∀ (i : Nat) (a : List Value), als[i]? = some a → ∃ l : List Value, ls[i]? = some l ∧ a.length = l.length ∧ RV P h' d t a)
  | [], _, β, h, hr, ho => ⟨β, h, [], Lift.refl hr ho, .nil, rfl, fun i a e => by simp at e⟩
  | l :: ls, hl, β, h, hr, ho => by
    obtain ⟨n, x, e⟩ := hl l (by simp)
    obtain ⟨β1, h1, acs, L1, v1, r1⟩ := step n l x e β h hr ho
    obtain ⟨β2, h2, als, L2, v2, hlen, r2⟩ := lift_list d t step ls (fun l' h' => hl l' (by simp [h'])) β1 h1 L1.rel L1.ro
    refine ⟨β2, h2, acs :: als, L1.trans L2, ?_, by simp [hlen], fun i a e => ?_⟩
    · simp only [List.flatten_cons]
      exact (v1.mono L2.place).append v2
    · cases i with
      | zero => simp at e; subst e; exact ⟨l, rfl, v1.length, r1.ext L2.ext⟩
      | succ i => simpa using r2 i a (by simpa using e)

theorem flat_len : ∀ (ls : List (List Value)) (z : Nat), (∀ l ∈ ls, l.length = z) → ls.flatten.length = ls.length * z
  | [], z, _ => by simp
  | a :: ls, z, hz => by
    rw [List.flatten_cons, List.length_append, flat_len ls z (fun l h => hz l (by simp [h])), hz a (by simp), List.length_cons, Nat.add_mul]
    omega
theorem flat_at : ∀ (ls : List (List Value)) (z i : Nat) (l : List Value), (∀ l ∈ ls, l.length = z) → ls[i]? = some l → (ls.flatten.drop (i * z)).take z = l
  | [], z, i, l, _, e => by simp at e
  | a :: ls, z, 0, l, hz, e => by
    simp at e; subst e
    have := hz a (by simp)
    simp [← this]
  | a :: ls, z, i + 1, l, hz, e => by
    have ha := hz a (by simp)
    have := flat_at ls z i l (fun l h => hz l (by simp [h])) (by simpa using e)
    rw [List.flatten_cons, List.drop_append, show (i + 1) * z = a.length + i * z by rw [ha, Nat.add_mul]; omega]
    rw [List.drop_eq_nil_of_le (by omega)]
    simpa using this

theorem flat_of (xs : List Value) (z : Nat) : ∀ (n : Nat), xs.length = n * z → ((List.range n).map fun i => (xs.drop (i * z)).take z).flatten = xs
  | 0, h => by
    have : xs.length = 0 := by simpa using h
    simp [List.length_eq_zero_iff.1 this]
  | n + 1, h => by
    have hn : (n + 1) * z = n * z + z := by rw [Nat.add_mul]; omega
    have ih := flat_of (xs.take (n * z)) z n (by simp; omega)
    rw [List.range_succ, List.map_append, List.flatten_append]
    have e : (List.range n).map (fun i => (xs.drop (i * z)).take z) = (List.range n).map (fun i => ((xs.take (n * z)).drop (i * z)).take z) := by
      apply List.map_congr_left
      intro i hi
      have hi' : i < n := by simpa using hi
      have : (i + 1) * z ≤ n * z := Nat.mul_le_mul_right _ hi'
      rw [List.drop_take, List.take_take, Nat.min_eq_left (by rw [Nat.add_mul] at this; omega)]
    rw [e, ih]
    simp only [List.map_cons, List.map_nil, List.flatten_cons, List.flatten_nil, List.append_nil]
    rw [List.take_of_length_le (l := xs.drop (n * z)) (by simp; omega)]
    exact List.take_append_drop _ _

/-- What stands in a slice, row by row. -/
theorem cells_rows {a : Addr} {z n : Nat} {ls : List (List Value)} (hz : 0 < z) (hn : 0 < n) (hl : ls.length = n) (h : ∀ i, i < n → w.cells? 0 (a.add (i * z)) z = ls[i]?) :
    ∃ mc te fr, w.heap[a.block]? = some (.cells mc te fr) ∧ a.spot = none ∧ a.off + n * z ≤ mc.size ∧ ls.flatten = (mc.toList.drop a.off).take (n * z) ∧ ∀ l ∈ ls, l.length = z := by
  have each : ∀ i, i < n → ∃ l, ls[i]? = some l ∧ l.length = z ∧ ∀ j, j < z → w.cell? ((a.add (i * z)).add j) = l[j]? := by
    intro i hi
    have hs : ∃ l, ls[i]? = some l := ⟨_, List.getElem?_eq_getElem (by omega)⟩
    obtain ⟨l, e⟩ := hs
    have hc := h i hi
    rw [e] at hc
    unfold World.cells? at hc
    rw [if_pos (Nat.zero_le _)] at hc
    have h1 := mapM_some_length hc
    refine ⟨l, e, by simpa using h1, fun j hj => mapM_some_get hc j j (by simp [hj])⟩
  have addadd : ∀ i j, (a.add i).add j = a.add (i + j) := by
    intro i j
    unfold Addr.add
    by_cases h1 : i = 0
    · subst h1; simp
    · by_cases h2 : j = 0
      · subst h2; simp
      · simp [h1, h2]; omega
  obtain ⟨l0, e0, hl0, c0⟩ := each 0 hn
  have c00 := c0 0 hz
  rw [Nat.zero_mul, addadd] at c00
  simp only [Nat.add_zero, Addr.add, if_true] at c00
  have hv0 : ∃ v, w.cell? a = some v := ⟨l0[0]'(by omega), by rw [c00]; exact List.getElem?_eq_getElem _⟩
  obtain ⟨v0, hv0⟩ := hv0
  unfold World.cell? at hv0
  split at hv0
  · rename_i mc te fr hm
    by_cases hsp : a.spot.isSome = true
    · rw [if_pos hsp] at hv0; cases hv0
    · have hspn : a.spot = none := by cases hq : a.spot with
        | none => rfl
        | some _ => rw [hq] at hsp; simp at hsp
      have cell : ∀ k, w.cell? (a.add k) = mc[a.off + k]? := by
        intro k
        unfold World.cell? Addr.add
        by_cases hk : k = 0
        · subst hk; simp [hm, hspn]
        · simp [hk, hm]
      have all : ∀ i, i < n → ∀ j, j < z → mc[a.off + (i * z + j)]? = (ls.flatten)[i * z + j]? := by
        intro i hi j hj
        obtain ⟨l, e, hl1, c1⟩ := each i hi
        have hlen : ∀ l ∈ ls, l.length = z := by
          intro l hm2
          obtain ⟨k, hk⟩ := List.getElem?_of_mem hm2
          have hkl : k < ls.length := (List.getElem?_eq_some_iff.1 hk).1
          obtain ⟨l2, e2, hl2, _⟩ := each k (by omega)
          rw [hk] at e2; cases e2; exact hl2
        have := flat_at ls z i l hlen e
        have h2 : l[j]? = ls.flatten[i * z + j]? := by
          rw [← this, List.getElem?_take, if_pos hj, List.getElem?_drop]
        rw [← h2, ← c1 j hj, addadd, cell]
      have hlen : ∀ l ∈ ls, l.length = z := by
        intro l hm2
        obtain ⟨k, hk⟩ := List.getElem?_of_mem hm2
        have hkl : k < ls.length := (List.getElem?_eq_some_iff.1 hk).1
        obtain ⟨l2, e2, hl2, _⟩ := each k (by omega)
        rw [hk] at e2; cases e2; exact hl2
      have hfl := flat_len ls z hlen
      rw [hl] at hfl
      have pos : ∀ q, q < n * z → mc[a.off + q]? = ls.flatten[q]? := by
        intro q hq
        have h1 := all (q / z) ((Nat.div_lt_iff_lt_mul hz).2 hq) (q % z) (Nat.mod_lt _ hz)
        rw [Nat.mul_comm, Nat.div_add_mod] at h1
        exact h1
      have hsz : a.off + n * z ≤ mc.size := by
        have hq : n * z - 1 < n * z := by have := Nat.mul_le_mul_right z hn; omega
        have h1 := pos (n * z - 1) hq
        rw [List.getElem?_eq_getElem (by omega)] at h1
        have := (Array.getElem?_eq_some_iff.1 h1).1
        omega
      refine ⟨mc, te, fr, hm, hspn, hsz, ?_, hlen⟩
      apply List.ext_getElem?
      intro q
      by_cases hq : q < n * z
      · rw [← pos q hq, List.getElem?_take, if_pos hq, List.getElem?_drop]
        simp
      · rw [List.getElem?_eq_none (by omega), List.getElem?_eq_none (by simp; omega)]
  · cases hv0


theorem lift_fields (d : Nat) (ih : ∀ t, plainT P d t = true → ∀ (n : Nat) (cs : List Value) (x : DataW H × List MemPlace), DataW.trod enc P w 0 (fun _ => true) true n t cs = some x → ∀ β h, Rel P β h w → RO h →
      ∃ (β' : Place) (h' : Heap) (acs : List Value), Lift P w β h β' h' ∧ VRels β' acs cs ∧ RV P h' d t acs) :
    ∀ (fs : List Field) (off N : Nat) (cs : List Value), plainF P (plainT P d) fs off N = true → off + cs.length = N →
      (∀ f ∈ fs, off ≤ f.offset → ∃ n x, DataW.trod enc P w 0 (fun _ => true) true n f.type ((cs.drop (f.offset - off)).take (P.cellsOf f.type)) = some x) → ∀ β h, Rel P β h w → RO h →
      ∃ (β' : Place) (h' : Heap) (acs : List Value), Lift P w β h β' h' ∧ VRels β' acs cs ∧ ∀ f ∈ fs, off ≤ f.offset ∧ RV P h' d f.type ((acs.drop (f.offset - off)).take (P.cellsOf f.type))
  | [], off, N, cs, hp, hl, _, β, h, hr, ho => by
    simp only [plainF, decide_eq_true_eq] at hp
    have : cs.length = 0 := by omega
    have : cs = [] := List.length_eq_zero_iff.1 this
    subst this
    exact ⟨β, h, [], Lift.refl hr ho, .nil, by simp⟩
  | f :: fs, off, N, cs, hp, hl, ht, β, h, hr, ho => by
    simp only [plainF, Bool.and_eq_true, decide_eq_true_eq] at hp
    obtain ⟨⟨hoff, hpt⟩, hrest⟩ := hp
    have hle : ∀ (fs : List Field) (off N : Nat), plainF P (plainT P d) fs off N = true → off ≤ N ∧ ∀ f ∈ fs, off ≤ f.offset := by
      intro fs
      induction fs with
      | nil => intro off N hp; simp [plainF] at hp; exact ⟨by omega, by simp⟩
      | cons g gs ihg =>
        intro off N hp
        simp only [plainF, Bool.and_eq_true, decide_eq_true_eq] at hp
        obtain ⟨h1, h2⟩ := ihg _ _ hp.2
        refine ⟨by omega, fun f hf => ?_⟩
        rcases List.mem_cons.1 hf with rfl | hf
        · omega
        · have := h2 f hf; omega
    obtain ⟨hN, hge⟩ := hle _ _ _ hrest
    obtain ⟨n, x, e⟩ := ht f (by simp) (by omega)
    rw [hoff, Nat.sub_self, List.drop_zero] at e
    obtain ⟨β1, h1, a1, L1, v1, r1⟩ := ih f.type hpt n _ x e β h hr ho
    obtain ⟨β2, h2, a2, L2, v2, r2⟩ := lift_fields d ih fs (off + P.cellsOf f.type) N (cs.drop (P.cellsOf f.type)) hrest (by simp; omega) (fun g hg hgo => by
      obtain ⟨n, x, e⟩ := ht g (by simp [hg]) (by omega)
      refine ⟨n, x, ?_⟩
      rw [List.drop_drop]
      rw [← e]
      congr 3
      omega) β1 h1 L1.rel L1.ro
    have hlen1 : a1.length = P.cellsOf f.type := by rw [v1.length]; simp; omega
    refine ⟨β2, h2, a1 ++ a2, L1.trans L2, ?_, fun g hg => ?_⟩
    · have := (v1.mono L2.place).append v2
      rwa [List.take_append_drop] at this
    · rcases List.mem_cons.1 hg with rfl | hg
      · refine ⟨by omega, ?_⟩
        rw [hoff, Nat.sub_self, List.drop_zero, List.take_left' hlen1]
        exact r1.ext L2.ext
      · obtain ⟨q1, q2⟩ := r2 g hg
        refine ⟨by omega, ?_⟩
        rw [List.drop_append, List.drop_eq_nil_of_le (by omega), List.nil_append, hlen1]
        rwa [show g.offset - off - P.cellsOf f.type = g.offset - (off + P.cellsOf f.type) by omega]

theorem lift (d : Nat) : ∀ t, plainT P d t = true → ∀ (n : Nat) (cs : List Value) (x : DataW H × List MemPlace), DataW.trod enc P w 0 (fun _ => true) true n t cs = some x → ∀ β h, Rel P β h w → RO h →
    ∃ (β' : Place) (h' : Heap) (acs : List Value), Lift P w β h β' h' ∧ VRels β' acs cs ∧ RV P h' d t acs := by
  induction d with
  | zero => intro t h; simp [plainT] at h
  | succ d ih =>
    intro t hp n cs x ht β h hr ho
    unfold plainT at hp
    cases hu : P.underlying t with
    | none => simp [hu] at hp
    | some D =>
      rw [hu] at hp
      cases D <;> simp only [Bool.false_eq_true] at hp
      case bool =>
        obtain ⟨b, rfl, _⟩ := DataW.trod_bool hu ht
        exact ⟨β, h, [.bool b], Lift.refl hr ho, .cons (.bool b) .nil, by unfold RV; rw [hu]; exact ⟨b, rfl⟩⟩
      case int k =>
        obtain ⟨m, rfl, _, hw⟩ := DataW.trod_int hu ht
        exact ⟨β, h, [.int k m], Lift.refl hr ho, .cons (.int k m) .nil, by unfold RV; rw [hu]; exact ⟨m, rfl, hw⟩⟩
      case string =>
        obtain ⟨s, rfl, _, hs⟩ := DataW.trod_string hu ht
        exact ⟨β, h, [.string s], Lift.refl hr ho, .cons (.string s) .nil, by unfold RV; rw [hu]; exact ⟨s, rfl, hs⟩⟩
      case struct fs =>
        obtain ⟨xs, m, rfl, _, hl, hxl, hx⟩ := DataW.trod_struct hu ht
        have hp' : plainF P (plainT P d) fs.toList 0 (P.cellsOf t) = true := hp
        obtain ⟨β', h', acs, L, v, r⟩ := lift_fields d ih fs.toList 0 (P.cellsOf t) cs hp' (by omega) (fun f hf _ => by
          obtain ⟨i, hi⟩ := List.getElem?_of_mem hf
          have hi' : fs[i]? = some f := by simpa using hi
          have := hx i f hi'
          have hlt : i < xs.length := by rw [hxl]; exact (Array.getElem?_eq_some_iff.1 hi').1
          rw [List.getElem?_eq_getElem hlt] at this
          exact ⟨m, _, by simpa using this⟩) β h hr ho
        refine ⟨β', h', acs, L, v, ?_⟩
        unfold RV
        rw [hu]
        refine ⟨by rw [v.length]; exact hl, fun f hf => ?_⟩
        have := (r f hf).2
        simpa using this
      case array n2 e =>
        simp only [Bool.and_eq_true, decide_eq_true_eq] at hp
        obtain ⟨hpe, hsz⟩ := hp
        obtain ⟨xs, m, rfl, _, hl, hxl, hx⟩ := DataW.trod_array hu ht
        have hflat := flat_of cs (P.cellsOf e) n2 (by rw [hl, hsz])
        obtain ⟨β', h', als, L, v, hlen, r⟩ := lift_list d e (fun n cs x ht β h hr ho => ih e hpe n cs x ht β h hr ho) ((List.range n2).map fun i => (cs.drop (i * P.cellsOf e)).take (P.cellsOf e)) (fun l hl2 => by
          obtain ⟨i, hi, rfl⟩ := List.mem_map.1 hl2
          have hi' : i < n2 := by simpa using hi
          have := hx i hi'
          rw [List.getElem?_eq_getElem (by omega)] at this
          exact ⟨m, _, this⟩) β h hr ho
        rw [hflat] at v
        refine ⟨β', h', als.flatten, L, v, ?_⟩
        have hz : ∀ a ∈ als, a.length = P.cellsOf e ∧ RV P h' d e a := by
          intro a ha
          obtain ⟨i, hi⟩ := List.getElem?_of_mem ha
          obtain ⟨l, h1, h2, h3⟩ := r i a hi
          refine ⟨?_, h3⟩
          rw [h2]
          have hm := List.mem_of_getElem? h1
          obtain ⟨k, hk, rfl⟩ := List.mem_map.1 hm
          have hk' : k < n2 := by simpa using hk
          have : (k + 1) * P.cellsOf e ≤ n2 * P.cellsOf e := Nat.mul_le_mul_right _ hk'
          rw [Nat.add_mul] at this
          simp
          omega
        unfold RV
        rw [hu]
        refine ⟨by rw [v.length]; exact hl, fun i hi => ?_⟩
        have hal : i < als.length := by rw [hlen]; simpa using hi
        rw [flat_at als (P.cellsOf e) i als[i] (fun a ha => (hz a ha).1) (List.getElem?_eq_getElem hal)]
        exact (hz _ (List.getElem_mem hal)).2
      case slice e =>
        simp only [Bool.and_eq_true, decide_eq_true_eq] at hp
        obtain ⟨hpe, hpos⟩ := hp
        rcases DataW.trod_slice hu ht with ⟨rfl, _⟩ | ⟨a, len, cap, elems, rest, m, rfl, rfl, _, _, hlc, hcm, hel, hx, _, _⟩
        · exact ⟨β, h, [.slice none 0 0], Lift.refl hr ho, .cons .nilslice .nil, by unfold RV; rw [hu]; exact .inl rfl⟩
        · by_cases h0 : len = 0
          · subst h0
            exact ⟨β, h, [.slice (some ⟨0, 0, none⟩) 0 dud], Lift.refl hr ho, .cons .dud .nil, by unfold RV; rw [hu]; exact .inr (.inl rfl)⟩
          · have hex : ∀ i, i < len → ∃ l y, w.cells? 0 (a.add (i * P.cellsOf e)) (P.cellsOf e) = some l ∧ DataW.trod enc P w 0 (fun _ => true) true m e l = some y := by
              intro i hi
              have := hx i hi
              rw [List.getElem?_eq_getElem (by omega), Option.bind_eq_some_iff] at this
              obtain ⟨l, h1, h2⟩ := this
              exact ⟨l, _, h1, h2⟩
            let ls : List (List Value) := (List.range len).map fun i => (w.cells? 0 (a.add (i * P.cellsOf e)) (P.cellsOf e)).getD []
            have hls : ∀ i, i < len → w.cells? 0 (a.add (i * P.cellsOf e)) (P.cellsOf e) = ls[i]? := by
              intro i hi
              obtain ⟨l, _, h1, _⟩ := hex i hi
              simp [ls, hi, h1]
            have hlsl : ls.length = len := by simp [ls]
            obtain ⟨mc, te, fr, hm, hsp, hsz, hfl, hlz⟩ := cells_rows hpos (by omega) hlsl hls
            obtain ⟨β', h', als, L, v, hlen, r⟩ := lift_list d e (fun n cs x ht β h hr ho => ih e hpe n cs x ht β h hr ho) ls (fun l hl2 => by
              obtain ⟨i, hi, rfl⟩ := List.mem_map.1 hl2
              obtain ⟨l, y, h1, h2⟩ := hex i (by simpa using hi)
              exact ⟨m, y, by rw [h1]; exact h2⟩) β h hr ho
            have hz : ∀ a ∈ als, a.length = P.cellsOf e ∧ RV P h' d e a := by
              intro a ha
              obtain ⟨i, hi⟩ := List.getElem?_of_mem ha
              obtain ⟨l, h1, h2, h3⟩ := r i a hi
              exact ⟨by rw [h2]; exact hlz l (List.mem_of_getElem? h1), h3⟩
            have hfl2 : als.flatten.length = len * P.cellsOf e := by rw [flat_len als _ (fun a ha => (hz a ha).1), hlen, hlsl]
            have L2 := Lift.push (off := a.off) (e := e) (cs := als.flatten) L.rel L.ro hm (by omega) (by rw [hfl2, ← hfl]; exact v)
            refine ⟨_, _, [.slice (some ⟨h'.next, 0, none⟩) als.length noapp], L.trans L2, .cons ?_ .nil, ?_⟩
            · have haddr : a = ⟨a.block, a.off + 0, none⟩ := by
                cases a; simp_all
              rw [haddr, hlen, hlsl]
              exact VRel.slice (s := ⟨a.off, 0, 0⟩) (Place.add_same _ _ _ _) (.inr (.inl rfl)) hlc hcm (.inl rfl)
            · unfold RV
              rw [hu]
              refine .inr (.inr ⟨h'.next, als, rfl, ?_, by omega, Heap.get_push_self _ _, fun r hr => ⟨(hz r hr).1, (hz r hr).2.ext L2.ext⟩⟩)
              rintro rfl
              simp at hlen
              omega
end

/-- A value that reads as one of a type. -/
def RVal (P : Program) (h : Heap) (d : Nat) (t : TypeId) (v : Value) : Prop :=
  match P.underlying t with
  | some (.struct _) => ∃ cs : List Value, v = .agg cs.toArray ∧ RV P h d t cs
  | some (.array _ _) => ∃ cs : List Value, v = .agg cs.toArray ∧ RV P h d t cs
  | _ => RV P h d t [v]
def RVals (P : Program) (h : Heap) (d : Nat) : List TypeId → List Value → Prop
  | [], [] => True
  | t :: ts, v :: vs => RVal P h d t v ∧ RVals P h d ts vs
  | _, _ => False
theorem RVal.ext {P : Program} {h h' : Heap} (hx : Ext h h') {d : Nat} {t : TypeId} {v : Value} (q : RVal P h d t v) : RVal P h' d t v := by
  unfold RVal at q ⊢
  split
  · rename_i hu; rw [hu] at q; obtain ⟨cs, e, r⟩ := q; exact ⟨cs, e, r.ext hx⟩
  · rename_i hu; rw [hu] at q; obtain ⟨cs, e, r⟩ := q; exact ⟨cs, e, r.ext hx⟩
  · rename_i h1 h2
    split at q
    · rename_i hu; exact absurd hu (h1 _)
    · rename_i hu; exact absurd hu (h2 _ _)
    · exact q.ext hx
theorem RVals.ext {P : Program} {h h' : Heap} (hx : Ext h h') {d : Nat} : ∀ {ts : List TypeId} {vs : List Value}, RVals P h d ts vs → RVals P h' d ts vs
  | [], [], q => q
  | t :: ts, v :: vs, q => ⟨q.1.ext hx, RVals.ext hx q.2⟩
  | [], _ :: _, q => q
  | _ :: _, [], q => q

theorem rvs_one {P : Program} {h : Heap} {d : Nat} {t : TypeId} {acs : List Value} (r : RV P h d t acs) (ha : ∀ fs, P.underlying t ≠ some (.struct fs)) (hb : ∀ n e, P.underlying t ≠ some (.array n e)) : ∃ a, acs = [a] := by
  cases d with
  | zero => exact r.elim
  | succ d =>
    unfold RV at r
    split at r
    · obtain ⟨b, rfl⟩ := r; exact ⟨_, rfl⟩
    · obtain ⟨b, rfl, _⟩ := r; exact ⟨_, rfl⟩
    · obtain ⟨b, rfl, _⟩ := r; exact ⟨_, rfl⟩
    · rcases r with rfl | rfl | ⟨_, _, rfl, _⟩ <;> exact ⟨_, rfl⟩
    · rename_i hu; exact absurd hu (ha _)
    · rename_i hu; exact absurd hu (hb _ _)
    · exact r.elim

/-- All arguments are lifted. -/
theorem lift_args {H : Type} {enc : TypeId × Value → H} {P : Program} {w : World} (d : Nat) : ∀ (ts : List TypeId) (vs : List Value) (ds : List (DataW H)) (ps : List MemPlace), DataW.TrodAll enc P w 0 (fun _ => true) true ts vs ds ps →
    ts.all (plainT P d) = true → (∀ (j : Nat) t v, ts[j]? = some t → vs[j]? = some v → ∃ base, Value.okWide P w .any base t v) → ∀ β h, Rel P β h w → RO h →
    ∃ (β' : Place) (h' : Heap) (ars : List Value), Lift P w β h β' h' ∧ VRels β' ars vs ∧ RVals P h' d ts ars
  | [], [], _, _, _, _, _, β, h, hr, ho => ⟨β, h, [], Lift.refl hr ho, .nil, trivial⟩
  | t :: ts, v :: vs, d1 :: ds, ps, ht, hp, hok, β, h, hr, ho => by
    obtain ⟨p, q, ⟨fuel, h1⟩, h2, rfl⟩ := ht
    simp only [List.all_cons, Bool.and_eq_true] at hp
    obtain ⟨β1, hp1, acs, L1, v1, r1⟩ := lift d t hp.1 fuel _ _ h1 β h hr ho
    obtain ⟨β2, hp2, ars, L2, v2, r2⟩ := lift_args d ts vs ds q h2 hp.2 (fun j t v e1 e2 => hok (j + 1) t v (by simpa using e1) (by simpa using e2)) β1 hp1 L1.rel L1.ro
    obtain ⟨base, hv⟩ := hok 0 t v rfl rfl
    have v1' := v1.mono L2.place
    have r1' := r1.ext L2.ext
    have aggs : (∃ cs, v = .agg cs) → ∃ a : List Value, acs = a ∧ VRel β2 (.agg a.toArray) v := by
      rintro ⟨cs, rfl⟩
      exact ⟨acs, rfl, VRel.agg_iff.2 ⟨cs, rfl, by simpa [Value.cells] using v1'⟩⟩
    cases hu : P.underlying t with
    | none =>
      exfalso
      have := hp.1
      cases d with
      | zero => simp [plainT] at this
      | succ d => unfold plainT at this; rw [hu] at this; simp at this
    | some D =>
      by_cases hagg : (∃ fs, D = .struct fs) ∨ ∃ n e, D = .array n e
      · have hc : ∃ cs, v = .agg cs := by
          unfold Value.okWide at hv
          rw [hu] at hv
          rcases hagg with ⟨fs, rfl⟩ | ⟨n, e, rfl⟩
          · obtain ⟨cs, e, _⟩ := hv; exact ⟨cs, e⟩
          · obtain ⟨cs, e, _⟩ := hv; exact ⟨cs, e⟩
        obtain ⟨a, rfl, hrel⟩ := aggs hc
        refine ⟨β2, hp2, .agg acs.toArray :: ars, L1.trans L2, .cons hrel v2, ?_, r2⟩
        unfold RVal
        rw [hu]
        rcases hagg with ⟨fs, rfl⟩ | ⟨n, e, rfl⟩
        · exact ⟨acs, rfl, r1'⟩
        · exact ⟨acs, rfl, r1'⟩
      · have n1 : ∀ fs, P.underlying t ≠ some (.struct fs) := fun fs e => hagg (.inl ⟨fs, Option.some.inj (hu.symm.trans e)⟩)
        have n2 : ∀ n e, P.underlying t ≠ some (.array n e) := fun n e e1 => hagg (.inr ⟨n, e, Option.some.inj (hu.symm.trans e1)⟩)
        obtain ⟨a, rfl⟩ := rvs_one r1' n1 n2
        have hnot : ∀ cs, v ≠ .agg cs := by
          rintro cs rfl
          unfold Value.okWide at hv
          rw [hu] at hv
          cases D <;> first
            | exact hagg (.inl ⟨_, rfl⟩)
            | exact hagg (.inr ⟨_, _, rfl⟩)
            | (simp only [Cell.okWide, hu, Cell.ok] at hv; done)
            | (simp [Cell.okWide, hu, Cell.ok] at hv; done)
            | (have := hp.1; cases d <;> simp [plainT, hu] at this; done)
        have hcell : v.cells.toList = [v] := by
          cases v <;> first | rfl | exact absurd rfl (hnot _)
        rw [hcell] at v1'
        refine ⟨β2, hp2, a :: ars, L1.trans L2, ?_, ?_, r2⟩
        · cases v1' with
          | cons x _ => exact .cons x v2
        · unfold RVal
          split
          · rename_i hu2; exact absurd hu2 (n1 _)
          · rename_i hu2; exact absurd hu2 (n2 _ _)
          · exact r1'
  | [], _ :: _, _, _, ht, _, _, _, _, _, _ => by simp [DataW.TrodAll] at ht
  | _ :: _, [], _, _, ht, _, _, _, _, _, _ => by simp [DataW.TrodAll] at ht
  | _ :: _, _ :: _, [], _, ht, _, _, _, _, _, _ => by simp [DataW.TrodAll] at ht
end Go.Sim
namespace Go.Sim
open Go.RowKit
section
variable {P : Program} {h : Heap} {d : Nat} {t : TypeId} {cs : List Value}
end
end Go.Sim
namespace Go.Sim
end Go.Sim

