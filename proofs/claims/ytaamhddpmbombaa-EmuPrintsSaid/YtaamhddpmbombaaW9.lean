/- Part 9 of the claim EmuPrints: V7, GE, V8, GF, V9, V10, V11, V12, V13, V14, GG, V15, GI, V29, V30, B1, B2, T21, I6, I7, T22, GJ -/
import Derived.Test.YtaamhddpmbombaaProg
import Derived.ProofKit
import Derived.OpenShut
import Derived.Carry
import Derived.JoinedOf
import Derived.Scope
import Derived.Test.YtaamhddpmbombaaW8
import Derived.Test.YtaamhddpmbombaaW3
import Derived.Test.YtaamhddpmbombaaW6
set_option linter.unusedSimpArgs false
set_option linter.unusedVariables false
set_option linter.defProp false
noncomputable section
set_option maxRecDepth 100000
set_option maxHeartbeats 4000000
namespace Go.Sim
abbrev qx : Type := List (List qf)
def kZ (L : qx) (k : Int) (f : List qf → List qf × Bool) : Bool × qx :=
 if 0 ≤ k ∧ k < L.length then (match L[k.toNat]? with
  | some l => if (f l).2 = true then (true, L.set k.toNat (f l).1) else (false, L)
  | none => (false, L)) else (false, L)
theorem Z8 {L : qx} {k : Int} (f : List qf → List qf × Bool) (h : ¬ (0 ≤ k ∧ k < L.length)) : kZ L k f = (false, L) := by unfold kZ; rw [if_neg h]
theorem VA {L : qx} {n : Nat} {l : List qf} (f : List qf → List qf × Bool) (h : L[n]? = some l) : kZ L (n : Int) f = if (f l).2 = true then (true, L.set n (f l).1) else (false, L) := by
 have := (List.getElem?_eq_some_iff.1 h).1
 unfold kZ
 rw [if_pos ⟨by omega, by omega⟩, Int.toNat_natCast]
 simp only [q8, h]
def a0p (L : qx) : Prop := ∀ l ∈ L, l.length ≤ 1000000
def yA (n : Int) : Prop := -9223372036854775808 ≤ n ∧ n < 9223372036854775808
theorem abo {L : qx} (hL : a0p L) (k at' : Int) (ha : yA at') {c : qf} (hc : OkC c) (g : Int × (Int × Int)) :
  jR (k, at', c.1, c.2.1.1, c.2.1.2, c.2.2.1, c.2.2.2.1, c.2.2.2.2.1, c.2.2.2.2.2) g L = some ((kZ L k fun l => Qd l at' c).1, (g, (kZ L k fun l => Qd l at' c).2)) := by
 unfold jR
 by_cases h1 : 0 ≤ k
 ·by_cases h2 : k < L.length
  ·obtain ⟨n, rfl⟩ : ∃ n : Nat, k = n := ⟨k.toNat, by omega⟩
   obtain ⟨l, hl⟩ := qS (l := L) (i := n) (by omega)
   have hp := acd (k := at') (hL l (List.mem_of_getElem? hl)) ha hc
   rw [VA _ hl]
   cases hb : (Qd l at' c).2
   ·simp (disch := omega) only [q8, qn, qg, qk, qw, ze, jE, qm, and_true, hl, hp, hb, Bool.false_eq_true, if_false]
   ·simp (disch := omega) only [q8, qn, qg, qk, qw, ze, jE, qm, and_true, hl, hp, hb, List.length_set, if_true]
  ·rw [Z8 _ (by omega)]
   simp (disch := omega) only [q8, qn, qt, qg, qk, K6, qm, and_true]
 ·rw [Z8 _ (by omega)]
  simp (disch := omega) only [q8, qn, qt, qg, qk, jE, qm, and_true]
theorem Ws {L : qx} (hL : a0p L) (k at' m : Int) (ha : yA at') (g : Int × (Int × Int)) :
  wb (k, at', m) g L = some ((kZ L k fun l => yS l at' m).1, (g, (kZ L k fun l => yS l at' m).2)) := by
 unfold wb
 by_cases h1 : 0 ≤ k
 ·by_cases h2 : k < L.length
  ·obtain ⟨n, rfl⟩ : ∃ n : Nat, k = n := ⟨k.toNat, by omega⟩
   obtain ⟨l, hl⟩ := qS (l := L) (i := n) (by omega)
   have hp := a3f (hL l (List.mem_of_getElem? hl)) at' m ha
   rw [VA _ hl]
   cases hb : (yS l at' m).2
   ·simp (disch := omega) only [q8, qn, qg, qk, qw, ze, jE, qm, and_true, hl, hp, hb, Bool.false_eq_true, if_false]
   ·simp (disch := omega) only [q8, qn, qg, qk, qw, ze, jE, qm, and_true, hl, hp, hb, List.length_set, if_true]
  ·rw [Z8 _ (by omega)]
   simp (disch := omega) only [q8, qn, qt, qg, qk, K6, qm, and_true]
 ·rw [Z8 _ (by omega)]
  simp (disch := omega) only [q8, qn, qt, qg, qk, jE, qm, and_true]
theorem a4w {L : qx} (hL : a0p L) (k f t a b c : Int) (g : Int × (Int × Int)) :
  zm (k, f, t, a, b, c) g L = some (g, (kZ L k fun l => (jA (v6 l f t a b c), K8 a b c)).2) := by
 unfold zm
 by_cases h1 : 0 ≤ k
 ·by_cases h2 : k < L.length
  ·obtain ⟨n, rfl⟩ : ∃ n : Nat, k = n := ⟨k.toNat, by omega⟩
   obtain ⟨l, hl⟩ := qS (l := L) (i := n) (by omega)
   have hp := a52 (hL l (List.mem_of_getElem? hl)) f t a b c
   have hq := xf a b c
   rw [VA _ hl]
   cases hb : K8 a b c
   ·simp (disch := omega) only [q8, qn, qg, qk, qw, ze, jE, qm, and_true, hl, hp, hq, hb, Bool.false_eq_true, if_false]
   ·simp (disch := omega) only [q8, qn, qg, qk, qw, ze, jE, qm, and_true, hl, hp, hq, hb, List.length_set, if_true]
  ·rw [Z8 _ (by omega)]
   simp (disch := omega) only [q8, qn, qt, qg, qk, K6, qm, and_true]
 ·rw [Z8 _ (by omega)]
  simp (disch := omega) only [q8, qn, qt, qg, qk, jE, qm, and_true]
set_option maxHeartbeats 0
open Go.Proofs
def zR (x2 : (Int × Int)) (x3 : Y4_) (x4 : (List Y1_)) (x5 : Y4_) (x6 : (List Y1_)) : Option (((Int × Int) × a6U) ⊕ a6U) :=
 bif decide (x2.2 < x2.1) then
 bif decide (0 ≤ x2.2) then
 bif decide (x2.2.toNat < List.length x4 ∧ List.length x4 = List.length x4) then
 kk x4 ((x4[x2.2.toNat]?).bind fun x7 =>
 (zk x7).bind fun x8 =>
 kk x8 (bif decide ((1 : Nat) = (1 : Nat)) then
 bif decide (x6.length = x6.length ∧ x6.length + (1 : Nat) ≤ (5864062014805 : Nat)) then
 bif decide (x6.length + (1 : Nat) = (x6 ++ [x8]).length) then
 kk x4 (kk x4 (some (Sum.inl ((x2.1, (IntKind.i64.wrap (x2.2 + (1 : Int)))), (x3, (x4, (x5, (x6 ++ [x8]))))))))
 else none
 else none
 else none))
 else none
 else none
 else kk x6 (kk x4 (some (Sum.inr (x3, (x4, (x5, x6))))))
def Kz : ((Int × Int) × a6U) → Option a6U := zO fun s => zR s.1 s.2.1 s.2.2.1 s.2.2.2.1 s.2.2.2.2
def Qq (x0 : Y4_) (x1 : (List Y1_)) : Option a6U :=
 kk x1 (kk x1 (kk x1 ((Kz ((((↑x1.length : Int)), ((0 : Int))), (x0, (x1, (x0, []))))).bind fun x2 =>
 some x2)))
def a5z : TEnt := ⟨72, .ptr 0 0, Y5_, [(.ptr 2 0, aiP)], fun s => Qq s.1 s.2⟩
theorem XO : qK Try.prog a5z := kT (loops := [(299594, [3, 21, 22, 23], (.cons (.ptr 2 0) (.cons (.own 1) JF)), aiP)]) (joins := []) (un := []) _ (tc wP tn) (fun s => by kernel_rfl) (by kernel_rfl)
set_option maxHeartbeats 4000000
theorem putP_len {l : List qf} {k : Int} {c : qf} : (Qd l k c).1.length = l.length := by
 unfold Qd; split
 ·rw [kX, a3d]
 ·rfl
theorem markP_len {l : List qf} {k m : Int} : (yS l k m).1.length = l.length := by
 unfold yS; split
 ·split
  ·simp
  ·rfl
 ·rfl
def qX (n : Int) (k : Nat) : Nat := min n.toNat (k - 1)
theorem ZG {L : qx} (hn : 1 ≤ L.length ∧ L.length ≤ 1000000) {cols : Nat} (hc : 1 ≤ cols ∧ cols ≤ 1000000) (r c a b : Int) : z4 (r, c) (a, b, (cols : Int)) L = some (((qX r L.length : Int), (qX c cols : Int), (cols : Int)), L) := by
 have hw : ∀ k : Nat, 1 ≤ k → k ≤ 1000000 → IntKind.i64.wrap ((k : Int) - 1) = (k : Int) - 1 := fun k _ _ => qc (by omega) (by omega)
 have hm : ∀ (k : Nat) (n : Int), 1 ≤ k → (if (k : Int) - 1 < if (0 : Int) > n then (0 : Int) else n then (k : Int) - 1 else if (0 : Int) > n then (0 : Int) else n) = (qX n k : Int) := by
  intro k n hk
  unfold qX
  by_cases h1 : (0 : Int) > n
  ·simp only [q8, h1, if_true]; rw [if_neg (by omega)]; omega
  ·simp only [q8, h1, if_false]; split <;> omega
 unfold z4
 simp only [q8, hw _ hn.1 hn.2, hw _ hc.1 hc.2, hm _ _ hn.1, hm _ _ hc.1]
 all_goals simp (disch := omega) only [q8, qg, qm]
set_option maxHeartbeats 0
open Go.Proofs
set_option maxHeartbeats 4000000
def qO (n : Int) : Bool := decide (1 ≤ n) && decide (n ≤ 512)
theorem a0m (n : Int) : y5 n = some (qO n) := by
 unfold y5 qO
 by_cases h : 1 ≤ n <;> simp [h]
theorem a9E (r c : Int) : ZD r c = some (if qO r = true ∧ qO c = true then Sum.inr ((0, 0, c), List.replicate r.toNat (jO c)) else Sum.inl ()) := by
 unfold ZD
 rw [a0m, a0m]
 cases h1 : qO r
 ·simp (disch := omega) only [q8, qg, qw, K6]
  rfl
 ·cases h2 : qO c
  ·simp (disch := omega) only [q8, qg, qk, qw, jE, K6, true_and]
   rfl
  ·have hr : 1 ≤ r ∧ r ≤ 512 := by unfold qO at h1; simpa using h1
   obtain ⟨n, rfl⟩ : ∃ n : Nat, r = n := ⟨r.toNat, by omega⟩
   have : JL ((c, (n : Int), (0 : Int)), ((0 : Int), (0 : Int), c), []) = some (Sum.inr (((0, 0, c) : Int × Int × Int), List.replicate n (jO c))) := by
    refine jd (st := fun i => ((c, (n : Int), ((i : Nat) : Int)), ((0 : Int), (0 : Int), c), List.replicate i (jO c))) (n := n) (fun i hi => ?_) ?_ 0 (by omega)
    ·show zZ _ _ _ = _
     unfold zZ
     have e : ((i : Int) + 1) = ((i + 1 : Nat) : Int) := by omega
     have hnl := a0f c
     have e2 : List.replicate i (jO c) ++ [jO c] = List.replicate (i + 1) (jO c) := xd i _
     simp (disch := omega) only [q8, qn, qc, qg, qw, jf, y7, zQ, qm, true_and, hnl, List.length_replicate, e2, e]
    ·show zZ _ _ _ = _
     unfold zZ
     simp (disch := omega) only [q8, qt, qc, qg, qk, jf, y7, zQ, qm, true_and]
   simp (disch := omega) only [q8, qk, qw, ze, jE, and_self, this]
   simp
theorem aaH {L : qx} (hL : a0p L) (hn : L.length ≤ 1000000) (g : Int × (Int × Int)) : Qq g L = some (g, L, g, L) := by
 unfold Qq
 have : Kz (((L.length : Int), (0 : Int)), g, L, g, []) = some (g, L, g, L) := by
  refine jd (st := fun i => (((L.length : Int), ((i : Nat) : Int)), g, L, g, L.take i)) (n := L.length) (fun i hi => ?_) ?_ 0 (by omega)
  ·obtain ⟨l, hl⟩ := qS hi
   have hcl := WB l (hL l (List.mem_of_getElem? hl))
   have ht : (L.take i).length = i := by rw [List.length_take]; omega
   have ht1 : (L.take (i + 1)).length = i + 1 := by rw [List.length_take]; omega
   have e : ((i : Int) + 1) = ((i + 1 : Nat) : Int) := by omega
   have e3 : L.take i ++ [l] = L.take (i + 1) := (yE hl).symm
   show zR _ _ _ _ _ = _
   unfold zR
   simp (disch := omega) only [q8, qn, qc, qg, qw, ze, jf, y7, zQ, qm, true_and, and_true, hl, hcl, ht, e3, e]
  ·show zR _ _ _ _ _ = _
   unfold zR
   have ht : L.take L.length = L := List.take_of_length_le (Nat.le_refl _)
   simp (disch := omega) only [q8, qn, qt, qc, qg, qk, ze, jf, y7, zQ, qm, true_and, and_true, ht]
 simp (disch := omega) only [q8, qg, qw, qm, this]
def atP (L : qx) (cols : Nat) (k j : Int) : qf × Bool :=
 if 0 ≤ k ∧ k < L.length ∧ 0 ≤ j ∧ j < cols then (match (L[k.toNat]?.bind fun l => l[j.toNat]?) with
  | some c => (c, true)
  | none => ((0, (0, 0), 0, 0, 0, 0), false)) else ((0, (0, 0), 0, 0, 0, 0), false)
theorem afs {L : qx} {cols : Nat} (hc : ∀ l ∈ L, l.length = cols) (k j a b : Int) : wG (k, j) (a, b, (cols : Int)) L = some ((Vm (atP L cols k j).1, (atP L cols k j).2), (a, b, (cols : Int)), L) := by
 unfold wG atP
 by_cases h1 : 0 ≤ k
 ·by_cases h2 : k < L.length
  ·obtain ⟨n, rfl⟩ : ∃ n : Nat, k = n := ⟨k.toNat, by omega⟩
   obtain ⟨l, hl⟩ := qS (l := L) (i := n) (by omega)
   by_cases h3 : j < 0
   ·rw [if_neg (by omega)]
    simp (disch := omega) only [q8, qn, qt, qg, qk, ze, jE, qm, and_true]
    rfl
   ·by_cases h4 : (cols : Int) ≤ j
    ·rw [if_neg (by omega)]
     simp (disch := omega) only [q8, qn, qt, qg, qk, ze, jE, qm, and_true]
     rfl
    ·obtain ⟨m, rfl⟩ : ∃ m : Nat, j = m := ⟨j.toNat, by omega⟩
     have hlc := hc l (List.mem_of_getElem? hl)
     obtain ⟨c, hcc⟩ := qS (l := l) (i := m) (by omega)
     rw [if_pos ⟨by omega, by omega, by omega, by omega⟩]
     simp (disch := omega) only [q8, qn, qt, qg, qk, qw, ze, jE, qm, and_true, hl, hcc]
     rfl
  ·rw [if_neg (by omega)]
   simp (disch := omega) only [q8, qn, qt, qg, qk, K6, qm, and_true]
   rfl
 ·rw [if_neg (by omega)]
  simp (disch := omega) only [q8, qn, qt, qg, qk, jE, qm, and_true]
  rfl
def a3u (L : qx) (rows : Nat) (cols : Int) (i : Nat) : qx := (List.range rows).map fun r => match L[r]? with
 | some l => if r < i then jA (a2x l (Yw cols)) else jO cols
 | none => jO cols
theorem abE (L : qx) (rows : Nat) (cols : Int) (i : Nat) : (a3u L rows cols i).length = rows := by simp [a3u]
theorem aam {L : qx} {rows i k : Nat} {cols : Int} (h : k < rows) : (a3u L rows cols i)[k]? = some (match L[k]? with
 | some l => if k < i then jA (a2x l (Yw cols)) else jO cols
 | none => jO cols) := by
 unfold a3u
 rw [List.getElem?_map, List.getElem?_range h]; rfl
theorem aei {c : Int} (h : qO c = true) : (jO c).length = c.toNat := by
 unfold qO at h
 simp only [q8, Bool.and_eq_true, decide_eq_true_eq] at h
 unfold jO Yw
 rw [List.length_replicate, if_neg (by omega), if_neg (by omega)]
def aeM (L : qx) (rows : Nat) (cols : Int) : qx := a3u L rows cols L.length
def ZS (rows : Nat) (n : Int) : Int := if (rows : Int) < n then rows else if n < -(rows : Int) then -(rows : Int) else n
theorem a9M (rows : Nat) (n : Int) : -(rows : Int) ≤ ZS rows n ∧ ZS rows n ≤ rows := by
 unfold ZS; split
 ·omega
 ·split <;> omega
def uP (L : qx) (n : Int) (bl : List qf) : qx := (List.range L.length).map fun (r : Nat) => if 0 ≤ (r : Int) + n ∧ (r : Int) + n < L.length then L[((r : Int) + n).toNat]?.getD bl else bl
theorem Z0 (L : qx) (n : Int) (bl : List qf) : (uP L n bl).length = L.length := by simp [uP]
theorem Xq {L : qx} {n : Int} {bl : List qf} {i : Nat} (h : i < L.length) : (uP L n bl)[i]? = some (if 0 ≤ (i : Int) + n ∧ (i : Int) + n < L.length then L[((i : Int) + n).toNat]?.getD bl else bl) := by
 unfold uP
 rw [List.getElem?_map, List.getElem?_range h]; rfl
def blL (cols : Nat) (a b c : Int) : List qf := jA (v6 (jO (cols : Int)) 0 (cols : Int) a b c)
theorem aes {L : qx} {k : Nat} (hk : k ≤ L.length) (bl : List qf) : L.drop k ++ List.replicate k bl = uP L (k : Int) bl := by
 refine List.ext_getElem? fun i => ?_
 by_cases hi : i < L.length
 ·rw [Xq hi]
  by_cases h2 : i + k < L.length
  ·obtain ⟨l, hl⟩ := qS h2
   rw [if_pos (by omega), show ((i : Int) + (k : Int)).toNat = i + k by omega, hl, List.getElem?_append_left (by rw [List.length_drop]; omega), List.getElem?_drop, show k + i = i + k by omega, hl]; rfl
  ·rw [if_neg (by omega), List.getElem?_append_right (by rw [List.length_drop]; omega), List.getElem?_replicate, if_pos (by rw [List.length_drop]; omega)]
 ·rw [List.getElem?_eq_none (by rw [List.length_append, List.length_drop, List.length_replicate]; omega), List.getElem?_eq_none (by rw [Z0]; omega)]
theorem ahr {L : qx} {k : Nat} (hk : k ≤ L.length) (bl : List qf) : List.replicate k bl ++ L.take (L.length - k) = uP L (-(k : Int)) bl := by
 refine List.ext_getElem? fun i => ?_
 by_cases hi : i < L.length
 ·rw [Xq hi]
  by_cases h2 : k ≤ i
  ·obtain ⟨l, hl⟩ := qS (l := L) (i := i - k) (by omega)
   rw [if_pos (by omega), show ((i : Int) + -(k : Int)).toNat = i - k by omega, hl, List.getElem?_append_right (by rw [List.length_replicate]; omega), List.length_replicate, List.getElem?_take, if_pos (by omega), hl]; rfl
  ·rw [if_neg (by omega), List.getElem?_append_left (by rw [List.length_replicate]; omega), List.getElem?_replicate, if_pos (by omega)]
 ·rw [List.getElem?_eq_none (by rw [List.length_append, List.length_take, List.length_replicate]; omega), List.getElem?_eq_none (by rw [Z0]; omega)]
theorem a6Q (n : Int) : (jO n).length ≤ 1000000 := by unfold jO; rw [List.length_replicate]; have := a94 n; omega
theorem a1c {L : qx} (hL : a0p L) (hn : 1 ≤ L.length ∧ L.length ≤ 1000000) {cols : Nat} (n a b c r cc : Int) :
  wY (n, a, b, c) (r, cc, (cols : Int)) L = some ((r, cc, (cols : Int)), if K8 a b c = true then uP L (ZS L.length n) (blL cols a b c) else L) := by
 unfold wY
 rw [xf]
 cases hp : K8 a b c
 ·simp (disch := omega) only [q8, qc, qg, qw, K6, qm, Bool.false_eq_true, if_false]
 ·have hcl := a9M L.length n
  have hwn : IntKind.i64.wrap ((0 : Int) - (L.length : Int)) = -(L.length : Int) := by rw [qc (by omega) (by omega)]; omega
  have hcm : (if (L.length : Int) < if -(L.length : Int) > n then -(L.length : Int) else n then (L.length : Int) else if -(L.length : Int) > n then -(L.length : Int) else n) = ZS L.length n := by
   unfold ZS
   by_cases h1 : -(L.length : Int) > n
   ·simp only [q8, h1, if_true]; repeat' split
    all_goals first | rfl | omega
   ·simp only [q8, h1, if_false]
  simp only [q8, hwn, hcm]
  generalize hq : ZS L.length n = q at hcl
  have hwq : IntKind.i64.wrap ((0 : Int) - q) = -q := by rw [qc (by omega) (by omega)]; omega
  obtain ⟨k, hk⟩ : ∃ k : Nat, (if -q > q then -q else q) = (k : Int) := ⟨(if -q > q then -q else q).toNat, by split <;> omega⟩
  have hkq : (q = k ∨ q = -(k : Int)) ∧ k ≤ L.length := by split at hk <;> omega
  simp only [q8, hwq, hk]
  have hnl := a0f (cols : Int)
  have her := a52 (a6Q (cols : Int)) 0 (cols : Int) a b c
  have hT := Z0 L q (blL cols a b c)
  have loop : QT ((q, (L.length : Int), (k : Int), (0 : Int)), (r, cc, (cols : Int)), L, (a, b, c), []) = some ((r, cc, (cols : Int)), uP L q (blL cols a b c)) := by
   refine jd (st := fun i => ((q, (L.length : Int), (k : Int), ((i : Nat) : Int)), (r, cc, (cols : Int)), L, (a, b, c), List.replicate i (blL cols a b c))) (n := k) (fun i hi => ?_) ?_ 0 (by omega)
   ·have e : ((i : Int) + 1) = ((i + 1 : Nat) : Int) := by omega
    have e3 : List.replicate i (blL cols a b c) ++ [jA (v6 (jO (cols : Int)) 0 (cols : Int) a b c)] = List.replicate (i + 1) (blL cols a b c) := xd i _
    show zC _ _ _ _ _ = _
    unfold zC
    simp (disch := omega) only [q8, qn, qc, qg, qw, ze, jf, y7, zQ, qm, true_and, and_true, hnl, her, List.length_replicate, e3, e]
   ·show zC _ _ _ _ _ = _
    unfold zC
    by_cases hpos : 0 ≤ q
    ·have hqk : q = (k : Int) := by omega
     rw [hqk] at hT ⊢
     have hs := aes (L := L) (k := k) hkq.2 (blL cols a b c)
     simp only [q8, Option.getD_some, ze]
     by_cases h1 : k = L.length
     ·have hd : L.drop k = [] := List.drop_eq_nil_of_le (by omega)
      rw [hd] at hs
      simp (disch := omega) only [q8, qn, qt, qc, qg, qk, jf, y7, zQ, qm, true_and, and_true, List.length_replicate, hs, hT]
     ·by_cases h2 : k = 0
      ·subst h2
       simp only [q8, List.replicate_zero, List.drop_zero, List.append_nil] at hs ⊢
       simp (disch := omega) only [q8, qn, qt, qc, qg, qk, jf, y7, zQ, qm, true_and, and_true]
       rw [← hs]
      ·have htk : List.take (L.length - k) (List.drop k L) = L.drop k := List.take_of_length_le (by rw [List.length_drop]; omega)
       simp (disch := omega) only [q8, qn, qt, qc, qg, qk, jf, y7, zQ, qm, true_and, and_true, List.length_replicate, htk, List.length_drop, hs, hT]
    ·have hqk : q = -(k : Int) := by omega
     have hs := ahr (L := L) (k := k) hkq.2 (blL cols a b c)
     have hw : IntKind.i64.wrap ((L.length : Int) + q) = ((L.length - k : Nat) : Int) := by rw [qc (by omega) (by omega)]; omega
     simp only [q8, hw, ze, List.drop_zero]
     rw [hqk] at hT ⊢
     simp (disch := omega) only [q8, qn, qt, qc, qg, qk, jf, y7, zQ, qm, true_and, and_true, List.length_replicate, List.length_take, hs, hT]
  simp (disch := omega) only [q8, qg, qk, qw, jE, qm, loop, if_true]
structure LineOk (n : Nat) (l : List qf) : Prop where
 len : l.length = n
 ok : ∀ c ∈ l, OkC c
 right : kP l = true
theorem Jc {a b c : Int} (ha : u8r a) (hb : u8r b) (hc : u8r c) : OkC (zi a b c) :=
 ⟨(by unfold Zi zi; simp), (by unfold Zi zi; simp), (by unfold Zi zi; simp), (by unfold u8r zi; simp), ha, hb, hc⟩
theorem XC : u8r 0 := by unfold u8r; omega
theorem ae9 {c : qf} (h : OkC c) : OkC (KM c) :=
 ⟨(by unfold Zi KM; simp), (by unfold Zi KM; simp), (by unfold Zi KM; simp), XC, h.p1, h.p2, h.p3⟩
theorem a0E {l : List qf} (h : ∀ c ∈ l, OkC c) : ∀ c ∈ jA l, OkC c := by
 intro c hc
 obtain ⟨i, hi⟩ := List.mem_iff_getElem?.1 hc
 have hlt : i < l.length := by have := (List.getElem?_eq_some_iff.1 hi).1; rwa [kX] at this
 obtain ⟨d, hd⟩ := qS hlt
 rw [Ys hd] at hi
 cases hi
 have hk := h d (List.mem_of_getElem? hd)
 unfold Ym
 split
 ·exact Jc hk.p1 hk.p2 hk.p3
 ·exact hk
theorem a2E {l : List qf} (h : ∀ c ∈ l, OkC c) {n : Nat} {d : qf} (hd : OkC d) : ∀ c ∈ l.set n d, OkC c := by
 intro c hc
 rcases List.mem_or_eq_of_mem_set hc with q | rfl
 ·exact h c q
 ·exact hd
theorem acN {n : Nat} {l : List qf} (h : LineOk n l) {c : qf} (hc : OkC c) (k : Int) : LineOk n (Qd l k c).1 := by
 refine ⟨putP_len.trans h.len, ?_, a83 h.right hc⟩
 unfold Qd
 split
 ·refine a0E ?_
  unfold a2H
  split
  ·exact a2E (a2E h.ok hc) (ae9 hc)
  ·exact a2E h.ok hc
 ·exact h.ok
theorem acw {c : qf} (h : OkC c) {m : Int} (hm : Zi m) : OkC (yl c m).1 := by
 unfold yl
 split
 ·split
  ·exact ⟨h.r, hm, h.m2, h.w, h.p1, h.p2, h.p3⟩
  ·split
   ·exact ⟨h.r, h.m1, hm, h.w, h.p1, h.p2, h.p3⟩
   ·exact h
 ·exact h
theorem a9x {n : Nat} {l : List qf} (h : LineOk n l) {m : Int} (hm : Zi m) (k : Int) : LineOk n (yS l k m).1 := by
 refine ⟨markP_len.trans h.len, ?_, a3h h.right⟩
 unfold yS
 split
 ·split
  ·rename_i c hc
   exact a2E h.ok (acw (h.ok c (List.mem_of_getElem? hc)) hm)
  ·exact h.ok
 ·exact h.ok
theorem a4y {n : Nat} {l : List qf} (h : LineOk n l) {f t a b c : Int} (ha : u8r a) (hb : u8r b) (hc : u8r c) (hp : K8 a b c = true) : LineOk n (jA (v6 l f t a b c)) := by
 refine ⟨by rw [kX, WT]; exact h.len, a0E fun d hd => ?_, a9z h.right hp⟩
 obtain ⟨i, hi⟩ := List.mem_iff_getElem?.1 hd
 have hlt : i < l.length := by have := (List.getElem?_eq_some_iff.1 hi).1; rwa [WT] at this
 obtain ⟨e, he⟩ := qS hlt
 rw [XE he] at hi
 cases hi
 split
 ·exact Jc ha hb hc
 ·exact h.ok e (List.mem_of_getElem? he)
theorem afX {m : Int} (h : qO m = true) : Yw m = m.toNat := by
 unfold qO at h
 simp only [q8, Bool.and_eq_true, decide_eq_true_eq] at h
 unfold Yw
 rw [if_neg (by omega), if_neg (by omega)]
theorem adX {n : Nat} {l : List qf} (h : LineOk n l) {m : Int} (hm : qO m = true) : LineOk m.toNat (jA (a2x l (Yw m))) := by
 refine ⟨by rw [kX, Xn, afX hm], a0E fun d hd => ?_, a9D h.right⟩
 obtain ⟨i, hi⟩ := List.mem_iff_getElem?.1 hd
 have hlt : i < Yw m := by have := (List.getElem?_eq_some_iff.1 hi).1; rwa [Xn] at this
 rw [a3l l hlt] at hi
 cases hi
 cases hx : l[i]? with
 | none => exact Jc XC XC XC
 | some e => exact h.ok e (List.mem_of_getElem? hx)
theorem WF {m : Int} (hm : qO m = true) : LineOk m.toNat (jO m) := by
 refine ⟨aei hm, fun d hd => ?_, a8p m⟩
 unfold jO at hd
 rw [List.eq_of_mem_replicate hd]
 exact Jc XC XC XC
structure GOk (L : qx) (cols : Nat) : Prop where
 rows : 1 ≤ L.length ∧ L.length ≤ 512
 wide : 1 ≤ cols ∧ cols ≤ 512
 line : ∀ l ∈ L, LineOk cols l
theorem GOk.small {L : qx} {cols : Nat} (h : GOk L cols) : a0p L := fun l hl => by have := (h.line l hl).len; have := h.wide; omega
theorem GOk.ok {L : qx} {cols : Nat} (h : GOk L cols) : ∀ l ∈ L, ∀ c ∈ l, OkC c := fun l hl => (h.line l hl).ok
theorem GOk.set {L : qx} {cols n : Nat} (h : GOk L cols) {l : List qf} (hl : LineOk cols l) : GOk (L.set n l) cols := by
 refine ⟨by rw [List.length_set]; exact h.rows, h.wide, fun x hx => ?_⟩
 rcases List.mem_or_eq_of_mem_set hx with q | rfl
 ·exact h.line x q
 ·exact hl
theorem GOk.turn {L : qx} {cols : Nat} (h : GOk L cols) (k : Int) (f : List qf → List qf × Bool) (hf : ∀ l, LineOk cols l → (f l).2 = true → LineOk cols (f l).1) : GOk (kZ L k f).2 cols := by
 unfold kZ
 split
 ·split
  ·rename_i l hl
   split
   ·rename_i hb
    exact h.set (hf l (h.line l (List.mem_of_getElem? hl)) hb)
   ·exact h
  ·exact h
 ·exact h
theorem GOk.fit {L : qx} {cols0 : Nat} (h : GOk L cols0) {rows cols : Nat} (hr : qO (rows : Int) = true) (hc : qO (cols : Int) = true) : GOk (aeM L rows (cols : Int)) cols := by
 have hr' : 1 ≤ (rows : Int) ∧ (rows : Int) ≤ 512 := by unfold qO at hr; simpa using hr
 have hc' : 1 ≤ (cols : Int) ∧ (cols : Int) ≤ 512 := by unfold qO at hc; simpa using hc
 have hlen : (aeM L rows (cols : Int)).length = rows := by unfold aeM; rw [abE]
 refine ⟨by omega, by omega, fun x hx => ?_⟩
 obtain ⟨i, hi⟩ := List.mem_iff_getElem?.1 hx
 have hlt : i < rows := by have := (List.getElem?_eq_some_iff.1 hi).1; omega
 unfold aeM at hi
 rw [aam hlt] at hi
 cases hi
 cases hq : L[i]? with
 | none => exact WF hc
 | some l =>
  simp only
  split
  ·exact adX (h.line l (List.mem_of_getElem? hq)) hc
  ·exact WF hc
theorem GOk.scroll {L : qx} {cols : Nat} (h : GOk L cols) (n : Int) {a b c : Int} (ha : u8r a) (hb : u8r b) (hc : u8r c) (hp : K8 a b c = true) : GOk (uP L n (blL cols a b c)) cols := by
 have hs : qO (cols : Int) = true := by have := h.wide; unfold qO; simp; omega
 have hbl : LineOk cols (blL cols a b c) := a4y (WF hs) ha hb hc hp
 refine ⟨by rw [Z0]; exact h.rows, h.wide, fun x hx => ?_⟩
 obtain ⟨i, hi⟩ := List.mem_iff_getElem?.1 hx
 have hlt : i < L.length := by have := (List.getElem?_eq_some_iff.1 hi).1; rwa [Z0] at this
 rw [Xq hlt] at hi
 cases hi
 split
 ·cases hq : L[((i : Int) + n).toNat]? with
  | none => exact hbl
  | some l => exact h.line l (List.mem_of_getElem? hq)
 ·exact hbl
theorem GOk.new {rows cols : Nat} (hr : qO (rows : Int) = true) (hc : qO (cols : Int) = true) : GOk (List.replicate rows (jO (cols : Int))) cols := by
 have hr' : 1 ≤ (rows : Int) ∧ (rows : Int) ≤ 512 := by unfold qO at hr; simpa using hr
 have hc' : 1 ≤ (cols : Int) ∧ (cols : Int) ≤ 512 := by unfold qO at hc; simpa using hc
 refine ⟨by rw [List.length_replicate]; omega, by omega, fun x hx => ?_⟩
 rw [List.eq_of_mem_replicate hx]
 exact WF hc
theorem Jj (L : qx) (k : Int) (f : List qf → List qf × Bool) : (kZ L k f).2.length = L.length := by
 unfold kZ
 split
 ·split
  ·split
   ·simp
   ·rfl
  ·rfl
 ·rfl
theorem a4D {n : Int} {k : Nat} (h : 1 ≤ k) : qX n k < k := by unfold qX; omega
set_option maxHeartbeats 0
open Go.Proofs
set_option maxHeartbeats 4000000
set_option maxHeartbeats 0
open Go.Proofs
def kf (x0 : Y9_) (x1 : Int) (x2 : Int) : Option Int :=
 bif decide (x1 < 0) then
 some x2
 else bif decide ((↑x0.2.2.length : Int) ≤ x1) then
 some x2
 else bif decide (0 ≤ x1) then
 (x0.2.2[Int.toNat x1]?).bind fun x3 =>
 bif x3 == -1 then
 some x2
 else bif decide (0 ≤ x1) then
 (x0.2.2[Int.toNat x1]?).bind fun x4 =>
 some x4
 else none
 else none
def xK : TEnt := ⟨137, .cons (.agg Vu) JF, [], [(.int .i64, [])], fun s => kf s.1 s.2.1 s.2.2⟩
theorem jc : qK Try.prog xK := eo0 _ tn (fun s => by kernel_rfl) (by kernel_rfl)
def ku (x0 : Y9_) (x1 : Int) : Option Int :=
 (kf x0 x1 (1 : Int)).bind fun x2 =>
 some (if (512 : Int) < if x2 > 1 then x2 else (1 : Int) then (512 : Int) else if x2 > 1 then x2 else (1 : Int))
def a32 : TEnt := ⟨136, .cons (.agg Vu) (.int .i64), [], [(.int .i64, [])], fun s => ku s.1 s.2⟩
theorem jo : qK Try.prog a32 := eo0 _ (tc jc tn) (fun s => by kernel_rfl) (by kernel_rfl)
def Zl (x0 : Int) : Option Int :=
 bif x0 == 22 then
 some ((3 : Int))
 else bif x0 == 1 then
 some ((1 : Int))
 else bif x0 == 2 then
 some ((2 : Int))
 else Option.bind (
 bif x0 == 24 then
 some (Sum.inl (x0, true))
 else some (Sum.inl (x0, (x0 == 4)))) fun (x1 : ((Int × Bool) ⊕ Int)) =>
 match x1 with
     | Sum.inl x2 =>
      bif x2.2 then
      some ((4 : Int))
      else Option.bind (
      bif x2.1 == 25 then
      some (Sum.inl (x2.1, true))
      else some (Sum.inl (x2.1, (x2.1 == 5)))) fun (x3 : ((Int × Bool) ⊕ Int)) =>
      match x3 with
         | Sum.inl x4 =>
          bif x4.2 then
          some ((8 : Int))
          else bif x4.1 == 27 then
          some ((16 : Int))
          else bif x4.1 == 7 then
          some ((16 : Int))
          else some ((0 : Int))
         | Sum.inr x4 =>
          some x4
     | Sum.inr x2 =>
      some x2
def a6K : TEnt := ⟨98, .int .i64, [], [(.int .u8, [])], fun s => Zl s⟩
theorem uR : qK Try.prog a6K := kT (loops := []) (joins := [(1229297241, [3, 10], (.cons (.int .i64) .bool), []), (629400187481, [3, 13], (.cons (.int .i64) .bool), [])]) (un := []) _ tn (fun s => by kernel_rfl) (by kernel_rfl)
def Zj (x0 : Y4_) (x1 : Int) (x2 : Bool) : Option Y4_ :=
 bif x2 then
 some ((Go.bits Go.BinOp.or IntKind.u8 (Go.bits Go.BinOp.andNot IntKind.u8 x0.1 x1) x1), x0.2)
 else some ((Go.bits Go.BinOp.andNot IntKind.u8 x0.1 x1), x0.2)
def a76 : TEnt := ⟨99, .cons (.agg Y8_) (.cons (.int .u8) .bool), [], [(.agg Y8_, [])], fun s => Zj s.1 s.2.1 s.2.2⟩
theorem uT : qK Try.prog a76 := eo0 _ tn (fun s => by kernel_rfl) (by kernel_rfl)
def ZP (x0 : Y4_) (x1 : Int) : Option Y4_ :=
 bif x1 == 0 then
 some (((0 : Int)), (((0 : Int)), ((0 : Int))))
 else (Zl x1).bind fun x2 =>
 bif x2 != 0 then
 (Zj x0 x2 (decide (x1 < 20))).bind fun x3 =>
 some x3
 else bif decide ((60 : Int) ≤ IntKind.i64.wrap (x1 - (30 : Int))) then
 bif decide (IntKind.i64.wrap (x1 - (30 : Int)) < 68) then
 some (x0.1, ((IntKind.u8.wrap (IntKind.i64.wrap (IntKind.i64.wrap (IntKind.i64.wrap (x1 - (60 : Int)) - (30 : Int)) + (9 : Int)))), x0.2.2))
 else bif decide ((0 : Int) ≤ IntKind.i64.wrap (x1 - (30 : Int))) then
 bif decide (IntKind.i64.wrap (x1 - (30 : Int)) < 8) then
 some (x0.1, ((IntKind.u8.wrap (IntKind.i64.wrap (IntKind.i64.wrap (x1 - (30 : Int)) + (1 : Int)))), x0.2.2))
 else bif IntKind.i64.wrap (x1 - (30 : Int)) == 9 then
 some (x0.1, (((0 : Int)), x0.2.2))
 else bif decide ((60 : Int) ≤ IntKind.i64.wrap (x1 - (40 : Int))) then
 bif decide (IntKind.i64.wrap (x1 - (40 : Int)) < 68) then
 some (x0.1, (x0.2.1, (IntKind.u8.wrap (IntKind.i64.wrap (IntKind.i64.wrap (IntKind.i64.wrap (x1 - (60 : Int)) - (40 : Int)) + (9 : Int))))))
 else bif decide ((0 : Int) ≤ IntKind.i64.wrap (x1 - (40 : Int))) then
 bif decide (IntKind.i64.wrap (x1 - (40 : Int)) < 8) then
 some (x0.1, (x0.2.1, (IntKind.u8.wrap (IntKind.i64.wrap (IntKind.i64.wrap (x1 - (40 : Int)) + (1 : Int))))))
 else bif IntKind.i64.wrap (x1 - (40 : Int)) == 9 then
 some (x0.1, (x0.2.1, ((0 : Int))))
 else some x0
 else bif IntKind.i64.wrap (x1 - (40 : Int)) == 9 then
 some (x0.1, (x0.2.1, ((0 : Int))))
 else some x0
 else bif decide ((0 : Int) ≤ IntKind.i64.wrap (x1 - (40 : Int))) then
 bif decide (IntKind.i64.wrap (x1 - (40 : Int)) < 8) then
 some (x0.1, (x0.2.1, (IntKind.u8.wrap (IntKind.i64.wrap (IntKind.i64.wrap (x1 - (40 : Int)) + (1 : Int))))))
 else bif IntKind.i64.wrap (x1 - (40 : Int)) == 9 then
 some (x0.1, (x0.2.1, ((0 : Int))))
 else some x0
 else bif IntKind.i64.wrap (x1 - (40 : Int)) == 9 then
 some (x0.1, (x0.2.1, ((0 : Int))))
 else some x0
 else bif IntKind.i64.wrap (x1 - (30 : Int)) == 9 then
 some (x0.1, (((0 : Int)), x0.2.2))
 else bif decide ((60 : Int) ≤ IntKind.i64.wrap (x1 - (40 : Int))) then
 bif decide (IntKind.i64.wrap (x1 - (40 : Int)) < 68) then
 some (x0.1, (x0.2.1, (IntKind.u8.wrap (IntKind.i64.wrap (IntKind.i64.wrap (IntKind.i64.wrap (x1 - (60 : Int)) - (40 : Int)) + (9 : Int))))))
 else bif decide ((0 : Int) ≤ IntKind.i64.wrap (x1 - (40 : Int))) then
 bif decide (IntKind.i64.wrap (x1 - (40 : Int)) < 8) then
 some (x0.1, (x0.2.1, (IntKind.u8.wrap (IntKind.i64.wrap (IntKind.i64.wrap (x1 - (40 : Int)) + (1 : Int))))))
 else bif IntKind.i64.wrap (x1 - (40 : Int)) == 9 then
 some (x0.1, (x0.2.1, ((0 : Int))))
 else some x0
 else bif IntKind.i64.wrap (x1 - (40 : Int)) == 9 then
 some (x0.1, (x0.2.1, ((0 : Int))))
 else some x0
 else bif decide ((0 : Int) ≤ IntKind.i64.wrap (x1 - (40 : Int))) then
 bif decide (IntKind.i64.wrap (x1 - (40 : Int)) < 8) then
 some (x0.1, (x0.2.1, (IntKind.u8.wrap (IntKind.i64.wrap (IntKind.i64.wrap (x1 - (40 : Int)) + (1 : Int))))))
 else bif IntKind.i64.wrap (x1 - (40 : Int)) == 9 then
 some (x0.1, (x0.2.1, ((0 : Int))))
 else some x0
 else bif IntKind.i64.wrap (x1 - (40 : Int)) == 9 then
 some (x0.1, (x0.2.1, ((0 : Int))))
 else some x0
 else bif decide ((0 : Int) ≤ IntKind.i64.wrap (x1 - (30 : Int))) then
 bif decide (IntKind.i64.wrap (x1 - (30 : Int)) < 8) then
 some (x0.1, ((IntKind.u8.wrap (IntKind.i64.wrap (IntKind.i64.wrap (x1 - (30 : Int)) + (1 : Int)))), x0.2.2))
 else bif IntKind.i64.wrap (x1 - (30 : Int)) == 9 then
 some (x0.1, (((0 : Int)), x0.2.2))
 else bif decide ((60 : Int) ≤ IntKind.i64.wrap (x1 - (40 : Int))) then
 bif decide (IntKind.i64.wrap (x1 - (40 : Int)) < 68) then
 some (x0.1, (x0.2.1, (IntKind.u8.wrap (IntKind.i64.wrap (IntKind.i64.wrap (IntKind.i64.wrap (x1 - (60 : Int)) - (40 : Int)) + (9 : Int))))))
 else bif decide ((0 : Int) ≤ IntKind.i64.wrap (x1 - (40 : Int))) then
 bif decide (IntKind.i64.wrap (x1 - (40 : Int)) < 8) then
 some (x0.1, (x0.2.1, (IntKind.u8.wrap (IntKind.i64.wrap (IntKind.i64.wrap (x1 - (40 : Int)) + (1 : Int))))))
 else bif IntKind.i64.wrap (x1 - (40 : Int)) == 9 then
 some (x0.1, (x0.2.1, ((0 : Int))))
 else some x0
 else bif IntKind.i64.wrap (x1 - (40 : Int)) == 9 then
 some (x0.1, (x0.2.1, ((0 : Int))))
 else some x0
 else bif decide ((0 : Int) ≤ IntKind.i64.wrap (x1 - (40 : Int))) then
 bif decide (IntKind.i64.wrap (x1 - (40 : Int)) < 8) then
 some (x0.1, (x0.2.1, (IntKind.u8.wrap (IntKind.i64.wrap (IntKind.i64.wrap (x1 - (40 : Int)) + (1 : Int))))))
 else bif IntKind.i64.wrap (x1 - (40 : Int)) == 9 then
 some (x0.1, (x0.2.1, ((0 : Int))))
 else some x0
 else bif IntKind.i64.wrap (x1 - (40 : Int)) == 9 then
 some (x0.1, (x0.2.1, ((0 : Int))))
 else some x0
 else bif IntKind.i64.wrap (x1 - (30 : Int)) == 9 then
 some (x0.1, (((0 : Int)), x0.2.2))
 else bif decide ((60 : Int) ≤ IntKind.i64.wrap (x1 - (40 : Int))) then
 bif decide (IntKind.i64.wrap (x1 - (40 : Int)) < 68) then
 some (x0.1, (x0.2.1, (IntKind.u8.wrap (IntKind.i64.wrap (IntKind.i64.wrap (IntKind.i64.wrap (x1 - (60 : Int)) - (40 : Int)) + (9 : Int))))))
 else bif decide ((0 : Int) ≤ IntKind.i64.wrap (x1 - (40 : Int))) then
 bif decide (IntKind.i64.wrap (x1 - (40 : Int)) < 8) then
 some (x0.1, (x0.2.1, (IntKind.u8.wrap (IntKind.i64.wrap (IntKind.i64.wrap (x1 - (40 : Int)) + (1 : Int))))))
 else bif IntKind.i64.wrap (x1 - (40 : Int)) == 9 then
 some (x0.1, (x0.2.1, ((0 : Int))))
 else some x0
 else bif IntKind.i64.wrap (x1 - (40 : Int)) == 9 then
 some (x0.1, (x0.2.1, ((0 : Int))))
 else some x0
 else bif decide ((0 : Int) ≤ IntKind.i64.wrap (x1 - (40 : Int))) then
 bif decide (IntKind.i64.wrap (x1 - (40 : Int)) < 8) then
 some (x0.1, (x0.2.1, (IntKind.u8.wrap (IntKind.i64.wrap (IntKind.i64.wrap (x1 - (40 : Int)) + (1 : Int))))))
 else bif IntKind.i64.wrap (x1 - (40 : Int)) == 9 then
 some (x0.1, (x0.2.1, ((0 : Int))))
 else some x0
 else bif IntKind.i64.wrap (x1 - (40 : Int)) == 9 then
 some (x0.1, (x0.2.1, ((0 : Int))))
 else some x0
def a7s : TEnt := ⟨67, .cons (.agg Y8_) (.int .i64), [], [(.agg Y8_, [])], fun s => ZP s.1 s.2⟩
theorem uD : qK Try.prog a7s := eo0 _ (tc uR (tc uT tn)) (fun s => by kernel_rfl) (by kernel_rfl)
def zK (x2 : YR) (x3 : Y4_) (x4 : Int) (x5 : Int) (x6 : Int) : Option ((YR × (Y4_ × Y4_)) ⊕ Y4_) :=
 bif decide (x2.2.2 < x2.2.1) then
 bif decide (0 ≤ x2.2.2) then
 (x2.1[x2.2.2.toNat]?).bind fun x7 =>
 (ZP x3 x7).bind fun x8 =>
 some (Sum.inl ((x2.1, (x2.2.1, (IntKind.i64.wrap (x2.2.2 + (1 : Int))))), (x8, (x4, (x5, x6)))))
 else none
 else some (Sum.inr x3)
def JY : (YR × (Y4_ × Y4_)) → Option Y4_ := zO fun s => zK s.1 s.2.1 s.2.2.1 s.2.2.2.1 s.2.2.2.2
def Qc (x0 : Y4_) (x1 : (List Int)) : Option Y4_ :=
 bif (↑x1.length : Int) == 0 then
 some (((0 : Int)), (((0 : Int)), ((0 : Int))))
 else (JY ((x1, (((↑x1.length : Int)), ((0 : Int)))), (x0, (((0 : Int)), (((0 : Int)), ((0 : Int))))))).bind fun x2 =>
 some x2
def a6L : TEnt := ⟨35, .cons (.agg Y8_) (.sl (.int .i64)), [], [(.agg Y8_, [])], fun s => Qc s.1 s.2⟩
theorem JV : qK Try.prog a6L := kT (loops := [(37450, [2, 4, 11, 12, 13], (.cons (.ptr 0 0) (.cons (.ptr 1 0) (.cons (.sl (.int .i64)) JF))), [.st Y8_, .st Y8_])]) (joins := []) (un := []) _ (tc uD tn) (fun s => by kernel_rfl) (by kernel_rfl)
def wc (x0 : (List Int)) : Option (List Int) :=
 bif decide (x0.length = (0 : Nat)) then
 Go.Sim.bothM (
 some []) (
 bif decide ((0 : Nat) = (0 : Nat) ∧ (0 : Nat) + x0.length ≤ (17592186044416 : Nat)) then
 bif decide ((0 : Nat) + x0.length = ([] ++ x0).length) then
 some ([] ++ x0)
 else none
 else none)
 else bif decide ((0 : Nat) = (0 : Nat) ∧ (0 : Nat) + x0.length ≤ (17592186044416 : Nat)) then
 bif decide ((0 : Nat) + x0.length = ([] ++ x0).length) then
 some ([] ++ x0)
 else none
 else none
def a1C : TEnt := ⟨119, .sl (.int .i64), [], [(.own 0, [.li (.int .i64) 3 false])], fun s => wc s⟩
theorem ZW : qK Try.prog a1C := eo0 _ tn (fun s => by kernel_rfl) (by kernel_rfl)
def Jk (x0 : Int) (x1 : Int) : Option (Unit ⊕ Y6_) :=
 (ZD x0 x1).bind fun x2 =>
 match x2 with
  | Sum.inl x3 =>
   some (Sum.inl ())
  | Sum.inr x3 =>
   kk x3.2 (some (Sum.inr ((((0 : Int)), (((0 : Int)), (((0 : Int)), (((0 : Int)), (((0 : Int)), (((0 : Int)), (((0 : Int)), (((0 : Int)), false)))))))), (x3.1, (x3.2, [])))))
def abd : TEnt := ⟨34, .cons (.int .i64) (.int .i64), [], [(.tup (.cons (.cst (.pointer none)) (.cst (.int .i64 11))), []), (.tup (.cons (.ptr 0 0) (.cst (.int .i64 0))), Y0_)], fun s => Jk s.1 s.2⟩
theorem a2J : qK Try.prog abd := eo0 _ (tc uW tn) (fun s => by kernel_rfl) (by kernel_rfl)
def qJ (x0 : Y3_) (x1 : Y4_) (x2 : (List Y1_)) (x3 : (List Int)) : Option (Y4_ × Y6_) :=
 kk x2 (kk x3 (some ((((0 : Int)), (((0 : Int)), x0.2.2.2.2.2.2.2.1)), (x0, (x1, (x2, x3))))))
def a3i : TEnt := ⟨140, .ptr 0 0, Y0_, [((.agg Y8_), Y0_)], fun s => qJ s.1 s.2.1 s.2.2.1 s.2.2.2⟩
theorem Q1 : qK Try.prog a3i := eo0 _ tn (fun s => by kernel_rfl) (by kernel_rfl)
def wK (x0 : Y3_) (x1 : Y4_) (x2 : (List Y1_)) (x3 : (List Int)) : Option Y6_ :=
 kk x2 ((qj x1 x2).bind fun x4 =>
 kk x4.2.2 ((wa x4.2.1 x4.2.2).bind fun x5 =>
 bif x4.1 == IntKind.i64.wrap (x5.1 - (1 : Int)) then
 kk x5.2.2 (kk x3 ((qJ x0 x5.2.1 x5.2.2 x3).bind fun x6 =>
 kk x6.2.2.2.1 ((wY ((1 : Int), x6.1.1, x6.1.2.1, x6.1.2.2) x6.2.2.1 x6.2.2.2.1).bind fun x7 =>
 kk x7.2 (kk x6.2.2.2.2 (some (x6.2.1, (x7.1, (x7.2, x6.2.2.2.2))))))))
 else kk x5.2.2 ((qj x5.2.1 x5.2.2).bind fun x6 =>
 kk x6.2.2 ((qy x6.2.1 x6.2.2).bind fun x7 =>
 kk x7.2.2 ((z4 (IntKind.i64.wrap (x6.1 + (1 : Int)), x7.1) x7.2.1 x7.2.2).bind fun x8 =>
 kk x8.2 (kk x3 (some (x0, (x8.1, (x8.2, x3))))))))))
def a7G : TEnt := ⟨112, .ptr 0 0, Y0_, [(.tup .nil, Y0_)], fun s => wK s.1 s.2.1 s.2.2.1 s.2.2.2⟩
theorem JM : qK Try.prog a7G := eo0 _ (tc Kj (tc kA (tc j4 (tc jq (tc v5 (tc Q1 tn)))))) (fun s => by kernel_rfl) (by kernel_rfl)
def Qr (x0 : Int) (x1 : Y3_) (x2 : Y4_) (x3 : (List Y1_)) (x4 : (List Int)) : Option Y6_ :=
 (yI x0 x1.2.2.2.2.2.1 x1.2.2.2.2.2.2.1 x1.2.2.2.2.2.2.2.1).bind fun x5 =>
 bif !x5.2 then
 kk x3 ((qy x2 x3).bind fun x6 =>
 (zT x0).bind fun x7 =>
 bif x7 then
 bif x1.2.2.2.2.2.2.2.2 then
 kk x6.2.2 ((qj x6.2.1 x6.2.2).bind fun x8 =>
 kk x8.2.2 ((wb (x8.1, x6.1, x0) x8.2.1 x8.2.2).bind fun x9 =>
 kk x9.2.2 (kk x4 (some (x1, (x9.2.1, (x9.2.2, x4)))))))
 else kk x6.2.2 ((qj x6.2.1 x6.2.2).bind fun x8 =>
 kk x8.2.2 ((wb (x8.1, IntKind.i64.wrap (x6.1 - (1 : Int)), x0) x8.2.1 x8.2.2).bind fun x9 =>
 kk x9.2.2 (kk x4 (some (x1, (x9.2.1, (x9.2.2, x4)))))))
 else kk x6.2.2 ((qj x6.2.1 x6.2.2).bind fun x8 =>
 kk x8.2.2 ((wb (x8.1, IntKind.i64.wrap (x6.1 - (1 : Int)), x0) x8.2.1 x8.2.2).bind fun x9 =>
 kk x9.2.2 (kk x4 (some (x1, (x9.2.1, (x9.2.2, x4))))))))
 else kk x3 ((qA x2 x3).bind fun x6 =>
 bif decide (x6.1 < IntKind.i64.wrap x5.1.2.2.2.1) then
 kk x6.2.2 (kk x4 (some (x1, (x6.2.1, (x6.2.2, x4)))))
 else bif x1.2.2.2.2.2.2.2.2 then
 kk x6.2.2 ((qj x6.2.1 x6.2.2).bind fun x7 =>
 kk x7.2.2 ((z4 (x7.1, (0 : Int)) x7.2.1 x7.2.2).bind fun x8 =>
 kk x8.2 (kk x4 ((wK x1 x8.1 x8.2 x4).bind fun x9 =>
 kk x9.2.2.1 ((qj x9.2.1 x9.2.2.1).bind fun x10 =>
 kk x10.2.2 ((qy x10.2.1 x10.2.2).bind fun x11 =>
 kk x11.2.2 ((jR (x10.1, x11.1, x5.1.1, x5.1.2.1, x5.1.2.2.1, x5.1.2.2.2.1, x5.1.2.2.2.2.1, x5.1.2.2.2.2.2.1, x5.1.2.2.2.2.2.2) x11.2.1 x11.2.2).bind fun x12 =>
 kk x12.2.2 ((qy x12.2.1 x12.2.2).bind fun x13 =>
 kk x13.2.2 ((qA x13.2.1 x13.2.2).bind fun x14 =>
 kk x14.2.2 ((qj x14.2.1 x14.2.2).bind fun x15 =>
 kk x15.2.2 ((qy x15.2.1 x15.2.2).bind fun x16 =>
 kk x16.2.2 ((z4 (x15.1, IntKind.i64.wrap (x16.1 + IntKind.i64.wrap x5.1.2.2.2.1)) x16.2.1 x16.2.2).bind fun x17 =>
 kk x17.2 (kk x9.2.2.2 (some ((x9.1.1, (x9.1.2.1, (x9.1.2.2.1, (x9.1.2.2.2.1, (x9.1.2.2.2.2.1, (x9.1.2.2.2.2.2.1, (x9.1.2.2.2.2.2.2.1, (x9.1.2.2.2.2.2.2.2.1, (decide (x14.1 ≤ IntKind.i64.wrap (x13.1 + IntKind.i64.wrap x5.1.2.2.2.1))))))))))), (x17.1, (x17.2, x9.2.2.2)))))))))))))))))
 else kk x6.2.2 ((qy x6.2.1 x6.2.2).bind fun x7 =>
 kk x7.2.2 ((qA x7.2.1 x7.2.2).bind fun x8 =>
 bif decide (x8.1 < IntKind.i64.wrap (x7.1 + IntKind.i64.wrap x5.1.2.2.2.1)) then
 kk x8.2.2 ((qj x8.2.1 x8.2.2).bind fun x9 =>
 kk x9.2.2 ((z4 (x9.1, (0 : Int)) x9.2.1 x9.2.2).bind fun x10 =>
 kk x10.2 (kk x4 ((wK x1 x10.1 x10.2 x4).bind fun x11 =>
 kk x11.2.2.1 ((qj x11.2.1 x11.2.2.1).bind fun x12 =>
 kk x12.2.2 ((qy x12.2.1 x12.2.2).bind fun x13 =>
 kk x13.2.2 ((jR (x12.1, x13.1, x5.1.1, x5.1.2.1, x5.1.2.2.1, x5.1.2.2.2.1, x5.1.2.2.2.2.1, x5.1.2.2.2.2.2.1, x5.1.2.2.2.2.2.2) x13.2.1 x13.2.2).bind fun x14 =>
 kk x14.2.2 ((qy x14.2.1 x14.2.2).bind fun x15 =>
 kk x15.2.2 ((qA x15.2.1 x15.2.2).bind fun x16 =>
 kk x16.2.2 ((qj x16.2.1 x16.2.2).bind fun x17 =>
 kk x17.2.2 ((qy x17.2.1 x17.2.2).bind fun x18 =>
 kk x18.2.2 ((z4 (x17.1, IntKind.i64.wrap (x18.1 + IntKind.i64.wrap x5.1.2.2.2.1)) x18.2.1 x18.2.2).bind fun x19 =>
 kk x19.2 (kk x11.2.2.2 (some ((x11.1.1, (x11.1.2.1, (x11.1.2.2.1, (x11.1.2.2.2.1, (x11.1.2.2.2.2.1, (x11.1.2.2.2.2.2.1, (x11.1.2.2.2.2.2.2.1, (x11.1.2.2.2.2.2.2.2.1, (decide (x16.1 ≤ IntKind.i64.wrap (x15.1 + IntKind.i64.wrap x5.1.2.2.2.1))))))))))), (x19.1, (x19.2, x11.2.2.2)))))))))))))))))
 else kk x8.2.2 ((qj x8.2.1 x8.2.2).bind fun x9 =>
 kk x9.2.2 ((qy x9.2.1 x9.2.2).bind fun x10 =>
 kk x10.2.2 ((jR (x9.1, x10.1, x5.1.1, x5.1.2.1, x5.1.2.2.1, x5.1.2.2.2.1, x5.1.2.2.2.2.1, x5.1.2.2.2.2.2.1, x5.1.2.2.2.2.2.2) x10.2.1 x10.2.2).bind fun x11 =>
 kk x11.2.2 ((qy x11.2.1 x11.2.2).bind fun x12 =>
 kk x12.2.2 ((qA x12.2.1 x12.2.2).bind fun x13 =>
 kk x13.2.2 ((qj x13.2.1 x13.2.2).bind fun x14 =>
 kk x14.2.2 ((qy x14.2.1 x14.2.2).bind fun x15 =>
 kk x15.2.2 ((z4 (x14.1, IntKind.i64.wrap (x15.1 + IntKind.i64.wrap x5.1.2.2.2.1)) x15.2.1 x15.2.2).bind fun x16 =>
 kk x16.2 (kk x4 (some ((x1.1, (x1.2.1, (x1.2.2.1, (x1.2.2.2.1, (x1.2.2.2.2.1, (x1.2.2.2.2.2.1, (x1.2.2.2.2.2.2.1, (x1.2.2.2.2.2.2.2.1, (decide (x13.1 ≤ IntKind.i64.wrap (x12.1 + IntKind.i64.wrap x5.1.2.2.2.1))))))))))), (x16.1, (x16.2, x4))))))))))))))))
def a2R : TEnt := ⟨69, .cons (.ptr 0 0) (.int .i32), Y0_, [(.tup .nil, Y0_)], fun s => Qr s.1 s.2.1 s.2.2.1 s.2.2.2.1 s.2.2.2.2⟩
theorem Xd : qK Try.prog a2R := eo0 _ (tc yj (tc a2o (tc Q5 (tc kA (tc j4 (tc uF (tc xR (tc jq (tc JM tn))))))))) (fun s => by kernel_rfl) (by kernel_rfl)
def jP (x0 : (Int × Int)) (x1 : Y3_) (x2 : Y4_) (x3 : (List Y1_)) (x4 : (List Int)) : Option Y6_ :=
 kk x3 ((qj x2 x3).bind fun x5 =>
 kk x5.2.2 ((qy x5.2.1 x5.2.2).bind fun x6 =>
 kk x6.2.2 ((z4 (IntKind.i64.wrap (x5.1 + x0.1), IntKind.i64.wrap (x6.1 + x0.2)) x6.2.1 x6.2.2).bind fun x7 =>
 kk x7.2 (kk x4 (some ((x1.1, (x1.2.1, (x1.2.2.1, (x1.2.2.2.1, (x1.2.2.2.2.1, (x1.2.2.2.2.2.1, (x1.2.2.2.2.2.2.1, (x1.2.2.2.2.2.2.2.1, false)))))))), (x7.1, (x7.2, x4))))))))
def a7v : TEnt := ⟨135, .cons (.ptr 0 0) JF, Y0_, [(.tup .nil, Y0_)], fun s => jP s.1 s.2.1 s.2.2.1 s.2.2.2.1 s.2.2.2.2⟩
theorem wX : qK Try.prog a7v := eo0 _ (tc kA (tc j4 (tc jq tn))) (fun s => by kernel_rfl) (by kernel_rfl)
def QI (x0 : Int) (x1 : Y3_) (x2 : Y4_) (x3 : (List Y1_)) (x4 : (List Int)) : Option Y6_ :=
 bif x0 == 13 then
 kk x3 ((qj x2 x3).bind fun x5 =>
 kk x5.2.2 ((z4 (x5.1, (0 : Int)) x5.2.1 x5.2.2).bind fun x6 =>
 kk x6.2 (kk x4 (some ((x1.1, (x1.2.1, (x1.2.2.1, (x1.2.2.2.1, (x1.2.2.2.2.1, (x1.2.2.2.2.2.1, (x1.2.2.2.2.2.2.1, (x1.2.2.2.2.2.2.2.1, false)))))))), (x6.1, (x6.2, x4)))))))
 else bif x0 == 10 then
 kk x3 (kk x4 ((wK x1 x2 x3 x4).bind fun x5 =>
 kk x5.2.2.1 (kk x5.2.2.2 (some ((x5.1.1, (x5.1.2.1, (x5.1.2.2.1, (x5.1.2.2.2.1, (x5.1.2.2.2.2.1, (x5.1.2.2.2.2.2.1, (x5.1.2.2.2.2.2.2.1, (x5.1.2.2.2.2.2.2.2.1, false)))))))), x5.2)))))
 else bif x0 == 8 then
 kk x3 ((qj x2 x3).bind fun x5 =>
 kk x5.2.2 ((qy x5.2.1 x5.2.2).bind fun x6 =>
 kk x6.2.2 ((z4 (x5.1, IntKind.i64.wrap (x6.1 - (1 : Int))) x6.2.1 x6.2.2).bind fun x7 =>
 kk x7.2 (kk x4 (some ((x1.1, (x1.2.1, (x1.2.2.1, (x1.2.2.2.1, (x1.2.2.2.2.1, (x1.2.2.2.2.2.1, (x1.2.2.2.2.2.2.1, (x1.2.2.2.2.2.2.2.1, false)))))))), (x7.1, (x7.2, x4))))))))
 else kk x3 (kk x4 (some (x1, (x2, (x3, x4)))))
def Ul : TEnt := ⟨70, .cons (.ptr 0 0) (.int .i32), Y0_, [(.tup .nil, Y0_)], fun s => QI s.1 s.2.1 s.2.2.1 s.2.2.2.1 s.2.2.2.2⟩
theorem va : qK Try.prog Ul := eo0 _ (tc kA (tc j4 (tc jq (tc JM tn)))) (fun s => by kernel_rfl) (by kernel_rfl)
def X1 (x0 : Y9_) (x1 : Y3_) (x2 : Y4_) (x3 : (List Y1_)) (x4 : (List Int)) : Option Y6_ :=
 (ku x0 (0 : Int)).bind fun x5 =>
 kk x3 (kk x4 ((jP (IntKind.i64.wrap ((0 : Int) - x5), (0 : Int)) x1 x2 x3 x4).bind fun x6 =>
 kk x6.2.2.1 (kk x6.2.2.2 (some x6))))
def acp : TEnt := ⟨100, .cons (.ptr 0 0) (.agg Vu), Y0_, [(.tup .nil, Y0_)], fun s => X1 s.1 s.2.1 s.2.2.1 s.2.2.2.1 s.2.2.2.2⟩
theorem a3D : qK Try.prog acp := eo0 _ (tc jo (tc wX tn)) (fun s => by kernel_rfl) (by kernel_rfl)
def Km (x0 : Y9_) (x1 : Y3_) (x2 : Y4_) (x3 : (List Y1_)) (x4 : (List Int)) : Option Y6_ :=
 (ku x0 (0 : Int)).bind fun x5 =>
 kk x3 (kk x4 ((jP (x5, (0 : Int)) x1 x2 x3 x4).bind fun x6 =>
 kk x6.2.2.1 (kk x6.2.2.2 (some x6))))
def a4L : TEnt := ⟨101, .cons (.ptr 0 0) (.agg Vu), Y0_, [(.tup .nil, Y0_)], fun s => Km s.1 s.2.1 s.2.2.1 s.2.2.2.1 s.2.2.2.2⟩
theorem XS : qK Try.prog a4L := eo0 _ (tc jo (tc wX tn)) (fun s => by kernel_rfl) (by kernel_rfl)
def KA (x0 : Y9_) (x1 : Y3_) (x2 : Y4_) (x3 : (List Y1_)) (x4 : (List Int)) : Option Y6_ :=
 (ku x0 (0 : Int)).bind fun x5 =>
 kk x3 (kk x4 ((jP ((0 : Int), x5) x1 x2 x3 x4).bind fun x6 =>
 kk x6.2.2.1 (kk x6.2.2.2 (some x6))))
def a2V : TEnt := ⟨102, .cons (.ptr 0 0) (.agg Vu), Y0_, [(.tup .nil, Y0_)], fun s => KA s.1 s.2.1 s.2.2.1 s.2.2.2.1 s.2.2.2.2⟩
theorem xG : qK Try.prog a2V := eo0 _ (tc jo (tc wX tn)) (fun s => by kernel_rfl) (by kernel_rfl)
def Wm (x0 : Y9_) (x1 : Y3_) (x2 : Y4_) (x3 : (List Y1_)) (x4 : (List Int)) : Option Y6_ :=
 (ku x0 (0 : Int)).bind fun x5 =>
 kk x3 (kk x4 ((jP ((0 : Int), IntKind.i64.wrap ((0 : Int) - x5)) x1 x2 x3 x4).bind fun x6 =>
 kk x6.2.2.1 (kk x6.2.2.2 (some x6))))
def a7B : TEnt := ⟨103, .cons (.ptr 0 0) (.agg Vu), Y0_, [(.tup .nil, Y0_)], fun s => Wm s.1 s.2.1 s.2.2.1 s.2.2.2.1 s.2.2.2.2⟩
theorem U0 : qK Try.prog a7B := eo0 _ (tc jo (tc wX tn)) (fun s => by kernel_rfl) (by kernel_rfl)
def Kt (x0 : Y9_) (x1 : Y3_) (x2 : Y4_) (x3 : (List Y1_)) (x4 : (List Int)) : Option Y6_ :=
 (ku x0 (0 : Int)).bind fun x5 =>
 (ku x0 (1 : Int)).bind fun x6 =>
 kk x3 ((z4 (IntKind.i64.wrap (x5 - (1 : Int)), IntKind.i64.wrap (x6 - (1 : Int))) x2 x3).bind fun x7 =>
 kk x7.2 (kk x4 (some ((x1.1, (x1.2.1, (x1.2.2.1, (x1.2.2.2.1, (x1.2.2.2.2.1, (x1.2.2.2.2.2.1, (x1.2.2.2.2.2.2.1, (x1.2.2.2.2.2.2.2.1, false)))))))), (x7.1, (x7.2, x4))))))
def a5i : TEnt := ⟨104, .cons (.ptr 0 0) (.agg Vu), Y0_, [(.tup .nil, Y0_)], fun s => Kt s.1 s.2.1 s.2.2.1 s.2.2.2.1 s.2.2.2.2⟩
theorem VY : qK Try.prog a5i := eo0 _ (tc jq (tc jo tn)) (fun s => by kernel_rfl) (by kernel_rfl)
def QQ (x0 : Y9_) (x1 : Y3_) (x2 : Y4_) (x3 : (List Y1_)) (x4 : (List Int)) : Option Y6_ :=
 (kf x0 (0 : Int) (0 : Int)).bind fun x5 =>
 bif x5 == 0 then
 kk x3 ((qy x2 x3).bind fun x6 =>
 kk x6.2.2 ((qA x6.2.1 x6.2.2).bind fun x7 =>
 kk x7.2.2 ((qj x7.2.1 x7.2.2).bind fun x8 =>
 kk x8.2.2 (kk x4 ((qJ x1 x8.2.1 x8.2.2 x4).bind fun x9 =>
 kk x9.2.2.2.1 ((zm (x8.1, x6.1, x7.1, x9.1.1, x9.1.2.1, x9.1.2.2) x9.2.2.1 x9.2.2.2.1).bind fun x10 =>
 kk x10.2 (kk x9.2.2.2.2 (some (x9.2.1, (x10.1, (x10.2, x9.2.2.2.2)))))))))))
 else bif x5 == 1 then
 kk x3 ((qy x2 x3).bind fun x6 =>
 kk x6.2.2 ((qj x6.2.1 x6.2.2).bind fun x7 =>
 kk x7.2.2 (kk x4 ((qJ x1 x7.2.1 x7.2.2 x4).bind fun x8 =>
 kk x8.2.2.2.1 ((zm (x7.1, (0 : Int), IntKind.i64.wrap (x6.1 + (1 : Int)), x8.1.1, x8.1.2.1, x8.1.2.2) x8.2.2.1 x8.2.2.2.1).bind fun x9 =>
 kk x9.2 (kk x8.2.2.2.2 (some (x8.2.1, (x9.1, (x9.2, x8.2.2.2.2))))))))))
 else bif x5 == 2 then
 kk x3 ((qA x2 x3).bind fun x6 =>
 kk x6.2.2 ((qj x6.2.1 x6.2.2).bind fun x7 =>
 kk x7.2.2 (kk x4 ((qJ x1 x7.2.1 x7.2.2 x4).bind fun x8 =>
 kk x8.2.2.2.1 ((zm (x7.1, (0 : Int), x6.1, x8.1.1, x8.1.2.1, x8.1.2.2) x8.2.2.1 x8.2.2.2.1).bind fun x9 =>
 kk x9.2 (kk x8.2.2.2.2 (some (x8.2.1, (x9.1, (x9.2, x8.2.2.2.2))))))))))
 else kk x3 (kk x4 (some (x1, (x2, (x3, x4)))))
def aa7 : TEnt := ⟨106, .cons (.ptr 0 0) (.agg Vu), Y0_, [(.tup .nil, Y0_)], fun s => QQ s.1 s.2.1 s.2.2.1 s.2.2.2.1 s.2.2.2.2⟩
theorem WJ : qK Try.prog aa7 := eo0 _ (tc Q5 (tc kA (tc j4 (tc ZU (tc jc (tc Q1 tn)))))) (fun s => by kernel_rfl) (by kernel_rfl)
def zM (x7 : Y4_) (x8 : Y3_) (x9 : Y4_) (x10 : (List Y1_)) (x11 : (List Int)) (x12 : Int) (x13 : Int) (x14 : (List Int)) : Option ((Y4_ × (Y3_ × (Y4_ × ((List Y1_) × ((List Int) × Y9_))))) ⊕ Y6_) :=
 bif decide (x7.2.2 < x7.2.1) then
 bif x7.1 == 2 then
 kk x10 ((qA x9 x10).bind fun x15 =>
 kk x15.2.2 (kk x11 ((qJ x8 x15.2.1 x15.2.2 x11).bind fun x16 =>
 kk x16.2.2.2.1 ((zm (x7.2.2, (0 : Int), x15.1, x16.1.1, x16.1.2.1, x16.1.2.2) x16.2.2.1 x16.2.2.2.1).bind fun x17 =>
 kk x17.2 (kk x16.2.2.2.2 (some (Sum.inl ((x7.1, (x7.2.1, (IntKind.i64.wrap (x7.2.2 + (1 : Int))))), (x16.2.1, (x17.1, (x17.2, (x16.2.2.2.2, (x12, (x13, x14))))))))))))))
 else bif x7.1 == 0 then
 kk x10 ((qj x9 x10).bind fun x15 =>
 bif decide (x15.1 < x7.2.2) then
 kk x15.2.2 ((qA x15.2.1 x15.2.2).bind fun x16 =>
 kk x16.2.2 (kk x11 ((qJ x8 x16.2.1 x16.2.2 x11).bind fun x17 =>
 kk x17.2.2.2.1 ((zm (x7.2.2, (0 : Int), x16.1, x17.1.1, x17.1.2.1, x17.1.2.2) x17.2.2.1 x17.2.2.2.1).bind fun x18 =>
 kk x18.2 (kk x17.2.2.2.2 (some (Sum.inl ((x7.1, (x7.2.1, (IntKind.i64.wrap (x7.2.2 + (1 : Int))))), (x17.2.1, (x18.1, (x18.2, (x17.2.2.2.2, (x12, (x13, x14))))))))))))))
 else bif x7.1 == 1 then
 kk x15.2.2 ((qj x15.2.1 x15.2.2).bind fun x16 =>
 bif decide (x7.2.2 < x16.1) then
 kk x16.2.2 ((qA x16.2.1 x16.2.2).bind fun x17 =>
 kk x17.2.2 (kk x11 ((qJ x8 x17.2.1 x17.2.2 x11).bind fun x18 =>
 kk x18.2.2.2.1 ((zm (x7.2.2, (0 : Int), x17.1, x18.1.1, x18.1.2.1, x18.1.2.2) x18.2.2.1 x18.2.2.2.1).bind fun x19 =>
 kk x19.2 (kk x18.2.2.2.2 (some (Sum.inl ((x7.1, (x7.2.1, (IntKind.i64.wrap (x7.2.2 + (1 : Int))))), (x18.2.1, (x19.1, (x19.2, (x18.2.2.2.2, (x12, (x13, x14))))))))))))))
 else kk x16.2.2 (kk x11 (some (Sum.inl ((x7.1, (x7.2.1, (IntKind.i64.wrap (x7.2.2 + (1 : Int))))), (x8, (x16.2.1, (x16.2.2, (x11, (x12, (x13, x14)))))))))))
 else kk x15.2.2 (kk x11 (some (Sum.inl ((x7.1, (x7.2.1, (IntKind.i64.wrap (x7.2.2 + (1 : Int))))), (x8, (x15.2.1, (x15.2.2, (x11, (x12, (x13, x14)))))))))))
 else bif x7.1 == 1 then
 kk x10 ((qj x9 x10).bind fun x15 =>
 bif decide (x7.2.2 < x15.1) then
 kk x15.2.2 ((qA x15.2.1 x15.2.2).bind fun x16 =>
 kk x16.2.2 (kk x11 ((qJ x8 x16.2.1 x16.2.2 x11).bind fun x17 =>
 kk x17.2.2.2.1 ((zm (x7.2.2, (0 : Int), x16.1, x17.1.1, x17.1.2.1, x17.1.2.2) x17.2.2.1 x17.2.2.2.1).bind fun x18 =>
 kk x18.2 (kk x17.2.2.2.2 (some (Sum.inl ((x7.1, (x7.2.1, (IntKind.i64.wrap (x7.2.2 + (1 : Int))))), (x17.2.1, (x18.1, (x18.2, (x17.2.2.2.2, (x12, (x13, x14))))))))))))))
 else kk x15.2.2 (kk x11 (some (Sum.inl ((x7.1, (x7.2.1, (IntKind.i64.wrap (x7.2.2 + (1 : Int))))), (x8, (x15.2.1, (x15.2.2, (x11, (x12, (x13, x14)))))))))))
 else kk x10 (kk x11 (some (Sum.inl ((x7.1, (x7.2.1, (IntKind.i64.wrap (x7.2.2 + (1 : Int))))), (x8, (x9, (x10, (x11, (x12, (x13, x14))))))))))
 else kk x10 (kk x11 ((QQ (x12, x13, x14) x8 x9 x10 x11).bind fun x15 =>
 kk x15.2.2.1 (kk x15.2.2.2 (some (Sum.inr x15)))))
def Yt : (Y4_ × (Y3_ × (Y4_ × ((List Y1_) × ((List Int) × Y9_))))) → Option Y6_ := zO fun s => zM s.1 s.2.1 s.2.2.1 s.2.2.2.1 s.2.2.2.2.1 s.2.2.2.2.2.1 s.2.2.2.2.2.2.1 s.2.2.2.2.2.2.2
def Jp (x0 : Y9_) (x1 : Y3_) (x2 : Y4_) (x3 : (List Y1_)) (x4 : (List Int)) : Option Y6_ :=
 (kf x0 (0 : Int) (0 : Int)).bind fun x5 =>
 kk x3 ((wa x2 x3).bind fun x6 =>
 kk x6.2.2 (kk x4 ((Yt ((x5, (x6.1, ((0 : Int)))), (x1, (x6.2.1, (x6.2.2, (x4, x0)))))).bind fun x7 =>
 some x7)))
def aas : TEnt := ⟨105, .cons (.ptr 0 0) (.agg Vu), Y0_, [(.tup .nil, Y0_)], fun s => Jp s.1 s.2.1 s.2.2.1 s.2.2.2.1 s.2.2.2.2⟩
theorem a1m : qK Try.prog aas := kT (loops := [(4682, [0, 3, 4, 13, 14], (.cons (.ptr 0 0) (.cons (.ptr 4 0) (.cons (.int .i64) JF))), [.st (.cons (.ptr 1 0) Y7_), .st aat, .li (.sl Y2_) 151 false, .li (.int .i64) 3 false, .st Vu])]) (joins := []) (un := []) _ (tc Kj (tc Q5 (tc kA (tc ZU (tc jc (tc Q1 (tc WJ tn))))))) (fun s => by kernel_rfl) (by kernel_rfl)
def zI (x6 : (Int × Int)) (x7 : Y3_) (x8 : Y4_) (x9 : (List Y1_)) (x10 : (List Int)) (x11 : Y9_) (x12 : (List Int)) : Option (((Int × Int) × (Y3_ × (Y4_ × ((List Y1_) × ((List Int) × (Y9_ × (List Int))))))) ⊕ Y6_) :=
 bif decide (x6.2 < x6.1) then
 (kf x11 x6.2 (0 : Int)).bind fun x13 =>
 bif decide (0 ≤ x6.2) then
 bif decide (x6.2.toNat < x12.length ∧ x12.length = x12.length) then
 kk x12 ((x12[x6.2.toNat]?).bind fun x14 =>
 kk x9 (kk x10 (bif decide (x12.length = (x12.set x6.2.toNat x13).length) then
 some (Sum.inl ((x6.1, (IntKind.i64.wrap (x6.2 + (1 : Int)))), (x7, (x8, (x9, (x10, (x11, (x12.set x6.2.toNat x13))))))))
 else none)))
 else none
 else none
 else kk x12 ((Qc (x7.2.2.2.2.2.1, x7.2.2.2.2.2.2.1, x7.2.2.2.2.2.2.2.1) x12).bind fun x13 =>
 kk x9 (kk x10 (some (Sum.inr ((x7.1, (x7.2.1, (x7.2.2.1, (x7.2.2.2.1, (x7.2.2.2.2.1, (x13.1, (x13.2.1, (x13.2.2, x7.2.2.2.2.2.2.2.2)))))))), (x8, (x9, x10)))))))
def JJ : ((Int × Int) × (Y3_ × (Y4_ × ((List Y1_) × ((List Int) × (Y9_ × (List Int))))))) → Option Y6_ := zO fun s => zI s.1 s.2.1 s.2.2.1 s.2.2.2.1 s.2.2.2.2.1 s.2.2.2.2.2.1 s.2.2.2.2.2.2
def Zk (x0 : Y9_) (x1 : Y3_) (x2 : Y4_) (x3 : (List Y1_)) (x4 : (List Int)) : Option Y6_ :=
 (wc x0.2.2).bind fun x5 =>
 kk x5 (kk x3 (kk x4 (kk x5 ((JJ ((((↑(List.length x5) : Int)), ((0 : Int))), (x1, (x2, (x3, (x4, (x0, x5))))))).bind fun x6 =>
 some x6))))
def a6w : TEnt := ⟨107, .cons (.ptr 0 0) (.agg Vu), Y0_, [(.tup .nil, Y0_)], fun s => Zk s.1 s.2.1 s.2.2.1 s.2.2.2.1 s.2.2.2.2⟩
theorem Ui : qK Try.prog a6w := kT (loops := [(4682, [0, 3, 4, 10, 11], (.cons (.ptr 0 0) (.cons (.ptr 4 0) (.cons (.own 5) JF))), [.st (.cons (.ptr 1 0) Y7_), .st aat, .li (.sl Y2_) 151 false, .li (.int .i64) 3 false, .st Vu, .li (.int .i64) 3 false])]) (joins := []) (un := []) _ (tc jc (tc JV (tc ZW tn))) (fun s => by kernel_rfl) (by kernel_rfl)
set_option maxHeartbeats 4000000
def uE (f b : Int) : Bool := decide (f / b % 2 = 1)
def onI (i : Nat) : Int := [1, 2, 4, 5, 7].getD i 0
def aiN (i : Nat) : Int := [22, 22, 24, 25, 27].getD i 0
def ZA (i : Nat) : Int := [1, 2, 4, 8, 16].getD i 1
def a9v (n f : Int) (i : Nat) : Int :=
 if n = aiN i ∧ uE (if n = onI i ∧ uE f (ZA i) = false then f + ZA i else f) (ZA i) = true then (if n = onI i ∧ uE f (ZA i) = false then f + ZA i else f) - ZA i else (if n = onI i ∧ uE f (ZA i) = false then f + ZA i else f)
def flF (n f : Int) : Nat → Int
 | 0 => f
 | i + 1 => a9v n (flF n f i) i
theorem ahH {n f : Int} (hf : 0 ≤ f ∧ f < 32) {i : Nat} (h : i < 5) : 0 ≤ a9v n f i ∧ a9v n f i < 32 := by
 have key : ∀ (b : Int), (b = 1 ∨ b = 2 ∨ b = 4 ∨ b = 8 ∨ b = 16) → ∀ g : Int, 0 ≤ g ∧ g < 32 → (uE g b = false → g + b < 32) ∧ (uE g b = true → 0 ≤ g - b) := by
  intro b hb g hg
  unfold uE
  simp only [q8, decide_eq_false_iff_not, decide_eq_true_eq]
  rcases hb with rfl | rfl | rfl | rfl | rfl <;> omega
 have hb : ZA i = 1 ∨ ZA i = 2 ∨ ZA i = 4 ∨ ZA i = 8 ∨ ZA i = 16 := by
  rcases i with _ | _ | _ | _ | _ | i
  ·exact .inl rfl
  ·exact .inr (.inl rfl)
  ·exact .inr (.inr (.inl rfl))
  ·exact .inr (.inr (.inr (.inl rfl)))
  ·exact .inr (.inr (.inr (.inr rfl)))
  ·omega
 have h1 : 0 ≤ (if n = onI i ∧ uE f (ZA i) = false then f + ZA i else f) ∧ (if n = onI i ∧ uE f (ZA i) = false then f + ZA i else f) < 32 := by
  split
  ·rename_i q
   have := (key _ hb f hf).1 q.2
   omega
  ·exact hf
 unfold a9v
 generalize (if n = onI i ∧ uE f (ZA i) = false then f + ZA i else f) = g at *
 split
 ·rename_i q
  have := (key _ hb g h1).2 q.2
  omega
 ·exact h1
theorem agW {n f : Int} (hf : 0 ≤ f ∧ f < 32) : ∀ {i : Nat}, i ≤ 5 → 0 ≤ flF n f i ∧ flF n f i < 32
 | 0, _ => hf
 | i + 1, h => ahH (agW hf (by omega)) (by omega)
def foR (n fo : Int) (i : Nat) : Int := if 30 ≤ n ∧ n < 30 + (i : Int) then n - 29 else if 90 ≤ n ∧ n < 90 + (i : Int) then n - 81 else fo
def baR (n ba : Int) (i : Nat) : Int := if 40 ≤ n ∧ n < 40 + (i : Int) then n - 39 else if 100 ≤ n ∧ n < 100 + (i : Int) then n - 91 else ba
def UE (n : Int) (p : Int × (Int × Int)) : Int × (Int × Int) :=
 (if n = 0 then 0 else flF n p.1 5, if n = 0 ∨ n = 39 then 0 else foR n p.2.1 8, if n = 0 ∨ n = 49 then 0 else baR n p.2.2 8)
structure PenOk (p : Int × (Int × Int)) : Prop where
 f : 0 ≤ p.1 ∧ p.1 < 32
 fo : 0 ≤ p.2.1 ∧ p.2.1 < 17
 ba : 0 ≤ p.2.2 ∧ p.2.2 < 17
theorem VE : PenOk ((0, (0, 0)) : Int × (Int × Int)) := ⟨by simp, by simp, by simp⟩
theorem a6D {p : Int × (Int × Int)} (h : PenOk p) (n : Int) : PenOk (UE n p) := by
 refine ⟨?_, ?_, ?_⟩
 ·show 0 ≤ (if n = 0 then 0 else flF n p.1 5) ∧ (if n = 0 then 0 else flF n p.1 5) < 32
  split
  ·omega
  ·exact agW h.f (by omega)
 ·show 0 ≤ (if n = 0 ∨ n = 39 then 0 else foR n p.2.1 8) ∧ (if n = 0 ∨ n = 39 then 0 else foR n p.2.1 8) < 17
  have := h.fo
  unfold foR
  repeat' split
  all_goals omega
 ·show 0 ≤ (if n = 0 ∨ n = 49 then 0 else baR n p.2.2 8) ∧ (if n = 0 ∨ n = 49 then 0 else baR n p.2.2 8) < 17
  have := h.ba
  unfold baR
  repeat' split
  all_goals omega
def wk (p : Int × (Int × Int)) (l : List Int) : Int × (Int × Int) := l.foldl (fun p n => UE n p) p
theorem a7Z (p : Int × (Int × Int)) {l : List Int} {i : Nat} {n : Int} (h : l[i]? = some n) : wk p (l.take (i + 1)) = UE n (wk p (l.take i)) := by
 have : l.take (i + 1) = l.take i ++ [n] := by rw [List.take_add_one, h]; rfl
 rw [this]
 unfold wk
 rw [List.foldl_append]
 rfl
theorem Qu {p : Int × (Int × Int)} (h : PenOk p) : ∀ l, PenOk (wk p l)
 | [] => h
 | n :: l => Qu (a6D h n) l
def Kh (n : Int) : Int := if n = 22 then 3 else if n = 1 then 1 else if n = 2 then 2 else if n = 24 ∨ n = 4 then 4 else if n = 25 ∨ n = 5 then 8 else if n = 27 ∨ n = 7 then 16 else 0
theorem agG (n : Int) : Zl n = some (Kh n) := by
 unfold Zl Kh
 by_cases h1 : n = 22
 ·simp (disch := omega) only [q8, zL, qY, qg, qk, qw, h1]
  rfl
 ·by_cases h2 : n = 1
  ·simp (disch := omega) only [q8, zL, qY, qg, qk, qw, h2]
   rfl
  ·by_cases h3 : n = 2
   ·simp (disch := omega) only [q8, zL, qY, qg, qk, qw, h3]
    rfl
   ·by_cases h4 : n = 24
    ·simp (disch := omega) only [q8, zL, qY, qg, qk, qw, h4]
     rfl
    ·by_cases h5 : n = 4
     ·simp (disch := omega) only [q8, zL, qY, qg, qk, qw, h5]
      rfl
     ·by_cases h6 : n = 25
      ·simp (disch := omega) only [q8, zL, qY, qg, qk, qw, h6]
       rfl
      ·by_cases h7 : n = 5
       ·simp (disch := omega) only [q8, zL, qY, qg, qk, qw, h7]
        rfl
       ·by_cases h8 : n = 27
        ·simp (disch := omega) only [q8, zL, qY, qg, qk, qw, h8]
         rfl
        ·by_cases h9 : n = 7
         ·simp (disch := omega) only [q8, zL, qY, qg, qk, qw, h9]
          rfl
         ·simp (disch := omega) only [q8, qY, qk, qw]
          rw [if_neg h1, if_neg h2, if_neg h3, if_neg (by omega), if_neg (by omega), if_neg (by omega)]
theorem ae3 : ∀ f : Fin 32, (∀ n ∈ [1, 2, 4, 5, 7], bits .or .u8 (bits .andNot .u8 (f.val : Int) (Kh n)) (Kh n) = flF n (f.val : Int) 5) ∧ (∀ n ∈ [22, 24, 25, 27], bits .andNot .u8 (f.val : Int) (Kh n) = flF n (f.val : Int) 5) := by decide +kernel
theorem aeY {n f : Int} (h : Kh n = 0) : flF n f 5 = f := by
 have hn : ∀ i, i < 5 → n ≠ onI i ∧ n ≠ aiN i := by
  unfold Kh at h
  intro i hi
  rcases i with _ | _ | _ | _ | _ | i
  ·exact ⟨fun q => by rw [q] at h; revert h; decide, fun q => by rw [q] at h; revert h; decide⟩
  ·exact ⟨fun q => by rw [q] at h; revert h; decide, fun q => by rw [q] at h; revert h; decide⟩
  ·exact ⟨fun q => by rw [q] at h; revert h; decide, fun q => by rw [q] at h; revert h; decide⟩
  ·exact ⟨fun q => by rw [q] at h; revert h; decide, fun q => by rw [q] at h; revert h; decide⟩
  ·exact ⟨fun q => by rw [q] at h; revert h; decide, fun q => by rw [q] at h; revert h; decide⟩
  ·omega
 have hr : ∀ g i, i < 5 → a9v n g i = g := by
  intro g i hi
  obtain ⟨h1, h2⟩ := hn i hi
  unfold a9v
  rw [if_neg (fun q => h2 q.1), if_neg (fun q => h1 q.1)]
 simp only [q8, flF]
 rw [hr _ 4 (by omega), hr _ 3 (by omega), hr _ 2 (by omega), hr _ 1 (by omega), hr _ 0 (by omega)]
theorem acL {n c : Int} (hn : yA n) (hc : 0 ≤ c ∧ c ≤ 1000) : -9223372036854775808 + c ≤ n ∧ IntKind.i64.wrap (n - c) = n - c ∨ n < -9223372036854775808 + c ∧ IntKind.i64.wrap (n - c) = n - c + 18446744073709551616 := by
 unfold yA at hn
 by_cases h : -9223372036854775808 ≤ n - c
 ·exact .inl ⟨by omega, qc h (by omega)⟩
 ·refine .inr ⟨by omega, ?_⟩
  have e : (n - c + 18446744073709551616) % 2 ^ IntKind.i64.bits = (n - c) % 2 ^ IntKind.i64.bits := by
   show (n - c + 18446744073709551616) % (18446744073709551616 : Int) = (n - c) % (18446744073709551616 : Int)
   omega
  have : IntKind.i64.wrap (n - c) = IntKind.i64.wrap (n - c + 18446744073709551616) := by
   simp only [q8, IntKind.wrap, e]
  rw [this, qc (by omega) (by omega)]
theorem abg {p : Int × (Int × Int)} (hp : PenOk p) {n : Int} (hn : yA n) : ZP p n = some (UE n p) := by
 obtain ⟨f, fo, ba⟩ := p
 have hf := hp.f
 simp only at hf
 have hnn := hn
 unfold yA at hnn
 unfold ZP
 by_cases n0 : n = 0
 ·subst n0
  simp (disch := omega) only [q8, qn, qt, zL, qY, qc, qg, qk]
  rfl
 ·have e4 : UE n (f, fo, ba) = (flF n f 5, (if n = 39 then 0 else foR n fo 8, if n = 49 then 0 else baR n ba 8)) := by unfold UE; simp [n0]
  rw [e4, agG]
  by_cases hz : Kh n = 0
  ·rw [aeY hz, hz]
   have a3 := acL hn (c := 30) (by omega)
   have a4 := acL hn (c := 40) (by omega)
   have hb : (0 : Int) ≠ 0 → False := fun q => q rfl
   by_cases c1 : 90 ≤ n ∧ n < 98
   ·have e3 : foR n fo 8 = n - 81 := by unfold foR; rw [if_neg (by omega), if_pos (by omega)]
    have e5 : baR n ba 8 = ba := by unfold baR; rw [if_neg (by omega), if_neg (by omega)]
    simp (disch := omega) only [q8, qn, qt, qY, qc, QU, qg, qk, qw, bne_self_eq_false, e3, e5, if_neg (show ¬ n = 39 by omega), if_neg (show ¬ n = 49 by omega)]
    congr 3; omega
   ·by_cases c2 : 30 ≤ n ∧ n < 38
    ·have e3 : foR n fo 8 = n - 29 := by unfold foR; rw [if_pos (by omega)]
     have e5 : baR n ba 8 = ba := by unfold baR; rw [if_neg (by omega), if_neg (by omega)]
     simp (disch := omega) only [q8, qn, qt, qY, qc, QU, qg, qk, qw, bne_self_eq_false, e3, e5, if_neg (show ¬ n = 39 by omega), if_neg (show ¬ n = 49 by omega)]
     congr 3; omega
    ·have e3 : foR n fo 8 = fo := by unfold foR; rw [if_neg (by omega), if_neg (by omega)]
     by_cases c3 : n = 39
     ·have e5 : baR n ba 8 = ba := by unfold baR; rw [if_neg (by omega), if_neg (by omega)]
      simp (disch := omega) only [q8, qn, qt, zL, qY, qc, QU, qg, qk, qw, bne_self_eq_false, e3, e5, if_pos c3, if_neg (show ¬ n = 49 by omega)]
     ·by_cases c4 : 100 ≤ n ∧ n < 108
      ·have e5 : baR n ba 8 = n - 91 := by unfold baR; rw [if_neg (by omega), if_pos (by omega)]
       simp (disch := omega) only [q8, qn, qt, qY, qc, QU, qg, qk, qw, bne_self_eq_false, e3, e5, if_neg c3, if_neg (show ¬ n = 49 by omega)]
       congr 3; omega
      ·by_cases c5 : 40 ≤ n ∧ n < 48
       ·have e5 : baR n ba 8 = n - 39 := by unfold baR; rw [if_pos (by omega)]
        simp (disch := omega) only [q8, qn, qt, qY, qc, QU, qg, qk, qw, bne_self_eq_false, e3, e5, if_neg c3, if_neg (show ¬ n = 49 by omega)]
        congr 3; omega
       ·have e5 : baR n ba 8 = ba := by unfold baR; rw [if_neg (by omega), if_neg (by omega)]
        by_cases c6 : n = 49
        ·simp (disch := omega) only [q8, qn, qt, zL, qY, qc, QU, qg, qk, qw, bne_self_eq_false, e3, e5, if_neg c3, if_pos c6]
        ·rcases a3 with ⟨a30, a3⟩ | ⟨a3, a3'⟩
         ·rcases a4 with ⟨a40, a4⟩ | ⟨a4, a4'⟩
          ·rw [a3, a4]
           by_cases d1 : 60 ≤ n - 30 <;> by_cases d2 : 60 ≤ n - 40 <;> by_cases d3 : 0 ≤ n - 30 <;> by_cases d4 : 0 ≤ n - 40 <;> first | (exfalso; omega) | simp (disch := omega) only [q8, qn, qt, qY, qc, QU, qg, qk, qw, bne_self_eq_false, e3, e5, if_neg c3, if_neg c6]
          ·rw [a3, a4']
           simp (disch := omega) only [q8, qn, qt, qY, qc, qg, qk, qw, bne_self_eq_false, e3, e5, if_neg c3, if_neg c6]
         ·rcases a4 with ⟨a40, a4⟩ | ⟨a4, a4'⟩
          ·omega
          ·rw [a3', a4']
           simp (disch := omega) only [q8, qn, qt, qY, qc, qg, qk, qw, bne_self_eq_false, e3, e5, if_neg c3, if_neg c6]
  ·have hs : n < 30 := by
    refine Decidable.byContradiction fun q => hz ?_
    unfold Kh
    rw [if_neg (by omega), if_neg (by omega), if_neg (by omega), if_neg (by omega), if_neg (by omega), if_neg (by omega)]
   have e3 : foR n fo 8 = fo := by unfold foR; rw [if_neg (by omega), if_neg (by omega)]
   have e5 : baR n ba 8 = ba := by unfold baR; rw [if_neg (by omega), if_neg (by omega)]
   obtain ⟨t1, t2⟩ := ae3 ⟨f.toNat, by omega⟩
   have ef : ((⟨f.toNat, by omega⟩ : Fin 32).val : Int) = f := by show ((f.toNat : Nat) : Int) = f; omega
   rw [ef] at t1 t2
   have hne : (Kh n != 0) = true := by simpa using hz
   have hcase : n ∈ [1, 2, 4, 5, 7] ∨ n ∈ [22, 24, 25, 27] := by
    unfold Kh at hz
    simp only [q8, List.mem_cons, List.not_mem_nil, or_false]
    refine Decidable.byContradiction fun q => hz ?_
    rw [if_neg (by omega), if_neg (by omega), if_neg (by omega), if_neg (by omega), if_neg (by omega), if_neg (by omega)]
   rcases hcase with hm | hm
   ·have hlt : n < 20 := by
     simp only [q8, List.mem_cons, List.not_mem_nil, or_false] at hm
     omega
    have hw := t1 n hm
    unfold Zj
    simp (disch := omega) only [q8, qn, qY, qg, qk, qw, hne, hw, e3, e5, if_neg (show ¬ n = 39 by omega), if_neg (show ¬ n = 49 by omega)]
   ·have hlt : 20 ≤ n := by
     simp only [q8, List.mem_cons, List.not_mem_nil, or_false] at hm
     omega
    have hw := t2 n hm
    unfold Zj
    simp (disch := omega) only [q8, qn, qt, qY, qc, qg, qk, qw, hne, hw, e3, e5, if_neg (show ¬ n = 39 by omega), if_neg (show ¬ n = 49 by omega)]
theorem Xo {p : Int × (Int × Int)} (hp : PenOk p) {l : List Int} (hl : l.length ≤ 100000) (hn : ∀ n ∈ l, yA n) : Qc p l = some (if l.length = 0 then (0, (0, 0)) else wk p l) := by
 unfold Qc
 by_cases h0 : l.length = 0
 ·rw [if_pos h0]
  simp (disch := omega) only [q8, zL, qg]
 ·rw [if_neg h0]
  have main : JY ((l, ((l.length : Int), (0 : Int))), ((p.1, (p.2.1, p.2.2)), ((0 : Int), ((0 : Int), (0 : Int))))) = some (wk p l) := by
   refine jd (step := fun s => zK s.1 s.2.1 s.2.2.1 s.2.2.2.1 s.2.2.2.2) (st := fun i => ((l, ((l.length : Int), ((i : Nat) : Int))), (wk p (l.take i), ((0 : Int), ((0 : Int), (0 : Int)))))) (n := l.length) (fun i hi => ?_) ?_ 0 (by omega)
   ·show zK _ _ _ _ _ = _
    unfold zK
    obtain ⟨n, hx⟩ := qS hi
    have e : ((i : Int) + 1) = ((i + 1 : Nat) : Int) := by omega
    have h1 := abg (Qu hp (l.take i)) (hn n (List.mem_of_getElem? hx))
    rw [a7Z p hx]
    generalize wk p (l.take i) = q at *
    simp (disch := omega) only [q8, qn, qc, qg, qw, ze, hx, h1, e]
   ·show zK _ _ _ _ _ = _
    unfold zK
    have e : l.take l.length = l := List.take_length
    simp (disch := omega) only [q8, qn, qt, qc, qg, qk, ze, e]
  simp (disch := omega) only [q8, qY, qk, qw, main]
open Go.RowKit
def ZE (P : Program) (pt : TypeId → Bool) : List Field → Nat → Nat → Bool
 | [], off, n => decide (off = n)
 | f :: fs, off, n => decide (f.offset = off) && pt f.type && ZE P pt fs (off + P.cellsOf f.type) n
def jT (P : Program) : Nat → TypeId → Bool
 | 0, _ => false
 | d + 1, t => match P.underlying t with
  | some .bool => true
  | some (.int _) => true
  | some .string => true
  | some (.slice e) => jT P d e && decide (0 < P.cellsOf e)
  | some (.struct fs) => ZE P (jT P d) fs.toList 0 (P.cellsOf t)
  | some (.array n e) => jT P d e && decide (n * P.cellsOf e = P.cellsOf t)
  | _ => false
def RV (P : Program) (h : Heap) : Nat → TypeId → List Value → Prop
 | 0, _, _ => False
 | d + 1, t, cs => match P.underlying t with
  | some .bool => ∃ b, cs = [.bool b]
  | some (.int k) => ∃ x, cs = [.int k x] ∧ (Lit.int k x).wf = true
  | some .string => ∃ s : ByteArray, cs = [.string s] ∧ s.size ≤ maxLen
  | some (.slice e) => cs = [.slice none 0 0] ∨ cs = [.slice (some ⟨0, 0, none⟩) 0 dud] ∨ ∃ (b : Nat) (rows : List (List Value)), cs = [.slice (some ⟨b, 0, none⟩) rows.length qG] ∧ rows ≠ [] ∧ rows.length ≤ maxLen ∧
    h.get b = some (.cells rows.flatten e false) ∧ ∀ r ∈ rows, r.length = P.cellsOf e ∧ RV P h d e r
  | some (.struct fs) => cs.length = P.cellsOf t ∧ ∀ f ∈ fs.toList, RV P h d f.type ((cs.drop f.offset).take (P.cellsOf f.type))
  | some (.array n e) => cs.length = P.cellsOf t ∧ ∀ i, i < n → RV P h d e ((cs.drop (i * P.cellsOf e)).take (P.cellsOf e))
  | _ => False
theorem RV.ext {P : Program} {h h' : Heap} (hx : Ext h h') : ∀ {d : Nat} {t : TypeId} {cs : List Value}, RV P h d t cs → RV P h' d t cs
 | 0, _, _, q => q
 | d + 1, t, cs, q => by
  unfold RV at q ⊢
  split at q
  ·exact q
  ·exact q
  ·exact q
  ·rcases q with q | q | ⟨b, rows, h1, h0, h2, h3, h4⟩
   ·exact .inl q
   ·exact .inr (.inl q)
   ·exact .inr (.inr ⟨b, rows, h1, h0, h2, (hx.get b (h.wf _ _ h3)).trans h3, fun r hr => ⟨(h4 r hr).1, (h4 r hr).2.ext hx⟩⟩)
  ·exact ⟨q.1, fun f hf => (q.2 f hf).ext hx⟩
  ·exact ⟨q.1, fun i hi => (q.2 i hi).ext hx⟩
  ·exact q
def RO (h : Heap) : Prop := ∀ b o, h.get b = some o → o.rw = false
structure Lift (P : Program) (w : World) (β : Place) (h : Heap) (β' : Place) (h' : Heap) : Prop where
 rel : Rel P β' h' w
 ro : RO h'
 place : ∀ b x, β b = some x → β' b = some x
 ext : Ext h h'
theorem Lift.refl {P : Program} {w : World} {β : Place} {h : Heap} (hr : Rel P β h w) (ho : RO h) : Lift P w β h β h := ⟨hr, ho, fun _ _ e => e, Ext.refl h⟩
theorem Lift.trans {P : Program} {w : World} {β β1 β2 : Place} {h h1 h2 : Heap} (x : Lift P w β h β1 h1) (y : Lift P w β1 h1 β2 h2) : Lift P w β h β2 h2 :=
 ⟨y.rel, y.ro, fun b q e => y.place _ _ (x.place _ _ e), x.ext.trans y.ext⟩
theorem Lift.push {P : Program} {w : World} {β : Place} {h : Heap} (hr : Rel P β h w) (ho : RO h) {m off : Nat} {mc : Array Value} {te e : TypeId} {fr : Nat × Nat} {cs : List Value}
  (hm : w.heap[m]? = some (.cells mc te fr)) (hle : off + cs.length ≤ mc.size) (hv : VRels β cs ((mc.toList.drop off).take cs.length)) :
  Lift P w β h (β.add h.next m ⟨off, 0, 0⟩) (h.push (.cells cs e false)) := by
 have hn := hr.noNext
 have hmono := Place.add_mono m ⟨off, 0, 0⟩ hn
 have hmw : m < w.heap.size := (Array.getElem?_eq_some_iff.1 hm).1
 have old : ∀ b, b ≠ h.next → (h.push (.cells cs e false)).get b = h.get b := fun b hb => Heap.get_push_ne _ _ hb
 refine ⟨⟨fun b m1 s1 q => ?_, fun b m1 s1 o q g => ?_, fun b b' m1 s1 s2 o o' q q' g g' hrw => ?_⟩, fun b o g => ?_, hmono, (Ext.refl h).push _⟩
 ·by_cases hb : b = h.next
  ·subst hb; rw [Place.add_same] at q; cases q; exact ⟨by simp, hmw⟩
  ·rw [Place.add_ne _ _ _ hb] at q
   obtain ⟨h1, h2⟩ := hr.dom b m1 s1 q
   exact ⟨by simp; omega, h2⟩
 ·by_cases hb : b = h.next
  ·subst hb
   rw [Place.add_same] at q
   cases q
   rw [Heap.get_push_self] at g
   cases g
   exact ⟨mc, fr, te, hm, hle, hv.mono hmono, fun e => by cases e⟩
  ·rw [Place.add_ne _ _ _ hb] at q
   rw [old b hb] at g
   exact (hr.obj b m1 s1 o q g).mono hmono rfl
 ·exfalso
  by_cases hb : b = h.next
  ·subst hb; rw [Heap.get_push_self] at g; cases g; cases hrw
  ·rw [old b hb] at g; rw [ho b o g] at hrw; cases hrw
 ·by_cases hb : b = h.next
  ·subst hb; rw [Heap.get_push_self] at g; cases g; rfl
  ·rw [old b hb] at g; exact ho b o g
section
variable {H : Type} {enc : TypeId × Value → H} {P : Program} {w : World}
theorem v4 (d : Nat) (t : TypeId) (step : ∀ (n : Nat) (cs : List Value) (x : DataW H × List MemPlace), DataW.trod enc P w 0 (fun _ => true) true n t cs = some x → ∀ β h, Rel P β h w → RO h →
   ∃ β' h' acs, Lift P w β h β' h' ∧ VRels β' acs cs ∧ RV P h' d t acs) :
  ∀ (ls : List (List Value)), (∀ l ∈ ls, ∃ n x, DataW.trod enc P w 0 (fun _ => true) true n t l = some x) → ∀ β h, Rel P β h w → RO h →
   ∃ (β' : Place) (h' : Heap) (als : List (List Value)), Lift P w β h β' h' ∧ VRels β' als.flatten ls.flatten ∧ als.length = ls.length ∧ (∀ (i : Nat) (a : List Value), als[i]? = some a → ∃ l : List Value, ls[i]? = some l ∧ a.length = l.length ∧ RV P h' d t a)
 | [], _, β, h, hr, ho => ⟨β, h, [], Lift.refl hr ho, .nil, rfl, fun i a e => by simp at e⟩
 | l :: ls, hl, β, h, hr, ho => by
  obtain ⟨n, x, e⟩ := hl l (by simp)
  obtain ⟨β1, h1, acs, L1, v1, r1⟩ := step n l x e β h hr ho
  obtain ⟨β2, h2, als, L2, v2, hlen, r2⟩ := v4 d t step ls (fun l' h' => hl l' (by simp [h'])) β1 h1 L1.rel L1.ro
  refine ⟨β2, h2, acs :: als, L1.trans L2, ?_, by simp [hlen], fun i a e => ?_⟩
  ·simp only [List.flatten_cons]
   exact (v1.mono L2.place).append v2
  ·cases i with
   | zero => simp at e; subst e; exact ⟨l, rfl, v1.length, r1.ext L2.ext⟩
   | succ i => simpa using r2 i a (by simpa using e)
theorem Y9 : ∀ (ls : List (List Value)) (z : Nat), (∀ l ∈ ls, l.length = z) → ls.flatten.length = ls.length * z
 | [], z, _ => by simp
 | a :: ls, z, hz => by
  rw [List.flatten_cons, List.length_append, Y9 ls z (fun l h => hz l (by simp [h])), hz a (by simp), List.length_cons, Nat.add_mul]
  omega
theorem a26 : ∀ (ls : List (List Value)) (z i : Nat) (l : List Value), (∀ l ∈ ls, l.length = z) → ls[i]? = some l → (ls.flatten.drop (i * z)).take z = l
 | [], z, i, l, _, e => by simp at e
 | a :: ls, z, 0, l, hz, e => by
  simp at e; subst e
  have := hz a (by simp)
  simp [← this]
 | a :: ls, z, i + 1, l, hz, e => by
  have ha := hz a (by simp)
  have := a26 ls z i l (fun l h => hz l (by simp [h])) (by simpa using e)
  rw [List.flatten_cons, List.drop_append, show (i + 1) * z = a.length + i * z by rw [ha, Nat.add_mul]; omega]
  rw [List.drop_eq_nil_of_le (by omega)]
  simpa using this
theorem a8N (xs : List Value) (z : Nat) : ∀ (n : Nat), xs.length = n * z → ((List.range n).map fun i => (xs.drop (i * z)).take z).flatten = xs
 | 0, h => by
  have : xs.length = 0 := by simpa using h
  simp [List.length_eq_zero_iff.1 this]
 | n + 1, h => by
  have hn : (n + 1) * z = n * z + z := by rw [Nat.add_mul]; omega
  have ih := a8N (xs.take (n * z)) z n (by simp; omega)
  rw [List.range_succ, List.map_append, List.flatten_append]
  have e : (List.range n).map (fun i => (xs.drop (i * z)).take z) = (List.range n).map (fun i => ((xs.take (n * z)).drop (i * z)).take z) := by
   apply List.map_congr_left
   intro i hi
   have hi' : i < n := by simpa using hi
   have : (i + 1) * z ≤ n * z := Nat.mul_le_mul_right _ hi'
   rw [List.drop_take, List.take_take, Nat.min_eq_left (by rw [Nat.add_mul] at this; omega)]
  rw [e, ih]
  simp only [List.map_cons, List.map_nil, List.flatten_cons, List.flatten_nil, List.append_nil]
  rw [List.take_of_length_le (l := xs.drop (n * z)) (by simp; omega)]
  exact List.take_append_drop _ _
theorem a6B {a : Addr} {z n : Nat} {ls : List (List Value)} (hz : 0 < z) (hn : 0 < n) (hl : ls.length = n) (h : ∀ i, i < n → w.cells? 0 (a.add (i * z)) z = ls[i]?) :
  ∃ mc te fr, w.heap[a.block]? = some (.cells mc te fr) ∧ a.spot = none ∧ a.off + n * z ≤ mc.size ∧ ls.flatten = (mc.toList.drop a.off).take (n * z) ∧ ∀ l ∈ ls, l.length = z := by
 have each : ∀ i, i < n → ∃ l, ls[i]? = some l ∧ l.length = z ∧ ∀ j, j < z → w.cell? ((a.add (i * z)).add j) = l[j]? := by
  intro i hi
  have hs : ∃ l, ls[i]? = some l := ⟨_, List.getElem?_eq_getElem (by omega)⟩
  obtain ⟨l, e⟩ := hs
  have hc := h i hi
  rw [e] at hc
  unfold World.cells? at hc
  rw [if_pos (Nat.zero_le _)] at hc
  have h1 := mapM_some_length hc
  refine ⟨l, e, by simpa using h1, fun j hj => mapM_some_get hc j j (by simp [hj])⟩
 have addadd : ∀ i j, (a.add i).add j = a.add (i + j) := by
  intro i j
  unfold Addr.add
  by_cases h1 : i = 0
  ·subst h1; simp
  ·by_cases h2 : j = 0
   ·subst h2; simp
   ·simp [h1, h2]; omega
 obtain ⟨l0, e0, hl0, c0⟩ := each 0 hn
 have c00 := c0 0 hz
 rw [Nat.zero_mul, addadd] at c00
 simp only [Nat.add_zero, Addr.add, if_true] at c00
 have hv0 : ∃ v, w.cell? a = some v := ⟨l0[0]'(by omega), by rw [c00]; exact List.getElem?_eq_getElem _⟩
 obtain ⟨v0, hv0⟩ := hv0
 unfold World.cell? at hv0
 split at hv0
 ·rename_i mc te fr hm
  by_cases hsp : a.spot.isSome = true
  ·rw [if_pos hsp] at hv0; cases hv0
  ·have hspn : a.spot = none := by cases hq : a.spot with
    | none => rfl
    | some _ => rw [hq] at hsp; simp at hsp
   have cell : ∀ k, w.cell? (a.add k) = mc[a.off + k]? := by
    intro k
    unfold World.cell? Addr.add
    by_cases hk : k = 0
    ·subst hk; simp [hm, hspn]
    ·simp [hk, hm]
   have all : ∀ i, i < n → ∀ j, j < z → mc[a.off + (i * z + j)]? = (ls.flatten)[i * z + j]? := by
    intro i hi j hj
    obtain ⟨l, e, hl1, c1⟩ := each i hi
    have hlen : ∀ l ∈ ls, l.length = z := by
     intro l hm2
     obtain ⟨k, hk⟩ := List.getElem?_of_mem hm2
     have hkl : k < ls.length := (List.getElem?_eq_some_iff.1 hk).1
     obtain ⟨l2, e2, hl2, _⟩ := each k (by omega)
     rw [hk] at e2; cases e2; exact hl2
    have := a26 ls z i l hlen e
    have h2 : l[j]? = ls.flatten[i * z + j]? := by
     rw [← this, List.getElem?_take, if_pos hj, List.getElem?_drop]
    rw [← h2, ← c1 j hj, addadd, cell]
   have hlen : ∀ l ∈ ls, l.length = z := by
    intro l hm2
    obtain ⟨k, hk⟩ := List.getElem?_of_mem hm2
    have hkl : k < ls.length := (List.getElem?_eq_some_iff.1 hk).1
    obtain ⟨l2, e2, hl2, _⟩ := each k (by omega)
    rw [hk] at e2; cases e2; exact hl2
   have hfl := Y9 ls z hlen
   rw [hl] at hfl
   have pos : ∀ q, q < n * z → mc[a.off + q]? = ls.flatten[q]? := by
    intro q hq
    have h1 := all (q / z) ((Nat.div_lt_iff_lt_mul hz).2 hq) (q % z) (Nat.mod_lt _ hz)
    rw [Nat.mul_comm, Nat.div_add_mod] at h1
    exact h1
   have hsz : a.off + n * z ≤ mc.size := by
    have hq : n * z - 1 < n * z := by have := Nat.mul_le_mul_right z hn; omega
    have h1 := pos (n * z - 1) hq
    rw [List.getElem?_eq_getElem (by omega)] at h1
    have := (Array.getElem?_eq_some_iff.1 h1).1
    omega
   refine ⟨mc, te, fr, hm, hspn, hsz, ?_, hlen⟩
   apply List.ext_getElem?
   intro q
   by_cases hq : q < n * z
   ·rw [← pos q hq, List.getElem?_take, if_pos hq, List.getElem?_drop]
    simp
   ·rw [List.getElem?_eq_none (by omega), List.getElem?_eq_none (by simp; omega)]
 ·cases hv0
theorem vH (d : Nat) (ih : ∀ t, jT P d t = true → ∀ (n : Nat) (cs : List Value) (x : DataW H × List MemPlace), DataW.trod enc P w 0 (fun _ => true) true n t cs = some x → ∀ β h, Rel P β h w → RO h →
   ∃ (β' : Place) (h' : Heap) (acs : List Value), Lift P w β h β' h' ∧ VRels β' acs cs ∧ RV P h' d t acs) :
  ∀ (fs : List Field) (off N : Nat) (cs : List Value), ZE P (jT P d) fs off N = true → off + cs.length = N →
   (∀ f ∈ fs, off ≤ f.offset → ∃ n x, DataW.trod enc P w 0 (fun _ => true) true n f.type ((cs.drop (f.offset - off)).take (P.cellsOf f.type)) = some x) → ∀ β h, Rel P β h w → RO h →
   ∃ (β' : Place) (h' : Heap) (acs : List Value), Lift P w β h β' h' ∧ VRels β' acs cs ∧ ∀ f ∈ fs, off ≤ f.offset ∧ RV P h' d f.type ((acs.drop (f.offset - off)).take (P.cellsOf f.type))
 | [], off, N, cs, hp, hl, _, β, h, hr, ho => by
  simp only [ZE, decide_eq_true_eq] at hp
  have : cs.length = 0 := by omega
  have : cs = [] := List.length_eq_zero_iff.1 this
  subst this
  exact ⟨β, h, [], Lift.refl hr ho, .nil, by simp⟩
 | f :: fs, off, N, cs, hp, hl, ht, β, h, hr, ho => by
  simp only [ZE, Bool.and_eq_true, decide_eq_true_eq] at hp
  obtain ⟨⟨hoff, hpt⟩, hrest⟩ := hp
  have hle : ∀ (fs : List Field) (off N : Nat), ZE P (jT P d) fs off N = true → off ≤ N ∧ ∀ f ∈ fs, off ≤ f.offset := by
   intro fs
   induction fs with
   | nil => intro off N hp; simp [ZE] at hp; exact ⟨by omega, by simp⟩
   | cons g gs ihg =>
    intro off N hp
    simp only [ZE, Bool.and_eq_true, decide_eq_true_eq] at hp
    obtain ⟨h1, h2⟩ := ihg _ _ hp.2
    refine ⟨by omega, fun f hf => ?_⟩
    rcases List.mem_cons.1 hf with rfl | hf
    ·omega
    ·have := h2 f hf; omega
  obtain ⟨hN, hge⟩ := hle _ _ _ hrest
  obtain ⟨n, x, e⟩ := ht f (by simp) (by omega)
  rw [hoff, Nat.sub_self, List.drop_zero] at e
  obtain ⟨β1, h1, a1, L1, v1, r1⟩ := ih f.type hpt n _ x e β h hr ho
  obtain ⟨β2, h2, a2, L2, v2, r2⟩ := vH d ih fs (off + P.cellsOf f.type) N (cs.drop (P.cellsOf f.type)) hrest (by simp; omega) (fun g hg hgo => by
   obtain ⟨n, x, e⟩ := ht g (by simp [hg]) (by omega)
   refine ⟨n, x, ?_⟩
   rw [List.drop_drop]
   rw [← e]
   congr 3
   omega) β1 h1 L1.rel L1.ro
  have hlen1 : a1.length = P.cellsOf f.type := by rw [v1.length]; simp; omega
  refine ⟨β2, h2, a1 ++ a2, L1.trans L2, ?_, fun g hg => ?_⟩
  ·have := (v1.mono L2.place).append v2
   rwa [List.take_append_drop] at this
  ·rcases List.mem_cons.1 hg with rfl | hg
   ·refine ⟨by omega, ?_⟩
    rw [hoff, Nat.sub_self, List.drop_zero, List.take_left' hlen1]
    exact r1.ext L2.ext
   ·obtain ⟨q1, q2⟩ := r2 g hg
    refine ⟨by omega, ?_⟩
    rw [List.drop_append, List.drop_eq_nil_of_le (by omega), List.nil_append, hlen1]
    rwa [show g.offset - off - P.cellsOf f.type = g.offset - (off + P.cellsOf f.type) by omega]
theorem aj6 (d : Nat) : ∀ t, jT P d t = true → ∀ (n : Nat) (cs : List Value) (x : DataW H × List MemPlace), DataW.trod enc P w 0 (fun _ => true) true n t cs = some x → ∀ β h, Rel P β h w → RO h →
  ∃ (β' : Place) (h' : Heap) (acs : List Value), Lift P w β h β' h' ∧ VRels β' acs cs ∧ RV P h' d t acs := by
 induction d with
 | zero => intro t h; simp [jT] at h
 | succ d ih =>
  intro t hp n cs x ht β h hr ho
  unfold jT at hp
  cases hu : P.underlying t with
  | none => simp [hu] at hp
  | some D =>
   rw [hu] at hp
   cases D <;> simp only [Bool.false_eq_true] at hp
   case bool =>
    obtain ⟨b, rfl, _⟩ := DataW.trod_bool hu ht
    exact ⟨β, h, [.bool b], Lift.refl hr ho, .cons (.bool b) .nil, by unfold RV; rw [hu]; exact ⟨b, rfl⟩⟩
   case int k =>
    obtain ⟨m, rfl, _, hw⟩ := DataW.trod_int hu ht
    exact ⟨β, h, [.int k m], Lift.refl hr ho, .cons (.int k m) .nil, by unfold RV; rw [hu]; exact ⟨m, rfl, hw⟩⟩
   case string =>
    obtain ⟨s, rfl, _, hs⟩ := DataW.trod_string hu ht
    exact ⟨β, h, [.string s], Lift.refl hr ho, .cons (.string s) .nil, by unfold RV; rw [hu]; exact ⟨s, rfl, hs⟩⟩
   case struct fs =>
    obtain ⟨xs, m, rfl, _, hl, hxl, hx⟩ := DataW.trod_struct hu ht
    have hp' : ZE P (jT P d) fs.toList 0 (P.cellsOf t) = true := hp
    obtain ⟨β', h', acs, L, v, r⟩ := vH d ih fs.toList 0 (P.cellsOf t) cs hp' (by omega) (fun f hf _ => by
     obtain ⟨i, hi⟩ := List.getElem?_of_mem hf
     have hi' : fs[i]? = some f := by simpa using hi
     have := hx i f hi'
     have hlt : i < xs.length := by rw [hxl]; exact (Array.getElem?_eq_some_iff.1 hi').1
     rw [List.getElem?_eq_getElem hlt] at this
     exact ⟨m, _, by simpa using this⟩) β h hr ho
    refine ⟨β', h', acs, L, v, ?_⟩
    unfold RV
    rw [hu]
    refine ⟨by rw [v.length]; exact hl, fun f hf => ?_⟩
    have := (r f hf).2
    simpa using this
   case array n2 e =>
    simp only [Bool.and_eq_true, decide_eq_true_eq] at hp
    obtain ⟨hpe, hsz⟩ := hp
    obtain ⟨xs, m, rfl, _, hl, hxl, hx⟩ := DataW.trod_array hu ht
    have hflat := a8N cs (P.cellsOf e) n2 (by rw [hl, hsz])
    obtain ⟨β', h', als, L, v, hlen, r⟩ := v4 d e (fun n cs x ht β h hr ho => ih e hpe n cs x ht β h hr ho) ((List.range n2).map fun i => (cs.drop (i * P.cellsOf e)).take (P.cellsOf e)) (fun l hl2 => by
     obtain ⟨i, hi, rfl⟩ := List.mem_map.1 hl2
     have hi' : i < n2 := by simpa using hi
     have := hx i hi'
     rw [List.getElem?_eq_getElem (by omega)] at this
     exact ⟨m, _, this⟩) β h hr ho
    rw [hflat] at v
    refine ⟨β', h', als.flatten, L, v, ?_⟩
    have hz : ∀ a ∈ als, a.length = P.cellsOf e ∧ RV P h' d e a := by
     intro a ha
     obtain ⟨i, hi⟩ := List.getElem?_of_mem ha
     obtain ⟨l, h1, h2, h3⟩ := r i a hi
     refine ⟨?_, h3⟩
     rw [h2]
     have hm := List.mem_of_getElem? h1
     obtain ⟨k, hk, rfl⟩ := List.mem_map.1 hm
     have hk' : k < n2 := by simpa using hk
     have : (k + 1) * P.cellsOf e ≤ n2 * P.cellsOf e := Nat.mul_le_mul_right _ hk'
     rw [Nat.add_mul] at this
     simp
     omega
    unfold RV
    rw [hu]
    refine ⟨by rw [v.length]; exact hl, fun i hi => ?_⟩
    have hal : i < als.length := by rw [hlen]; simpa using hi
    rw [a26 als (P.cellsOf e) i als[i] (fun a ha => (hz a ha).1) (List.getElem?_eq_getElem hal)]
    exact (hz _ (List.getElem_mem hal)).2
   case slice e =>
    simp only [Bool.and_eq_true, decide_eq_true_eq] at hp
    obtain ⟨hpe, hpos⟩ := hp
    rcases DataW.trod_slice hu ht with ⟨rfl, _⟩ | ⟨a, len, cap, elems, rest, m, rfl, rfl, _, _, hlc, hcm, hel, hx, _, _⟩
    ·exact ⟨β, h, [.slice none 0 0], Lift.refl hr ho, .cons .nilslice .nil, by unfold RV; rw [hu]; exact .inl rfl⟩
    ·by_cases h0 : len = 0
     ·subst h0
      exact ⟨β, h, [.slice (some ⟨0, 0, none⟩) 0 dud], Lift.refl hr ho, .cons .dud .nil, by unfold RV; rw [hu]; exact .inr (.inl rfl)⟩
     ·have hex : ∀ i, i < len → ∃ l y, w.cells? 0 (a.add (i * P.cellsOf e)) (P.cellsOf e) = some l ∧ DataW.trod enc P w 0 (fun _ => true) true m e l = some y := by
       intro i hi
       have := hx i hi
       rw [List.getElem?_eq_getElem (by omega), Option.bind_eq_some_iff] at this
       obtain ⟨l, h1, h2⟩ := this
       exact ⟨l, _, h1, h2⟩
      let ls : List (List Value) := (List.range len).map fun i => (w.cells? 0 (a.add (i * P.cellsOf e)) (P.cellsOf e)).getD []
      have hls : ∀ i, i < len → w.cells? 0 (a.add (i * P.cellsOf e)) (P.cellsOf e) = ls[i]? := by
       intro i hi
       obtain ⟨l, _, h1, _⟩ := hex i hi
       simp [ls, hi, h1]
      have hlsl : ls.length = len := by simp [ls]
      obtain ⟨mc, te, fr, hm, hsp, hsz, hfl, hlz⟩ := a6B hpos (by omega) hlsl hls
      obtain ⟨β', h', als, L, v, hlen, r⟩ := v4 d e (fun n cs x ht β h hr ho => ih e hpe n cs x ht β h hr ho) ls (fun l hl2 => by
       obtain ⟨i, hi, rfl⟩ := List.mem_map.1 hl2
       obtain ⟨l, y, h1, h2⟩ := hex i (by simpa using hi)
       exact ⟨m, y, by rw [h1]; exact h2⟩) β h hr ho
      have hz : ∀ a ∈ als, a.length = P.cellsOf e ∧ RV P h' d e a := by
       intro a ha
       obtain ⟨i, hi⟩ := List.getElem?_of_mem ha
       obtain ⟨l, h1, h2, h3⟩ := r i a hi
       exact ⟨by rw [h2]; exact hlz l (List.mem_of_getElem? h1), h3⟩
      have hfl2 : als.flatten.length = len * P.cellsOf e := by rw [Y9 als _ (fun a ha => (hz a ha).1), hlen, hlsl]
      have L2 := Lift.push (off := a.off) (e := e) (cs := als.flatten) L.rel L.ro hm (by omega) (by rw [hfl2, ← hfl]; exact v)
      refine ⟨_, _, [.slice (some ⟨h'.next, 0, none⟩) als.length qG], L.trans L2, .cons ?_ .nil, ?_⟩
      ·have haddr : a = ⟨a.block, a.off + 0, none⟩ := by
        cases a; simp_all
       rw [haddr, hlen, hlsl]
       exact VRel.slice (s := ⟨a.off, 0, 0⟩) (Place.add_same _ _ _ _) (.inr (.inl rfl)) hlc hcm (.inl rfl)
      ·unfold RV
       rw [hu]
       refine .inr (.inr ⟨h'.next, als, rfl, ?_, by omega, Heap.get_push_self _ _, fun r hr => ⟨(hz r hr).1, (hz r hr).2.ext L2.ext⟩⟩)
       rintro rfl
       simp at hlen
       omega
end
def RVal (P : Program) (h : Heap) (d : Nat) (t : TypeId) (v : Value) : Prop :=
 match P.underlying t with
 | some (.struct _) => ∃ cs : List Value, v = .agg cs.toArray ∧ RV P h d t cs
 | some (.array _ _) => ∃ cs : List Value, v = .agg cs.toArray ∧ RV P h d t cs
 | _ => RV P h d t [v]
def RVals (P : Program) (h : Heap) (d : Nat) : List TypeId → List Value → Prop
 | [], [] => True
 | t :: ts, v :: vs => RVal P h d t v ∧ RVals P h d ts vs
 | _, _ => False
theorem RVal.ext {P : Program} {h h' : Heap} (hx : Ext h h') {d : Nat} {t : TypeId} {v : Value} (q : RVal P h d t v) : RVal P h' d t v := by
 unfold RVal at q ⊢
 split
 ·rename_i hu; rw [hu] at q; obtain ⟨cs, e, r⟩ := q; exact ⟨cs, e, r.ext hx⟩
 ·rename_i hu; rw [hu] at q; obtain ⟨cs, e, r⟩ := q; exact ⟨cs, e, r.ext hx⟩
 ·rename_i h1 h2
  split at q
  ·rename_i hu; exact absurd hu (h1 _)
  ·rename_i hu; exact absurd hu (h2 _ _)
  ·exact q.ext hx
theorem RVals.ext {P : Program} {h h' : Heap} (hx : Ext h h') {d : Nat} : ∀ {ts : List TypeId} {vs : List Value}, RVals P h d ts vs → RVals P h' d ts vs
 | [], [], q => q
 | t :: ts, v :: vs, q => ⟨q.1.ext hx, RVals.ext hx q.2⟩
 | [], _ :: _, q => q
 | _ :: _, [], q => q
theorem afo {P : Program} {h : Heap} {d : Nat} {t : TypeId} {acs : List Value} (r : RV P h d t acs) (ha : ∀ fs, P.underlying t ≠ some (.struct fs)) (hb : ∀ n e, P.underlying t ≠ some (.array n e)) : ∃ a, acs = [a] := by
 cases d with
 | zero => exact r.elim
 | succ d =>
  unfold RV at r
  split at r
  ·obtain ⟨b, rfl⟩ := r; exact ⟨_, rfl⟩
  ·obtain ⟨b, rfl, _⟩ := r; exact ⟨_, rfl⟩
  ·obtain ⟨b, rfl, _⟩ := r; exact ⟨_, rfl⟩
  ·rcases r with rfl | rfl | ⟨_, _, rfl, _⟩ <;> exact ⟨_, rfl⟩
  ·rename_i hu; exact absurd hu (ha _)
  ·rename_i hu; exact absurd hu (hb _ _)
  ·exact r.elim
theorem UA {H : Type} {enc : TypeId × Value → H} {P : Program} {w : World} (d : Nat) : ∀ (ts : List TypeId) (vs : List Value) (ds : List (DataW H)) (ps : List MemPlace), DataW.TrodAll enc P w 0 (fun _ => true) true ts vs ds ps →
  ts.all (jT P d) = true → (∀ (j : Nat) t v, ts[j]? = some t → vs[j]? = some v → ∃ base, Value.okWide P w .any base t v) → ∀ β h, Rel P β h w → RO h →
  ∃ (β' : Place) (h' : Heap) (ars : List Value), Lift P w β h β' h' ∧ VRels β' ars vs ∧ RVals P h' d ts ars
 | [], [], _, _, _, _, _, β, h, hr, ho => ⟨β, h, [], Lift.refl hr ho, .nil, trivial⟩
 | t :: ts, v :: vs, d1 :: ds, ps, ht, hp, hok, β, h, hr, ho => by
  obtain ⟨p, q, ⟨fuel, h1⟩, h2, rfl⟩ := ht
  simp only [List.all_cons, Bool.and_eq_true] at hp
  obtain ⟨β1, hp1, acs, L1, v1, r1⟩ := aj6 d t hp.1 fuel _ _ h1 β h hr ho
  obtain ⟨β2, hp2, ars, L2, v2, r2⟩ := UA d ts vs ds q h2 hp.2 (fun j t v e1 e2 => hok (j + 1) t v (by simpa using e1) (by simpa using e2)) β1 hp1 L1.rel L1.ro
  obtain ⟨base, hv⟩ := hok 0 t v rfl rfl
  have v1' := v1.mono L2.place
  have r1' := r1.ext L2.ext
  have aggs : (∃ cs, v = .agg cs) → ∃ a : List Value, acs = a ∧ VRel β2 (.agg a.toArray) v := by
   rintro ⟨cs, rfl⟩
   exact ⟨acs, rfl, VRel.agg_iff.2 ⟨cs, rfl, by simpa [Value.cells] using v1'⟩⟩
  cases hu : P.underlying t with
  | none =>
   exfalso
   have := hp.1
   cases d with
   | zero => simp [jT] at this
   | succ d => unfold jT at this; rw [hu] at this; simp at this
  | some D =>
   by_cases hagg : (∃ fs, D = .struct fs) ∨ ∃ n e, D = .array n e
   ·have hc : ∃ cs, v = .agg cs := by
     unfold Value.okWide at hv
     rw [hu] at hv
     rcases hagg with ⟨fs, rfl⟩ | ⟨n, e, rfl⟩
     ·obtain ⟨cs, e, _⟩ := hv; exact ⟨cs, e⟩
     ·obtain ⟨cs, e, _⟩ := hv; exact ⟨cs, e⟩
    obtain ⟨a, rfl, hrel⟩ := aggs hc
    refine ⟨β2, hp2, .agg acs.toArray :: ars, L1.trans L2, .cons hrel v2, ?_, r2⟩
    unfold RVal
    rw [hu]
    rcases hagg with ⟨fs, rfl⟩ | ⟨n, e, rfl⟩
    ·exact ⟨acs, rfl, r1'⟩
    ·exact ⟨acs, rfl, r1'⟩
   ·have n1 : ∀ fs, P.underlying t ≠ some (.struct fs) := fun fs e => hagg (.inl ⟨fs, Option.some.inj (hu.symm.trans e)⟩)
    have n2 : ∀ n e, P.underlying t ≠ some (.array n e) := fun n e e1 => hagg (.inr ⟨n, e, Option.some.inj (hu.symm.trans e1)⟩)
    obtain ⟨a, rfl⟩ := afo r1' n1 n2
    have hnot : ∀ cs, v ≠ .agg cs := by
     rintro cs rfl
     unfold Value.okWide at hv
     rw [hu] at hv
     cases D <;> first
      | exact hagg (.inl ⟨_, rfl⟩)
      | exact hagg (.inr ⟨_, _, rfl⟩)
      | (simp only [Cell.okWide, hu, Cell.ok] at hv; done)
      | (simp [Cell.okWide, hu, Cell.ok] at hv; done)
      | (have := hp.1; cases d <;> simp [jT, hu] at this; done)
    have hcell : v.cells.toList = [v] := by
     cases v <;> first | rfl | exact absurd rfl (hnot _)
    rw [hcell] at v1'
    refine ⟨β2, hp2, a :: ars, L1.trans L2, ?_, ?_, r2⟩
    ·cases v1' with
     | cons x _ => exact .cons x v2
    ·unfold RVal
     split
     ·rename_i hu2; exact absurd hu2 (n1 _)
     ·rename_i hu2; exact absurd hu2 (n2 _ _)
     ·exact r1'
 | [], _ :: _, _, _, ht, _, _, _, _, _, _ => by simp [DataW.TrodAll] at ht
 | _ :: _, [], _, _, ht, _, _, _, _, _, _ => by simp [DataW.TrodAll] at ht
 | _ :: _, _ :: _, [], _, ht, _, _, _, _, _, _ => by simp [DataW.TrodAll] at ht
open Go.RowKit
section
variable {P : Program} {h : Heap} {d : Nat} {t : TypeId} {cs : List Value}
end
open Go.RowKit Go.ChangeShapes
def h00 : Heap := ⟨0, fun _ => none, fun b o e => by cases e⟩
def β00 : Place := fun _ => none
theorem aiJ (P : Program) (w : World) : Rel P β00 h00 w := ⟨fun b m s e => (by cases e), fun b m s o e => (by cases e), fun b b' m s s' o o' e => (by cases e)⟩
theorem aj8 : RO h00 := fun b o e => by cases e
theorem Ue {W W' : World} (hb : Below W.heap.size W W') (may : MemPlace → Prop) : W.keptBut W' may := by
 refine ⟨hb.os, hb.output, fun i hi => ?_⟩
 rw [hb.block i hi]
 cases W.heap[i]? with
 | none => trivial
 | some o => cases o with
  | cells c t fr => exact ⟨rfl, rfl, rfl, fun _ _ => rfl⟩
  | map es ck => exact .inr ⟨rfl, rfl⟩
  | _ => rfl
theorem JZ {H : Type} {enc : TypeId × Value → H} {P : Program} (hl : laidOutB P = true) {W W' : World} (hb : Below W.heap.size W W') : ∀ {ts : List TypeId} {vs : List Value} {ds : List (DataW H)} {ps : List MemPlace},
  ts.all (fun t => P.readableRec t && decide (t < P.types.size)) = true → DataW.TrodAll enc P W 0 (fun _ => true) true ts vs ds ps → (∀ x ∈ ps, x.block < W.heap.size) →
  DataW.TrodAll enc P W' 0 (fun b => decide (b < W.heap.size)) true ts vs ds ps
 | [], [], [], _, _, h, _ => h
 | t :: ts, v :: vs, d :: ds, ps, hr, h, hlt => by
  obtain ⟨p, q, h1, h2, rfl⟩ := h
  simp only [List.all_cons, Bool.and_eq_true, decide_eq_true_eq] at hr
  exact ⟨p, q, Below.trod hl hr.1.1 hr.1.2 h1 hb (fun x hx => hlt x (by simp [hx])), JZ hl hb hr.2 h2 (fun x hx => hlt x (by simp [hx])), rfl⟩
 | [], [], _ :: _, _, _, h, _ => by simp [DataW.TrodAll] at h
 | [], _ :: _, _, _, _, h, _ => by simp [DataW.TrodAll] at h
 | _ :: _, [], _, _, _, h, _ => by simp [DataW.TrodAll] at h
 | _ :: _, _ :: _, [], _, _, h, _ => by simp [DataW.TrodAll] at h
theorem Vb {H : Type} {enc : TypeId × Value → H} {P : Program} {w : World} {base : Nat} {sp : Nat → Bool} {held : Bool} : ∀ {ts : List TypeId} {vs : List Value} {ds : List (DataW H)} {ps : List MemPlace}, DataW.TrodAll enc P w base sp held ts vs ds ps → ds.length = ts.length
 | [], [], [], _, _ => rfl
 | t :: ts, v :: vs, d :: ds, ps, h => by
  obtain ⟨p, q, _, h2, _⟩ := h
  simp [Vb h2]
 | [], [], _ :: _, _, h => by simp [DataW.TrodAll] at h
 | [], _ :: _, _, _, h => by simp [DataW.TrodAll] at h
 | _ :: _, [], _, _, h => by simp [DataW.TrodAll] at h
 | _ :: _, _ :: _, [], _, h => by simp [DataW.TrodAll] at h
theorem aaP {H : Type} {enc : TypeId × Value → H} {P : Program} {f : FuncId} {fn : Func} {s : ChangeSpec} {tb : TypeId} {n d : Nat} (hres : fn.resultTypes = #[tb]) (hb : P.underlying tb = some .bool) (hvars : s.vars = [])
  (hn : fn.params.toList.length = n) (hs : ∀ ds : List (DataW H), ds.length = n → s.fn H ds = { results := [.lit (.bool true)], args := ds })
  (hl : laidOutB P = true) (hr : fn.params.toList.all (fun t => P.readableRec t && decide (t < P.types.size)) = true) (hp : fn.params.toList.all (jT P d) = true)
  (walk : ∀ h ars, RO h → RVals P h d fn.params.toList ars → ACalls P f ars h (fun v _ => v = .bool true))
  (W : World) (base : Nat) (args : Array Value) (ds gs : List (DataW H)) (before : List MemPlace) (hval : ∀ (j : Nat) t v, fn.params[j]? = some t → args[j]? = some v → Value.okWide P W .any base t v)
  (hW : DataW.Whole enc P fn.params.toList s.vars false W args.toList ds gs before) :
  Calls P f args W fun e W' => ∃ v, e = .returned v ∧ s.post enc P fn false true false false W args v W' := by
 have hW' := hW
 obtain ⟨p, q, hA, hV, hpq, hfz, hnd⟩ := hW
 rw [hvars] at hV
 obtain ⟨rfl, rfl⟩ := trodVars_none hV
 have hlen := Vb hA
 obtain ⟨β, h, ars, L, hv, hrv⟩ := UA d _ _ _ _ hA hp (fun j t v e1 e2 => ⟨base, hval j t v (by simpa using e1) (by simpa using e2)⟩) β00 h00 (aiJ P W) aj8
 have hc := (walk h ars L.ro hrv).2 β W args.toList hv L.rel
 rw [Array.toArray_toList] at hc
 refine hc.mono fun e W' => ?_
 rintro ⟨mv, rfl, v, h', β', hvr, hr', st, rfl⟩
 cases hvr
 have hbel : Below W.heap.size W W' := ⟨st.os, st.tape, st.output, st.size, fun m hm => st.frame m hm (by
  rintro ⟨b, s1, o, _, hg, hrw⟩
  rw [L.ro b o hg] at hrw
  cases hrw)⟩
 have hsp : s.fn H (ds ++ []) = { results := [.lit (.bool true)], args := ds } := by rw [List.append_nil]; exact hs ds (by rw [hlen, hn])
 have hlt : ∀ x ∈ before, x.block < W.heap.size := fun x hx => hW'.lt x hx
 refine ⟨_, rfl, ds, [], before, [], before, [], hW', ?_, ?_, ?_, Ue hbel _, fun e => by cases e⟩
 ·rw [hsp, hres]
  exact trodAll_mk1 ⟨1, by unfold DataW.trod; rw [hb]; rfl⟩
 ·rw [hsp]
  have : p = before := by rw [hpq, List.append_nil]
  subst this
  exact JZ hl hbel hr hA hlt
 ·rw [hsp, hvars]; rfl
open Go.RowKit
def CT.ok : (c : CT) → c.T → Prop
 | .int k, n => k.min ≤ (show Int from n) ∧ (show Int from n) ≤ k.max
 | .bool, _ => True
 | .str, s => s.size ≤ maxLen
 | .sl r, xs => (show List r.T from xs).length ≤ maxLen ∧ ∀ x ∈ (show List r.T from xs), CT.ok r x
 | .pair a b, x => CT.ok a x.1 ∧ CT.ok b x.2
def a61 (f : TypeId → CT → Bool) (P : Program) : List Field → CT → Nat → Nat → Bool
 | [], _, _, _ => false
 | fd :: r, c, off, tot => match r with
  | [] => fd.offset == off && f fd.type c && P.cellsOf fd.type == c.size && off + c.size == tot
  | _ :: _ => match c with
   | .pair a b => fd.offset == off && f fd.type a && P.cellsOf fd.type == a.size && a61 f P r b (off + a.size) tot
   | _ => false
def a8h (f : CT → Bool) (z : Nat) : Nat → CT → Bool
 | 0, _ => false
 | n + 1, c => match n with
  | 0 => f c && c.size == z
  | m + 1 => match c with
   | .pair a b => f a && a.size == z && a8h f z (m + 1) b
   | _ => false
def fitT (P : Program) : Nat → TypeId → CT → Bool
 | 0, _, _ => false
 | n + 1, t, c => match P.underlying t with
  | some .bool => c.eqb .bool
  | some (.int k) => c.eqb (.int k)
  | some .string => c.eqb .str
  | some (.slice e) => match c with
   | .sl r => fitT P n e r && P.cellsOf e == r.size
   | _ => false
  | some (.struct fs) => a61 (fitT P n) P fs.toList c 0 (P.cellsOf t)
  | some (.array len e) => a8h (fitT P n e) (P.cellsOf e) len c && c.size == P.cellsOf t
  | _ => false
section
variable {P : Program} {h : Heap}
def acz (h : Heap) (b : Nat) : Prop := b < h.next
abbrev PRs (P : Program) (h : Heap) := All2 (fun (p : PV) (v : Value) => PR P (acz h) h p v)
theorem a05 {z : Nat} : ∀ {rows : List (List Value)}, (∀ r ∈ rows, r.length = z) → ∀ (i : Nat) (row : List Value) (j : Nat), rows[i]? = some row → j < z → rows.flatten[i * z + j]? = row[j]?
 | [], _, i, row, j, h, _ => by simp at h
 | r :: rows, hz, i, row, j, h, hj => by
  have hr := hz r List.mem_cons_self
  cases i with
  | zero =>
   simp at h; subst h
   rw [List.flatten_cons, Nat.zero_mul, Nat.zero_add, List.getElem?_append_left (by omega)]
  | succ i =>
   rw [List.flatten_cons, List.getElem?_append_right (by rw [hr, Nat.succ_mul]; omega), hr, show (i + 1) * z + j - z = i * z + j by rw [Nat.succ_mul]; omega]
   exact a05 (fun r hr => hz r (List.mem_cons_of_mem _ hr)) i row j (by simpa using h) hj
theorem vA {c : CT} : ∀ {rows : List (List Value)}, (∀ r ∈ rows, ∃ x : c.T, CT.ok c x ∧ PRs P h (qM c x) r) → ∃ xs : List c.T, (∀ x ∈ xs, CT.ok c x) ∧ All2 (fun x r => PRs P h (qM c x) r) xs rows
 | [], _ => ⟨[], fun x hx => by simp at hx, .nil⟩
 | r :: rows, hr => by
  obtain ⟨x, h1, h2⟩ := hr r List.mem_cons_self
  obtain ⟨xs, h3, h4⟩ := vA fun r h => hr r (List.mem_cons_of_mem _ h)
  exact ⟨x :: xs, fun y hy => by rcases List.mem_cons.1 hy with rfl | hy; exact h1; exact h3 y hy, .cons h2 h4⟩
theorem Xa {f : TypeId → CT → Bool} {R : TypeId → List Value → Prop} (hf : ∀ t c cs, R t cs → f t c = true → cs.length = c.size ∧ ∃ x : c.T, CT.ok c x ∧ PRs P h (qM c x) cs) {cs : List Value} {tot : Nat} (hl : cs.length = tot) :
  ∀ (fs : List Field) (c : CT) (off : Nat), a61 f P fs c off tot = true → (∀ fd ∈ fs, R fd.type ((cs.drop fd.offset).take (P.cellsOf fd.type))) → (cs.drop off).length = c.size ∧ ∃ x : c.T, CT.ok c x ∧ PRs P h (qM c x) (cs.drop off)
 | [], c, off, e, _ => by cases e
 | [fd], c, off, e, hr => by
  simp only [a61, Bool.and_eq_true, beq_iff_eq] at e
  obtain ⟨⟨⟨e1, e2⟩, e3⟩, e4⟩ := e
  obtain ⟨h1, x, h2, h3⟩ := hf _ c _ (hr fd List.mem_cons_self) e2
  rw [e1, e3, List.take_of_length_le (by simp; omega)] at h1 h3
  exact ⟨h1, x, h2, h3⟩
 | fd :: g :: r, c, off, e, hr => by
  cases c with
  | pair a b =>
   simp only [a61, Bool.and_eq_true, beq_iff_eq] at e
   obtain ⟨⟨⟨e1, e2⟩, e3⟩, e4⟩ := e
   obtain ⟨h1, x, h2, h3⟩ := hf _ a _ (hr fd List.mem_cons_self) e2
   obtain ⟨g1, y, g2, g3⟩ := Xa hf hl (g :: r) b (off + a.size) (by simpa [a61] using e4) fun fd h => hr fd (List.mem_cons_of_mem _ h)
   rw [e1, e3] at h1 h3
   have hcut : cs.drop off = (cs.drop off).take a.size ++ cs.drop (off + a.size) := by
    rw [← List.drop_drop]; exact (List.take_append_drop _ _).symm
   refine ⟨?_, (x, y), ⟨h2, g2⟩, ?_⟩
   ·rw [hcut, List.length_append, h1, g1]; rfl
   ·rw [hcut]; exact h3.append g3
  | _ => simp [a61] at e
theorem ue {f : CT → Bool} {z : Nat} {R : List Value → Prop} (hf : ∀ c cs, R cs → f c = true → cs.length = c.size ∧ ∃ x : c.T, CT.ok c x ∧ PRs P h (qM c x) cs) {cs : List Value} :
  ∀ (n : Nat) (c : CT) (k : Nat), a8h f z n c = true → (∀ i, i < n → R ((cs.drop ((k + i) * z)).take z)) → cs.length = k * z + c.size → (cs.drop (k * z)).length = c.size ∧ ∃ x : c.T, CT.ok c x ∧ PRs P h (qM c x) (cs.drop (k * z))
 | 0, c, k, e, _, _ => by cases e
 | 1, c, k, e, hr, hl => by
  simp only [a8h, Bool.and_eq_true, beq_iff_eq] at e
  have h0 := hr 0 (by omega)
  rw [Nat.add_zero, List.take_of_length_le (by simp; omega)] at h0
  obtain ⟨h1, x, h2, h3⟩ := hf c _ h0 e.1
  exact ⟨h1, x, h2, h3⟩
 | n + 2, c, k, e, hr, hl => by
  cases c with
  | pair a b =>
   simp only [a8h, Bool.and_eq_true, beq_iff_eq] at e
   obtain ⟨⟨e1, e2⟩, e3⟩ := e
   have h0 := hr 0 (by omega)
   rw [Nat.add_zero] at h0
   obtain ⟨h1, x, h2, h3⟩ := hf a _ h0 e1
   have hl' : cs.length = (k + 1) * z + b.size := by rw [hl, Nat.succ_mul]; simp only [CT.size]; omega
   obtain ⟨g1, y, g2, g3⟩ := ue hf (n + 1) b (k + 1) (by simpa [a8h] using e3) (fun i hi => by have := hr (i + 1) (by omega); rwa [show k + (i + 1) = k + 1 + i by omega] at this) hl'
   have hcut : cs.drop (k * z) = (cs.drop (k * z)).take z ++ cs.drop ((k + 1) * z) := by
    rw [show (k + 1) * z = k * z + z by rw [Nat.succ_mul], ← List.drop_drop]; exact (List.take_append_drop _ _).symm
   refine ⟨?_, (x, y), ⟨h2, g2⟩, ?_⟩
   ·rw [hcut, List.length_append, h1, g1]; rfl
   ·rw [hcut]; exact h3.append g3
  | _ => simp [a8h] at e
theorem a4o : ∀ (n d : Nat) (t : TypeId) (c : CT) (cs : List Value), RV P h d t cs → fitT P n t c = true → cs.length = c.size ∧ ∃ x : c.T, CT.ok c x ∧ PRs P h (qM c x) cs
 | 0, d, t, c, cs, _, e => by cases e
 | n + 1, 0, t, c, cs, hr, _ => hr.elim
 | n + 1, d + 1, t, c, cs, hr, e => by
  unfold fitT at e
  unfold RV at hr
  split at e
  ·rename_i hu
   rw [hu] at hr
   have := CT.of_eqb e
   subst this
   obtain ⟨b, rfl⟩ := hr
   exact ⟨rfl, b, trivial, .cons (.v rfl) .nil⟩
  ·rename_i k hu
   rw [hu] at hr
   have := CT.of_eqb e
   subst this
   obtain ⟨x, rfl, hx⟩ := hr
   simp only [Lit.wf, Bool.and_eq_true, decide_eq_true_eq] at hx
   exact ⟨rfl, x, hx, .cons (.v rfl) .nil⟩
  ·rename_i hu
   rw [hu] at hr
   have := CT.of_eqb e
   subst this
   obtain ⟨s, rfl, hs⟩ := hr
   exact ⟨rfl, s, hs, .cons (.v rfl) .nil⟩
  ·rename_i te hu
   rw [hu] at hr
   split at e
   ·rename_i r
    simp only [Bool.and_eq_true, beq_iff_eq] at e
    rcases hr with rfl | rfl | ⟨b, rows, rfl, hne, hm, hg, hrows⟩
    ·exact ⟨rfl, [], ⟨Nat.zero_le _, fun x hx => by simp at hx⟩, .cons .nil .nil⟩
    ·exact ⟨rfl, [], ⟨Nat.zero_le _, fun x hx => by simp at hx⟩, .cons .dud .nil⟩
    ·obtain ⟨xs, h1, h2⟩ := vA (P := P) (h := h) (c := r) (rows := rows) fun row hrow => (a4o n d te r row (hrows row hrow).2 e.1).2
     have hl : xs.length = rows.length := h2.length
     have hz : ∀ row ∈ rows, row.length = r.size := fun row hrow => by rw [(hrows row hrow).1, e.2]
     refine ⟨rfl, xs, ⟨by rw [hl]; exact hm, h1⟩, .cons ?_ .nil⟩
     have hml : (xs.map (qM r)).length = rows.length := by simp [hl]
     rw [← hml]
     refine PR.sl (h.wf _ _ hg) hg (CT.size_pos r) ?_ ?_ ?_ (.inl rfl) (by rw [hml]; exact hm)
     ·rw [hml, Y9 rows r.size hz]; omega
     ·intro i row hrow
      rw [List.getElem?_map] at hrow
      cases hx : xs[i]? with
      | none => rw [hx] at hrow; cases hrow
      | some x => rw [hx] at hrow; cases hrow; exact k9 r x
     ·intro i row j p u hrow hp hu'
      rw [List.getElem?_map] at hrow
      cases hx : xs[i]? with
      | none => rw [hx] at hrow; cases hrow
      | some x =>
       rw [hx] at hrow; cases hrow
       obtain ⟨vrow, hv, hpr⟩ := h2.get hx
       have hj : j < r.size := by rw [← k9 r x]; exact (List.getElem?_eq_some_iff.1 hp).1
       rw [Nat.zero_add, a05 hz i vrow j hv hj] at hu'
       obtain ⟨u', hu2, hpr2⟩ := hpr.get hp
       rw [hu'] at hu2; cases hu2
       exact hpr2
   ·cases e
  ·rename_i fs hu
   rw [hu] at hr
   obtain ⟨h1, h2⟩ := hr
   have := Xa (P := P) (h := h) (f := fitT P n) (R := fun t cs => RV P h d t cs) (fun t c cs hr he => a4o n d t c cs hr he) h1 fs.toList c 0 e (fun fd hfd => h2 fd hfd)
   rwa [List.drop_zero] at this
  ·rename_i len te hu
   rw [hu] at hr
   obtain ⟨h1, h2⟩ := hr
   simp only [Bool.and_eq_true, beq_iff_eq] at e
   have := ue (P := P) (h := h) (f := fitT P n te) (z := P.cellsOf te) (R := fun cs => RV P h d te cs) (fun c cs hr he => a4o n d te c cs hr he) len c 0 e.1 (fun i hi => by rw [Nat.zero_add]; exact h2 i hi) (by rw [h1, e.2]; omega)
   rwa [Nat.zero_mul, List.drop_zero] at this
  ·cases e
def CTs : List CT → Type
 | [] => Unit
 | c :: r => c.T × CTs r
def CT.oks : (cs : List CT) → CTs cs → Prop
 | [], _ => True
 | c :: r, x => CT.ok c x.1 ∧ CT.oks r x.2
def QG (P : Program) (t : TypeId) : Bool := match P.underlying t with
 | some (.struct _) => true
 | some (.array _ _) => true
 | _ => false
def aaJ (P : Program) (t : TypeId) (c : CT) (x : c.T) : TV := if QG P t then .agg (tvC c x) else (tvC c x).headD a7a
def a43 (P : Program) : List TypeId → (cs : List CT) → CTs cs → List TV
 | t :: ts, c :: cs, x => aaJ P t c x.1 :: a43 P ts cs x.2
 | _, _, _ => []
def a01 (P : Program) (n : Nat) : List TypeId → List CT → Bool
 | [], [] => true
 | t :: ts, c :: cs => fitT P n t c && (QG P t || c.size == 1) && a01 P n ts cs
 | _, _ => false
theorem a1l : ∀ (c : CT) (x : c.T), (tvC c x).all isC = true
 | .int _, _ => rfl
 | .bool, _ => rfl
 | .str, _ => rfl
 | .sl _, _ => rfl
 | .pair a b, x => by simp only [tvC, List.all_append, a1l a, a1l b, Bool.and_self]
theorem agO {S : Nat → Prop} {γ : Pl} {M : List Obj} : ∀ {c : CT} {x : c.T} {vs : List Value}, All2 (fun p v => PR P S h p v) (qM c x) vs → All2 (DC P S γ M h) ((tvC c x).map qr) vs := by
 intro c x vs ha
 rw [Qh]
 generalize qM c x = ps at ha
 induction ha with
 | nil => exact .nil
 | cons a _ ih => exact .cons a ih
theorem a3K {S : Nat → Prop} (hS : ∀ b, acz h b → S b) {γ : Pl} {M : List Obj} (n d : Nat) : ∀ (ts : List TypeId) (cs : List CT) (vs : List Value), RVals P h d ts vs → a01 P n ts cs = true → ∃ xs : CTs cs, CT.oks cs xs ∧ All2 (DR P S γ M h) ((a43 P ts cs xs).map enc) vs
 | [], [], [], _, _ => ⟨(), trivial, .nil⟩
 | t :: ts, c :: cs, v :: vs, hr, hf => by
  simp only [a01, Bool.and_eq_true] at hf
  obtain ⟨⟨f1, f2⟩, f3⟩ := hf
  obtain ⟨xs, h1, h2⟩ := a3K hS n d ts cs vs hr.2 f3
  have mono : ∀ {x : c.T} {us : List Value}, PRs P h (qM c x) us → All2 (fun p v => PR P S h p v) (qM c x) us := fun q => q.mono fun _ _ hp => hp.mono fun b hb => ⟨hS b hb, rfl⟩
  have hv := hr.1
  unfold RVal at hv
  have agg : QG P t = true → (∃ us : List Value, v = .agg us.toArray ∧ RV P h d t us) → ∃ xs : CTs (c :: cs), CT.oks (c :: cs) xs ∧ All2 (DR P S γ M h) ((a43 P (t :: ts) (c :: cs) xs).map enc) (v :: vs) := by
   rintro ha ⟨us, rfl, hu⟩
   obtain ⟨_, x, q1, q2⟩ := a4o n d t c us hu f1
   refine ⟨(x, xs), ⟨q1, h1⟩, .cons ?_ h2⟩
   show DR P S γ M h (enc (aaJ P t c x)) _
   unfold aaJ
   rw [if_pos ha]
   exact ⟨us.toArray, rfl, by simpa using agO (mono q2)⟩
  split at hv
  ·rename_i fs hu; exact agg (by unfold QG; rw [hu]) hv
  ·rename_i m te hu; exact agg (by unfold QG; rw [hu]) hv
  ·rename_i n1 n2
   have hna : QG P t = false := by
    unfold QG
    split
    ·rename_i hu; exact absurd hu (n1 _)
    ·rename_i hu; exact absurd hu (n2 _ _)
    ·rfl
   obtain ⟨_, x, q1, q2⟩ := a4o n d t c [v] hv f1
   refine ⟨(x, xs), ⟨q1, h1⟩, .cons ?_ h2⟩
   show DR P S γ M h (enc (aaJ P t c x)) _
   unfold aaJ
   rw [if_neg (by rw [hna]; decide)]
   have hdc := agO (γ := γ) (M := M) (mono q2)
   have hC := a1l c x
   generalize tvC c x = l at hdc hC
   cases l with
   | nil => cases hdc
   | cons y l =>
    cases hdc with
    | cons a t =>
     simp only [List.all_cons, Bool.and_eq_true] at hC
     exact (a1f hC.1).2 a
 | [], _ :: _, _, _, hf => by simp [a01] at hf
 | _ :: _, [], _, _, hf => by simp [a01] at hf
 | [], [], _ :: _, hr, _ => hr.elim
 | _ :: _, _ :: _, [], hr, _ => hr.elim
theorem adc {f : FuncId} {av : VS} {m : ShT av [] → Option (RT [(.bool, [])])} (he : qK P ⟨f, av, [], [(.bool, [])], m⟩) (n d : Nat) (ts : List TypeId) (cs : List CT) (hf : a01 P n ts cs = true) (conv : CTs cs → ShT av []) (hc : ∀ xs, (conv xs).vals = a43 P ts cs xs)
  (hm : ∀ xs, CT.oks cs xs → m (conv xs) = some (true : Bool)) (h : Heap) (ars : List Value) (hr : RVals P h d ts ars) : ACalls P f ars h (fun v _ => v = .bool true) := by
 let W0 : Ent := { start := h.next, W := fun _ => False, A := fun _ => True, pin := fun _ _ => False, cnt := 0, few := fun _ _ e => e.elim, sub := fun _ e => e.elim }
 have hS : ∀ b, acz h b → qd W0 ut [] h b := fun b hb => ⟨hb, .inr trivial, fun id o x e => by simp at e⟩
 obtain ⟨xs, h1, h2⟩ := a3K (P := P) (γ := ut) (M := []) hS n d ts cs ars hr hf
 have hd := he (conv xs) true (hm xs h1)
 simp only at hd
 rw [hc] at hd
 have hobj : (conv xs).objs = [] := List.length_eq_zero_iff.1 (yU _ _ _ _)
 rw [hobj] at hd
 refine (hd W0 ut h ars (Nat.le_refl _) (a9g W0 h rfl fun _ _ e => e) h2).mono ?_
 rintro v h' ⟨γ', r, A', hq, H', hdr⟩
 obtain ⟨w, hw, rfl, _⟩ := (show RQ1 (.bool, []) (true : Bool) r A' from hq)
 have hw' : [TV.v (.bool true)] = [w] := hw
 cases hw'
 exact PR.scal (P := P) (S := qd W0 γ' A' h') (h := h') hdr
end
open Go.RowKit
def agH : Option Value → Option Value → Bool
 | some a, some b => kp a b
 | _, _ => false
theorem Xx {x y : Option Value} (h : agH x y = true) : y.isSome = true ∧ x = y := by
 unfold agH at h
 split at h
 ·rw [kx _ _ h]; exact ⟨rfl, rfl⟩
 ·cases h
def ah3 (P : Program) (c : C) (a : Frm) (h : Heap) : Bool :=
 match c.g with
 | none => agH (qR P c.op a.ev h) (wA a c.d)
 | some (t, want) => match zo t want a with
  | some false => true
  | _ => agH (qR P c.op a.ev h) (wA a c.d)
theorem a6H {P : Program} {c : C} {a : Frm} {h : Heap} (q : ah3 P c a h = true) : YP P c a h := by
 unfold ah3 at q
 unfold YP
 split at q
 ·rename_i hg; rw [hg]; exact Xx q
 ·rename_i t want hg
  rw [hg]
  simp only
  split at q
  ·rename_i hv; exact .inl hv
  ·exact .inr (Xx q)
def a9h (P : Program) (a : Frm) (h : Heap) : List C → Bool
 | [] => true
 | c :: r => ah3 P c a h && a9h P a h r
theorem vT {P : Program} {a : Frm} {h : Heap} : ∀ {l : List C}, a9h P a h l = true → jF P a h l
 | [], _ => trivial
 | _ :: _, q => by
  simp only [a9h, Bool.and_eq_true] at q
  exact ⟨a6H q.1, vT q.2⟩
def ai8 (P : Program) (call : W2) : List (C × List C) → FX → FX
 | [], K, a, p => K a p
 | (c, ks) :: r, K, a, p => a2Q P call [c] (fun a p => a9h P a p.heap ks && ai8 P call r K a p) a p
theorem Xt {P : Program} {call : W2} (hc : xc P call) : ∀ (l : List (C × List C)) {K : FX} {K' : Frm → Heap → Prop} {a : Frm} {p : PH}, (∀ a p, K a p = true → K' a p.heap) → ai8 P call l K a p = true → dWp P l K' a p.heap
 | [], K, K', a, p, hk, h => hk a p h
 | (c, ks) :: r, K, K', a, p, hk, h => Zv hc [c] (fun a p q => by
   rw [Bool.and_eq_true] at q
   exact ⟨vT q.1, Xt hc r hk q.2⟩) h
inductive Jb where
 | k (x : X)
 | block (id : Nat)
 | loop (x : X)
 | scope (x labs : X)
def fq (P : Program) : List Jb → (Exit → Frm → Heap → Prop) → Exit → Frm → Heap → Prop
 | [], Q => Q
 | .k y :: s, Q => kG (fun a h => xWp P y (fq P s Q) a h) (fq P s Q)
 | .block id :: s, Q => jQ id (fq P s Q)
 | .loop x :: s, Q => kG (fun a h => ∀ c, xOf P c .nil = x → LWp P c (fq P s Q) a h) (fq P s Q)
 | .scope x labs :: s, Q => fun e a h => match e with
  | .goto l => ∀ c, xOf P c .nil = x → yr P c .nil .nil = labs → ∃ rest, findLabel c l = some rest ∧ SWp P c rest (fq P s Q) a h
  | e => fq P s Q e a h
def ym (id : Nat) : List Jb → Option (List Jb)
 | [] => none
 | .block id' :: s => if id = id' then some s else ym id s
 | .k _ :: s => ym id s
 | .loop _ :: s => ym id s
 | .scope _ _ :: s => ym id s
theorem w4 {P : Program} {id : Nat} {Q : Exit → Frm → Heap → Prop} {a : Frm} {h : Heap} : ∀ {s s' : List Jb}, ym id s = some s' → fq P s' Q .normal a h → fq P s Q (.exit id) a h
 | [], _, e, _ => by cases e
 | .block id' :: s, s', e, q => by
  simp only [ym] at e
  simp only [fq, jQ]
  by_cases hi : id = id'
  ·rw [if_pos hi] at e ⊢; cases e; exact q
  ·rw [if_neg hi] at e ⊢; exact w4 e q
 | .k _ :: s, s', e, q => by simp only [ym] at e; exact w4 (s := s) e q
 | .loop _ :: s, s', e, q => by simp only [ym] at e; exact w4 (s := s) e q
 | .scope _ _ :: s, s', e, q => by simp only [ym] at e; exact w4 (s := s) e q
theorem v8 {P : Program} {Q : Exit → Frm → Heap → Prop} {a : Frm} {h : Heap} (q : Q .ret a h) : ∀ (s : List Jb), fq P s Q .ret a h
 | [] => q
 | .block _ :: s => v8 q s
 | .k _ :: s => v8 q s
 | .loop _ :: s => v8 q s
 | .scope _ _ :: s => v8 q s
def ZH (l : Nat) : List Jb → Option (X × List Jb)
 | [] => none
 | .block _ :: s => ZH l s
 | .k _ :: s => ZH l s
 | .loop _ :: s => ZH l s
 | .scope x labs :: s => match a1g l labs with
  | some y => some (y, .scope x labs :: s)
  | none => none
theorem a9e {P : Program} {c rest : Code} {s : List Jb} {Q : Exit → Frm → Heap → Prop} {a : Frm} {h : Heap} (q : xWp P (xOf P rest .nil) (fq P (.scope (xOf P c .nil) (yr P c .nil .nil) :: s) Q) a h) : SWp P c rest (fq P s Q) a h := by
 refine YV ((jz q).mono fun e a h q => ?_)
 cases e <;> first
  | exact q c rfl rfl
  | exact q
theorem yp {P : Program} {l : Nat} {Q : Exit → Frm → Heap → Prop} {a : Frm} {h : Heap} : ∀ {s : List Jb} {y : X} {s' : List Jb}, ZH l s = some (y, s') → xWp P y (fq P s' Q) a h → fq P s Q (.goto l) a h
 | [], _, _, e, _ => by cases e
 | .block _ :: s, _, _, e, q => by simp only [ZH] at e; exact yp (s := s) e q
 | .k _ :: s, _, _, e, q => by simp only [ZH] at e; exact yp (s := s) e q
 | .loop _ :: s, _, _, e, q => by simp only [ZH] at e; exact yp (s := s) e q
 | .scope x labs :: s, y, s', e, q => by
  simp only [ZH] at e
  split at e
  ·rename_i y' hy
   simp only [Option.some.injEq, Prod.mk.injEq] at e
   obtain ⟨rfl, rfl⟩ := e
   intro c hx hl
   subst hx hl
   cases hf : findLabel c l with
   | none =>
    rw [(yK P l c .nil .nil).2 hf] at hy
    cases hy
   | some rest =>
    rw [(yK P l c .nil .nil).1 rest hf] at hy
    cases hy
    exact ⟨rest, rfl, a9e q⟩
  ·cases e
theorem Js {P : Program} {id : Nat} {Q : Exit → Frm → Heap → Prop} {a : Frm} {h : Heap} (q : Q (.exit id) a h) : ∀ {s : List Jb}, ym id s = none → fq P s Q (.exit id) a h
 | [], _ => q
 | .block id' :: s, e => by
  simp only [ym] at e
  simp only [fq, jQ]
  by_cases hi : id = id'
  ·rw [if_pos hi] at e; cases e
  ·rw [if_neg hi] at e ⊢; exact Js q e
 | .k _ :: s, e => by simp only [ym] at e; exact Js q (s := s) e
 | .loop _ :: s, e => by simp only [ym] at e; exact Js q (s := s) e
 | .scope _ _ :: s, e => by simp only [ym] at e; exact Js q (s := s) e
def YN : List MapEntry → List MapEntry → Bool
 | [], [] => true
 | a :: r, b :: s => kp a.key b.key && kp a.val b.val && Nat.beq a.born b.born && YN r s
 | _, _ => false
theorem WO : ∀ (a b : List MapEntry), YN a b = true → a = b
 | [], b, h => by cases b <;> simp_all [YN]
 | ⟨k, v, n⟩ :: r, b, h => by
  cases b with
  | nil => simp [YN] at h
  | cons y s =>
   obtain ⟨k', v', n'⟩ := y
   simp only [YN, Bool.and_eq_true, Nat.beq_eq] at h
   rw [kx _ _ h.1.1.1, kx _ _ h.1.1.2, h.1.2, WO r s h.2]
def a6Y : Bool → Bool → Bool
 | true, true => true
 | false, false => true
 | _, _ => false
theorem a2q {a b : Bool} (h : a6Y a b = true) : a = b := by cases a <;> cases b <;> simp_all [a6Y]
def acV : AObj → AObj → Bool
 | .cells a e r, .cells b e' r' => wO a b && Nat.beq e e' && a6Y r r'
 | .map a c, .map b c' => YN a b && Nat.beq c c'
 | .chan c a, .chan c' b => Nat.beq c c' && wO a b
 | _, _ => false
theorem a4H {a b : AObj} (h : acV a b = true) : a = b := by
 unfold acV at h
 split at h
 ·simp only [Bool.and_eq_true, Nat.beq_eq] at h
  rw [kn _ _ h.1.1, h.1.2, a2q h.2]
 ·simp only [Bool.and_eq_true, Nat.beq_eq] at h
  rw [WO _ _ h.1, h.2]
 ·simp only [Bool.and_eq_true, Nat.beq_eq] at h
  rw [h.1, kn _ _ h.2]
 ·cases h
abbrev yg := List (Nat × AObj)
def Q4 (b : Nat) : yg → Option AObj
 | [] => none
 | (c, o) :: r => bif Nat.beq c b then some o else Q4 b r
theorem ahm {a b : Nat} (h : a ≠ b) : Nat.beq a b = false := by
 cases hq : Nat.beq a b with
 | false => rfl
 | true => exact absurd (Nat.eq_of_beq_eq_true hq) h
theorem abw {a b : Nat} (h : Nat.blt a b = true) : a < b := by rw [Nat.blt_eq] at h; exact h
theorem abu {a b : Nat} (h : a < b) : Nat.blt a b = true := by rw [Nat.blt_eq]; exact h
theorem abc {a b : Nat} (h : ¬ a < b) : Nat.blt a b = false := by
 cases hq : Nat.blt a b with
 | false => rfl
 | true => exact absurd (abw hq) h
theorem a74 (b : Nat) (o : AObj) (r : yg) : Q4 b ((b, o) :: r) = some o := by simp [Q4]
theorem a3H {b c : Nat} (h : c ≠ b) (o : AObj) (r : yg) : Q4 b ((c, o) :: r) = Q4 b r := by
 conv => lhs; unfold Q4
 rw [ahm h, cond_false]
def a4i (p : PH) : yg → Bool
 | [] => true
 | (b, o) :: r => (match p.get b with
  | some o' => acV o o'
  | none => false) && a4i p r
def aiQ (h : Heap) (l : yg) : Prop := ∀ b o, Q4 b l = some o → h.get b = some o
theorem vK {p : PH} : ∀ {l : yg}, a4i p l = true → aiQ p.heap l
 | [], _, b, o, e => by cases e
 | (c, q) :: r, h, b, o, e => by
  simp only [a4i, Bool.and_eq_true] at h
  unfold Q4 at e
  cases hc : Nat.beq c b with
  | true =>
   rw [hc] at e
   cases e
   have := Nat.eq_of_beq_eq_true hc
   subst this
   have h1 := h.1
   split at h1
   ·rename_i o' hg
    rw [a4H h1]
    exact hg
   ·cases h1
  | false => rw [hc] at e; exact vK h.2 b o e
structure MEnt where
 f : FuncId
 args : List Value
 mem : Option (Nat × yg × Nat × yg)
 v : Value
abbrev vb := List MEnt
def KZ (t : Tr AObj) : Nat → Nat → yg → Tr AObj
 | n0, k + 1, post => Tr.set 31 (KZ t n0 k post) (n0 + k) (Q4 (n0 + k) post)
 | n0, 0, post => post.foldr (fun e t => bif Nat.blt e.1 n0 then Tr.set 31 t e.1 (some e.2) else t) t
def a7t (p : PH) (n1 : Nat) (post : yg) : PH := ⟨n1, KZ p.t p.next (n1 - p.next) post⟩
theorem u4 (n0 : Nat) (post : yg) (t : Tr AObj) : ∀ (k b : Nat), n0 + k ≤ PH.room →
  (b < n0 → (KZ t n0 k post).get b = match Q4 b post with | some o => some o | none => t.get b) ∧ (n0 ≤ b ∧ b < n0 + k → (KZ t n0 k post).get b = Q4 b post)
 | 0, b, hk => by
  refine ⟨fun hb => ?_, fun hb => by omega⟩
  unfold KZ
  induction post with
  | nil => simp [Q4]
  | cons e r ih =>
   obtain ⟨c, o⟩ := e
   simp only [List.foldr_cons]
   by_cases hc : c < n0
   ·rw [abu hc, cond_true, Tr.get_set _ 31 _ _ _ (by unfold PH.room at hk; omega)]
    by_cases hbc : b = c
    ·subst hbc
     rw [if_pos rfl, a74]
    ·rw [if_neg hbc, a3H (Ne.symm hbc)]
     exact ih
   ·rw [abc hc, cond_false, a3H (by omega)]
    exact ih
 | k + 1, b, hk => by
  obtain ⟨h1, h2⟩ := u4 n0 post t k b (by omega)
  have hs : (KZ t n0 (k + 1) post).get b = if b = n0 + k then Q4 (n0 + k) post else (KZ t n0 k post).get b := by
   conv => lhs; unfold KZ
   rw [Tr.get_set _ 31 _ _ _ (by unfold PH.room at hk; omega)]
  rw [hs]
  refine ⟨fun hb => by rw [if_neg (by omega)]; exact h1 hb, fun hb => ?_⟩
  by_cases he : b = n0 + k
  ·rw [if_pos he, he]
  ·rw [if_neg he]
   exact h2 (by omega)
def ahX (h : Heap) (n1 : Nat) (post : yg) (h' : Heap) : Prop := h'.next = n1 ∧ ∀ b, h'.get b = if b < n1 then (match Q4 b post with | some o => some o | none => if b < h.next then h.get b else none) else none
def a4J (P : Program) (e : MEnt) : Prop :=
 match e.mem with
 | none => ∀ h, ACalls P e.f e.args h (fun v h' => v = e.v ∧ h' = h)
 | some (n0, pre, n1, post) => n0 ≤ n1 ∧ ∀ h, h.next = n0 → aiQ h pre → ACalls P e.f e.args h (fun v h' => v = e.v ∧ ahX h n1 post h')
def MemoOk (P : Program) (M : vb) : Prop := ∀ e ∈ M, a4J P e
def a3s : vb → FuncId → List Value → PH → Option (Value × PH)
 | [], _, _, _ => none
 | e :: r, f, avs, p => bif Nat.beq e.f f && wO e.args avs then (match e.mem with
  | none => some (e.v, p)
  | some (n0, pre, n1, post) => bif Nat.beq p.next n0 && Nat.ble n1 PH.room && a4i p pre then some (e.v, a7t p n1 post) else a3s r f avs p) else a3s r f avs p
theorem MemoOk.nil (P : Program) : MemoOk P [] := fun _ h => by cases h
theorem MemoOk.cons {P : Program} {M : vb} {e : MEnt} (h1 : a4J P e) (h2 : MemoOk P M) : MemoOk P (e :: M) := by
 intro e he
 rcases List.mem_cons.1 he with rfl | he
 ·exact h1
 ·exact h2 e he
theorem MemoOk.append {P : Program} {M N : vb} (h1 : MemoOk P M) (h2 : MemoOk P N) : MemoOk P (M ++ N) := by
 intro e he
 rcases List.mem_append.1 he with he | he
 ·exact h1 e he
 ·exact h2 e he
theorem V2 {P : Program} {f : FuncId} {avs : List Value} {p p' : PH} {v : Value} : ∀ {M : vb}, MemoOk P M → a3s M f avs p = some (v, p') → ACalls P f avs p.heap (fun u h' => u = v ∧ h' = p'.heap)
 | [], _, e => by cases e
 | e :: r, hm, hl => by
  have rest := V2 (M := r) (f := f) (avs := avs) (p := p) (p' := p') (v := v) (fun e he => hm e (List.mem_cons_of_mem _ he))
  have he := hm e (List.mem_cons_self ..)
  unfold a3s at hl
  cases hf : Nat.beq e.f f && wO e.args avs with
  | false => rw [hf] at hl; exact rest hl
  | true =>
   rw [hf, cond_true] at hl
   rw [Bool.and_eq_true] at hf
   obtain rfl := Nat.eq_of_beq_eq_true hf.1
   obtain rfl := kn _ _ hf.2
   unfold a4J at he
   split at hl
   ·rename_i hmem
    rw [hmem] at he
    cases hl
    exact he p.heap
   ·rename_i n0 pre n1 post hmem
    rw [hmem] at he
    cases hq : Nat.beq p.next n0 && Nat.ble n1 PH.room && a4i p pre with
    | false => rw [hq] at hl; exact rest hl
    | true =>
     rw [hq, cond_true] at hl
     cases hl
     simp only [Bool.and_eq_true] at hq
     obtain ⟨⟨q1, q2⟩, q3⟩ := hq
     have q1 := Nat.eq_of_beq_eq_true q1
     have q2 := Nat.le_of_ble_eq_true q2
     refine (he.2 p.heap q1 (vK q3)).mono ?_
     rintro u h' ⟨rfl, h1, h2⟩
     refine ⟨rfl, Heap.ext'' h1 fun b => ?_⟩
     rw [h2 b]
     have hle := he.1
     show _ = (a7t p n1 post).get b
     unfold PH.get a7t
     simp only
     by_cases hb : b < n1
     ·rw [if_pos hb, if_pos hb]
      obtain ⟨a1, a2⟩ := u4 p.next post p.t (n1 - p.next) b (by omega)
      by_cases hp : b < p.next
      ·rw [a1 hp]
       have e1 : p.heap.get b = p.t.get b := by
        show p.get b = _
        unfold PH.get
        rw [if_pos hp]
       have e2 : b < p.heap.next := hp
       rw [if_pos e2, e1]
      ·rw [a2 (by omega)]
       have e2 : ¬ b < p.heap.next := hp
       rw [if_neg e2]
       cases Q4 b post <;> rfl
     ·rw [if_neg hb, if_neg hb]
abbrev EX := X → List Jb → Frm → PH → (Exit → FX) → Bool
def a5X (P : Program) (ih : EX) (l : Nat) (args : List Value) (p : PH) (K : KX) : Bool :=
 match p.get l with
 | some (.loop _ _ n sl ps x y) => decide (args.length = ps.length) && ih (xOf P x .nil) [] (a0n ps args ⟨n, sl⟩) p (fun e a p => match e, p.get l with
  | .normal, some (.loop .ready pend n sl ps x' y') => match JG p l (.loop .busy pend n sl ps x' y') with
   | some p => ih (xOf P y .nil) [] a p (fun e _ p => match p.get l with
    | some (.loop _ _ n sl ps x y) => match e with
     | .normal => match JG p l (.loop .ready none n sl ps x y) with
      | some p => K (.bool true) p
      | none => false
     | .ret => match JG p l (.loop .done (some .ret) n sl ps x y) with
      | some p => K (.bool false) p
      | none => false
     | .exit id => match JG p l (.loop .done (some (.exit id)) n sl ps x y) with
      | some p => K (.bool false) p
      | none => false
     | _ => false
    | _ => false)
   | none => false
  | _, _ => false)
 | _ => false
def UJ (P : Program) (M : vb) (ih : EX) (f : FuncId) (args : List Value) (p : PH) (K : KX) : Bool :=
 match a3s M f args p with
 | some (v, p) => K v p
 | none => match P.funcs[f]? with
  | some fn => match fn.body with
   | some c => !(fn.name == "runtime.NumGoroutine") && decide (args.length ≤ fn.ntmps) && ih (xOf P c .nil) [] ⟨fn.ntmps, kw 0 args⟩ p (fun e a p => match e with
    | .normal => match za P a p.heap fn.results.toList with
     | some vs => K (jW vs) p
     | none => false
    | .ret => match za P a p.heap fn.results.toList with
     | some vs => K (jW vs) p
     | none => false
    | _ => false)
   | none => false
  | none => false
def a8s (P : Program) (f : FuncId) (args : List Value) (p : PH) (K : KX) : Bool :=
 match P.funcs[f]? with
 | some fn => fn.name == "maps.clone" && fn.origin == "" && fn.body.isNone && match args with
  | [.iface t (.map (some r))] => match p.get r with
   | some (.map es ck) => KE p (.map es ck) (K (.iface t (.map (some p.next))))
   | _ => false
  | _ => false
 | none => false
def ahd (P : Program) (f : FuncId) : Bool := match P.funcs[f]? with
 | some fn => match fn.body with
  | some _ => false
  | none => true
 | none => true
def adm (P : Program) (M : vb) (ih : EX) : W2 := fun f args p K =>
 match f with
 | .func f => match ahd P f with
  | true => a8s P f args p K
  | false => UJ P M ih f args p K
 | .yield l => a5X P ih l args p K
 | _ => false
def ahg (ih : EX) (l : Nat) (k : X) (s : List Jb) (a : Frm) (K : Exit → FX) (p : PH) : Bool :=
 match p.get l with
 | some (.loop st pend n sl ps x y) => (match st with | .busy => false | _ => true) && match JG p l (.loop .exhausted pend n sl ps x y) with
  | some p => match pend with
   | none => ih k s a p K
   | some .ret => K .ret a p
   | some (.exit id) => match ym id s with
    | some s => ih .nil s a p K
    | none => K (.exit id) a p
   | _ => false
  | none => false
 | _ => false
def xP (P : Program) (call : W2) (ih : EX) : EX
 | .nil, s, a, p, K => match s with
  | [] => K .normal a p
  | .k y :: s => ih y s a p K
  | .block _ :: s => ih .nil s a p K
  | .loop x :: s => ih x (.loop x :: s) a p K
  | .scope _ _ :: s => ih .nil s a p K
 | .ret, _, a, p, K => K .ret a p
 | .exit id, s, a, p, K => match ym id s with
  | some s => ih .nil s a p K
  | none => K (.exit id) a p
 | .goto l, s, a, p, K => match ZH l s with
  | some (y, s) => ih y s a p K
  | none => false
 | .bad, _, _, _, _ => false
 | .reg L k, s, a, p, K => a2Q P call L (fun a p => ih k s a p K) a p
 | .draw L k, s, a, p, K => ai8 P call L (fun a p => ih k s a p K) a p
 | .cond c x y k, s, a, p, K => match a.ev c with
  | some (.bool true) => ih x (.k k :: s) a p K
  | some (.bool false) => ih y (.k k :: s) a p K
  | _ => false
 | .block id x k, s, a, p, K => ih x (.block id :: .k k :: s) a p K
 | .loop x k, s, a, p, K => ih x (.loop x :: .k k :: s) a p K
 | .scope x labs k, s, a, p, K => ih x (.scope x labs :: .k k :: s) a p K
 | .lcons _ _ _, _, _, _, _ => false
 | .label _ k, s, a, p, K => ih k s a p K
 | .range f ps c d k, s, a, p, K => match a.ev f with
  | some (.func (.func g) first cap) => KE p (.loop .ready none a.n a.l ps c d) fun p1 =>
   call (.func g) (first.toList ++ [.func (.yield p.next) #[] #[]] ++ cap.toList) p1 (fun _ p2 => ahg ih p.next k s a K p2)
  | _ => false
def UR (P : Program) (M : vb) : Nat → EX
 | 0 => fun _ _ _ _ _ => false
 | n + 1 => fun x s a p K => xP P (adm P M (UR P M n)) (UR P M n) x s a p K
def a6j (P : Program) (ih : EX) : Prop := ∀ {x s a p K} {Q : Exit → Frm → Heap → Prop}, (∀ e a p, K e a p = true → Q e a p.heap) → ih x s a p K = true → xWp P x (fq P s Q) a p.heap
theorem a2B {P : Program} {ih : EX} (hi : a6j P ih) {l : Nat} {args : List Value} {p : PH} {K : KX} (h : a5X P ih l args p K = true) : AYield P l args p.heap (up K) := by
 unfold a5X at h
 split at h
 ·rename_i st pend n sl ps x y hg
  simp only [Bool.and_eq_true, decide_eq_true_eq] at h
  refine a19 (show p.heap.get l = _ from hg) h.1 (jz (hi (s := []) (fun e a p q => ?_) h.2))
  split at q
  ·rename_i pend n sl ps x' y' hg1
   have hg1' : p.heap.get l = _ := hg1
   simp only [hg1']
   split at q
   ·rename_i p2 hs
    rw [← zp hs hg1]
    refine jz (hi (s := []) (fun e a p q => ?_) q)
    split at q
    ·rename_i st4 pend4 n4 sl4 ps4 x4 y4 hg3
     have hg3' : p.heap.get l = _ := hg3
     simp only [hg3']
     split at q
     ·split at q
      ·rename_i p4 hs4; exact ⟨p4, zp hs4 hg3, q⟩
      ·cases q
     ·split at q
      ·rename_i p4 hs4; exact ⟨p4, zp hs4 hg3, q⟩
      ·cases q
     ·split at q
      ·rename_i p4 hs4; exact ⟨p4, zp hs4 hg3, q⟩
      ·cases q
     ·cases q
    ·cases q
   ·cases q
  ·cases q
 ·cases h
theorem V6 {P : Program} {M : vb} (hm : MemoOk P M) {ih : EX} (hi : a6j P ih) {f : FuncId} {args : List Value} {p : PH} {K : KX} (h : UJ P M ih f args p K = true) : ACalls P f args p.heap (up K) := by
 unfold UJ at h
 split at h
 ·rename_i v p' hv
  exact (V2 hm hv).mono fun u h' q => by
   obtain ⟨rfl, rfl⟩ := q
   exact ⟨p', rfl, h⟩
 ·split at h
  ·rename_i fn hf
   split at h
   ·rename_i c hb
    simp only [Bool.and_eq_true, Bool.not_eq_true', decide_eq_true_eq] at h
    obtain ⟨⟨h1, h2⟩, h3⟩ := h
    refine ZN hf hb rfl rfl h1 h2 (jz (hi (s := []) (fun e a p q => ?_) h3))
    split at q
    ·split at q
     ·rename_i vs hv
      exact ⟨vs, hv, p, rfl, q⟩
     ·cases q
    ·split at q
     ·rename_i vs hv
      exact ⟨vs, hv, p, rfl, q⟩
     ·cases q
    ·cases q
   ·cases h
  ·cases h
theorem a1r {P : Program} {f : FuncId} {args : List Value} {p : PH} {K : KX} (h : a8s P f args p K = true) : a9b P f args p.heap (up K) := by
 unfold a8s at h
 split at h
 ·rename_i fn hf
  simp only [Bool.and_eq_true, beq_iff_eq] at h
  obtain ⟨⟨⟨h1, h2⟩, h3⟩, h⟩ := h
  split at h
  ·rename_i t r
   split at h
   ·rename_i es ck hg
    obtain ⟨k1, k2⟩ := zX h
    exact ⟨fn, t, r, es, ck, hf, h1, h2, h3, rfl, hg, _, k1, k2⟩
   ·cases h
  ·cases h
 ·cases h
theorem a3J {P : Program} {M : vb} (hm : MemoOk P M) {ih : EX} (hi : a6j P ih) : xc P (adm P M ih) := by
 intro f args p K h
 unfold adm at h
 split at h
 ·split at h
  ·exact .inr (a1r h)
  ·exact .inl (V6 hm hi h)
 ·exact a2B hi h
 ·cases h
theorem a62 {P : Program} {ih : EX} (hi : a6j P ih) {l : Nat} {k : X} {s : List Jb} {a : Frm} {K : Exit → FX} {Q : Exit → Frm → Heap → Prop} (hk : ∀ e a p, K e a p = true → Q e a p.heap) {p : PH} (h : ahg ih l k s a K p = true) :
  afh l (kG (fun a h => xWp P k (fq P s Q) a h) (fq P s Q)) a p.heap := by
 unfold ahg at h
 unfold afh
 split at h
 ·rename_i st pend n sl ps x y hg
  have hg' : p.heap.get l = _ := hg
  simp only [hg']
  rw [Bool.and_eq_true] at h
  obtain ⟨h1, h⟩ := h
  refine ⟨(by rintro rfl; cases h1), ?_⟩
  split at h
  ·rename_i p1 hs
   rw [← zp hs hg]
   split at h
   ·exact hi hk h
   ·exact v8 (hk _ _ _ h) s
   ·split at h
    ·rename_i s' hp
     exact w4 hp (hi (s := s') hk h)
    ·rename_i hp
     exact Js (hk _ _ _ h) hp
   ·cases h
  ·cases h
 ·cases h
theorem a41 {P : Program} {call : W2} {ih : EX} (hc : xc P call) (hi : a6j P ih) : a6j P (xP P call ih) := by
 intro x s a p K Q hk h
 cases x with
 | nil =>
  simp only [xP] at h
  show fq P s Q .normal a p.heap
  split at h
  ·exact hk _ _ _ h
  ·exact hi hk h
  ·exact hi (s := _) hk h
  ·rename_i x s
   intro c hx
   subst hx
   refine ve ((jz (hi hk h)).mono fun e a h q => ?_)
   cases e <;> first
    | exact q c rfl
    | exact q
  ·exact hi (s := _) hk h
 | ret => exact v8 (hk _ _ _ h) s
 | exit id =>
  simp only [xP] at h
  split at h
  ·rename_i s' hs
   exact w4 hs (hi (s := s') hk h)
  ·rename_i hs
   exact Js (hk _ _ _ h) hs
 | goto l =>
  simp only [xP] at h
  split at h
  ·rename_i y s' hs
   exact yp hs (hi (s := s') hk h)
  ·cases h
 | lcons _ _ _ => cases h
 | bad => cases h
 | reg L k => exact Zv hc L (fun a p q => hi hk q) h
 | draw L k => exact Xt hc L (fun a p q => hi hk q) h
 | cond c x y k =>
  simp only [xP] at h
  show wh _ _ _
  split at h
  ·rename_i hv; rw [hv]; exact ⟨fun _ => hi (s := .k k :: s) hk h, fun e => (by cases e)⟩
  ·rename_i hv; rw [hv]; exact ⟨fun e => (by cases e), fun _ => hi (s := .k k :: s) hk h⟩
  ·cases h
 | block id x k => exact hi (s := .block id :: .k k :: s) hk h
 | loop x k =>
  intro c hx
  subst hx
  have q := hi (s := .loop _ :: .k k :: s) hk h
  refine a4S (ve ((jz q).mono fun e a h q => ?_))
  cases e <;> first
   | exact q c rfl
   | exact q
 | scope x labs k =>
  intro c hx hl
  subst hx hl
  exact UM (a9e (hi (s := .scope _ _ :: .k k :: s) hk h))
 | label l k => exact hi (x := k) hk h
 | range f ps c d k =>
  simp only [xP] at h
  show AWp P (.rangeFunc f ps.toArray c d) _ a p.heap
  split at h
  ·rename_i g first cap hf
   obtain ⟨e1, h⟩ := zX h
   have hcl : ADoes P g (first.toList ++ [.func (.yield p.next) #[] #[]] ++ cap.toList) _ _ := hc (.func g) _ _ _ h
   rw [e1] at hcl
   have hcl := Or.resolve_right hcl (by
    rintro ⟨_, t, r, _, _, _, _, _, _, e, _⟩
    have : Value.func (.yield p.next) #[] #[] ∈ [Value.iface t (.map (some r))] := by rw [← e]; simp
    simp at this)
   refine ahD hf (ACalls.mono hcl ?_)
   rintro v h' ⟨p2, rfl, q⟩
   exact a62 hi hk q
  ·cases h
theorem Kp {P : Program} {M : vb} (hm : MemoOk P M) : ∀ n, a6j P (UR P M n)
 | 0 => fun _ h => by cases h
 | n + 1 => fun hk h => a41 (a3J hm (Kp hm n)) (Kp hm n) hk h
theorem ahb {P : Program} {M : vb} (hm : MemoOk P M) {n : Nat} {f : FuncId} {args : List Value} {p : PH} {K : KX} (h : UJ P M (UR P M n) f args p K = true) : ACalls P f args p.heap (up K) := V6 hm (Kp hm n) h
open Go.RowKit
def WL : Nat → Value → Bool
 | 0, _ => false
 | _ + 1, .bool _ => true
 | _ + 1, .int _ _ => true
 | _ + 1, .string _ => true
 | n + 1, .agg xs => xs.toList.all (WL n)
 | n + 1, .tuple xs => xs.toList.all (WL n)
 | _, _ => false
theorem Jx {β : Place} : ∀ {n : Nat} {v mv : Value}, WL n v = true → VRel β v mv → mv = v ∧ ∀ β', VRel β' v mv
 | 0, v, mv, h, _ => by cases h
 | n + 1, .bool _, mv, _, k => by cases k; exact ⟨rfl, fun _ => .bool _⟩
 | n + 1, .int _ _, mv, _, k => by cases k; exact ⟨rfl, fun _ => .int _ _⟩
 | n + 1, .string _, mv, _, k => by cases k; exact ⟨rfl, fun _ => .string _⟩
 | n + 1, .agg xs, mv, h, k => by
  obtain ⟨ys, rfl, k2⟩ := VRel.agg_iff.1 k
  have key : ∀ {l m : List Value}, l.all (WL n) = true → VRels β l m → m = l ∧ ∀ β', VRels β' l m := by
   intro l m hl hk
   induction hk with
   | nil => exact ⟨rfl, fun _ => .nil⟩
   | cons h1 _ ih =>
    simp only [List.all_cons, Bool.and_eq_true] at hl
    obtain ⟨e1, r1⟩ := Jx hl.1 h1
    obtain ⟨e2, r2⟩ := ih hl.2
    exact ⟨by rw [e1, e2], fun β' => .cons (r1 β') (r2 β')⟩
  obtain ⟨e, r⟩ := key h k2
  exact ⟨by rw [Array.ext' e], fun β' => VRel.agg_iff.2 ⟨ys, rfl, r β'⟩⟩
 | n + 1, .tuple xs, mv, h, k => by
  obtain ⟨ys, rfl, k2⟩ := VRel.tuple_iff.1 k
  have key : ∀ {l m : List Value}, l.all (WL n) = true → VRels β l m → m = l ∧ ∀ β', VRels β' l m := by
   intro l m hl hk
   induction hk with
   | nil => exact ⟨rfl, fun _ => .nil⟩
   | cons h1 _ ih =>
    simp only [List.all_cons, Bool.and_eq_true] at hl
    obtain ⟨e1, r1⟩ := Jx hl.1 h1
    obtain ⟨e2, r2⟩ := ih hl.2
    exact ⟨by rw [e1, e2], fun β' => .cons (r1 β') (r2 β')⟩
  obtain ⟨e, r⟩ := key h k2
  exact ⟨by rw [Array.ext' e], fun β' => VRel.tuple_iff.2 ⟨ys, rfl, r β'⟩⟩
 | n + 1, .pointer _, _, h, _ => by cases h
 | n + 1, .slice _ _ _, _, h, _ => by cases h
 | n + 1, .map _, _, h, _ => by cases h
 | n + 1, .chan _, _, h, _ => by cases h
 | n + 1, .func _ _ _, _, h, _ => by cases h
 | n + 1, .nilFunc, _, h, _ => by cases h
 | n + 1, .iface _ _, _, h, _ => by cases h
 | n + 1, .nilIface, _, h, _ => by cases h
theorem a6f {P : Program} {f : FuncId} {l0 l : List Value} {h0 h : Heap} {r : Value} {d : Nat} (hf : WL d r = true) (c : ACalls P f l0 h0 (fun v _ => v = r)) (hro : RO h0)
  (hsub : ∀ β w ms, VRels β l ms → Rel P β h w → ∃ β0, VRels β0 l0 ms ∧ Rel P β0 h0 w) : ACalls P f l h (fun v h' => v = r ∧ h' = h) := by
 refine ⟨c.1, fun β w ms hv hr => ?_⟩
 obtain ⟨β0, hv0, hr0⟩ := hsub β w ms hv hr
 refine (c.2 β0 w ms hv0 hr0).mono ?_
 rintro e w' ⟨mv, rfl, v, h', β', hvr, hr', st, rfl⟩
 have hfr : ∀ m, m < w.heap.size → w'.heap[m]? = w.heap[m]? := fun m hm => st.frame m hm (by
  rintro ⟨b, s, o, _, hg, hrw⟩
  rw [hro b o hg] at hrw
  cases hrw)
 obtain ⟨rfl, hany⟩ := Jx hf hvr
 refine ⟨_, rfl, _, h, β, hany β, ⟨fun b m s e => ⟨(hr.dom b m s e).1, Nat.lt_of_lt_of_le (hr.dom b m s e).2 st.size⟩, fun b m s o e g => ?_, hr.inj⟩, ?_, rfl, rfl⟩
 ·exact ORel.mono (fun _ _ e => e) (hfr m (hr.dom b m s e).2) (hr.obj b m s o e g)
 ·exact ⟨fun _ _ e => e, fun _ _ e => ⟨e, rfl⟩, Nat.le_refl _, fun b o' _ g => ⟨o', g, id⟩, fun b m s e e' => (by rw [e] at e'; cases e'), st.os, st.tape, st.output, st.size, fun m hm _ => hfr m hm, st.loops⟩
def p0 (n : Nat) : PH := ⟨n, .nil⟩
theorem a5L (n b : Nat) : (p0 n).heap.get b = none := by
 show (p0 n).get b = none
 unfold PH.get p0
 simp [Tr.get]
theorem aiW (n : Nat) : RO (p0 n).heap := fun b o h => by rw [a5L] at h; cases h
theorem ahy {P : Program} {β β0 : Place} {h : Heap} {w : World} {n : Nat} (hr : Rel P β h w) (h1 : ∀ c m s, β0 c = some (m, s) → c < n ∧ ∃ b, β b = some (m, s)) : Rel P β0 (p0 n).heap w :=
 ⟨fun c m s e => let ⟨hc, b, hb⟩ := h1 c m s e; ⟨hc, (hr.dom b m s hb).2⟩, fun b m s o _ g => (by rw [a5L] at g; cases g), fun b b' m s s' o o' _ _ g => (by rw [a5L] at g; cases g)⟩
theorem afm {P : Program} {M : vb} (hm : MemoOk P M) {n : Nat} {f : FuncId} {args : List Value} {r : Value} (hr : WL 5 r = true) (ha : args.all (WL 5) = true)
  (h : UJ P M (UR P M n) f args (p0 0) (fun v _ => kp r v) = true) : a4J P ⟨f, args, none, r⟩ := by
 intro h1
 refine a6f hr ((ahb hm h).mono fun _ _ ⟨_, _, q⟩ => (kx _ _ q).symm) (aiW 0) fun β w ms hv hrel => ⟨fun _ => none, ?_, ahy hrel fun c m s e => (by cases e)⟩
 have key : ∀ {l m : List Value}, l.all (WL 5) = true → VRels β l m → VRels (fun _ => none) l m := by
  intro l m hl hk
  induction hk with
  | nil => exact .nil
  | cons h1 _ ih =>
   simp only [List.all_cons, Bool.and_eq_true] at hl
   exact .cons ((Jx hl.1 h1).2 _) (ih hl.2)
 exact key ha hv
open Go.RowKit
theorem acY {P : Program} {f : FuncId} (hE : a4J P ⟨f, [], none, .bool true⟩) : qK P ⟨f, .nil, [], [(.bool, [])], fun _ => some true⟩ := by
 intro p x hx W0 γ h vs hc H hr
 cases hx
 have hvs : vs = [] := by
  cases p
  cases hr
  rfl
 subst hvs
 refine (hE h).mono ?_
 rintro v h' ⟨rfl, rfl⟩
 refine ⟨γ, enc (.v (.bool true)), [], ⟨.v (.bool true), rfl, rfl, rfl⟩, H, ?_⟩
 show PR P _ h' (.v (.bool true)) (.bool true)
 exact .v rfl
set_option maxHeartbeats 0
open Go.Proofs
def zY (x5 : ((List Y9_) × (Int × Int))) (x6 : Y3_) (x7 : Y4_) (x8 : (List Y1_)) (x9 : (List Int)) : Option ((((List Y9_) × (Int × Int)) × Y6_) ⊕ Y6_) :=
 bif decide (x5.2.2 < x5.2.1) then
 bif decide (0 ≤ x5.2.2) then
 (x5.1[x5.2.2.toNat]?).bind fun x10 =>
 bif x10.1 == 1 then
 kk x8 (kk x9 ((Qr x10.2.1 x6 x7 x8 x9).bind fun x11 =>
 kk x11.2.2.1 (kk x11.2.2.2 (some (Sum.inl ((x5.1, (x5.2.1, (IntKind.i64.wrap (x5.2.2 + (1 : Int))))), x11))))))
 else bif x10.1 == 2 then
 kk x8 (kk x9 ((QI x10.2.1 x6 x7 x8 x9).bind fun x11 =>
 kk x11.2.2.1 (kk x11.2.2.2 (some (Sum.inl ((x5.1, (x5.2.1, (IntKind.i64.wrap (x5.2.2 + (1 : Int))))), x11))))))
 else bif x10.1 == 3 then
 bif decide (x10.2.1 = (65 : Int)) then
 kk x8 (kk x9 ((X1 x10 x6 x7 x8 x9).bind fun x11 =>
 kk x11.2.2.1 (kk x11.2.2.2 (some (Sum.inl ((x5.1, (x5.2.1, (IntKind.i64.wrap (x5.2.2 + (1 : Int))))), x11))))))
 else bif decide (x10.2.1 = (66 : Int)) then
 kk x8 (kk x9 ((Km x10 x6 x7 x8 x9).bind fun x11 =>
 kk x11.2.2.1 (kk x11.2.2.2 (some (Sum.inl ((x5.1, (x5.2.1, (IntKind.i64.wrap (x5.2.2 + (1 : Int))))), x11))))))
 else bif decide (x10.2.1 = (67 : Int)) then
 kk x8 (kk x9 ((KA x10 x6 x7 x8 x9).bind fun x11 =>
 kk x11.2.2.1 (kk x11.2.2.2 (some (Sum.inl ((x5.1, (x5.2.1, (IntKind.i64.wrap (x5.2.2 + (1 : Int))))), x11))))))
 else bif decide (x10.2.1 = (68 : Int)) then
 kk x8 (kk x9 ((Wm x10 x6 x7 x8 x9).bind fun x11 =>
 kk x11.2.2.1 (kk x11.2.2.2 (some (Sum.inl ((x5.1, (x5.2.1, (IntKind.i64.wrap (x5.2.2 + (1 : Int))))), x11))))))
 else bif decide (x10.2.1 = (72 : Int)) then
 kk x8 (kk x9 ((Kt x10 x6 x7 x8 x9).bind fun x11 =>
 kk x11.2.2.1 (kk x11.2.2.2 (some (Sum.inl ((x5.1, (x5.2.1, (IntKind.i64.wrap (x5.2.2 + (1 : Int))))), x11))))))
 else bif decide (x10.2.1 = (74 : Int)) then
 kk x8 (kk x9 ((Jp x10 x6 x7 x8 x9).bind fun x11 =>
 kk x11.2.2.1 (kk x11.2.2.2 (some (Sum.inl ((x5.1, (x5.2.1, (IntKind.i64.wrap (x5.2.2 + (1 : Int))))), x11))))))
 else bif decide (x10.2.1 = (75 : Int)) then
 kk x8 (kk x9 ((QQ x10 x6 x7 x8 x9).bind fun x11 =>
 kk x11.2.2.1 (kk x11.2.2.2 (some (Sum.inl ((x5.1, (x5.2.1, (IntKind.i64.wrap (x5.2.2 + (1 : Int))))), x11))))))
 else bif decide (x10.2.1 = (109 : Int)) then
 kk x8 (kk x9 ((Zk x10 x6 x7 x8 x9).bind fun x11 =>
 kk x11.2.2.1 (kk x11.2.2.2 (some (Sum.inl ((x5.1, (x5.2.1, (IntKind.i64.wrap (x5.2.2 + (1 : Int))))), x11))))))
 else kk x8 (kk x9 (some (Sum.inl ((x5.1, (x5.2.1, (IntKind.i64.wrap (x5.2.2 + (1 : Int))))), (x6, (x7, (x8, x9)))))))
 else kk x8 (kk x9 (some (Sum.inl ((x5.1, (x5.2.1, (IntKind.i64.wrap (x5.2.2 + (1 : Int))))), (x6, (x7, (x8, x9)))))))
 else none
 else kk x8 (kk x9 (some (Sum.inr (x6, (x7, (x8, x9))))))
def V3 : (((List Y9_) × (Int × Int)) × Y6_) → Option Y6_ := zO fun s => zY s.1 s.2.1 s.2.2.1 s.2.2.2.1 s.2.2.2.2
def yT (x0 : (List Y9_)) (x1 : Y3_) (x2 : Y4_) (x3 : (List Y1_)) (x4 : (List Int)) : Option Y6_ :=
 kk x3 (kk x4 ((V3 ((x0, (((↑(List.length x0) : Int)), ((0 : Int)))), (x1, (x2, (x3, x4))))).bind fun x5 =>
 some x5))
def ac6 : TEnt := ⟨36, .cons (.ptr 0 0) (.sl a12), Y0_, [(.tup .nil, Y0_)], fun s => yT s.1 s.2.1 s.2.2.1 s.2.2.2.1 s.2.2.2.2⟩
theorem V0 : qK Try.prog ac6 := kT (loops := [(37450, [0, 4, 12, 13, 14], (.cons (.ptr 0 0) (.cons (.mp 4) (.cons (.sl a12) JF))), [.st (.cons (.ptr 1 0) Y7_), .st aat, .li (.sl Y2_) 151 false, .li (.int .i64) 3 false, .mp [(.int .i32 (65), 100), (.int .i32 (66), 101), (.int .i32 (67), 102), (.int .i32 (68), 103), (.int .i32 (72), 104), (.int .i32 (74), 105), (.int .i32 (75), 106), (.int .i32 (109), 107)]])]) (joins := []) (un := []) _ (tc Xd (tc va (tc a3D (tc XS (tc xG (tc U0 (tc VY (tc WJ (tc a1m (tc Ui tn)))))))))) (fun s => by kernel_rfl) (by kernel_rfl)
def W3 (x0 : Y3_) (x1 : Y4_) (x2 : (List Y1_)) (x3 : (List Int)) : Option (Y3_ × (Y4_ × ((List Y1_) × ((List Int) × Zt)))) :=
 kk x2 ((Qq x1 x2).bind fun x4 =>
 kk x4.2.2.2 (kk x4.2.1 (kk x3 (some (x0, (x4.1, (x4.2.1, (x3, x4.2.2))))))))
def a64 : TEnt := ⟨38, .ptr 0 0, Y0_, [(.ptr 4 0, [.st (.cons (.ptr 1 0) Y7_), .st aat, .li (.sl Y2_) 151 false, .li (.int .i64) 3 false, .st (.cons (.int .i64) (.cons (.int .i64) (.cons (.own 5) (.int .i64)))), .li (.sl Y2_) 151 false])], fun s => W3 s.1 s.2.1 s.2.2.1 s.2.2.2⟩
theorem uZ : qK Try.prog a64 := eo0 _ (tc XO tn) (fun s => by kernel_rfl) (by kernel_rfl)
def Ww (x0 : Y3_) (x1 : Y4_) (x2 : (List Y1_)) (x3 : (List Int)) : Option (Bool × Y6_) :=
 kk x2 (kk x3 (some (x0.2.2.2.2.2.2.2.2, (x0, (x1, (x2, x3))))))
def a5I : TEnt := ⟨44, .ptr 0 0, Y0_, [(.bool, Y0_)], fun s => Ww s.1 s.2.1 s.2.2.1 s.2.2.2⟩
theorem uC : qK Try.prog a5I := eo0 _ tn (fun s => by kernel_rfl) (by kernel_rfl)
theorem a3R : UJ Try.prog [] (UR Try.prog [] 10000) 41 [] (p0 0) (fun v _ => kp (.bool true) v) = true := by kernel_rfl
def a4a : TEnt := ⟨41, .nil, [], [(.bool, [])], fun _ => some true⟩
theorem XP : qK Try.prog a4a := acY (afm (MemoOk.nil _) rfl rfl a3R)
end Go.Sim
