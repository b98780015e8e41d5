/- Part 9 of the claim EmuDoes: V5, V6, GD, V7, GE, V8, GF, V9, V10, V11, V12, V13, V14, GG, V15, GI, V29 -/
import Derived.Test.YtaamhddpmbombaaGreatProg
import Derived.Test.YtaamhddpmbombaaGreatW8
set_option linter.unusedSimpArgs false
set_option linter.unusedVariables false
set_option linter.defProp false
noncomputable section
set_option maxRecDepth 100000
set_option maxHeartbeats 4000000
namespace Go.Sim
def ZZ (l : List qg) (n : Nat) : Nat := match l[n]?, l[n - 1]? with
 | some c, some d => if c.2.2.1 = 0 ∧ 0 < n ∧ d.2.2.1 = 2 then n - 1 else n
 | _, _ => n
def jP (l : List qg) (k : Int) (m : Int) : List qg × Bool :=
 if 0 ≤ k ∧ k < l.length then (match l[ZZ l k.toNat]? with
  | some c => (l.set (ZZ l k.toNat) (jr c m).1, (jr c m).2)
  | none => (l, false)) else (l, false)
theorem a5v {l : List qg} (hl : l.length ≤ 1000000) (k m : Int) (hk : -9223372036854775808 ≤ k ∧ k < 9223372036854775808) : Zs l k m = some (jP l k m) := by
 have hcl := Jj l hl
 unfold Zs jP
 by_cases h1 : k < 0
 ·rw [if_neg (by omega)]
  simp (disch := omega) only [q8, qh, qm, qd, qf, qj, qp, and_true, hcl]
 ·by_cases h2 : (l.length : Int) ≤ k
  ·rw [if_neg (by omega)]
   simp (disch := omega) only [q8, qh, qm, q9, qd, qf, qj, qp, and_true, hcl]
  ·obtain ⟨n, rfl⟩ : ∃ n : Nat, k = n := ⟨k.toNat, by omega⟩
   rw [if_pos ⟨by omega, by omega⟩]
   obtain ⟨c, hc⟩ := qF (l := l) (i := n) (by omega)
   obtain ⟨d, hd⟩ := qF (l := l) (i := n - 1) (by omega)
   have e2 : ((n : Int) - 1).toNat = n - 1 := by omega
   have ec : kV (c.1, c.2.1.1, c.2.1.2, c.2.2.1, c.2.2.2.1, c.2.2.2.2.1, c.2.2.2.2.2) m = some (Qf (jr c m).1, (jr c m).2) := Ua c m
   have ed : kV (d.1, d.2.1.1, d.2.1.2, d.2.2.1, d.2.2.2.1, d.2.2.2.2.1, d.2.2.2.2.2) m = some (Qf (jr d m).1, (jr d m).2) := Ua d m
   by_cases h3 : c.2.2.1 = 0 ∧ 0 < n ∧ d.2.2.1 = 2
   ·have ha : ZZ l n = n - 1 := by unfold ZZ; simp only [q8, hc, hd]; rw [if_pos h3]
    obtain ⟨h3a, h3b, h3c⟩ := h3
    rw [Int.toNat_natCast, ha]
    simp only [q8, hd]
    simp (disch := omega) only [q8, qh, qm, qD, q9, qd, qf, qj, qp, and_true, hcl, hc, hd, e2, ed, List.length_set]
    rfl
   ·have ha : ZZ l n = n := by unfold ZZ; simp only [q8, hc, hd]; rw [if_neg h3]
    rw [Int.toNat_natCast, ha]
    simp only [q8, hc]
    by_cases h4 : c.2.2.1 = 0
    ·by_cases h5 : 0 < n
     ·have h6 : d.2.2.1 ≠ 2 := fun q => h3 ⟨h4, h5, q⟩
      simp (disch := omega) only [q8, qh, qm, qD, qw, q9, qd, qf, qj, qp, and_true, hcl, hc, hd, e2, ec, List.length_set]
      rfl
     ·simp (disch := omega) only [q8, qh, qm, qD, q9, qd, qf, qj, qp, and_true, hcl, hc, hd, e2, ec, List.length_set]
      rfl
    ·simp (disch := omega) only [q8, qh, qm, qw, q9, qd, qf, qj, qp, and_true, hcl, hc, hd, e2, ec, List.length_set]
     rfl
theorem aa8 {l : List qg} (hl : l.length ≤ 1000000) (k m : Int) (hk : -9223372036854775808 ≤ k ∧ k < 9223372036854775808) : KU l k m = some (jP l k m) := by
 unfold KU jP
 have en : ([] : List qg) ++ l = l := rfl
 simp only [q8, en]
 by_cases h1 : k < 0
 ·rw [if_neg (by omega)]
  simp (disch := omega) only [q8, qh, qm, qd, qf, true_and]
 ·by_cases h2 : (l.length : Int) ≤ k
  ·rw [if_neg (by omega)]
   simp (disch := omega) only [q8, qh, qm, q9, qd, qf, true_and]
  ·obtain ⟨n, rfl⟩ : ∃ n : Nat, k = n := ⟨k.toNat, by omega⟩
   rw [if_pos ⟨by omega, by omega⟩]
   obtain ⟨c, hc⟩ := qF (l := l) (i := n) (by omega)
   obtain ⟨d, hd⟩ := qF (l := l) (i := n - 1) (by omega)
   have e2 : ((n : Int) - 1).toNat = n - 1 := by omega
   have ec : jB (c.1, c.2.1.1, c.2.1.2, c.2.2.1, c.2.2.2.1, c.2.2.2.2.1, c.2.2.2.2.2) m = some (Qf (jr c m).1, (jr c m).2) := a5H c m
   have ed : jB (d.1, d.2.1.1, d.2.1.2, d.2.2.1, d.2.2.2.1, d.2.2.2.2.1, d.2.2.2.2.2) m = some (Qf (jr d m).1, (jr d m).2) := a5H d m
   by_cases h3 : c.2.2.1 = 0 ∧ 0 < n ∧ d.2.2.1 = 2
   ·have ha : ZZ l n = n - 1 := by unfold ZZ; simp only [q8, hc, hd]; rw [if_pos h3]
    obtain ⟨h3a, h3b, h3c⟩ := h3
    rw [Int.toNat_natCast, ha]
    simp only [q8, hd]
    simp (disch := omega) only [q8, qh, qm, qD, q9, qd, qf, qj, true_and, hc, hd, e2, ed, List.length_set]
    rfl
   ·have ha : ZZ l n = n := by unfold ZZ; simp only [q8, hc, hd]; rw [if_neg h3]
    rw [Int.toNat_natCast, ha]
    simp only [q8, hc]
    by_cases h4 : c.2.2.1 = 0
    ·by_cases h5 : 0 < n
     ·have h6 : d.2.2.1 ≠ 2 := fun q => h3 ⟨h4, h5, q⟩
      simp (disch := omega) only [q8, qh, qm, qD, qw, q9, qd, qf, qj, true_and, hd, e2, ec, List.length_set]
      rfl
     ·simp (disch := omega) only [q8, qh, qm, qD, q9, qd, qf, qj, true_and, hd, e2, ec, List.length_set]
      rfl
    ·simp (disch := omega) only [q8, qh, qm, qw, q9, qd, qf, qj, true_and, hd, e2, ec, List.length_set]
     rfl
def wG (l : List qg) (f t a b c : Int) : List qg := l.mapIdx fun i d => if f ≤ (i : Int) ∧ (i : Int) < t then zD a b c else d
theorem K5 (l : List qg) (f t a b c : Int) : (wG l f t a b c).length = l.length := by simp [wG]
theorem V2 {l : List qg} {f t a b c : Int} {i : Nat} {d : qg} (h : l[i]? = some d) : (wG l f t a b c)[i]? = some (if f ≤ (i : Int) ∧ (i : Int) < t then zD a b c else d) := by simp [wG, h]
theorem ag8 (l : List qg) (f t a b c : Int) : Wo l (min f.toNat l.length) (List.replicate (min t.toNat l.length - min f.toNat l.length) (zD a b c)) = wG l f t a b c := by
 refine List.ext_getElem? fun i => ?_
 unfold Wo
 by_cases hi : i < l.length
 ·obtain ⟨d, hd⟩ := qF hi
  rw [V2 hd]
  by_cases h1 : i < min f.toNat l.length
  ·rw [if_neg (by omega), List.append_assoc, List.getElem?_append_left (by rw [List.length_take]; omega), List.getElem?_take, if_pos h1]; exact hd
  ·by_cases h2 : i < min t.toNat l.length
   ·rw [if_pos (by omega), List.append_assoc, List.getElem?_append_right (by rw [List.length_take]; omega), List.length_take, List.getElem?_append_left (by rw [List.length_replicate]; omega), List.getElem?_replicate, if_pos (by omega)]
   ·rw [if_neg (by omega), List.getElem?_append_right (by simp only [q8, ze, List.length_take, List.length_replicate]; omega), List.getElem?_drop]
    rw [← hd]
    congr 1
    simp only [q8, ze, List.length_take, List.length_replicate]; omega
 ·rw [List.getElem?_eq_none (by simp only [q8, ze, List.length_take, List.length_replicate, List.length_drop]; omega), List.getElem?_eq_none (by rw [K5]; omega)]
theorem a51 {l : List qg} (hl : l.length ≤ 1000000) (f t a b c : Int) : yg l f t a b c = some (km (wG l f t a b c)) := by
 have hf : ∀ x : Int, (if (l.length : Int) < if (0 : Int) > x then (0 : Int) else x then (l.length : Int) else if (0 : Int) > x then (0 : Int) else x) = ((min x.toNat l.length : Nat) : Int) := by
  intro x
  by_cases h1 : (0 : Int) > x
  ·simp only [q8, h1, if_true]; rw [if_neg (by omega)]; omega
  ·simp only [q8, h1, if_false]; split <;> omega
 unfold yg
 simp only [q8, hf]
 have hw : IntKind.i64.wrap (((min t.toNat l.length : Nat) : Int) - ((min f.toNat l.length : Nat) : Int)) = ((min t.toNat l.length : Nat) : Int) - ((min f.toNat l.length : Nat) : Int) := q9 (by omega) (by omega)
 have hk : (if ((min t.toNat l.length : Nat) : Int) - ((min f.toNat l.length : Nat) : Int) > (0 : Int) then ((min t.toNat l.length : Nat) : Int) - ((min f.toNat l.length : Nat) : Int) else (0 : Int)) = ((min t.toNat l.length - min f.toNat l.length : Nat) : Int) := by split <;> omega
 simp only [q8, hw, hk]
 rw [xE _ (by omega)]
 simp only [q8, qj]
 rw [Vw hl (by rw [List.length_replicate]; omega), ag8]
 rfl
theorem abS {l : List qg} (hl : l.length ≤ 1000000) (f t a b c : Int) : wN l f t a b c = some (km (wG l f t a b c)) := by
 unfold wN
 have hT := K5 l f t a b c
 have : JG ((l, (f, (t, (0 : Int)))), (a, b, c), []) = some (km (wG l f t a b c)) := by
  refine zu (st := fun i => ((l, (f, (t, ((i : Nat) : Int)))), (a, b, c), (wG l f t a b c).take i)) (n := l.length) (fun i hi => ?_) ?_ 0 (by omega)
  ·obtain ⟨d, hd⟩ := qF hi
   have ht : ((wG l f t a b c).take i).length = i := by rw [List.length_take, hT]; omega
   have ht1 : ((wG l f t a b c).take (i + 1)).length = i + 1 := by rw [List.length_take, hT]; omega
   have e : ((i : Int) + 1) = ((i + 1 : Nat) : Int) := by omega
   have hg := V2 (f := f) (t := t) (a := a) (b := b) (c := c) hd
   show ku _ _ _ = _
   unfold ku
   simp only [q8, jU]
   by_cases h1 : f ≤ (i : Int)
   ·by_cases h2 : (i : Int) < t
    ·rw [if_pos ⟨h1, h2⟩] at hg
     have e3 : (wG l f t a b c).take i ++ [((32 : Int), ((0 : Int), (0 : Int)), (1 : Int), a, b, c)] = (wG l f t a b c).take (i + 1) := (kA hg).symm
     simp (disch := omega) only [q8, qh, q9, qd, qj, qH, ze, zB, qM, qp, true_and, hd, ht, e3, e]
    ·rw [if_neg (fun q => h2 q.2)] at hg
     have e3 : (wG l f t a b c).take i ++ [(d.1, (d.2.1.1, d.2.1.2), d.2.2.1, d.2.2.2.1, d.2.2.2.2.1, d.2.2.2.2.2)] = (wG l f t a b c).take (i + 1) := (kA hg).symm
     simp (disch := omega) only [q8, qh, qm, q9, qd, qf, qj, qH, ze, zB, qM, qp, true_and, hd, ht, e3, e]
   ·rw [if_neg (fun q => h1 q.1)] at hg
    have e3 : (wG l f t a b c).take i ++ [(d.1, (d.2.1.1, d.2.1.2), d.2.2.1, d.2.2.2.1, d.2.2.2.2.1, d.2.2.2.2.2)] = (wG l f t a b c).take (i + 1) := (kA hg).symm
    simp (disch := omega) only [q8, qh, qm, q9, qd, qf, qj, qH, ze, zB, qM, qp, true_and, hd, ht, e3, e]
  ·show ku _ _ _ = _
   unfold ku
   have ht : (wG l f t a b c).take l.length = wG l f t a b c := List.take_of_length_le (by rw [hT]; omega)
   have hm := a6g (l := wG l f t a b c) (by rw [hT]; omega)
   simp (disch := omega) only [q8, qh, qm, q9, qd, qf, qj, qH, ze, zB, qM, qp, true_and, ht, hm]
 rw [this]
 rfl
def a4e (l : List qg) (n : Nat) : List qg := (List.range n).map fun i => l[i]?.getD (zD 0 0 0)
theorem UT (l : List qg) (n : Nat) : (a4e l n).length = n := by simp [a4e]
theorem a7a (l : List qg) {n i : Nat} (h : i < n) : (a4e l n)[i]? = some (l[i]?.getD (zD 0 0 0)) := by simp [a4e, h]
def akp (l : List qg) (i : Nat) : Bool := match l[i]? with
 | none => true
 | some c => kn c && (!ja l i && (if c.2.2.1 = 0 then (match l[i - 1]? with
  | some d => d.2.2.2.1 == c.2.2.2.1 && (d.2.2.2.2.1 == c.2.2.2.2.1 && d.2.2.2.2.2 == c.2.2.2.2.2)
  | none => false) else true))
def jw (l : List qg) : Bool := (List.range l.length).all (akp l)
theorem yO (l : List qg) : jw l = true ↔ ∀ (i : Nat) (c : qg), l[i]? = some c → kn c = true ∧ ja l i = false ∧ (c.2.2.1 = 0 → ∃ d, l[i - 1]? = some d ∧ d.2.2.2 = c.2.2.2) := by
 unfold jw
 rw [List.all_eq_true]
 constructor
 ·intro h i c hc
  have hi : i < l.length := (List.getElem?_eq_some_iff.1 hc).1
  have := h i (List.mem_range.2 hi)
  unfold akp at this
  simp only [q8, hc, Bool.and_eq_true, Bool.not_eq_true'] at this
  refine ⟨this.1, this.2.1, fun hw => ?_⟩
  have h2 := this.2.2
  rw [if_pos hw] at h2
  split at h2
  ·rename_i d hd
   simp only [q8, Bool.and_eq_true, beq_iff_eq] at h2
   exact ⟨d, hd, Prod.ext h2.1 (Prod.ext h2.2.1 h2.2.2)⟩
  ·cases h2
 ·intro h i hi
  have hi := List.mem_range.1 hi
  obtain ⟨c, hc⟩ := qF hi
  obtain ⟨h1, h2, h3⟩ := h i c hc
  unfold akp
  simp only [q8, hc, h1, h2, kx, Bool.true_and]
  split
  ·rename_i hw
   obtain ⟨d, hd, hp⟩ := h3 hw
   simp only [q8, hd, hp]
   simp
  ·rfl
def agx (l : List qg) : Prop := ∀ (i : Nat) (c d : qg), l[i]? = some c → l[i + 1]? = some d → c.2.2.1 = 2 → d.2.2.1 = 0 → c.2.2.2 = d.2.2.2
theorem YC {l : List qg} (h : jw l = true) : agx l := fun i c d hc hd _ hw => by
 obtain ⟨_, _, h3⟩ := (yO l).1 h (i + 1) d hd
 obtain ⟨e, he, hp⟩ := h3 hw
 rw [Nat.add_sub_cancel, hc] at he
 cases he
 exact hp
theorem Ww {l : List qg} (h : jw l = true) : ∀ c ∈ l, kn c = true := fun c hc => by
 obtain ⟨i, hi⟩ := List.mem_iff_getElem?.1 hc
 exact ((yO l).1 h i c hi).1
theorem al0 : qY 32 = 1 := by unfold qY; simp [vj, inR, v8, ZP]
theorem vr (a b c : Int) : (zD a b c).2.2.1 ≠ 2 := (by decide : (1 : Int) ≠ 2)
theorem Kn (a b c : Int) : (zD a b c).2.2.1 ≠ 0 := (by decide : (1 : Int) ≠ 0)
theorem ZK {a b c : Int} (h : Z2 a b c = true) : kn (zD a b c) = true := by
 unfold kn zD; simp [h, al0]
theorem a1w {c : qg} (h : kn c = true) : Z2 c.2.2.2.1 c.2.2.2.2.1 c.2.2.2.2.2 = true := by
 unfold kn at h; simp only [q8, Bool.and_eq_true] at h; exact h.1
theorem a3y {l : List qg} {i : Nat} {c : qg} (h : l[i]? = some c) (hw : c.2.2.1 = 2) : ja l i = false ↔ ∃ d, l[i + 1]? = some d ∧ d.2.2.1 = 0 := by
 unfold ja
 simp only [q8, h]
 rw [if_pos hw]
 cases hd : l[i + 1]? with
 | none => simp
 | some d => simp
theorem a4O {l : List qg} {i : Nat} {c : qg} (h : l[i]? = some c) (hw : c.2.2.1 = 0) : ja l i = false ↔ 0 < i ∧ ∃ d, l[i - 1]? = some d ∧ d.2.2.1 = 2 := by
 unfold ja
 simp only [q8, h]
 rw [if_neg (by omega), if_pos hw]
 by_cases h0 : i = 0
 ·simp [h0]
 ·rw [if_neg h0]
  cases hd : l[i - 1]? with
  | none => simp
  | some d => simp; omega
theorem a3j {l : List qg} {i : Nat} {c : qg} (h : l[i]? = some c) (h2 : c.2.2.1 ≠ 2) (h0 : c.2.2.1 ≠ 0) : ja l i = false := by
 unfold ja
 simp only [q8, h]
 rw [if_neg h2, if_neg h0]
theorem xf {l : List qg} {i : Nat} {c : qg} (h : l[i]? = some c) (ha : ja l i = false) : (km l)[i]? = some c := by
 rw [V7 h]; simp [Ya, ha]
theorem YA {l : List qg} (hr : ∀ c ∈ l, kn c = true) (hp : agx l) : jw (km l) = true := by
 refine (yO _).2 fun i c hc => ?_
 have hi : i < l.length := by have := (List.getElem?_eq_some_iff.1 hc).1; rwa [kU] at this
 obtain ⟨d, hd⟩ := qF hi
 have hdr := hr d (List.mem_of_getElem? hd)
 cases ha : ja l i
 ·have hk := xf hd ha
  rw [hk] at hc; cases hc
  by_cases h2 : c.2.2.1 = 2
  ·obtain ⟨e, he, hw⟩ := (a3y hd h2).1 ha
   have hk2 : (km l)[i + 1]? = some e := xf he ((a4O he hw).2 ⟨by omega, c, by simpa using hd, h2⟩)
   exact ⟨hdr, (a3y hk h2).2 ⟨e, hk2, hw⟩, fun q => by omega⟩
  ·by_cases h0 : c.2.2.1 = 0
   ·obtain ⟨hpos, e, he, hw⟩ := (a4O hd h0).1 ha
    have hs : i - 1 + 1 = i := by omega
    have hk2 : (km l)[i - 1]? = some e := xf he ((a3y he hw).2 ⟨c, by rw [hs]; exact hd, h0⟩)
    exact ⟨hdr, (a4O hk h0).2 ⟨hpos, e, hk2, hw⟩, fun _ => ⟨e, hk2, hp (i - 1) e c he (by rw [hs]; exact hd) hw h0⟩⟩
   ·exact ⟨hdr, a3j hk h2 h0, fun q => absurd q h0⟩
 ·have hk : (km l)[i]? = some (zD d.2.2.2.1 d.2.2.2.2.1 d.2.2.2.2.2) := by rw [V7 hd]; simp [Ya, ha]
  rw [hk] at hc; cases hc
  exact ⟨ZK (a1w hdr), a3j hk (vr _ _ _) (Kn _ _ _), fun q => absurd q (Kn _ _ _)⟩
theorem a8n {c : qg} (h : kn c = true) : kn (Jn c) = true := by
 have := a1w h
 unfold kn Jn
 simp [this]
theorem adh {l : List qg} {n : Nat} {c : qg} (h : jw l = true) (hc : kn c = true) (hw : c.2.2.1 ≠ 0) (hn : n + c.2.2.1.toNat ≤ l.length) (hw0 : 0 ≤ c.2.2.1) : jw (km (wy l n c)) = true := by
 have hw2 := a2N hc
 have hlen := UY l n c
 have get : ∀ (i : Nat) (d : qg), (wy l n c)[i]? = some d → (i = n ∧ d = c) ∨ (i = n + 1 ∧ c.2.2.1 = 2 ∧ d = Jn c) ∨ (i ≠ n ∧ (c.2.2.1 = 2 → i ≠ n + 1) ∧ l[i]? = some d) := by
  intro i d hd
  unfold wy at hd
  split at hd
  ·rename_i h2
   rw [List.getElem?_set] at hd
   split at hd
   ·rename_i hi
    split at hd
    ·cases hd; exact .inr (.inl ⟨hi.symm, h2, rfl⟩)
    ·cases hd
   ·rename_i hi
    rw [List.getElem?_set] at hd
    split at hd
    ·rename_i hi2
     split at hd
     ·cases hd; exact .inl ⟨hi2.symm, rfl⟩
     ·cases hd
    ·rename_i hi2
     exact .inr (.inr ⟨fun q => hi2 q.symm, fun _ q => hi q.symm, hd⟩)
  ·rename_i h2
   rw [List.getElem?_set] at hd
   split at hd
   ·rename_i hi2
    split at hd
    ·cases hd; exact .inl ⟨hi2.symm, rfl⟩
    ·cases hd
   ·rename_i hi2
    exact .inr (.inr ⟨fun q => hi2 q.symm, fun q => absurd q h2, hd⟩)
 refine YA (fun d hd => ?_) fun i d e hd he h2 h0 => ?_
 ·obtain ⟨i, hi⟩ := List.mem_iff_getElem?.1 hd
  rcases get i d hi with ⟨_, rfl⟩ | ⟨_, _, rfl⟩ | ⟨_, _, q⟩
  ·exact hc
  ·exact a8n hc
  ·exact Ww h d (List.mem_of_getElem? q)
 ·rcases get i d hd with ⟨hi, rfl⟩ | ⟨hi, hw', rfl⟩ | ⟨hi1, hi2, q⟩
  ·rcases get (i + 1) e he with ⟨hj, rfl⟩ | ⟨hj, hw', rfl⟩ | ⟨hj1, hj2, q⟩
   ·omega
   ·rfl
   ·exact absurd (by omega) (hj2 h2)
  ·have : (Jn c).2.2.1 = 0 := rfl
   omega
  ·rcases get (i + 1) e he with ⟨hj, rfl⟩ | ⟨hj, hw', rfl⟩ | ⟨hj1, hj2, q2⟩
   ·exact absurd h0 hw
   ·exact absurd (by omega) hi1
   ·exact YC h i d e q q2 h2 h0
theorem aaJ {l : List qg} {k : Int} {c : qg} (h : jw l = true) (hc : OkC c) : jw (wY l k c).1 = true := by
 have hw := hc.w
 simp only [q8, u8r] at hw
 unfold wY
 split
 ·rename_i q
  exact adh h q.2.1 q.1 (by omega) hw.1
 ·exact h
theorem adF {l : List qg} {f t a b c : Int} (h : jw l = true) (hp : Z2 a b c = true) : jw (km (wG l f t a b c)) = true := by
 have get : ∀ (i : Nat) (d : qg), (wG l f t a b c)[i]? = some d → d = zD a b c ∨ l[i]? = some d := by
  intro i d hd
  have hi : i < l.length := by have := (List.getElem?_eq_some_iff.1 hd).1; rwa [K5] at this
  obtain ⟨e, he⟩ := qF hi
  rw [V2 he] at hd
  cases hd
  split
  ·exact .inl rfl
  ·exact .inr he
 refine YA (fun d hd => ?_) fun i d e hd he h2 h0 => ?_
 ·obtain ⟨i, hi⟩ := List.mem_iff_getElem?.1 hd
  rcases get i d hi with rfl | q
  ·exact ZK hp
  ·exact Ww h d (List.mem_of_getElem? q)
 ·rcases get i d hd with rfl | q
  ·exact absurd h2 (vr _ _ _)
  ·rcases get (i + 1) e he with rfl | q2
   ·exact absurd h0 (Kn _ _ _)
   ·exact YC h i d e q q2 h2 h0
theorem ak4 : Z2 0 0 0 = true := by decide
theorem adm {l : List qg} {n : Nat} (h : jw l = true) : jw (km (a4e l n)) = true := by
 have get : ∀ (i : Nat) (d : qg), (a4e l n)[i]? = some d → d = zD 0 0 0 ∨ l[i]? = some d := by
  intro i d hd
  have hi : i < n := by have := (List.getElem?_eq_some_iff.1 hd).1; rwa [UT] at this
  rw [a7a l hi] at hd
  cases hd
  cases hq : l[i]? with
  | none => exact .inl rfl
  | some e => exact .inr rfl
 refine YA (fun d hd => ?_) fun i d e hd he h2 h0 => ?_
 ·obtain ⟨i, hi⟩ := List.mem_iff_getElem?.1 hd
  rcases get i d hi with rfl | q
  ·exact ZK ak4
  ·exact Ww h d (List.mem_of_getElem? q)
 ·rcases get i d hd with rfl | q
  ·exact absurd h2 (vr _ _ _)
  ·rcases get (i + 1) e he with rfl | q2
   ·exact absurd h0 (Kn _ _ _)
   ·exact YC h i d e q q2 h2 h0
theorem abp (n : Int) : jw (wp n) = true := by
 have get : ∀ (i : Nat) (d : qg), (wp n)[i]? = some d → d = zD 0 0 0 := by
  intro i d hd
  unfold wp at hd
  rw [List.getElem?_replicate] at hd
  split at hd
  ·cases hd; rfl
  ·cases hd
 refine (yO _).2 fun i d hd => ?_
 have := get i d hd
 subst this
 exact ⟨ZK ak4, a3j hd (vr _ _ _) (Kn _ _ _), fun q => absurd q (Kn _ _ _)⟩
theorem aiZ (c : qg) (m : Int) : (jr c m).1.2.2 = c.2.2 := by
 unfold jr; split
 ·split
  ·rfl
  ·split <;> rfl
 ·rfl
theorem a5X {c : qg} {m : Int} (h : kn c = true) : kn (jr c m).1 = true := by
 obtain ⟨r, ⟨m1, m2⟩, w, p1, p2, p3⟩ := c
 unfold jr
 split
 ·rename_i q
  obtain ⟨q1, q2⟩ := q
  have hm : m ≠ 0 := fun e => by rw [e, akd] at q1; omega
  have hw0 : w ≠ 0 := by simp only at q2; omega
  unfold kn at h ⊢
  simp only [q8, Bool.and_eq_true] at h
  obtain ⟨h1, h2⟩ := h
  rw [if_neg hw0] at h2
  simp only [q8, Bool.and_eq_true] at h2
  obtain ⟨h3, h4, h5⟩ := h2
  split
  ·rename_i e1
   simp only at e1
   subst e1
   simp only [q8, if_true, beq_iff_eq] at h5
   subst h5
   simp only [q8, h1, h3, h4, q1, Bool.true_and]
   simp
  ·rename_i e1
   simp only at e1
   rw [if_neg e1] at h5
   simp only [q8, Bool.and_eq_true] at h5
   split
   ·rename_i e2
    simp only [q8, h1, h3, h4, h5.1, q1, Bool.true_and]
    simp
   ·simp only [q8, h1, h3, h4, h5.1, h5.2, Bool.true_and]
 ·exact h
theorem a4Y {l l' : List qg} (h : ∀ i : Nat, (l[i]?.map fun c : qg => c.2.2) = (l'[i]?.map fun c : qg => c.2.2)) (i : Nat) : ja l i = ja l' i := by
 have h0 := h i
 have h1 := h (i + 1)
 have h2 := h (i - 1)
 unfold ja
 cases a0 : l[i]? with
 | none =>
  cases b0 : l'[i]? with
  | none => rfl
  | some c' => rw [a0, b0] at h0; cases h0
 | some c =>
  cases b0 : l'[i]? with
  | none => rw [a0, b0] at h0; cases h0
  | some c' =>
   rw [a0, b0] at h0
   have e0 : c.2.2 = c'.2.2 := by simpa using h0
   simp only [q8, e0]
   have k1 : (match l[i + 1]? with
    | some d => d.2.2.1 != 0
    | none => true) = (match l'[i + 1]? with
    | some d => d.2.2.1 != 0
    | none => true) := by
    cases a1 : l[i + 1]? with
    | none => cases b1 : l'[i + 1]? with
     | none => rfl
     | some d' => rw [a1, b1] at h1; cases h1
    | some d => cases b1 : l'[i + 1]? with
     | none => rw [a1, b1] at h1; cases h1
     | some d' =>
      rw [a1, b1] at h1
      have e1 : d.2.2 = d'.2.2 := by simpa using h1
      simp only [q8, e1]
   have k2 : (match l[i - 1]? with
    | some d => d.2.2.1 != 2
    | none => true) = (match l'[i - 1]? with
    | some d => d.2.2.1 != 2
    | none => true) := by
    cases a1 : l[i - 1]? with
    | none => cases b1 : l'[i - 1]? with
     | none => rfl
     | some d' => rw [a1, b1] at h2; cases h2
    | some d => cases b1 : l'[i - 1]? with
     | none => rw [a1, b1] at h2; cases h2
     | some d' =>
      rw [a1, b1] at h2
      have e1 : d.2.2 = d'.2.2 := by simpa using h2
      simp only [q8, e1]
   by_cases q2 : c'.2.2.1 = 2
   ·rw [if_pos q2, if_pos q2]; exact k1
   ·rw [if_neg q2, if_neg q2]
    by_cases q0 : c'.2.2.1 = 0
    ·rw [if_pos q0, if_pos q0]
     by_cases qi : i = 0
     ·rw [if_pos qi, if_pos qi]
     ·rw [if_neg qi, if_neg qi]; exact k2
    ·rw [if_neg q0, if_neg q0]
theorem adS {l : List qg} {n : Nat} {c d : qg} (h : jw l = true) (hc : l[n]? = some c) (hd : kn d = true) (he : d.2.2 = c.2.2) : jw (l.set n d) = true := by
 have hn : n < l.length := (List.getElem?_eq_some_iff.1 hc).1
 have hg : ∀ i : Nat, ((l.set n d)[i]?.map fun c : qg => c.2.2) = (l[i]?.map fun c : qg => c.2.2) := by
  intro i
  by_cases q : i = n
  ·subst q; rw [List.getElem?_set_self hn, hc]; simp [he]
  ·rw [List.getElem?_set_ne (Ne.symm q)]
 have back : ∀ (i : Nat) (e : qg), (l.set n d)[i]? = some e → ∃ e', l[i]? = some e' ∧ e'.2.2 = e.2.2 ∧ (e = e' ∨ e = d) := by
  intro i e hq
  by_cases q : i = n
  ·subst q; rw [List.getElem?_set_self hn] at hq; cases hq; exact ⟨c, hc, he.symm, .inr rfl⟩
  ·rw [List.getElem?_set_ne (Ne.symm q)] at hq; exact ⟨e, hq, rfl, .inl rfl⟩
 refine (yO _).2 fun i e hq => ?_
 obtain ⟨e', h1, h2, h3⟩ := back i e hq
 obtain ⟨r1, r2, r3⟩ := (yO l).1 h i e' h1
 refine ⟨?_, (a4Y hg i).trans r2, fun hw => ?_⟩
 ·rcases h3 with rfl | rfl
  ·exact r1
  ·exact hd
 ·obtain ⟨f, f1, f2⟩ := r3 (by rw [h2]; exact hw)
  have := hg (i - 1)
  rw [f1] at this
  cases hx : (l.set n d)[i - 1]? with
  | none => rw [hx] at this; cases this
  | some x =>
   rw [hx] at this
   have e3 : x.2.2 = f.2.2 := by simpa using this
   exact ⟨x, rfl, by rw [e3, f2, h2]⟩
theorem a7X {l : List qg} {k m : Int} (h : jw l = true) : jw (jP l k m).1 = true := by
 unfold jP
 split
 ·split
  ·rename_i c hc
   exact adS h hc (a5X (Ww h c (List.mem_of_getElem? hc))) (aiZ c m)
  ·exact h
 ·exact h
set_option maxHeartbeats 0
open Go.Proofs
def yY (x0 : Int) : Option Bool :=
 bif decide (1 ≤ x0) then
 some (decide (x0 ≤ 512))
 else some false
def a62 : TEnt := ⟨84, .int .i64, [], [(.bool, [])], fun s => yY s⟩
theorem UM : qA Tryz.prog a62 := eo0 _ tn (fun s => by kernel_rfl) (by kernel_rfl)
def kJ (x4 : Y6_) (x5 : Y6_) (x6 : (List Y0_)) : Option ((Y6_ × QY) ⊕ (Unit ⊕ QY)) :=
 bif decide (x4.2.2 < x4.2.1) then
 (Zc x4.1).bind fun x7 =>
 bif decide ((1 : Nat) = (1 : Nat)) then
 bif decide (x6.length = x6.length ∧ x6.length + (1 : Nat) ≤ (5864062014805 : Nat)) then
 bif decide (x6.length + (1 : Nat) = (x6 ++ [x7]).length) then
 some (Sum.inl ((x4.1, (x4.2.1, (IntKind.i64.wrap (x4.2.2 + (1 : Int))))), (x5, (x6 ++ [x7]))))
 else none
 else none
 else none
 else kk x6 (some (Sum.inr (Sum.inr (x5, x6))))
def Yd : (Y6_ × QY) → Option (Unit ⊕ QY) := zq fun s => kJ s.1 s.2.1 s.2.2
def KP (x0 : Int) (x1 : Int) : Option (Unit ⊕ QY) :=
 (yY x0).bind fun x2 =>
 bif !x2 then
 some (Sum.inl ())
 else (yY x1).bind fun x3 =>
 bif !x3 then
 some (Sum.inl ())
 else (Yd ((x1, (x0, ((0 : Int)))), ((((0 : Int)), (((0 : Int)), x1)), []))).bind fun x4 =>
 some x4
def a8e : TEnt := ⟨44, .cons (.int .i64) (.int .i64), [], [(.tup (.cons (.cst (.pointer none)) (.cst (.int .i64 11))), []), (.tup (.cons (.ptr 0 0) (.cst (.int .i64 0))), yM)], fun s => KP s.1 s.2⟩
theorem a0S : qA Tryz.prog a8e := zH (loops := [(299594, [1, 6, 18, 19], (.cons (.int .i64) (.cons (.ptr 0 0) yk)), yM)]) (joins := []) (un := []) _ (tc Yu (tc UM tn)) (fun s => by kernel_rfl) (by kernel_rfl)
def ke (x0 : Y6_) (x1 : (List Y0_)) : Option (Int × QY) :=
 kk x1 (kk x1 (some (((↑x1.length : Int)), (x0, x1))))
def a7e : TEnt := ⟨18, .ptr 0 0, yM, [(.int .i64, yM)], fun s => ke s.1 s.2⟩
theorem y8 : qA Tryz.prog a7e := eo0 _ tn (fun s => by kernel_rfl) (by kernel_rfl)
def qC (x0 : Y6_) (x1 : (List Y0_)) : Option (Int × QY) :=
 kk x1 (some (x0.2.2, (x0, x1)))
def a5l : TEnt := ⟨19, .ptr 0 0, yM, [(.int .i64, yM)], fun s => qC s.1 s.2⟩
theorem y2 : qA Tryz.prog a5l := eo0 _ tn (fun s => by kernel_rfl) (by kernel_rfl)
def qr (x0 : Y6_) (x1 : (List Y0_)) : Option (Int × QY) :=
 kk x1 (some (x0.1, (x0, x1)))
def a9b : TEnt := ⟨22, .ptr 0 0, yM, [(.int .i64, yM)], fun s => qr s.1 s.2⟩
theorem j7 : qA Tryz.prog a9b := eo0 _ tn (fun s => by kernel_rfl) (by kernel_rfl)
def qB (x0 : Y6_) (x1 : (List Y0_)) : Option (Int × QY) :=
 kk x1 (some (x0.2.1, (x0, x1)))
def aaw : TEnt := ⟨23, .ptr 0 0, yM, [(.int .i64, yM)], fun s => qB s.1 s.2⟩
theorem jJ : qA Tryz.prog aaw := eo0 _ tn (fun s => by kernel_rfl) (by kernel_rfl)
def ZL (x0 : Int) (x1 : Y6_) (x2 : (List Y0_)) : Option (Y0_ × QY) :=
 bif decide (0 ≤ x0) then
 kk x2 (bif !decide (x0 < (↑x2.length : Int)) then
 kk x2 (some ([], (x1, x2)))
 else bif decide (0 ≤ x0) then
 bif decide (Int.toNat x0 < x2.length ∧ x2.length = x2.length) then
 kk x2 ((x2[Int.toNat x0]?).bind fun x3 =>
 (zy x3).bind fun x4 =>
 kk x2 (kk x4 (some (x4, (x1, x2)))))
 else none
 else none)
 else kk x2 (some ([], (x1, x2)))
def a75 : TEnt := ⟨67, .cons (.ptr 0 0) (.int .i64), yM, [(.sl Y3_, yM)], fun s => ZL s.1 s.2.1 s.2.2⟩
theorem ui : qA Tryz.prog a75 := eo0 _ (tc wk tn) (fun s => by kernel_rfl) (by kernel_rfl)
def wE (x0 : (Int × (Int × Y1))) (x1 : Y6_) (x2 : (List Y0_)) : Option (Bool × QY) :=
 bif decide (0 ≤ x0.1) then
 kk x2 (bif !decide (x0.1 < (↑x2.length : Int)) then
 kk x2 (some (false, (x1, x2)))
 else bif decide (0 ≤ x0.1) then
 bif decide (x0.1.toNat < x2.length ∧ x2.length = x2.length) then
 kk x2 ((x2[x0.1.toNat]?).bind fun x3 =>
 (Ji x3 x0.2.1 x0.2.2.1 x0.2.2.2.1 x0.2.2.2.2.1 x0.2.2.2.2.2.1 x0.2.2.2.2.2.2.1 x0.2.2.2.2.2.2.2.1 x0.2.2.2.2.2.2.2.2).bind fun x4 =>
 bif x4.2 then
 bif decide (0 ≤ x0.1) then
 bif decide (x0.1.toNat < x2.length ∧ x2.length = x2.length) then
 kk x2 ((x2[x0.1.toNat]?).bind fun x5 =>
 bif decide (x2.length = (x2.set x0.1.toNat x4.1).length) then
 some (x4.2, (x1, (x2.set x0.1.toNat x4.1)))
 else none)
 else none
 else none
 else kk x2 (some (x4.2, (x1, x2))))
 else none
 else none)
 else kk x2 (some (false, (x1, x2)))
def aaR : TEnt := ⟨51, .cons (.ptr 0 0) (.cons (.int .i64) (.cons (.int .i64) (.agg a0P))), yM, [(.bool, yM)], fun s => wE s.1 s.2.1 s.2.2⟩
theorem a0O : qA Tryz.prog aaR := eo0 _ (tc a1g tn) (fun s => by kernel_rfl) (by kernel_rfl)
def wS (x0 : Y6_) (x1 : Y6_) (x2 : (List Y0_)) : Option (Bool × QY) :=
 bif decide (0 ≤ x0.1) then
 kk x2 (bif !decide (x0.1 < (↑x2.length : Int)) then
 kk x2 (some (false, (x1, x2)))
 else bif decide (0 ≤ x0.1) then
 bif decide (x0.1.toNat < x2.length ∧ x2.length = x2.length) then
 kk x2 ((x2[x0.1.toNat]?).bind fun x3 =>
 (Zs x3 x0.2.1 x0.2.2).bind fun x4 =>
 bif x4.2 then
 bif decide (0 ≤ x0.1) then
 bif decide (x0.1.toNat < x2.length ∧ x2.length = x2.length) then
 kk x2 ((x2[x0.1.toNat]?).bind fun x5 =>
 bif decide (x2.length = (x2.set x0.1.toNat x4.1).length) then
 some (x4.2, (x1, (x2.set x0.1.toNat x4.1)))
 else none)
 else none
 else none
 else kk x2 (some (x4.2, (x1, x2))))
 else none
 else none)
 else kk x2 (some (false, (x1, x2)))
def a6P : TEnt := ⟨88, .cons (.ptr 0 0) (.cons (.int .i64) (.cons (.int .i64) (.int .i32))), yM, [(.bool, yM)], fun s => wS s.1 s.2.1 s.2.2⟩
theorem a0a : qA Tryz.prog a6P := eo0 _ (tc uL tn) (fun s => by kernel_rfl) (by kernel_rfl)
def zI (x0 : (Int × (Int × (Int × Y6_)))) (x1 : Y6_) (x2 : (List Y0_)) : Option QY :=
 bif decide (0 ≤ x0.1) then
 kk x2 (bif !decide (x0.1 < (↑x2.length : Int)) then
 kk x2 (some (x1, x2))
 else bif decide (0 ≤ x0.1) then
 bif decide (x0.1.toNat < x2.length ∧ x2.length = x2.length) then
 kk x2 ((x2[x0.1.toNat]?).bind fun x3 =>
 (yg x3 x0.2.1 x0.2.2.1 x0.2.2.2.1 x0.2.2.2.2.1 x0.2.2.2.2.2).bind fun x4 =>
 (wL x0.2.2.2.1 x0.2.2.2.2.1 x0.2.2.2.2.2).bind fun x5 =>
 bif x5 then
 bif decide (0 ≤ x0.1) then
 bif decide (x0.1.toNat < x2.length ∧ x2.length = x2.length) then
 kk x2 ((x2[x0.1.toNat]?).bind fun x6 =>
 bif decide (x2.length = (x2.set x0.1.toNat x4).length) then
 some (x1, (x2.set x0.1.toNat x4))
 else none)
 else none
 else none
 else kk x2 (some (x1, x2)))
 else none
 else none)
 else kk x2 (some (x1, x2))
def a35 : TEnt := ⟨89, .cons (.ptr 0 0) (.cons (.int .i64) ai9), yM, [(.tup .nil, yM)], fun s => zI s.1 s.2.1 s.2.2⟩
theorem Jq : qA Tryz.prog a35 := eo0 _ (tc Za (tc Jr tn)) (fun s => by kernel_rfl) (by kernel_rfl)
def zh (x0 : (Int × Int)) (x1 : Y6_) (x2 : (List Y0_)) : Option QY :=
 kk x2 (kk x2 (some (((if IntKind.i64.wrap ((↑x2.length : Int) - (1 : Int)) < if (0 : Int) > x0.1 then (0 : Int) else x0.1 then IntKind.i64.wrap ((↑x2.length : Int) - (1 : Int)) else if (0 : Int) > x0.1 then (0 : Int) else x0.1), ((if IntKind.i64.wrap (x1.2.2 - (1 : Int)) < if (0 : Int) > x0.2 then (0 : Int) else x0.2 then IntKind.i64.wrap (x1.2.2 - (1 : Int)) else if (0 : Int) > x0.2 then (0 : Int) else x0.2), x1.2.2)), x2)))
def a7k : TEnt := ⟨24, .cons (.ptr 0 0) yk, yM, [(.tup .nil, yM)], fun s => zh s.1 s.2.1 s.2.2⟩
theorem jY : qA Tryz.prog a7k := eo0 _ tn (fun s => by kernel_rfl) (by kernel_rfl)
def zP (x4 : (Int × Y6_)) (x5 : Y6_) (x6 : (List Y0_)) (x7 : Y6_) (x8 : (List Y0_)) : Option (((Int × Y6_) × a9j) ⊕ QY) :=
 bif decide (x4.2.2.2 < x4.2.2.1) then
 (Zc x5.2.2).bind fun x9 =>
 (yg x9 (0 : Int) x5.2.2 x7.1 x7.2.1 x7.2.2).bind fun x10 =>
 bif decide ((1 : Nat) = (1 : Nat)) then
 bif decide (x8.length = x8.length ∧ x8.length + (1 : Nat) ≤ (5864062014805 : Nat)) then
 kk x6 (bif decide (x8.length + (1 : Nat) = (x8 ++ [x10]).length) then
 some (Sum.inl ((x4.1, (x4.2.1, (x4.2.2.1, (IntKind.i64.wrap (x4.2.2.2 + (1 : Int)))))), (x5, (x6, (x7, (x8 ++ [x10]))))))
 else none)
 else none
 else none
 else bif decide (0 ≤ x4.1) then
 kk x6 (kk x6 (bif decide (List.length x6 = List.length x6 ∧ 0 ≤ (Option.some x4.1).getD (0 : Int) ∧ (Option.some x4.1).getD 0 ≤ (↑(List.length x6) : Int) ∧ (↑(List.length x6) : Int) = (↑(List.length x6) : Int) ∧ (↑(List.length x6) : Int).toNat ≤ List.length x6) then
 bif decide ((Option.some x4.1).getD (0 : Int) = (↑(List.length x6) : Int)) then
 kk x8 (bif decide ((0 : Nat) = (0 : Nat) ∧ (0 : Nat) + x8.length ≤ (5864062014805 : Nat)) then
 bif decide ((0 : Nat) + x8.length = ([] ++ x8).length) then
 some (Sum.inr (x5, ([] ++ x8)))
 else none
 else none)
 else bif decide ((Option.some x4.1).getD (0 : Int) = (0 : Int) ∧ (↑(List.length x6) : Int) = (↑(List.length x6) : Int)) then
 kk x8 (bif decide (List.length x6 = List.length x6 ∧ List.length x6 + x8.length ≤ (5864062014805 : Nat)) then
 bif decide (List.length x6 + x8.length = (x6 ++ x8).length) then
 some (Sum.inr (x5, (x6 ++ x8)))
 else none
 else none)
 else kk x8 (bif decide ((List.take ((↑(List.length x6) : Int).toNat - ((Option.some x4.1).getD (0 : Int)).toNat) (List.drop ((Option.some x4.1).getD (0 : Int)).toNat x6)).length + x8.length ≤ (5864062014805 : Nat)) then
 bif decide (x8.length = (0 : Nat)) then
 none
 else bif decide ((List.take ((↑(List.length x6) : Int).toNat - ((Option.some x4.1).getD (0 : Int)).toNat) (List.drop ((Option.some x4.1).getD (0 : Int)).toNat x6)).length + x8.length = (List.take ((↑(List.length x6) : Int).toNat - ((Option.some x4.1).getD (0 : Int)).toNat) (List.drop ((Option.some x4.1).getD (0 : Int)).toNat x6) ++ x8).length) then
 some (Sum.inr (x5, (List.take ((↑(List.length x6) : Int).toNat - ((Option.some x4.1).getD (0 : Int)).toNat) (List.drop ((Option.some x4.1).getD (0 : Int)).toNat x6) ++ x8)))
 else none
 else none)
 else none))
 else bif decide ((0 : Nat) < List.length x6 ∧ List.length x6 = List.length x6) then
 bif decide ((0 : Int) ≤ IntKind.i64.wrap (x4.2.1 + x4.1) ∧ (IntKind.i64.wrap (x4.2.1 + x4.1)).toNat ≤ List.length x6) then
 kk x6 (bif decide (x8.length = x8.length ∧ x8.length + (List.take (IntKind.i64.wrap (x4.2.1 + x4.1)).toNat (List.drop (0 : Nat) x6)).length ≤ (5864062014805 : Nat)) then
 bif decide (x8.length + (List.take (IntKind.i64.wrap (x4.2.1 + x4.1)).toNat (List.drop (0 : Nat) x6)).length = (x8 ++ List.take (IntKind.i64.wrap (x4.2.1 + x4.1)).toNat (List.drop (0 : Nat) x6)).length) then
 some (Sum.inr (x5, (x8 ++ List.take (IntKind.i64.wrap (x4.2.1 + x4.1)).toNat (List.drop (0 : Nat) x6))))
 else none
 else none)
 else none
 else none
def Kj : ((Int × Y6_) × a9j) → Option QY := zq fun s => zP s.1 s.2.1 s.2.2.1 s.2.2.2.1 s.2.2.2.2
def yR (x0 : (Int × Y6_)) (x1 : Y6_) (x2 : (List Y0_)) : Option QY :=
 (wL x0.2.1 x0.2.2.1 x0.2.2.2).bind fun x3 =>
 bif !x3 then
 kk x2 (some (x1, x2))
 else kk x2 (kk x2 ((Kj (((if (↑x2.length : Int) < if IntKind.i64.wrap ((0 : Int) - (↑x2.length : Int)) > x0.1 then IntKind.i64.wrap ((0 : Int) - (↑x2.length : Int)) else x0.1 then (↑x2.length : Int) else if IntKind.i64.wrap ((0 : Int) - (↑x2.length : Int)) > x0.1 then IntKind.i64.wrap ((0 : Int) - (↑x2.length : Int)) else x0.1), (((↑x2.length : Int)), ((if IntKind.i64.wrap ((0 : Int) - if (↑x2.length : Int) < if IntKind.i64.wrap ((0 : Int) - (↑x2.length : Int)) > x0.1 then IntKind.i64.wrap ((0 : Int) - (↑x2.length : Int)) else x0.1 then (↑x2.length : Int) else if IntKind.i64.wrap ((0 : Int) - (↑x2.length : Int)) > x0.1 then IntKind.i64.wrap ((0 : Int) - (↑x2.length : Int)) else x0.1) > if (↑x2.length : Int) < if IntKind.i64.wrap ((0 : Int) - (↑x2.length : Int)) > x0.1 then IntKind.i64.wrap ((0 : Int) - (↑x2.length : Int)) else x0.1 then (↑x2.length : Int) else if IntKind.i64.wrap ((0 : Int) - (↑x2.length : Int)) > x0.1 then IntKind.i64.wrap ((0 : Int) - (↑x2.length : Int)) else x0.1 then IntKind.i64.wrap ((0 : Int) - if (↑x2.length : Int) < if IntKind.i64.wrap ((0 : Int) - (↑x2.length : Int)) > x0.1 then IntKind.i64.wrap ((0 : Int) - (↑x2.length : Int)) else x0.1 then (↑x2.length : Int) else if IntKind.i64.wrap ((0 : Int) - (↑x2.length : Int)) > x0.1 then IntKind.i64.wrap ((0 : Int) - (↑x2.length : Int)) else x0.1) else if (↑x2.length : Int) < if IntKind.i64.wrap ((0 : Int) - (↑x2.length : Int)) > x0.1 then IntKind.i64.wrap ((0 : Int) - (↑x2.length : Int)) else x0.1 then (↑x2.length : Int) else if IntKind.i64.wrap ((0 : Int) - (↑x2.length : Int)) > x0.1 then IntKind.i64.wrap ((0 : Int) - (↑x2.length : Int)) else x0.1), ((0 : Int))))), (x1, (x2, (x0.2, []))))).bind fun x4 =>
 some x4))
def a0Y : TEnt := ⟨95, .cons (.ptr 0 0) (.cons (.int .i64) (.agg Y8_)), yM, [(.tup .nil, yM)], fun s => yR s.1 s.2.1 s.2.2⟩
theorem xn : qA Tryz.prog a0Y := zH (loops := [(19173962, [0, 1, 5, 6, 7, 29, 30], (.cons (.ptr 0 0) (.cons (.int .i64) (.cons (.ptr 2 0) (.cons (.int .i64) (.cons (.own 3) yk))))), [.st (.cons (.int .i64) (.cons (.int .i64) (.cons (.own 1) (.int .i64)))), .li (.sl Y3_) 104 false, .st Y8_, .li (.sl Y3_) 104 false])]) (joins := []) (un := []) _ (tc Za (tc Yu (tc Jr tn))) (fun s => by kernel_rfl) (by kernel_rfl)
set_option maxHeartbeats 4000000
abbrev qu : Type := List (List qg)
def kr (L : qu) (k : Int) (f : List qg → List qg × Bool) : Bool × qu :=
 if 0 ≤ k ∧ k < L.length then (match L[k.toNat]? with
  | some l => if (f l).2 = true then (true, L.set k.toNat (f l).1) else (false, L)
  | none => (false, L)) else (false, L)
theorem jF {L : qu} {k : Int} (f : List qg → List qg × Bool) (h : ¬ (0 ≤ k ∧ k < L.length)) : kr L k f = (false, L) := by unfold kr; rw [if_neg h]
theorem Va {L : qu} {n : Nat} {l : List qg} (f : List qg → List qg × Bool) (h : L[n]? = some l) : kr L (n : Int) f = if (f l).2 = true then (true, L.set n (f l).1) else (false, L) := by
 have := (List.getElem?_eq_some_iff.1 h).1
 unfold kr
 rw [if_pos ⟨by omega, by omega⟩, Int.toNat_natCast]
 simp only [q8, h]
def Zr (L : qu) : Prop := ∀ l ∈ L, l.length ≤ 1000000
def Zj (n : Int) : Prop := -9223372036854775808 ≤ n ∧ n < 9223372036854775808
theorem ae5 {L : qu} (hL : Zr L) (k at' : Int) (ha : Zj at') {c : qg} (hc : OkC c) (g : Int × (Int × Int)) :
  wE (k, at', c.1, c.2.1.1, c.2.1.2, c.2.2.1, c.2.2.2.1, c.2.2.2.2.1, c.2.2.2.2.2) g L = some ((kr L k fun l => wY l at' c).1, (g, (kr L k fun l => wY l at' c).2)) := by
 unfold wE
 by_cases h1 : 0 ≤ k
 ·by_cases h2 : k < L.length
  ·obtain ⟨n, rfl⟩ : ∃ n : Nat, k = n := ⟨k.toNat, by omega⟩
   obtain ⟨l, hl⟩ := qF (l := L) (i := n) (by omega)
   have hp := aeW (k := at') (hL l (List.mem_of_getElem? hl)) ha hc
   rw [Va _ hl]
   cases hb : (wY l at' c).2
   ·simp (disch := omega) only [q8, qh, qd, qf, qj, qH, zw, qp, and_true, hl, hp, hb, Bool.false_eq_true, if_false]
   ·simp (disch := omega) only [q8, qh, qd, qf, qj, qH, zw, qp, and_true, hl, hp, hb, List.length_set, if_true]
  ·rw [jF _ (by omega)]
   simp (disch := omega) only [q8, qh, qm, qd, qf, kx, qp, and_true]
 ·rw [jF _ (by omega)]
  simp (disch := omega) only [q8, qh, qm, qd, qf, zw, qp, and_true]
theorem YO {L : qu} (hL : Zr L) (k at' m : Int) (ha : Zj at') (g : Int × (Int × Int)) :
  wS (k, at', m) g L = some ((kr L k fun l => jP l at' m).1, (g, (kr L k fun l => jP l at' m).2)) := by
 unfold wS
 by_cases h1 : 0 ≤ k
 ·by_cases h2 : k < L.length
  ·obtain ⟨n, rfl⟩ : ∃ n : Nat, k = n := ⟨k.toNat, by omega⟩
   obtain ⟨l, hl⟩ := qF (l := L) (i := n) (by omega)
   have hp := a5v (hL l (List.mem_of_getElem? hl)) at' m ha
   rw [Va _ hl]
   cases hb : (jP l at' m).2
   ·simp (disch := omega) only [q8, qh, qd, qf, qj, qH, zw, qp, and_true, hl, hp, hb, Bool.false_eq_true, if_false]
   ·simp (disch := omega) only [q8, qh, qd, qf, qj, qH, zw, qp, and_true, hl, hp, hb, List.length_set, if_true]
  ·rw [jF _ (by omega)]
   simp (disch := omega) only [q8, qh, qm, qd, qf, kx, qp, and_true]
 ·rw [jF _ (by omega)]
  simp (disch := omega) only [q8, qh, qm, qd, qf, zw, qp, and_true]
theorem a7x {L : qu} (hL : Zr L) (k f t a b c : Int) (g : Int × (Int × Int)) :
  zI (k, f, t, a, b, c) g L = some (g, (kr L k fun l => (km (wG l f t a b c), Z2 a b c)).2) := by
 unfold zI
 by_cases h1 : 0 ≤ k
 ·by_cases h2 : k < L.length
  ·obtain ⟨n, rfl⟩ : ∃ n : Nat, k = n := ⟨k.toNat, by omega⟩
   obtain ⟨l, hl⟩ := qF (l := L) (i := n) (by omega)
   have hp := a51 (hL l (List.mem_of_getElem? hl)) f t a b c
   have hq := Ul a b c
   rw [Va _ hl]
   cases hb : Z2 a b c
   ·simp (disch := omega) only [q8, qh, qd, qf, qj, qH, zw, qp, and_true, hl, hp, hq, hb, Bool.false_eq_true, if_false]
   ·simp (disch := omega) only [q8, qh, qd, qf, qj, qH, zw, qp, and_true, hl, hp, hq, hb, List.length_set, if_true]
  ·rw [jF _ (by omega)]
   simp (disch := omega) only [q8, qh, qm, qd, qf, kx, qp, and_true]
 ·rw [jF _ (by omega)]
  simp (disch := omega) only [q8, qh, qm, qd, qf, zw, qp, and_true]
set_option maxHeartbeats 0
open Go.Proofs
def kq (x2 : (Int × Int)) (x3 : Y6_) (x4 : (List Y0_)) (x5 : Y6_) (x6 : (List Y0_)) : Option (((Int × Int) × a9j) ⊕ a9j) :=
 bif decide (x2.2 < x2.1) then
 bif decide (0 ≤ x2.2) then
 bif decide (x2.2.toNat < List.length x4 ∧ List.length x4 = List.length x4) then
 kk x4 ((x4[x2.2.toNat]?).bind fun x7 =>
 (zy x7).bind fun x8 =>
 kk x8 (bif decide ((1 : Nat) = (1 : Nat)) then
 bif decide (x6.length = x6.length ∧ x6.length + (1 : Nat) ≤ (5864062014805 : Nat)) then
 bif decide (x6.length + (1 : Nat) = (x6 ++ [x8]).length) then
 kk x4 (kk x4 (some (Sum.inl ((x2.1, (IntKind.i64.wrap (x2.2 + (1 : Int)))), (x3, (x4, (x5, (x6 ++ [x8]))))))))
 else none
 else none
 else none))
 else none
 else none
 else kk x6 (kk x4 (some (Sum.inr (x3, (x4, (x5, x6))))))
def JE : ((Int × Int) × a9j) → Option a9j := zq fun s => kq s.1 s.2.1 s.2.2.1 s.2.2.2.1 s.2.2.2.2
def Zy (x0 : Y6_) (x1 : (List Y0_)) : Option a9j :=
 kk x1 (kk x1 (kk x1 ((JE ((((↑x1.length : Int)), ((0 : Int))), (x0, (x1, (x0, []))))).bind fun x2 =>
 some x2)))
def a6x : TEnt := ⟨47, .ptr 0 0, yM, [(.ptr 2 0, alT)], fun s => Zy s.1 s.2⟩
theorem uP : qA Tryz.prog a6x := zH (loops := [(299594, [3, 21, 22, 23], (.cons (.ptr 2 0) (.cons (.own 1) yk)), alT)]) (joins := []) (un := []) _ (tc wk tn) (fun s => by kernel_rfl) (by kernel_rfl)
def kM (x2 : Y0_) (x3 : Y0_) (x4 : Int) : Option ((Y0_ × (Y0_ × Int)) ⊕ Bool) :=
 bif decide (x4 < (↑(List.length x2) : Int)) then
 bif decide (0 ≤ x4) then
 (x2[x4.toNat]?).bind fun x5 =>
 bif decide (0 ≤ x4) then
 (x3[x4.toNat]?).bind fun x6 =>
 bif !(x5.1 == x6.1 && (x5.2.1.1 == x6.2.1.1 && (x5.2.1.2 == x6.2.1.2 && true) && (x5.2.2.1 == x6.2.2.1 && (x5.2.2.2.1 == x6.2.2.2.1 && (x5.2.2.2.2.1 == x6.2.2.2.2.1 && (x5.2.2.2.2.2 == x6.2.2.2.2.2 && true)) && true)))) then
 some (Sum.inr false)
 else some (Sum.inl (x2, (x3, (IntKind.i64.wrap (x4 + (1 : Int))))))
 else none
 else none
 else some (Sum.inr true)
def Yk : (Y0_ × (Y0_ × Int)) → Option Bool := zq fun s => kM s.1 s.2.1 s.2.2
def KL (x0 : Y0_) (x1 : Y0_) : Option Bool :=
 bif (↑(List.length x0) : Int) != (↑x1.length : Int) then
 some false
 else (Yk (x0, (x1, ((0 : Int))))).bind fun x2 =>
 some x2
def a8a : TEnt := ⟨110, .cons (.sl Y2_) (.sl Y2_), [], [(.bool, [])], fun s => KL s.1 s.2⟩
theorem a1p : qA Tryz.prog a8a := zH (loops := [(37450, [0, 1, 5], (.cons (.sl Y2_) (.cons (.sl Y2_) (.int .i64))), [])]) (joins := []) (un := []) _ tn (fun s => by kernel_rfl) (by kernel_rfl)
def KH (x0 : Int) (x1 : Int) : Option Bool :=
 bif decide (1 ≤ x0) then
 bif decide (x0 ≤ 512) then
 bif decide (1 ≤ x1) then
 some (decide (x1 ≤ 512))
 else some false
 else some false
 else some false
def a9n : TEnt := ⟨28, .cons (.int .i64) (.int .i64), [], [(.bool, [])], fun s => KH s.1 s.2⟩
theorem a1c : qA Tryz.prog a9n := eo0 _ tn (fun s => by kernel_rfl) (by kernel_rfl)
def j0 (x2 : Y6_) (x3 : (Int × Int)) (x4 : (Int × Int)) (x5 : (List Y0_)) : Option ((Y6_ × ((Int × Int) × uR)) ⊕ uR) :=
 bif decide (x2.2.2 < x2.1) then
 (QD x2.2.1).bind fun x6 =>
 bif decide ((1 : Nat) = (1 : Nat)) then
 bif decide (x5.length = x5.length ∧ x5.length + (1 : Nat) ≤ (5864062014805 : Nat)) then
 bif decide (x5.length + (1 : Nat) = (x5 ++ [x6]).length) then
 some (Sum.inl ((x2.1, (x2.2.1, (IntKind.i64.wrap (x2.2.2 + (1 : Int))))), (x3, (x4, (x5 ++ [x6])))))
 else none
 else none
 else none
 else kk x5 (some (Sum.inr (x4, x5)))
def V1 : (Y6_ × ((Int × Int) × uR)) → Option uR := zq fun s => j0 s.1 s.2.1 s.2.2.1 s.2.2.2
def Wy (x0 : Int) (x1 : Int) : Option uR :=
 (V1 ((x0, (x1, ((0 : Int)))), ((((0 : Int)), ((0 : Int))), ((((0 : Int)), ((0 : Int))), [])))).bind fun x2 =>
 some x2
def aeA : TEnt := ⟨45, .cons (.int .i64) (.int .i64), [], [(.agg (.cons (.own 0) yk), [.li (.sl Y2_) 118 false])], fun s => Wy s.1 s.2⟩
theorem a3h : qA Tryz.prog aeA := zH (loops := [(4682, [0, 1, 4, 5, 6], (.cons (.int .i64) (.cons (.int .i64) ajC)), [.st ahn, .st (.cons (.own 2) yk), .li (.sl Y2_) 118 false])]) (joins := []) (un := []) _ (tc vS tn) (fun s => by kernel_rfl) (by kernel_rfl)
def ko (x0 : (List Y0_)) (x1 : Int) (x2 : Int) : Option Int :=
 bif (↑(List.length x0) : Int) == 0 then
 some ((0 : Int))
 else (x0[(0 : Nat)]?).bind fun x3 =>
 some ((↑(List.length x3) : Int))
def aav : TEnt := ⟨54, .agg Z3, [], [(.int .i64, [])], fun s => ko s.1 s.2.1 s.2.2⟩
theorem wt : qA Tryz.prog aav := eo0 _ tn (fun s => by kernel_rfl) (by kernel_rfl)
def yI (x0 : we) (x1 : Int) : Option Bool :=
 bif decide (0 ≤ x1) then
 some (decide (x1 < (↑x0.1.length : Int)))
 else some false
def aea : TEnt := ⟨108, .cons (.agg Z3) (.int .i64), [], [(.bool, [])], fun s => yI s.1 s.2⟩
theorem Jg : qA Tryz.prog aea := eo0 _ tn (fun s => by kernel_rfl) (by kernel_rfl)
def kH (x3 : (Int × (Y0_ × Int))) (x4 : we) (x5 : (Int × Int)) (x6 : (List Y0_)) : Option (((Int × (Y0_ × Int)) × (we × uR)) ⊕ we) :=
 bif decide (x3.2.2 < (↑x4.1.length : Int)) then
 bif x3.2.2 == x3.1 then
 bif decide ((0 : Nat) = (0 : Nat) ∧ (0 : Nat) + x3.2.1.length ≤ (4398046511104 : Nat)) then
 bif decide (([] ++ x3.2.1).length = (0 : Nat) + x3.2.1.length) then
 bif decide ((1 : Nat) = (1 : Nat)) then
 bif decide (x6.length = x6.length ∧ x6.length + (1 : Nat) ≤ (5864062014805 : Nat)) then
 bif decide (x6.length + (1 : Nat) = (x6 ++ [[] ++ x3.2.1]).length) then
 some (Sum.inl ((x3.1, (x3.2.1, (IntKind.i64.wrap (x3.2.2 + (1 : Int))))), (x4, (x5, (x6 ++ [[] ++ x3.2.1])))))
 else none
 else none
 else none
 else none
 else none
 else bif decide (0 ≤ x3.2.2) then
 (x4.1[x3.2.2.toNat]?).bind fun x7 =>
 bif decide ((1 : Nat) = (1 : Nat)) then
 bif decide (x6.length = x6.length ∧ x6.length + (1 : Nat) ≤ (5864062014805 : Nat)) then
 bif decide (x6.length + (1 : Nat) = (x6 ++ [x7]).length) then
 some (Sum.inl ((x3.1, (x3.2.1, (IntKind.i64.wrap (x3.2.2 + (1 : Int))))), (x4, (x5, (x6 ++ [x7])))))
 else none
 else none
 else none
 else none
 else kk x6 (some (Sum.inr (x6, x4.2)))
def Yg : ((Int × (Y0_ × Int)) × (we × uR)) → Option we := zq fun s => kH s.1 s.2.1 s.2.2.1 s.2.2.2
def yC (x0 : we) (x1 : Int) (x2 : Y0_) : Option we :=
 (Yg ((x1, (x2, ((0 : Int)))), (x0, ((((0 : Int)), ((0 : Int))), [])))).bind fun x3 =>
 some x3
def aaW : TEnt := ⟨112, .cons (.agg Z3) (.cons (.int .i64) (.sl Y2_)), [], [(.agg Z3, [])], fun s => yC s.1 s.2.1 s.2.2⟩
theorem ZX : qA Tryz.prog aaW := zH (loops := [(4682, [1, 2, 3, 6, 7, 8], (.cons (.int .i64) (.cons (.sl Y2_) (.cons (.ptr 0 0) (.cons (.ptr 1 0) (.cons (.own 2) (.int .i64)))))), [.st Z3, .st ahn, .li (.sl Y2_) 118 false])]) (joins := []) (un := []) _ tn (fun s => by kernel_rfl) (by kernel_rfl)
def yP (x0 : we) (x1 : Int) (x2 : Int) (x3 : Int) (x4 : Int) (x5 : Int) (x6 : Int) (x7 : Int) (x8 : Int) (x9 : Int) : Option (we × Bool) :=
 (yI x0 x1).bind fun x10 =>
 bif !x10 then
 some (x0, false)
 else bif decide (0 ≤ x1) then
 (x0.1[Int.toNat x1]?).bind fun x11 =>
 (WX x11 x2 x3 x4 x5 x6 x7 x8 x9).bind fun x12 =>
 (yC x0 x1 x12.1).bind fun x13 =>
 some (x13, x12.2)
 else none
def adf : TEnt := ⟨60, .cons (.agg Z3) (.cons (.int .i64) (.cons (.int .i64) (.agg Xs))), [], [(.tup (.cons (.agg Z3) .bool), [])], fun s => yP s.1 s.2.1 s.2.2.1 s.2.2.2.1 s.2.2.2.2.1 s.2.2.2.2.2.1 s.2.2.2.2.2.2.1 s.2.2.2.2.2.2.2.1 s.2.2.2.2.2.2.2.2.1 s.2.2.2.2.2.2.2.2.2⟩
theorem a4G : qA Tryz.prog adf := eo0 _ (tc a2W (tc Jg (tc ZX tn))) (fun s => by kernel_rfl) (by kernel_rfl)
def Z8 (x0 : we) (x1 : Int) (x2 : Int) (x3 : Int) : Option (we × Bool) :=
 (yI x0 x1).bind fun x4 =>
 bif !x4 then
 some (x0, false)
 else bif decide (0 ≤ x1) then
 (x0.1[Int.toNat x1]?).bind fun x5 =>
 (KU x5 x2 x3).bind fun x6 =>
 (yC x0 x1 x6.1).bind fun x7 =>
 some (x7, x6.2)
 else none
def a9x : TEnt := ⟨87, .cons (.agg Z3) (.cons (.int .i64) yk), [], [(.tup (.cons (.agg Z3) .bool), [])], fun s => Z8 s.1 s.2.1 s.2.2.1 s.2.2.2⟩
theorem a17 : qA Tryz.prog a9x := eo0 _ (tc a0F (tc Jg (tc ZX tn))) (fun s => by kernel_rfl) (by kernel_rfl)
def Zl (x0 : we) (x1 : Int) (x2 : Int) (x3 : Int) (x4 : Int) (x5 : Int) (x6 : Int) : Option we :=
 (yI x0 x1).bind fun x7 =>
 bif !x7 then
 some x0
 else (wP x4 x5 x6).bind fun x8 =>
 bif !x8 then
 some x0
 else bif decide (0 ≤ x1) then
 (x0.1[Int.toNat x1]?).bind fun x9 =>
 (wN x9 x2 x3 x4 x5 x6).bind fun x10 =>
 (yC x0 x1 x10).bind fun x11 =>
 some x11
 else none
def a6a : TEnt := ⟨90, .cons (.agg Z3) (.cons (.int .i64) ai9), [], [(.agg Z3, [])], fun s => Zl s.1 s.2.1 s.2.2.1 s.2.2.2.1 s.2.2.2.2.1 s.2.2.2.2.2.1 s.2.2.2.2.2.2⟩
theorem XQ : qA Tryz.prog a6a := eo0 _ (tc QP (tc Wc (tc Jg (tc ZX tn)))) (fun s => by kernel_rfl) (by kernel_rfl)
def Q4 (x0 : Int) (x1 : Int) : Option Int :=
 bif decide (x1 ≤ x0) then
 bif decide (IntKind.i64.wrap (x1 - (1 : Int)) < 0) then
 some ((0 : Int))
 else some (IntKind.i64.wrap (x1 - (1 : Int)))
 else bif decide (x0 < 0) then
 some ((0 : Int))
 else some x0
def a7K : TEnt := ⟨109, .cons (.int .i64) (.int .i64), [], [(.int .i64, [])], fun s => Q4 s.1 s.2⟩
theorem uH : qA Tryz.prog a7K := eo0 _ tn (fun s => by kernel_rfl) (by kernel_rfl)
def KR (x0 : we) (x1 : Int) (x2 : Int) : Option we :=
 bif (↑x0.1.length : Int) == 0 then
 some x0
 else (Q4 x1 (↑x0.1.length : Int)).bind fun x3 =>
 (ko x0.1 x0.2.1 x0.2.2).bind fun x4 =>
 (Q4 x2 x4).bind fun x5 =>
 some (x0.1, (x3, x5))
def abk : TEnt := ⟨56, .cons (.agg Z3) yk, [], [(.agg Z3, [])], fun s => KR s.1 s.2.1 s.2.2⟩
theorem a0g : qA Tryz.prog abk := eo0 _ (tc wt (tc uH tn)) (fun s => by kernel_rfl) (by kernel_rfl)
def kf (x8 : Y6_) (x9 : we) (x10 : Y6_) (x11 : (Int × Int)) (x12 : (List Y0_)) : Option ((Y6_ × (we × (Y6_ × uR))) ⊕ we) :=
 bif decide (x8.2.2 < x8.2.1) then
 bif decide ((0 : Int) ≤ IntKind.i64.wrap (x8.2.2 + x8.1)) then
 bif decide (IntKind.i64.wrap (x8.2.2 + x8.1) < x8.2.1) then
 bif decide ((0 : Int) ≤ IntKind.i64.wrap (x8.2.2 + x8.1)) then
 (x9.1[(IntKind.i64.wrap (x8.2.2 + x8.1)).toNat]?).bind fun x13 =>
 bif decide ((1 : Nat) = (1 : Nat)) then
 bif decide (x12.length = x12.length ∧ x12.length + (1 : Nat) ≤ (5864062014805 : Nat)) then
 bif decide (x12.length + (1 : Nat) = (x12 ++ [x13]).length) then
 some (Sum.inl ((x8.1, (x8.2.1, (IntKind.i64.wrap (x8.2.2 + (1 : Int))))), (x9, (x10, (x11, (x12 ++ [x13]))))))
 else none
 else none
 else none
 else none
 else (ko x9.1 x9.2.1 x9.2.2).bind fun x13 =>
 (QD x13).bind fun x14 =>
 (ko x9.1 x9.2.1 x9.2.2).bind fun x15 =>
 (wN x14 (0 : Int) x15 x10.1 x10.2.1 x10.2.2).bind fun x16 =>
 bif decide ((1 : Nat) = (1 : Nat)) then
 bif decide (x12.length = x12.length ∧ x12.length + (1 : Nat) ≤ (5864062014805 : Nat)) then
 bif decide (x12.length + (1 : Nat) = (x12 ++ [x16]).length) then
 some (Sum.inl ((x8.1, (x8.2.1, (IntKind.i64.wrap (x8.2.2 + (1 : Int))))), (x9, (x10, (x11, (x12 ++ [x16]))))))
 else none
 else none
 else none
 else (ko x9.1 x9.2.1 x9.2.2).bind fun x13 =>
 (QD x13).bind fun x14 =>
 (ko x9.1 x9.2.1 x9.2.2).bind fun x15 =>
 (wN x14 (0 : Int) x15 x10.1 x10.2.1 x10.2.2).bind fun x16 =>
 bif decide ((1 : Nat) = (1 : Nat)) then
 bif decide (x12.length = x12.length ∧ x12.length + (1 : Nat) ≤ (5864062014805 : Nat)) then
 bif decide (x12.length + (1 : Nat) = (x12 ++ [x16]).length) then
 some (Sum.inl ((x8.1, (x8.2.1, (IntKind.i64.wrap (x8.2.2 + (1 : Int))))), (x9, (x10, (x11, (x12 ++ [x16]))))))
 else none
 else none
 else none
 else kk x12 (some (Sum.inr (x12, x9.2)))
def Qb : (Y6_ × (we × (Y6_ × uR))) → Option we := zq fun s => kf s.1 s.2.1 s.2.2.1 s.2.2.2.1 s.2.2.2.2
def Qr (x0 : we) (x1 : Int) (x2 : Int) (x3 : Int) (x4 : Int) : Option we :=
 (wP x2 x3 x4).bind fun x5 =>
 bif !x5 then
 some x0
 else Option.bind (
 bif decide ((↑x0.1.length : Int) < x1) then
 some (Sum.inl ((((↑x0.1.length : Int)), ((↑x0.1.length : Int))), (x0, ((x2, (x3, x4)), (((0 : Int)), ((0 : Int)))))))
 else some (Sum.inl ((x1, ((↑x0.1.length : Int))), (x0, ((x2, (x3, x4)), (((0 : Int)), ((0 : Int)))))))) fun (x6 : (((Int × Int) × (we × (Y6_ × (Int × Int)))) ⊕ we)) =>
 match x6 with
    | Sum.inl x7 =>
     bif decide (x7.1.1 < IntKind.i64.wrap ((0 : Int) - x7.1.2)) then
     (Qb (((IntKind.i64.wrap ((0 : Int) - x7.1.2)), (x7.1.2, ((0 : Int)))), (x7.2.1, (x7.2.2.1, (x7.2.2.2, []))))).bind fun x8 =>
     some x8
     else (Qb ((x7.1.1, (x7.1.2, ((0 : Int)))), (x7.2.1, (x7.2.2.1, (x7.2.2.2, []))))).bind fun x8 =>
     some x8
    | Sum.inr x7 =>
     some x7
def a2D : TEnt := ⟨96, .cons (.agg Z3) (.cons (.int .i64) (.agg Y8_)), [], [(.agg Z3, [])], fun s => Qr s.1 s.2.1 s.2.2.1 s.2.2.2.1 s.2.2.2.2⟩
theorem Xj : qA Tryz.prog a2D := zH (loops := [(9817068106, [1, 3, 5, 6, 7, 8, 9], (.cons (.int .i64) (.cons (.ptr 0 0) (.cons (.ptr 1 0) (.cons (.ptr 2 0) (.cons (.int .i64) (.cons (.own 3) (.int .i64))))))), [.st Z3, .st Y8_, .st ahn, .li (.sl Y2_) 118 false])]) (joins := [(37449, [1, 3, 5, 6, 7], (.cons (.int .i64) (.cons (.ptr 0 0) (.cons (.ptr 1 0) (.cons (.ptr 2 0) (.int .i64))))), [.st Z3, .st Y8_, .st ahn])]) (un := []) _ (tc QP (tc vS (tc Wc (tc wt tn)))) (fun s => by kernel_rfl) (by kernel_rfl)
def kN (x4 : Int) (x5 : we) (x6 : (List Y0_)) (x7 : Int) (x8 : Int) : Option ((Int × (we × we)) ⊕ Bool) :=
 bif decide (x4 < (↑x5.1.length : Int)) then
 bif decide (0 ≤ x4) then
 (x5.1[Int.toNat x4]?).bind fun x9 =>
 bif decide (0 ≤ x4) then
 (x6[Int.toNat x4]?).bind fun x10 =>
 (KL x9 x10).bind fun x11 =>
 bif !x11 then
 some (Sum.inr false)
 else some (Sum.inl ((IntKind.i64.wrap (x4 + (1 : Int))), (x5, (x6, (x7, x8)))))
 else none
 else none
 else some (Sum.inr true)
def Ye : (Int × (we × we)) → Option Bool := zq fun s => kN s.1 s.2.1 s.2.2.1 s.2.2.2.1 s.2.2.2.2
def J5 (x0 : we) (x1 : (List Y0_)) (x2 : Int) (x3 : Int) : Option Bool :=
 bif (↑x0.1.length : Int) != (↑(List.length x1) : Int) then
 some false
 else bif x0.2.1 != x2 then
 some false
 else bif x0.2.2 != x3 then
 some false
 else (Ye (((0 : Int)), (x0, (x1, (x2, x3))))).bind fun x4 =>
 some x4
def a9N : TEnt := ⟨58, .cons (.agg Z3) (.agg Z3), [], [(.bool, [])], fun s => J5 s.1 s.2.1 s.2.2.1 s.2.2.2⟩
theorem a0h : qA Tryz.prog a9N := zH (loops := [(37450, [2, 3, 5], ajC, [.st Z3, .st Z3])]) (joins := []) (un := []) _ (tc a1p tn) (fun s => by kernel_rfl) (by kernel_rfl)
def Vi (x0 : Int) (x1 : Int) (x2 : Int) (x3 : Int) (x4 : Int) (x5 : Int) (x6 : Int) : Option Y1 :=
 some ((IntKind.i64.wrap x0), ((IntKind.i64.wrap x1), ((IntKind.i64.wrap x2), (x3, (x4, (x5, x6))))))
def afB : TEnt := ⟨57, .agg a0P, [], [(.agg Xs, [])], fun s => Vi s.1 s.2.1 s.2.2.1 s.2.2.2.1 s.2.2.2.2.1 s.2.2.2.2.2.1 s.2.2.2.2.2.2⟩
theorem a5M : qA Tryz.prog afB := eo0 _ tn (fun s => by kernel_rfl) (by kernel_rfl)
def jk (x1 : (Y0_ × Int)) (x2 : Y0_) : Option (((Y0_ × Int) × Y0_) ⊕ Y0_) :=
 bif decide (x1.2 < (↑x1.1.length : Int)) then
 bif decide (0 ≤ x1.2) then
 (x1.1[x1.2.toNat]?).bind fun x3 =>
 (Vi x3.1 x3.2.1.1 x3.2.1.2 x3.2.2.1 x3.2.2.2.1 x3.2.2.2.2.1 x3.2.2.2.2.2).bind fun x4 =>
 bif decide ((1 : Nat) = (1 : Nat)) then
 bif decide (x2.length = x2.length ∧ x2.length + (1 : Nat) ≤ (4398046511104 : Nat)) then
 bif decide (x2.length + (1 : Nat) = (x2 ++ [(x4.1, (x4.2.1, x4.2.2.1), x4.2.2.2.1, x4.2.2.2.2.1, x4.2.2.2.2.2.1, x4.2.2.2.2.2.2)]).length) then
 some (Sum.inl ((x1.1, (IntKind.i64.wrap (x1.2 + (1 : Int)))), (x2 ++ [(x4.1, (x4.2.1, x4.2.2.1), x4.2.2.2.1, x4.2.2.2.2.1, x4.2.2.2.2.2.1, x4.2.2.2.2.2.2)])))
 else none
 else none
 else none
 else none
 else kk x2 (some (Sum.inr x2))
def X5 : ((Y0_ × Int) × Y0_) → Option Y0_ := zq fun s => jk s.1 s.2
def vK (x0 : Y0_) : Option Y0_ :=
 (X5 ((x0, ((0 : Int))), [])).bind fun x1 =>
 some x1
def ahQ : TEnt := ⟨93, .sl Y3_, [], [(.sl Y2_, [])], fun s => vK s⟩
theorem a6v : qA Tryz.prog ahQ := zH (loops := [(4682, [0, 3, 4], (.cons (.sl Y3_) (.cons (.own 0) (.int .i64))), [.li Y2_ 47 false])]) (joins := []) (un := []) _ (tc a5M tn) (fun s => by kernel_rfl) (by kernel_rfl)
set_option maxHeartbeats 4000000
theorem a5b {α : Type} {l : List α} {n : Nat} {x : α} (h : l[n]? = some x) : l.set n x = l := by
 refine List.ext_getElem? fun i => ?_
 by_cases q : i = n
 ·subst q; rw [List.getElem?_set_self (List.getElem?_eq_some_iff.1 h).1, h]
 ·rw [List.getElem?_set_ne (Ne.symm q)]
theorem a7O {L : qu} {n : Nat} {l : List qg} (f : List qg → List qg × Bool) (h : L[n]? = some l) (hf : (f l).2 = false → (f l).1 = l) : kr L (n : Int) f = ((f l).2, L.set n (f l).1) := by
 rw [Va f h]
 cases hb : (f l).2
 ·rw [hf hb, a5b h]; simp
 ·simp
theorem ab2 {l : List qg} {k : Int} {c : qg} (h : (wY l k c).2 = false) : (wY l k c).1 = l := by
 unfold wY at h ⊢
 split at h
 ·cases h
 ·rename_i q; rw [if_neg q]
theorem a7m {c : qg} {m : Int} (h : (jr c m).2 = false) : (jr c m).1 = c := by
 unfold jr at h ⊢
 split
 ·rename_i q
  rw [if_pos q] at h
  split
  ·rename_i q2; rw [if_pos q2] at h; cases h
  ·rename_i q2
   rw [if_neg q2] at h
   split
   ·rename_i q3; rw [if_pos q3] at h; cases h
   ·rfl
 ·rfl
theorem a6T {l : List qg} {k m : Int} (h : (jP l k m).2 = false) : (jP l k m).1 = l := by
 unfold jP at h ⊢
 split
 ·rename_i q
  rw [if_pos q] at h
  split
  ·rename_i c hc
   simp only [q8, hc] at h
   rw [a7m h, a5b hc]
  ·rfl
 ·rfl
theorem Ug {L : qu} (hL : L.length ≤ 1000000) {n : Nat} (hn : n < L.length) {l : List qg} (hl : l.length ≤ 1000000) (r c : Int) : yC (L, r, c) (n : Int) l = some (L.set n l, r, c) := by
 unfold yC
 have hT : (L.set n l).length = L.length := List.length_set ..
 have : Yg (((n : Int), l, (0 : Int)), (L, r, c), ((0 : Int), (0 : Int)), []) = some (L.set n l, r, c) := by
  refine zu (st := fun i => (((n : Int), l, ((i : Nat) : Int)), (L, r, c), ((0 : Int), (0 : Int)), (L.set n l).take i)) (n := L.length) (fun i hi => ?_) ?_ 0 (by omega)
  ·obtain ⟨x, hx⟩ := qF hi
   have ht : ((L.set n l).take i).length = i := by rw [List.length_take, hT]; omega
   have ht1 : ((L.set n l).take (i + 1)).length = i + 1 := by rw [List.length_take, hT]; omega
   have e : ((i : Int) + 1) = ((i + 1 : Nat) : Int) := by omega
   have en : ([] : List qg) ++ l = l := rfl
   show kH _ _ _ _ = _
   unfold kH
   by_cases h1 : i = n
   ·subst h1
    have e3 : (L.set i l).take i ++ [l] = (L.set i l).take (i + 1) := (kA (List.getElem?_set_self hi)).symm
    simp (disch := omega) only [q8, qh, qD, q9, qd, qH, ze, zB, qM, qp, true_and, ht, en, e3, ht1, e]
   ·have e3 : (L.set n l).take i ++ [x] = (L.set n l).take (i + 1) := (kA (by rw [List.getElem?_set_ne (Ne.symm h1)]; exact hx)).symm
    simp (disch := omega) only [q8, qh, qw, q9, qd, qf, qj, qH, ze, zB, qM, qp, true_and, hx, ht, e3, e]
  ·show kH _ _ _ _ = _
   unfold kH
   have ht : (L.set n l).take L.length = L.set n l := List.take_of_length_le (by rw [hT]; omega)
   simp (disch := omega) only [q8, qh, qm, qw, q9, qd, qf, qH, ze, zB, qM, qp, true_and, ht]
 rw [this]
 rfl
theorem putP_len {l : List qg} {k : Int} {c : qg} : (wY l k c).1.length = l.length := by
 unfold wY; split
 ·rw [kU, UY]
 ·rfl
theorem markP_len {l : List qg} {k m : Int} : (jP l k m).1.length = l.length := by
 unfold jP; split
 ·split
  ·simp
  ·rfl
 ·rfl
theorem age {L : qu} (hL : Zr L) (hn : L.length ≤ 1000000) (k at' : Int) (ha : Zj at') {c : qg} (hc : OkC c) (r cc : Int) :
  yP (L, r, cc) k at' c.1 c.2.1.1 c.2.1.2 c.2.2.1 c.2.2.2.1 c.2.2.2.2.1 c.2.2.2.2.2 = some (((kr L k fun l => wY l at' c).2, r, cc), (kr L k fun l => wY l at' c).1) := by
 unfold yP yI
 by_cases h1 : 0 ≤ k
 ·by_cases h2 : k < L.length
  ·obtain ⟨n, rfl⟩ : ∃ n : Nat, k = n := ⟨k.toNat, by omega⟩
   obtain ⟨l, hl⟩ := qF (l := L) (i := n) (by omega)
   have hll := hL l (List.mem_of_getElem? hl)
   have hp := ajt (k := at') hll ha hc
   have hw := Ug hn (n := n) (by omega) (l := (wY l at' c).1) (by rw [putP_len]; omega) r cc
   rw [a7O (fun l => wY l at' c) hl ab2]
   simp (disch := omega) only [q8, qh, qd, qf, qj, qH, zw, hl, hp, hw]
  ·rw [jF _ (by omega)]
   simp (disch := omega) only [q8, qh, qm, qd, qj, kx]
 ·rw [jF _ (by omega)]
  simp (disch := omega) only [q8, qh, qm, qd, qf, qj, kx]
theorem a2l {L : qu} (hL : Zr L) (hn : L.length ≤ 1000000) (k at' m : Int) (ha : Zj at') (r cc : Int) :
  Z8 (L, r, cc) k at' m = some (((kr L k fun l => jP l at' m).2, r, cc), (kr L k fun l => jP l at' m).1) := by
 unfold Z8 yI
 by_cases h1 : 0 ≤ k
 ·by_cases h2 : k < L.length
  ·obtain ⟨n, rfl⟩ : ∃ n : Nat, k = n := ⟨k.toNat, by omega⟩
   obtain ⟨l, hl⟩ := qF (l := L) (i := n) (by omega)
   have hll := hL l (List.mem_of_getElem? hl)
   have hp := aa8 hll at' m ha
   have hw := Ug hn (n := n) (by omega) (l := (jP l at' m).1) (by rw [markP_len]; omega) r cc
   rw [a7O (fun l => jP l at' m) hl a6T]
   simp (disch := omega) only [q8, qh, qd, qf, qj, qH, zw, hl, hp, hw]
  ·rw [jF _ (by omega)]
   simp (disch := omega) only [q8, qh, qm, qd, qj, kx]
 ·rw [jF _ (by omega)]
  simp (disch := omega) only [q8, qh, qm, qd, qf, qj, kx]
theorem a97 {L : qu} (hL : Zr L) (hn : L.length ≤ 1000000) (k f t a b c : Int) (r cc : Int) :
  Zl (L, r, cc) k f t a b c = some ((kr L k fun l => (km (wG l f t a b c), Z2 a b c)).2, r, cc) := by
 unfold Zl yI
 by_cases h1 : 0 ≤ k
 ·by_cases h2 : k < L.length
  ·obtain ⟨n, rfl⟩ : ∃ n : Nat, k = n := ⟨k.toNat, by omega⟩
   obtain ⟨l, hl⟩ := qF (l := L) (i := n) (by omega)
   have hll := hL l (List.mem_of_getElem? hl)
   have hp := abS hll f t a b c
   have hq := a2O a b c
   have hw := Ug hn (n := n) (by omega) (l := km (wG l f t a b c)) (by rw [kU, K5]; omega) r cc
   rw [Va _ hl]
   cases hb : Z2 a b c
   ·simp (disch := omega) only [q8, qh, qd, qf, qj, qH, zw, kx, hq, hb, Bool.false_eq_true, if_false]
   ·simp (disch := omega) only [q8, qh, qd, qf, qj, qH, zw, hl, hp, hq, hb, hw, if_true]
  ·rw [jF _ (by omega)]
   simp (disch := omega) only [q8, qh, qm, qd, qj, kx]
 ·rw [jF _ (by omega)]
  simp (disch := omega) only [q8, qh, qm, qd, qf, qj, kx]
theorem Vc {L : qu} {l : List qg} (h : L[0]? = some l) (r c : Int) : ko L r c = some (l.length : Int) := by
 have hp := (List.getElem?_eq_some_iff.1 h).1
 unfold ko
 simp (disch := omega) only [q8, qw, qf, qj, h]
def qO (n : Int) (k : Nat) : Nat := min n.toNat (k - 1)
theorem a1v {k : Nat} (hk : 1 ≤ k ∧ k ≤ 1000000) (n : Int) : Q4 n (k : Int) = some (qO n k : Int) := by
 have hw : IntKind.i64.wrap ((k : Int) - 1) = (k : Int) - 1 := q9 (by omega) (by omega)
 unfold Q4 qO
 rw [hw]
 by_cases h1 : (k : Int) ≤ n
 ·simp (disch := omega) only [q8, qh, qm, qd, qf]
  congr 1; omega
 ·by_cases h2 : n < 0
  ·simp (disch := omega) only [q8, qh, qm, qd, qf]
   congr 1; omega
  ·simp (disch := omega) only [q8, qm, qf]
   congr 1; omega
theorem aeE {L : qu} (hn : L.length ≤ 1000000) {l0 : List qg} (h0 : L[0]? = some l0) (hl : 1 ≤ l0.length ∧ l0.length ≤ 1000000) (r c a b : Int) : KR (L, a, b) r c = some (L, (qO r L.length : Int), (qO c l0.length : Int)) := by
 have hp := (List.getElem?_eq_some_iff.1 h0).1
 have e1 := a1v (k := L.length) ⟨by omega, hn⟩ r
 have e2 := a1v hl c
 unfold KR
 simp (disch := omega) only [q8, qw, qf, qj, Vc h0, e1, e2]
theorem Je {L : qu} (hn : 1 ≤ L.length ∧ L.length ≤ 1000000) {cols : Nat} (hc : 1 ≤ cols ∧ cols ≤ 1000000) (r c a b : Int) : zh (r, c) (a, b, (cols : Int)) L = some (((qO r L.length : Int), (qO c cols : Int), (cols : Int)), L) := by
 have hw : ∀ k : Nat, 1 ≤ k → k ≤ 1000000 → IntKind.i64.wrap ((k : Int) - 1) = (k : Int) - 1 := fun k _ _ => q9 (by omega) (by omega)
 have hm : ∀ (k : Nat) (n : Int), 1 ≤ k → (if (k : Int) - 1 < if (0 : Int) > n then (0 : Int) else n then (k : Int) - 1 else if (0 : Int) > n then (0 : Int) else n) = (qO n k : Int) := by
  intro k n hk
  unfold qO
  by_cases h1 : (0 : Int) > n
  ·simp only [q8, h1, if_true]; rw [if_neg (by omega)]; omega
  ·simp only [q8, h1, if_false]; split <;> omega
 unfold zh
 simp only [q8, hw _ hn.1 hn.2, hw _ hc.1 hc.2, hm _ _ hn.1, hm _ _ hc.1]
 all_goals simp (disch := omega) only [q8, qd, qp]
set_option maxHeartbeats 0
open Go.Proofs
def jm (x2 : Int) (x3 : Y6_) (x4 : (List Y0_)) (x5 : (Int × Int)) (x6 : (Int × Int)) (x7 : (List Y0_)) : Option ((Int × (Y6_ × ((List Y0_) × ((Int × Int) × uR)))) ⊕ (we × QY)) :=
 kk x4 ((ke x3 x4).bind fun x8 =>
 bif decide (x2 < x8.1) then
 kk x8.2.2 ((ZL x2 x8.2.1 x8.2.2).bind fun x9 =>
 (vK x9.1).bind fun x10 =>
 bif decide ((1 : Nat) = (1 : Nat)) then
 bif decide (x7.length = x7.length ∧ x7.length + (1 : Nat) ≤ (5864062014805 : Nat)) then
 bif decide (x7.length + (1 : Nat) = (x7 ++ [x10]).length) then
 kk x9.2.2 (some (Sum.inl ((IntKind.i64.wrap (x2 + (1 : Int))), (x9.2.1, (x9.2.2, (x5, (x6, (x7 ++ [x10]))))))))
 else none
 else none
 else none)
 else kk x8.2.2 ((qr x8.2.1 x8.2.2).bind fun x9 =>
 kk x9.2.2 ((qB x9.2.1 x9.2.2).bind fun x10 =>
 kk x10.2.2 (kk x7 (some (Sum.inr ((x7, (x9.1, x10.1)), x10.2)))))))
def xN : (Int × (Y6_ × ((List Y0_) × ((Int × Int) × uR)))) → Option (we × QY) := zq fun s => jm s.1 s.2.1 s.2.2.1 s.2.2.2.1 s.2.2.2.2.1 s.2.2.2.2.2
def vu (x0 : Y6_) (x1 : (List Y0_)) : Option (we × QY) :=
 kk x1 ((xN (((0 : Int)), (x0, (x1, ((((0 : Int)), ((0 : Int))), ((((0 : Int)), ((0 : Int))), [])))))).bind fun x2 =>
 some x2)
def ahf : TEnt := ⟨59, .ptr 0 0, yM, [((.agg Z3), yM)], fun s => vu s.1 s.2⟩
theorem a7P : qA Tryz.prog ahf := zH (loops := [(4682, [0, 2, 3, 4], (.cons (.ptr 0 0) (.cons (.ptr 2 0) (.cons (.ptr 3 0) (.int .i64)))), [.st (.cons (.int .i64) (.cons (.int .i64) (.cons (.own 1) (.int .i64)))), .li (.sl Y3_) 104 false, .st ahn, .st (.cons (.own 4) yk), .li (.sl Y2_) 118 false])]) (joins := []) (un := []) _ (tc y8 (tc j7 (tc jJ (tc ui (tc a6v tn))))) (fun s => by kernel_rfl) (by kernel_rfl)
def QW (x0 : we) (x1 : Y6_) (x2 : (List Y0_)) : Option (Bool × QY) :=
 kk x2 ((ke x1 x2).bind fun x3 =>
 bif x3.1 == (↑x0.1.length : Int) then
 kk x3.2.2 ((qC x3.2.1 x3.2.2).bind fun x4 =>
 (ko x0.1 x0.2.1 x0.2.2).bind fun x5 =>
 bif x4.1 == x5 then
 kk x4.2.2 ((vu x4.2.1 x4.2.2).bind fun x6 =>
 (J5 x6.1 x0.1 x0.2.1 x0.2.2).bind fun x7 =>
 kk x6.2.2 (some (x7, x6.2)))
 else kk x4.2.2 (some (false, x4.2)))
 else kk x3.2.2 (some (false, x3.2)))
def a9y : TEnt := ⟨16, .cons (.ptr 0 0) (.agg Z3), yM, [(.bool, yM)], fun s => QW s.1 s.2.1 s.2.2⟩
theorem a0Q : qA Tryz.prog a9y := eo0 _ (tc y8 (tc y2 (tc wt (tc a0h (tc a7P tn))))) (fun s => by kernel_rfl) (by kernel_rfl)
set_option maxHeartbeats 4000000
def qU (n : Int) : Bool := decide (1 ≤ n) && decide (n ≤ 512)
theorem a21 (n : Int) : yY n = some (qU n) := by
 unfold yY qU
 by_cases h : 1 ≤ n <;> simp [h]
theorem agG (r c : Int) : KH r c = some (qU r && qU c) := by
 unfold KH qU
 by_cases h1 : 1 ≤ r <;> by_cases h2 : r ≤ 512 <;> by_cases h3 : 1 ≤ c <;> by_cases h4 : c ≤ 512 <;> simp [h1, h2, h3, h4]
theorem afg {n : Nat} (hn : n ≤ 1000000) (c : Int) : Wy (n : Int) c = some (((0, 0) : Int × Int), List.replicate n (wp c)) := by
 unfold Wy
 have : V1 (((n : Int), c, (0 : Int)), ((0 : Int), (0 : Int)), ((0 : Int), (0 : Int)), []) = some (((0, 0) : Int × Int), List.replicate n (wp c)) := by
  refine zu (st := fun i => (((n : Int), c, ((i : Nat) : Int)), ((0 : Int), (0 : Int)), ((0 : Int), (0 : Int)), List.replicate i (wp c))) (n := n) (fun i hi => ?_) ?_ 0 (by omega)
  ·show j0 _ _ _ _ = _
   unfold j0
   have e : ((i : Int) + 1) = ((i + 1 : Nat) : Int) := by omega
   have hnl := a4U c
   have e2 : List.replicate i (wp c) ++ [wp c] = List.replicate (i + 1) (wp c) := JH i _
   simp (disch := omega) only [q8, qh, q9, qd, qj, ze, zB, qM, qp, true_and, hnl, List.length_replicate, e2, e]
  ·show j0 _ _ _ _ = _
   unfold j0
   simp (disch := omega) only [q8, qm, q9, qd, qf, ze, zB, qM, qp, true_and]
 rw [this]
 rfl
theorem a27 (r c : Int) : KP r c = some (if qU r = true ∧ qU c = true then Sum.inr ((0, 0, c), List.replicate r.toNat (wp c)) else Sum.inl ()) := by
 unfold KP
 rw [a21, a21]
 cases h1 : qU r
 ·simp (disch := omega) only [q8, qd, qj, kx]
  rfl
 ·cases h2 : qU c
  ·simp (disch := omega) only [q8, qd, qf, qj, zw, kx, true_and]
   rfl
  ·have hr : 1 ≤ r ∧ r ≤ 512 := by unfold qU at h1; simpa using h1
   obtain ⟨n, rfl⟩ : ∃ n : Nat, r = n := ⟨r.toNat, by omega⟩
   have : Yd ((c, (n : Int), (0 : Int)), ((0 : Int), (0 : Int), c), []) = some (Sum.inr (((0, 0, c) : Int × Int × Int), List.replicate n (wp c))) := by
    refine zu (st := fun i => ((c, (n : Int), ((i : Nat) : Int)), ((0 : Int), (0 : Int), c), List.replicate i (wp c))) (n := n) (fun i hi => ?_) ?_ 0 (by omega)
    ·show kJ _ _ _ = _
     unfold kJ
     have e : ((i : Int) + 1) = ((i + 1 : Nat) : Int) := by omega
     have hnl := a1E c
     have e2 : List.replicate i (wp c) ++ [wp c] = List.replicate (i + 1) (wp c) := JH i _
     simp (disch := omega) only [q8, qh, q9, qd, qj, ze, zB, qM, qp, true_and, hnl, List.length_replicate, e2, e]
    ·show kJ _ _ _ = _
     unfold kJ
     simp (disch := omega) only [q8, qm, q9, qd, qf, ze, zB, qM, qp, true_and]
   simp (disch := omega) only [q8, qf, qj, qH, zw, and_self, this]
   simp
theorem adR {L : qu} (hL : Zr L) (hn : L.length ≤ 1000000) (g : Int × (Int × Int)) : Zy g L = some (g, L, g, L) := by
 unfold Zy
 have : JE (((L.length : Int), (0 : Int)), g, L, g, []) = some (g, L, g, L) := by
  refine zu (st := fun i => (((L.length : Int), ((i : Nat) : Int)), g, L, g, L.take i)) (n := L.length) (fun i hi => ?_) ?_ 0 (by omega)
  ·obtain ⟨l, hl⟩ := qF hi
   have hcl := Jj l (hL l (List.mem_of_getElem? hl))
   have ht : (L.take i).length = i := by rw [List.length_take]; omega
   have ht1 : (L.take (i + 1)).length = i + 1 := by rw [List.length_take]; omega
   have e : ((i : Int) + 1) = ((i + 1 : Nat) : Int) := by omega
   have e3 : L.take i ++ [l] = L.take (i + 1) := (kA hl).symm
   show kq _ _ _ _ _ = _
   unfold kq
   simp (disch := omega) only [q8, qh, q9, qd, qj, qH, ze, zB, qM, qp, true_and, and_true, hl, hcl, ht, e3, e]
  ·show kq _ _ _ _ _ = _
   unfold kq
   have ht : L.take L.length = L := List.take_of_length_le (Nat.le_refl _)
   simp (disch := omega) only [q8, qh, qm, q9, qd, qf, qH, ze, zB, qM, qp, true_and, and_true, ht]
 simp (disch := omega) only [q8, qd, qj, qp, this]
theorem amp {c : qg} (h : OkC c) : Vi c.1 c.2.1.1 c.2.1.2 c.2.2.1 c.2.2.2.1 c.2.2.2.2.1 c.2.2.2.2.2 = some (Qf c) := by
 have h1 := h.r
 have h2 := h.m1
 have h3 := h.m2
 simp only [q8, Z4] at h1 h2 h3
 unfold Vi
 rw [q9 (by omega) (by omega), q9 (by omega) (by omega), q9 (by omega) (by omega)]
 rfl
theorem amt {l : List qg} (hl : l.length ≤ 1000000) (ok : ∀ c ∈ l, OkC c) : vK l = some l := by
 unfold vK
 have : X5 ((l, (0 : Int)), []) = some l := by
  refine zu (st := fun i => ((l, ((i : Nat) : Int)), l.take i)) (n := l.length) (fun i hi => ?_) ?_ 0 (by omega)
  ·obtain ⟨c, hc⟩ := qF hi
   have ho := amp (ok c (List.mem_of_getElem? hc))
   unfold Qf at ho
   have ht : (l.take i).length = i := by rw [List.length_take]; omega
   have ht1 : (l.take (i + 1)).length = i + 1 := by rw [List.length_take]; omega
   have e : ((i : Int) + 1) = ((i + 1 : Nat) : Int) := by omega
   have e3 : l.take i ++ [(c.1, (c.2.1.1, c.2.1.2), c.2.2.1, c.2.2.2.1, c.2.2.2.2.1, c.2.2.2.2.2)] = l.take (i + 1) := (kA hc).symm
   show jk _ _ = _
   unfold jk
   simp (disch := omega) only [q8, qh, q9, qd, qj, qH, ze, zB, qM, qp, true_and, hc, ho, ht, e3, e]
  ·show jk _ _ = _
   unfold jk
   have ht : l.take l.length = l := List.take_of_length_le (Nat.le_refl _)
   simp (disch := omega) only [q8, qh, qm, q9, qd, qf, qH, ze, zB, qM, qp, true_and, ht]
 rw [this]
 rfl
theorem alw {l : List qg} (hl : l.length ≤ 1000000) : KL l l = some true := by
 unfold KL
 have : Yk (l, l, (0 : Int)) = some true := by
  refine zu (st := fun i => (l, l, ((i : Nat) : Int))) (n := l.length) (fun i hi => ?_) ?_ 0 (by omega)
  ·obtain ⟨c, hc⟩ := qF hi
   have e : ((i : Int) + 1) = ((i + 1 : Nat) : Int) := by omega
   show kM _ _ _ = _
   unfold kM
   simp (disch := omega) only [q8, qh, q9, qd, qf, qj, qH, zw, hc, e, beq_self_eq_true, Bool.and_true]
  ·show kM _ _ _ = _
   unfold kM
   simp (disch := omega) only [q8, qh, qm, q9, qd, qf, qH]
 simp (disch := omega) only [q8, jW, qf, qj, this]
theorem akM {L : qu} (hL : Zr L) (hn : L.length ≤ 1000000) (r c : Int) : J5 (L, r, c) L r c = some true := by
 unfold J5
 have : Ye ((0 : Int), (L, r, c), L, r, c) = some true := by
  refine zu (st := fun i => (((i : Nat) : Int), (L, r, c), L, r, c)) (n := L.length) (fun i hi => ?_) ?_ 0 (by omega)
  ·obtain ⟨l, hl⟩ := qF hi
   have hs := alw (hL l (List.mem_of_getElem? hl))
   have e : ((i : Int) + 1) = ((i + 1 : Nat) : Int) := by omega
   show kN _ _ _ _ _ = _
   unfold kN
   simp (disch := omega) only [q8, qh, q9, qd, qf, qj, qH, zw, hl, hs, e]
  ·show kN _ _ _ _ _ = _
   unfold kN
   simp (disch := omega) only [q8, qh, qm, q9, qd, qf, qH]
 simp (disch := omega) only [q8, jW, qf, qj, this]
theorem aiR {L : qu} (hL : Zr L) {n : Nat} {l : List qg} (h : L[n]? = some l) (g : Int × (Int × Int)) : ZL (n : Int) g L = some (l, g, L) := by
 have hlt := (List.getElem?_eq_some_iff.1 h).1
 have hcl := Jj l (hL l (List.mem_of_getElem? h))
 unfold ZL
 simp (disch := omega) only [q8, qh, qd, qf, qj, qH, zw, qp, and_true, h, hcl]
theorem amv {L : qu} (hL : Zr L) (hn : L.length ≤ 1000000) (ok : ∀ l ∈ L, ∀ c ∈ l, OkC c) (g : Int × (Int × Int)) : vu g L = some ((L, g.1, g.2.1), g, L) := by
 unfold vu
 have : xN ((0 : Int), g, L, ((0 : Int), (0 : Int)), ((0 : Int), (0 : Int)), []) = some ((L, g.1, g.2.1), g, L) := by
  refine zu (st := fun i => (((i : Nat) : Int), g, L, ((0 : Int), (0 : Int)), ((0 : Int), (0 : Int)), L.take i)) (n := L.length) (fun i hi => ?_) ?_ 0 (by omega)
  ·obtain ⟨l, hl⟩ := qF hi
   have hm := List.mem_of_getElem? hl
   have hli := aiR hL hl g
   have ho := amt (hL l hm) (ok l hm)
   have ht : (L.take i).length = i := by rw [List.length_take]; omega
   have ht1 : (L.take (i + 1)).length = i + 1 := by rw [List.length_take]; omega
   have e : ((i : Int) + 1) = ((i + 1 : Nat) : Int) := by omega
   have e3 : L.take i ++ [l] = L.take (i + 1) := (kA hl).symm
   show jm _ _ _ _ _ _ = _
   unfold jm ke
   simp (disch := omega) only [q8, qh, q9, qd, qj, ze, zB, qM, qp, true_and, hli, ho, ht, e3, e]
  ·show jm _ _ _ _ _ _ = _
   unfold jm ke qr qB
   have ht : L.take L.length = L := List.take_of_length_le (Nat.le_refl _)
   simp (disch := omega) only [q8, qh, qm, q9, qd, qf, qj, ze, zB, qM, qp, true_and, ht]
 simp (disch := omega) only [q8, qd, qj, qp, this]
theorem ai6 {L : qu} (hL : Zr L) (hn : L.length ≤ 1000000) (ok : ∀ l ∈ L, ∀ c ∈ l, OkC c) {l0 : List qg} (h0 : L[0]? = some l0) (r c : Int) : QW (L, r, c) (r, c, (l0.length : Int)) L = some (true, (r, c, (l0.length : Int)), L) := by
 unfold QW ke qC
 have h1 := amv hL hn ok (r, c, (l0.length : Int))
 have h2 := akM hL hn r c
 have h3 := Vc h0 r c
 simp (disch := omega) only [q8, qD, qd, qj, qp, h1, h2, h3]
def a7c (L : qu) (rows : Nat) (cols : Int) (i : Nat) : qu := (List.range rows).map fun r => match L[r]? with
 | some l => if r < i then km (a4e l (Y4 cols)) else wp cols
 | none => wp cols
theorem acV (L : qu) (rows : Nat) (cols : Int) (i : Nat) : (a7c L rows cols i).length = rows := by simp [a7c]
theorem acU {L : qu} {rows i k : Nat} {cols : Int} (h : k < rows) : (a7c L rows cols i)[k]? = some (match L[k]? with
 | some l => if k < i then km (a4e l (Y4 cols)) else wp cols
 | none => wp cols) := by
 unfold a7c
 rw [List.getElem?_map, List.getElem?_range h]; rfl
theorem agv {c : Int} (h : qU c = true) : (wp c).length = c.toNat := by
 unfold qU at h
 simp only [q8, Bool.and_eq_true, decide_eq_true_eq] at h
 unfold wp Y4
 rw [List.length_replicate, if_neg (by omega), if_neg (by omega)]
def aiG (L : qu) (rows : Nat) (cols : Int) : qu := a7c L rows cols L.length
def jE (rows : Nat) (n : Int) : Int := if (rows : Int) < n then rows else if n < -(rows : Int) then -(rows : Int) else n
theorem a20 (rows : Nat) (n : Int) : -(rows : Int) ≤ jE rows n ∧ jE rows n ≤ rows := by
 unfold jE; split
 ·omega
 ·split <;> omega
def Zd (L : qu) (n : Int) (bl : List qg) : qu := (List.range L.length).map fun (r : Nat) => if 0 ≤ (r : Int) + n ∧ (r : Int) + n < L.length then L[((r : Int) + n).toNat]?.getD bl else bl
theorem Z0 (L : qu) (n : Int) (bl : List qg) : (Zd L n bl).length = L.length := by simp [Zd]
theorem vH {L : qu} {n : Int} {bl : List qg} {i : Nat} (h : i < L.length) : (Zd L n bl)[i]? = some (if 0 ≤ (i : Int) + n ∧ (i : Int) + n < L.length then L[((i : Int) + n).toNat]?.getD bl else bl) := by
 unfold Zd
 rw [List.getElem?_map, List.getElem?_range h]; rfl
def blL (cols : Nat) (a b c : Int) : List qg := km (wG (wp (cols : Int)) 0 (cols : Int) a b c)
theorem afo {L : qu} {k : Nat} (hk : k ≤ L.length) (bl : List qg) : L.drop k ++ List.replicate k bl = Zd L (k : Int) bl := by
 refine List.ext_getElem? fun i => ?_
 by_cases hi : i < L.length
 ·rw [vH hi]
  by_cases h2 : i + k < L.length
  ·obtain ⟨l, hl⟩ := qF h2
   rw [if_pos (by omega), show ((i : Int) + (k : Int)).toNat = i + k by omega, hl, List.getElem?_append_left (by rw [List.length_drop]; omega), List.getElem?_drop, show k + i = i + k by omega, hl]; rfl
  ·rw [if_neg (by omega), List.getElem?_append_right (by rw [List.length_drop]; omega), List.getElem?_replicate, if_pos (by rw [List.length_drop]; omega)]
 ·rw [List.getElem?_eq_none (by rw [List.length_append, List.length_drop, List.length_replicate]; omega), List.getElem?_eq_none (by rw [Z0]; omega)]
theorem alk {L : qu} {k : Nat} (hk : k ≤ L.length) (bl : List qg) : List.replicate k bl ++ L.take (L.length - k) = Zd L (-(k : Int)) bl := by
 refine List.ext_getElem? fun i => ?_
 by_cases hi : i < L.length
 ·rw [vH hi]
  by_cases h2 : k ≤ i
  ·obtain ⟨l, hl⟩ := qF (l := L) (i := i - k) (by omega)
   rw [if_pos (by omega), show ((i : Int) + -(k : Int)).toNat = i - k by omega, hl, List.getElem?_append_right (by rw [List.length_replicate]; omega), List.length_replicate, List.getElem?_take, if_pos (by omega), hl]; rfl
  ·rw [if_neg (by omega), List.getElem?_append_left (by rw [List.length_replicate]; omega), List.getElem?_replicate, if_pos (by omega)]
 ·rw [List.getElem?_eq_none (by rw [List.length_append, List.length_take, List.length_replicate]; omega), List.getElem?_eq_none (by rw [Z0]; omega)]
theorem UQ (n : Int) : (wp n).length ≤ 1000000 := by unfold wp; rw [List.length_replicate]; have := a4h n; omega
theorem a5n {L : qu} (hL : Zr L) (hn : L.length ≤ 1000000) {l0 : List qg} (h0 : L[0]? = some l0) (n a b c r cc : Int) :
  Qr (L, r, cc) n a b c = some (if Z2 a b c = true then Zd L (jE L.length n) (blL l0.length a b c) else L, r, cc) := by
 unfold Qr
 rw [a2O]
 cases hp : Z2 a b c
 ·simp (disch := omega) only [q8, qd, qj, kx, Bool.false_eq_true, if_false]
 ·have hcl := a20 L.length n
  have hwn : IntKind.i64.wrap ((0 : Int) - (L.length : Int)) = -(L.length : Int) := by rw [q9 (by omega) (by omega)]; omega
  have loop : Qb ((jE L.length n, (L.length : Int), (0 : Int)), (L, r, cc), (a, b, c), ((0 : Int), (0 : Int)), []) = some (Zd L (jE L.length n) (blL l0.length a b c), r, cc) := by
   generalize hq : jE L.length n = q at hcl
   have hT := Z0 L q (blL l0.length a b c)
   refine zu (st := fun i => ((q, (L.length : Int), ((i : Nat) : Int)), (L, r, cc), (a, b, c), ((0 : Int), (0 : Int)), (Zd L q (blL l0.length a b c)).take i)) (n := L.length) (fun i hi => ?_) ?_ 0 (by omega)
   ·have ht : ((Zd L q (blL l0.length a b c)).take i).length = i := by rw [List.length_take, hT]; omega
    have ht1 : ((Zd L q (blL l0.length a b c)).take (i + 1)).length = i + 1 := by rw [List.length_take, hT]; omega
    have e : ((i : Int) + 1) = ((i + 1 : Nat) : Int) := by omega
    have hw : IntKind.i64.wrap ((i : Int) + q) = (i : Int) + q := q9 (by omega) (by omega)
    have hcr := Vc h0 r cc
    have hnl := a4U (l0.length : Int)
    have her := abS (UQ (l0.length : Int)) 0 (l0.length : Int) a b c
    have hg := vH (n := q) (bl := blL l0.length a b c) hi
    show kf _ _ _ _ _ = _
    unfold kf
    by_cases h1 : 0 ≤ (i : Int) + q
    ·by_cases h2 : (i : Int) + q < L.length
     ·obtain ⟨l, hl⟩ := qF (l := L) (i := ((i : Int) + q).toNat) (by omega)
      rw [if_pos ⟨h1, h2⟩, hl] at hg
      have e3 : (Zd L q (blL l0.length a b c)).take i ++ [l] = (Zd L q (blL l0.length a b c)).take (i + 1) := (kA hg).symm
      simp only [q8, hw]
      simp (disch := omega) only [q8, qh, q9, qd, qj, ze, zB, qM, qp, true_and, hl, ht, e3, e]
     ·rw [if_neg (by omega)] at hg
      have e3 : (Zd L q (blL l0.length a b c)).take i ++ [km (wG (wp (l0.length : Int)) 0 (l0.length : Int) a b c)] = (Zd L q (blL l0.length a b c)).take (i + 1) := (kA hg).symm
      simp only [q8, hw]
      simp (disch := omega) only [q8, qh, qm, q9, qd, qf, qj, ze, zB, qM, qp, true_and, hcr, hnl, her, ht, e3, e]
    ·rw [if_neg (by omega)] at hg
     have e3 : (Zd L q (blL l0.length a b c)).take i ++ [km (wG (wp (l0.length : Int)) 0 (l0.length : Int) a b c)] = (Zd L q (blL l0.length a b c)).take (i + 1) := (kA hg).symm
     simp only [q8, hw]
     simp (disch := omega) only [q8, qh, qm, q9, qd, qf, qj, ze, zB, qM, qp, true_and, hcr, hnl, her, ht, e3, e]
   ·show kf _ _ _ _ _ = _
    unfold kf
    have ht : (Zd L q (blL l0.length a b c)).take L.length = Zd L q (blL l0.length a b c) := List.take_of_length_le (by rw [hT]; omega)
    simp (disch := omega) only [q8, qh, qm, q9, qd, qf, ze, zB, qM, qp, true_and, ht]
  by_cases h1 : (L.length : Int) < n
  ·have hc : jE L.length n = (L.length : Int) := by unfold jE; rw [if_pos h1]
   rw [hc] at loop
   rw [hc]
   simp (disch := omega) only [q8, qh, qm, qd, qf, qj, zw, hwn, loop, if_true]
  ·by_cases h2 : n < -(L.length : Int)
   ·have hc : jE L.length n = -(L.length : Int) := by unfold jE; rw [if_neg h1, if_pos h2]
    rw [hc] at loop
    rw [hc]
    simp (disch := omega) only [q8, qh, qm, qd, qf, qj, zw, hwn, loop, if_true]
   ·have hc : jE L.length n = n := by unfold jE; rw [if_neg h1, if_neg h2]
    rw [hc] at loop
    rw [hc]
    simp (disch := omega) only [q8, qm, qf, qj, zw, hwn, loop, if_true]
theorem a2F {L : qu} (hL : Zr L) (hn : 1 ≤ L.length ∧ L.length ≤ 1000000) {cols : Nat} (n a b c r cc : Int) :
  yR (n, a, b, c) (r, cc, (cols : Int)) L = some ((r, cc, (cols : Int)), if Z2 a b c = true then Zd L (jE L.length n) (blL cols a b c) else L) := by
 unfold yR
 rw [Ul]
 cases hp : Z2 a b c
 ·simp (disch := omega) only [q8, q9, qd, qj, kx, qp, Bool.false_eq_true, if_false]
 ·have hcl := a20 L.length n
  have hwn : IntKind.i64.wrap ((0 : Int) - (L.length : Int)) = -(L.length : Int) := by rw [q9 (by omega) (by omega)]; omega
  have hcm : (if (L.length : Int) < if -(L.length : Int) > n then -(L.length : Int) else n then (L.length : Int) else if -(L.length : Int) > n then -(L.length : Int) else n) = jE L.length n := by
   unfold jE
   by_cases h1 : -(L.length : Int) > n
   ·simp only [q8, h1, if_true]; repeat' split
    all_goals first | rfl | omega
   ·simp only [q8, h1, if_false]
  simp only [q8, hwn, hcm]
  generalize hq : jE L.length n = q at hcl
  have hwq : IntKind.i64.wrap ((0 : Int) - q) = -q := by rw [q9 (by omega) (by omega)]; omega
  obtain ⟨k, hk⟩ : ∃ k : Nat, (if -q > q then -q else q) = (k : Int) := ⟨(if -q > q then -q else q).toNat, by split <;> omega⟩
  have hkq : (q = k ∨ q = -(k : Int)) ∧ k ≤ L.length := by split at hk <;> omega
  simp only [q8, hwq, hk]
  have hnl := a1E (cols : Int)
  have her := a51 (UQ (cols : Int)) 0 (cols : Int) a b c
  have hT := Z0 L q (blL cols a b c)
  have loop : Kj ((q, (L.length : Int), (k : Int), (0 : Int)), (r, cc, (cols : Int)), L, (a, b, c), []) = some ((r, cc, (cols : Int)), Zd L q (blL cols a b c)) := by
   refine zu (st := fun i => ((q, (L.length : Int), (k : Int), ((i : Nat) : Int)), (r, cc, (cols : Int)), L, (a, b, c), List.replicate i (blL cols a b c))) (n := k) (fun i hi => ?_) ?_ 0 (by omega)
   ·have e : ((i : Int) + 1) = ((i + 1 : Nat) : Int) := by omega
    have e3 : List.replicate i (blL cols a b c) ++ [km (wG (wp (cols : Int)) 0 (cols : Int) a b c)] = List.replicate (i + 1) (blL cols a b c) := JH i _
    show zP _ _ _ _ _ = _
    unfold zP
    simp (disch := omega) only [q8, qh, q9, qd, qj, qH, ze, zB, qM, qp, true_and, and_true, hnl, her, List.length_replicate, e3, e]
   ·show zP _ _ _ _ _ = _
    unfold zP
    by_cases hpos : 0 ≤ q
    ·have hqk : q = (k : Int) := by omega
     rw [hqk] at hT ⊢
     have hs := afo (L := L) (k := k) hkq.2 (blL cols a b c)
     simp only [q8, Option.getD_some, qH]
     by_cases h1 : k = L.length
     ·have hd : L.drop k = [] := List.drop_eq_nil_of_le (by omega)
      rw [hd] at hs
      simp (disch := omega) only [q8, qh, qm, q9, qd, qf, ze, zB, qM, qp, true_and, and_true, List.length_replicate, hs, hT]
     ·by_cases h2 : k = 0
      ·subst h2
       simp only [q8, List.replicate_zero, List.drop_zero, List.append_nil] at hs ⊢
       simp (disch := omega) only [q8, qh, qm, q9, qd, qf, ze, zB, qM, qp, true_and, and_true]
       rw [← hs]
      ·have htk : List.take (L.length - k) (List.drop k L) = L.drop k := List.take_of_length_le (by rw [List.length_drop]; omega)
       simp (disch := omega) only [q8, qh, qm, q9, qd, qf, ze, zB, qM, qp, true_and, and_true, List.length_replicate, htk, List.length_drop, hs, hT]
    ·have hqk : q = -(k : Int) := by omega
     have hs := alk (L := L) (k := k) hkq.2 (blL cols a b c)
     have hw : IntKind.i64.wrap ((L.length : Int) + q) = ((L.length - k : Nat) : Int) := by rw [q9 (by omega) (by omega)]; omega
     simp only [q8, hw, qH, List.drop_zero]
     rw [hqk] at hT ⊢
     simp (disch := omega) only [q8, qh, qm, q9, qd, qf, ze, zB, qM, qp, true_and, and_true, List.length_replicate, List.length_take, hs, hT]
  simp (disch := omega) only [q8, qd, qf, qj, zw, qp, loop, if_true]
structure LineOk (n : Nat) (l : List qg) : Prop where
 len : l.length = n
 ok : ∀ c ∈ l, OkC c
 right : jw l = true
theorem WD {a b c : Int} (ha : u8r a) (hb : u8r b) (hc : u8r c) : OkC (zD a b c) :=
 ⟨(by unfold Z4 zD; simp), (by unfold Z4 zD; simp), (by unfold Z4 zD; simp), (by unfold u8r zD; simp), ha, hb, hc⟩
theorem uh : u8r 0 := by unfold u8r; omega
theorem agn {c : qg} (h : OkC c) : OkC (Jn c) :=
 ⟨(by unfold Z4 Jn; simp), (by unfold Z4 Jn; simp), (by unfold Z4 Jn; simp), uh, h.p1, h.p2, h.p3⟩
theorem a4K {l : List qg} (h : ∀ c ∈ l, OkC c) : ∀ c ∈ km l, OkC c := by
 intro c hc
 obtain ⟨i, hi⟩ := List.mem_iff_getElem?.1 hc
 have hlt : i < l.length := by have := (List.getElem?_eq_some_iff.1 hi).1; rwa [kU] at this
 obtain ⟨d, hd⟩ := qF hlt
 rw [V7 hd] at hi
 cases hi
 have hk := h d (List.mem_of_getElem? hd)
 unfold Ya
 split
 ·exact WD hk.p1 hk.p2 hk.p3
 ·exact hk
theorem a4x {l : List qg} (h : ∀ c ∈ l, OkC c) {n : Nat} {d : qg} (hd : OkC d) : ∀ c ∈ l.set n d, OkC c := by
 intro c hc
 rcases List.mem_or_eq_of_mem_set hc with q | rfl
 ·exact h c q
 ·exact hd
theorem ah8 {n : Nat} {l : List qg} (h : LineOk n l) {c : qg} (hc : OkC c) (k : Int) : LineOk n (wY l k c).1 := by
 refine ⟨putP_len.trans h.len, ?_, aaJ h.right hc⟩
 unfold wY
 split
 ·refine a4K ?_
  unfold wy
  split
  ·exact a4x (a4x h.ok hc) (agn hc)
  ·exact a4x h.ok hc
 ·exact h.ok
theorem afN {c : qg} (h : OkC c) {m : Int} (hm : Z4 m) : OkC (jr c m).1 := by
 unfold jr
 split
 ·split
  ·exact ⟨h.r, hm, h.m2, h.w, h.p1, h.p2, h.p3⟩
  ·split
   ·exact ⟨h.r, h.m1, hm, h.w, h.p1, h.p2, h.p3⟩
   ·exact h
 ·exact h
theorem ae9 {n : Nat} {l : List qg} (h : LineOk n l) {m : Int} (hm : Z4 m) (k : Int) : LineOk n (jP l k m).1 := by
 refine ⟨markP_len.trans h.len, ?_, a7X h.right⟩
 unfold jP
 split
 ·split
  ·rename_i c hc
   exact a4x h.ok (afN (h.ok c (List.mem_of_getElem? hc)) hm)
  ·exact h.ok
 ·exact h.ok
theorem a6y {n : Nat} {l : List qg} (h : LineOk n l) {f t a b c : Int} (ha : u8r a) (hb : u8r b) (hc : u8r c) (hp : Z2 a b c = true) : LineOk n (km (wG l f t a b c)) := by
 refine ⟨by rw [kU, K5]; exact h.len, a4K fun d hd => ?_, adF h.right hp⟩
 obtain ⟨i, hi⟩ := List.mem_iff_getElem?.1 hd
 have hlt : i < l.length := by have := (List.getElem?_eq_some_iff.1 hi).1; rwa [K5] at this
 obtain ⟨e, he⟩ := qF hlt
 rw [V2 he] at hi
 cases hi
 split
 ·exact WD ha hb hc
 ·exact h.ok e (List.mem_of_getElem? he)
theorem ajE {m : Int} (h : qU m = true) : Y4 m = m.toNat := by
 unfold qU at h
 simp only [q8, Bool.and_eq_true, decide_eq_true_eq] at h
 unfold Y4
 rw [if_neg (by omega), if_neg (by omega)]
theorem afz {n : Nat} {l : List qg} (h : LineOk n l) {m : Int} (hm : qU m = true) : LineOk m.toNat (km (a4e l (Y4 m))) := by
 refine ⟨by rw [kU, UT, ajE hm], a4K fun d hd => ?_, adm h.right⟩
 obtain ⟨i, hi⟩ := List.mem_iff_getElem?.1 hd
 have hlt : i < Y4 m := by have := (List.getElem?_eq_some_iff.1 hi).1; rwa [UT] at this
 rw [a7a l hlt] at hi
 cases hi
 cases hx : l[i]? with
 | none => exact WD uh uh uh
 | some e => exact h.ok e (List.mem_of_getElem? hx)
theorem V9 {m : Int} (hm : qU m = true) : LineOk m.toNat (wp m) := by
 refine ⟨agv hm, fun d hd => ?_, abp m⟩
 unfold wp at hd
 rw [List.eq_of_mem_replicate hd]
 exact WD uh uh uh
structure GOk (L : qu) (cols : Nat) : Prop where
 rows : 1 ≤ L.length ∧ L.length ≤ 512
 wide : 1 ≤ cols ∧ cols ≤ 512
 line : ∀ l ∈ L, LineOk cols l
theorem GOk.small {L : qu} {cols : Nat} (h : GOk L cols) : Zr L := fun l hl => by have := (h.line l hl).len; have := h.wide; omega
theorem GOk.first {L : qu} {cols : Nat} (h : GOk L cols) : ∃ l0, L[0]? = some l0 ∧ l0.length = cols := by
 obtain ⟨l0, h0⟩ := qF (l := L) (i := 0) (by have := h.rows; omega)
 exact ⟨l0, h0, (h.line l0 (List.mem_of_getElem? h0)).len⟩
theorem GOk.ok {L : qu} {cols : Nat} (h : GOk L cols) : ∀ l ∈ L, ∀ c ∈ l, OkC c := fun l hl => (h.line l hl).ok
theorem GOk.set {L : qu} {cols n : Nat} (h : GOk L cols) {l : List qg} (hl : LineOk cols l) : GOk (L.set n l) cols := by
 refine ⟨by rw [List.length_set]; exact h.rows, h.wide, fun x hx => ?_⟩
 rcases List.mem_or_eq_of_mem_set hx with q | rfl
 ·exact h.line x q
 ·exact hl
theorem GOk.turn {L : qu} {cols : Nat} (h : GOk L cols) (k : Int) (f : List qg → List qg × Bool) (hf : ∀ l, LineOk cols l → (f l).2 = true → LineOk cols (f l).1) : GOk (kr L k f).2 cols := by
 unfold kr
 split
 ·split
  ·rename_i l hl
   split
   ·rename_i hb
    exact h.set (hf l (h.line l (List.mem_of_getElem? hl)) hb)
   ·exact h
  ·exact h
 ·exact h
theorem GOk.fit {L : qu} {cols0 : Nat} (h : GOk L cols0) {rows cols : Nat} (hr : qU (rows : Int) = true) (hc : qU (cols : Int) = true) : GOk (aiG L rows (cols : Int)) cols := by
 have hr' : 1 ≤ (rows : Int) ∧ (rows : Int) ≤ 512 := by unfold qU at hr; simpa using hr
 have hc' : 1 ≤ (cols : Int) ∧ (cols : Int) ≤ 512 := by unfold qU at hc; simpa using hc
 have hlen : (aiG L rows (cols : Int)).length = rows := by unfold aiG; rw [acV]
 refine ⟨by omega, by omega, fun x hx => ?_⟩
 obtain ⟨i, hi⟩ := List.mem_iff_getElem?.1 hx
 have hlt : i < rows := by have := (List.getElem?_eq_some_iff.1 hi).1; omega
 unfold aiG at hi
 rw [acU hlt] at hi
 cases hi
 cases hq : L[i]? with
 | none => exact V9 hc
 | some l =>
  simp only
  split
  ·exact afz (h.line l (List.mem_of_getElem? hq)) hc
  ·exact V9 hc
theorem GOk.scroll {L : qu} {cols : Nat} (h : GOk L cols) (n : Int) {a b c : Int} (ha : u8r a) (hb : u8r b) (hc : u8r c) (hp : Z2 a b c = true) : GOk (Zd L n (blL cols a b c)) cols := by
 have hs : qU (cols : Int) = true := by have := h.wide; unfold qU; simp; omega
 have hbl : LineOk cols (blL cols a b c) := a6y (V9 hs) ha hb hc hp
 refine ⟨by rw [Z0]; exact h.rows, h.wide, fun x hx => ?_⟩
 obtain ⟨i, hi⟩ := List.mem_iff_getElem?.1 hx
 have hlt : i < L.length := by have := (List.getElem?_eq_some_iff.1 hi).1; rwa [Z0] at this
 rw [vH hlt] at hi
 cases hi
 split
 ·cases hq : L[((i : Int) + n).toNat]? with
  | none => exact hbl
  | some l => exact h.line l (List.mem_of_getElem? hq)
 ·exact hbl
theorem GOk.new {rows cols : Nat} (hr : qU (rows : Int) = true) (hc : qU (cols : Int) = true) : GOk (List.replicate rows (wp (cols : Int))) cols := by
 have hr' : 1 ≤ (rows : Int) ∧ (rows : Int) ≤ 512 := by unfold qU at hr; simpa using hr
 have hc' : 1 ≤ (cols : Int) ∧ (cols : Int) ≤ 512 := by unfold qU at hc; simpa using hc
 refine ⟨by rw [List.length_replicate]; omega, by omega, fun x hx => ?_⟩
 rw [List.eq_of_mem_replicate hx]
 exact V9 hc
theorem WK (L : qu) (k : Int) (f : List qg → List qg × Bool) : (kr L k f).2.length = L.length := by
 unfold kr
 split
 ·split
  ·split
   ·simp
   ·rfl
  ·rfl
 ·rfl
theorem a6d {n : Int} {k : Nat} (h : 1 ≤ k) : qO n k < k := by unfold qO; omega
set_option maxHeartbeats 0
open Go.Proofs
set_option maxHeartbeats 4000000
set_option maxHeartbeats 0
open Go.Proofs
def kE (x0 : y6) (x1 : Int) (x2 : Int) : Option Int :=
 bif decide (x1 < 0) then
 some x2
 else bif decide ((↑x0.2.2.length : Int) ≤ x1) then
 some x2
 else bif decide (0 ≤ x1) then
 (x0.2.2[Int.toNat x1]?).bind fun x3 =>
 bif x3 == -1 then
 some x2
 else bif decide (0 ≤ x1) then
 (x0.2.2[Int.toNat x1]?).bind fun x4 =>
 some x4
 else none
 else none
def UU : TEnt := ⟨177, .cons (.agg Vy) yk, [], [(.int .i64, [])], fun s => kE s.1 s.2.1 s.2.2⟩
theorem jO : qA Tryz.prog UU := eo0 _ tn (fun s => by kernel_rfl) (by kernel_rfl)
def kR (x0 : y6) (x1 : Int) : Option Int :=
 (kE x0 x1 (1 : Int)).bind fun x2 =>
 some (if (512 : Int) < if x2 > 1 then x2 else (1 : Int) then (512 : Int) else if x2 > 1 then x2 else (1 : Int))
def a7F : TEnt := ⟨176, .cons (.agg Vy) (.int .i64), [], [(.int .i64, [])], fun s => kR s.1 s.2⟩
theorem wc : qA Tryz.prog a7F := eo0 _ (tc jO tn) (fun s => by kernel_rfl) (by kernel_rfl)
def jz (x0 : y6) (x1 : Int) (x2 : Int) : Option Int :=
 bif decide (x1 < 0) then
 some x2
 else bif decide ((↑x0.2.2.length : Int) ≤ x1) then
 some x2
 else bif decide (0 ≤ x1) then
 (x0.2.2[Int.toNat x1]?).bind fun x3 =>
 bif x3 == -1 then
 some x2
 else bif decide (0 ≤ x1) then
 (x0.2.2[Int.toNat x1]?).bind fun x4 =>
 some x4
 else none
 else none
def a3X : TEnt := ⟨71, .cons (.agg ajX) yk, [], [(.int .i64, [])], fun s => jz s.1 s.2.1 s.2.2⟩
theorem Xq : qA Tryz.prog a3X := eo0 _ tn (fun s => by kernel_rfl) (by kernel_rfl)
def vC (x0 : Int) (x1 : Int) (x2 : (List Int)) : Option y6 :=
 some (x0, ((IntKind.i64.wrap x1), x2))
def agb : TEnt := ⟨32, .agg Vy, [], [(.agg ajX, [])], fun s => vC s.1 s.2.1 s.2.2⟩
theorem a67 : qA Tryz.prog agb := eo0 _ tn (fun s => by kernel_rfl) (by kernel_rfl)
def Q0 (x0 : Int) : Option Int :=
 bif decide (20 < x0) then
 bif decide (x0 ≤ 512) then
 some ((20 : Int))
 else some x0
 else some x0
def a69 : TEnt := ⟨25, .int .i64, [], [(.int .i64, [])], fun s => Q0 s⟩
theorem Uv : qA Tryz.prog a69 := eo0 _ tn (fun s => by kernel_rfl) (by kernel_rfl)
def J9 (x0 : Int) : Option Int :=
 bif x0 == 22 then
 some ((3 : Int))
 else bif x0 == 1 then
 some ((1 : Int))
 else bif x0 == 2 then
 some ((2 : Int))
 else Option.bind (
 bif x0 == 24 then
 some (Sum.inl (x0, true))
 else some (Sum.inl (x0, (x0 == 4)))) fun (x1 : ((Int × Bool) ⊕ Int)) =>
 match x1 with
     | Sum.inl x2 =>
      bif x2.2 then
      some ((4 : Int))
      else Option.bind (
      bif x2.1 == 25 then
      some (Sum.inl (x2.1, true))
      else some (Sum.inl (x2.1, (x2.1 == 5)))) fun (x3 : ((Int × Bool) ⊕ Int)) =>
      match x3 with
         | Sum.inl x4 =>
          bif x4.2 then
          some ((8 : Int))
          else bif x4.1 == 27 then
          some ((16 : Int))
          else bif x4.1 == 7 then
          some ((16 : Int))
          else some ((0 : Int))
         | Sum.inr x4 =>
          some x4
     | Sum.inr x2 =>
      some x2
def aaV : TEnt := ⟨200, .int .i64, [], [(.int .u8, [])], fun s => J9 s⟩
theorem a13 : qA Tryz.prog aaV := zH (loops := []) (joins := [(1229297241, [3, 10], (.cons (.int .i64) .bool), []), (629400187481, [3, 13], (.cons (.int .i64) .bool), [])]) (un := []) _ tn (fun s => by kernel_rfl) (by kernel_rfl)
def Jd (x0 : Y6_) (x1 : Int) (x2 : Bool) : Option Y6_ :=
 bif x2 then
 some ((Go.bits Go.BinOp.or IntKind.u8 (Go.bits Go.BinOp.andNot IntKind.u8 x0.1 x1) x1), x0.2)
 else some ((Go.bits Go.BinOp.andNot IntKind.u8 x0.1 x1), x0.2)
def a9t : TEnt := ⟨201, .cons (.agg Y8_) (.cons (.int .u8) .bool), [], [(.agg Y8_, [])], fun s => Jd s.1 s.2.1 s.2.2⟩
theorem a12 : qA Tryz.prog a9t := eo0 _ tn (fun s => by kernel_rfl) (by kernel_rfl)
def KY (x0 : Y6_) (x1 : Int) : Option Y6_ :=
 bif x1 == 0 then
 some (((0 : Int)), (((0 : Int)), ((0 : Int))))
 else (J9 x1).bind fun x2 =>
 bif x2 != 0 then
 (Jd x0 x2 (decide (x1 < 20))).bind fun x3 =>
 some x3
 else bif decide ((60 : Int) ≤ IntKind.i64.wrap (x1 - (30 : Int))) then
 bif decide (IntKind.i64.wrap (x1 - (30 : Int)) < 68) then
 some (x0.1, ((IntKind.u8.wrap (IntKind.i64.wrap (IntKind.i64.wrap (IntKind.i64.wrap (x1 - (60 : Int)) - (30 : Int)) + (9 : Int)))), x0.2.2))
 else bif decide ((0 : Int) ≤ IntKind.i64.wrap (x1 - (30 : Int))) then
 bif decide (IntKind.i64.wrap (x1 - (30 : Int)) < 8) then
 some (x0.1, ((IntKind.u8.wrap (IntKind.i64.wrap (IntKind.i64.wrap (x1 - (30 : Int)) + (1 : Int)))), x0.2.2))
 else bif IntKind.i64.wrap (x1 - (30 : Int)) == 9 then
 some (x0.1, (((0 : Int)), x0.2.2))
 else bif decide ((60 : Int) ≤ IntKind.i64.wrap (x1 - (40 : Int))) then
 bif decide (IntKind.i64.wrap (x1 - (40 : Int)) < 68) then
 some (x0.1, (x0.2.1, (IntKind.u8.wrap (IntKind.i64.wrap (IntKind.i64.wrap (IntKind.i64.wrap (x1 - (60 : Int)) - (40 : Int)) + (9 : Int))))))
 else bif decide ((0 : Int) ≤ IntKind.i64.wrap (x1 - (40 : Int))) then
 bif decide (IntKind.i64.wrap (x1 - (40 : Int)) < 8) then
 some (x0.1, (x0.2.1, (IntKind.u8.wrap (IntKind.i64.wrap (IntKind.i64.wrap (x1 - (40 : Int)) + (1 : Int))))))
 else bif IntKind.i64.wrap (x1 - (40 : Int)) == 9 then
 some (x0.1, (x0.2.1, ((0 : Int))))
 else some x0
 else bif IntKind.i64.wrap (x1 - (40 : Int)) == 9 then
 some (x0.1, (x0.2.1, ((0 : Int))))
 else some x0
 else bif decide ((0 : Int) ≤ IntKind.i64.wrap (x1 - (40 : Int))) then
 bif decide (IntKind.i64.wrap (x1 - (40 : Int)) < 8) then
 some (x0.1, (x0.2.1, (IntKind.u8.wrap (IntKind.i64.wrap (IntKind.i64.wrap (x1 - (40 : Int)) + (1 : Int))))))
 else bif IntKind.i64.wrap (x1 - (40 : Int)) == 9 then
 some (x0.1, (x0.2.1, ((0 : Int))))
 else some x0
 else bif IntKind.i64.wrap (x1 - (40 : Int)) == 9 then
 some (x0.1, (x0.2.1, ((0 : Int))))
 else some x0
 else bif IntKind.i64.wrap (x1 - (30 : Int)) == 9 then
 some (x0.1, (((0 : Int)), x0.2.2))
 else bif decide ((60 : Int) ≤ IntKind.i64.wrap (x1 - (40 : Int))) then
 bif decide (IntKind.i64.wrap (x1 - (40 : Int)) < 68) then
 some (x0.1, (x0.2.1, (IntKind.u8.wrap (IntKind.i64.wrap (IntKind.i64.wrap (IntKind.i64.wrap (x1 - (60 : Int)) - (40 : Int)) + (9 : Int))))))
 else bif decide ((0 : Int) ≤ IntKind.i64.wrap (x1 - (40 : Int))) then
 bif decide (IntKind.i64.wrap (x1 - (40 : Int)) < 8) then
 some (x0.1, (x0.2.1, (IntKind.u8.wrap (IntKind.i64.wrap (IntKind.i64.wrap (x1 - (40 : Int)) + (1 : Int))))))
 else bif IntKind.i64.wrap (x1 - (40 : Int)) == 9 then
 some (x0.1, (x0.2.1, ((0 : Int))))
 else some x0
 else bif IntKind.i64.wrap (x1 - (40 : Int)) == 9 then
 some (x0.1, (x0.2.1, ((0 : Int))))
 else some x0
 else bif decide ((0 : Int) ≤ IntKind.i64.wrap (x1 - (40 : Int))) then
 bif decide (IntKind.i64.wrap (x1 - (40 : Int)) < 8) then
 some (x0.1, (x0.2.1, (IntKind.u8.wrap (IntKind.i64.wrap (IntKind.i64.wrap (x1 - (40 : Int)) + (1 : Int))))))
 else bif IntKind.i64.wrap (x1 - (40 : Int)) == 9 then
 some (x0.1, (x0.2.1, ((0 : Int))))
 else some x0
 else bif IntKind.i64.wrap (x1 - (40 : Int)) == 9 then
 some (x0.1, (x0.2.1, ((0 : Int))))
 else some x0
 else bif decide ((0 : Int) ≤ IntKind.i64.wrap (x1 - (30 : Int))) then
 bif decide (IntKind.i64.wrap (x1 - (30 : Int)) < 8) then
 some (x0.1, ((IntKind.u8.wrap (IntKind.i64.wrap (IntKind.i64.wrap (x1 - (30 : Int)) + (1 : Int)))), x0.2.2))
 else bif IntKind.i64.wrap (x1 - (30 : Int)) == 9 then
 some (x0.1, (((0 : Int)), x0.2.2))
 else bif decide ((60 : Int) ≤ IntKind.i64.wrap (x1 - (40 : Int))) then
 bif decide (IntKind.i64.wrap (x1 - (40 : Int)) < 68) then
 some (x0.1, (x0.2.1, (IntKind.u8.wrap (IntKind.i64.wrap (IntKind.i64.wrap (IntKind.i64.wrap (x1 - (60 : Int)) - (40 : Int)) + (9 : Int))))))
 else bif decide ((0 : Int) ≤ IntKind.i64.wrap (x1 - (40 : Int))) then
 bif decide (IntKind.i64.wrap (x1 - (40 : Int)) < 8) then
 some (x0.1, (x0.2.1, (IntKind.u8.wrap (IntKind.i64.wrap (IntKind.i64.wrap (x1 - (40 : Int)) + (1 : Int))))))
 else bif IntKind.i64.wrap (x1 - (40 : Int)) == 9 then
 some (x0.1, (x0.2.1, ((0 : Int))))
 else some x0
 else bif IntKind.i64.wrap (x1 - (40 : Int)) == 9 then
 some (x0.1, (x0.2.1, ((0 : Int))))
 else some x0
 else bif decide ((0 : Int) ≤ IntKind.i64.wrap (x1 - (40 : Int))) then
 bif decide (IntKind.i64.wrap (x1 - (40 : Int)) < 8) then
 some (x0.1, (x0.2.1, (IntKind.u8.wrap (IntKind.i64.wrap (IntKind.i64.wrap (x1 - (40 : Int)) + (1 : Int))))))
 else bif IntKind.i64.wrap (x1 - (40 : Int)) == 9 then
 some (x0.1, (x0.2.1, ((0 : Int))))
 else some x0
 else bif IntKind.i64.wrap (x1 - (40 : Int)) == 9 then
 some (x0.1, (x0.2.1, ((0 : Int))))
 else some x0
 else bif IntKind.i64.wrap (x1 - (30 : Int)) == 9 then
 some (x0.1, (((0 : Int)), x0.2.2))
 else bif decide ((60 : Int) ≤ IntKind.i64.wrap (x1 - (40 : Int))) then
 bif decide (IntKind.i64.wrap (x1 - (40 : Int)) < 68) then
 some (x0.1, (x0.2.1, (IntKind.u8.wrap (IntKind.i64.wrap (IntKind.i64.wrap (IntKind.i64.wrap (x1 - (60 : Int)) - (40 : Int)) + (9 : Int))))))
 else bif decide ((0 : Int) ≤ IntKind.i64.wrap (x1 - (40 : Int))) then
 bif decide (IntKind.i64.wrap (x1 - (40 : Int)) < 8) then
 some (x0.1, (x0.2.1, (IntKind.u8.wrap (IntKind.i64.wrap (IntKind.i64.wrap (x1 - (40 : Int)) + (1 : Int))))))
 else bif IntKind.i64.wrap (x1 - (40 : Int)) == 9 then
 some (x0.1, (x0.2.1, ((0 : Int))))
 else some x0
 else bif IntKind.i64.wrap (x1 - (40 : Int)) == 9 then
 some (x0.1, (x0.2.1, ((0 : Int))))
 else some x0
 else bif decide ((0 : Int) ≤ IntKind.i64.wrap (x1 - (40 : Int))) then
 bif decide (IntKind.i64.wrap (x1 - (40 : Int)) < 8) then
 some (x0.1, (x0.2.1, (IntKind.u8.wrap (IntKind.i64.wrap (IntKind.i64.wrap (x1 - (40 : Int)) + (1 : Int))))))
 else bif IntKind.i64.wrap (x1 - (40 : Int)) == 9 then
 some (x0.1, (x0.2.1, ((0 : Int))))
 else some x0
 else bif IntKind.i64.wrap (x1 - (40 : Int)) == 9 then
 some (x0.1, (x0.2.1, ((0 : Int))))
 else some x0
def a8b : TEnt := ⟨195, .cons (.agg Y8_) (.int .i64), [], [(.agg Y8_, [])], fun s => KY s.1 s.2⟩
theorem a16 : qA Tryz.prog a8b := eo0 _ (tc a13 (tc a12 tn)) (fun s => by kernel_rfl) (by kernel_rfl)
def k8 (x2 : ((List Int) × (Int × Int))) (x3 : Y6_) (x4 : Int) (x5 : Int) (x6 : Int) : Option ((((List Int) × (Int × Int)) × (Y6_ × Y6_)) ⊕ Y6_) :=
 bif decide (x2.2.2 < x2.2.1) then
 bif decide (0 ≤ x2.2.2) then
 (x2.1[x2.2.2.toNat]?).bind fun x7 =>
 (KY x3 x7).bind fun x8 =>
 some (Sum.inl ((x2.1, (x2.2.1, (IntKind.i64.wrap (x2.2.2 + (1 : Int))))), (x8, (x4, (x5, x6)))))
 else none
 else some (Sum.inr x3)
def Y6 : (((List Int) × (Int × Int)) × (Y6_ × Y6_)) → Option Y6_ := zq fun s => k8 s.1 s.2.1 s.2.2.1 s.2.2.2.1 s.2.2.2.2
def KO (x0 : Y6_) (x1 : (List Int)) : Option Y6_ :=
 bif (↑x1.length : Int) == 0 then
 some (((0 : Int)), (((0 : Int)), ((0 : Int))))
 else (Y6 ((x1, (((↑x1.length : Int)), ((0 : Int)))), (x0, (((0 : Int)), (((0 : Int)), ((0 : Int))))))).bind fun x2 =>
 some x2
def a8x : TEnt := ⟨180, .cons (.agg Y8_) (.sl (.int .i64)), [], [(.agg Y8_, [])], fun s => KO s.1 s.2⟩
theorem a0r : qA Tryz.prog a8x := zH (loops := [(37450, [2, 4, 11, 12, 13], (.cons (.ptr 0 0) (.cons (.ptr 1 0) (.cons (.sl (.int .i64)) yk))), a7u)]) (joins := []) (un := []) _ (tc a16 tn) (fun s => by kernel_rfl) (by kernel_rfl)
def wh (x0 : Int) : Option Int :=
 bif decide (0 ≤ x0) then
 bif decide (x0.toNat < (5 : Nat) ∧ (5 : Nat) = (5 : Nat)) then
 Option.bind ([(1 : Int), (2 : Int), (4 : Int), (8 : Int), (16 : Int)][x0.toNat]?) fun (x1 : Int) =>
 some x1
 else none
 else none
def aef : TEnt := ⟨133, .int .i64, [], [(.int .u8, [])], fun s => wh s⟩
theorem a37 : qA Tryz.prog aef := eo0 _ tn (fun s => by kernel_rfl) (by kernel_rfl)
def vL (x0 : Int) : Option Int :=
 bif decide (0 ≤ x0) then
 bif decide (x0.toNat < (5 : Nat) ∧ (5 : Nat) = (5 : Nat)) then
 Option.bind ([(1 : Int), (2 : Int), (4 : Int), (5 : Int), (7 : Int)][x0.toNat]?) fun (x1 : Int) =>
 some x1
 else none
 else none
def ahV : TEnt := ⟨131, .int .i64, [], [(.int .i64, [])], fun s => vL s⟩
theorem a6O : qA Tryz.prog ahV := eo0 _ tn (fun s => by kernel_rfl) (by kernel_rfl)
def K4 (x0 : Int) : Option Int :=
 bif decide (0 ≤ x0) then
 bif decide (x0.toNat < (5 : Nat) ∧ (5 : Nat) = (5 : Nat)) then
 Option.bind ([(22 : Int), (22 : Int), (24 : Int), (25 : Int), (27 : Int)][x0.toNat]?) fun (x1 : Int) =>
 some x1
 else none
 else none
def acT : TEnt := ⟨134, .int .i64, [], [(.int .i64, [])], fun s => K4 s⟩
theorem a2I : qA Tryz.prog acT := eo0 _ tn (fun s => by kernel_rfl) (by kernel_rfl)
def yH (x0 : Int) (x1 : Int) : Option Bool :=
 bif decide (x1 ≠ (0 : Int)) then
 some ((IntKind.u8.wrap (Int.tdiv x0 x1)).tmod (2 : Int) == 1)
 else none
def acS : TEnt := ⟨132, .cons (.int .u8) (.int .u8), [], [(.bool, [])], fun s => yH s.1 s.2⟩
theorem a4n : qA Tryz.prog acS := eo0 _ tn (fun s => by kernel_rfl) (by kernel_rfl)
def zR (x15 : a4A) (x16 : Y6_) (x17 : Int) (x18 : Int) (x19 : Int) : Option aci :=
 bif decide (x15.2.2.2 < 8) then
 Option.bind (
 bif x15.2.2.1 == IntKind.i64.wrap ((30 : Int) + x15.2.2.2) then
 some (Sum.inl (x15, ((x16.1, ((IntKind.u8.wrap (IntKind.i64.wrap ((1 : Int) + x15.2.2.2))), x16.2.2)), (x17, (x18, x19)))))
 else some (Sum.inl (x15, (x16, (x17, (x18, x19)))))) fun (x20 : ((a4A × (Y6_ × Y6_)) ⊕ aci)) =>
 match x20 with
   | Sum.inl x21 =>
    Option.bind (
    bif x21.1.2.2.1 == IntKind.i64.wrap ((90 : Int) + x21.1.2.2.2) then
    some (Sum.inl (x21.1, ((x21.2.1.1, ((IntKind.u8.wrap (IntKind.i64.wrap ((9 : Int) + x21.1.2.2.2))), x21.2.1.2.2)), x21.2.2)))
    else some (Sum.inl x21)) fun (x22 : ((a4A × (Y6_ × Y6_)) ⊕ aci)) =>
    match x22 with
      | Sum.inl x23 =>
       bif x23.1.2.2.1 == IntKind.i64.wrap ((40 : Int) + x23.1.2.2.2) then
       bif x23.1.2.2.1 == IntKind.i64.wrap ((100 : Int) + x23.1.2.2.2) then
       some (Sum.inl ((x23.1.1, (x23.1.2.1, (x23.1.2.2.1, (IntKind.i64.wrap (x23.1.2.2.2 + (1 : Int)))))), ((x23.2.1.1, (x23.2.1.2.1, (IntKind.u8.wrap (IntKind.i64.wrap ((9 : Int) + x23.1.2.2.2))))), x23.2.2)))
       else some (Sum.inl ((x23.1.1, (x23.1.2.1, (x23.1.2.2.1, (IntKind.i64.wrap (x23.1.2.2.2 + (1 : Int)))))), ((x23.2.1.1, (x23.2.1.2.1, (IntKind.u8.wrap (IntKind.i64.wrap ((1 : Int) + x23.1.2.2.2))))), x23.2.2)))
       else bif x23.1.2.2.1 == IntKind.i64.wrap ((100 : Int) + x23.1.2.2.2) then
       some (Sum.inl ((x23.1.1, (x23.1.2.1, (x23.1.2.2.1, (IntKind.i64.wrap (x23.1.2.2.2 + (1 : Int)))))), ((x23.2.1.1, (x23.2.1.2.1, (IntKind.u8.wrap (IntKind.i64.wrap ((9 : Int) + x23.1.2.2.2))))), x23.2.2)))
       else some (Sum.inl ((x23.1.1, (x23.1.2.1, (x23.1.2.2.1, (IntKind.i64.wrap (x23.1.2.2.2 + (1 : Int)))))), x23.2))
      | Sum.inr x23 =>
       some x23
   | Sum.inr x21 =>
    some x21
 else bif x15.2.2.1 == 39 then
 bif x15.2.2.1 == 49 then
 some (Sum.inr (Sum.inl ((x15.1, (IntKind.i64.wrap (x15.2.1 + (1 : Int)))), ((x16.1, (((0 : Int)), ((0 : Int)))), (x17, (x18, x19))))))
 else some (Sum.inr (Sum.inl ((x15.1, (IntKind.i64.wrap (x15.2.1 + (1 : Int)))), ((x16.1, (((0 : Int)), x16.2.2)), (x17, (x18, x19))))))
 else bif x15.2.2.1 == 49 then
 some (Sum.inr (Sum.inl ((x15.1, (IntKind.i64.wrap (x15.2.1 + (1 : Int)))), ((x16.1, (x16.2.1, ((0 : Int)))), (x17, (x18, x19))))))
 else some (Sum.inr (Sum.inl ((x15.1, (IntKind.i64.wrap (x15.2.1 + (1 : Int)))), (x16, (x17, (x18, x19))))))
def Yh : (a4A × (Y6_ × Y6_)) → Option ((a2z × (Y6_ × Y6_)) ⊕ Y6_) := zq fun s => zR s.1 s.2.1 s.2.2.1 s.2.2.2.1 s.2.2.2.2
def zV (x10 : a4A) (x11 : Y6_) (x12 : Int) (x13 : Int) (x14 : Int) : Option aci :=
 bif decide (x10.2.2.2 < 5) then
 (vL x10.2.2.2).bind fun x15 =>
 bif x10.2.2.1 == x15 then
 (wh x10.2.2.2).bind fun x16 =>
 (yH x11.1 x16).bind fun x17 =>
 Option.bind (
 bif !x17 then
 (wh x10.2.2.2).bind fun x18 =>
 some (Sum.inl (x10, (((IntKind.u8.wrap (x11.1 + x18)), x11.2), (x12, (x13, x14)))))
 else some (Sum.inl (x10, (x11, (x12, (x13, x14)))))) fun (x18 : ((a4A × (Y6_ × Y6_)) ⊕ aci)) =>
 match x18 with
       | Sum.inl x19 =>
        (K4 x19.1.2.2.2).bind fun x20 =>
        bif x19.1.2.2.1 == x20 then
        (wh x19.1.2.2.2).bind fun x21 =>
        (yH x19.2.1.1 x21).bind fun x22 =>
        bif x22 then
        (wh x19.1.2.2.2).bind fun x23 =>
        some (Sum.inl ((x19.1.1, (x19.1.2.1, (x19.1.2.2.1, (IntKind.i64.wrap (x19.1.2.2.2 + (1 : Int)))))), (((IntKind.u8.wrap (x19.2.1.1 - x23)), x19.2.1.2), x19.2.2)))
        else some (Sum.inl ((x19.1.1, (x19.1.2.1, (x19.1.2.2.1, (IntKind.i64.wrap (x19.1.2.2.2 + (1 : Int)))))), x19.2))
        else some (Sum.inl ((x19.1.1, (x19.1.2.1, (x19.1.2.2.1, (IntKind.i64.wrap (x19.1.2.2.2 + (1 : Int)))))), x19.2))
       | Sum.inr x19 =>
        some x19
 else Option.bind (
 some (Sum.inl (x10, (x11, (x12, (x13, x14)))))) fun (x16 : ((a4A × (Y6_ × Y6_)) ⊕ aci)) =>
 match x16 with
     | Sum.inl x17 =>
      (K4 x17.1.2.2.2).bind fun x18 =>
      bif x17.1.2.2.1 == x18 then
      (wh x17.1.2.2.2).bind fun x19 =>
      (yH x17.2.1.1 x19).bind fun x20 =>
      bif x20 then
      (wh x17.1.2.2.2).bind fun x21 =>
      some (Sum.inl ((x17.1.1, (x17.1.2.1, (x17.1.2.2.1, (IntKind.i64.wrap (x17.1.2.2.2 + (1 : Int)))))), (((IntKind.u8.wrap (x17.2.1.1 - x21)), x17.2.1.2), x17.2.2)))
      else some (Sum.inl ((x17.1.1, (x17.1.2.1, (x17.1.2.2.1, (IntKind.i64.wrap (x17.1.2.2.2 + (1 : Int)))))), x17.2))
      else some (Sum.inl ((x17.1.1, (x17.1.2.1, (x17.1.2.2.1, (IntKind.i64.wrap (x17.1.2.2.2 + (1 : Int)))))), x17.2))
     | Sum.inr x17 =>
      some x17
 else (Yh ((x10.1, (x10.2.1, (x10.2.2.1, ((0 : Int))))), (x11, (x12, (x13, x14))))).bind fun x15 =>
 some (Sum.inr x15)
def Ys : (a4A × (Y6_ × Y6_)) → Option ((a2z × (Y6_ × Y6_)) ⊕ Y6_) := zq fun s => zV s.1 s.2.1 s.2.2.1 s.2.2.2.1 s.2.2.2.2
def zU (x2 : a2z) (x3 : Y6_) (x4 : Int) (x5 : Int) (x6 : Int) : Option ((a2z × (Y6_ × Y6_)) ⊕ Y6_) :=
 bif decide (x2.2 < (↑x2.1.length : Int)) then
 bif decide (0 ≤ x2.2) then
 (x2.1[x2.2.toNat]?).bind fun x7 =>
 Option.bind (
 bif x7 == 0 then
 some (Sum.inl ((x2.1, (x2.2, x7)), ((((0 : Int)), (((0 : Int)), ((0 : Int)))), (x4, (x5, x6)))))
 else some (Sum.inl ((x2.1, (x2.2, x7)), (x3, (x4, (x5, x6)))))) fun (x8 : ((((List Int) × (Int × Int)) × (Y6_ × Y6_)) ⊕ ((a2z × (Y6_ × Y6_)) ⊕ Y6_))) =>
 match x8 with
     | Sum.inl x9 =>
      (Ys ((x9.1.1, (x9.1.2.1, (x9.1.2.2, ((0 : Int))))), x9.2)).bind fun x10 =>
      some x10
     | Sum.inr x9 =>
      some x9
 else none
 else some (Sum.inr x3)
def Yb : (a2z × (Y6_ × Y6_)) → Option Y6_ := zq fun s => zU s.1 s.2.1 s.2.2.1 s.2.2.2.1 s.2.2.2.2
def J0 (x0 : Y6_) (x1 : (List Int)) : Option Y6_ :=
 bif (↑x1.length : Int) == 0 then
 some (((0 : Int)), (((0 : Int)), ((0 : Int))))
 else (Yb ((x1, ((0 : Int))), (x0, (((0 : Int)), (((0 : Int)), ((0 : Int))))))).bind fun x2 =>
 some x2
def a9Z : TEnt := ⟨76, .cons (.agg Y8_) (.sl (.int .i64)), [], [(.agg Y8_, [])], fun s => J0 s.1 s.2⟩
theorem a0z : qA Tryz.prog a9Z := zH (loops := [(37450, [1, 2, 4, 5], (.cons (.sl (.int .i64)) ajC), a7u), (5026489897546, [1, 2, 4, 5, 6, 7], aeT, a7u), (321695353442890, [1, 2, 4, 5, 6, 8], aeT, a7u)]) (joins := [(9817363081, [1, 2, 4, 5, 6], (.cons (.sl (.int .i64)) (.cons (.ptr 0 0) (.cons (.ptr 1 0) yk))), a7u), (164708020962796113, [1, 2, 4, 5, 6, 7], aeT, a7u), (10541313341616628305, [1, 2, 4, 5, 6, 8], aeT, a7u), (674644053863464211529, [1, 2, 4, 5, 6, 8], aeT, a7u)]) (un := []) _ (tc a37 (tc a6O (tc a2I (tc a4n tn)))) (fun s => by kernel_rfl) (by kernel_rfl)
def QA (x0 : (List Int)) : Option (List Int) :=
 bif decide (x0.length = (0 : Nat)) then
 Go.Sim.bothM (
 some []) (
 bif decide ((0 : Nat) = (0 : Nat) ∧ (0 : Nat) + x0.length ≤ (17592186044416 : Nat)) then
 bif decide ((0 : Nat) + x0.length = ([] ++ x0).length) then
 some ([] ++ x0)
 else none
 else none)
 else bif decide ((0 : Nat) = (0 : Nat) ∧ (0 : Nat) + x0.length ≤ (17592186044416 : Nat)) then
 bif decide ((0 : Nat) + x0.length = ([] ++ x0).length) then
 some ([] ++ x0)
 else none
 else none
def a3L : TEnt := ⟨140, .sl (.int .i64), [], [(.own 0, [.li (.int .i64) 3 false])], fun s => QA s⟩
theorem Xd : qA Tryz.prog a3L := eo0 _ tn (fun s => by kernel_rfl) (by kernel_rfl)
def QK (x0 : Int) (x1 : Int) : Option (Unit ⊕ yh) :=
 (KP x0 x1).bind fun x2 =>
 match x2 with
  | Sum.inl x3 =>
   some (Sum.inl ())
  | Sum.inr x3 =>
   kk x3.2 (some (Sum.inr ((((0 : Int)), (((0 : Int)), (((0 : Int)), (((0 : Int)), (((0 : Int)), (((0 : Int)), (((0 : Int)), (((0 : Int)), false)))))))), (x3.1, (x3.2, [])))))
def ad5 : TEnt := ⟨26, .cons (.int .i64) (.int .i64), [], [(.tup (.cons (.cst (.pointer none)) (.cst (.int .i64 11))), []), (.tup (.cons (.ptr 0 0) (.cst (.int .i64 0))), Y1_)], fun s => QK s.1 s.2⟩
theorem a3V : qA Tryz.prog ad5 := eo0 _ (tc a0S tn) (fun s => by kernel_rfl) (by kernel_rfl)
def qS (x0 : Y7_) (x1 : Y6_) (x2 : (List Y0_)) (x3 : (List Int)) : Option (Y6_ × yh) :=
 kk x2 (kk x3 (some ((((0 : Int)), (((0 : Int)), x0.2.2.2.2.2.2.2.1)), (x0, (x1, (x2, x3))))))
def a5q : TEnt := ⟨178, .ptr 0 0, Y1_, [((.agg Y8_), Y1_)], fun s => qS s.1 s.2.1 s.2.2.1 s.2.2.2⟩
theorem Ze : qA Tryz.prog a5q := eo0 _ tn (fun s => by kernel_rfl) (by kernel_rfl)
def yK (x0 : Y7_) (x1 : Y6_) (x2 : (List Y0_)) (x3 : (List Int)) : Option yh :=
 kk x2 ((qr x1 x2).bind fun x4 =>
 kk x4.2.2 ((ke x4.2.1 x4.2.2).bind fun x5 =>
 bif x4.1 == IntKind.i64.wrap (x5.1 - (1 : Int)) then
 kk x5.2.2 (kk x3 ((qS x0 x5.2.1 x5.2.2 x3).bind fun x6 =>
 kk x6.2.2.2.1 ((yR ((1 : Int), x6.1.1, x6.1.2.1, x6.1.2.2) x6.2.2.1 x6.2.2.2.1).bind fun x7 =>
 kk x7.2 (kk x6.2.2.2.2 (some (x6.2.1, (x7.1, (x7.2, x6.2.2.2.2))))))))
 else kk x5.2.2 ((qr x5.2.1 x5.2.2).bind fun x6 =>
 kk x6.2.2 ((qB x6.2.1 x6.2.2).bind fun x7 =>
 kk x7.2.2 ((zh (IntKind.i64.wrap (x6.1 + (1 : Int)), x7.1) x7.2.1 x7.2.2).bind fun x8 =>
 kk x8.2 (kk x3 (some (x0, (x8.1, (x8.2, x3))))))))))
def a8k : TEnt := ⟨129, .ptr 0 0, Y1_, [(.tup .nil, Y1_)], fun s => yK s.1 s.2.1 s.2.2.1 s.2.2.2⟩
theorem Yf : qA Tryz.prog a8k := eo0 _ (tc y8 (tc j7 (tc jJ (tc jY (tc xn (tc Ze tn)))))) (fun s => by kernel_rfl) (by kernel_rfl)
def Zm (x0 : Int) (x1 : Y7_) (x2 : Y6_) (x3 : (List Y0_)) (x4 : (List Int)) : Option yh :=
 (QH x0 x1.2.2.2.2.2.1 x1.2.2.2.2.2.2.1 x1.2.2.2.2.2.2.2.1).bind fun x5 =>
 bif !x5.2 then
 kk x3 ((qB x2 x3).bind fun x6 =>
 (kz x0).bind fun x7 =>
 bif x7 then
 bif x1.2.2.2.2.2.2.2.2 then
 kk x6.2.2 ((qr x6.2.1 x6.2.2).bind fun x8 =>
 kk x8.2.2 ((wS (x8.1, x6.1, x0) x8.2.1 x8.2.2).bind fun x9 =>
 kk x9.2.2 (kk x4 (some (x1, (x9.2.1, (x9.2.2, x4)))))))
 else kk x6.2.2 ((qr x6.2.1 x6.2.2).bind fun x8 =>
 kk x8.2.2 ((wS (x8.1, IntKind.i64.wrap (x6.1 - (1 : Int)), x0) x8.2.1 x8.2.2).bind fun x9 =>
 kk x9.2.2 (kk x4 (some (x1, (x9.2.1, (x9.2.2, x4)))))))
 else kk x6.2.2 ((qr x6.2.1 x6.2.2).bind fun x8 =>
 kk x8.2.2 ((wS (x8.1, IntKind.i64.wrap (x6.1 - (1 : Int)), x0) x8.2.1 x8.2.2).bind fun x9 =>
 kk x9.2.2 (kk x4 (some (x1, (x9.2.1, (x9.2.2, x4))))))))
 else kk x3 ((qC x2 x3).bind fun x6 =>
 bif decide (x6.1 < IntKind.i64.wrap x5.1.2.2.2.1) then
 kk x6.2.2 (kk x4 (some (x1, (x6.2.1, (x6.2.2, x4)))))
 else bif x1.2.2.2.2.2.2.2.2 then
 kk x6.2.2 ((qr x6.2.1 x6.2.2).bind fun x7 =>
 kk x7.2.2 ((zh (x7.1, (0 : Int)) x7.2.1 x7.2.2).bind fun x8 =>
 kk x8.2 (kk x4 ((yK x1 x8.1 x8.2 x4).bind fun x9 =>
 kk x9.2.2.1 ((qr x9.2.1 x9.2.2.1).bind fun x10 =>
 kk x10.2.2 ((qB x10.2.1 x10.2.2).bind fun x11 =>
 kk x11.2.2 ((wE (x10.1, x11.1, x5.1.1, x5.1.2.1, x5.1.2.2.1, x5.1.2.2.2.1, x5.1.2.2.2.2.1, x5.1.2.2.2.2.2.1, x5.1.2.2.2.2.2.2) x11.2.1 x11.2.2).bind fun x12 =>
 kk x12.2.2 ((qB x12.2.1 x12.2.2).bind fun x13 =>
 kk x13.2.2 ((qC x13.2.1 x13.2.2).bind fun x14 =>
 kk x14.2.2 ((qr x14.2.1 x14.2.2).bind fun x15 =>
 kk x15.2.2 ((qB x15.2.1 x15.2.2).bind fun x16 =>
 kk x16.2.2 ((zh (x15.1, IntKind.i64.wrap (x16.1 + IntKind.i64.wrap x5.1.2.2.2.1)) x16.2.1 x16.2.2).bind fun x17 =>
 kk x17.2 (kk x9.2.2.2 (some ((x9.1.1, (x9.1.2.1, (x9.1.2.2.1, (x9.1.2.2.2.1, (x9.1.2.2.2.2.1, (x9.1.2.2.2.2.2.1, (x9.1.2.2.2.2.2.2.1, (x9.1.2.2.2.2.2.2.2.1, (decide (x14.1 ≤ IntKind.i64.wrap (x13.1 + IntKind.i64.wrap x5.1.2.2.2.1))))))))))), (x17.1, (x17.2, x9.2.2.2)))))))))))))))))
 else kk x6.2.2 ((qB x6.2.1 x6.2.2).bind fun x7 =>
 kk x7.2.2 ((qC x7.2.1 x7.2.2).bind fun x8 =>
 bif decide (x8.1 < IntKind.i64.wrap (x7.1 + IntKind.i64.wrap x5.1.2.2.2.1)) then
 kk x8.2.2 ((qr x8.2.1 x8.2.2).bind fun x9 =>
 kk x9.2.2 ((zh (x9.1, (0 : Int)) x9.2.1 x9.2.2).bind fun x10 =>
 kk x10.2 (kk x4 ((yK x1 x10.1 x10.2 x4).bind fun x11 =>
 kk x11.2.2.1 ((qr x11.2.1 x11.2.2.1).bind fun x12 =>
 kk x12.2.2 ((qB x12.2.1 x12.2.2).bind fun x13 =>
 kk x13.2.2 ((wE (x12.1, x13.1, x5.1.1, x5.1.2.1, x5.1.2.2.1, x5.1.2.2.2.1, x5.1.2.2.2.2.1, x5.1.2.2.2.2.2.1, x5.1.2.2.2.2.2.2) x13.2.1 x13.2.2).bind fun x14 =>
 kk x14.2.2 ((qB x14.2.1 x14.2.2).bind fun x15 =>
 kk x15.2.2 ((qC x15.2.1 x15.2.2).bind fun x16 =>
 kk x16.2.2 ((qr x16.2.1 x16.2.2).bind fun x17 =>
 kk x17.2.2 ((qB x17.2.1 x17.2.2).bind fun x18 =>
 kk x18.2.2 ((zh (x17.1, IntKind.i64.wrap (x18.1 + IntKind.i64.wrap x5.1.2.2.2.1)) x18.2.1 x18.2.2).bind fun x19 =>
 kk x19.2 (kk x11.2.2.2 (some ((x11.1.1, (x11.1.2.1, (x11.1.2.2.1, (x11.1.2.2.2.1, (x11.1.2.2.2.2.1, (x11.1.2.2.2.2.2.1, (x11.1.2.2.2.2.2.2.1, (x11.1.2.2.2.2.2.2.2.1, (decide (x16.1 ≤ IntKind.i64.wrap (x15.1 + IntKind.i64.wrap x5.1.2.2.2.1))))))))))), (x19.1, (x19.2, x11.2.2.2)))))))))))))))))
 else kk x8.2.2 ((qr x8.2.1 x8.2.2).bind fun x9 =>
 kk x9.2.2 ((qB x9.2.1 x9.2.2).bind fun x10 =>
 kk x10.2.2 ((wE (x9.1, x10.1, x5.1.1, x5.1.2.1, x5.1.2.2.1, x5.1.2.2.2.1, x5.1.2.2.2.2.1, x5.1.2.2.2.2.2.1, x5.1.2.2.2.2.2.2) x10.2.1 x10.2.2).bind fun x11 =>
 kk x11.2.2 ((qB x11.2.1 x11.2.2).bind fun x12 =>
 kk x12.2.2 ((qC x12.2.1 x12.2.2).bind fun x13 =>
 kk x13.2.2 ((qr x13.2.1 x13.2.2).bind fun x14 =>
 kk x14.2.2 ((qB x14.2.1 x14.2.2).bind fun x15 =>
 kk x15.2.2 ((zh (x14.1, IntKind.i64.wrap (x15.1 + IntKind.i64.wrap x5.1.2.2.2.1)) x15.2.1 x15.2.2).bind fun x16 =>
 kk x16.2 (kk x4 (some ((x1.1, (x1.2.1, (x1.2.2.1, (x1.2.2.2.1, (x1.2.2.2.2.1, (x1.2.2.2.2.2.1, (x1.2.2.2.2.2.2.1, (x1.2.2.2.2.2.2.2.1, (decide (x13.1 ≤ IntKind.i64.wrap (x12.1 + IntKind.i64.wrap x5.1.2.2.2.1))))))))))), (x16.1, (x16.2, x4))))))))))))))))
def a5Y : TEnt := ⟨69, .cons (.ptr 0 0) (.int .i32), Y1_, [(.tup .nil, Y1_)], fun s => Zm s.1 s.2.1 s.2.2.1 s.2.2.2.1 s.2.2.2.2⟩
theorem Uw : qA Tryz.prog a5Y := eo0 _ (tc Qe (tc a4P (tc y2 (tc j7 (tc jJ (tc a0O (tc a0a (tc jY (tc Yf tn))))))))) (fun s => by kernel_rfl) (by kernel_rfl)
def wD (x0 : (Int × Int)) (x1 : Y7_) (x2 : Y6_) (x3 : (List Y0_)) (x4 : (List Int)) : Option yh :=
 kk x3 ((qr x2 x3).bind fun x5 =>
 kk x5.2.2 ((qB x5.2.1 x5.2.2).bind fun x6 =>
 kk x6.2.2 ((zh (IntKind.i64.wrap (x5.1 + x0.1), IntKind.i64.wrap (x6.1 + x0.2)) x6.2.1 x6.2.2).bind fun x7 =>
 kk x7.2 (kk x4 (some ((x1.1, (x1.2.1, (x1.2.2.1, (x1.2.2.2.1, (x1.2.2.2.2.1, (x1.2.2.2.2.2.1, (x1.2.2.2.2.2.2.1, (x1.2.2.2.2.2.2.2.1, false)))))))), (x7.1, (x7.2, x4))))))))
def aas : TEnt := ⟨175, .cons (.ptr 0 0) yk, Y1_, [(.tup .nil, Y1_)], fun s => wD s.1 s.2.1 s.2.2.1 s.2.2.2.1 s.2.2.2.2⟩
theorem yV : qA Tryz.prog aas := eo0 _ (tc j7 (tc jJ (tc jY tn))) (fun s => by kernel_rfl) (by kernel_rfl)
def K1 (x0 : Int) (x1 : Y7_) (x2 : Y6_) (x3 : (List Y0_)) (x4 : (List Int)) : Option yh :=
 bif x0 == 13 then
 kk x3 ((qr x2 x3).bind fun x5 =>
 kk x5.2.2 ((zh (x5.1, (0 : Int)) x5.2.1 x5.2.2).bind fun x6 =>
 kk x6.2 (kk x4 (some ((x1.1, (x1.2.1, (x1.2.2.1, (x1.2.2.2.1, (x1.2.2.2.2.1, (x1.2.2.2.2.2.1, (x1.2.2.2.2.2.2.1, (x1.2.2.2.2.2.2.2.1, false)))))))), (x6.1, (x6.2, x4)))))))
 else bif x0 == 10 then
 kk x3 (kk x4 ((yK x1 x2 x3 x4).bind fun x5 =>
 kk x5.2.2.1 (kk x5.2.2.2 (some ((x5.1.1, (x5.1.2.1, (x5.1.2.2.1, (x5.1.2.2.2.1, (x5.1.2.2.2.2.1, (x5.1.2.2.2.2.2.1, (x5.1.2.2.2.2.2.2.1, (x5.1.2.2.2.2.2.2.2.1, false)))))))), x5.2)))))
 else bif x0 == 8 then
 kk x3 ((qr x2 x3).bind fun x5 =>
 kk x5.2.2 ((qB x5.2.1 x5.2.2).bind fun x6 =>
 kk x6.2.2 ((zh (x5.1, IntKind.i64.wrap (x6.1 - (1 : Int))) x6.2.1 x6.2.2).bind fun x7 =>
 kk x7.2 (kk x4 (some ((x1.1, (x1.2.1, (x1.2.2.1, (x1.2.2.2.1, (x1.2.2.2.2.1, (x1.2.2.2.2.2.1, (x1.2.2.2.2.2.2.1, (x1.2.2.2.2.2.2.2.1, false)))))))), (x7.1, (x7.2, x4))))))))
 else kk x3 (kk x4 (some (x1, (x2, (x3, x4)))))
def a1k : TEnt := ⟨70, .cons (.ptr 0 0) (.int .i32), Y1_, [(.tup .nil, Y1_)], fun s => K1 s.1 s.2.1 s.2.2.1 s.2.2.2.1 s.2.2.2.2⟩
theorem xm : qA Tryz.prog a1k := eo0 _ (tc j7 (tc jJ (tc jY (tc Yf tn)))) (fun s => by kernel_rfl) (by kernel_rfl)
def ur (x0 : y6) (x1 : Y7_) (x2 : Y6_) (x3 : (List Y0_)) (x4 : (List Int)) : Option yh :=
 (kR x0 (0 : Int)).bind fun x5 =>
 kk x3 (kk x4 ((wD (IntKind.i64.wrap ((0 : Int) - x5), (0 : Int)) x1 x2 x3 x4).bind fun x6 =>
 kk x6.2.2.1 (kk x6.2.2.2 (some x6))))
def agL : TEnt := ⟨119, .cons (.ptr 0 0) (.agg Vy), Y1_, [(.tup .nil, Y1_)], fun s => ur s.1 s.2.1 s.2.2.1 s.2.2.2.1 s.2.2.2.2⟩
theorem a7i : qA Tryz.prog agL := eo0 _ (tc wc (tc yV tn)) (fun s => by kernel_rfl) (by kernel_rfl)
def Wq (x0 : y6) (x1 : Y7_) (x2 : Y6_) (x3 : (List Y0_)) (x4 : (List Int)) : Option yh :=
 (kR x0 (0 : Int)).bind fun x5 =>
 kk x3 (kk x4 ((wD (x5, (0 : Int)) x1 x2 x3 x4).bind fun x6 =>
 kk x6.2.2.1 (kk x6.2.2.2 (some x6))))
def a52 : TEnt := ⟨120, .cons (.ptr 0 0) (.agg Vy), Y1_, [(.tup .nil, Y1_)], fun s => Wq s.1 s.2.1 s.2.2.1 s.2.2.2.1 s.2.2.2.2⟩
theorem UB : qA Tryz.prog a52 := eo0 _ (tc wc (tc yV tn)) (fun s => by kernel_rfl) (by kernel_rfl)
def W4 (x0 : y6) (x1 : Y7_) (x2 : Y6_) (x3 : (List Y0_)) (x4 : (List Int)) : Option yh :=
 (kR x0 (0 : Int)).bind fun x5 =>
 kk x3 (kk x4 ((wD ((0 : Int), x5) x1 x2 x3 x4).bind fun x6 =>
 kk x6.2.2.1 (kk x6.2.2.2 (some x6))))
def a7h : TEnt := ⟨121, .cons (.ptr 0 0) (.agg Vy), Y1_, [(.tup .nil, Y1_)], fun s => W4 s.1 s.2.1 s.2.2.1 s.2.2.2.1 s.2.2.2.2⟩
theorem XN : qA Tryz.prog a7h := eo0 _ (tc wc (tc yV tn)) (fun s => by kernel_rfl) (by kernel_rfl)
def YI (x0 : y6) (x1 : Y7_) (x2 : Y6_) (x3 : (List Y0_)) (x4 : (List Int)) : Option yh :=
 (kR x0 (0 : Int)).bind fun x5 =>
 kk x3 (kk x4 ((wD ((0 : Int), IntKind.i64.wrap ((0 : Int) - x5)) x1 x2 x3 x4).bind fun x6 =>
 kk x6.2.2.1 (kk x6.2.2.2 (some x6))))
def aba : TEnt := ⟨122, .cons (.ptr 0 0) (.agg Vy), Y1_, [(.tup .nil, Y1_)], fun s => YI s.1 s.2.1 s.2.2.1 s.2.2.2.1 s.2.2.2.2⟩
theorem a15 : qA Tryz.prog aba := eo0 _ (tc wc (tc yV tn)) (fun s => by kernel_rfl) (by kernel_rfl)
def W6 (x0 : y6) (x1 : Y7_) (x2 : Y6_) (x3 : (List Y0_)) (x4 : (List Int)) : Option yh :=
 (kR x0 (0 : Int)).bind fun x5 =>
 (kR x0 (1 : Int)).bind fun x6 =>
 kk x3 ((zh (IntKind.i64.wrap (x5 - (1 : Int)), IntKind.i64.wrap (x6 - (1 : Int))) x2 x3).bind fun x7 =>
 kk x7.2 (kk x4 (some ((x1.1, (x1.2.1, (x1.2.2.1, (x1.2.2.2.1, (x1.2.2.2.2.1, (x1.2.2.2.2.2.1, (x1.2.2.2.2.2.2.1, (x1.2.2.2.2.2.2.2.1, false)))))))), (x7.1, (x7.2, x4))))))
def a82 : TEnt := ⟨123, .cons (.ptr 0 0) (.agg Vy), Y1_, [(.tup .nil, Y1_)], fun s => W6 s.1 s.2.1 s.2.2.1 s.2.2.2.1 s.2.2.2.2⟩
theorem U0 : qA Tryz.prog a82 := eo0 _ (tc jY (tc wc tn)) (fun s => by kernel_rfl) (by kernel_rfl)
def Kr (x0 : y6) (x1 : Y7_) (x2 : Y6_) (x3 : (List Y0_)) (x4 : (List Int)) : Option yh :=
 (kE x0 (0 : Int) (0 : Int)).bind fun x5 =>
 bif x5 == 0 then
 kk x3 ((qB x2 x3).bind fun x6 =>
 kk x6.2.2 ((qC x6.2.1 x6.2.2).bind fun x7 =>
 kk x7.2.2 ((qr x7.2.1 x7.2.2).bind fun x8 =>
 kk x8.2.2 (kk x4 ((qS x1 x8.2.1 x8.2.2 x4).bind fun x9 =>
 kk x9.2.2.2.1 ((zI (x8.1, x6.1, x7.1, x9.1.1, x9.1.2.1, x9.1.2.2) x9.2.2.1 x9.2.2.2.1).bind fun x10 =>
 kk x10.2 (kk x9.2.2.2.2 (some (x9.2.1, (x10.1, (x10.2, x9.2.2.2.2)))))))))))
 else bif x5 == 1 then
 kk x3 ((qB x2 x3).bind fun x6 =>
 kk x6.2.2 ((qr x6.2.1 x6.2.2).bind fun x7 =>
 kk x7.2.2 (kk x4 ((qS x1 x7.2.1 x7.2.2 x4).bind fun x8 =>
 kk x8.2.2.2.1 ((zI (x7.1, (0 : Int), IntKind.i64.wrap (x6.1 + (1 : Int)), x8.1.1, x8.1.2.1, x8.1.2.2) x8.2.2.1 x8.2.2.2.1).bind fun x9 =>
 kk x9.2 (kk x8.2.2.2.2 (some (x8.2.1, (x9.1, (x9.2, x8.2.2.2.2))))))))))
 else bif x5 == 2 then
 kk x3 ((qC x2 x3).bind fun x6 =>
 kk x6.2.2 ((qr x6.2.1 x6.2.2).bind fun x7 =>
 kk x7.2.2 (kk x4 ((qS x1 x7.2.1 x7.2.2 x4).bind fun x8 =>
 kk x8.2.2.2.1 ((zI (x7.1, (0 : Int), x6.1, x8.1.1, x8.1.2.1, x8.1.2.2) x8.2.2.1 x8.2.2.2.1).bind fun x9 =>
 kk x9.2 (kk x8.2.2.2.2 (some (x8.2.1, (x9.1, (x9.2, x8.2.2.2.2))))))))))
 else kk x3 (kk x4 (some (x1, (x2, (x3, x4)))))
def adT : TEnt := ⟨125, .cons (.ptr 0 0) (.agg Vy), Y1_, [(.tup .nil, Y1_)], fun s => Kr s.1 s.2.1 s.2.2.1 s.2.2.2.1 s.2.2.2.2⟩
theorem Vd : qA Tryz.prog adT := eo0 _ (tc y2 (tc j7 (tc jJ (tc Jq (tc jO (tc Ze tn)))))) (fun s => by kernel_rfl) (by kernel_rfl)
def kg (x7 : Y6_) (x8 : Y7_) (x9 : Y6_) (x10 : (List Y0_)) (x11 : (List Int)) (x12 : Int) (x13 : Int) (x14 : (List Int)) : Option ((Y6_ × (Y7_ × (Y6_ × ((List Y0_) × ((List Int) × y6))))) ⊕ yh) :=
 bif decide (x7.2.2 < x7.2.1) then
 bif x7.1 == 2 then
 kk x10 ((qC x9 x10).bind fun x15 =>
 kk x15.2.2 (kk x11 ((qS x8 x15.2.1 x15.2.2 x11).bind fun x16 =>
 kk x16.2.2.2.1 ((zI (x7.2.2, (0 : Int), x15.1, x16.1.1, x16.1.2.1, x16.1.2.2) x16.2.2.1 x16.2.2.2.1).bind fun x17 =>
 kk x17.2 (kk x16.2.2.2.2 (some (Sum.inl ((x7.1, (x7.2.1, (IntKind.i64.wrap (x7.2.2 + (1 : Int))))), (x16.2.1, (x17.1, (x17.2, (x16.2.2.2.2, (x12, (x13, x14))))))))))))))
 else bif x7.1 == 0 then
 kk x10 ((qr x9 x10).bind fun x15 =>
 bif decide (x15.1 < x7.2.2) then
 kk x15.2.2 ((qC x15.2.1 x15.2.2).bind fun x16 =>
 kk x16.2.2 (kk x11 ((qS x8 x16.2.1 x16.2.2 x11).bind fun x17 =>
 kk x17.2.2.2.1 ((zI (x7.2.2, (0 : Int), x16.1, x17.1.1, x17.1.2.1, x17.1.2.2) x17.2.2.1 x17.2.2.2.1).bind fun x18 =>
 kk x18.2 (kk x17.2.2.2.2 (some (Sum.inl ((x7.1, (x7.2.1, (IntKind.i64.wrap (x7.2.2 + (1 : Int))))), (x17.2.1, (x18.1, (x18.2, (x17.2.2.2.2, (x12, (x13, x14))))))))))))))
 else bif x7.1 == 1 then
 kk x15.2.2 ((qr x15.2.1 x15.2.2).bind fun x16 =>
 bif decide (x7.2.2 < x16.1) then
 kk x16.2.2 ((qC x16.2.1 x16.2.2).bind fun x17 =>
 kk x17.2.2 (kk x11 ((qS x8 x17.2.1 x17.2.2 x11).bind fun x18 =>
 kk x18.2.2.2.1 ((zI (x7.2.2, (0 : Int), x17.1, x18.1.1, x18.1.2.1, x18.1.2.2) x18.2.2.1 x18.2.2.2.1).bind fun x19 =>
 kk x19.2 (kk x18.2.2.2.2 (some (Sum.inl ((x7.1, (x7.2.1, (IntKind.i64.wrap (x7.2.2 + (1 : Int))))), (x18.2.1, (x19.1, (x19.2, (x18.2.2.2.2, (x12, (x13, x14))))))))))))))
 else kk x16.2.2 (kk x11 (some (Sum.inl ((x7.1, (x7.2.1, (IntKind.i64.wrap (x7.2.2 + (1 : Int))))), (x8, (x16.2.1, (x16.2.2, (x11, (x12, (x13, x14)))))))))))
 else kk x15.2.2 (kk x11 (some (Sum.inl ((x7.1, (x7.2.1, (IntKind.i64.wrap (x7.2.2 + (1 : Int))))), (x8, (x15.2.1, (x15.2.2, (x11, (x12, (x13, x14)))))))))))
 else bif x7.1 == 1 then
 kk x10 ((qr x9 x10).bind fun x15 =>
 bif decide (x7.2.2 < x15.1) then
 kk x15.2.2 ((qC x15.2.1 x15.2.2).bind fun x16 =>
 kk x16.2.2 (kk x11 ((qS x8 x16.2.1 x16.2.2 x11).bind fun x17 =>
 kk x17.2.2.2.1 ((zI (x7.2.2, (0 : Int), x16.1, x17.1.1, x17.1.2.1, x17.1.2.2) x17.2.2.1 x17.2.2.2.1).bind fun x18 =>
 kk x18.2 (kk x17.2.2.2.2 (some (Sum.inl ((x7.1, (x7.2.1, (IntKind.i64.wrap (x7.2.2 + (1 : Int))))), (x17.2.1, (x18.1, (x18.2, (x17.2.2.2.2, (x12, (x13, x14))))))))))))))
 else kk x15.2.2 (kk x11 (some (Sum.inl ((x7.1, (x7.2.1, (IntKind.i64.wrap (x7.2.2 + (1 : Int))))), (x8, (x15.2.1, (x15.2.2, (x11, (x12, (x13, x14)))))))))))
 else kk x10 (kk x11 (some (Sum.inl ((x7.1, (x7.2.1, (IntKind.i64.wrap (x7.2.2 + (1 : Int))))), (x8, (x9, (x10, (x11, (x12, (x13, x14))))))))))
 else kk x10 (kk x11 ((Kr (x12, x13, x14) x8 x9 x10 x11).bind fun x15 =>
 kk x15.2.2.1 (kk x15.2.2.2 (some (Sum.inr x15)))))
def vx : (Y6_ × (Y7_ × (Y6_ × ((List Y0_) × ((List Int) × y6))))) → Option yh := zq fun s => kg s.1 s.2.1 s.2.2.1 s.2.2.2.1 s.2.2.2.2.1 s.2.2.2.2.2.1 s.2.2.2.2.2.2.1 s.2.2.2.2.2.2.2
def WJ (x0 : y6) (x1 : Y7_) (x2 : Y6_) (x3 : (List Y0_)) (x4 : (List Int)) : Option yh :=
 (kE x0 (0 : Int) (0 : Int)).bind fun x5 =>
 kk x3 ((ke x2 x3).bind fun x6 =>
 kk x6.2.2 (kk x4 ((vx ((x5, (x6.1, ((0 : Int)))), (x1, (x6.2.1, (x6.2.2, (x4, x0)))))).bind fun x7 =>
 some x7)))
def adC : TEnt := ⟨124, .cons (.ptr 0 0) (.agg Vy), Y1_, [(.tup .nil, Y1_)], fun s => WJ s.1 s.2.1 s.2.2.1 s.2.2.2.1 s.2.2.2.2⟩
theorem a48 : qA Tryz.prog adC := zH (loops := [(4682, [0, 3, 4, 13, 14], (.cons (.ptr 0 0) (.cons (.ptr 4 0) (.cons (.int .i64) yk))), [.st (.cons (.ptr 1 0) agi), .st ajd, .li (.sl Y3_) 104 false, .li (.int .i64) 3 false, .st Vy])]) (joins := []) (un := []) _ (tc y8 (tc y2 (tc j7 (tc Jq (tc jO (tc Ze (tc Vd tn))))))) (fun s => by kernel_rfl) (by kernel_rfl)
def zY (x6 : (Int × Int)) (x7 : Y7_) (x8 : Y6_) (x9 : (List Y0_)) (x10 : (List Int)) (x11 : y6) (x12 : (List Int)) : Option (((Int × Int) × (Y7_ × (Y6_ × ((List Y0_) × ((List Int) × (y6 × (List Int))))))) ⊕ yh) :=
 bif decide (x6.2 < x6.1) then
 (kE x11 x6.2 (0 : Int)).bind fun x13 =>
 bif decide (0 ≤ x6.2) then
 bif decide (x6.2.toNat < x12.length ∧ x12.length = x12.length) then
 kk x12 ((x12[x6.2.toNat]?).bind fun x14 =>
 kk x9 (kk x10 (bif decide (x12.length = (x12.set x6.2.toNat x13).length) then
 some (Sum.inl ((x6.1, (IntKind.i64.wrap (x6.2 + (1 : Int)))), (x7, (x8, (x9, (x10, (x11, (x12.set x6.2.toNat x13))))))))
 else none)))
 else none
 else none
 else kk x12 ((KO (x7.2.2.2.2.2.1, x7.2.2.2.2.2.2.1, x7.2.2.2.2.2.2.2.1) x12).bind fun x13 =>
 kk x9 (kk x10 (some (Sum.inr ((x7.1, (x7.2.1, (x7.2.2.1, (x7.2.2.2.1, (x7.2.2.2.2.1, (x13.1, (x13.2.1, (x13.2.2, x7.2.2.2.2.2.2.2.2)))))))), (x8, (x9, x10)))))))
def Yn : ((Int × Int) × (Y7_ × (Y6_ × ((List Y0_) × ((List Int) × (y6 × (List Int))))))) → Option yh := zq fun s => zY s.1 s.2.1 s.2.2.1 s.2.2.2.1 s.2.2.2.2.1 s.2.2.2.2.2.1 s.2.2.2.2.2.2
def KG (x0 : y6) (x1 : Y7_) (x2 : Y6_) (x3 : (List Y0_)) (x4 : (List Int)) : Option yh :=
 (QA x0.2.2).bind fun x5 =>
 kk x5 (kk x3 (kk x4 (kk x5 ((Yn ((((↑(List.length x5) : Int)), ((0 : Int))), (x1, (x2, (x3, (x4, (x0, x5))))))).bind fun x6 =>
 some x6))))
def a8o : TEnt := ⟨126, .cons (.ptr 0 0) (.agg Vy), Y1_, [(.tup .nil, Y1_)], fun s => KG s.1 s.2.1 s.2.2.1 s.2.2.2.1 s.2.2.2.2⟩
theorem a0i : qA Tryz.prog a8o := zH (loops := [(4682, [0, 3, 4, 10, 11], (.cons (.ptr 0 0) (.cons (.ptr 4 0) (.cons (.own 5) yk))), [.st (.cons (.ptr 1 0) agi), .st ajd, .li (.sl Y3_) 104 false, .li (.int .i64) 3 false, .st Vy, .li (.int .i64) 3 false])]) (joins := []) (un := []) _ (tc jO (tc a0r (tc Xd tn))) (fun s => by kernel_rfl) (by kernel_rfl)
set_option maxHeartbeats 4000000
def Ko (f b : Int) : Bool := decide (f / b % 2 = 1)
def onI (i : Nat) : Int := [1, 2, 4, 5, 7].getD i 0
def ack (i : Nat) : Int := [22, 22, 24, 25, 27].getD i 0
def j4 (i : Nat) : Int := [1, 2, 4, 8, 16].getD i 1
def Zh (n f : Int) (i : Nat) : Int :=
 if n = ack i ∧ Ko (if n = onI i ∧ Ko f (j4 i) = false then f + j4 i else f) (j4 i) = true then (if n = onI i ∧ Ko f (j4 i) = false then f + j4 i else f) - j4 i else (if n = onI i ∧ Ko f (j4 i) = false then f + j4 i else f)
def flF (n f : Int) : Nat → Int
 | 0 => f
 | i + 1 => Zh n (flF n f i) i
theorem am2 {i : Nat} (h : i < 5) : vL (i : Int) = some (onI i) := by
 unfold vL
 rcases i with _ | _ | _ | _ | _ | i
 ·rfl
 ·rfl
 ·rfl
 ·rfl
 ·rfl
 ·omega
theorem akm {i : Nat} (h : i < 5) : K4 (i : Int) = some (ack i) := by
 unfold K4
 rcases i with _ | _ | _ | _ | _ | i
 ·rfl
 ·rfl
 ·rfl
 ·rfl
 ·rfl
 ·omega
theorem akt {i : Nat} (h : i < 5) : wh (i : Int) = some (j4 i) := by
 unfold wh
 rcases i with _ | _ | _ | _ | _ | i
 ·rfl
 ·rfl
 ·rfl
 ·rfl
 ·rfl
 ·omega
theorem afk {f : Int} (hf : 0 ≤ f ∧ f < 32) {i : Nat} (h : i < 5) : yH f (j4 i) = some (Ko f (j4 i)) := by
 have key : ∀ (b : Int), (b = 1 ∨ b = 2 ∨ b = 4 ∨ b = 8 ∨ b = 16) → yH f b = some (Ko f b) := by
  intro b hb
  have h0 : b ≠ 0 := by omega
  have h1 : Int.tdiv f b = f / b := Int.tdiv_eq_ediv_of_nonneg hf.1
  have h2 : 0 ≤ f / b ∧ f / b < 32 := by
   rcases hb with rfl | rfl | rfl | rfl | rfl <;> omega
  have h3 : IntKind.u8.wrap (f / b) = f / b := z9 (by omega) (by omega)
  have h4 : Int.tmod (f / b) 2 = f / b % 2 := Int.tmod_eq_emod_of_nonneg h2.1
  unfold yH Ko
  rw [h1, h3, h4]
  simp [h0]
  rfl
 refine key _ ?_
 rcases i with _ | _ | _ | _ | _ | i
 ·exact .inl rfl
 ·exact .inr (.inl rfl)
 ·exact .inr (.inr (.inl rfl))
 ·exact .inr (.inr (.inr (.inl rfl)))
 ·exact .inr (.inr (.inr (.inr rfl)))
 ·omega
theorem akk {n f : Int} (hf : 0 ≤ f ∧ f < 32) {i : Nat} (h : i < 5) : 0 ≤ Zh n f i ∧ Zh n f i < 32 := by
 have key : ∀ (b : Int), (b = 1 ∨ b = 2 ∨ b = 4 ∨ b = 8 ∨ b = 16) → ∀ g : Int, 0 ≤ g ∧ g < 32 → (Ko g b = false → g + b < 32) ∧ (Ko g b = true → 0 ≤ g - b) := by
  intro b hb g hg
  unfold Ko
  simp only [q8, decide_eq_false_iff_not, decide_eq_true_eq]
  rcases hb with rfl | rfl | rfl | rfl | rfl <;> omega
 have hb : j4 i = 1 ∨ j4 i = 2 ∨ j4 i = 4 ∨ j4 i = 8 ∨ j4 i = 16 := by
  rcases i with _ | _ | _ | _ | _ | i
  ·exact .inl rfl
  ·exact .inr (.inl rfl)
  ·exact .inr (.inr (.inl rfl))
  ·exact .inr (.inr (.inr (.inl rfl)))
  ·exact .inr (.inr (.inr (.inr rfl)))
  ·omega
 have h1 : 0 ≤ (if n = onI i ∧ Ko f (j4 i) = false then f + j4 i else f) ∧ (if n = onI i ∧ Ko f (j4 i) = false then f + j4 i else f) < 32 := by
  split
  ·rename_i q
   have := (key _ hb f hf).1 q.2
   omega
  ·exact hf
 unfold Zh
 generalize (if n = onI i ∧ Ko f (j4 i) = false then f + j4 i else f) = g at *
 split
 ·rename_i q
  have := (key _ hb g h1).2 q.2
  omega
 ·exact h1
theorem abC {n f : Int} (hf : 0 ≤ f ∧ f < 32) : ∀ {i : Nat}, i ≤ 5 → 0 ≤ flF n f i ∧ flF n f i < 32
 | 0, _ => hf
 | i + 1, h => akk (abC hf (by omega)) (by omega)
def foR (n fo : Int) (i : Nat) : Int := if 30 ≤ n ∧ n < 30 + (i : Int) then n - 29 else if 90 ≤ n ∧ n < 90 + (i : Int) then n - 81 else fo
def baR (n ba : Int) (i : Nat) : Int := if 40 ≤ n ∧ n < 40 + (i : Int) then n - 39 else if 100 ≤ n ∧ n < 100 + (i : Int) then n - 91 else ba
def vy (n : Int) (p : Int × (Int × Int)) : Int × (Int × Int) :=
 (if n = 0 then 0 else flF n p.1 5, if n = 0 ∨ n = 39 then 0 else foR n p.2.1 8, if n = 0 ∨ n = 49 then 0 else baR n p.2.2 8)
theorem afl {l : List Int} {k n fo ba : Int} (f a b c : Int) (hk : 0 ≤ k ∧ k < 1000000) (hn : Zj n) :
  Yh ((l, (k, (n, (0 : Int)))), ((f, (fo, ba)), (a, (b, c)))) = some (.inl ((l, k + 1), ((f, (if n = 39 then 0 else foR n fo 8, if n = 49 then 0 else baR n ba 8)), (a, (b, c))))) := by
 have h0 : foR n fo 0 = fo := by unfold foR; rw [if_neg (by omega), if_neg (by omega)]
 have h1 : baR n ba 0 = ba := by unfold baR; rw [if_neg (by omega), if_neg (by omega)]
 have main := zu (step := fun s => zR s.1 s.2.1 s.2.2.1 s.2.2.2.1 s.2.2.2.2) (st := fun i => ((l, (k, (n, ((i : Nat) : Int)))), ((f, (foR n fo i, baR n ba i)), (a, (b, c))))) (n := 8) (t := .inl ((l, k + 1), ((f, (if n = 39 then 0 else foR n fo 8, if n = 49 then 0 else baR n ba 8)), (a, (b, c))))) (fun i hi => ?_) ?_ 0 (by omega)
 ·simp only [q8, h0, h1] at main
  exact main
 ·show zR _ _ _ _ _ = _
  unfold zR
  have e : ((i : Int) + 1) = ((i + 1 : Nat) : Int) := by omega
  have e1 : (30 : Int) + (i : Int) = ((30 + i : Nat) : Int) := by omega
  by_cases n1 : n = 30 + (i : Int)
  ·have f1 : foR n fo (i + 1) = 1 + i := by unfold foR; rw [if_pos (by omega)]; omega
   have f2 : baR n ba (i + 1) = baR n ba i := by unfold baR; rw [if_neg (by omega), if_neg (by omega), if_neg (by omega), if_neg (by omega)]
   simp (disch := omega) only [q8, qh, qD, qw, q9, z9, qd, qf, qj, e, f1, f2]
  ·by_cases n2 : n = 90 + (i : Int)
   ·have f1 : foR n fo (i + 1) = 9 + i := by unfold foR; rw [if_neg (by omega), if_pos (by omega)]; omega
    have f2 : baR n ba (i + 1) = baR n ba i := by unfold baR; rw [if_neg (by omega), if_neg (by omega), if_neg (by omega), if_neg (by omega)]
    simp (disch := omega) only [q8, qh, qD, qw, q9, z9, qd, qf, qj, e, f1, f2]
   ·have f1 : foR n fo (i + 1) = foR n fo i := by
     unfold foR
     by_cases q1 : 30 ≤ n ∧ n < 30 + (i : Int)
     ·rw [if_pos q1, if_pos (by omega)]
     ·rw [if_neg q1, if_neg (by omega)]
      by_cases q2 : 90 ≤ n ∧ n < 90 + (i : Int)
      ·rw [if_pos q2, if_pos (by omega)]
      ·rw [if_neg q2, if_neg (by omega)]
    by_cases n3 : n = 40 + (i : Int)
    ·have f2 : baR n ba (i + 1) = 1 + i := by unfold baR; rw [if_pos (by omega)]; omega
     simp (disch := omega) only [q8, qh, qD, qw, q9, z9, qd, qf, qj, e, f1, f2]
    ·by_cases n4 : n = 100 + (i : Int)
     ·have f2 : baR n ba (i + 1) = 9 + i := by unfold baR; rw [if_neg (by omega), if_pos (by omega)]; omega
      simp (disch := omega) only [q8, qh, qD, qw, q9, z9, qd, qf, qj, e, f1, f2]
     ·have f2 : baR n ba (i + 1) = baR n ba i := by
       unfold baR
       by_cases q1 : 40 ≤ n ∧ n < 40 + (i : Int)
       ·rw [if_pos q1, if_pos (by omega)]
       ·rw [if_neg q1, if_neg (by omega)]
        by_cases q2 : 100 ≤ n ∧ n < 100 + (i : Int)
        ·rw [if_pos q2, if_pos (by omega)]
        ·rw [if_neg q2, if_neg (by omega)]
      simp (disch := omega) only [q8, qh, qw, q9, z9, qd, qf, qj, e, f1, f2]
 ·show zR _ _ _ _ _ = _
  unfold zR
  by_cases n1 : n = 39
  ·simp (disch := omega) only [q8, qm, qD, qw, q9, z9, qd, qf, qj, if_pos n1, if_neg (show ¬ n = 49 by omega)]
  ·by_cases n2 : n = 49
   ·simp (disch := omega) only [q8, qm, qD, qw, q9, z9, qd, qf, qj, if_neg n1, if_pos n2]
   ·simp (disch := omega) only [q8, qm, qw, q9, z9, qf, if_neg n1, if_neg n2]
theorem a2g {l : List Int} {k n f fo ba : Int} (a b c : Int) (hf : 0 ≤ f ∧ f < 32) (hk : 0 ≤ k ∧ k < 1000000) (hn : Zj n) :
  Ys ((l, (k, (n, (0 : Int)))), ((f, (fo, ba)), (a, (b, c)))) = some (.inl ((l, k + 1), ((flF n f 5, (if n = 39 then 0 else foR n fo 8, if n = 49 then 0 else baR n ba 8)), (a, (b, c))))) := by
 refine zu (step := fun s => zV s.1 s.2.1 s.2.2.1 s.2.2.2.1 s.2.2.2.2) (st := fun i => ((l, (k, (n, ((i : Nat) : Int)))), ((flF n f i, (fo, ba)), (a, (b, c))))) (n := 5) (t := .inl ((l, k + 1), ((flF n f 5, (if n = 39 then 0 else foR n fo 8, if n = 49 then 0 else baR n ba 8)), (a, (b, c))))) (fun i hi => ?_) ?_ 0 (by omega)
 ·show zV _ _ _ _ _ = _
  unfold zV
  have e : ((i : Int) + 1) = ((i + 1 : Nat) : Int) := by omega
  have hg := abC (n := n) hf (i := i) (by omega)
  have hg1 := abC (n := n) hf (i := i + 1) (by omega)
  have e2 : flF n f (i + 1) = Zh n (flF n f i) i := rfl
  rw [e2] at hg1
  rw [e2]
  generalize flF n f i = g at *
  have h1 := am2 hi
  have h2 := akm hi
  have h3 := akt hi
  have h4 := afk hg hi
  have hb : j4 i = 1 ∨ j4 i = 2 ∨ j4 i = 4 ∨ j4 i = 8 ∨ j4 i = 16 := by
   rcases i with _ | _ | _ | _ | _ | i
   ·exact .inl rfl
   ·exact .inr (.inl rfl)
   ·exact .inr (.inr (.inl rfl))
   ·exact .inr (.inr (.inr (.inl rfl)))
   ·exact .inr (.inr (.inr (.inr rfl)))
   ·omega
  by_cases n1 : n = onI i
  ·cases hh : Ko g (j4 i)
   ·have g2 : 0 ≤ g + j4 i ∧ g + j4 i < 32 := by
     have hh' := hh
     unfold Ko at hh'
     simp only [q8, decide_eq_false_iff_not] at hh'
     rcases hb with q | q | q | q | q <;> rw [q] at hh' ⊢ <;> omega
    have h5 := afk g2 hi
    by_cases n2 : n = ack i
    ·cases hh2 : Ko (g + j4 i) (j4 i)
     ·have er : Zh n g i = g + j4 i := by unfold Zh; simp [n1, hh, hh2]
      simp (disch := omega) only [q8, qh, qD, q9, z9, qd, qf, qj, kx, e, h1, h2, h3, h4, h5, hh, hh2, er]
     ·have er : Zh n g i = g + j4 i - j4 i := by unfold Zh; rw [if_pos (show n = onI i ∧ Ko g (j4 i) = false from ⟨n1, hh⟩), if_pos ⟨n2, hh2⟩]
      rw [er] at hg1
      simp (disch := omega) only [q8, qh, qD, q9, z9, qd, qf, qj, kx, e, h1, h2, h3, h4, h5, hh, hh2, er]
    ·have er : Zh n g i = g + j4 i := by unfold Zh; rw [if_neg (fun q => n2 q.1), if_pos ⟨n1, hh⟩]
     simp (disch := omega) only [q8, qh, qD, qw, q9, z9, qd, qf, qj, kx, e, h1, h2, h3, h4, h5, hh, er]
   ·by_cases n2 : n = ack i
    ·have er : Zh n g i = g - j4 i := by unfold Zh; rw [show (if n = onI i ∧ Ko g (j4 i) = false then g + j4 i else g) = g from if_neg (fun q => by rw [hh] at q; cases q.2), if_pos ⟨n2, hh⟩]
     rw [er] at hg1
     simp (disch := omega) only [q8, qh, qD, q9, z9, qd, qf, qj, zw, e, h1, h2, h3, h4, hh, er]
    ·have er : Zh n g i = g := by unfold Zh; rw [if_neg (fun q => n2 q.1)]; simp [hh]
     simp (disch := omega) only [q8, qh, qD, qw, q9, z9, qd, qf, qj, zw, e, h1, h2, h3, h4, hh, er]
  ·have e3 : (if n = onI i ∧ Ko g (j4 i) = false then g + j4 i else g) = g := if_neg (fun q => n1 q.1)
   by_cases n2 : n = ack i
   ·cases hh : Ko g (j4 i)
    ·have er : Zh n g i = g := by unfold Zh; rw [e3, if_neg (fun q => by rw [hh] at q; cases q.2)]
     simp (disch := omega) only [q8, qh, qD, qw, q9, z9, qd, qf, qj, kx, e, h1, h2, h3, h4, hh, er]
    ·have er : Zh n g i = g - j4 i := by unfold Zh; rw [e3, if_pos ⟨n2, hh⟩]
     rw [er] at hg1
     simp (disch := omega) only [q8, qh, qD, qw, q9, z9, qd, qf, qj, zw, e, h1, h2, h3, h4, hh, er]
   ·have er : Zh n g i = g := by unfold Zh; simp only [q8, e3]; rw [if_neg (fun q => n2 q.1)]
    simp (disch := omega) only [q8, qh, qw, q9, z9, qd, qf, qj, e, h1, h2, h3, h4, er]
 ·show zV _ _ _ _ _ = _
  unfold zV
  have h1 := afl (l := l) (k := k) (n := n) (fo := fo) (ba := ba) (flF n f 5) a b c hk hn
  simp (disch := omega) only [q8, qm, q9, qf, qj, h1]
structure PenOk (p : Int × (Int × Int)) : Prop where
 f : 0 ≤ p.1 ∧ p.1 < 32
 fo : 0 ≤ p.2.1 ∧ p.2.1 < 17
 ba : 0 ≤ p.2.2 ∧ p.2.2 < 17
theorem acb : PenOk ((0, (0, 0)) : Int × (Int × Int)) := ⟨by simp, by simp, by simp⟩
theorem a9J {p : Int × (Int × Int)} (h : PenOk p) (n : Int) : PenOk (vy n p) := by
 refine ⟨?_, ?_, ?_⟩
 ·show 0 ≤ (if n = 0 then 0 else flF n p.1 5) ∧ (if n = 0 then 0 else flF n p.1 5) < 32
  split
  ·omega
  ·exact abC h.f (by omega)
 ·show 0 ≤ (if n = 0 ∨ n = 39 then 0 else foR n p.2.1 8) ∧ (if n = 0 ∨ n = 39 then 0 else foR n p.2.1 8) < 17
  have := h.fo
  unfold foR
  repeat' split
  all_goals omega
 ·show 0 ≤ (if n = 0 ∨ n = 49 then 0 else baR n p.2.2 8) ∧ (if n = 0 ∨ n = 49 then 0 else baR n p.2.2 8) < 17
  have := h.ba
  unfold baR
  repeat' split
  all_goals omega
theorem amr : flF 0 0 5 = 0 := rfl
def yD (p : Int × (Int × Int)) (l : List Int) : Int × (Int × Int) := l.foldl (fun p n => vy n p) p
theorem uM (p : Int × (Int × Int)) {l : List Int} {i : Nat} {n : Int} (h : l[i]? = some n) : yD p (l.take (i + 1)) = vy n (yD p (l.take i)) := by
 have : l.take (i + 1) = l.take i ++ [n] := by rw [List.take_add_one, h]; rfl
 rw [this]
 unfold yD
 rw [List.foldl_append]
 rfl
theorem Zx {p : Int × (Int × Int)} (h : PenOk p) : ∀ l, PenOk (yD p l)
 | [] => h
 | n :: l => Zx (a9J h n) l
theorem ahT {p : Int × (Int × Int)} (hp : PenOk p) {l : List Int} (hl : l.length ≤ 100000) (hn : ∀ n ∈ l, Zj n) : J0 p l = some (if l.length = 0 then (0, (0, 0)) else yD p l) := by
 unfold J0
 by_cases h0 : l.length = 0
 ·rw [if_pos h0]
  simp (disch := omega) only [q8, qD, qd]
 ·rw [if_neg h0]
  have main : Yb ((l, (0 : Int)), ((p.1, (p.2.1, p.2.2)), ((0 : Int), ((0 : Int), (0 : Int))))) = some (yD p l) := by
   refine zu (step := fun s => zU s.1 s.2.1 s.2.2.1 s.2.2.2.1 s.2.2.2.2) (st := fun i => ((l, ((i : Nat) : Int)), (yD p (l.take i), ((0 : Int), ((0 : Int), (0 : Int)))))) (n := l.length) (fun i hi => ?_) ?_ 0 (by omega)
   ·show zU _ _ _ _ _ = _
    unfold zU
    obtain ⟨n, hx⟩ := qF hi
    have e : ((i : Int) + 1) = ((i + 1 : Nat) : Int) := by omega
    have hnn := hn n (List.mem_of_getElem? hx)
    have hq := Zx hp (l.take i)
    rw [uM p hx]
    generalize yD p (l.take i) = q at *
    obtain ⟨f, fo, ba⟩ := q
    by_cases n0 : n = 0
    ·subst n0
     have h1 := a2g (l := l) (k := (i : Int)) (n := 0) (f := 0) (fo := 0) (ba := 0) 0 0 0 (by omega) (by omega) (by unfold Zj; omega)
     have e4 : vy 0 (f, fo, ba) = (0, 0, 0) := rfl
     have e5 : foR 0 0 8 = 0 := rfl
     have e6 : baR 0 0 8 = 0 := rfl
     rw [amr, e5, e6] at h1
     simp (disch := omega) only [q8, qh, qD, qd, qj, qH, hx, h1, e, e4]
     rfl
    ·have h1 := a2g (l := l) (k := (i : Int)) (n := n) (f := f) (fo := fo) (ba := ba) 0 0 0 hq.f (by omega) hnn
     have e4 : vy n (f, fo, ba) = (flF n f 5, (if n = 39 then 0 else foR n fo 8, if n = 49 then 0 else baR n ba 8)) := by unfold vy; simp [n0]
     simp (disch := omega) only [q8, qh, qw, qd, qf, qj, qH, hx, h1, e, e4]
   ·show zU _ _ _ _ _ = _
    unfold zU
    have e : l.take l.length = l := List.take_length
    simp (disch := omega) only [q8, qh, qm, qd, qf, qH, e]
  simp (disch := omega) only [q8, qw, qf, qj, main]
end Go.Sim
