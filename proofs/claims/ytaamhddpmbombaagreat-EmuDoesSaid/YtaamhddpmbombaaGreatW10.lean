/- Part 10 of the claim EmuDoes: V30, B1, B2, T21, I6, I7, T22, GJ, V31, V32, V33, V34 -/
import Derived.ProofKit
import Derived.OpenShut
import Derived.Carry
import Derived.JoinedOf
import Derived.Scope
import Derived.Test.YtaamhddpmbombaaGreatProg
import Derived.Test.YtaamhddpmbombaaGreatW9
import Derived.Test.YtaamhddpmbombaaGreatW3
import Derived.Test.YtaamhddpmbombaaGreatW8
import Derived.Test.YtaamhddpmbombaaGreatW6
set_option linter.unusedSimpArgs false
set_option linter.unusedVariables false
set_option linter.defProp false
noncomputable section
set_option maxRecDepth 100000
set_option maxHeartbeats 4000000
namespace Go.Sim
def JO (n : Int) : Int := if n = 22 then 3 else if n = 1 then 1 else if n = 2 then 2 else if n = 24 ∨ n = 4 then 4 else if n = 25 ∨ n = 5 then 8 else if n = 27 ∨ n = 7 then 16 else 0
theorem ajj (n : Int) : J9 n = some (JO n) := by
 unfold J9 JO
 by_cases h1 : n = 22
 ·simp (disch := omega) only [q8, qD, qw, qd, qf, qj, h1]
  rfl
 ·by_cases h2 : n = 1
  ·simp (disch := omega) only [q8, qD, qw, qd, qf, qj, h2]
   rfl
  ·by_cases h3 : n = 2
   ·simp (disch := omega) only [q8, qD, qw, qd, qf, qj, h3]
    rfl
   ·by_cases h4 : n = 24
    ·simp (disch := omega) only [q8, qD, qw, qd, qf, qj, h4]
     rfl
    ·by_cases h5 : n = 4
     ·simp (disch := omega) only [q8, qD, qw, qd, qf, qj, h5]
      rfl
     ·by_cases h6 : n = 25
      ·simp (disch := omega) only [q8, qD, qw, qd, qf, qj, h6]
       rfl
      ·by_cases h7 : n = 5
       ·simp (disch := omega) only [q8, qD, qw, qd, qf, qj, h7]
        rfl
       ·by_cases h8 : n = 27
        ·simp (disch := omega) only [q8, qD, qw, qd, qf, qj, h8]
         rfl
        ·by_cases h9 : n = 7
         ·simp (disch := omega) only [q8, qD, qw, qd, qf, qj, h9]
          rfl
         ·simp (disch := omega) only [q8, qw, qf, qj]
          rw [if_neg h1, if_neg h2, if_neg h3, if_neg (by omega), if_neg (by omega), if_neg (by omega)]
theorem ahH : ∀ f : Fin 32, (∀ n ∈ [1, 2, 4, 5, 7], bits .or .u8 (bits .andNot .u8 (f.val : Int) (JO n)) (JO n) = flF n (f.val : Int) 5) ∧ (∀ n ∈ [22, 24, 25, 27], bits .andNot .u8 (f.val : Int) (JO n) = flF n (f.val : Int) 5) := by decide +kernel
theorem ajx {n f : Int} (h : JO n = 0) : flF n f 5 = f := by
 have hn : ∀ i, i < 5 → n ≠ onI i ∧ n ≠ ack i := by
  unfold JO at h
  intro i hi
  rcases i with _ | _ | _ | _ | _ | i
  ·exact ⟨fun q => by rw [q] at h; revert h; decide, fun q => by rw [q] at h; revert h; decide⟩
  ·exact ⟨fun q => by rw [q] at h; revert h; decide, fun q => by rw [q] at h; revert h; decide⟩
  ·exact ⟨fun q => by rw [q] at h; revert h; decide, fun q => by rw [q] at h; revert h; decide⟩
  ·exact ⟨fun q => by rw [q] at h; revert h; decide, fun q => by rw [q] at h; revert h; decide⟩
  ·exact ⟨fun q => by rw [q] at h; revert h; decide, fun q => by rw [q] at h; revert h; decide⟩
  ·omega
 have hr : ∀ g i, i < 5 → Zh n g i = g := by
  intro g i hi
  obtain ⟨h1, h2⟩ := hn i hi
  unfold Zh
  rw [if_neg (fun q => h2 q.1), if_neg (fun q => h1 q.1)]
 simp only [q8, flF]
 rw [hr _ 4 (by omega), hr _ 3 (by omega), hr _ 2 (by omega), hr _ 1 (by omega), hr _ 0 (by omega)]
theorem ahl {n c : Int} (hn : Zj n) (hc : 0 ≤ c ∧ c ≤ 1000) : -9223372036854775808 + c ≤ n ∧ IntKind.i64.wrap (n - c) = n - c ∨ n < -9223372036854775808 + c ∧ IntKind.i64.wrap (n - c) = n - c + 18446744073709551616 := by
 unfold Zj at hn
 by_cases h : -9223372036854775808 ≤ n - c
 ·exact .inl ⟨by omega, q9 h (by omega)⟩
 ·refine .inr ⟨by omega, ?_⟩
  have e : (n - c + 18446744073709551616) % 2 ^ IntKind.i64.bits = (n - c) % 2 ^ IntKind.i64.bits := by
   show (n - c + 18446744073709551616) % (18446744073709551616 : Int) = (n - c) % (18446744073709551616 : Int)
   omega
  have : IntKind.i64.wrap (n - c) = IntKind.i64.wrap (n - c + 18446744073709551616) := by
   simp only [q8, IntKind.wrap, e]
  rw [this, q9 (by omega) (by omega)]
theorem acK {p : Int × (Int × Int)} (hp : PenOk p) {n : Int} (hn : Zj n) : KY p n = some (vy n p) := by
 obtain ⟨f, fo, ba⟩ := p
 have hf := hp.f
 simp only at hf
 have hnn := hn
 unfold Zj at hnn
 unfold KY
 by_cases n0 : n = 0
 ·subst n0
  simp (disch := omega) only [q8, qh, qm, qD, qw, q9, qd, qf]
  rfl
 ·have e4 : vy n (f, fo, ba) = (flF n f 5, (if n = 39 then 0 else foR n fo 8, if n = 49 then 0 else baR n ba 8)) := by unfold vy; simp [n0]
  rw [e4, ajj]
  by_cases hz : JO n = 0
  ·rw [ajx hz, hz]
   have a3 := ahl hn (c := 30) (by omega)
   have a4 := ahl hn (c := 40) (by omega)
   have hb : (0 : Int) ≠ 0 → False := fun q => q rfl
   by_cases c1 : 90 ≤ n ∧ n < 98
   ·have e3 : foR n fo 8 = n - 81 := by unfold foR; rw [if_neg (by omega), if_pos (by omega)]
    have e5 : baR n ba 8 = ba := by unfold baR; rw [if_neg (by omega), if_neg (by omega)]
    simp (disch := omega) only [q8, qh, qm, qw, q9, z9, qd, qf, qj, bne_self_eq_false, e3, e5, if_neg (show ¬ n = 39 by omega), if_neg (show ¬ n = 49 by omega)]
    congr 3; omega
   ·by_cases c2 : 30 ≤ n ∧ n < 38
    ·have e3 : foR n fo 8 = n - 29 := by unfold foR; rw [if_pos (by omega)]
     have e5 : baR n ba 8 = ba := by unfold baR; rw [if_neg (by omega), if_neg (by omega)]
     simp (disch := omega) only [q8, qh, qm, qw, q9, z9, qd, qf, qj, bne_self_eq_false, e3, e5, if_neg (show ¬ n = 39 by omega), if_neg (show ¬ n = 49 by omega)]
     congr 3; omega
    ·have e3 : foR n fo 8 = fo := by unfold foR; rw [if_neg (by omega), if_neg (by omega)]
     by_cases c3 : n = 39
     ·have e5 : baR n ba 8 = ba := by unfold baR; rw [if_neg (by omega), if_neg (by omega)]
      simp (disch := omega) only [q8, qh, qm, qD, qw, q9, z9, qd, qf, qj, bne_self_eq_false, e3, e5, if_pos c3, if_neg (show ¬ n = 49 by omega)]
     ·by_cases c4 : 100 ≤ n ∧ n < 108
      ·have e5 : baR n ba 8 = n - 91 := by unfold baR; rw [if_neg (by omega), if_pos (by omega)]
       simp (disch := omega) only [q8, qh, qm, qw, q9, z9, qd, qf, qj, bne_self_eq_false, e3, e5, if_neg c3, if_neg (show ¬ n = 49 by omega)]
       congr 3; omega
      ·by_cases c5 : 40 ≤ n ∧ n < 48
       ·have e5 : baR n ba 8 = n - 39 := by unfold baR; rw [if_pos (by omega)]
        simp (disch := omega) only [q8, qh, qm, qw, q9, z9, qd, qf, qj, bne_self_eq_false, e3, e5, if_neg c3, if_neg (show ¬ n = 49 by omega)]
        congr 3; omega
       ·have e5 : baR n ba 8 = ba := by unfold baR; rw [if_neg (by omega), if_neg (by omega)]
        by_cases c6 : n = 49
        ·simp (disch := omega) only [q8, qh, qm, qD, qw, q9, z9, qd, qf, qj, bne_self_eq_false, e3, e5, if_neg c3, if_pos c6]
        ·rcases a3 with ⟨a30, a3⟩ | ⟨a3, a3'⟩
         ·rcases a4 with ⟨a40, a4⟩ | ⟨a4, a4'⟩
          ·rw [a3, a4]
           by_cases d1 : 60 ≤ n - 30 <;> by_cases d2 : 60 ≤ n - 40 <;> by_cases d3 : 0 ≤ n - 30 <;> by_cases d4 : 0 ≤ n - 40 <;> first | (exfalso; omega) | simp (disch := omega) only [q8, qh, qm, qw, q9, z9, qd, qf, qj, bne_self_eq_false, e3, e5, if_neg c3, if_neg c6]
          ·rw [a3, a4']
           simp (disch := omega) only [q8, qh, qm, qw, q9, qd, qf, qj, bne_self_eq_false, e3, e5, if_neg c3, if_neg c6]
         ·rcases a4 with ⟨a40, a4⟩ | ⟨a4, a4'⟩
          ·omega
          ·rw [a3', a4']
           simp (disch := omega) only [q8, qh, qm, qw, q9, qd, qf, qj, bne_self_eq_false, e3, e5, if_neg c3, if_neg c6]
  ·have hs : n < 30 := by
    refine Decidable.byContradiction fun q => hz ?_
    unfold JO
    rw [if_neg (by omega), if_neg (by omega), if_neg (by omega), if_neg (by omega), if_neg (by omega), if_neg (by omega)]
   have e3 : foR n fo 8 = fo := by unfold foR; rw [if_neg (by omega), if_neg (by omega)]
   have e5 : baR n ba 8 = ba := by unfold baR; rw [if_neg (by omega), if_neg (by omega)]
   obtain ⟨t1, t2⟩ := ahH ⟨f.toNat, by omega⟩
   have ef : ((⟨f.toNat, by omega⟩ : Fin 32).val : Int) = f := by show ((f.toNat : Nat) : Int) = f; omega
   rw [ef] at t1 t2
   have hne : (JO n != 0) = true := by simpa using hz
   have hcase : n ∈ [1, 2, 4, 5, 7] ∨ n ∈ [22, 24, 25, 27] := by
    unfold JO at hz
    simp only [q8, List.mem_cons, List.not_mem_nil, or_false]
    refine Decidable.byContradiction fun q => hz ?_
    rw [if_neg (by omega), if_neg (by omega), if_neg (by omega), if_neg (by omega), if_neg (by omega), if_neg (by omega)]
   rcases hcase with hm | hm
   ·have hlt : n < 20 := by
     simp only [q8, List.mem_cons, List.not_mem_nil, or_false] at hm
     omega
    have hw := t1 n hm
    unfold Jd
    simp (disch := omega) only [q8, qh, qw, qd, qf, qj, hne, hw, e3, e5, if_neg (show ¬ n = 39 by omega), if_neg (show ¬ n = 49 by omega)]
   ·have hlt : 20 ≤ n := by
     simp only [q8, List.mem_cons, List.not_mem_nil, or_false] at hm
     omega
    have hw := t2 n hm
    unfold Jd
    simp (disch := omega) only [q8, qh, qm, qw, q9, qd, qf, qj, hne, hw, e3, e5, if_neg (show ¬ n = 39 by omega), if_neg (show ¬ n = 49 by omega)]
theorem a9d {p : Int × (Int × Int)} (hp : PenOk p) {l : List Int} (hl : l.length ≤ 100000) (hn : ∀ n ∈ l, Zj n) : KO p l = some (if l.length = 0 then (0, (0, 0)) else yD p l) := by
 unfold KO
 by_cases h0 : l.length = 0
 ·rw [if_pos h0]
  simp (disch := omega) only [q8, qD, qd]
 ·rw [if_neg h0]
  have main : Y6 ((l, ((l.length : Int), (0 : Int))), ((p.1, (p.2.1, p.2.2)), ((0 : Int), ((0 : Int), (0 : Int))))) = some (yD p l) := by
   refine zu (step := fun s => k8 s.1 s.2.1 s.2.2.1 s.2.2.2.1 s.2.2.2.2) (st := fun i => ((l, ((l.length : Int), ((i : Nat) : Int))), (yD p (l.take i), ((0 : Int), ((0 : Int), (0 : Int)))))) (n := l.length) (fun i hi => ?_) ?_ 0 (by omega)
   ·show k8 _ _ _ _ _ = _
    unfold k8
    obtain ⟨n, hx⟩ := qF hi
    have e : ((i : Int) + 1) = ((i + 1 : Nat) : Int) := by omega
    have h1 := acK (Zx hp (l.take i)) (hn n (List.mem_of_getElem? hx))
    rw [uM p hx]
    generalize yD p (l.take i) = q at *
    simp (disch := omega) only [q8, qh, q9, qd, qj, qH, hx, h1, e]
   ·show k8 _ _ _ _ _ = _
    unfold k8
    have e : l.take l.length = l := List.take_length
    simp (disch := omega) only [q8, qh, qm, q9, qd, qf, qH, e]
  simp (disch := omega) only [q8, qw, qf, qj, main]
open Go.RowKit
def Jm (P : Program) (pt : TypeId → Bool) : List Field → Nat → Nat → Bool
 | [], off, n => decide (off = n)
 | f :: fs, off, n => decide (f.offset = off) && pt f.type && Jm P pt fs (off + P.cellsOf f.type) n
def wC (P : Program) : Nat → TypeId → Bool
 | 0, _ => false
 | d + 1, t => match P.underlying t with
  | some .bool => true
  | some (.int _) => true
  | some .string => true
  | some (.slice e) => wC P d e && decide (0 < P.cellsOf e)
  | some (.struct fs) => Jm P (wC P d) fs.toList 0 (P.cellsOf t)
  | some (.array n e) => wC P d e && decide (n * P.cellsOf e = P.cellsOf t)
  | _ => false
def RV (P : Program) (h : Heap) : Nat → TypeId → List Value → Prop
 | 0, _, _ => False
 | d + 1, t, cs => match P.underlying t with
  | some .bool => ∃ b, cs = [.bool b]
  | some (.int k) => ∃ x, cs = [.int k x] ∧ (Lit.int k x).wf = true
  | some .string => ∃ s : ByteArray, cs = [.string s] ∧ s.size ≤ maxLen
  | some (.slice e) => cs = [.slice none 0 0] ∨ cs = [.slice (some ⟨0, 0, none⟩) 0 dud] ∨ ∃ (b : Nat) (rows : List (List Value)), cs = [.slice (some ⟨b, 0, none⟩) rows.length qN] ∧ rows ≠ [] ∧ rows.length ≤ maxLen ∧
    h.get b = some (.cells rows.flatten e false) ∧ ∀ r ∈ rows, r.length = P.cellsOf e ∧ RV P h d e r
  | some (.struct fs) => cs.length = P.cellsOf t ∧ ∀ f ∈ fs.toList, RV P h d f.type ((cs.drop f.offset).take (P.cellsOf f.type))
  | some (.array n e) => cs.length = P.cellsOf t ∧ ∀ i, i < n → RV P h d e ((cs.drop (i * P.cellsOf e)).take (P.cellsOf e))
  | _ => False
theorem RV.ext {P : Program} {h h' : Heap} (hx : Ext h h') : ∀ {d : Nat} {t : TypeId} {cs : List Value}, RV P h d t cs → RV P h' d t cs
 | 0, _, _, q => q
 | d + 1, t, cs, q => by
  unfold RV at q ⊢
  split at q
  ·exact q
  ·exact q
  ·exact q
  ·rcases q with q | q | ⟨b, rows, h1, h0, h2, h3, h4⟩
   ·exact .inl q
   ·exact .inr (.inl q)
   ·exact .inr (.inr ⟨b, rows, h1, h0, h2, (hx.get b (h.wf _ _ h3)).trans h3, fun r hr => ⟨(h4 r hr).1, (h4 r hr).2.ext hx⟩⟩)
  ·exact ⟨q.1, fun f hf => (q.2 f hf).ext hx⟩
  ·exact ⟨q.1, fun i hi => (q.2 i hi).ext hx⟩
  ·exact q
def RO (h : Heap) : Prop := ∀ b o, h.get b = some o → o.rw = false
structure Lift (P : Program) (w : World) (β : Place) (h : Heap) (β' : Place) (h' : Heap) : Prop where
 rel : Rel P β' h' w
 ro : RO h'
 place : ∀ b x, β b = some x → β' b = some x
 ext : Ext h h'
theorem Lift.refl {P : Program} {w : World} {β : Place} {h : Heap} (hr : Rel P β h w) (ho : RO h) : Lift P w β h β h := ⟨hr, ho, fun _ _ e => e, Ext.refl h⟩
theorem Lift.trans {P : Program} {w : World} {β β1 β2 : Place} {h h1 h2 : Heap} (x : Lift P w β h β1 h1) (y : Lift P w β1 h1 β2 h2) : Lift P w β h β2 h2 :=
 ⟨y.rel, y.ro, fun b q e => y.place _ _ (x.place _ _ e), x.ext.trans y.ext⟩
theorem Lift.push {P : Program} {w : World} {β : Place} {h : Heap} (hr : Rel P β h w) (ho : RO h) {m off : Nat} {mc : Array Value} {te e : TypeId} {fr : Nat × Nat} {cs : List Value}
  (hm : w.heap[m]? = some (.cells mc te fr)) (hle : off + cs.length ≤ mc.size) (hv : VRels β cs ((mc.toList.drop off).take cs.length)) :
  Lift P w β h (β.add h.next m ⟨off, 0, 0⟩) (h.push (.cells cs e false)) := by
 have hn := hr.noNext
 have hmono := Place.add_mono m ⟨off, 0, 0⟩ hn
 have hmw : m < w.heap.size := (Array.getElem?_eq_some_iff.1 hm).1
 have old : ∀ b, b ≠ h.next → (h.push (.cells cs e false)).get b = h.get b := fun b hb => Heap.get_push_ne _ _ hb
 refine ⟨⟨fun b m1 s1 q => ?_, fun b m1 s1 o q g => ?_, fun b b' m1 s1 s2 o o' q q' g g' hrw => ?_⟩, fun b o g => ?_, hmono, (Ext.refl h).push _⟩
 ·by_cases hb : b = h.next
  ·subst hb; rw [Place.add_same] at q; cases q; exact ⟨by simp, hmw⟩
  ·rw [Place.add_ne _ _ _ hb] at q
   obtain ⟨h1, h2⟩ := hr.dom b m1 s1 q
   exact ⟨by simp; omega, h2⟩
 ·by_cases hb : b = h.next
  ·subst hb
   rw [Place.add_same] at q
   cases q
   rw [Heap.get_push_self] at g
   cases g
   exact ⟨mc, fr, te, hm, hle, hv.mono hmono, fun e => by cases e⟩
  ·rw [Place.add_ne _ _ _ hb] at q
   rw [old b hb] at g
   exact (hr.obj b m1 s1 o q g).mono hmono rfl
 ·exfalso
  by_cases hb : b = h.next
  ·subst hb; rw [Heap.get_push_self] at g; cases g; cases hrw
  ·rw [old b hb] at g; rw [ho b o g] at hrw; cases hrw
 ·by_cases hb : b = h.next
  ·subst hb; rw [Heap.get_push_self] at g; cases g; rfl
  ·rw [old b hb] at g; exact ho b o g
section
variable {H : Type} {enc : TypeId × Value → H} {P : Program} {w : World}
theorem Vv (d : Nat) (t : TypeId) (step : ∀ (n : Nat) (cs : List Value) (x : DataW H × List MemPlace), DataW.trod enc P w 0 (fun _ => true) true n t cs = some x → ∀ β h, Rel P β h w → RO h →
   ∃ β' h' acs, Lift P w β h β' h' ∧ VRels β' acs cs ∧ RV P h' d t acs) :
  ∀ (ls : List (List Value)), (∀ l ∈ ls, ∃ n x, DataW.trod enc P w 0 (fun _ => true) true n t l = some x) → ∀ β h, Rel P β h w → RO h →
   ∃ (β' : Place) (h' : Heap) (als : List (List Value)), Lift P w β h β' h' ∧ VRels β' als.flatten ls.flatten ∧ als.length = ls.length ∧ (∀ (i : Nat) (a : List Value), als[i]? = some a → ∃ l : List Value, ls[i]? = some l ∧ a.length = l.length ∧ RV P h' d t a)
 | [], _, β, h, hr, ho => ⟨β, h, [], Lift.refl hr ho, .nil, rfl, fun i a e => by simp at e⟩
 | l :: ls, hl, β, h, hr, ho => by
  obtain ⟨n, x, e⟩ := hl l (by simp)
  obtain ⟨β1, h1, acs, L1, v1, r1⟩ := step n l x e β h hr ho
  obtain ⟨β2, h2, als, L2, v2, hlen, r2⟩ := Vv d t step ls (fun l' h' => hl l' (by simp [h'])) β1 h1 L1.rel L1.ro
  refine ⟨β2, h2, acs :: als, L1.trans L2, ?_, by simp [hlen], fun i a e => ?_⟩
  ·simp only [List.flatten_cons]
   exact (v1.mono L2.place).append v2
  ·cases i with
   | zero => simp at e; subst e; exact ⟨l, rfl, v1.length, r1.ext L2.ext⟩
   | succ i => simpa using r2 i a (by simpa using e)
theorem ve : ∀ (ls : List (List Value)) (z : Nat), (∀ l ∈ ls, l.length = z) → ls.flatten.length = ls.length * z
 | [], z, _ => by simp
 | a :: ls, z, hz => by
  rw [List.flatten_cons, List.length_append, ve ls z (fun l h => hz l (by simp [h])), hz a (by simp), List.length_cons, Nat.add_mul]
  omega
theorem a4y : ∀ (ls : List (List Value)) (z i : Nat) (l : List Value), (∀ l ∈ ls, l.length = z) → ls[i]? = some l → (ls.flatten.drop (i * z)).take z = l
 | [], z, i, l, _, e => by simp at e
 | a :: ls, z, 0, l, hz, e => by
  simp at e; subst e
  have := hz a (by simp)
  simp [← this]
 | a :: ls, z, i + 1, l, hz, e => by
  have ha := hz a (by simp)
  have := a4y ls z i l (fun l h => hz l (by simp [h])) (by simpa using e)
  rw [List.flatten_cons, List.drop_append, show (i + 1) * z = a.length + i * z by rw [ha, Nat.add_mul]; omega]
  rw [List.drop_eq_nil_of_le (by omega)]
  simpa using this
theorem abH (xs : List Value) (z : Nat) : ∀ (n : Nat), xs.length = n * z → ((List.range n).map fun i => (xs.drop (i * z)).take z).flatten = xs
 | 0, h => by
  have : xs.length = 0 := by simpa using h
  simp [List.length_eq_zero_iff.1 this]
 | n + 1, h => by
  have hn : (n + 1) * z = n * z + z := by rw [Nat.add_mul]; omega
  have ih := abH (xs.take (n * z)) z n (by simp; omega)
  rw [List.range_succ, List.map_append, List.flatten_append]
  have e : (List.range n).map (fun i => (xs.drop (i * z)).take z) = (List.range n).map (fun i => ((xs.take (n * z)).drop (i * z)).take z) := by
   apply List.map_congr_left
   intro i hi
   have hi' : i < n := by simpa using hi
   have : (i + 1) * z ≤ n * z := Nat.mul_le_mul_right _ hi'
   rw [List.drop_take, List.take_take, Nat.min_eq_left (by rw [Nat.add_mul] at this; omega)]
  rw [e, ih]
  simp only [List.map_cons, List.map_nil, List.flatten_cons, List.flatten_nil, List.append_nil]
  rw [List.take_of_length_le (l := xs.drop (n * z)) (by simp; omega)]
  exact List.take_append_drop _ _
theorem a8M {a : Addr} {z n : Nat} {ls : List (List Value)} (hz : 0 < z) (hn : 0 < n) (hl : ls.length = n) (h : ∀ i, i < n → w.cells? 0 (a.add (i * z)) z = ls[i]?) :
  ∃ mc te fr, w.heap[a.block]? = some (.cells mc te fr) ∧ a.spot = none ∧ a.off + n * z ≤ mc.size ∧ ls.flatten = (mc.toList.drop a.off).take (n * z) ∧ ∀ l ∈ ls, l.length = z := by
 have each : ∀ i, i < n → ∃ l, ls[i]? = some l ∧ l.length = z ∧ ∀ j, j < z → w.cell? ((a.add (i * z)).add j) = l[j]? := by
  intro i hi
  have hs : ∃ l, ls[i]? = some l := ⟨_, List.getElem?_eq_getElem (by omega)⟩
  obtain ⟨l, e⟩ := hs
  have hc := h i hi
  rw [e] at hc
  unfold World.cells? at hc
  rw [if_pos (Nat.zero_le _)] at hc
  have h1 := mapM_some_length hc
  refine ⟨l, e, by simpa using h1, fun j hj => mapM_some_get hc j j (by simp [hj])⟩
 have addadd : ∀ i j, (a.add i).add j = a.add (i + j) := by
  intro i j
  unfold Addr.add
  by_cases h1 : i = 0
  ·subst h1; simp
  ·by_cases h2 : j = 0
   ·subst h2; simp
   ·simp [h1, h2]; omega
 obtain ⟨l0, e0, hl0, c0⟩ := each 0 hn
 have c00 := c0 0 hz
 rw [Nat.zero_mul, addadd] at c00
 simp only [Nat.add_zero, Addr.add, if_true] at c00
 have hv0 : ∃ v, w.cell? a = some v := ⟨l0[0]'(by omega), by rw [c00]; exact List.getElem?_eq_getElem _⟩
 obtain ⟨v0, hv0⟩ := hv0
 unfold World.cell? at hv0
 split at hv0
 ·rename_i mc te fr hm
  by_cases hsp : a.spot.isSome = true
  ·rw [if_pos hsp] at hv0; cases hv0
  ·have hspn : a.spot = none := by cases hq : a.spot with
    | none => rfl
    | some _ => rw [hq] at hsp; simp at hsp
   have cell : ∀ k, w.cell? (a.add k) = mc[a.off + k]? := by
    intro k
    unfold World.cell? Addr.add
    by_cases hk : k = 0
    ·subst hk; simp [hm, hspn]
    ·simp [hk, hm]
   have all : ∀ i, i < n → ∀ j, j < z → mc[a.off + (i * z + j)]? = (ls.flatten)[i * z + j]? := by
    intro i hi j hj
    obtain ⟨l, e, hl1, c1⟩ := each i hi
    have hlen : ∀ l ∈ ls, l.length = z := by
     intro l hm2
     obtain ⟨k, hk⟩ := List.getElem?_of_mem hm2
     have hkl : k < ls.length := (List.getElem?_eq_some_iff.1 hk).1
     obtain ⟨l2, e2, hl2, _⟩ := each k (by omega)
     rw [hk] at e2; cases e2; exact hl2
    have := a4y ls z i l hlen e
    have h2 : l[j]? = ls.flatten[i * z + j]? := by
     rw [← this, List.getElem?_take, if_pos hj, List.getElem?_drop]
    rw [← h2, ← c1 j hj, addadd, cell]
   have hlen : ∀ l ∈ ls, l.length = z := by
    intro l hm2
    obtain ⟨k, hk⟩ := List.getElem?_of_mem hm2
    have hkl : k < ls.length := (List.getElem?_eq_some_iff.1 hk).1
    obtain ⟨l2, e2, hl2, _⟩ := each k (by omega)
    rw [hk] at e2; cases e2; exact hl2
   have hfl := ve ls z hlen
   rw [hl] at hfl
   have pos : ∀ q, q < n * z → mc[a.off + q]? = ls.flatten[q]? := by
    intro q hq
    have h1 := all (q / z) ((Nat.div_lt_iff_lt_mul hz).2 hq) (q % z) (Nat.mod_lt _ hz)
    rw [Nat.mul_comm, Nat.div_add_mod] at h1
    exact h1
   have hsz : a.off + n * z ≤ mc.size := by
    have hq : n * z - 1 < n * z := by have := Nat.mul_le_mul_right z hn; omega
    have h1 := pos (n * z - 1) hq
    rw [List.getElem?_eq_getElem (by omega)] at h1
    have := (Array.getElem?_eq_some_iff.1 h1).1
    omega
   refine ⟨mc, te, fr, hm, hspn, hsz, ?_, hlen⟩
   apply List.ext_getElem?
   intro q
   by_cases hq : q < n * z
   ·rw [← pos q hq, List.getElem?_take, if_pos hq, List.getElem?_drop]
    simp
   ·rw [List.getElem?_eq_none (by omega), List.getElem?_eq_none (by simp; omega)]
 ·cases hv0
theorem xZ (d : Nat) (ih : ∀ t, wC P d t = true → ∀ (n : Nat) (cs : List Value) (x : DataW H × List MemPlace), DataW.trod enc P w 0 (fun _ => true) true n t cs = some x → ∀ β h, Rel P β h w → RO h →
   ∃ (β' : Place) (h' : Heap) (acs : List Value), Lift P w β h β' h' ∧ VRels β' acs cs ∧ RV P h' d t acs) :
  ∀ (fs : List Field) (off N : Nat) (cs : List Value), Jm P (wC P d) fs off N = true → off + cs.length = N →
   (∀ f ∈ fs, off ≤ f.offset → ∃ n x, DataW.trod enc P w 0 (fun _ => true) true n f.type ((cs.drop (f.offset - off)).take (P.cellsOf f.type)) = some x) → ∀ β h, Rel P β h w → RO h →
   ∃ (β' : Place) (h' : Heap) (acs : List Value), Lift P w β h β' h' ∧ VRels β' acs cs ∧ ∀ f ∈ fs, off ≤ f.offset ∧ RV P h' d f.type ((acs.drop (f.offset - off)).take (P.cellsOf f.type))
 | [], off, N, cs, hp, hl, _, β, h, hr, ho => by
  simp only [Jm, decide_eq_true_eq] at hp
  have : cs.length = 0 := by omega
  have : cs = [] := List.length_eq_zero_iff.1 this
  subst this
  exact ⟨β, h, [], Lift.refl hr ho, .nil, by simp⟩
 | f :: fs, off, N, cs, hp, hl, ht, β, h, hr, ho => by
  simp only [Jm, Bool.and_eq_true, decide_eq_true_eq] at hp
  obtain ⟨⟨hoff, hpt⟩, hrest⟩ := hp
  have hle : ∀ (fs : List Field) (off N : Nat), Jm P (wC P d) fs off N = true → off ≤ N ∧ ∀ f ∈ fs, off ≤ f.offset := by
   intro fs
   induction fs with
   | nil => intro off N hp; simp [Jm] at hp; exact ⟨by omega, by simp⟩
   | cons g gs ihg =>
    intro off N hp
    simp only [Jm, Bool.and_eq_true, decide_eq_true_eq] at hp
    obtain ⟨h1, h2⟩ := ihg _ _ hp.2
    refine ⟨by omega, fun f hf => ?_⟩
    rcases List.mem_cons.1 hf with rfl | hf
    ·omega
    ·have := h2 f hf; omega
  obtain ⟨hN, hge⟩ := hle _ _ _ hrest
  obtain ⟨n, x, e⟩ := ht f (by simp) (by omega)
  rw [hoff, Nat.sub_self, List.drop_zero] at e
  obtain ⟨β1, h1, a1, L1, v1, r1⟩ := ih f.type hpt n _ x e β h hr ho
  obtain ⟨β2, h2, a2, L2, v2, r2⟩ := xZ d ih fs (off + P.cellsOf f.type) N (cs.drop (P.cellsOf f.type)) hrest (by simp; omega) (fun g hg hgo => by
   obtain ⟨n, x, e⟩ := ht g (by simp [hg]) (by omega)
   refine ⟨n, x, ?_⟩
   rw [List.drop_drop]
   rw [← e]
   congr 3
   omega) β1 h1 L1.rel L1.ro
  have hlen1 : a1.length = P.cellsOf f.type := by rw [v1.length]; simp; omega
  refine ⟨β2, h2, a1 ++ a2, L1.trans L2, ?_, fun g hg => ?_⟩
  ·have := (v1.mono L2.place).append v2
   rwa [List.take_append_drop] at this
  ·rcases List.mem_cons.1 hg with rfl | hg
   ·refine ⟨by omega, ?_⟩
    rw [hoff, Nat.sub_self, List.drop_zero, List.take_left' hlen1]
    exact r1.ext L2.ext
   ·obtain ⟨q1, q2⟩ := r2 g hg
    refine ⟨by omega, ?_⟩
    rw [List.drop_append, List.drop_eq_nil_of_le (by omega), List.nil_append, hlen1]
    rwa [show g.offset - off - P.cellsOf f.type = g.offset - (off + P.cellsOf f.type) by omega]
theorem amx (d : Nat) : ∀ t, wC P d t = true → ∀ (n : Nat) (cs : List Value) (x : DataW H × List MemPlace), DataW.trod enc P w 0 (fun _ => true) true n t cs = some x → ∀ β h, Rel P β h w → RO h →
  ∃ (β' : Place) (h' : Heap) (acs : List Value), Lift P w β h β' h' ∧ VRels β' acs cs ∧ RV P h' d t acs := by
 induction d with
 | zero => intro t h; simp [wC] at h
 | succ d ih =>
  intro t hp n cs x ht β h hr ho
  unfold wC at hp
  cases hu : P.underlying t with
  | none => simp [hu] at hp
  | some D =>
   rw [hu] at hp
   cases D <;> simp only [Bool.false_eq_true] at hp
   case bool =>
    obtain ⟨b, rfl, _⟩ := DataW.trod_bool hu ht
    exact ⟨β, h, [.bool b], Lift.refl hr ho, .cons (.bool b) .nil, by unfold RV; rw [hu]; exact ⟨b, rfl⟩⟩
   case int k =>
    obtain ⟨m, rfl, _, hw⟩ := DataW.trod_int hu ht
    exact ⟨β, h, [.int k m], Lift.refl hr ho, .cons (.int k m) .nil, by unfold RV; rw [hu]; exact ⟨m, rfl, hw⟩⟩
   case string =>
    obtain ⟨s, rfl, _, hs⟩ := DataW.trod_string hu ht
    exact ⟨β, h, [.string s], Lift.refl hr ho, .cons (.string s) .nil, by unfold RV; rw [hu]; exact ⟨s, rfl, hs⟩⟩
   case struct fs =>
    obtain ⟨xs, m, rfl, _, hl, hxl, hx⟩ := DataW.trod_struct hu ht
    have hp' : Jm P (wC P d) fs.toList 0 (P.cellsOf t) = true := hp
    obtain ⟨β', h', acs, L, v, r⟩ := xZ d ih fs.toList 0 (P.cellsOf t) cs hp' (by omega) (fun f hf _ => by
     obtain ⟨i, hi⟩ := List.getElem?_of_mem hf
     have hi' : fs[i]? = some f := by simpa using hi
     have := hx i f hi'
     have hlt : i < xs.length := by rw [hxl]; exact (Array.getElem?_eq_some_iff.1 hi').1
     rw [List.getElem?_eq_getElem hlt] at this
     exact ⟨m, _, by simpa using this⟩) β h hr ho
    refine ⟨β', h', acs, L, v, ?_⟩
    unfold RV
    rw [hu]
    refine ⟨by rw [v.length]; exact hl, fun f hf => ?_⟩
    have := (r f hf).2
    simpa using this
   case array n2 e =>
    simp only [Bool.and_eq_true, decide_eq_true_eq] at hp
    obtain ⟨hpe, hsz⟩ := hp
    obtain ⟨xs, m, rfl, _, hl, hxl, hx⟩ := DataW.trod_array hu ht
    have hflat := abH cs (P.cellsOf e) n2 (by rw [hl, hsz])
    obtain ⟨β', h', als, L, v, hlen, r⟩ := Vv d e (fun n cs x ht β h hr ho => ih e hpe n cs x ht β h hr ho) ((List.range n2).map fun i => (cs.drop (i * P.cellsOf e)).take (P.cellsOf e)) (fun l hl2 => by
     obtain ⟨i, hi, rfl⟩ := List.mem_map.1 hl2
     have hi' : i < n2 := by simpa using hi
     have := hx i hi'
     rw [List.getElem?_eq_getElem (by omega)] at this
     exact ⟨m, _, this⟩) β h hr ho
    rw [hflat] at v
    refine ⟨β', h', als.flatten, L, v, ?_⟩
    have hz : ∀ a ∈ als, a.length = P.cellsOf e ∧ RV P h' d e a := by
     intro a ha
     obtain ⟨i, hi⟩ := List.getElem?_of_mem ha
     obtain ⟨l, h1, h2, h3⟩ := r i a hi
     refine ⟨?_, h3⟩
     rw [h2]
     have hm := List.mem_of_getElem? h1
     obtain ⟨k, hk, rfl⟩ := List.mem_map.1 hm
     have hk' : k < n2 := by simpa using hk
     have : (k + 1) * P.cellsOf e ≤ n2 * P.cellsOf e := Nat.mul_le_mul_right _ hk'
     rw [Nat.add_mul] at this
     simp
     omega
    unfold RV
    rw [hu]
    refine ⟨by rw [v.length]; exact hl, fun i hi => ?_⟩
    have hal : i < als.length := by rw [hlen]; simpa using hi
    rw [a4y als (P.cellsOf e) i als[i] (fun a ha => (hz a ha).1) (List.getElem?_eq_getElem hal)]
    exact (hz _ (List.getElem_mem hal)).2
   case slice e =>
    simp only [Bool.and_eq_true, decide_eq_true_eq] at hp
    obtain ⟨hpe, hpos⟩ := hp
    rcases DataW.trod_slice hu ht with ⟨rfl, _⟩ | ⟨a, len, cap, elems, rest, m, rfl, rfl, _, _, hlc, hcm, hel, hx, _, _⟩
    ·exact ⟨β, h, [.slice none 0 0], Lift.refl hr ho, .cons .nilslice .nil, by unfold RV; rw [hu]; exact .inl rfl⟩
    ·by_cases h0 : len = 0
     ·subst h0
      exact ⟨β, h, [.slice (some ⟨0, 0, none⟩) 0 dud], Lift.refl hr ho, .cons .dud .nil, by unfold RV; rw [hu]; exact .inr (.inl rfl)⟩
     ·have hex : ∀ i, i < len → ∃ l y, w.cells? 0 (a.add (i * P.cellsOf e)) (P.cellsOf e) = some l ∧ DataW.trod enc P w 0 (fun _ => true) true m e l = some y := by
       intro i hi
       have := hx i hi
       rw [List.getElem?_eq_getElem (by omega), Option.bind_eq_some_iff] at this
       obtain ⟨l, h1, h2⟩ := this
       exact ⟨l, _, h1, h2⟩
      let ls : List (List Value) := (List.range len).map fun i => (w.cells? 0 (a.add (i * P.cellsOf e)) (P.cellsOf e)).getD []
      have hls : ∀ i, i < len → w.cells? 0 (a.add (i * P.cellsOf e)) (P.cellsOf e) = ls[i]? := by
       intro i hi
       obtain ⟨l, _, h1, _⟩ := hex i hi
       simp [ls, hi, h1]
      have hlsl : ls.length = len := by simp [ls]
      obtain ⟨mc, te, fr, hm, hsp, hsz, hfl, hlz⟩ := a8M hpos (by omega) hlsl hls
      obtain ⟨β', h', als, L, v, hlen, r⟩ := Vv d e (fun n cs x ht β h hr ho => ih e hpe n cs x ht β h hr ho) ls (fun l hl2 => by
       obtain ⟨i, hi, rfl⟩ := List.mem_map.1 hl2
       obtain ⟨l, y, h1, h2⟩ := hex i (by simpa using hi)
       exact ⟨m, y, by rw [h1]; exact h2⟩) β h hr ho
      have hz : ∀ a ∈ als, a.length = P.cellsOf e ∧ RV P h' d e a := by
       intro a ha
       obtain ⟨i, hi⟩ := List.getElem?_of_mem ha
       obtain ⟨l, h1, h2, h3⟩ := r i a hi
       exact ⟨by rw [h2]; exact hlz l (List.mem_of_getElem? h1), h3⟩
      have hfl2 : als.flatten.length = len * P.cellsOf e := by rw [ve als _ (fun a ha => (hz a ha).1), hlen, hlsl]
      have L2 := Lift.push (off := a.off) (e := e) (cs := als.flatten) L.rel L.ro hm (by omega) (by rw [hfl2, ← hfl]; exact v)
      refine ⟨_, _, [.slice (some ⟨h'.next, 0, none⟩) als.length qN], L.trans L2, .cons ?_ .nil, ?_⟩
      ·have haddr : a = ⟨a.block, a.off + 0, none⟩ := by
        cases a; simp_all
       rw [haddr, hlen, hlsl]
       exact VRel.slice (s := ⟨a.off, 0, 0⟩) (Place.add_same _ _ _ _) (.inr (.inl rfl)) hlc hcm (.inl rfl)
      ·unfold RV
       rw [hu]
       refine .inr (.inr ⟨h'.next, als, rfl, ?_, by omega, Heap.get_push_self _ _, fun r hr => ⟨(hz r hr).1, (hz r hr).2.ext L2.ext⟩⟩)
       rintro rfl
       simp at hlen
       omega
end
def RVal (P : Program) (h : Heap) (d : Nat) (t : TypeId) (v : Value) : Prop :=
 match P.underlying t with
 | some (.struct _) => ∃ cs : List Value, v = .agg cs.toArray ∧ RV P h d t cs
 | some (.array _ _) => ∃ cs : List Value, v = .agg cs.toArray ∧ RV P h d t cs
 | _ => RV P h d t [v]
def RVals (P : Program) (h : Heap) (d : Nat) : List TypeId → List Value → Prop
 | [], [] => True
 | t :: ts, v :: vs => RVal P h d t v ∧ RVals P h d ts vs
 | _, _ => False
theorem RVal.ext {P : Program} {h h' : Heap} (hx : Ext h h') {d : Nat} {t : TypeId} {v : Value} (q : RVal P h d t v) : RVal P h' d t v := by
 unfold RVal at q ⊢
 split
 ·rename_i hu; rw [hu] at q; obtain ⟨cs, e, r⟩ := q; exact ⟨cs, e, r.ext hx⟩
 ·rename_i hu; rw [hu] at q; obtain ⟨cs, e, r⟩ := q; exact ⟨cs, e, r.ext hx⟩
 ·rename_i h1 h2
  split at q
  ·rename_i hu; exact absurd hu (h1 _)
  ·rename_i hu; exact absurd hu (h2 _ _)
  ·exact q.ext hx
theorem RVals.ext {P : Program} {h h' : Heap} (hx : Ext h h') {d : Nat} : ∀ {ts : List TypeId} {vs : List Value}, RVals P h d ts vs → RVals P h' d ts vs
 | [], [], q => q
 | t :: ts, v :: vs, q => ⟨q.1.ext hx, RVals.ext hx q.2⟩
 | [], _ :: _, q => q
 | _ :: _, [], q => q
theorem ajF {P : Program} {h : Heap} {d : Nat} {t : TypeId} {acs : List Value} (r : RV P h d t acs) (ha : ∀ fs, P.underlying t ≠ some (.struct fs)) (hb : ∀ n e, P.underlying t ≠ some (.array n e)) : ∃ a, acs = [a] := by
 cases d with
 | zero => exact r.elim
 | succ d =>
  unfold RV at r
  split at r
  ·obtain ⟨b, rfl⟩ := r; exact ⟨_, rfl⟩
  ·obtain ⟨b, rfl, _⟩ := r; exact ⟨_, rfl⟩
  ·obtain ⟨b, rfl, _⟩ := r; exact ⟨_, rfl⟩
  ·rcases r with rfl | rfl | ⟨_, _, rfl, _⟩ <;> exact ⟨_, rfl⟩
  ·rename_i hu; exact absurd hu (ha _)
  ·rename_i hu; exact absurd hu (hb _ _)
  ·exact r.elim
theorem a1I {H : Type} {enc : TypeId × Value → H} {P : Program} {w : World} (d : Nat) : ∀ (ts : List TypeId) (vs : List Value) (ds : List (DataW H)) (ps : List MemPlace), DataW.TrodAll enc P w 0 (fun _ => true) true ts vs ds ps →
  ts.all (wC P d) = true → (∀ (j : Nat) t v, ts[j]? = some t → vs[j]? = some v → ∃ base, Value.okWide P w .any base t v) → ∀ β h, Rel P β h w → RO h →
  ∃ (β' : Place) (h' : Heap) (ars : List Value), Lift P w β h β' h' ∧ VRels β' ars vs ∧ RVals P h' d ts ars
 | [], [], _, _, _, _, _, β, h, hr, ho => ⟨β, h, [], Lift.refl hr ho, .nil, trivial⟩
 | t :: ts, v :: vs, d1 :: ds, ps, ht, hp, hok, β, h, hr, ho => by
  obtain ⟨p, q, ⟨fuel, h1⟩, h2, rfl⟩ := ht
  simp only [List.all_cons, Bool.and_eq_true] at hp
  obtain ⟨β1, hp1, acs, L1, v1, r1⟩ := amx d t hp.1 fuel _ _ h1 β h hr ho
  obtain ⟨β2, hp2, ars, L2, v2, r2⟩ := a1I d ts vs ds q h2 hp.2 (fun j t v e1 e2 => hok (j + 1) t v (by simpa using e1) (by simpa using e2)) β1 hp1 L1.rel L1.ro
  obtain ⟨base, hv⟩ := hok 0 t v rfl rfl
  have v1' := v1.mono L2.place
  have r1' := r1.ext L2.ext
  have aggs : (∃ cs, v = .agg cs) → ∃ a : List Value, acs = a ∧ VRel β2 (.agg a.toArray) v := by
   rintro ⟨cs, rfl⟩
   exact ⟨acs, rfl, VRel.agg_iff.2 ⟨cs, rfl, by simpa [Value.cells] using v1'⟩⟩
  cases hu : P.underlying t with
  | none =>
   exfalso
   have := hp.1
   cases d with
   | zero => simp [wC] at this
   | succ d => unfold wC at this; rw [hu] at this; simp at this
  | some D =>
   by_cases hagg : (∃ fs, D = .struct fs) ∨ ∃ n e, D = .array n e
   ·have hc : ∃ cs, v = .agg cs := by
     unfold Value.okWide at hv
     rw [hu] at hv
     rcases hagg with ⟨fs, rfl⟩ | ⟨n, e, rfl⟩
     ·obtain ⟨cs, e, _⟩ := hv; exact ⟨cs, e⟩
     ·obtain ⟨cs, e, _⟩ := hv; exact ⟨cs, e⟩
    obtain ⟨a, rfl, hrel⟩ := aggs hc
    refine ⟨β2, hp2, .agg acs.toArray :: ars, L1.trans L2, .cons hrel v2, ?_, r2⟩
    unfold RVal
    rw [hu]
    rcases hagg with ⟨fs, rfl⟩ | ⟨n, e, rfl⟩
    ·exact ⟨acs, rfl, r1'⟩
    ·exact ⟨acs, rfl, r1'⟩
   ·have n1 : ∀ fs, P.underlying t ≠ some (.struct fs) := fun fs e => hagg (.inl ⟨fs, Option.some.inj (hu.symm.trans e)⟩)
    have n2 : ∀ n e, P.underlying t ≠ some (.array n e) := fun n e e1 => hagg (.inr ⟨n, e, Option.some.inj (hu.symm.trans e1)⟩)
    obtain ⟨a, rfl⟩ := ajF r1' n1 n2
    have hnot : ∀ cs, v ≠ .agg cs := by
     rintro cs rfl
     unfold Value.okWide at hv
     rw [hu] at hv
     cases D <;> first
      | exact hagg (.inl ⟨_, rfl⟩)
      | exact hagg (.inr ⟨_, _, rfl⟩)
      | (simp only [Cell.okWide, hu, Cell.ok] at hv; done)
      | (simp [Cell.okWide, hu, Cell.ok] at hv; done)
      | (have := hp.1; cases d <;> simp [wC, hu] at this; done)
    have hcell : v.cells.toList = [v] := by
     cases v <;> first | rfl | exact absurd rfl (hnot _)
    rw [hcell] at v1'
    refine ⟨β2, hp2, a :: ars, L1.trans L2, ?_, ?_, r2⟩
    ·cases v1' with
     | cons x _ => exact .cons x v2
    ·unfold RVal
     split
     ·rename_i hu2; exact absurd hu2 (n1 _)
     ·rename_i hu2; exact absurd hu2 (n2 _ _)
     ·exact r1'
 | [], _ :: _, _, _, ht, _, _, _, _, _, _ => by simp [DataW.TrodAll] at ht
 | _ :: _, [], _, _, ht, _, _, _, _, _, _ => by simp [DataW.TrodAll] at ht
 | _ :: _, _ :: _, [], _, ht, _, _, _, _, _, _ => by simp [DataW.TrodAll] at ht
open Go.RowKit
section
variable {P : Program} {h : Heap} {d : Nat} {t : TypeId} {cs : List Value}
end
open Go.RowKit Go.ChangeShapes
def h00 : Heap := ⟨0, fun _ => none, fun b o e => by cases e⟩
def β00 : Place := fun _ => none
theorem amf (P : Program) (w : World) : Rel P β00 h00 w := ⟨fun b m s e => (by cases e), fun b m s o e => (by cases e), fun b b' m s s' o o' e => (by cases e)⟩
theorem amq : RO h00 := fun b o e => by cases e
theorem a1t {W W' : World} (hb : Below W.heap.size W W') (may : MemPlace → Prop) : W.keptBut W' may := by
 refine ⟨hb.os, hb.output, fun i hi => ?_⟩
 rw [hb.block i hi]
 cases W.heap[i]? with
 | none => trivial
 | some o => cases o with
  | cells c t fr => exact ⟨rfl, rfl, rfl, fun _ _ => rfl⟩
  | map es ck => exact .inr ⟨rfl, rfl⟩
  | _ => rfl
theorem Y9 {H : Type} {enc : TypeId × Value → H} {P : Program} (hl : laidOutB P = true) {W W' : World} (hb : Below W.heap.size W W') : ∀ {ts : List TypeId} {vs : List Value} {ds : List (DataW H)} {ps : List MemPlace},
  ts.all (fun t => P.readableRec t && decide (t < P.types.size)) = true → DataW.TrodAll enc P W 0 (fun _ => true) true ts vs ds ps → (∀ x ∈ ps, x.block < W.heap.size) →
  DataW.TrodAll enc P W' 0 (fun b => decide (b < W.heap.size)) true ts vs ds ps
 | [], [], [], _, _, h, _ => h
 | t :: ts, v :: vs, d :: ds, ps, hr, h, hlt => by
  obtain ⟨p, q, h1, h2, rfl⟩ := h
  simp only [List.all_cons, Bool.and_eq_true, decide_eq_true_eq] at hr
  exact ⟨p, q, Below.trod hl hr.1.1 hr.1.2 h1 hb (fun x hx => hlt x (by simp [hx])), Y9 hl hb hr.2 h2 (fun x hx => hlt x (by simp [hx])), rfl⟩
 | [], [], _ :: _, _, _, h, _ => by simp [DataW.TrodAll] at h
 | [], _ :: _, _, _, _, h, _ => by simp [DataW.TrodAll] at h
 | _ :: _, [], _, _, _, h, _ => by simp [DataW.TrodAll] at h
 | _ :: _, _ :: _, [], _, _, h, _ => by simp [DataW.TrodAll] at h
theorem xv {H : Type} {enc : TypeId × Value → H} {P : Program} {w : World} {base : Nat} {sp : Nat → Bool} {held : Bool} : ∀ {ts : List TypeId} {vs : List Value} {ds : List (DataW H)} {ps : List MemPlace}, DataW.TrodAll enc P w base sp held ts vs ds ps → ds.length = ts.length
 | [], [], [], _, _ => rfl
 | t :: ts, v :: vs, d :: ds, ps, h => by
  obtain ⟨p, q, _, h2, _⟩ := h
  simp [xv h2]
 | [], [], _ :: _, _, h => by simp [DataW.TrodAll] at h
 | [], _ :: _, _, _, h => by simp [DataW.TrodAll] at h
 | _ :: _, [], _, _, h => by simp [DataW.TrodAll] at h
 | _ :: _, _ :: _, [], _, h => by simp [DataW.TrodAll] at h
theorem acf {H : Type} {enc : TypeId × Value → H} {P : Program} {f : FuncId} {fn : Func} {s : ChangeSpec} {tb : TypeId} {n d : Nat} (hres : fn.resultTypes = #[tb]) (hb : P.underlying tb = some .bool) (hvars : s.vars = [])
  (hn : fn.params.toList.length = n) (hs : ∀ ds : List (DataW H), ds.length = n → s.fn H ds = { results := [.lit (.bool true)], args := ds })
  (hl : laidOutB P = true) (hr : fn.params.toList.all (fun t => P.readableRec t && decide (t < P.types.size)) = true) (hp : fn.params.toList.all (wC P d) = true)
  (walk : ∀ h ars, RO h → RVals P h d fn.params.toList ars → ACalls P f ars h (fun v _ => v = .bool true))
  (W : World) (base : Nat) (args : Array Value) (ds gs : List (DataW H)) (before : List MemPlace) (hval : ∀ (j : Nat) t v, fn.params[j]? = some t → args[j]? = some v → Value.okWide P W .any base t v)
  (hW : DataW.Whole enc P fn.params.toList s.vars false W args.toList ds gs before) :
  Calls P f args W fun e W' => ∃ v, e = .returned v ∧ s.post enc P fn false true false false W args v W' := by
 have hW' := hW
 obtain ⟨p, q, hA, hV, hpq, hfz, hnd⟩ := hW
 rw [hvars] at hV
 obtain ⟨rfl, rfl⟩ := trodVars_none hV
 have hlen := xv hA
 obtain ⟨β, h, ars, L, hv, hrv⟩ := a1I d _ _ _ _ hA hp (fun j t v e1 e2 => ⟨base, hval j t v (by simpa using e1) (by simpa using e2)⟩) β00 h00 (amf P W) amq
 have hc := (walk h ars L.ro hrv).2 β W args.toList hv L.rel
 rw [Array.toArray_toList] at hc
 refine hc.mono fun e W' => ?_
 rintro ⟨mv, rfl, v, h', β', hvr, hr', st, rfl⟩
 cases hvr
 have hbel : Below W.heap.size W W' := ⟨st.os, st.tape, st.output, st.size, fun m hm => st.frame m hm (by
  rintro ⟨b, s1, o, _, hg, hrw⟩
  rw [L.ro b o hg] at hrw
  cases hrw)⟩
 have hsp : s.fn H (ds ++ []) = { results := [.lit (.bool true)], args := ds } := by rw [List.append_nil]; exact hs ds (by rw [hlen, hn])
 have hlt : ∀ x ∈ before, x.block < W.heap.size := fun x hx => hW'.lt x hx
 refine ⟨_, rfl, ds, [], before, [], before, [], hW', ?_, ?_, ?_, a1t hbel _, fun e => by cases e⟩
 ·rw [hsp, hres]
  exact trodAll_mk1 ⟨1, by unfold DataW.trod; rw [hb]; rfl⟩
 ·rw [hsp]
  have : p = before := by rw [hpq, List.append_nil]
  subst this
  exact Y9 hl hbel hr hA hlt
 ·rw [hsp, hvars]; rfl
open Go.RowKit
def CT.ok : (c : CT) → c.T → Prop
 | .int k, n => k.min ≤ (show Int from n) ∧ (show Int from n) ≤ k.max
 | .bool, _ => True
 | .str, s => s.size ≤ maxLen
 | .sl r, xs => (show List r.T from xs).length ≤ maxLen ∧ ∀ x ∈ (show List r.T from xs), CT.ok r x
 | .pair a b, x => CT.ok a x.1 ∧ CT.ok b x.2
def aaD (f : TypeId → CT → Bool) (P : Program) : List Field → CT → Nat → Nat → Bool
 | [], _, _, _ => false
 | fd :: r, c, off, tot => match r with
  | [] => fd.offset == off && f fd.type c && P.cellsOf fd.type == c.size && off + c.size == tot
  | _ :: _ => match c with
   | .pair a b => fd.offset == off && f fd.type a && P.cellsOf fd.type == a.size && aaD f P r b (off + a.size) tot
   | _ => false
def a9e (f : CT → Bool) (z : Nat) : Nat → CT → Bool
 | 0, _ => false
 | n + 1, c => match n with
  | 0 => f c && c.size == z
  | m + 1 => match c with
   | .pair a b => f a && a.size == z && a9e f z (m + 1) b
   | _ => false
def fitT (P : Program) : Nat → TypeId → CT → Bool
 | 0, _, _ => false
 | n + 1, t, c => match P.underlying t with
  | some .bool => c.eqb .bool
  | some (.int k) => c.eqb (.int k)
  | some .string => c.eqb .str
  | some (.slice e) => match c with
   | .sl r => fitT P n e r && P.cellsOf e == r.size
   | _ => false
  | some (.struct fs) => aaD (fitT P n) P fs.toList c 0 (P.cellsOf t)
  | some (.array len e) => a9e (fitT P n e) (P.cellsOf e) len c && c.size == P.cellsOf t
  | _ => false
section
variable {P : Program} {h : Heap}
def ah9 (h : Heap) (b : Nat) : Prop := b < h.next
abbrev PRs (P : Program) (h : Heap) := All2 (fun (p : PV) (v : Value) => PR P (ah9 h) h p v)
theorem a22 {z : Nat} : ∀ {rows : List (List Value)}, (∀ r ∈ rows, r.length = z) → ∀ (i : Nat) (row : List Value) (j : Nat), rows[i]? = some row → j < z → rows.flatten[i * z + j]? = row[j]?
 | [], _, i, row, j, h, _ => by simp at h
 | r :: rows, hz, i, row, j, h, hj => by
  have hr := hz r List.mem_cons_self
  cases i with
  | zero =>
   simp at h; subst h
   rw [List.flatten_cons, Nat.zero_mul, Nat.zero_add, List.getElem?_append_left (by omega)]
  | succ i =>
   rw [List.flatten_cons, List.getElem?_append_right (by rw [hr, Nat.succ_mul]; omega), hr, show (i + 1) * z + j - z = i * z + j by rw [Nat.succ_mul]; omega]
   exact a22 (fun r hr => hz r (List.mem_cons_of_mem _ hr)) i row j (by simpa using h) hj
theorem xY {c : CT} : ∀ {rows : List (List Value)}, (∀ r ∈ rows, ∃ x : c.T, CT.ok c x ∧ PRs P h (qT c x) r) → ∃ xs : List c.T, (∀ x ∈ xs, CT.ok c x) ∧ All2 (fun x r => PRs P h (qT c x) r) xs rows
 | [], _ => ⟨[], fun x hx => by simp at hx, .nil⟩
 | r :: rows, hr => by
  obtain ⟨x, h1, h2⟩ := hr r List.mem_cons_self
  obtain ⟨xs, h3, h4⟩ := xY fun r h => hr r (List.mem_cons_of_mem _ h)
  exact ⟨x :: xs, fun y hy => by rcases List.mem_cons.1 hy with rfl | hy; exact h1; exact h3 y hy, .cons h2 h4⟩
theorem XW {f : TypeId → CT → Bool} {R : TypeId → List Value → Prop} (hf : ∀ t c cs, R t cs → f t c = true → cs.length = c.size ∧ ∃ x : c.T, CT.ok c x ∧ PRs P h (qT c x) cs) {cs : List Value} {tot : Nat} (hl : cs.length = tot) :
  ∀ (fs : List Field) (c : CT) (off : Nat), aaD f P fs c off tot = true → (∀ fd ∈ fs, R fd.type ((cs.drop fd.offset).take (P.cellsOf fd.type))) → (cs.drop off).length = c.size ∧ ∃ x : c.T, CT.ok c x ∧ PRs P h (qT c x) (cs.drop off)
 | [], c, off, e, _ => by cases e
 | [fd], c, off, e, hr => by
  simp only [aaD, Bool.and_eq_true, beq_iff_eq] at e
  obtain ⟨⟨⟨e1, e2⟩, e3⟩, e4⟩ := e
  obtain ⟨h1, x, h2, h3⟩ := hf _ c _ (hr fd List.mem_cons_self) e2
  rw [e1, e3, List.take_of_length_le (by simp; omega)] at h1 h3
  exact ⟨h1, x, h2, h3⟩
 | fd :: g :: r, c, off, e, hr => by
  cases c with
  | pair a b =>
   simp only [aaD, Bool.and_eq_true, beq_iff_eq] at e
   obtain ⟨⟨⟨e1, e2⟩, e3⟩, e4⟩ := e
   obtain ⟨h1, x, h2, h3⟩ := hf _ a _ (hr fd List.mem_cons_self) e2
   obtain ⟨g1, y, g2, g3⟩ := XW hf hl (g :: r) b (off + a.size) (by simpa [aaD] using e4) fun fd h => hr fd (List.mem_cons_of_mem _ h)
   rw [e1, e3] at h1 h3
   have hcut : cs.drop off = (cs.drop off).take a.size ++ cs.drop (off + a.size) := by
    rw [← List.drop_drop]; exact (List.take_append_drop _ _).symm
   refine ⟨?_, (x, y), ⟨h2, g2⟩, ?_⟩
   ·rw [hcut, List.length_append, h1, g1]; rfl
   ·rw [hcut]; exact h3.append g3
  | _ => simp [aaD] at e
theorem a06 {f : CT → Bool} {z : Nat} {R : List Value → Prop} (hf : ∀ c cs, R cs → f c = true → cs.length = c.size ∧ ∃ x : c.T, CT.ok c x ∧ PRs P h (qT c x) cs) {cs : List Value} :
  ∀ (n : Nat) (c : CT) (k : Nat), a9e f z n c = true → (∀ i, i < n → R ((cs.drop ((k + i) * z)).take z)) → cs.length = k * z + c.size → (cs.drop (k * z)).length = c.size ∧ ∃ x : c.T, CT.ok c x ∧ PRs P h (qT c x) (cs.drop (k * z))
 | 0, c, k, e, _, _ => by cases e
 | 1, c, k, e, hr, hl => by
  simp only [a9e, Bool.and_eq_true, beq_iff_eq] at e
  have h0 := hr 0 (by omega)
  rw [Nat.add_zero, List.take_of_length_le (by simp; omega)] at h0
  obtain ⟨h1, x, h2, h3⟩ := hf c _ h0 e.1
  exact ⟨h1, x, h2, h3⟩
 | n + 2, c, k, e, hr, hl => by
  cases c with
  | pair a b =>
   simp only [a9e, Bool.and_eq_true, beq_iff_eq] at e
   obtain ⟨⟨e1, e2⟩, e3⟩ := e
   have h0 := hr 0 (by omega)
   rw [Nat.add_zero] at h0
   obtain ⟨h1, x, h2, h3⟩ := hf a _ h0 e1
   have hl' : cs.length = (k + 1) * z + b.size := by rw [hl, Nat.succ_mul]; simp only [CT.size]; omega
   obtain ⟨g1, y, g2, g3⟩ := a06 hf (n + 1) b (k + 1) (by simpa [a9e] using e3) (fun i hi => by have := hr (i + 1) (by omega); rwa [show k + (i + 1) = k + 1 + i by omega] at this) hl'
   have hcut : cs.drop (k * z) = (cs.drop (k * z)).take z ++ cs.drop ((k + 1) * z) := by
    rw [show (k + 1) * z = k * z + z by rw [Nat.succ_mul], ← List.drop_drop]; exact (List.take_append_drop _ _).symm
   refine ⟨?_, (x, y), ⟨h2, g2⟩, ?_⟩
   ·rw [hcut, List.length_append, h1, g1]; rfl
   ·rw [hcut]; exact h3.append g3
  | _ => simp [a9e] at e
theorem a6B : ∀ (n d : Nat) (t : TypeId) (c : CT) (cs : List Value), RV P h d t cs → fitT P n t c = true → cs.length = c.size ∧ ∃ x : c.T, CT.ok c x ∧ PRs P h (qT c x) cs
 | 0, d, t, c, cs, _, e => by cases e
 | n + 1, 0, t, c, cs, hr, _ => hr.elim
 | n + 1, d + 1, t, c, cs, hr, e => by
  unfold fitT at e
  unfold RV at hr
  split at e
  ·rename_i hu
   rw [hu] at hr
   have := CT.of_eqb e
   subst this
   obtain ⟨b, rfl⟩ := hr
   exact ⟨rfl, b, trivial, .cons (.v rfl) .nil⟩
  ·rename_i k hu
   rw [hu] at hr
   have := CT.of_eqb e
   subst this
   obtain ⟨x, rfl, hx⟩ := hr
   simp only [Lit.wf, Bool.and_eq_true, decide_eq_true_eq] at hx
   exact ⟨rfl, x, hx, .cons (.v rfl) .nil⟩
  ·rename_i hu
   rw [hu] at hr
   have := CT.of_eqb e
   subst this
   obtain ⟨s, rfl, hs⟩ := hr
   exact ⟨rfl, s, hs, .cons (.v rfl) .nil⟩
  ·rename_i te hu
   rw [hu] at hr
   split at e
   ·rename_i r
    simp only [Bool.and_eq_true, beq_iff_eq] at e
    rcases hr with rfl | rfl | ⟨b, rows, rfl, hne, hm, hg, hrows⟩
    ·exact ⟨rfl, [], ⟨Nat.zero_le _, fun x hx => by simp at hx⟩, .cons .nil .nil⟩
    ·exact ⟨rfl, [], ⟨Nat.zero_le _, fun x hx => by simp at hx⟩, .cons .dud .nil⟩
    ·obtain ⟨xs, h1, h2⟩ := xY (P := P) (h := h) (c := r) (rows := rows) fun row hrow => (a6B n d te r row (hrows row hrow).2 e.1).2
     have hl : xs.length = rows.length := h2.length
     have hz : ∀ row ∈ rows, row.length = r.size := fun row hrow => by rw [(hrows row hrow).1, e.2]
     refine ⟨rfl, xs, ⟨by rw [hl]; exact hm, h1⟩, .cons ?_ .nil⟩
     have hml : (xs.map (qT r)).length = rows.length := by simp [hl]
     rw [← hml]
     refine PR.sl (h.wf _ _ hg) hg (CT.size_pos r) ?_ ?_ ?_ (.inl rfl) (by rw [hml]; exact hm)
     ·rw [hml, ve rows r.size hz]; omega
     ·intro i row hrow
      rw [List.getElem?_map] at hrow
      cases hx : xs[i]? with
      | none => rw [hx] at hrow; cases hrow
      | some x => rw [hx] at hrow; cases hrow; exact kF r x
     ·intro i row j p u hrow hp hu'
      rw [List.getElem?_map] at hrow
      cases hx : xs[i]? with
      | none => rw [hx] at hrow; cases hrow
      | some x =>
       rw [hx] at hrow; cases hrow
       obtain ⟨vrow, hv, hpr⟩ := h2.get hx
       have hj : j < r.size := by rw [← kF r x]; exact (List.getElem?_eq_some_iff.1 hp).1
       rw [Nat.zero_add, a22 hz i vrow j hv hj] at hu'
       obtain ⟨u', hu2, hpr2⟩ := hpr.get hp
       rw [hu'] at hu2; cases hu2
       exact hpr2
   ·cases e
  ·rename_i fs hu
   rw [hu] at hr
   obtain ⟨h1, h2⟩ := hr
   have := XW (P := P) (h := h) (f := fitT P n) (R := fun t cs => RV P h d t cs) (fun t c cs hr he => a6B n d t c cs hr he) h1 fs.toList c 0 e (fun fd hfd => h2 fd hfd)
   rwa [List.drop_zero] at this
  ·rename_i len te hu
   rw [hu] at hr
   obtain ⟨h1, h2⟩ := hr
   simp only [Bool.and_eq_true, beq_iff_eq] at e
   have := a06 (P := P) (h := h) (f := fitT P n te) (z := P.cellsOf te) (R := fun cs => RV P h d te cs) (fun c cs hr he => a6B n d te c cs hr he) len c 0 e.1 (fun i hi => by rw [Nat.zero_add]; exact h2 i hi) (by rw [h1, e.2]; omega)
   rwa [Nat.zero_mul, List.drop_zero] at this
  ·cases e
def CTs : List CT → Type
 | [] => Unit
 | c :: r => c.T × CTs r
def CT.oks : (cs : List CT) → CTs cs → Prop
 | [], _ => True
 | c :: r, x => CT.ok c x.1 ∧ CT.oks r x.2
def KC (P : Program) (t : TypeId) : Bool := match P.underlying t with
 | some (.struct _) => true
 | some (.array _ _) => true
 | _ => false
def adQ (P : Program) (t : TypeId) (c : CT) (x : c.T) : TV := if KC P t then .agg (tvC c x) else (tvC c x).headD a8P
def a7t (P : Program) : List TypeId → (cs : List CT) → CTs cs → List TV
 | t :: ts, c :: cs, x => adQ P t c x.1 :: a7t P ts cs x.2
 | _, _, _ => []
def a1V (P : Program) (n : Nat) : List TypeId → List CT → Bool
 | [], [] => true
 | t :: ts, c :: cs => fitT P n t c && (KC P t || c.size == 1) && a1V P n ts cs
 | _, _ => false
theorem a2U : ∀ (c : CT) (x : c.T), (tvC c x).all isC = true
 | .int _, _ => rfl
 | .bool, _ => rfl
 | .str, _ => rfl
 | .sl _, _ => rfl
 | .pair a b, x => by simp only [tvC, List.all_append, a2U a, a2U b, Bool.and_self]
theorem ak3 {S : Nat → Prop} {γ : Pl} {M : List Obj} : ∀ {c : CT} {x : c.T} {vs : List Value}, All2 (fun p v => PR P S h p v) (qT c x) vs → All2 (DC P S γ M h) ((tvC c x).map qy) vs := by
 intro c x vs ha
 rw [ZB]
 generalize qT c x = ps at ha
 induction ha with
 | nil => exact .nil
 | cons a _ ih => exact .cons a ih
theorem a6s {S : Nat → Prop} (hS : ∀ b, ah9 h b → S b) {γ : Pl} {M : List Obj} (n d : Nat) : ∀ (ts : List TypeId) (cs : List CT) (vs : List Value), RVals P h d ts vs → a1V P n ts cs = true → ∃ xs : CTs cs, CT.oks cs xs ∧ All2 (DR P S γ M h) ((a7t P ts cs xs).map enc) vs
 | [], [], [], _, _ => ⟨(), trivial, .nil⟩
 | t :: ts, c :: cs, v :: vs, hr, hf => by
  simp only [a1V, Bool.and_eq_true] at hf
  obtain ⟨⟨f1, f2⟩, f3⟩ := hf
  obtain ⟨xs, h1, h2⟩ := a6s hS n d ts cs vs hr.2 f3
  have mono : ∀ {x : c.T} {us : List Value}, PRs P h (qT c x) us → All2 (fun p v => PR P S h p v) (qT c x) us := fun q => q.mono fun _ _ hp => hp.mono fun b hb => ⟨hS b hb, rfl⟩
  have hv := hr.1
  unfold RVal at hv
  have agg : KC P t = true → (∃ us : List Value, v = .agg us.toArray ∧ RV P h d t us) → ∃ xs : CTs (c :: cs), CT.oks (c :: cs) xs ∧ All2 (DR P S γ M h) ((a7t P (t :: ts) (c :: cs) xs).map enc) (v :: vs) := by
   rintro ha ⟨us, rfl, hu⟩
   obtain ⟨_, x, q1, q2⟩ := a6B n d t c us hu f1
   refine ⟨(x, xs), ⟨q1, h1⟩, .cons ?_ h2⟩
   show DR P S γ M h (enc (adQ P t c x)) _
   unfold adQ
   rw [if_pos ha]
   exact ⟨us.toArray, rfl, by simpa using ak3 (mono q2)⟩
  split at hv
  ·rename_i fs hu; exact agg (by unfold KC; rw [hu]) hv
  ·rename_i m te hu; exact agg (by unfold KC; rw [hu]) hv
  ·rename_i n1 n2
   have hna : KC P t = false := by
    unfold KC
    split
    ·rename_i hu; exact absurd hu (n1 _)
    ·rename_i hu; exact absurd hu (n2 _ _)
    ·rfl
   obtain ⟨_, x, q1, q2⟩ := a6B n d t c [v] hv f1
   refine ⟨(x, xs), ⟨q1, h1⟩, .cons ?_ h2⟩
   show DR P S γ M h (enc (adQ P t c x)) _
   unfold adQ
   rw [if_neg (by rw [hna]; decide)]
   have hdc := ak3 (γ := γ) (M := M) (mono q2)
   have hC := a2U c x
   generalize tvC c x = l at hdc hC
   cases l with
   | nil => cases hdc
   | cons y l =>
    cases hdc with
    | cons a t =>
     simp only [List.all_cons, Bool.and_eq_true] at hC
     exact (a33 hC.1).2 a
 | [], _ :: _, _, _, hf => by simp [a1V] at hf
 | _ :: _, [], _, _, hf => by simp [a1V] at hf
 | [], [], _ :: _, hr, _ => hr.elim
 | _ :: _, _ :: _, [], hr, _ => hr.elim
theorem af8 {f : FuncId} {av : VS} {m : ShT av [] → Option (RT [(.bool, [])])} (he : qA P ⟨f, av, [], [(.bool, [])], m⟩) (n d : Nat) (ts : List TypeId) (cs : List CT) (hf : a1V P n ts cs = true) (conv : CTs cs → ShT av []) (hc : ∀ xs, (conv xs).vals = a7t P ts cs xs)
  (hm : ∀ xs, CT.oks cs xs → m (conv xs) = some (true : Bool)) (h : Heap) (ars : List Value) (hr : RVals P h d ts ars) : ACalls P f ars h (fun v _ => v = .bool true) := by
 let W0 : Ent := { start := h.next, W := fun _ => False, A := fun _ => True, pin := fun _ _ => False, cnt := 0, few := fun _ _ e => e.elim, sub := fun _ e => e.elim }
 have hS : ∀ b, ah9 h b → qe W0 u0 [] h b := fun b hb => ⟨hb, .inr trivial, fun id o x e => by simp at e⟩
 obtain ⟨xs, h1, h2⟩ := a6s (P := P) (γ := u0) (M := []) hS n d ts cs ars hr hf
 have hd := he (conv xs) true (hm xs h1)
 simp only at hd
 rw [hc] at hd
 have hobj : (conv xs).objs = [] := List.length_eq_zero_iff.1 (Z5 _ _ _ _)
 rw [hobj] at hd
 refine (hd W0 u0 h ars (Nat.le_refl _) (ace W0 h rfl fun _ _ e => e) h2).mono ?_
 rintro v h' ⟨γ', r, A', hq, H', hdr⟩
 obtain ⟨w, hw, rfl, _⟩ := (show RQ1 (.bool, []) (true : Bool) r A' from hq)
 have hw' : [TV.v (.bool true)] = [w] := hw
 cases hw'
 exact PR.scal (P := P) (S := qe W0 γ' A' h') (h := h') hdr
end
open Go.RowKit
def aje : Option Value → Option Value → Bool
 | some a, some b => kY a b
 | _, _ => false
theorem UX {x y : Option Value} (h : aje x y = true) : y.isSome = true ∧ x = y := by
 unfold aje at h
 split at h
 ·rw [kW _ _ h]; exact ⟨rfl, rfl⟩
 ·cases h
def alm (P : Program) (c : C) (a : Frm) (h : Heap) : Bool :=
 match c.g with
 | none => aje (z8 P c.op a.ev h) (yq a c.d)
 | some (t, want) => match zE t want a with
  | some false => true
  | _ => aje (z8 P c.op a.ev h) (yq a c.d)
theorem a8s {P : Program} {c : C} {a : Frm} {h : Heap} (q : alm P c a h = true) : VN P c a h := by
 unfold alm at q
 unfold VN
 split at q
 ·rename_i hg; rw [hg]; exact UX q
 ·rename_i t want hg
  rw [hg]
  simp only
  split at q
  ·rename_i hv; exact .inl hv
  ·exact .inr (UX q)
def acd (P : Program) (a : Frm) (h : Heap) : List C → Bool
 | [] => true
 | c :: r => alm P c a h && acd P a h r
theorem xu {P : Program} {a : Frm} {h : Heap} : ∀ {l : List C}, acd P a h l = true → wq P a h l
 | [], _ => trivial
 | _ :: _, q => by
  simp only [acd, Bool.and_eq_true] at q
  exact ⟨a8s q.1, xu q.2⟩
def akW (P : Program) (call : Yr) : List (C × List C) → FX → FX
 | [], K, a, p => K a p
 | (c, ks) :: r, K, a, p => a7H P call [c] (fun a p => acd P a p.heap ks && akW P call r K a p) a p
theorem XM {P : Program} {call : Yr} (hc : uk P call) : ∀ (l : List (C × List C)) {K : FX} {K' : Frm → Heap → Prop} {a : Frm} {p : PH}, (∀ a p, K a p = true → K' a p.heap) → akW P call l K a p = true → dWp P l K' a p.heap
 | [], K, K', a, p, hk, h => hk a p h
 | (c, ks) :: r, K, K', a, p, hk, h => KE hc [c] (fun a p q => by
   rw [Bool.and_eq_true] at q
   exact ⟨xu q.1, XM hc r hk q.2⟩) h
inductive Jb where
 | k (x : X)
 | block (id : Nat)
 | loop (x : X)
 | scope (x labs : X)
def fq (P : Program) : List Jb → (Exit → Frm → Heap → Prop) → Exit → Frm → Heap → Prop
 | [], Q => Q
 | .k y :: s, Q => jp (fun a h => xWp P y (fq P s Q) a h) (fq P s Q)
 | .block id :: s, Q => wH id (fq P s Q)
 | .loop x :: s, Q => jp (fun a h => ∀ c, xOf P c .nil = x → LWp P c (fq P s Q) a h) (fq P s Q)
 | .scope x labs :: s, Q => fun e a h => match e with
  | .goto l => ∀ c, xOf P c .nil = x → Qm P c .nil .nil = labs → ∃ rest, findLabel c l = some rest ∧ SWp P c rest (fq P s Q) a h
  | e => fq P s Q e a h
def Qj (id : Nat) : List Jb → Option (List Jb)
 | [] => none
 | .block id' :: s => if id = id' then some s else Qj id s
 | .k _ :: s => Qj id s
 | .loop _ :: s => Qj id s
 | .scope _ _ :: s => Qj id s
theorem wJ {P : Program} {id : Nat} {Q : Exit → Frm → Heap → Prop} {a : Frm} {h : Heap} : ∀ {s s' : List Jb}, Qj id s = some s' → fq P s' Q .normal a h → fq P s Q (.exit id) a h
 | [], _, e, _ => by cases e
 | .block id' :: s, s', e, q => by
  simp only [Qj] at e
  simp only [fq, wH]
  by_cases hi : id = id'
  ·rw [if_pos hi] at e ⊢; cases e; exact q
  ·rw [if_neg hi] at e ⊢; exact wJ e q
 | .k _ :: s, s', e, q => by simp only [Qj] at e; exact wJ (s := s) e q
 | .loop _ :: s, s', e, q => by simp only [Qj] at e; exact wJ (s := s) e q
 | .scope _ _ :: s, s', e, q => by simp only [Qj] at e; exact wJ (s := s) e q
theorem xg {P : Program} {Q : Exit → Frm → Heap → Prop} {a : Frm} {h : Heap} (q : Q .ret a h) : ∀ (s : List Jb), fq P s Q .ret a h
 | [] => q
 | .block _ :: s => xg q s
 | .k _ :: s => xg q s
 | .loop _ :: s => xg q s
 | .scope _ _ :: s => xg q s
def Ja (l : Nat) : List Jb → Option (X × List Jb)
 | [] => none
 | .block _ :: s => Ja l s
 | .k _ :: s => Ja l s
 | .loop _ :: s => Ja l s
 | .scope x labs :: s => match a4I l labs with
  | some y => some (y, .scope x labs :: s)
  | none => none
theorem abW {P : Program} {c rest : Code} {s : List Jb} {Q : Exit → Frm → Heap → Prop} {a : Frm} {h : Heap} (q : xWp P (xOf P rest .nil) (fq P (.scope (xOf P c .nil) (Qm P c .nil .nil) :: s) Q) a h) : SWp P c rest (fq P s Q) a h := by
 refine VA ((wi q).mono fun e a h q => ?_)
 cases e <;> first
  | exact q c rfl rfl
  | exact q
theorem Qt {P : Program} {l : Nat} {Q : Exit → Frm → Heap → Prop} {a : Frm} {h : Heap} : ∀ {s : List Jb} {y : X} {s' : List Jb}, Ja l s = some (y, s') → xWp P y (fq P s' Q) a h → fq P s Q (.goto l) a h
 | [], _, _, e, _ => by cases e
 | .block _ :: s, _, _, e, q => by simp only [Ja] at e; exact Qt (s := s) e q
 | .k _ :: s, _, _, e, q => by simp only [Ja] at e; exact Qt (s := s) e q
 | .loop _ :: s, _, _, e, q => by simp only [Ja] at e; exact Qt (s := s) e q
 | .scope x labs :: s, y, s', e, q => by
  simp only [Ja] at e
  split at e
  ·rename_i y' hy
   simp only [Option.some.injEq, Prod.mk.injEq] at e
   obtain ⟨rfl, rfl⟩ := e
   intro c hx hl
   subst hx hl
   cases hf : findLabel c l with
   | none =>
    rw [(QF P l c .nil .nil).2 hf] at hy
    cases hy
   | some rest =>
    rw [(QF P l c .nil .nil).1 rest hf] at hy
    cases hy
    exact ⟨rest, rfl, abW q⟩
  ·cases e
theorem WZ {P : Program} {id : Nat} {Q : Exit → Frm → Heap → Prop} {a : Frm} {h : Heap} (q : Q (.exit id) a h) : ∀ {s : List Jb}, Qj id s = none → fq P s Q (.exit id) a h
 | [], _ => q
 | .block id' :: s, e => by
  simp only [Qj] at e
  simp only [fq, wH]
  by_cases hi : id = id'
  ·rw [if_pos hi] at e; cases e
  ·rw [if_neg hi] at e ⊢; exact WZ q e
 | .k _ :: s, e => by simp only [Qj] at e; exact WZ q (s := s) e
 | .loop _ :: s, e => by simp only [Qj] at e; exact WZ q (s := s) e
 | .scope _ _ :: s, e => by simp only [Qj] at e; exact WZ q (s := s) e
def VU : List MapEntry → List MapEntry → Bool
 | [], [] => true
 | a :: r, b :: s => kY a.key b.key && kY a.val b.val && Nat.beq a.born b.born && VU r s
 | _, _ => false
theorem vF : ∀ (a b : List MapEntry), VU a b = true → a = b
 | [], b, h => by cases b <;> simp_all [VU]
 | ⟨k, v, n⟩ :: r, b, h => by
  cases b with
  | nil => simp [VU] at h
  | cons y s =>
   obtain ⟨k', v', n'⟩ := y
   simp only [VU, Bool.and_eq_true, Nat.beq_eq] at h
   rw [kW _ _ h.1.1.1, kW _ _ h.1.1.2, h.1.2, vF r s h.2]
def a9h : Bool → Bool → Bool
 | true, true => true
 | false, false => true
 | _, _ => false
theorem a32 {a b : Bool} (h : a9h a b = true) : a = b := by cases a <;> cases b <;> simp_all [a9h]
def agR : AObj → AObj → Bool
 | .cells a e r, .cells b e' r' => yB a b && Nat.beq e e' && a9h r r'
 | .map a c, .map b c' => VU a b && Nat.beq c c'
 | .chan c a, .chan c' b => Nat.beq c c' && yB a b
 | _, _ => false
theorem a7N {a b : AObj} (h : agR a b = true) : a = b := by
 unfold agR at h
 split at h
 ·simp only [Bool.and_eq_true, Nat.beq_eq] at h
  rw [j5 _ _ h.1.1, h.1.2, a32 h.2]
 ·simp only [Bool.and_eq_true, Nat.beq_eq] at h
  rw [vF _ _ h.1, h.2]
 ·simp only [Bool.and_eq_true, Nat.beq_eq] at h
  rw [h.1, j5 _ _ h.2]
 ·cases h
abbrev Qa := List (Nat × AObj)
def Zf (b : Nat) : Qa → Option AObj
 | [] => none
 | (c, o) :: r => bif Nat.beq c b then some o else Zf b r
theorem al8 {a b : Nat} (h : a ≠ b) : Nat.beq a b = false := by
 cases hq : Nat.beq a b with
 | false => rfl
 | true => exact absurd (Nat.eq_of_beq_eq_true hq) h
theorem acX {a b : Nat} (h : Nat.blt a b = true) : a < b := by rw [Nat.blt_eq] at h; exact h
theorem acA {a b : Nat} (h : a < b) : Nat.blt a b = true := by rw [Nat.blt_eq]; exact h
theorem aeh {a b : Nat} (h : ¬ a < b) : Nat.blt a b = false := by
 cases hq : Nat.blt a b with
 | false => rfl
 | true => exact absurd (acX hq) h
theorem a9z (b : Nat) (o : AObj) (r : Qa) : Zf b ((b, o) :: r) = some o := by simp [Zf]
theorem a7D {b c : Nat} (h : c ≠ b) (o : AObj) (r : Qa) : Zf b ((c, o) :: r) = Zf b r := by
 conv => lhs; unfold Zf
 rw [al8 h, cond_false]
def a6R (p : PH) : Qa → Bool
 | [] => true
 | (b, o) :: r => (match p.get b with
  | some o' => agR o o'
  | none => false) && a6R p r
def alL (h : Heap) (l : Qa) : Prop := ∀ b o, Zf b l = some o → h.get b = some o
theorem xF {p : PH} : ∀ {l : Qa}, a6R p l = true → alL p.heap l
 | [], _, b, o, e => by cases e
 | (c, q) :: r, h, b, o, e => by
  simp only [a6R, Bool.and_eq_true] at h
  unfold Zf at e
  cases hc : Nat.beq c b with
  | true =>
   rw [hc] at e
   cases e
   have := Nat.eq_of_beq_eq_true hc
   subst this
   have h1 := h.1
   split at h1
   ·rename_i o' hg
    rw [a7N h1]
    exact hg
   ·cases h1
  | false => rw [hc] at e; exact xF h.2 b o e
structure MEnt where
 f : FuncId
 args : List Value
 mem : Option (Nat × Qa × Nat × Qa)
 v : Value
abbrev VE := List MEnt
def Wi (t : Tr AObj) : Nat → Nat → Qa → Tr AObj
 | n0, k + 1, post => Tr.set 31 (Wi t n0 k post) (n0 + k) (Zf (n0 + k) post)
 | n0, 0, post => post.foldr (fun e t => bif Nat.blt e.1 n0 then Tr.set 31 t e.1 (some e.2) else t) t
def a8Z (p : PH) (n1 : Nat) (post : Qa) : PH := ⟨n1, Wi p.t p.next (n1 - p.next) post⟩
theorem U6 (n0 : Nat) (post : Qa) (t : Tr AObj) : ∀ (k b : Nat), n0 + k ≤ PH.room →
  (b < n0 → (Wi t n0 k post).get b = match Zf b post with | some o => some o | none => t.get b) ∧ (n0 ≤ b ∧ b < n0 + k → (Wi t n0 k post).get b = Zf b post)
 | 0, b, hk => by
  refine ⟨fun hb => ?_, fun hb => by omega⟩
  unfold Wi
  induction post with
  | nil => simp [Zf]
  | cons e r ih =>
   obtain ⟨c, o⟩ := e
   simp only [List.foldr_cons]
   by_cases hc : c < n0
   ·rw [acA hc, cond_true, Tr.get_set _ 31 _ _ _ (by unfold PH.room at hk; omega)]
    by_cases hbc : b = c
    ·subst hbc
     rw [if_pos rfl, a9z]
    ·rw [if_neg hbc, a7D (Ne.symm hbc)]
     exact ih
   ·rw [aeh hc, cond_false, a7D (by omega)]
    exact ih
 | k + 1, b, hk => by
  obtain ⟨h1, h2⟩ := U6 n0 post t k b (by omega)
  have hs : (Wi t n0 (k + 1) post).get b = if b = n0 + k then Zf (n0 + k) post else (Wi t n0 k post).get b := by
   conv => lhs; unfold Wi
   rw [Tr.get_set _ 31 _ _ _ (by unfold PH.room at hk; omega)]
  rw [hs]
  refine ⟨fun hb => by rw [if_neg (by omega)]; exact h1 hb, fun hb => ?_⟩
  by_cases he : b = n0 + k
  ·rw [if_pos he, he]
  ·rw [if_neg he]
   exact h2 (by omega)
def akA (h : Heap) (n1 : Nat) (post : Qa) (h' : Heap) : Prop := h'.next = n1 ∧ ∀ b, h'.get b = if b < n1 then (match Zf b post with | some o => some o | none => if b < h.next then h.get b else none) else none
def a63 (P : Program) (e : MEnt) : Prop :=
 match e.mem with
 | none => ∀ h, ACalls P e.f e.args h (fun v h' => v = e.v ∧ h' = h)
 | some (n0, pre, n1, post) => n0 ≤ n1 ∧ ∀ h, h.next = n0 → alL h pre → ACalls P e.f e.args h (fun v h' => v = e.v ∧ akA h n1 post h')
def MemoOk (P : Program) (M : VE) : Prop := ∀ e ∈ M, a63 P e
def a89 : VE → FuncId → List Value → PH → Option (Value × PH)
 | [], _, _, _ => none
 | e :: r, f, avs, p => bif Nat.beq e.f f && yB e.args avs then (match e.mem with
  | none => some (e.v, p)
  | some (n0, pre, n1, post) => bif Nat.beq p.next n0 && Nat.ble n1 PH.room && a6R p pre then some (e.v, a8Z p n1 post) else a89 r f avs p) else a89 r f avs p
theorem MemoOk.nil (P : Program) : MemoOk P [] := fun _ h => by cases h
theorem MemoOk.cons {P : Program} {M : VE} {e : MEnt} (h1 : a63 P e) (h2 : MemoOk P M) : MemoOk P (e :: M) := by
 intro e he
 rcases List.mem_cons.1 he with rfl | he
 ·exact h1
 ·exact h2 e he
theorem MemoOk.append {P : Program} {M N : VE} (h1 : MemoOk P M) (h2 : MemoOk P N) : MemoOk P (M ++ N) := by
 intro e he
 rcases List.mem_append.1 he with he | he
 ·exact h1 e he
 ·exact h2 e he
theorem xO {P : Program} {f : FuncId} {avs : List Value} {p p' : PH} {v : Value} : ∀ {M : VE}, MemoOk P M → a89 M f avs p = some (v, p') → ACalls P f avs p.heap (fun u h' => u = v ∧ h' = p'.heap)
 | [], _, e => by cases e
 | e :: r, hm, hl => by
  have rest := xO (M := r) (f := f) (avs := avs) (p := p) (p' := p') (v := v) (fun e he => hm e (List.mem_cons_of_mem _ he))
  have he := hm e (List.mem_cons_self ..)
  unfold a89 at hl
  cases hf : Nat.beq e.f f && yB e.args avs with
  | false => rw [hf] at hl; exact rest hl
  | true =>
   rw [hf, cond_true] at hl
   rw [Bool.and_eq_true] at hf
   obtain rfl := Nat.eq_of_beq_eq_true hf.1
   obtain rfl := j5 _ _ hf.2
   unfold a63 at he
   split at hl
   ·rename_i hmem
    rw [hmem] at he
    cases hl
    exact he p.heap
   ·rename_i n0 pre n1 post hmem
    rw [hmem] at he
    cases hq : Nat.beq p.next n0 && Nat.ble n1 PH.room && a6R p pre with
    | false => rw [hq] at hl; exact rest hl
    | true =>
     rw [hq, cond_true] at hl
     cases hl
     simp only [Bool.and_eq_true] at hq
     obtain ⟨⟨q1, q2⟩, q3⟩ := hq
     have q1 := Nat.eq_of_beq_eq_true q1
     have q2 := Nat.le_of_ble_eq_true q2
     refine (he.2 p.heap q1 (xF q3)).mono ?_
     rintro u h' ⟨rfl, h1, h2⟩
     refine ⟨rfl, Heap.ext'' h1 fun b => ?_⟩
     rw [h2 b]
     have hle := he.1
     show _ = (a8Z p n1 post).get b
     unfold PH.get a8Z
     simp only
     by_cases hb : b < n1
     ·rw [if_pos hb, if_pos hb]
      obtain ⟨a1, a2⟩ := U6 p.next post p.t (n1 - p.next) b (by omega)
      by_cases hp : b < p.next
      ·rw [a1 hp]
       have e1 : p.heap.get b = p.t.get b := by
        show p.get b = _
        unfold PH.get
        rw [if_pos hp]
       have e2 : b < p.heap.next := hp
       rw [if_pos e2, e1]
      ·rw [a2 (by omega)]
       have e2 : ¬ b < p.heap.next := hp
       rw [if_neg e2]
       cases Zf b post <;> rfl
     ·rw [if_neg hb, if_neg hb]
abbrev EX := X → List Jb → Frm → PH → (Exit → FX) → Bool
def abj (P : Program) (ih : EX) (l : Nat) (args : List Value) (p : PH) (K : KX) : Bool :=
 match p.get l with
 | some (.loop _ _ n sl ps x y) => decide (args.length = ps.length) && ih (xOf P x .nil) [] (a1R ps args ⟨n, sl⟩) p (fun e a p => match e, p.get l with
  | .normal, some (.loop .ready pend n sl ps x' y') => match Y3 p l (.loop .busy pend n sl ps x' y') with
   | some p => ih (xOf P y .nil) [] a p (fun e _ p => match p.get l with
    | some (.loop _ _ n sl ps x y) => match e with
     | .normal => match Y3 p l (.loop .ready none n sl ps x y) with
      | some p => K (.bool true) p
      | none => false
     | .ret => match Y3 p l (.loop .done (some .ret) n sl ps x y) with
      | some p => K (.bool false) p
      | none => false
     | .exit id => match Y3 p l (.loop .done (some (.exit id)) n sl ps x y) with
      | some p => K (.bool false) p
      | none => false
     | _ => false
    | _ => false)
   | none => false
  | _, _ => false)
 | _ => false
def a1B (P : Program) (M : VE) (ih : EX) (f : FuncId) (args : List Value) (p : PH) (K : KX) : Bool :=
 match a89 M f args p with
 | some (v, p) => K v p
 | none => match P.funcs[f]? with
  | some fn => match fn.body with
   | some c => !(fn.name == "runtime.NumGoroutine") && decide (args.length ≤ fn.ntmps) && ih (xOf P c .nil) [] ⟨fn.ntmps, kX 0 args⟩ p (fun e a p => match e with
    | .normal => match zp P a p.heap fn.results.toList with
     | some vs => K (wU vs) p
     | none => false
    | .ret => match zp P a p.heap fn.results.toList with
     | some vs => K (wU vs) p
     | none => false
    | _ => false)
   | none => false
  | none => false
def aah (P : Program) (f : FuncId) (args : List Value) (p : PH) (K : KX) : Bool :=
 match P.funcs[f]? with
 | some fn => fn.name == "maps.clone" && fn.origin == "" && fn.body.isNone && match args with
  | [.iface t (.map (some r))] => match p.get r with
   | some (.map es ck) => Wp p (.map es ck) (K (.iface t (.map (some p.next))))
   | _ => false
  | _ => false
 | none => false
def akr (P : Program) (f : FuncId) : Bool := match P.funcs[f]? with
 | some fn => match fn.body with
  | some _ => false
  | none => true
 | none => true
def afZ (P : Program) (M : VE) (ih : EX) : Yr := fun f args p K =>
 match f with
 | .func f => match akr P f with
  | true => aah P f args p K
  | false => a1B P M ih f args p K
 | .yield l => abj P ih l args p K
 | _ => false
def alq (ih : EX) (l : Nat) (k : X) (s : List Jb) (a : Frm) (K : Exit → FX) (p : PH) : Bool :=
 match p.get l with
 | some (.loop st pend n sl ps x y) => (match st with | .busy => false | _ => true) && match Y3 p l (.loop .exhausted pend n sl ps x y) with
  | some p => match pend with
   | none => ih k s a p K
   | some .ret => K .ret a p
   | some (.exit id) => match Qj id s with
    | some s => ih .nil s a p K
    | none => K (.exit id) a p
   | _ => false
  | none => false
 | _ => false
def uU (P : Program) (call : Yr) (ih : EX) : EX
 | .nil, s, a, p, K => match s with
  | [] => K .normal a p
  | .k y :: s => ih y s a p K
  | .block _ :: s => ih .nil s a p K
  | .loop x :: s => ih x (.loop x :: s) a p K
  | .scope _ _ :: s => ih .nil s a p K
 | .ret, _, a, p, K => K .ret a p
 | .exit id, s, a, p, K => match Qj id s with
  | some s => ih .nil s a p K
  | none => K (.exit id) a p
 | .goto l, s, a, p, K => match Ja l s with
  | some (y, s) => ih y s a p K
  | none => false
 | .bad, _, _, _, _ => false
 | .reg L k, s, a, p, K => a7H P call L (fun a p => ih k s a p K) a p
 | .draw L k, s, a, p, K => akW P call L (fun a p => ih k s a p K) a p
 | .cond c x y k, s, a, p, K => match a.ev c with
  | some (.bool true) => ih x (.k k :: s) a p K
  | some (.bool false) => ih y (.k k :: s) a p K
  | _ => false
 | .block id x k, s, a, p, K => ih x (.block id :: .k k :: s) a p K
 | .loop x k, s, a, p, K => ih x (.loop x :: .k k :: s) a p K
 | .scope x labs k, s, a, p, K => ih x (.scope x labs :: .k k :: s) a p K
 | .lcons _ _ _, _, _, _, _ => false
 | .label _ k, s, a, p, K => ih k s a p K
 | .range f ps c d k, s, a, p, K => match a.ev f with
  | some (.func (.func g) first cap) => Wp p (.loop .ready none a.n a.l ps c d) fun p1 =>
   call (.func g) (first.toList ++ [.func (.yield p.next) #[] #[]] ++ cap.toList) p1 (fun _ p2 => alq ih p.next k s a K p2)
  | _ => false
def a1W (P : Program) (M : VE) : Nat → EX
 | 0 => fun _ _ _ _ _ => false
 | n + 1 => fun x s a p K => uU P (afZ P M (a1W P M n)) (a1W P M n) x s a p K
def aaA (P : Program) (ih : EX) : Prop := ∀ {x s a p K} {Q : Exit → Frm → Heap → Prop}, (∀ e a p, K e a p = true → Q e a p.heap) → ih x s a p K = true → xWp P x (fq P s Q) a p.heap
theorem a36 {P : Program} {ih : EX} (hi : aaA P ih) {l : Nat} {args : List Value} {p : PH} {K : KX} (h : abj P ih l args p K = true) : AYield P l args p.heap (up K) := by
 unfold abj at h
 split at h
 ·rename_i st pend n sl ps x y hg
  simp only [Bool.and_eq_true, decide_eq_true_eq] at h
  refine a3Q (show p.heap.get l = _ from hg) h.1 (wi (hi (s := []) (fun e a p q => ?_) h.2))
  split at q
  ·rename_i pend n sl ps x' y' hg1
   have hg1' : p.heap.get l = _ := hg1
   simp only [hg1']
   split at q
   ·rename_i p2 hs
    rw [← zJ hs hg1]
    refine wi (hi (s := []) (fun e a p q => ?_) q)
    split at q
    ·rename_i st4 pend4 n4 sl4 ps4 x4 y4 hg3
     have hg3' : p.heap.get l = _ := hg3
     simp only [hg3']
     split at q
     ·split at q
      ·rename_i p4 hs4; exact ⟨p4, zJ hs4 hg3, q⟩
      ·cases q
     ·split at q
      ·rename_i p4 hs4; exact ⟨p4, zJ hs4 hg3, q⟩
      ·cases q
     ·split at q
      ·rename_i p4 hs4; exact ⟨p4, zJ hs4 hg3, q⟩
      ·cases q
     ·cases q
    ·cases q
   ·cases q
  ·cases q
 ·cases h
theorem xU {P : Program} {M : VE} (hm : MemoOk P M) {ih : EX} (hi : aaA P ih) {f : FuncId} {args : List Value} {p : PH} {K : KX} (h : a1B P M ih f args p K = true) : ACalls P f args p.heap (up K) := by
 unfold a1B at h
 split at h
 ·rename_i v p' hv
  exact (xO hm hv).mono fun u h' q => by
   obtain ⟨rfl, rfl⟩ := q
   exact ⟨p', rfl, h⟩
 ·split at h
  ·rename_i fn hf
   split at h
   ·rename_i c hb
    simp only [Bool.and_eq_true, Bool.not_eq_true', decide_eq_true_eq] at h
    obtain ⟨⟨h1, h2⟩, h3⟩ := h
    refine KD hf hb rfl rfl h1 h2 (wi (hi (s := []) (fun e a p q => ?_) h3))
    split at q
    ·split at q
     ·rename_i vs hv
      exact ⟨vs, hv, p, rfl, q⟩
     ·cases q
    ·split at q
     ·rename_i vs hv
      exact ⟨vs, hv, p, rfl, q⟩
     ·cases q
    ·cases q
   ·cases h
  ·cases h
theorem a3U {P : Program} {f : FuncId} {args : List Value} {p : PH} {K : KX} (h : aah P f args p K = true) : abT P f args p.heap (up K) := by
 unfold aah at h
 split at h
 ·rename_i fn hf
  simp only [Bool.and_eq_true, beq_iff_eq] at h
  obtain ⟨⟨⟨h1, h2⟩, h3⟩, h⟩ := h
  split at h
  ·rename_i t r
   split at h
   ·rename_i es ck hg
    obtain ⟨k1, k2⟩ := kB h
    exact ⟨fn, t, r, es, ck, hf, h1, h2, h3, rfl, hg, _, k1, k2⟩
   ·cases h
  ·cases h
 ·cases h
theorem a6F {P : Program} {M : VE} (hm : MemoOk P M) {ih : EX} (hi : aaA P ih) : uk P (afZ P M ih) := by
 intro f args p K h
 unfold afZ at h
 split at h
 ·split at h
  ·exact .inr (a3U h)
  ·exact .inl (xU hm hi h)
 ·exact a36 hi h
 ·cases h
theorem a8r {P : Program} {ih : EX} (hi : aaA P ih) {l : Nat} {k : X} {s : List Jb} {a : Frm} {K : Exit → FX} {Q : Exit → Frm → Heap → Prop} (hk : ∀ e a p, K e a p = true → Q e a p.heap) {p : PH} (h : alq ih l k s a K p = true) :
  ajK l (jp (fun a h => xWp P k (fq P s Q) a h) (fq P s Q)) a p.heap := by
 unfold alq at h
 unfold ajK
 split at h
 ·rename_i st pend n sl ps x y hg
  have hg' : p.heap.get l = _ := hg
  simp only [hg']
  rw [Bool.and_eq_true] at h
  obtain ⟨h1, h⟩ := h
  refine ⟨(by rintro rfl; cases h1), ?_⟩
  split at h
  ·rename_i p1 hs
   rw [← zJ hs hg]
   split at h
   ·exact hi hk h
   ·exact xg (hk _ _ _ h) s
   ·split at h
    ·rename_i s' hp
     exact wJ hp (hi (s := s') hk h)
    ·rename_i hp
     exact WZ (hk _ _ _ h) hp
   ·cases h
  ·cases h
 ·cases h
theorem a7C {P : Program} {call : Yr} {ih : EX} (hc : uk P call) (hi : aaA P ih) : aaA P (uU P call ih) := by
 intro x s a p K Q hk h
 cases x with
 | nil =>
  simp only [uU] at h
  show fq P s Q .normal a p.heap
  split at h
  ·exact hk _ _ _ h
  ·exact hi hk h
  ·exact hi (s := _) hk h
  ·rename_i x s
   intro c hx
   subst hx
   refine VZ ((wi (hi hk h)).mono fun e a h q => ?_)
   cases e <;> first
    | exact q c rfl
    | exact q
  ·exact hi (s := _) hk h
 | ret => exact xg (hk _ _ _ h) s
 | exit id =>
  simp only [uU] at h
  split at h
  ·rename_i s' hs
   exact wJ hs (hi (s := s') hk h)
  ·rename_i hs
   exact WZ (hk _ _ _ h) hs
 | goto l =>
  simp only [uU] at h
  split at h
  ·rename_i y s' hs
   exact Qt hs (hi (s := s') hk h)
  ·cases h
 | lcons _ _ _ => cases h
 | bad => cases h
 | reg L k => exact KE hc L (fun a p q => hi hk q) h
 | draw L k => exact XM hc L (fun a p q => hi hk q) h
 | cond c x y k =>
  simp only [uU] at h
  show yb _ _ _
  split at h
  ·rename_i hv; rw [hv]; exact ⟨fun _ => hi (s := .k k :: s) hk h, fun e => (by cases e)⟩
  ·rename_i hv; rw [hv]; exact ⟨fun e => (by cases e), fun _ => hi (s := .k k :: s) hk h⟩
  ·cases h
 | block id x k => exact hi (s := .block id :: .k k :: s) hk h
 | loop x k =>
  intro c hx
  subst hx
  have q := hi (s := .loop _ :: .k k :: s) hk h
  refine a55 (VZ ((wi q).mono fun e a h q => ?_))
  cases e <;> first
   | exact q c rfl
   | exact q
 | scope x labs k =>
  intro c hx hl
  subst hx hl
  exact a1y (abW (hi (s := .scope _ _ :: .k k :: s) hk h))
 | label l k => exact hi (x := k) hk h
 | range f ps c d k =>
  simp only [uU] at h
  show AWp P (.rangeFunc f ps.toArray c d) _ a p.heap
  split at h
  ·rename_i g first cap hf
   obtain ⟨e1, h⟩ := kB h
   have hcl : ADoes P g (first.toList ++ [.func (.yield p.next) #[] #[]] ++ cap.toList) _ _ := hc (.func g) _ _ _ h
   rw [e1] at hcl
   have hcl := Or.resolve_right hcl (by
    rintro ⟨_, t, r, _, _, _, _, _, _, e, _⟩
    have : Value.func (.yield p.next) #[] #[] ∈ [Value.iface t (.map (some r))] := by rw [← e]; simp
    simp at this)
   refine alA hf (ACalls.mono hcl ?_)
   rintro v h' ⟨p2, rfl, q⟩
   exact a8r hi hk q
  ·cases h
theorem Wf {P : Program} {M : VE} (hm : MemoOk P M) : ∀ n, aaA P (a1W P M n)
 | 0 => fun _ h => by cases h
 | n + 1 => fun hk h => a7C (a6F hm (Wf hm n)) (Wf hm n) hk h
theorem alt {P : Program} {M : VE} (hm : MemoOk P M) {n : Nat} {f : FuncId} {args : List Value} {p : PH} {K : KX} (h : a1B P M (a1W P M n) f args p K = true) : ACalls P f args p.heap (up K) := xU hm (Wf hm n) h
open Go.RowKit
def vn : Nat → Value → Bool
 | 0, _ => false
 | _ + 1, .bool _ => true
 | _ + 1, .int _ _ => true
 | _ + 1, .string _ => true
 | n + 1, .agg xs => xs.toList.all (vn n)
 | n + 1, .tuple xs => xs.toList.all (vn n)
 | _, _ => false
theorem WW {β : Place} : ∀ {n : Nat} {v mv : Value}, vn n v = true → VRel β v mv → mv = v ∧ ∀ β', VRel β' v mv
 | 0, v, mv, h, _ => by cases h
 | n + 1, .bool _, mv, _, k => by cases k; exact ⟨rfl, fun _ => .bool _⟩
 | n + 1, .int _ _, mv, _, k => by cases k; exact ⟨rfl, fun _ => .int _ _⟩
 | n + 1, .string _, mv, _, k => by cases k; exact ⟨rfl, fun _ => .string _⟩
 | n + 1, .agg xs, mv, h, k => by
  obtain ⟨ys, rfl, k2⟩ := VRel.agg_iff.1 k
  have key : ∀ {l m : List Value}, l.all (vn n) = true → VRels β l m → m = l ∧ ∀ β', VRels β' l m := by
   intro l m hl hk
   induction hk with
   | nil => exact ⟨rfl, fun _ => .nil⟩
   | cons h1 _ ih =>
    simp only [List.all_cons, Bool.and_eq_true] at hl
    obtain ⟨e1, r1⟩ := WW hl.1 h1
    obtain ⟨e2, r2⟩ := ih hl.2
    exact ⟨by rw [e1, e2], fun β' => .cons (r1 β') (r2 β')⟩
  obtain ⟨e, r⟩ := key h k2
  exact ⟨by rw [Array.ext' e], fun β' => VRel.agg_iff.2 ⟨ys, rfl, r β'⟩⟩
 | n + 1, .tuple xs, mv, h, k => by
  obtain ⟨ys, rfl, k2⟩ := VRel.tuple_iff.1 k
  have key : ∀ {l m : List Value}, l.all (vn n) = true → VRels β l m → m = l ∧ ∀ β', VRels β' l m := by
   intro l m hl hk
   induction hk with
   | nil => exact ⟨rfl, fun _ => .nil⟩
   | cons h1 _ ih =>
    simp only [List.all_cons, Bool.and_eq_true] at hl
    obtain ⟨e1, r1⟩ := WW hl.1 h1
    obtain ⟨e2, r2⟩ := ih hl.2
    exact ⟨by rw [e1, e2], fun β' => .cons (r1 β') (r2 β')⟩
  obtain ⟨e, r⟩ := key h k2
  exact ⟨by rw [Array.ext' e], fun β' => VRel.tuple_iff.2 ⟨ys, rfl, r β'⟩⟩
 | n + 1, .pointer _, _, h, _ => by cases h
 | n + 1, .slice _ _ _, _, h, _ => by cases h
 | n + 1, .map _, _, h, _ => by cases h
 | n + 1, .chan _, _, h, _ => by cases h
 | n + 1, .func _ _ _, _, h, _ => by cases h
 | n + 1, .nilFunc, _, h, _ => by cases h
 | n + 1, .iface _ _, _, h, _ => by cases h
 | n + 1, .nilIface, _, h, _ => by cases h
theorem a9S {P : Program} {f : FuncId} {l0 l : List Value} {h0 h : Heap} {r : Value} {d : Nat} (hf : vn d r = true) (c : ACalls P f l0 h0 (fun v _ => v = r)) (hro : RO h0)
  (hsub : ∀ β w ms, VRels β l ms → Rel P β h w → ∃ β0, VRels β0 l0 ms ∧ Rel P β0 h0 w) : ACalls P f l h (fun v h' => v = r ∧ h' = h) := by
 refine ⟨c.1, fun β w ms hv hr => ?_⟩
 obtain ⟨β0, hv0, hr0⟩ := hsub β w ms hv hr
 refine (c.2 β0 w ms hv0 hr0).mono ?_
 rintro e w' ⟨mv, rfl, v, h', β', hvr, hr', st, rfl⟩
 have hfr : ∀ m, m < w.heap.size → w'.heap[m]? = w.heap[m]? := fun m hm => st.frame m hm (by
  rintro ⟨b, s, o, _, hg, hrw⟩
  rw [hro b o hg] at hrw
  cases hrw)
 obtain ⟨rfl, hany⟩ := WW hf hvr
 refine ⟨_, rfl, _, h, β, hany β, ⟨fun b m s e => ⟨(hr.dom b m s e).1, Nat.lt_of_lt_of_le (hr.dom b m s e).2 st.size⟩, fun b m s o e g => ?_, hr.inj⟩, ?_, rfl, rfl⟩
 ·exact ORel.mono (fun _ _ e => e) (hfr m (hr.dom b m s e).2) (hr.obj b m s o e g)
 ·exact ⟨fun _ _ e => e, fun _ _ e => ⟨e, rfl⟩, Nat.le_refl _, fun b o' _ g => ⟨o', g, id⟩, fun b m s e e' => (by rw [e] at e'; cases e'), st.os, st.tape, st.output, st.size, fun m hm _ => hfr m hm, st.loops⟩
def p0 (n : Nat) : PH := ⟨n, .nil⟩
theorem aa0 (n b : Nat) : (p0 n).heap.get b = none := by
 show (p0 n).get b = none
 unfold PH.get p0
 simp [Tr.get]
theorem amb (n : Nat) : RO (p0 n).heap := fun b o h => by rw [aa0] at h; cases h
theorem akL {P : Program} {β β0 : Place} {h : Heap} {w : World} {n : Nat} (hr : Rel P β h w) (h1 : ∀ c m s, β0 c = some (m, s) → c < n ∧ ∃ b, β b = some (m, s)) : Rel P β0 (p0 n).heap w :=
 ⟨fun c m s e => let ⟨hc, b, hb⟩ := h1 c m s e; ⟨hc, (hr.dom b m s hb).2⟩, fun b m s o _ g => (by rw [aa0] at g; cases g), fun b b' m s s' o o' _ _ g => (by rw [aa0] at g; cases g)⟩
theorem aiE {P : Program} {M : VE} (hm : MemoOk P M) {n : Nat} {f : FuncId} {args : List Value} {r : Value} (hr : vn 5 r = true) (ha : args.all (vn 5) = true)
  (h : a1B P M (a1W P M n) f args (p0 0) (fun v _ => kY r v) = true) : a63 P ⟨f, args, none, r⟩ := by
 intro h1
 refine a9S hr ((alt hm h).mono fun _ _ ⟨_, _, q⟩ => (kW _ _ q).symm) (amb 0) fun β w ms hv hrel => ⟨fun _ => none, ?_, akL hrel fun c m s e => (by cases e)⟩
 have key : ∀ {l m : List Value}, l.all (vn 5) = true → VRels β l m → VRels (fun _ => none) l m := by
  intro l m hl hk
  induction hk with
  | nil => exact .nil
  | cons h1 _ ih =>
   simp only [List.all_cons, Bool.and_eq_true] at hl
   exact .cons ((WW hl.1 h1).2 _) (ih hl.2)
 exact key ha hv
open Go.RowKit
theorem agj {P : Program} {f : FuncId} (hE : a63 P ⟨f, [], none, .bool true⟩) : qA P ⟨f, .nil, [], [(.bool, [])], fun _ => some true⟩ := by
 intro p x hx W0 γ h vs hc H hr
 cases hx
 have hvs : vs = [] := by
  cases p
  cases hr
  rfl
 subst hvs
 refine (hE h).mono ?_
 rintro v h' ⟨rfl, rfl⟩
 refine ⟨γ, enc (.v (.bool true)), [], ⟨.v (.bool true), rfl, rfl, rfl⟩, H, ?_⟩
 show PR P _ h' (.v (.bool true)) (.bool true)
 exact .v rfl
set_option maxHeartbeats 0
open Go.Proofs
def kC (x5 : ((List y6) × (Int × Int))) (x6 : Y7_) (x7 : Y6_) (x8 : (List Y0_)) (x9 : (List Int)) : Option ((((List y6) × (Int × Int)) × yh) ⊕ yh) :=
 bif decide (x5.2.2 < x5.2.1) then
 bif decide (0 ≤ x5.2.2) then
 (x5.1[x5.2.2.toNat]?).bind fun x10 =>
 bif x10.1 == 1 then
 kk x8 (kk x9 ((Zm x10.2.1 x6 x7 x8 x9).bind fun x11 =>
 kk x11.2.2.1 (kk x11.2.2.2 (some (Sum.inl ((x5.1, (x5.2.1, (IntKind.i64.wrap (x5.2.2 + (1 : Int))))), x11))))))
 else bif x10.1 == 2 then
 kk x8 (kk x9 ((K1 x10.2.1 x6 x7 x8 x9).bind fun x11 =>
 kk x11.2.2.1 (kk x11.2.2.2 (some (Sum.inl ((x5.1, (x5.2.1, (IntKind.i64.wrap (x5.2.2 + (1 : Int))))), x11))))))
 else bif x10.1 == 3 then
 bif decide (x10.2.1 = (65 : Int)) then
 kk x8 (kk x9 ((ur x10 x6 x7 x8 x9).bind fun x11 =>
 kk x11.2.2.1 (kk x11.2.2.2 (some (Sum.inl ((x5.1, (x5.2.1, (IntKind.i64.wrap (x5.2.2 + (1 : Int))))), x11))))))
 else bif decide (x10.2.1 = (66 : Int)) then
 kk x8 (kk x9 ((Wq x10 x6 x7 x8 x9).bind fun x11 =>
 kk x11.2.2.1 (kk x11.2.2.2 (some (Sum.inl ((x5.1, (x5.2.1, (IntKind.i64.wrap (x5.2.2 + (1 : Int))))), x11))))))
 else bif decide (x10.2.1 = (67 : Int)) then
 kk x8 (kk x9 ((W4 x10 x6 x7 x8 x9).bind fun x11 =>
 kk x11.2.2.1 (kk x11.2.2.2 (some (Sum.inl ((x5.1, (x5.2.1, (IntKind.i64.wrap (x5.2.2 + (1 : Int))))), x11))))))
 else bif decide (x10.2.1 = (68 : Int)) then
 kk x8 (kk x9 ((YI x10 x6 x7 x8 x9).bind fun x11 =>
 kk x11.2.2.1 (kk x11.2.2.2 (some (Sum.inl ((x5.1, (x5.2.1, (IntKind.i64.wrap (x5.2.2 + (1 : Int))))), x11))))))
 else bif decide (x10.2.1 = (72 : Int)) then
 kk x8 (kk x9 ((W6 x10 x6 x7 x8 x9).bind fun x11 =>
 kk x11.2.2.1 (kk x11.2.2.2 (some (Sum.inl ((x5.1, (x5.2.1, (IntKind.i64.wrap (x5.2.2 + (1 : Int))))), x11))))))
 else bif decide (x10.2.1 = (74 : Int)) then
 kk x8 (kk x9 ((WJ x10 x6 x7 x8 x9).bind fun x11 =>
 kk x11.2.2.1 (kk x11.2.2.2 (some (Sum.inl ((x5.1, (x5.2.1, (IntKind.i64.wrap (x5.2.2 + (1 : Int))))), x11))))))
 else bif decide (x10.2.1 = (75 : Int)) then
 kk x8 (kk x9 ((Kr x10 x6 x7 x8 x9).bind fun x11 =>
 kk x11.2.2.1 (kk x11.2.2.2 (some (Sum.inl ((x5.1, (x5.2.1, (IntKind.i64.wrap (x5.2.2 + (1 : Int))))), x11))))))
 else bif decide (x10.2.1 = (109 : Int)) then
 kk x8 (kk x9 ((KG x10 x6 x7 x8 x9).bind fun x11 =>
 kk x11.2.2.1 (kk x11.2.2.2 (some (Sum.inl ((x5.1, (x5.2.1, (IntKind.i64.wrap (x5.2.2 + (1 : Int))))), x11))))))
 else kk x8 (kk x9 (some (Sum.inl ((x5.1, (x5.2.1, (IntKind.i64.wrap (x5.2.2 + (1 : Int))))), (x6, (x7, (x8, x9)))))))
 else kk x8 (kk x9 (some (Sum.inl ((x5.1, (x5.2.1, (IntKind.i64.wrap (x5.2.2 + (1 : Int))))), (x6, (x7, (x8, x9)))))))
 else none
 else kk x8 (kk x9 (some (Sum.inr (x6, (x7, (x8, x9))))))
def xP : (((List y6) × (Int × Int)) × yh) → Option yh := zq fun s => kC s.1 s.2.1 s.2.2.1 s.2.2.2.1 s.2.2.2.2
def vQ (x0 : (List y6)) (x1 : Y7_) (x2 : Y6_) (x3 : (List Y0_)) (x4 : (List Int)) : Option yh :=
 kk x3 (kk x4 ((xP ((x0, (((↑(List.length x0) : Int)), ((0 : Int)))), (x1, (x2, (x3, x4))))).bind fun x5 =>
 some x5))
def afx : TEnt := ⟨30, .cons (.ptr 0 0) (.sl aji), Y1_, [(.tup .nil, Y1_)], fun s => vQ s.1 s.2.1 s.2.2.1 s.2.2.2.1 s.2.2.2.2⟩
theorem a6b : qA Tryz.prog afx := zH (loops := [(37450, [0, 4, 12, 13, 14], (.cons (.ptr 0 0) (.cons (.mp 4) (.cons (.sl aji) yk))), [.st (.cons (.ptr 1 0) agi), .st ajd, .li (.sl Y3_) 104 false, .li (.int .i64) 3 false, .mp [(.int .i32 (65), 119), (.int .i32 (66), 120), (.int .i32 (67), 121), (.int .i32 (68), 122), (.int .i32 (72), 123), (.int .i32 (74), 124), (.int .i32 (75), 125), (.int .i32 (109), 126)]])]) (joins := []) (un := []) _ (tc Uw (tc xm (tc a7i (tc UB (tc XN (tc a15 (tc U0 (tc Vd (tc a48 (tc a0i tn)))))))))) (fun s => by kernel_rfl) (by kernel_rfl)
def WR (x0 : Int) (x1 : Int) : Option Y5_ :=
 (Wy x0 x1).bind fun x2 =>
 kk x2.2 (some (x2.2, (x2.1.1, (x2.1.2, (((0 : Int)), ([], ([], (((0 : Int)), (((0 : Int)), (((0 : Int)), false))))))))))
def acu : TEnt := ⟨29, .cons (.int .i64) (.int .i64), [], [(.agg Y4_, [])], fun s => WR s.1 s.2⟩
theorem a4c : qA Tryz.prog acu := eo0 _ (tc a3h tn) (fun s => by kernel_rfl) (by kernel_rfl)
def yZ (x0 : (List Y0_)) (x1 : Int) (x2 : Int) (x3 : Int) (x4 : (List Int)) (x5 : (List Int)) (x6 : Int) (x7 : Int) (x8 : Int) (x9 : Bool) : Option Y6_ :=
 some (((0 : Int)), (((0 : Int)), x8))
def a7M : TEnt := ⟨130, .agg Y4_, [], [(.agg Y8_, [])], fun s => yZ s.1 s.2.1 s.2.2.1 s.2.2.2.1 s.2.2.2.2.1 s.2.2.2.2.2.1 s.2.2.2.2.2.2.1 s.2.2.2.2.2.2.2.1 s.2.2.2.2.2.2.2.2.1 s.2.2.2.2.2.2.2.2.2⟩
theorem Wd : qA Tryz.prog a7M := eo0 _ tn (fun s => by kernel_rfl) (by kernel_rfl)
def yE (x0 : (List Y0_)) (x1 : Int) (x2 : Int) (x3 : Int) (x4 : (List Int)) (x5 : (List Int)) (x6 : Int) (x7 : Int) (x8 : Int) (x9 : Bool) : Option Y5_ :=
 bif x1 == IntKind.i64.wrap ((↑(List.length x0) : Int) - (1 : Int)) then
 (yZ x0 x1 x2 x3 x4 x5 x6 x7 x8 x9).bind fun x10 =>
 (Qr (x0, x1, x2) (1 : Int) x10.1 x10.2.1 x10.2.2).bind fun x11 =>
 some (x11.1, (x11.2.1, (x11.2.2, (x3, (x4, (x5, (x6, (x7, (x8, x9)))))))))
 else some (x0, ((IntKind.i64.wrap (x1 + (1 : Int))), (x2, (x3, (x4, (x5, (x6, (x7, (x8, x9)))))))))
def a9B : TEnt := ⟨74, .agg Y4_, [], [(.agg Y4_, [])], fun s => yE s.1 s.2.1 s.2.2.1 s.2.2.2.1 s.2.2.2.2.1 s.2.2.2.2.2.1 s.2.2.2.2.2.2.1 s.2.2.2.2.2.2.2.1 s.2.2.2.2.2.2.2.2.1 s.2.2.2.2.2.2.2.2.2⟩
theorem Ym : qA Tryz.prog a9B := eo0 _ (tc Xj (tc Wd tn)) (fun s => by kernel_rfl) (by kernel_rfl)
def Zv (x0 : Y5_) (x1 : Int) : Option Y5_ :=
 (ko x0.1 x0.2.1 x0.2.2.1).bind fun x2 =>
 (w4 x1).bind fun x3 =>
 bif x3 == 0 then
 bif x0.2.2.2.2.2.2.2.2.2 then
 (Z8 (x0.1, x0.2.1, x0.2.2.1) x0.2.1 x0.2.2.1 x1).bind fun x4 =>
 some (x4.1.1, (x4.1.2.1, (x4.1.2.2, x0.2.2.2)))
 else (Z8 (x0.1, x0.2.1, x0.2.2.1) x0.2.1 (IntKind.i64.wrap (x0.2.2.1 - (1 : Int))) x1).bind fun x4 =>
 some (x4.1.1, (x4.1.2.1, (x4.1.2.2, x0.2.2.2)))
 else Option.bind (
 bif decide (x3 < 1) then
 some (Sum.inl ((x1, (x2, (x3, true))), (x0, (((0 : Int)), (((0 : Int)), (((0 : Int)), (((0 : Int)), (((0 : Int)), (((0 : Int)), false)))))))))
 else some (Sum.inl ((x1, (x2, (x3, (decide (x2 < x3))))), (x0, (((0 : Int)), (((0 : Int)), (((0 : Int)), (((0 : Int)), (((0 : Int)), (((0 : Int)), false)))))))))) fun (x4 : (((Int × (Int × (Int × Bool))) × (Y5_ × (Int × (Int × a1f)))) ⊕ Y5_)) =>
 match x4 with
     | Sum.inl x5 =>
      bif x5.1.2.2.2 then
      some x5.2.1
      else bif x5.2.1.2.2.2.2.2.2.2.2.2 then
      (yE x5.2.1.1 x5.2.1.2.1 (0 : Int) x5.2.1.2.2.2.1 x5.2.1.2.2.2.2.1 x5.2.1.2.2.2.2.2.1 x5.2.1.2.2.2.2.2.2.1 x5.2.1.2.2.2.2.2.2.2.1 x5.2.1.2.2.2.2.2.2.2.2.1 x5.2.1.2.2.2.2.2.2.2.2.2).bind fun x6 =>
      (QX x5.1.1 x6.2.2.2.2.2.2.1 x6.2.2.2.2.2.2.2.1 x6.2.2.2.2.2.2.2.2.1).bind fun x7 =>
      (yP (x6.1, x6.2.1, x6.2.2.1) x6.2.1 x6.2.2.1 x7.1.1 x7.1.2.1 x7.1.2.2.1 x7.1.2.2.2.1 x7.1.2.2.2.2.1 x7.1.2.2.2.2.2.1 x7.1.2.2.2.2.2.2).bind fun x8 =>
      bif decide (x5.1.2.1 ≤ IntKind.i64.wrap (x8.1.2.2 + x5.1.2.2.1)) then
      some (x8.1.1, (x8.1.2.1, ((IntKind.i64.wrap (x5.1.2.1 - (1 : Int))), (x6.2.2.2.1, (x6.2.2.2.2.1, (x6.2.2.2.2.2.1, (x6.2.2.2.2.2.2.1, (x6.2.2.2.2.2.2.2.1, (x6.2.2.2.2.2.2.2.2.1, true)))))))))
      else some (x8.1.1, (x8.1.2.1, ((IntKind.i64.wrap (x8.1.2.2 + x5.1.2.2.1)), (x6.2.2.2.1, (x6.2.2.2.2.1, (x6.2.2.2.2.2.1, (x6.2.2.2.2.2.2.1, (x6.2.2.2.2.2.2.2.1, (x6.2.2.2.2.2.2.2.2.1, false)))))))))
      else bif decide (IntKind.i64.wrap (x5.1.2.1 - x5.2.1.2.2.1) < x5.1.2.2.1) then
      (yE x5.2.1.1 x5.2.1.2.1 (0 : Int) x5.2.1.2.2.2.1 x5.2.1.2.2.2.2.1 x5.2.1.2.2.2.2.2.1 x5.2.1.2.2.2.2.2.2.1 x5.2.1.2.2.2.2.2.2.2.1 x5.2.1.2.2.2.2.2.2.2.2.1 x5.2.1.2.2.2.2.2.2.2.2.2).bind fun x6 =>
      (QX x5.1.1 x6.2.2.2.2.2.2.1 x6.2.2.2.2.2.2.2.1 x6.2.2.2.2.2.2.2.2.1).bind fun x7 =>
      (yP (x6.1, x6.2.1, x6.2.2.1) x6.2.1 x6.2.2.1 x7.1.1 x7.1.2.1 x7.1.2.2.1 x7.1.2.2.2.1 x7.1.2.2.2.2.1 x7.1.2.2.2.2.2.1 x7.1.2.2.2.2.2.2).bind fun x8 =>
      bif decide (x5.1.2.1 ≤ IntKind.i64.wrap (x8.1.2.2 + x5.1.2.2.1)) then
      some (x8.1.1, (x8.1.2.1, ((IntKind.i64.wrap (x5.1.2.1 - (1 : Int))), (x6.2.2.2.1, (x6.2.2.2.2.1, (x6.2.2.2.2.2.1, (x6.2.2.2.2.2.2.1, (x6.2.2.2.2.2.2.2.1, (x6.2.2.2.2.2.2.2.2.1, true)))))))))
      else some (x8.1.1, (x8.1.2.1, ((IntKind.i64.wrap (x8.1.2.2 + x5.1.2.2.1)), (x6.2.2.2.1, (x6.2.2.2.2.1, (x6.2.2.2.2.2.1, (x6.2.2.2.2.2.2.1, (x6.2.2.2.2.2.2.2.1, (x6.2.2.2.2.2.2.2.2.1, false)))))))))
      else (QX x5.1.1 x5.2.1.2.2.2.2.2.2.1 x5.2.1.2.2.2.2.2.2.2.1 x5.2.1.2.2.2.2.2.2.2.2.1).bind fun x6 =>
      (yP (x5.2.1.1, x5.2.1.2.1, x5.2.1.2.2.1) x5.2.1.2.1 x5.2.1.2.2.1 x6.1.1 x6.1.2.1 x6.1.2.2.1 x6.1.2.2.2.1 x6.1.2.2.2.2.1 x6.1.2.2.2.2.2.1 x6.1.2.2.2.2.2.2).bind fun x7 =>
      bif decide (x5.1.2.1 ≤ IntKind.i64.wrap (x7.1.2.2 + x5.1.2.2.1)) then
      some (x7.1.1, (x7.1.2.1, ((IntKind.i64.wrap (x5.1.2.1 - (1 : Int))), (x5.2.1.2.2.2.1, (x5.2.1.2.2.2.2.1, (x5.2.1.2.2.2.2.2.1, (x5.2.1.2.2.2.2.2.2.1, (x5.2.1.2.2.2.2.2.2.2.1, (x5.2.1.2.2.2.2.2.2.2.2.1, true)))))))))
      else some (x7.1.1, (x7.1.2.1, ((IntKind.i64.wrap (x7.1.2.2 + x5.1.2.2.1)), (x5.2.1.2.2.2.1, (x5.2.1.2.2.2.2.1, (x5.2.1.2.2.2.2.2.1, (x5.2.1.2.2.2.2.2.2.1, (x5.2.1.2.2.2.2.2.2.2.1, (x5.2.1.2.2.2.2.2.2.2.2.1, false)))))))))
     | Sum.inr x5 =>
      some x5
def a81 : TEnt := ⟨72, .cons (.agg Y4_) (.int .i64), [], [(.agg Y4_, [])], fun s => Zv s.1 s.2⟩
theorem U2 : qA Tryz.prog a81 := zH (loops := []) (joins := [(37449, [1, 2, 4, 5, 6, 45], (.cons (.int .i64) (.cons (.ptr 0 0) (.cons (.ptr 1 0) (.cons (.int .i64) (.cons (.int .i64) .bool))))), [.st Y4_, .st alh])]) (un := []) _ (tc ZJ (tc a68 (tc wt (tc a4G (tc a17 (tc Ym tn)))))) (fun s => by kernel_rfl) (by kernel_rfl)
def j9 (x0 : Y5_) (x1 : Int) (x2 : Int) : Option Y5_ :=
 (KR (x0.1, x0.2.1, x0.2.2.1) x1 x2).bind fun x3 =>
 some (x3.1, (x3.2.1, (x3.2.2, (x0.2.2.2.1, (x0.2.2.2.2.1, (x0.2.2.2.2.2.1, (x0.2.2.2.2.2.2.1, (x0.2.2.2.2.2.2.2.1, (x0.2.2.2.2.2.2.2.2.1, false)))))))))
def aa9 : TEnt := ⟨73, .cons (.agg Y4_) yk, [], [(.agg Y4_, [])], fun s => j9 s.1 s.2.1 s.2.2⟩
theorem a14 : qA Tryz.prog aa9 := eo0 _ (tc a0g tn) (fun s => by kernel_rfl) (by kernel_rfl)
def k9 (x0 : Y5_) (x1 : Int) (x2 : Int) (x3 : Int) : Option Y5_ :=
 (yZ x0.1 x0.2.1 x0.2.2.1 x0.2.2.2.1 x0.2.2.2.2.1 x0.2.2.2.2.2.1 x0.2.2.2.2.2.2.1 x0.2.2.2.2.2.2.2.1 x0.2.2.2.2.2.2.2.2.1 x0.2.2.2.2.2.2.2.2.2).bind fun x4 =>
 (Zl (x0.1, x0.2.1, x0.2.2.1) x1 x2 x3 x4.1 x4.2.1 x4.2.2).bind fun x5 =>
 some (x5.1, (x5.2.1, (x5.2.2, x0.2.2.2)))
def a58 : TEnt := ⟨75, .cons (.agg Y4_) (.cons (.int .i64) yk), [], [(.agg Y4_, [])], fun s => k9 s.1 s.2.1 s.2.2.1 s.2.2.2⟩
theorem a0c : qA Tryz.prog a58 := eo0 _ (tc XQ (tc Wd tn)) (fun s => by kernel_rfl) (by kernel_rfl)
def zn (x26 : Y6_) (x27 : Y5_) (x28 : y6) (x29 : Int) (x30 : Int) (x31 : Int) (x32 : Int) (x33 : Int) (x34 : Int) (x35 : Bool) : Option ((Y6_ × a04) ⊕ Y5_) :=
 bif decide (x26.2.2 < (↑x27.1.length : Int)) then
 bif x28.2.1 == 74 then
 bif x26.2.1 == 2 then
 (k9 x27 x26.2.2 (0 : Int) x26.1).bind fun x36 =>
 some (Sum.inl ((x26.1, (x26.2.1, (IntKind.i64.wrap (x26.2.2 + (1 : Int))))), (x36, (x28, (x29, (x30, (x31, (x32, (x33, (x34, x35))))))))))
 else bif x26.2.1 == 0 then
 bif decide (x27.2.1 < x26.2.2) then
 (k9 x27 x26.2.2 (0 : Int) x26.1).bind fun x36 =>
 some (Sum.inl ((x26.1, (x26.2.1, (IntKind.i64.wrap (x26.2.2 + (1 : Int))))), (x36, (x28, (x29, (x30, (x31, (x32, (x33, (x34, x35))))))))))
 else bif x26.2.1 == 1 then
 bif decide (x26.2.2 < x27.2.1) then
 (k9 x27 x26.2.2 (0 : Int) x26.1).bind fun x36 =>
 some (Sum.inl ((x26.1, (x26.2.1, (IntKind.i64.wrap (x26.2.2 + (1 : Int))))), (x36, (x28, (x29, (x30, (x31, (x32, (x33, (x34, x35))))))))))
 else some (Sum.inl ((x26.1, (x26.2.1, (IntKind.i64.wrap (x26.2.2 + (1 : Int))))), (x27, (x28, (x29, (x30, (x31, (x32, (x33, (x34, x35))))))))))
 else some (Sum.inl ((x26.1, (x26.2.1, (IntKind.i64.wrap (x26.2.2 + (1 : Int))))), (x27, (x28, (x29, (x30, (x31, (x32, (x33, (x34, x35))))))))))
 else bif x26.2.1 == 1 then
 bif decide (x26.2.2 < x27.2.1) then
 (k9 x27 x26.2.2 (0 : Int) x26.1).bind fun x36 =>
 some (Sum.inl ((x26.1, (x26.2.1, (IntKind.i64.wrap (x26.2.2 + (1 : Int))))), (x36, (x28, (x29, (x30, (x31, (x32, (x33, (x34, x35))))))))))
 else some (Sum.inl ((x26.1, (x26.2.1, (IntKind.i64.wrap (x26.2.2 + (1 : Int))))), (x27, (x28, (x29, (x30, (x31, (x32, (x33, (x34, x35))))))))))
 else some (Sum.inl ((x26.1, (x26.2.1, (IntKind.i64.wrap (x26.2.2 + (1 : Int))))), (x27, (x28, (x29, (x30, (x31, (x32, (x33, (x34, x35))))))))))
 else some (Sum.inl ((x26.1, (x26.2.1, (IntKind.i64.wrap (x26.2.2 + (1 : Int))))), (x27, (x28, (x29, (x30, (x31, (x32, (x33, (x34, x35))))))))))
 else Option.bind (
 bif x26.2.1 == 0 then
 (k9 x27 x27.2.1 x27.2.2.1 x26.1).bind fun x36 =>
 some (Sum.inl ((x26.1, x26.2.1), (x36, (x29, (x30, (x31, (x32, (x33, (x34, x35)))))))))
 else some (Sum.inl ((x26.1, x26.2.1), (x27, (x29, (x30, (x31, (x32, (x33, (x34, x35)))))))))) fun (x36 : (((Int × Int) × (Y5_ × (Int × (Int × a1f)))) ⊕ Y5_)) =>
 match x36 with
   | Sum.inl x37 =>
    bif x37.1.2 == 1 then
    (k9 x37.2.1 x37.2.1.2.1 (0 : Int) (IntKind.i64.wrap (x37.2.1.2.2.1 + (1 : Int)))).bind fun x38 =>
    bif x37.1.2 == 2 then
    (k9 x38 x38.2.1 (0 : Int) x37.1.1).bind fun x39 =>
    some (Sum.inr x39)
    else some (Sum.inr x38)
    else bif x37.1.2 == 2 then
    (k9 x37.2.1 x37.2.1.2.1 (0 : Int) x37.1.1).bind fun x38 =>
    some (Sum.inr x38)
    else some (Sum.inr x37.2.1)
   | Sum.inr x37 =>
    some (Sum.inr x37)
def Jx : (Y6_ × a04) → Option Y5_ := zq fun s => zn s.1 s.2.1 s.2.2.1 s.2.2.2.1 s.2.2.2.2.1 s.2.2.2.2.2.1 s.2.2.2.2.2.2.1 s.2.2.2.2.2.2.2.1 s.2.2.2.2.2.2.2.2.1 s.2.2.2.2.2.2.2.2.2
def kD (x26 : Int) (x27 : Y5_) (x28 : y6) (x29 : (Int × (Int × a1f))) (x30 : (List Int)) : Option ((Int × (Y5_ × (y6 × ((Int × (Int × a1f)) × (List Int))))) ⊕ Y5_) :=
 bif decide (x26 < (↑x28.2.2.length : Int)) then
 (jz x28 x26 (0 : Int)).bind fun x31 =>
 bif decide ((1 : Nat) = (1 : Nat)) then
 bif decide (x30.length = x30.length ∧ x30.length + (1 : Nat) ≤ (17592186044416 : Nat)) then
 bif decide (x30.length + (1 : Nat) = (x30 ++ [x31]).length) then
 some (Sum.inl ((IntKind.i64.wrap (x26 + (1 : Int))), (x27, (x28, (x29, (x30 ++ [x31]))))))
 else none
 else none
 else none
 else kk x30 ((J0 (x27.2.2.2.2.2.2.1, x27.2.2.2.2.2.2.2.1, x27.2.2.2.2.2.2.2.2.1) x30).bind fun x31 =>
 some (Sum.inr (x27.1, (x27.2.1, (x27.2.2.1, (x27.2.2.2.1, (x27.2.2.2.2.1, (x27.2.2.2.2.2.1, (x31.1, (x31.2.1, (x31.2.2, x27.2.2.2.2.2.2.2.2.2)))))))))))
def xz : (Int × (Y5_ × (y6 × ((Int × (Int × a1f)) × (List Int))))) → Option Y5_ := zq fun s => kD s.1 s.2.1 s.2.2.1 s.2.2.2.1 s.2.2.2.2
def JY (x0 : Y5_) (x1 : Int) (x2 : Int) (x3 : (List Int)) : Option Y5_ :=
 (ko x0.1 x0.2.1 x0.2.2.1).bind fun x4 =>
 (jz (x1, x2, x3) (0 : Int) (1 : Int)).bind fun x5 =>
 (jz (x1, x2, x3) (1 : Int) (1 : Int)).bind fun x6 =>
 (jz (x1, x2, x3) (0 : Int) (0 : Int)).bind fun x7 =>
 Option.bind (
 bif decide (x5 < 1) then
 some (Sum.inl ((x4, (((1 : Int)), (x6, x7))), (x0, ((x1, (x2, x3)), (((0 : Int)), (((0 : Int)), (((0 : Int)), (((0 : Int)), (((0 : Int)), (((0 : Int)), false))))))))))
 else some (Sum.inl ((x4, (x5, (x6, x7))), (x0, ((x1, (x2, x3)), (((0 : Int)), (((0 : Int)), (((0 : Int)), (((0 : Int)), (((0 : Int)), (((0 : Int)), false))))))))))) fun (x8 : (((Int × Y6_) × a04) ⊕ Y5_)) =>
 match x8 with
      | Sum.inl x9 =>
       Option.bind (
       bif decide (1000 < x9.1.2.1) then
       some (Sum.inl ((x9.1.1, (((1000 : Int)), x9.1.2.2)), x9.2))
       else some (Sum.inl x9)) fun (x10 : (((Int × Y6_) × a04) ⊕ Y5_)) =>
       match x10 with
         | Sum.inl x11 =>
          Option.bind (
          bif decide (x11.1.2.2.1 < 1) then
          some (Sum.inl ((x11.1.1, (x11.1.2.1, (((1 : Int)), x11.1.2.2.2))), x11.2))
          else some (Sum.inl x11)) fun (x12 : (((Int × Y6_) × a04) ⊕ Y5_)) =>
          match x12 with
            | Sum.inl x13 =>
             Option.bind (
             bif decide (1000 < x13.1.2.2.1) then
             some (Sum.inl ((x13.1.1, (x13.1.2.1, (((1000 : Int)), x13.1.2.2.2))), x13.2))
             else some (Sum.inl x13)) fun (x14 : (((Int × Y6_) × a04) ⊕ Y5_)) =>
             match x14 with
               | Sum.inl x15 =>
                bif x15.2.2.1.1 == 1 then
                (Zv x15.2.1 x15.2.2.1.2.1).bind fun x16 =>
                some x16
                else Option.bind (
                bif x15.2.2.1.1 == 2 then
                some (Sum.inl ((x15.1.1, (x15.1.2.1, (x15.1.2.2.1, (x15.1.2.2.2, (x15.2.2.1.2.1 == 13))))), x15.2))
                else some (Sum.inl ((x15.1.1, (x15.1.2.1, (x15.1.2.2.1, (x15.1.2.2.2, false)))), x15.2))) fun (x16 : ((a1f × a04) ⊕ Y5_)) =>
                match x16 with
                   | Sum.inl x17 =>
                    bif x17.1.2.2.2.2 then
                    (j9 x17.2.1 x17.2.1.2.1 (0 : Int)).bind fun x18 =>
                    some x18
                    else Option.bind (
                    bif x17.2.2.1.1 == 2 then
                    some (Sum.inl ((x17.1.1, (x17.1.2.1, (x17.1.2.2.1, (x17.1.2.2.2.1, (x17.2.2.1.2.1 == 10))))), x17.2))
                    else some (Sum.inl ((x17.1.1, (x17.1.2.1, (x17.1.2.2.1, (x17.1.2.2.2.1, false)))), x17.2))) fun (x18 : ((a1f × a04) ⊕ Y5_)) =>
                    match x18 with
                       | Sum.inl x19 =>
                        Option.bind (
                        bif x19.1.2.2.2.2 then
                        (yE x19.2.1.1 x19.2.1.2.1 x19.2.1.2.2.1 x19.2.1.2.2.2.1 x19.2.1.2.2.2.2.1 x19.2.1.2.2.2.2.2.1 x19.2.1.2.2.2.2.2.2.1 x19.2.1.2.2.2.2.2.2.2.1 x19.2.1.2.2.2.2.2.2.2.2.1 x19.2.1.2.2.2.2.2.2.2.2.2).bind fun x20 =>
                        some (Sum.inl ((x19.1.1, (x19.1.2.1, (x19.1.2.2.1, x19.1.2.2.2.1))), ((x20.1, (x20.2.1, (x20.2.2.1, (x20.2.2.2.1, (x20.2.2.2.2.1, (x20.2.2.2.2.2.1, (x20.2.2.2.2.2.2.1, (x20.2.2.2.2.2.2.2.1, (x20.2.2.2.2.2.2.2.2.1, false))))))))), x19.2.2)))
                        else some (Sum.inl ((x19.1.1, (x19.1.2.1, (x19.1.2.2.1, x19.1.2.2.2.1))), x19.2))) fun (x20 : (((Int × Y6_) × a04) ⊕ Y5_)) =>
                        match x20 with
                          | Sum.inl x21 =>
                           Option.bind (
                           bif x21.2.2.1.1 == 2 then
                           some (Sum.inl ((x21.1.1, (x21.1.2.1, (x21.1.2.2.1, (x21.1.2.2.2, (x21.2.2.1.2.1 == 8))))), x21.2))
                           else some (Sum.inl ((x21.1.1, (x21.1.2.1, (x21.1.2.2.1, (x21.1.2.2.2, false)))), x21.2))) fun (x22 : ((a1f × a04) ⊕ Y5_)) =>
                           match x22 with
                             | Sum.inl x23 =>
                              bif x23.1.2.2.2.2 then
                              (j9 x23.2.1 x23.2.1.2.1 (IntKind.i64.wrap (x23.2.1.2.2.1 - (1 : Int)))).bind fun x24 =>
                              some x24
                              else bif x23.2.2.1.1 != 3 then
                              some x23.2.1
                              else bif x23.2.2.1.2.1 == 65 then
                              (j9 x23.2.1 (IntKind.i64.wrap (x23.2.1.2.1 - x23.1.2.1)) x23.2.1.2.2.1).bind fun x24 =>
                              some x24
                              else bif x23.2.2.1.2.1 == 66 then
                              (j9 x23.2.1 (IntKind.i64.wrap (x23.2.1.2.1 + x23.1.2.1)) x23.2.1.2.2.1).bind fun x24 =>
                              some x24
                              else bif x23.2.2.1.2.1 == 67 then
                              (j9 x23.2.1 x23.2.1.2.1 (IntKind.i64.wrap (x23.2.1.2.2.1 + x23.1.2.1))).bind fun x24 =>
                              some x24
                              else bif x23.2.2.1.2.1 == 68 then
                              (j9 x23.2.1 x23.2.1.2.1 (IntKind.i64.wrap (x23.2.1.2.2.1 - x23.1.2.1))).bind fun x24 =>
                              some x24
                              else bif x23.2.2.1.2.1 == 72 then
                              (j9 x23.2.1 (IntKind.i64.wrap (x23.1.2.1 - (1 : Int))) (IntKind.i64.wrap (x23.1.2.2.1 - (1 : Int)))).bind fun x24 =>
                              some x24
                              else Option.bind (
                              bif x23.2.2.1.2.1 == 74 then
                              some (Sum.inl ((x23.1.1, (x23.1.2.2.2.1, (x23.2.2.1.2.1, true))), x23.2))
                              else some (Sum.inl ((x23.1.1, (x23.1.2.2.2.1, (x23.2.2.1.2.1, (x23.2.2.1.2.1 == 75)))), x23.2))) fun (x24 : (((Int × (Int × (Int × Bool))) × a04) ⊕ Y5_)) =>
                              match x24 with
                                       | Sum.inl x25 =>
                                        bif x25.1.2.2.2 then
                                        (Jx ((x25.1.1, (x25.1.2.1, ((0 : Int)))), x25.2)).bind fun x26 =>
                                        some x26
                                        else bif x25.1.2.2.1 == 109 then
                                        (xz (((0 : Int)), (x25.2.1, (x25.2.2.1, (x25.2.2.2, []))))).bind fun x26 =>
                                        some x26
                                        else some x25.2.1
                                       | Sum.inr x25 =>
                                        some x25
                             | Sum.inr x23 =>
                              some x23
                          | Sum.inr x21 =>
                           some x21
                       | Sum.inr x19 =>
                        some x19
                   | Sum.inr x17 =>
                    some x17
               | Sum.inr x15 =>
                some x15
            | Sum.inr x13 =>
             some x13
         | Sum.inr x11 =>
          some x11
      | Sum.inr x9 =>
       some x9
def aeN : TEnt := ⟨31, .cons (.agg Y4_) (.agg ajX), [], [(.agg Y4_, [])], fun s => JY s.1 s.2.1 s.2.2.1 s.2.2.2⟩
theorem a5Q : qA Tryz.prog aeN := zH (loops := [(12152941675747802266567679406739133514, [2, 3, 4, 10, 11], (.cons (.ptr 0 0) (.cons (.ptr 1 0) (.cons (.ptr 2 0) (.cons (.own 3) (.int .i64))))), [.st Y4_, .st ajX, .st alh, .li (.int .i64) 3 false]), (23736214210444926301889998841287306, [2, 3, 4, 5, 8, 9], (.cons (.ptr 0 0) (.cons (.ptr 1 0) (.cons (.ptr 2 0) (.cons (.int .i64) yk)))), Y9_)]) (joins := [(4681, [2, 3, 4, 5, 6, 7, 8], af5, Y9_), (299593, [2, 3, 4, 5, 6, 7, 8], af5, Y9_), (19173961, [2, 3, 4, 5, 6, 7, 8], af5, Y9_), (1227133513, [2, 3, 4, 5, 6, 7, 8], af5, Y9_), (628292358729, [2, 3, 4, 5, 6, 7, 8, 43], akz, Y9_), (40210710958665, [2, 3, 4, 5, 6, 7, 8, 56], akz, Y9_), (321685687669321, [2, 3, 4, 5, 6, 7, 8], af5, Y9_), (2573485501354569, [2, 3, 4, 5, 6, 7, 8, 67], akz, Y9_), (5794974172471905835422362998361, [2, 3, 4, 5, 8, 82, 139], (.cons (.ptr 0 0) (.cons (.ptr 1 0) (.cons (.ptr 2 0) (.cons (.int .i64) (.cons (.int .i64) (.cons (.int .i64) .bool)))))), Y9_), (189889713683559410415119990730298441, [2, 4, 5, 8], (.cons (.ptr 0 0) (.cons (.ptr 1 0) yk)), [.st Y4_, .st alh])]) (un := []) _ (tc wt (tc Xq (tc a0z (tc Ym (tc U2 (tc a14 (tc a0c tn))))))) (fun s => by kernel_rfl) (by kernel_rfl)
def J6 (x0 : Int) (x1 : (List Int)) (x2 : (List Int)) : Option Bool :=
 bif x0 == 0 then
 some ((↑x2.length : Int) == 0)
 else some false
def a9A : TEnt := ⟨77, .agg (.cons (.int .i64) (.cons (.sl (.int .i64)) (.sl (.int .u8)))), [], [(.bool, [])], fun s => J6 s.1 s.2.1 s.2.2⟩
theorem a0T : qA Tryz.prog a9A := eo0 _ tn (fun s => by kernel_rfl) (by kernel_rfl)
def YB (x0 : Y7_) (x1 : Y6_) (x2 : (List Y0_)) (x3 : (List Int)) : Option ((List Int) × yh) :=
 bif decide ((Option.some x0.2.2.2.1).getD (3 : Int) = (3 : Int)) then
 bif decide ((3 : Nat) ≤ (140737488355328 : Nat)) then
 kk x2 (kk x3 (bif decide ((3 : Nat) = (3 : Nat)) then
 some (([x0.1, x0.2.1, x0.2.2.1]), (x0, (x1, (x2, x3))))
 else none))
 else none
 else bif decide ((Option.some x0.2.2.2.1).getD (3 : Int) = (2 : Int)) then
 bif decide ((2 : Nat) ≤ (140737488355328 : Nat)) then
 kk x2 (kk x3 (bif decide ((2 : Nat) = (2 : Nat)) then
 some (([x0.1, x0.2.1]), (x0, (x1, (x2, x3))))
 else none))
 else none
 else bif decide ((Option.some x0.2.2.2.1).getD (3 : Int) = (1 : Int)) then
 bif decide ((1 : Nat) ≤ (140737488355328 : Nat)) then
 kk x2 (kk x3 (bif decide ((1 : Nat) = (1 : Nat)) then
 some ([x0.1], (x0, (x1, (x2, x3))))
 else none))
 else none
 else bif decide ((Option.some x0.2.2.2.1).getD (3 : Int) = (0 : Int)) then
 kk x2 (kk x3 (some ([], (x0, (x1, (x2, x3))))))
 else none
def a8I : TEnt := ⟨141, .ptr 0 1, Y1_, [(.sl (.int .u8), Y1_)], fun s => YB s.1 s.2.1 s.2.2.1 s.2.2.2⟩
theorem a0D : qA Tryz.prog a8I := eo0 _ tn (fun s => by kernel_rfl) (by kernel_rfl)
def KK (x0 : Y7_) (x1 : Y6_) (x2 : (List Y0_)) (x3 : (List Int)) : Option (Bool × yh) :=
 bif x0.2.2.2.2.1 == 0 then
 kk x2 (kk x3 ((YB x0 x1 x2 x3).bind fun x4 =>
 kk x4.2.2.2.1 (kk x4.2.2.2.2 (some (((↑x4.1.length : Int) == 0), x4.2)))))
 else kk x2 (kk x3 (some (false, (x0, (x1, (x2, x3))))))
def a2Z : TEnt := ⟨79, .ptr 0 1, Y1_, [(.bool, Y1_)], fun s => KK s.1 s.2.1 s.2.2.1 s.2.2.2⟩
theorem Xb : qA Tryz.prog a2Z := eo0 _ (tc a0D tn) (fun s => by kernel_rfl) (by kernel_rfl)
def Yx (x0 : Y7_) (x1 : Y6_) (x2 : (List Y0_)) (x3 : (List Int)) : Option (Y7_ × (Y6_ × ((List Y0_) × ((List Int) × QY)))) :=
 kk x2 ((Zy x1 x2).bind fun x4 =>
 kk x4.2.2.2 (kk x4.2.1 (kk x3 (some (x0, (x4.1, (x4.2.1, (x3, x4.2.2))))))))
def a9k : TEnt := ⟨35, .ptr 0 0, Y1_, [(.ptr 4 0, [.st (.cons (.ptr 1 0) agi), .st ajd, .li (.sl Y3_) 104 false, .li (.int .i64) 3 false, .st (.cons (.int .i64) (.cons (.int .i64) (.cons (.own 5) (.int .i64)))), .li (.sl Y3_) 104 false])], fun s => Yx s.1 s.2.1 s.2.2.1 s.2.2.2⟩
theorem a0L : qA Tryz.prog a9k := eo0 _ (tc uP tn) (fun s => by kernel_rfl) (by kernel_rfl)
def xi (x0 : Y7_) (x1 : Y6_) (x2 : (List Y0_)) (x3 : (List Int)) : Option (Y6_ × yh) :=
 kk x2 (kk x3 (some ((x0.2.2.2.2.2.1, (x0.2.2.2.2.2.2.1, x0.2.2.2.2.2.2.2.1)), (x0, (x1, (x2, x3))))))
def adz : TEnt := ⟨36, .ptr 0 0, Y1_, [((.agg Y8_), Y1_)], fun s => xi s.1 s.2.1 s.2.2.1 s.2.2.2⟩
theorem a4H : qA Tryz.prog adz := eo0 _ tn (fun s => by kernel_rfl) (by kernel_rfl)
def YN (x0 : Y7_) (x1 : Y6_) (x2 : (List Y0_)) (x3 : (List Int)) : Option (Bool × yh) :=
 kk x2 (kk x3 (some (x0.2.2.2.2.2.2.2.2, (x0, (x1, (x2, x3))))))
def aaN : TEnt := ⟨37, .ptr 0 0, Y1_, [(.bool, Y1_)], fun s => YN s.1 s.2.1 s.2.2.1 s.2.2.2⟩
theorem a0u : qA Tryz.prog aaN := eo0 _ tn (fun s => by kernel_rfl) (by kernel_rfl)
def Kx (x0 : Y7_) (x1 : Y6_) (x2 : (List Y0_)) (x3 : (List Int)) : Option (Bool × yh) :=
 kk x2 (kk x3 ((KK x0 x1 x2 x3).bind fun x4 =>
 kk x4.2.2.2.1 (kk x4.2.2.2.2 (some x4))))
def a96 : TEnt := ⟨38, .ptr 0 0, Y1_, [(.bool, Y1_)], fun s => Kx s.1 s.2.1 s.2.2.1 s.2.2.2⟩
theorem a10 : qA Tryz.prog a96 := eo0 _ (tc Xb tn) (fun s => by kernel_rfl) (by kernel_rfl)
def Zu (x0 : Y5_) (x1 : Y7_) (x2 : Y6_) (x3 : (List Y0_)) (x4 : (List Int)) : Option (Bool × yh) :=
 kk x3 (kk x4 ((Yx x1 x2 x3 x4).bind fun x5 =>
 kk x5.2.2.2.2.2 ((QW (x0.1, x0.2.1, x0.2.2.1) x5.2.2.2.2.1 x5.2.2.2.2.2).bind fun x6 =>
 bif x6.1 then
 kk x5.2.2.1 (kk x5.2.2.2.1 ((xi x5.1 x5.2.1 x5.2.2.1 x5.2.2.2.1).bind fun x7 =>
 bif x7.1.1 == x0.2.2.2.2.2.2.1 && (x7.1.2.1 == x0.2.2.2.2.2.2.2.1 && (x7.1.2.2 == x0.2.2.2.2.2.2.2.2.1 && true)) then
 kk x7.2.2.2.1 (kk x7.2.2.2.2 ((YN x7.2.1 x7.2.2.1 x7.2.2.2.1 x7.2.2.2.2).bind fun x8 =>
 bif x8.1 == x0.2.2.2.2.2.2.2.2.2 then
 kk x8.2.2.2.1 (kk x8.2.2.2.2 ((Kx x8.2.1 x8.2.2.1 x8.2.2.2.1 x8.2.2.2.2).bind fun x9 =>
 (J6 x0.2.2.2.1 x0.2.2.2.2.1 x0.2.2.2.2.2.1).bind fun x10 =>
 kk x9.2.2.2.1 (kk x9.2.2.2.2 (some ((x9.1 == x10), x9.2)))))
 else kk x8.2.2.2.1 (kk x8.2.2.2.2 (some (false, x8.2)))))
 else kk x7.2.2.2.1 (kk x7.2.2.2.2 (some (false, x7.2)))))
 else kk x5.2.2.1 (kk x5.2.2.2.1 (some (false, (x5.1, (x5.2.1, (x5.2.2.1, x5.2.2.2.1)))))))))
def a5A : TEnt := ⟨33, .cons (.ptr 0 0) (.agg Y4_), Y1_, [(.bool, Y1_)], fun s => Zu s.1 s.2.1 s.2.2.1 s.2.2.2.1 s.2.2.2.2⟩
theorem UF : qA Tryz.prog a5A := eo0 _ (tc a0Q (tc a0T (tc a0L (tc a4H (tc a0u (tc a10 tn)))))) (fun s => by kernel_rfl) (by kernel_rfl)
theorem a6M : a1B Tryz.prog [] (a1W Tryz.prog [] 10000) 27 [] (p0 0) (fun v _ => kY (.bool true) v) = true := by kernel_rfl
def a7y : TEnt := ⟨27, .nil, [], [(.bool, [])], fun _ => some true⟩
theorem a03 : qA Tryz.prog a7y := agj (aiE (MemoOk.nil _) rfl rfl a6M)
def kS (x8 : ((List y6) × Int)) (x9 : Y7_) (x10 : Y5_) (x11 : Y6_) (x12 : (List Int)) (x13 : (List Y0_)) : Option ((((List y6) × Int) × (Y7_ × (Y5_ × (Y6_ × ((List Int) × (List Y0_)))))) ⊕ Bool) :=
 bif decide (x8.2 < (↑x8.1.length : Int)) then
 bif decide (x8.2 < 40) then
 bif decide (0 ≤ x8.2) then
 (x8.1[x8.2.toNat]?).bind fun x14 =>
 bif decide (((0 : Int) ≤ if 10 < (↑x14.2.2.length : Int) then (10 : Int) else (↑x14.2.2.length : Int)) ∧ (if 10 < (↑x14.2.2.length : Int) then (10 : Int) else (↑x14.2.2.length : Int)).toNat ≤ x14.2.2.length) then
 bif decide ((1 : Nat) = (1 : Nat)) then
 kk x13 (kk x12 ((vQ [(x14.1, x14.2.1, List.take (if 10 < (↑x14.2.2.length : Int) then (10 : Int) else (↑x14.2.2.length : Int)).toNat x14.2.2)] x9 x11 x13 x12).bind fun x15 =>
 (vC x14.1 x14.2.1 (List.take (if 10 < (↑x14.2.2.length : Int) then (10 : Int) else (↑x14.2.2.length : Int)).toNat x14.2.2)).bind fun x16 =>
 (JY x10 x16.1 x16.2.1 x16.2.2).bind fun x17 =>
 kk x15.2.2.1 (kk x15.2.2.2 ((Zu x17 x15.1 x15.2.1 x15.2.2.1 x15.2.2.2).bind fun x18 =>
 bif !x18.1 then
 some (Sum.inr false)
 else kk x18.2.2.2.1 (kk x18.2.2.2.2 (some (Sum.inl ((x8.1, (IntKind.i64.wrap (x8.2 + (1 : Int)))), (x18.2.1, (x17, (x18.2.2.1, (x18.2.2.2.2, x18.2.2.2.1))))))))))))
 else none
 else none
 else none
 else Option.bind (Option.some true) fun (x14 : Bool) =>
 some (Sum.inr x14)
 else Option.bind (Option.some true) fun (x14 : Bool) =>
 some (Sum.inr x14)
def y3 : (((List y6) × Int) × (Y7_ × (Y5_ × (Y6_ × ((List Int) × (List Y0_)))))) → Option Bool := zq fun s => kS s.1 s.2.1 s.2.2.1 s.2.2.2.1 s.2.2.2.2.1 s.2.2.2.2.2
def WO (x0 : Int) (x1 : Int) (x2 : (List y6)) : Option Bool :=
 (Q0 x0).bind fun x3 =>
 (Q0 x1).bind fun x4 =>
 (QK x3 x4).bind fun x5 =>
 match x5 with
    | Sum.inl x6 =>
     Option.bind (Option.some true) fun (x7 : Bool) =>
     bif x7 then
     (KH x3 x4).bind fun x8 =>
     some !x8
     else some false
    | Sum.inr x6 =>
     (WR x3 x4).bind fun x7 =>
     kk x6.2.2.1 (kk x6.2.2.2 ((y3 ((x2, ((0 : Int))), (x6.1, (x7, (x6.2.1, (x6.2.2.2, x6.2.2.1)))))).bind fun x8 =>
     some x8))
def adH : TEnt := ⟨5, .cons (.int .i64) (.cons (.int .i64) (.sl aji)), [], [(.bool, [])], fun s => WO s.1 s.2.1 s.2.2⟩
theorem a4w : qA Tryz.prog adH := zH (loops := [(19173962, [2, 7, 9, 10], (.cons (.sl aji) ajC), [.st (.cons (.ptr 2 0) agi), .st Y4_, .st (.cons (.int .i64) (.cons (.int .i64) (.cons (.own 4) (.int .i64)))), .li (.int .i64) 3 false, .li (.sl Y3_) 104 false])]) (joins := []) (un := []) _ (tc a1c (tc a67 (tc Uv (tc a3V (tc a6b (tc a4c (tc a5Q (tc UF (tc a03 tn))))))))) (fun s => by kernel_rfl) (by kernel_rfl)
set_option maxHeartbeats 4000000
theorem Q6 {a n : Nat} (h : a < n) : qO (a : Int) n = a := by unfold qO; omega
abbrev EmT : Type := Int × (Int × (Int × (Int × a1f)))
def Q3 (L : qu) (cols row : Nat) (ba : Int) : qu × Nat := if row + 1 = L.length then (if Z2 0 0 ba = true then Zd L 1 (blL cols 0 0 ba) else L, row) else (L, row + 1)
theorem af6 {n : Nat} (h : 1 ≤ n) : jE n 1 = 1 := by unfold jE; rw [if_neg (by omega), if_neg (by omega)]
theorem vb {L : qu} {cols row : Nat} (hG : GOk L cols) (hr : row < L.length) {ba : Int} (hb : u8r ba) : GOk (Q3 L cols row ba).1 cols ∧ (Q3 L cols row ba).1.length = L.length ∧ (Q3 L cols row ba).2 < L.length := by
 unfold Q3
 split
 ·refine ⟨?_, ?_, hr⟩
  ·show GOk (if _ then _ else _) cols
   split
   ·rename_i hp
    exact hG.scroll 1 uh uh hb hp
   ·exact hG
  ·show (if _ then _ else _ : qu).length = _
   split
   ·exact Z0 _ _ _
   ·rfl
 ·exact ⟨hG, rfl, by show row + 1 < _; omega⟩
theorem a1L {L : qu} {cols row col : Nat} (hG : GOk L cols) (hr : row < L.length) (hc : col < cols) (h0 h1 h2 n st p1 p2 p3 : Int) (w : Bool) (ns : List Int) :
  yK (h0, h1, h2, n, st, p1, p2, p3, w) ((row : Int), (col : Int), (cols : Int)) L ns = some ((h0, h1, h2, n, st, p1, p2, p3, w), (((Q3 L cols row p3).2 : Int), (col : Int), (cols : Int)), (Q3 L cols row p3).1, ns) := by
 have hrows := hG.rows
 have hwide := hG.wide
 have a1 := a2F (L := L) (cols := cols) hG.small ⟨by omega, by omega⟩ 1 0 0 p3 (row : Int) (col : Int)
 rw [af6 (by omega)] at a1
 have a2 := Je (L := L) (cols := cols) ⟨by omega, by omega⟩ ⟨by omega, by omega⟩ ((row + 1 : Nat) : Int) (col : Int) (row : Int) (col : Int)
 have e : (row : Int) + 1 = ((row + 1 : Nat) : Int) := by omega
 have e2 : qO (col : Int) cols = col := Q6 hc
 rw [e2] at a2
 unfold yK Q3
 by_cases h : row + 1 = L.length
 ·simp only [q8, if_pos h]
  simp (disch := omega) only [q8, qD, q9, qd, qj, qp, qr, ke, qS, a1]
 ·have e3 : qO ((row + 1 : Nat) : Int) L.length = row + 1 := Q6 (by omega)
  rw [e3] at a2
  simp only [q8, if_neg h]
  simp (disch := omega) only [q8, qw, q9, qd, qf, qj, qp, qr, ke, qB, a2, e]
theorem a7E {L : qu} {cols row col : Nat} (hG : GOk L cols) (hr : row < L.length) (s : Int) (ns hd : List Int) (p1 p2 p3 : Int) (w : Bool) :
  yE L (row : Int) (col : Int) s ns hd p1 p2 p3 w = some ((Q3 L cols row p3).1, ((Q3 L cols row p3).2 : Int), (col : Int), s, ns, hd, p1, p2, p3, w) := by
 have hrows := hG.rows
 have hwide := hG.wide
 obtain ⟨l0, h0, h0l⟩ := hG.first
 have a1 := a5n (L := L) hG.small (by omega) h0 1 0 0 p3 (row : Int) (col : Int)
 rw [af6 (by omega), h0l] at a1
 have e : (row : Int) + 1 = ((row + 1 : Nat) : Int) := by omega
 unfold yE Q3
 by_cases h : row + 1 = L.length
 ·simp only [q8, if_pos h]
  simp (disch := omega) only [q8, qD, q9, qd, qj, yZ, a1]
 ·simp only [q8, if_neg h]
  simp (disch := omega) only [q8, qw, q9, qf, e]
theorem acw {l : List qg} {k m : Int} (h : qY m ≠ 0) : (jP l k m).2 = false := by
 unfold jP
 split
 ·split
  ·unfold jr
   rw [if_neg (fun q => h q.1)]
  ·rfl
 ·rfl
theorem acq {L : qu} {k : Int} {f : List qg → List qg × Bool} (h : ∀ l, (f l).2 = false) : (kr L k f).2 = L := by
 unfold kr
 split
 ·split
  ·rename_i l _
   rw [h l]
   rfl
  ·rfl
 ·rfl
def ZQ (r : Int) (p : Int × (Int × Int)) : qg := (r, (0, 0), qY r, p.1, p.2.1, p.2.2)
def atQ (L : qu) (cols row col : Nat) (ba : Int) (w : Bool) (n : Nat) : (qu × Nat) × Nat := if w = true ∨ cols < col + n then (Q3 L cols row ba, 0) else ((L, row), col)
def jl (L : qu) (cols row col : Nat) (p : Int × (Int × Int)) (w : Bool) (r : Int) : qu × (Nat × (Nat × Bool)) :=
 if qY r = 0 then ((kr L (row : Int) fun l => jP l (if w = true then (col : Int) else (col : Int) - 1) r).2, row, col, w)
 else if qY r < 0 ∨ (cols : Int) < qY r then (L, row, col, w)
 else ((kr (atQ L cols row col p.2.2 w (qY r).toNat).1.1 ((atQ L cols row col p.2.2 w (qY r).toNat).1.2 : Int) fun l => wY l ((atQ L cols row col p.2.2 w (qY r).toNat).2 : Int) (ZQ r p)).2,
  (atQ L cols row col p.2.2 w (qY r).toNat).1.2, min ((atQ L cols row col p.2.2 w (qY r).toNat).2 + (qY r).toNat) (cols - 1), decide (cols ≤ (atQ L cols row col p.2.2 w (qY r).toNat).2 + (qY r).toNat))
theorem a3G {r : Int} (hr : Z4 r) {p : Int × (Int × Int)} (hp : PenOk p) (hn : ¬ qY r < 0) : OkC (ZQ r p) := by
 have h1 := hp.f
 have h2 := hp.fo
 have h3 := hp.ba
 refine ⟨hr, (by unfold Z4 ZQ; simp), (by unfold Z4 ZQ; simp), ?_, ?_, ?_, ?_⟩
 ·unfold u8r ZQ
  rcases WA r with q | q | q | q <;> simp only [q8, q] <;> omega
 ·unfold u8r ZQ; simp only; omega
 ·unfold u8r ZQ; simp only; omega
 ·unfold u8r ZQ; simp only; omega
theorem a8g {L : qu} {cols row col : Nat} (hG : GOk L cols) (hr : row < L.length) (hc : col < cols) {ba : Int} (hb : u8r ba) (w : Bool) {n : Nat} (hn : n ≤ cols) : GOk (atQ L cols row col ba w n).1.1 cols ∧ (atQ L cols row col ba w n).1.1.length = L.length ∧ (atQ L cols row col ba w n).1.2 < L.length ∧ (atQ L cols row col ba w n).2 < cols ∧ (atQ L cols row col ba w n).2 + n ≤ cols := by
 have hwide := hG.wide
 unfold atQ
 split
 ·obtain ⟨f1, f2, f3⟩ := vb hG hr hb
  exact ⟨f1, f2, f3, by show 0 < cols; omega, by show 0 + n ≤ cols; omega⟩
 ·rename_i h
  exact ⟨hG, rfl, hr, hc, by show col + n ≤ cols; omega⟩
theorem ads {L : qu} {cols row col : Nat} (hG : GOk L cols) (hr : row < L.length) (hc : col < cols) {p : Int × (Int × Int)} (hp : PenOk p) (w : Bool) {r : Int} (hr32 : Z4 r) :
  GOk (jl L cols row col p w r).1 cols ∧ (jl L cols row col p w r).1.length = L.length ∧ (jl L cols row col p w r).2.1 < L.length ∧ (jl L cols row col p w r).2.2.1 < cols := by
 have hwide := hG.wide
 have hb : u8r p.2.2 := by have := hp.ba; unfold u8r; omega
 unfold jl
 split
 ·exact ⟨hG.turn _ _ (fun l hl _ => ae9 hl hr32 _), WK _ _ _, hr, hc⟩
 ·split
  ·exact ⟨hG, rfl, hr, hc⟩
  ·rename_i h1 h2
   have hn : (qY r).toNat ≤ cols := by omega
   obtain ⟨q1, q2, q3, q4, q5⟩ := a8g hG hr hc hb w hn
   have hC := a3G hr32 hp (by omega)
   refine ⟨q1.turn _ _ (fun l hl _ => ah8 hl hC _), (WK _ _ _).trans q2, q3, ?_⟩
   show min _ (cols - 1) < cols
   omega
theorem aeU {r : Int} (h : ¬ qY r < 1) (p1 p2 p3 : Int) : QH r p1 p2 p3 = some ((r, 0, 0, qY r, p1, p2, p3), true) ∧ QX r p1 p2 p3 = some ((r, 0, 0, qY r, p1, p2, p3), true) := by
 rw [aca, akU]
 unfold ofC
 rw [if_neg h]
 exact ⟨rfl, rfl⟩
theorem am0 {r : Int} (h : qY r < 1) (p1 p2 p3 : Int) : QH r p1 p2 p3 = some ((0, 0, 0, 0, 0, 0, 0), false) := by
 rw [aca]
 unfold ofC
 rw [if_pos h]
 rfl
theorem a9g {L : qu} {cols row col : Nat} (hG : GOk L cols) (hr : row < L.length) (hc : col < cols) {r : Int} (hr32 : Z4 r) (h0 h1 h2 n st : Int) {p1 p2 p3 : Int} (hp : PenOk (p1, p2, p3)) (w : Bool) (ns : List Int) :
  Zm r (h0, h1, h2, n, st, p1, p2, p3, w) ((row : Int), (col : Int), (cols : Int)) L ns =
   some ((h0, h1, h2, n, st, p1, p2, p3, (jl L cols row col (p1, p2, p3) w r).2.2.2), (((jl L cols row col (p1, p2, p3) w r).2.1 : Int), ((jl L cols row col (p1, p2, p3) w r).2.2.1 : Int), (cols : Int)), (jl L cols row col (p1, p2, p3) w r).1, ns) := by
 have hrows := hG.rows
 have hwide := hG.wide
 have hb : u8r p3 := by have := hp.ba; unfold u8r; simp only at this; omega
 have hS := hG.small
 unfold Zm
 by_cases c1 : qY r < 1
 ·have hof := am0 c1 p1 p2 p3
  have hmk := xj r
  unfold jl
  by_cases c2 : qY r = 0
  ·have hmk' : kz r = some true := by rw [hmk, c2]; rfl
   simp only [q8, if_pos c2]
   cases w
   ·have a1 := YO hS (row : Int) ((col : Int) - 1) r ⟨by omega, by omega⟩ ((row : Int), (col : Int), (cols : Int))
    simp only [q8, Bool.false_eq_true, if_false]
    simp (disch := omega) only [q8, q9, qd, qf, qj, kx, qp, hof, hmk', qr, qB, a1]
   ·have a1 := YO hS (row : Int) (col : Int) r ⟨by omega, by omega⟩ ((row : Int), (col : Int), (cols : Int))
    simp only [q8, if_true]
    simp (disch := omega) only [q8, q9, qd, qj, kx, qp, hof, hmk', qr, qB, a1]
  ·have hmk' : kz r = some false := by
    rw [hmk]
    have : (qY r == 0) = false := by simpa using c2
    rw [this]
   have a1 := YO hS (row : Int) ((col : Int) - 1) r ⟨by omega, by omega⟩ ((row : Int), (col : Int), (cols : Int))
   have a2 : (kr L (row : Int) fun l => jP l ((col : Int) - 1) r).2 = L := acq fun l => acw c2
   rw [a2] at a1
   simp only [q8, if_neg c2, if_pos (show qY r < 0 ∨ (cols : Int) < qY r from .inl (by omega))]
   simp (disch := omega) only [q8, q9, qd, qf, qj, kx, qp, hof, hmk', qr, qB, a1]
 ·obtain ⟨hof, -⟩ := aeU c1 p1 p2 p3
  have hw2 : qY r ≤ 2 := by rcases WA r with q | q | q | q <;> omega
  have ww : IntKind.i64.wrap (qY r) = qY r := q9 (by omega) (by omega)
  unfold jl
  simp only [q8, if_neg (show ¬ qY r = 0 by omega)]
  by_cases c2 : (cols : Int) < qY r
  ·simp only [q8, if_pos (show qY r < 0 ∨ (cols : Int) < qY r from .inr c2)]
   simp (disch := omega) only [q8, qh, qd, qf, qj, zw, qp, hof, ww, qC]
  ·simp only [q8, if_neg (show ¬ (qY r < 0 ∨ (cols : Int) < qY r) by omega)]
   obtain ⟨m, hm⟩ : ∃ m : Nat, qY r = m := ⟨(qY r).toNat, by omega⟩
   have hC := a3G hr32 hp (by omega)
   have hm' : (qY r).toNat = m := by omega
   simp only [q8, hm']
   obtain ⟨q1, q2, q3, q4, q5⟩ := a8g (n := m) hG hr hc hb w (by omega)
   have fin : ∀ (L1 : qu) (row1 col1 : Nat), GOk L1 cols → L1.length = L.length → row1 < L.length → col1 < cols → col1 + m ≤ cols →
     wE ((row1 : Int), (col1 : Int), r, 0, 0, (m : Int), p1, p2, p3) ((row1 : Int), (col1 : Int), (cols : Int)) L1 = some ((kr L1 (row1 : Int) fun l => wY l (col1 : Int) (ZQ r (p1, p2, p3))).1, ((row1 : Int), (col1 : Int), (cols : Int)), (kr L1 (row1 : Int) fun l => wY l (col1 : Int) (ZQ r (p1, p2, p3))).2) ∧
     zh ((row1 : Int), ((col1 + m : Nat) : Int)) ((row1 : Int), (col1 : Int), (cols : Int)) (kr L1 (row1 : Int) fun l => wY l (col1 : Int) (ZQ r (p1, p2, p3))).2 = some (((row1 : Int), ((min (col1 + m) (cols - 1) : Nat) : Int), (cols : Int)), (kr L1 (row1 : Int) fun l => wY l (col1 : Int) (ZQ r (p1, p2, p3))).2) := by
    intro L1 row1 col1 g1 g2 g3 g4 g5
    have a1 := ae5 g1.small (row1 : Int) (col1 : Int) ⟨by omega, by omega⟩ hC ((row1 : Int), (col1 : Int), (cols : Int))
    have hl := WK L1 (row1 : Int) fun l => wY l (col1 : Int) (ZQ r (p1, p2, p3))
    have a2 := Je (L := (kr L1 (row1 : Int) fun l => wY l (col1 : Int) (ZQ r (p1, p2, p3))).2) (cols := cols) ⟨by omega, by omega⟩ ⟨by omega, by omega⟩ (row1 : Int) ((col1 + m : Nat) : Int) (row1 : Int) (col1 : Int)
    have b1 : qO (row1 : Int) (kr L1 (row1 : Int) fun l => wY l (col1 : Int) (ZQ r (p1, p2, p3))).2.length = row1 := Q6 (by omega)
    have b2 : qO ((col1 + m : Nat) : Int) cols = min (col1 + m) (cols - 1) := by unfold qO; omega
    rw [b1, b2] at a2
    refine ⟨?_, a2⟩
    have : (ZQ r (p1, p2, p3)) = (r, (0, 0), (m : Int), p1, p2, p3) := by unfold ZQ; rw [hm]
    rw [this] at a1 ⊢
    exact a1
   have hmv := Je (L := L) (cols := cols) ⟨by omega, by omega⟩ ⟨by omega, by omega⟩ (row : Int) 0 (row : Int) (col : Int)
   have b0 : qO (0 : Int) cols = 0 := by unfold qO; omega
   rw [Q6 hr, b0] at hmv
   have hfd := a1L (col := 0) hG hr (by omega) h0 h1 h2 n st p1 p2 p3 w ns
   have z0 : (((0 : Nat) : Nat) : Int) = 0 := rfl
   rw [hm] at hof ww c2
   by_cases hat : w = true ∨ cols < col + m
   ·have ea : atQ L cols row col (p1, p2, p3).2.2 w m = (Q3 L cols row p3, 0) := by unfold atQ; rw [if_pos hat]
    rw [ea]
    obtain ⟨f1, f2, f3⟩ := vb hG hr hb
    generalize Q3 L cols row p3 = fq at *
    obtain ⟨L1, row1⟩ := fq
    simp only at f1 f2 f3 hfd
    obtain ⟨k1, k2⟩ := fin L1 row1 0 f1 f2 f3 (by omega) (by omega)
    simp only [q8, z0] at k1 k2 hfd hmv
    have e2 : (0 : Int) + (m : Int) = ((0 + m : Nat) : Int) := by omega
    have e3 : decide (cols ≤ 0 + m) = decide ((cols : Int) ≤ ((0 + m : Nat) : Int)) := decide_eq_decide.2 (by omega)
    simp only [q8, z0, e3]
    cases w
    ·have hat' : cols < col + m := by simpa using hat
     simp (disch := omega) only [q8, qh, qm, q9, qd, qf, qj, zw, qp, hof, ww, qC, qB, qr, hmv, hfd, k1, k2, e2]
    ·simp (disch := omega) only [q8, qm, q9, qd, qf, qj, zw, qp, hof, ww, qC, qB, qr, hmv, hfd, k1, k2, e2]
   ·have ea : atQ L cols row col (p1, p2, p3).2.2 w m = ((L, row), col) := by unfold atQ; rw [if_neg hat]
    rw [ea]
    have hw : w = false := by cases w; rfl; exact absurd (.inl rfl) hat
    have hat' : ¬ cols < col + m := fun q => hat (.inr q)
    subst hw
    obtain ⟨k1, k2⟩ := fin L row col hG rfl hr hc (by omega)
    have e2 : (col : Int) + (m : Int) = ((col + m : Nat) : Int) := by omega
    have e3 : decide (cols ≤ col + m) = decide ((cols : Int) ≤ ((col + m : Nat) : Int)) := decide_eq_decide.2 (by omega)
    simp only [q8, e3]
    simp (disch := omega) only [q8, qm, q9, qd, qf, qj, zw, qp, hof, ww, qC, qB, qr, k1, k2, e2]
theorem GOk.cols07 {L : qu} {cols : Nat} (hG : GOk L cols) (r c : Int) : ko L r c = some (cols : Int) := by
 obtain ⟨l0, h0, hl⟩ := hG.first
 have := Vc h0 r c
 rwa [hl] at this
theorem acC {L : qu} {cols row col : Nat} (hG : GOk L cols) (hr : row < L.length) (hc : col < cols) {r : Int} (hr32 : Z4 r) (s : Int) (ns hd : List Int) {p1 p2 p3 : Int} (hp : PenOk (p1, p2, p3)) (w : Bool) :
  Zv (L, (row : Int), (col : Int), s, ns, hd, p1, p2, p3, w) r =
   some ((jl L cols row col (p1, p2, p3) w r).1, ((jl L cols row col (p1, p2, p3) w r).2.1 : Int), ((jl L cols row col (p1, p2, p3) w r).2.2.1 : Int), s, ns, hd, p1, p2, p3, (jl L cols row col (p1, p2, p3) w r).2.2.2) := by
 have hrows := hG.rows
 have hwide := hG.wide
 have hb : u8r p3 := by have := hp.ba; unfold u8r; simp only at this; omega
 have hS := hG.small
 have hco := hG.cols07 (row : Int) (col : Int)
 have hwd := Xz r
 unfold Zv jl
 by_cases c1 : qY r = 0
 ·rw [c1] at hwd
  simp only [q8, if_pos c1]
  cases w
  ·have a1 := a2l hS (by omega) (row : Int) ((col : Int) - 1) r ⟨by omega, by omega⟩ (row : Int) (col : Int)
   simp only [q8, Bool.false_eq_true, if_false]
   simp (disch := omega) only [q8, qh, q9, qd, qf, qj, hco, hwd, a1, beq_self_eq_true]
  ·have a1 := a2l hS (by omega) (row : Int) (col : Int) r ⟨by omega, by omega⟩ (row : Int) (col : Int)
   simp only [q8, if_true]
   simp (disch := omega) only [q8, qh, q9, qd, qj, hco, hwd, a1, beq_self_eq_true]
 ·simp only [q8, if_neg c1]
  by_cases c0 : qY r < 0
  ·simp only [q8, if_pos (show qY r < 0 ∨ (cols : Int) < qY r from .inl c0)]
   simp (disch := omega) only [q8, qh, qw, q9, qd, qf, qj, hco, hwd]
  ·by_cases c2 : (cols : Int) < qY r
   ·simp only [q8, if_pos (show qY r < 0 ∨ (cols : Int) < qY r from .inr c2)]
    simp (disch := omega) only [q8, qh, qm, qw, q9, qd, qf, qj, hco, hwd]
   ·simp only [q8, if_neg (show ¬ (qY r < 0 ∨ (cols : Int) < qY r) by omega)]
    obtain ⟨-, hof⟩ := aeU (show ¬ qY r < 1 by omega) p1 p2 p3
    obtain ⟨m, hm⟩ : ∃ m : Nat, qY r = m := ⟨(qY r).toNat, by omega⟩
    have hC := a3G hr32 hp (by omega)
    have hm' : (qY r).toNat = m := by omega
    simp only [q8, hm']
    obtain ⟨q1, q2, q3, q4, q5⟩ := a8g (n := m) hG hr hc hb w (by omega)
    have fin : ∀ (L1 : qu) (row1 col1 : Nat), GOk L1 cols → col1 < cols →
      yP (L1, (row1 : Int), (col1 : Int)) (row1 : Int) (col1 : Int) r 0 0 (m : Int) p1 p2 p3 = some (((kr L1 (row1 : Int) fun l => wY l (col1 : Int) (ZQ r (p1, p2, p3))).2, (row1 : Int), (col1 : Int)), (kr L1 (row1 : Int) fun l => wY l (col1 : Int) (ZQ r (p1, p2, p3))).1) := by
     intro L1 row1 col1 g1 g2
     have a1 := age g1.small (by have := g1.rows; omega) (row1 : Int) (col1 : Int) ⟨by omega, by omega⟩ hC (row1 : Int) (col1 : Int)
     have : (ZQ r (p1, p2, p3)) = (r, (0, 0), (m : Int), p1, p2, p3) := by unfold ZQ; rw [hm]
     rw [this] at a1 ⊢
     exact a1
    have hfd := a7E (col := 0) hG hr s ns hd p1 p2 p3 w
    have z0 : (((0 : Nat) : Nat) : Int) = 0 := rfl
    have hm0 : m ≠ 0 := fun q => c1 (by rw [hm, q]; rfl)
    rw [hm] at hof c2 hwd c0
    by_cases hat : w = true ∨ cols < col + m
    ·have ea : atQ L cols row col (p1, p2, p3).2.2 w m = (Q3 L cols row p3, 0) := by unfold atQ; rw [if_pos hat]
     rw [ea]
     obtain ⟨f1, f2, f3⟩ := vb hG hr hb
     generalize Q3 L cols row p3 = fq at *
     obtain ⟨L1, row1⟩ := fq
     simp only at f1 f2 f3 hfd
     have k1 := fin L1 row1 0 f1 (by omega)
     simp only [q8, z0] at k1 hfd
     have e2 : (0 : Int) + (m : Int) = (m : Int) := by omega
     have e4 : 0 + m = m := by omega
     simp only [q8, z0, e4]
     by_cases hf : cols ≤ m
     ·have e5 : min m (cols - 1) = cols - 1 := by omega
      have e6 : ((cols - 1 : Nat) : Int) = (cols : Int) - 1 := by omega
      rw [e5, e6, decide_eq_true hf]
      cases w
      ·have hat' : cols < col + m := by simpa using hat
       simp (disch := omega) only [q8, qh, qm, qw, q9, qd, qf, qj, hco, hwd, hof, hfd, k1, e2]
      ·simp (disch := omega) only [q8, qh, qm, qw, q9, qd, qf, qj, hco, hwd, hof, hfd, k1, e2]
     ·have e5 : min m (cols - 1) = m := by omega
      rw [e5, decide_eq_false hf]
      cases w
      ·have hat' : cols < col + m := by simpa using hat
       simp (disch := omega) only [q8, qh, qm, qw, q9, qd, qf, qj, hco, hwd, hof, hfd, k1, e2]
      ·simp (disch := omega) only [q8, qm, qw, q9, qd, qf, qj, hco, hwd, hof, hfd, k1, e2]
    ·have ea : atQ L cols row col (p1, p2, p3).2.2 w m = ((L, row), col) := by unfold atQ; rw [if_neg hat]
     rw [ea]
     have hw : w = false := by cases w; rfl; exact absurd (.inl rfl) hat
     have hat' : ¬ cols < col + m := fun q => hat (.inr q)
     subst hw
     have k1 := fin L row col hG hc
     have e2 : (col : Int) + (m : Int) = ((col + m : Nat) : Int) := by omega
     simp only
     by_cases hf : cols ≤ col + m
     ·have e5 : min (col + m) (cols - 1) = cols - 1 := by omega
      have e6 : ((cols - 1 : Nat) : Int) = (cols : Int) - 1 := by omega
      rw [e5, e6, decide_eq_true hf]
      simp (disch := omega) only [q8, qh, qm, qw, q9, qd, qf, qj, hco, hwd, hof, k1, e2]
     ·have e5 : min (col + m) (cols - 1) = col + m := by omega
      rw [e5, decide_eq_false hf]
      simp (disch := omega) only [q8, qm, qw, q9, qf, qj, hco, hwd, hof, k1, e2]
def j8 (ns : List Int) (k : Nat) (d : Int) : Int := match ns[k]? with
 | some v => if v = -1 then d else v
 | none => d
theorem vp (kd r : Int) (ns : List Int) (k : Nat) (d : Int) : kE (kd, r, ns) (k : Int) d = some (j8 ns k d) := by
 unfold kE j8
 by_cases h : k < ns.length
 ·obtain ⟨v, hv⟩ := qF h
  by_cases h1 : v = -1
  ·rw [hv, h1]
   simp only [q8, if_true]
   simp (disch := omega) only [q8, qh, qm, qD, qd, qf, qj, qH, hv]
  ·rw [hv]
   simp only [q8, if_neg h1]
   simp (disch := omega) only [q8, qh, qm, qw, qd, qf, qj, qH, hv]
 ·have hv : ns[k]? = none := List.getElem?_eq_none (by omega)
  rw [hv]
  simp (disch := omega) only [q8, qh, qm, qd, qf, qH]
theorem XL (kd r : Int) (ns : List Int) (k : Nat) (d : Int) : jz (kd, r, ns) (k : Int) d = some (j8 ns k d) := by
 unfold jz j8
 by_cases h : k < ns.length
 ·obtain ⟨v, hv⟩ := qF h
  by_cases h1 : v = -1
  ·rw [hv, h1]
   simp only [q8, if_true]
   simp (disch := omega) only [q8, qh, qm, qD, qd, qf, qj, qH, hv]
  ·rw [hv]
   simp only [q8, if_neg h1]
   simp (disch := omega) only [q8, qh, qm, qw, qd, qf, qj, qH, hv]
 ·have hv : ns[k]? = none := List.getElem?_eq_none (by omega)
  rw [hv]
  simp (disch := omega) only [q8, qh, qm, qd, qf, qH]
def yF (ns : List Int) (k : Nat) : Int := min 512 (max 1 (j8 ns k 1))
def Wh (ns : List Int) (k : Nat) : Int := if j8 ns k 1 < 1 then 1 else if 1000 < j8 ns k 1 then 1000 else j8 ns k 1
theorem a6A (kd r : Int) (ns : List Int) (k : Nat) : kR (kd, r, ns) (k : Int) = some (yF ns k) := by
 unfold kR yF
 rw [vp]
 simp only [q8, qj]
 congr 1
 generalize j8 ns k 1 = n
 split <;> split <;> omega
theorem a0d (ns : List Int) (k : Nat) : 1 ≤ yF ns k ∧ yF ns k ≤ 512 := by unfold yF; omega
theorem uD (ns : List Int) (k : Nat) : 1 ≤ Wh ns k ∧ Wh ns k ≤ 1000 := by
 unfold Wh
 split
 ·omega
 ·split
  ·omega
  ·omega
theorem a4l (ns : List Int) (k : Nat) : yF ns k = Wh ns k ∨ yF ns k = 512 ∧ 512 < Wh ns k := by
 unfold yF Wh
 split
 ·omega
 ·split <;> omega
theorem XV {a n : Nat} (ha : a < n) (hn : n ≤ 512) (ns : List Int) (k : Nat) : qO ((a : Int) - Wh ns k) n = qO ((a : Int) - yF ns k) n := by
 have := a0d ns k
 have := uD ns k
 rcases a4l ns k with h | ⟨h1, h2⟩
 ·rw [h]
 ·unfold qO; omega
theorem U9 {a n : Nat} (ha : a < n) (hn : n ≤ 512) (ns : List Int) (k : Nat) : qO ((a : Int) + Wh ns k) n = qO ((a : Int) + yF ns k) n := by
 have := a0d ns k
 have := uD ns k
 rcases a4l ns k with h | ⟨h1, h2⟩
 ·rw [h]
 ·unfold qO; omega
theorem xX {n : Nat} (hn : n ≤ 512) (ns : List Int) (k : Nat) : qO (Wh ns k - 1) n = qO (yF ns k - 1) n := by
 have := a0d ns k
 have := uD ns k
 rcases a4l ns k with h | ⟨h1, h2⟩
 ·rw [h]
 ·unfold qO; omega
section
variable {L : qu} {cols row col : Nat}
theorem a4t (hG : GOk L cols) (r c : Int) (a b : Nat) : zh (r, c) ((a : Int), (b : Int), (cols : Int)) L = some (((qO r L.length : Int), (qO c cols : Int), (cols : Int)), L) := by
 have hrows := hG.rows
 have hwide := hG.wide
 exact Je ⟨by omega, by omega⟩ ⟨by omega, by omega⟩ r c a b
theorem a9p (hG : GOk L cols) (hr : row < L.length) (hc : col < cols) {dr dc : Int} (h1 : -1000 ≤ dr ∧ dr ≤ 1000) (h2 : -1000 ≤ dc ∧ dc ≤ 1000) (h0 h1' h2' n st p1 p2 p3 : Int) (w : Bool) (ns : List Int) :
  wD (dr, dc) (h0, h1', h2', n, st, p1, p2, p3, w) ((row : Int), (col : Int), (cols : Int)) L ns = some ((h0, h1', h2', n, st, p1, p2, p3, false), ((qO ((row : Int) + dr) L.length : Int), (qO ((col : Int) + dc) cols : Int), (cols : Int)), L, ns) := by
 have hrows := hG.rows
 have hwide := hG.wide
 have a1 := a4t hG ((row : Int) + dr) ((col : Int) + dc) row col
 unfold wD
 simp (disch := omega) only [q8, q9, qd, qj, qp, qr, qB, a1]
theorem adW (hG : GOk L cols) (r c : Int) (a b : Nat) (s : Int) (ns hd : List Int) (p1 p2 p3 : Int) (w : Bool) :
  j9 (L, (a : Int), (b : Int), s, ns, hd, p1, p2, p3, w) r c = some (L, (qO r L.length : Int), (qO c cols : Int), s, ns, hd, p1, p2, p3, false) := by
 have hrows := hG.rows
 have hwide := hG.wide
 obtain ⟨l0, h0, h0l⟩ := hG.first
 have a1 := aeE (by omega) h0 ⟨by omega, by omega⟩ r c (a : Int) (b : Int)
 rw [h0l] at a1
 unfold j9
 simp (disch := omega) only [q8, qj, a1]
def uX (L : qu) (r f t ba : Int) : qu := (kr L r fun l => (km (wG l f t 0 0 ba), Z2 0 0 ba)).2
theorem Xv (hG : GOk L cols) (r f t : Int) {ba : Int} (hb : u8r ba) : GOk (uX L r f t ba) cols ∧ (uX L r f t ba).length = L.length :=
 ⟨hG.turn _ _ fun l hl hp => a6y hl uh uh hb hp, WK _ _ _⟩
theorem a1X (hG : GOk L cols) (r f t ba : Int) (g : Int × (Int × Int)) : zI (r, f, t, 0, 0, ba) g L = some (g, uX L r f t ba) := a7x hG.small r f t 0 0 ba g
theorem a6j (hG : GOk L cols) (r f t : Int) (a b : Nat) (s : Int) (ns hd : List Int) (p1 p2 p3 : Int) (w : Bool) :
  k9 (L, (a : Int), (b : Int), s, ns, hd, p1, p2, p3, w) r f t = some (uX L r f t p3, (a : Int), (b : Int), s, ns, hd, p1, p2, p3, w) := by
 have hrows := hG.rows
 have a1 := a97 hG.small (by omega) r f t 0 0 p3 (a : Int) (b : Int)
 unfold k9
 unfold uX
 simp (disch := omega) only [q8, qj, yZ, a1]
def VD (L : qu) (cols row col : Nat) (ba k : Int) : qu := if k = 0 then uX L row col cols ba else if k = 1 then uX L row 0 ((col + 1 : Nat) : Int) ba else if k = 2 then uX L row 0 cols ba else L
theorem abP (hG : GOk L cols) (row col : Nat) {ba : Int} (hb : u8r ba) (k : Int) : GOk (VD L cols row col ba k) cols ∧ (VD L cols row col ba k).length = L.length := by
 unfold VD
 split
 ·exact Xv hG _ _ _ hb
 ·split
  ·exact Xv hG _ _ _ hb
  ·split
   ·exact Xv hG _ _ _ hb
   ·exact ⟨hG, rfl⟩
theorem a6e (hG : GOk L cols) (hr : row < L.length) (hc : col < cols) (kd r : Int) (es : List Int) (h0 h1 h2 n st p1 p2 p3 : Int) (w : Bool) (ns : List Int) :
  Kr (kd, r, es) (h0, h1, h2, n, st, p1, p2, p3, w) ((row : Int), (col : Int), (cols : Int)) L ns = some ((h0, h1, h2, n, st, p1, p2, p3, w), ((row : Int), (col : Int), (cols : Int)), VD L cols row col p3 (j8 es 0 0), ns) := by
 have hrows := hG.rows
 have hwide := hG.wide
 have hn := vp kd r es 0 0
 have z0 : ((0 : Nat) : Int) = 0 := rfl
 rw [z0] at hn
 have a1 := fun r f t => a1X hG r f t p3 ((row : Int), (col : Int), (cols : Int))
 have e : (col : Int) + 1 = ((col + 1 : Nat) : Int) := by omega
 unfold Kr VD
 by_cases k0 : j8 es 0 0 = 0
 ·rw [if_pos k0]
  simp (disch := omega) only [q8, qD, qw, q9, qd, qf, qj, qp, hn, qr, qB, qC, qS, a1]
 ·rw [if_neg k0]
  by_cases k1 : j8 es 0 0 = 1
  ·rw [if_pos k1]
   simp (disch := omega) only [q8, qD, qw, q9, qd, qf, qj, qp, hn, qr, qB, qC, qS, a1, e]
  ·rw [if_neg k1]
   by_cases k2 : j8 es 0 0 = 2
   ·rw [if_pos k2]
    simp (disch := omega) only [q8, qD, qw, q9, qd, qf, qj, qp, hn, qr, qB, qC, qS, a1]
   ·rw [if_neg k2]
    simp (disch := omega) only [q8, qw, qd, qf, qj, qp, hn]
def J7 (L : qu) (cols row : Nat) (ba k : Int) : Nat → qu
 | 0 => L
 | i + 1 => if k = 2 ∨ k = 0 ∧ row < i ∨ k = 1 ∧ i < row then uX (J7 L cols row ba k i) (i : Int) 0 cols ba else J7 L cols row ba k i
theorem Wx (hG : GOk L cols) (row : Nat) {ba : Int} (hb : u8r ba) (k : Int) : ∀ i, GOk (J7 L cols row ba k i) cols ∧ (J7 L cols row ba k i).length = L.length
 | 0 => ⟨hG, rfl⟩
 | i + 1 => by
  obtain ⟨h1, h2⟩ := Wx hG row hb k i
  unfold J7
  split
  ·obtain ⟨h3, h4⟩ := Xv h1 (i : Int) 0 cols hb
   exact ⟨h3, h4.trans h2⟩
  ·exact ⟨h1, h2⟩
end
end Go.Sim
