/- Part 8 of the claim EmuDoes: T18, T19, T20, V0, GA, V1, GB, V2, GC, V3, V4 -/
import Derived.Test.YtaamhddpmbombaaGreatProg
import Derived.Test.YtaamhddpmbombaaGreatW7
set_option linter.unusedSimpArgs false
set_option linter.unusedVariables false
set_option linter.defProp false
noncomputable section
namespace Go.Sim
open Go.RowKit
def VS.fitB (m : Nat) : VS → Bool
 | .ptr k _ => decide (k < m)
 | .own k => decide (k < m)
 | .part k => decide (k < m)
 | .mp _ => false
 | .cons a b => a.fitB m && b.fitB m
 | .fn _ _ _ => false
 | .agg _ => false
 | .tup _ => false
 | _ => true
def VS.fitC (m : Nat) : VS → Bool
 | .ptr k _ => decide (k < m)
 | .own k => decide (k < m)
 | .part k => decide (k < m)
 | .mp _ => false
 | .cons a b => a.fitC m && b.fitC m
 | .fn _ a b => a.fitB m && b.fitB m
 | .agg _ => false
 | .tup _ => false
 | _ => true
def VS.fitA (m : Nat) : VS → Bool
 | .agg s => s.fitC m
 | .cons a b => a.fitA m && b.fitA m
 | s => s.fitC m
def VS.fitT (m : Nat) : VS → Bool
 | .tup s => s.fitA m
 | .cons a b => a.fitT m && b.fitT m
 | s => s.fitA m
def exC (back : Sel) (d' d : TV) : Prop := isC d' = true ∧ isC d = true ∧ QT back (qy d') = some (qy d)
def exB (back : Sel) (d' d : TV) : Prop := jx back (zN d') = some (zN d)
section
variable {back : Sel} {m : Nat} {f len : Nat → Nat}
theorem Xy (hb : ∀ k, k < m → back[f k]? = some (some k)) : ∀ (s : VS) (x : s.T), s.fitB m = true → All2 (exB back) (s.ins f len x) (s.ins id len x)
 | .int k, x, _ => .cons rfl .nil
 | .bool, x, _ => .cons rfl .nil
 | .str, x, _ => .cons rfl .nil
 | .cst _, x, _ => .cons rfl .nil
 | .sl c, x, _ => .cons rfl .nil
 | .ptr k off, x, h => by
  have hk := hb k (by simpa [VS.fitB] using h)
  refine .cons ?_ .nil
  show jx back (.ptr (f k) off) = some (.ptr k off)
  unfold jx unB
  simp only [hk]
 | .own k, x, h => by
  have hk := hb k (by simpa [VS.fitB] using h)
  refine .cons ?_ .nil
  show jx back (.ref (f k) 0 (len k) (len k)) = some (.ref k 0 (len k) (len k))
  unfold jx
  simp only [hk]
 | .part k, x, h => by
  have hk := hb k (by simpa [VS.fitB] using h)
  refine .cons ?_ .nil
  show jx back (.ref (f k) x.1 x.2 (len k)) = some (.ref k x.1 x.2 (len k))
  unfold jx
  simp only [hk]
 | .mp _, x, h => by cases h
 | .nil, x, _ => .nil
 | .cons a b, x, h => by
  simp only [VS.fitB, Bool.and_eq_true] at h
  exact (Xy hb a _ h.1).append (Xy hb b _ h.2)
 | .fn _ _ _, x, h => by cases h
 | .agg _, x, h => by cases h
 | .tup _, x, h => by cases h
theorem uo : ∀ {l' l : List TV}, All2 (exB back) l' l → jd back (l'.map zN) = some (l.map zN)
 | _, _, .nil => rfl
 | _, _, .cons h t => by simp only [List.map_cons, jd, show jx back _ = some _ from h, uo t]
theorem v9 (hb : ∀ k, k < m → back[f k]? = some (some k)) : ∀ (s : VS) (x : s.T), s.fitC m = true → All2 (exC back) (s.ins f len x) (s.ins id len x)
 | .int k, x, _ => .cons ⟨rfl, rfl, rfl⟩ .nil
 | .bool, x, _ => .cons ⟨rfl, rfl, rfl⟩ .nil
 | .str, x, _ => .cons ⟨rfl, rfl, rfl⟩ .nil
 | .cst _, x, _ => .cons ⟨rfl, rfl, rfl⟩ .nil
 | .sl c, x, _ => .cons ⟨rfl, rfl, rfl⟩ .nil
 | .ptr k off, x, h => by
  have hk := hb k (by simpa [VS.fitC] using h)
  refine .cons ⟨rfl, rfl, ?_⟩ .nil
  show jx back (.ptr (f k) off) = some (.ptr k off)
  unfold jx unB
  simp only [hk]
 | .own k, x, h => by
  have hk := hb k (by simpa [VS.fitC] using h)
  refine .cons ⟨rfl, rfl, ?_⟩ .nil
  show jx back (.ref (f k) 0 (len k) (len k)) = some (.ref k 0 (len k) (len k))
  unfold jx
  simp only [hk]
 | .part k, x, h => by
  have hk := hb k (by simpa [VS.fitC] using h)
  refine .cons ⟨rfl, rfl, ?_⟩ .nil
  show jx back (.ref (f k) x.1 x.2 (len k)) = some (.ref k x.1 x.2 (len k))
  unfold jx
  simp only [hk]
 | .mp _, x, h => by cases h
 | .nil, x, _ => .nil
 | .cons a b, x, h => by
  simp only [VS.fitC, Bool.and_eq_true] at h
  exact (v9 hb a _ h.1).append (v9 hb b _ h.2)
 | .fn g a b, x, h => by
  simp only [VS.fitC, Bool.and_eq_true] at h
  refine .cons ⟨rfl, rfl, ?_⟩ .nil
  have h1 := uo (Xy (len := len) hb a (SP.fst a.dfl x) h.1)
  have h2 := uo (Xy (len := len) hb b (SP.snd b.dfl x) h.2)
  show (match jd back ((a.ins f len (SP.fst a.dfl x)).map zN), jd back ((b.ins f len (SP.snd b.dfl x)).map zN) with
   | some a, some b => some (DV.fn g a b)
   | _, _ => none) = _
  rw [h1, h2]; rfl
 | .agg _, x, h => by cases h
 | .tup _, x, h => by cases h
theorem a00 : ∀ {l' l : List TV}, All2 (exC back) l' l → QU back (l'.map qy) = some (l.map qy)
 | _, _, .nil => rfl
 | _, _, .cons h t => by simp only [List.map_cons, QU, show QT back _ = some _ from h.2.2, a00 t]
def ex1 (back : Sel) (d' d : TV) : Prop := ZR d' = true ∧ ZR d = true ∧ Xk back (zb d') = some (zb d)
theorem aei {d' d : TV} (h : exC back d' d) : ex1 back d' d := by
 refine ⟨a1S h.1, a1S h.2.1, ?_⟩
 rw [Ki h.1, Ki h.2.1]
 have := vq h.1
 unfold Xk
 split
 ·rename_i q; exact absurd q (this.1 _)
 ·exact h.2.2
theorem ac0 (hb : ∀ k, k < m → back[f k]? = some (some k)) (s : VS) : ∀ (x : s.T), s.fitA m = true → All2 (ex1 back) (s.ins f len x) (s.ins id len x) := by
 have base : ∀ (s : VS) (x : s.T), s.fitC m = true → All2 (ex1 back) (s.ins f len x) (s.ins id len x) := fun s x h => (v9 hb s x h).mono fun _ _ => aei
 induction s with
 | agg s _ =>
  intro x h
  refine .cons ⟨rfl, rfl, ?_⟩ .nil
  have h1 := a00 (v9 (len := len) hb s x h)
  show (QU back ((s.ins f len x).map qy)).map DV.agg = _
  rw [h1]; rfl
 | cons a b iha ihb =>
  intro x h
  simp only [VS.fitA, Bool.and_eq_true] at h
  exact (iha _ h.1).append (ihb _ h.2)
 | _ => intro x h; exact base _ x h
theorem a7l : ∀ {l' l : List TV}, All2 (ex1 back) l' l → vU back (l'.map zb) = some (l.map zb)
 | _, _, .nil => rfl
 | _, _, .cons h t => by simp only [List.map_cons, vU, show Xk back _ = some _ from h.2.2, a7l t]
def exD (back : Sel) (d' d : TV) : Prop := a4u back (enc d') = some (enc d)
theorem afD {d' d : TV} (h : ex1 back d' d) : exD back d' d := by
 unfold exD
 rw [J4 h.1, J4 h.2.1]
 unfold a4u
 split
 ·rename_i q
  have := h.1
  cases d' <;> first | (cases q; done) | cases this
 ·exact h.2.2
theorem ahY (hb : ∀ k, k < m → back[f k]? = some (some k)) (s : VS) : ∀ (x : s.T), s.fitT m = true → All2 (exD back) (s.ins f len x) (s.ins id len x) := by
 have base : ∀ (s : VS) (x : s.T), s.fitA m = true → All2 (exD back) (s.ins f len x) (s.ins id len x) := fun s x h => (ac0 hb s x h).mono fun _ _ => afD
 induction s with
 | tup s _ =>
  intro x h
  refine .cons ?_ .nil
  have h1 := a7l (ac0 (len := len) hb s x h)
  show (vU back ((s.ins f len x).map zb)).map DV.tup = _
  rw [h1]; rfl
 | cons a b iha ihb =>
  intro x h
  simp only [VS.fitT, Bool.and_eq_true] at h
  exact (iha _ h.1).append (ihb _ h.2)
 | _ => intro x h; exact base _ x h
def OS.fit (m : Nat) : OS → Bool
 | .st s => s.fitC m
 | .li _ _ _ => true
 | .mp _ => false
 | .dead => true
theorem aiB (hb : ∀ k, k < m → back[f k]? = some (some k)) : ∀ (o : OS) (x : o.T), o.fit m = true → YJ back (kQ (o.ins f len x)) (kQ (o.ins id len x))
 | .st s, x, h => a00 (v9 hb s x h)
 | .li _ _ _, x, _ => ⟨rfl, rfl⟩
 | .mp _, x, h => by cases h
 | .dead, x, _ => by
  show YJ back .dead .dead
  unfold YJ; trivial
theorem ac1 (hb : ∀ k, k < m → back[f k]? = some (some k)) : ∀ (os : List OS) (y : OS.Ts os), os.all (OS.fit m) = true → All2 (fun o' o => YJ back (kQ o') (kQ o)) (OS.inss f len os y) (OS.inss id len os y)
 | [], _, _ => .nil
 | o :: r, y, h => by
  simp only [List.all_cons, Bool.and_eq_true] at h
  exact .cons (aiB hb o _ h.1) (ac1 hb r _ h.2)
end
def JT (i : Nat) : List Nat → Nat → Option Nat
 | [], _ => none
 | x :: r, k => if x = i then some k else JT i r (k + 1)
theorem WC {i : Nat} : ∀ {l : List Nat} {k j : Nat}, JT i l k = some j → k ≤ j ∧ l[j - k]? = some i
 | [], k, j, h => by cases h
 | x :: r, k, j, h => by
  unfold JT at h
  split at h
  ·rename_i hx; cases h; subst hx; exact ⟨Nat.le_refl _, by simp⟩
  ·obtain ⟨h1, h2⟩ := WC h
   refine ⟨by omega, ?_⟩
   rw [show j - k = (j - (k + 1)) + 1 by omega]
   simpa using h2
theorem a1M {i : Nat} : ∀ {l : List Nat} {k : Nat}, JT i l k = none → i ∉ l
 | [], k, h => by simp
 | x :: r, k, h => by
  unfold JT at h
  split at h
  ·cases h
  ·rename_i hx
   intro hm
   rcases List.mem_cons.1 hm with rfl | hm
   ·exact hx rfl
   ·exact a1M h hm
theorem Ws {l : List Nat} (hn : l.Nodup) {i k : Nat} (h : l[k]? = some i) : JT i l 0 = some k := by
 cases hx : JT i l 0 with
 | none => exact absurd (List.mem_of_getElem? h) (a1M hx)
 | some j =>
  have := (WC hx).2
  rw [Nat.sub_zero] at this
  rw [Wv hn this h]
def stK (os : List OS) (k : Nat) : Bool := match os[k]? with
 | some (.st _) => true
 | _ => false
def VG (os : List OS) (m : Nat) : List Nat := (List.range m).filter fun k => !stK os k
def abc (os : List OS) (sel : List Nat) (n m k : Nat) : Nat := if stK os k then (sel[k]?).getD 0 else n + (JT k (VG os m) 0).getD 0
def a1Z (os : List OS) (sel : List Nat) (new : List TO) : List TO → Nat → List TO
 | [], _ => []
 | o :: r, i => (match JT i sel 0 with
  | some k => if stK os k then (new[k]?).getD .dead else .dead
  | none => o) :: a1Z os sel new r (i + 1)
def a2i (os : List OS) (sel : List Nat) : List TO → Nat → Sel
 | [], _ => []
 | o :: r, i => (match JT i sel 0 with
  | some k => if stK os k then some k else none
  | none => none) :: a2i os sel r (i + 1)
def KS (os : List OS) (sel : List Nat) (new : List TO) (L : List TO) : List TO := a1Z os sel new L 0 ++ (VG os new.length).map fun k => (new[k]?).getD .dead
def Qh (os : List OS) (sel : List Nat) (m : Nat) (L : List TO) : Sel := a2i os sel L 0 ++ (VG os m).map some
section
variable {os : List OS} {sel : List Nat} {new : List TO}
theorem yA : ∀ (L : List TO) (i : Nat), (a1Z os sel new L i).length = L.length
 | [], _ => rfl
 | o :: r, i => by simp [a1Z, yA r]
theorem wI : ∀ (L : List TO) (i : Nat), (a2i os sel L i).length = L.length
 | [], _ => rfl
 | o :: r, i => by simp [a2i, wI r]
theorem a1F : ∀ (L : List TO) (i j : Nat) (o : TO), L[j]? = some o → (a1Z os sel new L i)[j]? = some (match JT (i + j) sel 0 with
  | some k => if stK os k then (new[k]?).getD .dead else .dead
  | none => o)
 | [], i, j, o, h => by simp at h
 | x :: r, i, j, o, h => by
  cases j with
  | zero => simp at h; subst h; rfl
  | succ j =>
   simp only [a1Z, List.getElem?_cons_succ]
   rw [a1F r (i + 1) j o (by simpa using h), show i + 1 + j = i + (j + 1) by omega]
theorem VC : ∀ (L : List TO) (i j : Nat), j < L.length → (a2i os sel L i)[j]? = some (match JT (i + j) sel 0 with
  | some k => if stK os k then some k else none
  | none => none)
 | [], i, j, h => by simp at h
 | x :: r, i, j, h => by
  cases j with
  | zero => rfl
  | succ j =>
   simp only [a2i, List.getElem?_cons_succ]
   rw [VC r (i + 1) j (by simpa using h), show i + 1 + j = i + (j + 1) by omega]
theorem u5 (os : List OS) (m : Nat) : (VG os m).Nodup := List.nodup_range.filter _
theorem Vl {m k : Nat} : k ∈ VG os m ↔ k < m ∧ stK os k = false := by simp [VG]
theorem ahA {n m k : Nat} {L : List TO} (hn : sel.Nodup) (hl : L.length = n) (hlt : ∀ i ∈ sel, i < n) (hs : ∀ k, stK os k = true → k < sel.length) (hk : k < m) : (Qh os sel m L)[abc os sel n m k]? = some (some k) := by
 unfold abc Qh
 cases hst : stK os k with
 | true =>
  have hks := hs k hst
  have h1 : sel[k]? = some sel[k] := List.getElem?_eq_getElem hks
  have h2 : sel[k] < n := hlt _ (List.getElem_mem hks)
  simp only [if_true, h1, Option.getD_some]
  rw [List.getElem?_append_left (by rw [wI, hl]; exact h2), VC _ _ _ (by rw [hl]; exact h2), Nat.zero_add, Ws hn h1]
  simp [hst]
 | false =>
  have hm : k ∈ VG os m := Vl.2 ⟨hk, hst⟩
  obtain ⟨j, hj⟩ := List.mem_iff_getElem?.1 hm
  have hx := Ws (u5 os m) hj
  simp only [Bool.false_eq_true, if_false, hx, Option.getD_some]
  rw [List.getElem?_append_right (by rw [wI, hl]; omega), wI, hl, Nat.add_sub_cancel_left, List.getElem?_map, hj]
  rfl
theorem aeQ {P : Program} {L : List TO} {A A' : List Obj} {old : List TO} (hn : sel.Nodup) (hlt : ∀ i ∈ sel, i < L.length) (hs : ∀ k, stK os k = true → k < sel.length) (hA : ∀ k, stK os k = true ↔ ∃ c, A[k]? = some (.st c)) (hm : sel.length ≤ new.length)
  (hA' : A' = eL old) (hr : All2 (fun o' o => YJ (Qh os sel new.length L) (kQ o') (kQ o)) new old) : Merge (eL L) sel A A' (Qh os sel new.length L) (eL (KS os sel new L)) := by
 have hlen : new.length = old.length := hr.length
 have gl : ∀ {i : Nat}, i < L.length → (Qh os sel new.length L)[i]? = some (match JT i sel 0 with
   | some k => if stK os k then some k else none
   | none => none) := fun {i} h => by
  unfold Qh
  rw [List.getElem?_append_left (by rw [wI]; exact h), VC _ _ _ h, Nat.zero_add]
 have gr : ∀ {j : Nat}, (Qh os sel new.length L)[L.length + j]? = ((VG os new.length)[j]?).map some := fun {j} => by
  unfold Qh
  rw [List.getElem?_append_right (by rw [wI]; omega), wI, Nat.add_sub_cancel_left, List.getElem?_map]
 have ol : ∀ {i : Nat} {o : TO}, L[i]? = some o → (KS os sel new L)[i]? = some (match JT i sel 0 with
   | some k => if stK os k then (new[k]?).getD .dead else .dead
   | none => o) := fun {i o} h => by
  unfold KS
  rw [List.getElem?_append_left (by rw [yA]; exact (List.getElem?_eq_some_iff.1 h).1), a1F _ _ _ _ h, Nat.zero_add]
 have or' : ∀ {j : Nat}, (KS os sel new L)[L.length + j]? = ((VG os new.length)[j]?).map fun k => (new[k]?).getD .dead := fun {j} => by
  unfold KS
  rw [List.getElem?_append_right (by rw [yA]; omega), yA, Nat.add_sub_cancel_left, List.getElem?_map]
 have back : ∀ {i k : Nat}, (Qh os sel new.length L)[i]? = some (some k) → (i < L.length ∧ sel[k]? = some i ∧ stK os k = true) ∨ (L.length ≤ i ∧ (VG os new.length)[i - L.length]? = some k) := by
  intro i k h
  by_cases hi : i < L.length
  ·rw [gl hi] at h
   cases hx : JT i sel 0 with
   | none => rw [hx] at h; cases h
   | some k' =>
    rw [hx] at h
    simp only at h
    split at h
    ·rename_i hst
     cases h
     have := (WC hx).2
     rw [Nat.sub_zero] at this
     exact .inl ⟨hi, this, hst⟩
    ·cases h
  ·have hj : i = L.length + (i - L.length) := by omega
   rw [hj, gr] at h
   cases hx : (VG os new.length)[i - L.length]? with
   | none => rw [hx] at h; cases h
   | some k' => rw [hx] at h; cases h; exact .inr ⟨by omega, by first | exact hx | rfl⟩
 have geteL : ∀ {l : List TO} {i : Nat}, (eL l)[i]? = (l[i]?).map kQ := fun {l i} => by unfold eL; rw [List.getElem?_map]
 have hnew : ∀ {k : Nat}, k < new.length → ∃ o' o, new[k]? = some o' ∧ old[k]? = some o ∧ YJ (Qh os sel new.length L) (kQ o') (kQ o) := fun {k} h => by
  obtain ⟨o, h1, h2⟩ := hr.get (List.getElem?_eq_getElem h)
  exact ⟨_, o, List.getElem?_eq_getElem h, h1, h2⟩
 have hdom : ∀ {i : Nat}, i < L.length → ∃ o, L[i]? = some o := fun {i} h => ⟨_, List.getElem?_eq_getElem h⟩
 refine ⟨?_, ?_, fun i hi hn' => ?_, fun k i c h1 h2 => ?_, fun k i h1 h2 => ?_, fun i k h => ?_, fun i h1 h2 => ?_, fun i j k h1 h2 => ?_⟩
 ·simp [Qh, KS, zW, wI, yA]
 ·simp [KS, zW, yA]
 ·rw [zW] at hi
  have hx : JT i sel 0 = none := by
   cases hx : JT i sel 0 with
   | none => rfl
   | some k => exact absurd (List.mem_of_getElem? (WC hx).2) hn'
  obtain ⟨o, ho⟩ := hdom hi
  refine ⟨by rw [gl hi, hx], ?_⟩
  rw [geteL, geteL, ol ho, hx, ho]
 ·have hi := hlt i (List.mem_of_getElem? h1)
  rw [gl hi, Ws hn h1]
  simp only
  rw [if_pos ((hA k).2 ⟨c, h2⟩)]
 ·have hi := hlt i (List.mem_of_getElem? h1)
  have hst : ¬ stK os k = true := fun q => by obtain ⟨c, hc⟩ := (hA k).1 q; exact h2 c hc
  obtain ⟨o, ho⟩ := hdom hi
  refine ⟨?_, ?_⟩
  ·rw [geteL, ol ho, Ws hn h1]
   simp only
   rw [if_neg hst]; rfl
  ·rw [gl hi, Ws hn h1]
   simp only
   rw [if_neg hst]
 ·subst hA'
  rcases back h with ⟨h1, h2, h3⟩ | ⟨h1, h2⟩
  ·have hk : k < new.length := by have := (List.getElem?_eq_some_iff.1 h2).1; omega
   obtain ⟨o', o, e1, e2, e3⟩ := hnew hk
   obtain ⟨x, hx⟩ := hdom h1
   refine ⟨.inl (List.mem_of_getElem? h2), kQ o, kQ o', by rw [geteL, e2]; rfl, ?_, e3⟩
   rw [geteL, ol hx, Ws hn h2]
   simp only
   rw [if_pos h3, e1]; rfl
  ·have hk : k < new.length := (Vl.1 (List.mem_of_getElem? h2)).1
   obtain ⟨o', o, e1, e2, e3⟩ := hnew hk
   refine ⟨.inr (by rw [zW]; exact h1), kQ o, kQ o', by rw [geteL, e2]; rfl, ?_, e3⟩
   rw [geteL, show i = L.length + (i - L.length) by omega, or', h2]
   simp only [Option.map_some, e1, Option.getD_some]
 ·rw [zW] at h1
  have h2' : i - L.length < (VG os new.length).length := by
   simp only [KS, zW, List.length_append, yA, List.length_map] at h2
   omega
  obtain ⟨k, hk⟩ : ∃ k, (VG os new.length)[i - L.length]? = some k := ⟨_, List.getElem?_eq_getElem h2'⟩
  refine ⟨k, ?_⟩
  rw [show i = L.length + (i - L.length) by omega, gr, hk]
  rfl
 ·rcases back h1 with ⟨a1, a2, a3⟩ | ⟨a1, a2⟩ <;> rcases back h2 with ⟨b1, b2, b3⟩ | ⟨b1, b2⟩
  ·rw [a2] at b2; cases b2; rfl
  ·have := (Vl.1 (List.mem_of_getElem? b2)).2
   rw [a3] at this; cases this
  ·have := (Vl.1 (List.mem_of_getElem? a2)).2
   rw [b3] at this; cases this
  ·have := Wv (u5 os new.length) a2 b2
   omega
end
open Go.RowKit
def a7T (P : Program) (x : TV) (c : CT) (L : List TO) : TV × List TO × List (Nat × Nat) := match x with
 | .v (.slice none 0 0) => (.sl c [], L, [])
 | .part id lo n tot => match L[id]? with
  | some (.li c e loc xs) => (x, L.set id (.fz c e loc xs), [])
  | _ => (x, L, [])
 | x => a5o P L x
def a1r (P : Program) : VS → List TV → List TO → List TV × List TV × List TO × List (Nat × Nat)
 | .sl c, l, L => match l with
  | [] => ([], [], L, [])
  | x :: r => match a7T P x c L with
   | (x', L', q) => ([x'], r, L', q)
 | .nil, l, L => ([], l, L, [])
 | .cons a b, l, L => match a1r P a l L with
  | (l1, r, L1, q1) => match a1r P b r L1 with
   | (l2, r2, L2, q2) => (l1 ++ l2, r2, L2, q1 ++ q2)
 | _, l, L => match l with
  | [] => ([], [], L, [])
  | x :: r => ([x], r, L, [])
def VO (P : Program) : VS → List TV → List TO → List TV × List TV × List TO × List (Nat × Nat)
 | .agg s, l, L => match l with
  | .agg xs :: r => match a1r P s xs L with
   | (l1, r1, L1, q) => ([.agg (l1 ++ r1)], r, L1, q)
  | [] => ([], [], L, [])
  | x :: r => ([x], r, L, [])
 | .sl c, l, L => match l with
  | [] => ([], [], L, [])
  | x :: r => if isC x then (match a7T P x c L with
   | (x', L', q) => ([x'], r, L', q)) else ([x], r, L, [])
 | .nil, l, L => ([], l, L, [])
 | .cons a b, l, L => match VO P a l L with
  | (l1, r, L1, q1) => match VO P b r L1 with
   | (l2, r2, L2, q2) => (l1 ++ l2, r2, L2, q1 ++ q2)
 | _, l, L => match l with
  | [] => ([], [], L, [])
  | x :: r => ([x], r, L, [])
section
variable {P : Program} {γ : Pl} {h : Heap} {h0 : Heap} {W0 : Ent}
theorem FrzOk.refl {L : List TO} (H : Hp P h0 W0 γ (eL L) h) : FrzOk P h0 W0 γ L h L := ⟨H, Carry.refl _ _ _⟩
theorem FrzOk.trans {L L1 L2 : List TO} (a : FrzOk P h0 W0 γ L h L1) (b : FrzOk P h0 W0 γ L1 h L2) : FrzOk P h0 W0 γ L h L2 := ⟨b.1, a.2.trans' b.2⟩
theorem a0e {L : List TO} (H : Hp P h0 W0 γ (eL L) h) {x x' : TV} {c : CT} {v : Value} {L' : List TO} {q : List (Nat × Nat)} (hd : DC P (qe W0 γ (eL L) h) γ (eL L) h (qy x) v) (e : a7T P x c L = (x', L', q)) (hq : ∀ p ∈ q, p.1 = p.2) :
  FrzOk P h0 W0 γ L h L' ∧ DC P (qe W0 γ (eL L') h) γ (eL L') h (qy x') v := by
 unfold a7T at e
 split at e
 ·cases e
  refine ⟨.refl H, ?_⟩
  have : v = .slice none 0 0 := PR.scal (P := P) (S := qe W0 γ (eL L) h) (h := h) hd
  subst this
  exact PR.nil
 ·rename_i id lo n tot
  split at e
  ·rename_i c' te loc xs hL
   cases e
   have hi : (eL L)[id]? = some (.li (eo loc te xs.length) (xs.map (qT c'))) := zg hL
   obtain ⟨H', cc⟩ := VX H hi
   rw [show (eL L).set id (.fz (eo loc te xs.length) (xs.map (qT c'))) = eL (L.set id (.fz c' te loc xs)) from (QZ L id (.fz c' te loc xs)).symm] at H' cc
   exact ⟨⟨H', cc⟩, cc.dc hd⟩
  ·cases e; exact ⟨.refl H, hd⟩
 ·exact YQ H hd e hq
theorem a8D : ∀ (s : VS) {L : List TO} {l l1 r : List TV} {vs : List Value} {L' : List TO} {q : List (Nat × Nat)}, Hp P h0 W0 γ (eL L) h → All2 (DC P (qe W0 γ (eL L) h) γ (eL L) h) (l.map qy) vs → a1r P s l L = (l1, r, L', q) → (∀ p ∈ q, p.1 = p.2) →
  FrzOk P h0 W0 γ L h L' ∧ All2 (DC P (qe W0 γ (eL L') h) γ (eL L') h) ((l1 ++ r).map qy) vs := by
 intro s
 have other : ∀ {L : List TO} {l l1 r : List TV} {vs : List Value} {L' : List TO} {q : List (Nat × Nat)}, Hp P h0 W0 γ (eL L) h → All2 (DC P (qe W0 γ (eL L) h) γ (eL L) h) (l.map qy) vs → (match l with | [] => ([], [], L, []) | x :: r => ([x], r, L, []) : List TV × List TV × List TO × List (Nat × Nat)) = (l1, r, L', q) →
   FrzOk P h0 W0 γ L h L' ∧ All2 (DC P (qe W0 γ (eL L') h) γ (eL L') h) ((l1 ++ r).map qy) vs := by
  intro L l l1 r vs L' q H hd e
  cases l with
  | nil => cases e; exact ⟨.refl H, hd⟩
  | cons x l => cases e; exact ⟨.refl H, hd⟩
 induction s with
 | sl c =>
  intro L l l1 r vs L' q H hd e hq
  simp only [a1r] at e
  cases l with
  | nil => cases e; exact ⟨.refl H, hd⟩
  | cons x l =>
   cases h1 : a7T P x c L with
   | mk x1 rest =>
    obtain ⟨L1, q1⟩ := rest
    simp only [h1] at e
    cases e
    cases hd with
    | cons hx ht =>
     obtain ⟨a, b⟩ := a0e H hx h1 hq
     exact ⟨a, .cons b (ht.mono fun _ _ => a.2.dc)⟩
 | nil =>
  intro L l l1 r vs L' q H hd e hq
  simp only [a1r] at e
  cases e
  exact ⟨.refl H, hd⟩
 | cons a b iha ihb =>
  intro L l l1 r vs L' q H hd e hq
  simp only [a1r] at e
  cases h1 : a1r P a l L with
  | mk m1 rest1 =>
   obtain ⟨r1, L1, q1⟩ := rest1
   cases h2 : a1r P b r1 L1 with
   | mk m2 rest2 =>
    obtain ⟨r2, L2, q2⟩ := rest2
    simp only [h1, h2] at e
    cases e
    obtain ⟨a1, a2⟩ := iha H hd h1 fun p hp => hq p (by simp [hp])
    rw [List.map_append] at a2
    obtain ⟨vs1, vs2, hv, c1, c2⟩ : ∃ vs1 vs2, vs = vs1 ++ vs2 ∧ All2 (DC P (qe W0 γ (eL L1) h) γ (eL L1) h) (m1.map qy) vs1 ∧ All2 (DC P (qe W0 γ (eL L1) h) γ (eL L1) h) (r1.map qy) vs2 := by
     refine ⟨vs.take (m1.map qy).length, vs.drop (m1.map qy).length, (List.take_append_drop _ _).symm, ?_, ?_⟩
     ·have := a2.take (m1.map qy).length
      simpa using this
     ·have := a2.drop (m1.map qy).length
      simpa using this
    subst hv
    obtain ⟨b1, b2⟩ := ihb a1.1 c2 h2 fun p hp => hq p (by simp [hp])
    refine ⟨a1.trans b1, ?_⟩
    rw [List.append_assoc, List.map_append]
    exact (c1.mono fun _ _ => b1.2.dc).append b2
 | _ => intro L l l1 r vs L' q H hd e hq; exact other H hd e
theorem a33 {S : Nat → Prop} {L : List Obj} {x : TV} {v : Value} (hc : isC x = true) : DR P S γ L h (enc x) v ↔ DC P S γ L h (qy x) v := by
 rw [ZG hc]
 cases x <;> first | exact Iff.rfl | cases hc
theorem adD {x x' : TV} {c : CT} {L L' : List TO} {q : List (Nat × Nat)} (hc : isC x = true) (e : a7T P x c L = (x', L', q)) : isC x' = true := by
 unfold a7T at e
 split at e
 ·cases e; rfl
 ·split at e <;> (cases e; rfl)
 ·unfold a5o at e
  split at e
  ·split at e
   ·split at e <;> (cases e; rfl)
   ·split at e <;> (cases e; rfl)
   ·cases e; rfl
  ·cases e; exact hc
theorem a8c : ∀ (s : VS) {L : List TO} {l l1 r : List TV} {vs : List Value} {L' : List TO} {q : List (Nat × Nat)}, Hp P h0 W0 γ (eL L) h → All2 (DR P (qe W0 γ (eL L) h) γ (eL L) h) (l.map enc) vs → VO P s l L = (l1, r, L', q) → (∀ p ∈ q, p.1 = p.2) →
  FrzOk P h0 W0 γ L h L' ∧ All2 (DR P (qe W0 γ (eL L') h) γ (eL L') h) ((l1 ++ r).map enc) vs := by
 intro s
 have other : ∀ {L : List TO} {l l1 r : List TV} {vs : List Value} {L' : List TO} {q : List (Nat × Nat)}, Hp P h0 W0 γ (eL L) h → All2 (DR P (qe W0 γ (eL L) h) γ (eL L) h) (l.map enc) vs → (match l with | [] => ([], [], L, []) | x :: r => ([x], r, L, []) : List TV × List TV × List TO × List (Nat × Nat)) = (l1, r, L', q) →
   FrzOk P h0 W0 γ L h L' ∧ All2 (DR P (qe W0 γ (eL L') h) γ (eL L') h) ((l1 ++ r).map enc) vs := by
  intro L l l1 r vs L' q H hd e
  cases l with
  | nil => cases e; exact ⟨.refl H, hd⟩
  | cons x l => cases e; exact ⟨.refl H, hd⟩
 induction s with
 | agg s _ =>
  intro L l l1 r vs L' q H hd e hq
  simp only [VO] at e
  split at e
  ·rename_i xs r'
   cases h1 : a1r P s xs L with
   | mk m1 rest =>
    obtain ⟨r1, L1, q1⟩ := rest
    simp only [h1] at e
    cases e
    cases hd with
    | cons hx ht =>
     obtain ⟨us, rfl, hu⟩ := hx
     obtain ⟨a, b⟩ := a8D s H hu h1 hq
     exact ⟨a, .cons ⟨us, rfl, b⟩ (ht.mono fun _ _ => a.2.dr)⟩
  ·cases e; exact ⟨.refl H, hd⟩
  ·cases e; exact ⟨.refl H, hd⟩
 | sl c =>
  intro L l l1 r vs L' q H hd e hq
  simp only [VO] at e
  cases l with
  | nil => cases e; exact ⟨.refl H, hd⟩
  | cons x l =>
   simp only at e
   split at e
   ·rename_i hc
    cases h1 : a7T P x c L with
    | mk x1 rest =>
     obtain ⟨L1, q1⟩ := rest
     simp only [h1] at e
     cases e
     cases hd with
     | cons hx ht =>
      obtain ⟨a, b⟩ := a0e H ((a33 hc).1 hx) h1 hq
      exact ⟨a, .cons ((a33 (adD hc h1)).2 b) (ht.mono fun _ _ => a.2.dr)⟩
   ·cases e; exact ⟨.refl H, hd⟩
 | nil =>
  intro L l l1 r vs L' q H hd e hq
  simp only [VO] at e
  cases e
  exact ⟨.refl H, hd⟩
 | cons a b iha ihb =>
  intro L l l1 r vs L' q H hd e hq
  simp only [VO] at e
  cases h1 : VO P a l L with
  | mk m1 rest1 =>
   obtain ⟨r1, L1, q1⟩ := rest1
   cases h2 : VO P b r1 L1 with
   | mk m2 rest2 =>
    obtain ⟨r2, L2, q2⟩ := rest2
    simp only [h1, h2] at e
    cases e
    obtain ⟨a1, a2⟩ := iha H hd h1 fun p hp => hq p (by simp [hp])
    rw [List.map_append] at a2
    obtain ⟨vs1, vs2, hv, c1, c2⟩ : ∃ vs1 vs2, vs = vs1 ++ vs2 ∧ All2 (DR P (qe W0 γ (eL L1) h) γ (eL L1) h) (m1.map enc) vs1 ∧ All2 (DR P (qe W0 γ (eL L1) h) γ (eL L1) h) (r1.map enc) vs2 := by
     refine ⟨vs.take (m1.map enc).length, vs.drop (m1.map enc).length, (List.take_append_drop _ _).symm, ?_, ?_⟩
     ·have := a2.take (m1.map enc).length
      simpa using this
     ·have := a2.drop (m1.map enc).length
      simpa using this
    subst hv
    obtain ⟨b1, b2⟩ := ihb a1.1 c2 h2 fun p hp => hq p (by simp [hp])
    refine ⟨a1.trans b1, ?_⟩
    rw [List.append_assoc, List.map_append]
    exact (c1.mono fun _ _ => b1.2.dr).append b2
 | _ => intro L l l1 r vs L' q H hd e hq; exact other H hd e
end
def a4C (P : Program) (L : List TO) : (s : VS) → List TV → Bd → Option (s.T × List TV × Bd)
 | .sl c, l, B => match l with
  | .part id lo n tot :: r => match L[id]? with
   | some (.fz c' e _ xs) => if szT P e = some c.size then (if h : c'.eqb c = true then some ((List.drop lo (wO (CT.of_eqb h) xs)).take n, r, ⟨B.b, (xs.length, tot) :: B.eqs, B.used⟩) else none) else none
   | _ => none
  | .slx c' xs :: r => if h : c'.eqb c = true then some (wO (CT.of_eqb h) xs, r, B) else none
  | l => yw P L 0 (.sl c) l B
 | .agg s, l, B => match l with
  | .agg xs :: r => match yw P L 0 s xs B with
   | some (x, [], B') => some (x, r, B')
   | _ => none
  | _ => none
 | .cons a b, l, B => match a4C P L a l B with
  | some (x, l', B') => match a4C P L b l' B' with
   | some (y, l'', B'') => some (SP.mk x y, l'', B'')
   | none => none
  | none => none
 | s, l, B => yw P L 0 s l B
section
variable {P : Program} {L : List TO} {sel : Sel} {len : Nat → Nat}
theorem aed {d' d : TV} (h : rC P L sel 0 d' d) : uK P (eL L) sel (enc d') (enc d) := by
 have h3 : QT sel (qy d') = some (qy d) := h.2.2
 rw [ZG h.1, ZG h.2.1]
 have hu : a4u sel (qy d') = some (qy d) := by
  have := vq h.1
  unfold a4u
  split
  ·rename_i q; exact absurd q (this.2 _)
  ·unfold Xk
   split
   ·rename_i q; exact absurd q (this.1 _)
   ·exact h3
 unfold uK
 split
 ·rename_i h1 h2
  rw [h1] at h3
  have h4 : some (DV.p (.sl _ _)) = some (qy d) := h3
  rw [h2] at h4
  cases h4
 ·rename_i h1 h2
  rw [h1, h2] at h3
  cases h3
 ·rename_i h1 h2
  rw [h1, h2] at h3
  cases h3
 ·exact hu
theorem aag (s : VS) : ∀ {l r : List TV} {B B' : Bd} {p : s.T}, a4C P L s l B = some (p, r, B') → B.le B' ∧ (WellB L sel len B' → ∃ l0, l = l0 ++ r ∧ All2 (fun d' d => uK P (eL L) sel (enc d') (enc d)) (s.ins id len p) l0) := by
 have base : ∀ (s : VS) {l r : List TV} {B B' : Bd} {p : s.T}, yw P L 0 s l B = some (p, r, B') → B.le B' ∧ (WellB L sel len B' → ∃ l0, l = l0 ++ r ∧ All2 (fun d' d => uK P (eL L) sel (enc d') (enc d)) (s.ins id len p) l0) := by
  intro s l r B B' p h
  obtain ⟨h1, h2⟩ := jb (sel := sel) (len := len) 0 s h
  refine ⟨h1, fun g => ?_⟩
  obtain ⟨l0, e, q⟩ := h2 g
  exact ⟨l0, e, q.mono fun _ _ => aed⟩
 induction s with
 | sl c =>
  intro l r B B' p h
  simp only [a4C] at h
  split at h
  ·rename_i id lo n tot r'
   split at h
   ·rename_i c' te loc xs hL
    split at h
    ·rename_i hz
     split at h
     ·rename_i hc
      have := CT.of_eqb hc
      subst this
      cases h
      refine ⟨⟨fun _ _ e => e, fun _ e => List.mem_cons_of_mem _ e, fun _ e => e, rfl⟩, fun g => ?_⟩
      have ht : xs.length = tot := g.eqs _ List.mem_cons_self
      refine ⟨[_], rfl, .cons ?_ .nil⟩
      show uK P (eL L) sel (.p (.sl _ _)) (.ref id lo n tot)
      refine ⟨⟨_, _, zg hL⟩, _, Qu hL ht, by rw [a1N, List.map_take, List.map_drop], by rw [zg hL]; exact UH hz⟩
     ·cases h
    ·cases h
   ·cases h
  ·rename_i c' xs r'
   split at h
   ·rename_i hc
    have := CT.of_eqb hc
    subst this
    cases h
    exact ⟨Bd.le_refl _, fun g => ⟨[_], rfl, .cons (show uK P (eL L) sel (.p (.sl _ _)) (.cx _ _) from ⟨rfl, rfl⟩) .nil⟩⟩
   ·cases h
  ·exact base _ h
 | agg s _ =>
  intro l r B B' p h
  simp only [a4C] at h
  split at h
  ·rename_i xs r'
   split at h
   ·rename_i x B1 h1
    cases h
    obtain ⟨a1, a2⟩ := jb (sel := sel) (len := len) 0 s h1
    refine ⟨a1, fun g => ?_⟩
    obtain ⟨l0, e, q⟩ := a2 g
    rw [List.append_nil] at e
    subst e
    have hu : QU sel ((s.ins id len p).map qy) = some (xs.map qy) := afm (m := 0) (.inl rfl) q
    refine ⟨[_], rfl, .cons ?_ .nil⟩
    show a4u sel (.agg ((s.ins id len p).map qy)) = some (.agg (xs.map qy))
    show (QU sel ((s.ins id len p).map qy)).map DV.agg = _
    rw [hu]; rfl
   ·cases h
  ·cases h
 | cons a b iha ihb =>
  intro l r B B' p h
  simp only [a4C] at h
  split at h
  ·rename_i x l' B1 h1
   split at h
   ·rename_i y l'' B2 h2
    cases h
    obtain ⟨a1, a2⟩ := iha h1
    obtain ⟨b1, b2⟩ := ihb h2
    refine ⟨Bd.le_trans a1 b1, fun g => ?_⟩
    obtain ⟨m1, rfl, q1⟩ := a2 (g.le b1)
    obtain ⟨m2, rfl, q2⟩ := b2 g
    refine ⟨m1 ++ m2, by simp, ?_⟩
    show All2 _ (a.ins id len (SP.fst a.dfl (SP.mk x y)) ++ b.ins id len (SP.snd b.dfl (SP.mk x y))) _
    rw [SP.fst_mk fun q => VS.triv_dfl a q x, SP.snd_mk fun q => VS.triv_dfl b q y]
    exact q1.append q2
   ·cases h
  ·cases h
 | _ => intro l r B B' p h; exact base _ h
end
abbrev Y0_ : Type := List (Int × ((Int × Int) × (Int × (Int × (Int × Int)))))
abbrev Y1_ : List OS := [.st (.cons (.ptr 1 0) (.cons (.int .u8) (.cons (.int .u8) (.cons (.int .u8) (.cons (.int .i64) (.cons (.int .i64) (.cons (.own 3) (.cons (.int .u8) (.cons (.int .u8) (.cons (.int .u8) .bool)))))))))), .st (.cons (.int .i64) (.cons (.int .i64) (.cons (.own 2) (.int .i64)))), .li (.sl (.pair (.int .i32) (.pair (.pair (.int .i32) (.int .i32)) (.pair (.int .u8) (.pair (.int .u8) (.pair (.int .u8) (.int .u8))))))) 104 false, .li (.int .i64) 3 false]
abbrev Y2_ : CT := .pair (.int .i64) (.pair (.pair (.int .i64) (.int .i64)) (.pair (.int .u8) (.pair (.int .u8) (.pair (.int .u8) (.int .u8)))))
abbrev Y3_ : CT := .pair (.int .i32) (.pair (.pair (.int .i32) (.int .i32)) (.pair (.int .u8) (.pair (.int .u8) (.pair (.int .u8) (.int .u8)))))
abbrev Y4_ : VS := .cons (.sl (.sl Y2_)) (.cons (.int .i64) (.cons (.int .i64) (.cons (.int .i64) (.cons (.sl (.int .i64)) (.cons (.sl (.int .u8)) (.cons (.int .u8) (.cons (.int .u8) (.cons (.int .u8) .bool))))))))
abbrev Y5_ : Type := (List Y0_) × (Int × (Int × (Int × ((List Int) × ((List Int) × (Int × (Int × (Int × Bool))))))))
abbrev Y6_ : Type := Int × (Int × Int)
abbrev Y7_ : Type := Int × (Int × (Int × (Int × (Int × (Int × (Int × (Int × Bool)))))))
abbrev Y8_ : VS := .cons (.int .u8) (.cons (.int .u8) (.int .u8))
abbrev Y9_ : List OS := [.st Y4_, .st (.cons (.int .i64) (.cons (.int .i64) (.sl (.int .i64)))), .st (.cons (.cst (.slice none 0 0)) (.cons (.int .i64) (.cons (.int .i64) (.cons (.int .i64) (.cons (.cst (.slice none 0 0)) (.cons (.cst (.slice none 0 0)) (.cons (.int .u8) (.cons (.int .u8) (.cons (.int .u8) .bool)))))))))]
abbrev yM : List OS := [.st (.cons (.int .i64) (.cons (.int .i64) (.cons (.own 1) (.int .i64)))), .li (.sl Y3_) 104 false]
abbrev yk : VS := .cons (.int .i64) (.int .i64)
abbrev yh : Type := Y7_ × (Y6_ × ((List Y0_) × (List Int)))
abbrev a04 : Type := Y5_ × ((Int × (Int × (List Int))) × (Int × (Int × (Int × (Int × (Int × (Int × Bool)))))))
abbrev Xs : VS := .cons (.int .i64) (.cons (.int .i64) (.cons (.int .i64) (.cons (.int .u8) Y8_)))
abbrev we : Type := (List Y0_) × (Int × Int)
abbrev a0P : VS := .cons (.int .i32) (.cons (.int .i32) (.cons (.int .i32) (.cons (.int .u8) Y8_)))
abbrev agi : VS := .cons (.int .u8) (.cons (.int .u8) (.cons (.int .u8) (.cons (.int .i64) (.cons (.int .i64) (.cons (.own 3) (.cons (.int .u8) (.cons (.int .u8) (.cons (.int .u8) .bool))))))))
abbrev y6 : Type := Int × (Int × (List Int))
abbrev Vy : VS := .cons (.int .i64) (.cons (.int .i32) (.sl (.int .i64)))
abbrev Y1 : Type := Int × (Int × (Int × (Int × Y6_)))
abbrev Z3 : VS := .cons (.sl (.sl Y2_)) yk
abbrev alh : VS := .cons (.cst (.slice none 0 0)) (.cons (.int .i64) (.cons (.int .i64) (.cons (.int .i64) (.cons (.cst (.slice none 0 0)) (.cons (.cst (.slice none 0 0)) (.cons (.int .u8) (.cons (.int .u8) (.cons (.int .u8) .bool))))))))
abbrev QY : Type := Y6_ × (List Y0_)
abbrev af5 : VS := .cons (.ptr 0 0) (.cons (.ptr 1 0) (.cons (.ptr 2 0) (.cons (.int .i64) (.cons (.int .i64) yk))))
abbrev aeT : VS := .cons (.sl (.int .i64)) (.cons (.ptr 0 0) (.cons (.ptr 1 0) (.cons (.int .i64) yk)))
abbrev a1f : Type := Int × (Int × (Int × (Int × Bool)))
abbrev akz : VS := .cons (.ptr 0 0) (.cons (.ptr 1 0) (.cons (.ptr 2 0) (.cons (.int .i64) (.cons (.int .i64) (.cons (.int .i64) (.cons (.int .i64) .bool))))))
abbrev uR : Type := (Int × Int) × (List Y0_)
abbrev alT : List OS := [.st (.cons (.int .i64) (.cons (.int .i64) (.cons (.own 1) (.int .i64)))), .li (.sl Y3_) 104 false, .st (.cons (.int .i64) (.cons (.int .i64) (.cons (.own 3) (.int .i64)))), .li (.sl Y3_) 104 false]
abbrev ajd : VS := .cons (.int .i64) (.cons (.int .i64) (.cons (.own 2) (.int .i64)))
abbrev a4A : Type := (List Int) × Y6_
abbrev a2z : Type := (List Int) × Int
abbrev aji : CT := .pair (.int .i64) (.pair (.int .i32) (.sl (.int .i64)))
abbrev ajX : VS := .cons (.int .i64) (.cons (.int .i64) (.sl (.int .i64)))
abbrev a9j : Type := Y6_ × ((List Y0_) × QY)
abbrev ai9 : VS := .cons (.int .i64) (.cons (.int .i64) (.agg Y8_))
abbrev ajC : VS := .cons (.ptr 0 0) (.cons (.ptr 1 0) (.int .i64))
abbrev ahn : VS := .cons (.cst (.slice none 0 0)) yk
abbrev a7u : List OS := [.st Y8_, .st Y8_]
abbrev aci : Type := (a4A × (Y6_ × Y6_)) ⊕ ((a2z × (Y6_ × Y6_)) ⊕ Y6_)
def kk {A B : Type} (l : List A) (x : Option B) : Option B := bif decide (l.length = l.length) then x else none
theorem q8 {A B : Type} (l : List A) (x : Option B) : kk l x = x := by unfold kk; simp
open Go.RowKit
def Uq : List (Option (Option Nat)) → Option (List Nat)
 | [] => some []
 | x :: r => match x, Uq r with
  | some (some y), some ys => some (y :: ys)
  | _, _ => none
theorem uz : ∀ {b : List (Option (Option Nat))} {l : List Nat}, Uq b = some l → US b = some (l.map some)
 | [], l, h => by cases h; rfl
 | x :: r, l, h => by
  unfold Uq at h
  split at h
  ·rename_i y ys h1
   cases h
   unfold US
   rw [uz h1]
   rfl
  ·cases h
theorem abA (f g : Nat → Nat) : ∀ (os : List OS) (y : OS.Ts os) (k : Nat), stK os k = true ↔ ∃ c, (eL (OS.inss f g os y))[k]? = some (.st c)
 | [], y, k => by simp [stK, OS.inss, eL]
 | o :: r, y, k => by
  cases k with
  | zero => cases o <;> simp [stK, OS.inss, eL, OS.ins, kQ, mpO]
  | succ k =>
   have := abA f g r (SP.snd (OS.dfls r) y) k
   simp only [stK, List.getElem?_cons_succ] at this ⊢
   simpa [OS.inss, eL] using this
theorem All2.unmap {α β γ : Type} {R : α → β → Prop} {f : γ → α} : ∀ {l : List γ} {m : List β}, All2 R (l.map f) m → All2 (fun a b => R (f a) b) l m
 | [], _, .nil => .nil
 | x :: l, _, .cons h t => .cons h (All2.unmap t)
theorem All2.swap {α β : Type} {R : α → β → Prop} : ∀ {l : List α} {m : List β}, All2 R l m → All2 (fun b a => R a b) m l
 | _, _, .nil => .nil
 | _, _, .cons h t => .cons h t.swap
theorem All2.mapl {α β γ : Type} {R : α → β → Prop} {f : γ → α} : ∀ {l : List γ} {m : List β}, All2 (fun a b => R (f a) b) l m → All2 R (l.map f) m
 | _, _, .nil => .nil
 | _, _, .cons h t => .cons h t.mapl
def OS.live : OS → Bool
 | .dead => false
 | _ => true
theorem a6c (f g : Nat → Nat) : ∀ (os : List OS) (y : OS.Ts os), os.all OS.live = true → ∀ o' ∈ eL (OS.inss f g os y), o' ≠ .dead
 | [], y, _, o', h => by simp [OS.inss, eL] at h
 | o :: r, y, hl, o', h => by
  simp only [List.all_cons, Bool.and_eq_true] at hl
  have h' : o' = kQ (o.ins f g (SP.fst o.dfl y)) ∨ o' ∈ eL (OS.inss f g r (SP.snd (OS.dfls r) y)) := by
   simpa [OS.inss, eL] using h
  rcases h' with rfl | h'
  ·cases o with
   | dead => cases hl.1
   | st s => intro q; cases q
   | li c e loc => intro q; cases q
   | mp es => intro q; cases q
  ·exact a6c f g r _ hl.2 o' h'
def a8J (P : Program) (e : TEnt) {R : Type} (ds : List TV) (L : List TO) (K : TV → List TO → Tree R) : Tree R :=
 match VO P e.av ds L with
 | (l1, r1, L1, q1) => match a4C P L1 e.av (l1 ++ r1) (bd0 0 e.os.length) with
  | some (x, [], B) => match a0m P L1 0 e.os 0 B with
   | some (y, B') => match Uq B'.b, B'.used with
    | some sel, [] => if XT sel = true ∧ e.os.all OS.live = true then chk (q1 ++ B'.eqs) (Wj (e.m (ShT.mk x y)) fun r => a5W e.rs r fun ρ w =>
      if ρ.1.fitT ρ.2.length = true ∧ ρ.2.all (OS.fit ρ.2.length) = true ∧ sel.length ≤ ρ.2.length then
       (match ρ.1.ins (abc e.os sel L1.length ρ.2.length) (OS.lens ρ.2 w.o) w.v with
       | [v] => K v (KS e.os sel (OS.inss (abc e.os sel L1.length ρ.2.length) (OS.lens ρ.2 w.o) ρ.2 w.o) L1)
       | _ => .fail) else .fail) else .fail
    | _, _ => .fail
   | none => .fail
  | _ => .fail
def wrG (P : Program) (e : TEnt) (ds : List TV) (L : List TO) : List Nat :=
 match VO P e.av ds L with
 | (l1, r1, L1, _) => match a4C P L1 e.av (l1 ++ r1) (bd0 0 e.os.length) with
  | some (_, [], B) => match a0m P L1 0 e.os 0 B with
   | some (_, B') => (Uq B'.b).getD []
   | none => []
  | _ => []
theorem a4f {P : Program} {e : TEnt} (he : qA P e) {R : Type} {ds : List TV} {L : List TO} {K : TV → List TO → Tree R} {z : R} (hz : (a8J P e ds L K).run = some z) {h0 : Heap} {W0 : Ent} {γ : Pl} {h : Heap} {vs : List Value} (H : Hp P h0 W0 γ (eL L) h) (hr : All2 (DR P (qe W0 γ (eL L) h) γ (eL L) h) (ds.map enc) vs) :
  ADoes P e.f vs h (fun v h' => Aft P h0 W0 γ (eL L) h (KT K z) v h' ∧ VKept γ L h h' (wrG P e ds L)) := by
 obtain ⟨f, av, os, rs, m⟩ := e
 unfold a8J at hz
 cases hp : VO P av ds L with
 | mk l1 rest =>
  obtain ⟨r1, L1, q1⟩ := rest
  simp only [hp] at hz
  split at hz
  ·rename_i x B h1
   split at hz
   ·rename_i y B' h2
    split at hz
    ·rename_i sel hsel hu
     split at hz
     ·rename_i hnd
      replace hz := kp hz; obtain ⟨hq, hz⟩ := hz
      replace hz := kL hz; obtain ⟨r, h3, hz⟩ := hz
      replace hz := YV hz; obtain ⟨ρ, w, h4, h5⟩ := hz
      obtain ⟨⟨H1, c1⟩, hr1⟩ := a8c av H hr hp fun p hp => hq p (by simp [hp])
      have hnd' := Jl hnd.1
      have hwr : wrG P ⟨f, av, os, rs, m⟩ ds L = sel := by
       unfold wrG
       simp only [hp, h1, h2, hsel]
       rfl
      rw [hwr]
      have s1 := uz hsel
      obtain ⟨s5, s6⟩ := VI s1
      obtain ⟨a1, a2⟩ := aag (P := P) (L := L1) (sel := sel.map some) (len := OS.lens os y) av h1
      obtain ⟨b1, b2, b3⟩ := v4 (sel := sel.map some) (.inl rfl) os h2
      have hlen : B'.b.length = os.length := by rw [b1.2.2.2, a1.2.2.2, abL]
      have hsl : sel.length = os.length := by rw [← hlen, ← s5, List.length_map]
      have ok : WellB L1 (sel.map some) (OS.lens os y) B' := by
       refine ⟨fun k x e => (s6 k x).1 e, fun p hp => hq p (by simp [hp]), fun i hi => (by rw [hu] at hi; simp at hi), fun k id n e ht => ?_, fun k e => ?_⟩
       ·have hk : k < os.length := by rw [← hlen, ← s5]; exact (List.getElem?_eq_some_iff.1 e).1
        obtain ⟨x, c1, c2, c3⟩ := b2 k hk
        rw [Nat.zero_add] at c1
        have := (s6 k x).1 c1
        rw [e] at this; cases this
        exact c2 id n rfl ht
       ·have hk : k < os.length := by rw [← hlen, ← s5]; exact (List.getElem?_eq_some_iff.1 e).1
        obtain ⟨x, c1, c2, c3⟩ := b2 k hk
        rw [Nat.zero_add] at c1
        have := (s6 k x).1 c1
        rw [e] at this; cases this
        exact c3 rfl
      obtain ⟨l0, e0, hargs⟩ := a2 (ok.le b1)
      rw [List.append_nil] at e0
      have hvals : ShT.vals (ShT.mk x y : ShT av os) = av.ins id (OS.lens os y) x := by unfold ShT.vals; rw [ShT.v_mk, ShT.o_mk]
      have hobjs : ShT.objs (ShT.mk x y : ShT av os) = OS.inss id (OS.lens os y) os y := by unfold ShT.objs; rw [ShT.o_mk]
      have hoo : All2 (oOk L1 (sel.map some) 0) (sel.map some) (OS.inss id (OS.lens os y) os y) := by
       refine All2.of_get (by rw [Z5, List.length_map, hsl]) fun i s o' e1 e2 => ?_
       obtain ⟨s', c1, c2⟩ := b3 _ ok i o' e2
       rw [Nat.zero_add, e1] at c1
       cases c1
       exact c2
      have hA : All2 (fun o' (i : Nat) => ∃ o, (eL L1)[i]? = some o ∧ YJ (sel.map some) o' o) (eL (OS.inss id (OS.lens os y) os y)) sel := by
       refine All2.mapl (All2.swap ((All2.unmap hoo).mono fun i o' h => ?_))
       obtain ⟨o, e1, e2⟩ := h
       exact ⟨kQ o, zg e1, e2⟩
      have hlt : ∀ i ∈ sel, i < L1.length := fun i hi => by
       obtain ⟨k, hk⟩ := List.mem_iff_getElem?.1 hi
       obtain ⟨o', _, o, e1, _⟩ := hA.get' hk
       have := (List.getElem?_eq_some_iff.1 e1).1
       rwa [zW] at this
      have hst : ∀ k, stK os k = true → k < sel.length := fun k q => by
       rw [hsl]
       unfold stK at q
       split at q
       ·rename_i h6; exact (List.getElem?_eq_some_iff.1 h6).1
       ·cases q
      have hd := he (ShT.mk x y) r h3
      simp only at hd
      rw [hvals, hobjs] at hd
      subst e0
      have hW : DCallWF P f ((l1 ++ r1).map enc) (eL L1) sel (KT K z) := by
       refine aa5 sel hd hnd' hA (All2.maps (f := enc) (g := enc) (R' := uK P (eL L1) (sel.map some)) (fun _ _ q => q) hargs) fun d A' hq' => ?_
       obtain ⟨v, b4, rfl, rfl⟩ := h5 d A' hq'
       split at h4
       ·rename_i hfit
        obtain ⟨f1, f2, f3⟩ := hfit
        have hb : ∀ k, k < ρ.2.length → (Qh os sel ρ.2.length L1)[abc os sel L1.length ρ.2.length k]? = some (some k) := fun k hk => ahA hnd' rfl hlt hst hk
        have hnl : (OS.inss (abc os sel L1.length ρ.2.length) (OS.lens ρ.2 w.o) ρ.2 w.o).length = ρ.2.length := Z5 _ _ _ _
        have hex := ahY (len := OS.lens ρ.2 w.o) hb ρ.1 w.v f1
        have hob := ac1 (len := OS.lens ρ.2 w.o) hb ρ.2 w.o f2
        have M := aeQ (P := P) (L := L1) (os := os) (sel := sel) (new := OS.inss (abc os sel L1.length ρ.2.length) (OS.lens ρ.2 w.o) ρ.2 w.o) (A := eL (OS.inss id (OS.lens os y) os y)) (A' := eL (ShT.objs w)) (old := ShT.objs w) hnd' hlt hst (abA _ _ _ _) (by rw [hnl]; exact f3) rfl (by rw [hnl]; exact hob)
        rw [hnl] at M
        split at h4
        ·rename_i v' hv'
         rw [hv'] at hex
         have b4' : ρ.1.ins id (OS.lens ρ.2 w.o) w.v = [v] := b4
         rw [b4'] at hex
         cases hex with
         | cons hx t =>
          exact ⟨_, _, _, M, hx, _, _, rfl, rfl, h4⟩
        ·cases h4
       ·cases h4
      refine (hW h0 W0 γ h vs H1 hr1).mono ?_
      rintro v h' ⟨⟨γ', d, L', hK, H2, c2, hd2⟩, hfr⟩
      refine ⟨⟨γ', d, L', hK, H2, c1.trans' c2, hd2⟩, fun id b hg hst' hid => ?_⟩
      obtain ⟨g1, c0, s1⟩ := c1.st id b hg hst'
      refine hfr b (OR.lt (fun b hb => hb.1) (H1.obj id _ s1) g1 rfl).1 fun i hi x hgi => ?_
      have hne : i ≠ id := fun q => hid (q ▸ hi)
      obtain ⟨k, hk⟩ := List.mem_iff_getElem?.1 hi
      obtain ⟨o', ho', o, e1, e2⟩ := hA.get' hk
      have hdead := a6c _ _ os y hnd.2 o' (List.mem_of_getElem? ho')
      cases o with
      | st c => exact hne (H1.inj i id _ _ b x 0 e1 s1 rfl rfl hgi g1)
      | li te rows =>
       cases te with
       | none => have := (H1.obj i _ e1).2; rw [hgi] at this; cases this
       | some te => exact hne (H1.inj i id _ _ b x 0 e1 s1 rfl rfl hgi g1)
      | fz te rows =>
       cases te with
       | none => have := (H1.obj i _ e1).2; rw [hgi] at this; cases this
       | some te =>
        obtain ⟨b', o2, g2, f2, _⟩ := H1.obj i _ e1
        rw [hgi] at g2; cases g2
        exact f2.2.2 id _ 0 s1 rfl g1
      | mp es => cases o' <;> exact e2.elim
      | dead =>
       cases o' with
       | dead => exact hdead rfl
       | st c => exact e2.elim
       | li te rows => exact e2.elim
       | fz te rows => exact e2.elim
       | mp es => exact e2.elim
     ·cases hz
    ·cases hz
   ·cases hz
  ·cases hz
def ajv (P : Program) (e : TEnt) (k : FuncId) (ds : List TV) (L : List TO) : Bool := e.f == k && (if e.os.isEmpty && agC e.rs then (match a0J P L 2 e.av ds (bd0 0 e.os.length) with
  | some (_, [], _) => true
  | _ => false) else (match VO P e.av ds L with
  | (l1, r1, L1, _) => match a4C P L1 e.av (l1 ++ r1) (bd0 0 e.os.length) with
   | some (_, [], B) => (match a0m P L1 0 e.os 0 B with
    | some _ => true
    | none => false)
   | _ => false))
def a46 (P : Program) : List TEnt → (R : Type) → yt R
 | [], _ => fun _ _ _ _ => .fail
 | e :: r, R => fun k ds L K => match ajv P e k ds L with
  | true => if e.os.isEmpty && agC e.rs then a9F P e ds L K else a8J P e ds L K
  | false => a46 P r R k ds L K
def wrs (P : Program) : List TEnt → FuncId → List TV → List TO → List Nat
 | [], _, _, _ => []
 | e :: r, k, ds, L => match ajv P e k ds L with
  | true => if e.os.isEmpty && agC e.rs then [] else wrG P e ds L
  | false => wrs P r k ds L
theorem a2d {P : Program} : ∀ {tab : List TEnt}, (∀ e ∈ tab, qA P e) → ∀ R : Type, TCallOk P (a46 P tab R) (wrs P tab)
 | [], _, R => fun k ds L K z h => by cases h
 | e :: r, ht, R => fun k ds L K z h h0 W0 γ hh vs H hr => by
  unfold a46 at h
  unfold wrs
  split at h
  ·rename_i hf
   have hk : e.f = k := by
    unfold ajv at hf
    simp only [Bool.and_eq_true, beq_iff_eq] at hf
    exact hf.1
   subst hk
   try simp only [hf]
   split at h
   ·rename_i hc
    rw [if_pos hc]
    simp only [Bool.and_eq_true, List.isEmpty_iff] at hc
    refine (a3r (ht e List.mem_cons_self) hc.1 h h0 W0 γ hh vs H hr).mono fun v h' q => ⟨q.1, fun id b hg hs _ => q.2 b (afO H hg hs) fun i hi => by simp at hi⟩
   ·rename_i hc
    rw [if_neg hc]
    exact a4f (ht e List.mem_cons_self) h H hr
  ·rename_i hf
   try simp only [hf]
   exact a2d (fun e he => ht e (List.mem_cons_of_mem _ he)) R k ds L K z h h0 W0 γ hh vs H hr
def a8f (P : Program) (R : Type) (call : ∀ R : Type, yt R) (wr : FuncId → List TV → List TO → List Nat) (k : FuncId) (ds : List TV) (L : List TO) (K : TV → List TO → Tree R) : Tree R :=
 match a9X P k ds.length with
 | true => aeO ⟨P, aa1 P 12, call, wr, fun _ => none, fun _ => none, fun _ => 70⟩ k ds L K
 | false => .fail
theorem a3v {P : Program} {R : Type} {call : ∀ R : Type, yt R} {wr : FuncId → List TV → List TO → List Nat} (hcall : ∀ R : Type, TCallOk P (call R) wr) {k : FuncId} {ds : List TV} {L : List TO} {K : TV → List TO → Tree R} {z : R} (e : (a8f P R call wr k ds L K).run = some z) :
  ∀ h0 W0 γ h vs, Hp P h0 W0 γ (eL L) h → All2 (DR P (qe W0 γ (eL L) h) γ (eL L) h) (ds.map enc) vs → ADoes P k vs h (Aft P h0 W0 γ (eL L) h (KT K z)) := by
 intro h0 W0 γ h vs H hr
 unfold a8f at e
 split at e
 case h_2 => cases e
 rename_i hfn
 unfold aeO at e
 replace e := qa e; obtain ⟨fn, hf, e⟩ := e
 simp only at hf e
 unfold a9X at hfn
 rw [hf] at hfn
 simp only [Bool.and_eq_true, Bool.not_eq_true', decide_eq_true_eq] at hfn
 obtain ⟨⟨h1, h3⟩, h4⟩ := hfn
 let W1 : Ent := { W0 with cnt := L.length, few := fun id b e => by have := H.dom id _ (H.pin id b e).1; rwa [zW] at this }
 have H1 : Hp P h0 W1 γ (eL L) h := ⟨H.start, H.pin, H.obj, H.inj, H.dom, H.new, H.next, H.frame⟩
 cases hbd : fn.body with
 | none => rw [hbd] at h1; cases h1
 | some c =>
  have hb : uc fn = c := by simp [uc, hbd]
  rw [hb] at e
  have hlen : vs.length ≤ fn.ntmps := by rw [← hr.length]; simpa using h4
  refine ADoes.of (KD (Q := Aft P h0 W0 γ (eL L) h (KT K z)) hf hbd rfl rfl h3 hlen (wi ?_))
  have hE : EnvOk ⟨P, aa1 P 12, call, wr, fun _ => none, fun _ => none, fun _ => 70⟩ := ⟨fun p S q => (by cases q), hcall, fun p S q => (by cases q)⟩
  have hx : adU ⟨P, aa1 P 12, call, wr, fun _ => none, fun _ => none, fun _ => 70⟩ h0 W1 ⟨True, γ, eL L, h⟩ (xOf P c .nil) := (zA (B := ⟨True, γ, eL L, h⟩) hE (fun _ => ⟨fun _ => rfl, fun _ => rfl⟩) _).1
  have hF : FR P W1 γ (eL L) h (kw ⟨fn.ntmps, L.length, QC 0 ds⟩) ⟨fn.ntmps, kX 0 vs⟩ := ⟨rfl, rfl, fun t d e => JB 0 hr t d (by rw [← Uj]; exact e)⟩
  refine hx (z := z) ?_ ⟨H1, fun _ => Carry.refl _ _ _⟩ hF e
  rintro e fa h' ⟨a, L', γ', hq, ⟨H', cc⟩, hf'⟩
  have fin : (a2n P a L' fn.results.toList fun ds => qt (a1Y ds) fun d => K d L').run = some z → ∃ vs, zp P fa h' fn.results.toList = some vs ∧ Aft P h0 W0 γ (eL L) h (KT K z) (wU vs) h' := by
   intro hq
   obtain ⟨ds', e1, hq⟩ := V4 hq
   replace hq := qa hq; obtain ⟨d, e2, hq⟩ := hq
   obtain ⟨vs', e3, r3⟩ := Zi H' hf' e1
   have c := cc trivial
   exact ⟨vs', e3, γ', enc d, eL L', ⟨d, L', rfl, rfl, hq⟩, ⟨H'.start, H'.pin, H'.obj, H'.inj, H'.dom, H'.new, H'.next, H'.frame⟩, ⟨c.free, c.len, c.st, c.mp, c.li⟩, XX r3 (a1T e2)⟩
  cases e with
  | normal => exact fin hq
  | ret => exact fin hq
  | exit id => cases hq
  | goto l => cases hq
  | panic c => cases hq
  | outgrown => cases hq
def a2H (P : Program) (tab : List TEnt) (k : FuncId) (ds : List TV) (L : List TO) : Bool := tab.any fun e => ajv P e k ds L
def ajD (P : Program) (tab : List TEnt) (k : FuncId) (ds : List TV) (L : List TO) : List Nat := match a2H P tab k ds L with
 | true => wrs P tab k ds L
 | false => List.range L.length
def XH (P : Program) (tab : List TEnt) : Nat → (R : Type) → yt R
 | 0, _ => fun _ _ _ _ => .fail
 | n + 1, R => fun k ds L K => match a2H P tab k ds L with
  | true => a46 P tab R k ds L K
  | false => a8f P R (XH P tab n) (ajD P tab) k ds L K
theorem UE {P : Program} {tab : List TEnt} (ht : ∀ e ∈ tab, qA P e) : ∀ (n : Nat) (R : Type), TCallOk P (XH P tab n R) (ajD P tab)
 | 0, R => fun k ds L K z e => by cases e
 | n + 1, R => fun k ds L K z e h0 W0 γ h vs H hr => by
  unfold XH at e
  unfold ajD
  cases hf : a2H P tab k ds L with
  | true =>
   simp only [hf] at e ⊢
   exact a2d ht R k ds L K z e h0 W0 γ h vs H hr
  | false =>
   simp only [hf] at e ⊢
   refine (a3v (fun R => UE ht n R) e h0 W0 γ h vs H hr).mono fun v h' q => ⟨q, fun id b hg hs hid => absurd ?_ hid⟩
   obtain ⟨c, hc⟩ := hs
   have := (List.getElem?_eq_some_iff.1 hc).1
   rw [zW] at this
   exact List.mem_range.2 this
def XJ (P : Program) (c : Nat) : List (Nat × List Nat × VS × List OS) → Nat → Option Shp
 | [], _ => none
 | (p, keys, vs, os) :: r, q => if p = q then some (ak7 P c keys vs os) else XJ P c r q
theorem XU {P : Program} {c : Nat} : ∀ {l : List (Nat × List Nat × VS × List OS)} {q : Nat} {S : Shp}, XJ P c l q = some S → a26 P S
 | [], q, S, h => by cases h
 | (p, keys, vs, os) :: r, q, S, h => by
  unfold XJ at h
  split at h
  ·cases h; exact ahL _ _ _ _ _
  ·exact XU h
def XD (P : Program) (c : Nat) : List (Nat × List Nat × VS × List OS) → Nat → Option Shp
 | [], _ => none
 | (p, keys, vs, os) :: r, q => if p = q then some (alE P c keys vs os) else XD P c r q
theorem uA {P : Program} {c : Nat} : ∀ {l : List (Nat × List Nat × VS × List OS)} {q : Nat} {S : Shp}, XD P c l q = some S → ajk P S
 | [], q, S, h => by cases h
 | (p, keys, vs, os) :: r, q, S, h => by
  unfold XD at h
  split at h
  ·cases h; exact ai0 _ _ _ _ _
  ·exact uA h
abbrev Shs := List (Nat × List Nat × VS × List OS)
def alI (un : List Nat) (p : Nat) : Nat := if un.contains p then 70 else 0
def ag1 (P : Program) (tab : List TEnt) (c : Nat) (loops joins : Shs) (un : List Nat) : TEnv := ⟨P, aa1 P 12, XH P tab 8, ajD P tab, XJ P c loops, XD P c joins, alI un⟩
theorem akN {P : Program} {tab : List TEnt} {c : Nat} {loops joins : Shs} {un : List Nat} (ht : ∀ e ∈ tab, qA P e) : EnvOk (ag1 P tab c loops joins un) := ⟨fun _ _ h => uA h, UE ht 8, fun _ _ h => XU h⟩
theorem zH {P : Program} {tab : List TEnt} {loops joins : Shs} {un : List Nat} {f : FuncId} {av : VS} {os : List OS} {rs : List RSh} (m : ShT av os → Option (RT rs)) (ht : ∀ e ∈ tab, qA P e) (hm : ∀ p, a05 (ag1 P tab os.length loops joins un) f av os rs p = m p) (hf : a9X P f (av.ins id (fun _ => 0) av.dfl).length = true) : qA P ⟨f, av, os, rs, m⟩ :=
 al3 (akN ht) m hm hf
theorem tn {P : Program} : ∀ e ∈ ([] : List TEnt), qA P e := fun e he => absurd he List.not_mem_nil
theorem tc {P : Program} {e : TEnt} {l : List TEnt} (h : qA P e) (t : ∀ x ∈ l, qA P x) : ∀ x ∈ e :: l, qA P x := fun x hx => by
 rcases List.mem_cons.1 hx with rfl | hx
 ·exact h
 ·exact t x hx
theorem eo0 {P : Program} {tab : List TEnt} {f : FuncId} {av : VS} {os : List OS} {rs : List RSh} (m : ShT av os → Option (RT rs)) (ht : ∀ e ∈ tab, qA P e) (hm : ∀ p, a05 (ag1 P tab os.length [] [] []) f av os rs p = m p) (hf : a9X P f (av.ins id (fun _ => 0) av.dfl).length = true) : qA P ⟨f, av, os, rs, m⟩ := zH m ht hm hf
set_option maxRecDepth 100000
theorem af7 {n : Int} (h1 : 0 ≤ n) (h2 : n < 18446744073709551616) : IntKind.u64.wrap n = n := by
 unfold IntKind.wrap
 simp only [IntKind.bits, IntKind.signed, Bool.false_and]
 simp
 omega
theorem aju {n : Int} (h1 : 0 ≤ n) (h2 : n < 256) : IntKind.u8.wrap n = n := by
 unfold IntKind.wrap
 simp only [IntKind.bits, IntKind.signed, Bool.false_and]
 simp
 omega
theorem aj1 {σ T : Type} {step : σ → Option (σ ⊕ T)} {s s' : σ} (h : step s = some (.inl s')) : zq step s = zq step s' := by rw [ue, h]
theorem aim {σ T : Type} {step : σ → Option (σ ⊕ T)} {s : σ} {t : T} (h : step s = some (.inr t)) : zq step s = some t := by rw [ue, h]
def unr {σ T : Type} (x : Option (σ ⊕ T)) (f : σ → Option T) : Option T := match x with
 | some (.inl s) => f s
 | some (.inr t) => some t
 | none => none
@[simp] theorem qV {σ T : Type} (s : σ) (f : σ → Option T) : unr (some (.inl s)) f = f s := rfl
@[simp] theorem zx {σ T : Type} (t : T) (f : σ → Option T) : unr (some (.inr t)) f = some t := rfl
theorem WP {σ T : Type} (step : σ → Option (σ ⊕ T)) (s : σ) : zq step s = unr (step s) (zq step) := by rw [ue]; rfl
theorem zu {σ T : Type} {step : σ → Option (σ ⊕ T)} (st : Nat → σ) {n : Nat} {t : T} (h : ∀ i, i < n → step (st i) = some (.inl (st (i + 1)))) (he : step (st n) = some (.inr t)) : ∀ i, i ≤ n → zq step (st i) = some t := by
 intro i hi
 obtain ⟨k, hk⟩ : ∃ k, k = n - i := ⟨_, rfl⟩
 induction k generalizing i with
 | zero => rw [show i = n by omega]; exact aim he
 | succ k ih => rw [aj1 (h i (by omega))]; exact ih (i + 1) (by omega) (by omega)
theorem q9 {n : Int} (h1 : -9223372036854775808 ≤ n) (h2 : n < 9223372036854775808) : IntKind.i64.wrap n = n := by
 unfold IntKind.wrap
 simp only [IntKind.bits, IntKind.signed, Bool.true_and]
 by_cases h : 0 ≤ n
 ·have : n % 2 ^ 64 = n := by omega
  simp [this]
  omega
 ·have : n % 2 ^ 64 = n + 18446744073709551616 := by omega
  simp [this]
  omega
theorem kG {n : Int} (h1 : -2147483648 ≤ n) (h2 : n < 2147483648) : IntKind.i32.wrap n = n := by
 unfold IntKind.wrap
 simp only [IntKind.bits, IntKind.signed, Bool.true_and]
 by_cases h : 0 ≤ n
 ·have : n % 2 ^ 32 = n := by omega
  simp [this]
  omega
 ·have : n % 2 ^ 32 = n + 4294967296 := by omega
  simp [this]
  omega
theorem kI {n : Int} (h1 : 0 ≤ n) (h2 : n < 18446744073709551616) : IntKind.u64.wrap n = n := af7 h1 h2
theorem z9 {n : Int} (h1 : 0 ≤ n) (h2 : n < 256) : IntKind.u8.wrap n = n := aju h1 h2
theorem qh {p : Prop} {i : Decidable p} (h : p) : @decide p i = true := decide_eq_true h
theorem qm {p : Prop} {i : Decidable p} (h : ¬ p) : @decide p i = false := decide_eq_false h
theorem qD {a b : Int} (h : a = b) : (a == b) = true := beq_iff_eq.2 h
theorem qw {a b : Int} (h : a ≠ b) : (a == b) = false := beq_eq_false_iff_ne.2 h
theorem wX {a b : Int} (h : a ≠ b) : (a != b) = true := bne_iff_ne.2 h
theorem jW {a b : Int} (h : a = b) : (a != b) = false := by rw [h]; exact bne_self_eq_false _
theorem Xw {α : Type} {l : List α} {i : Nat} {x : α} (h : l[i]? = some x) : l.drop i = x :: l.drop (i + 1) := by
 obtain ⟨hlt, rfl⟩ := List.getElem?_eq_some_iff.1 h
 rw [List.drop_eq_getElem_cons hlt]
theorem kA {α : Type} {l : List α} {i : Nat} {x : α} (h : l[i]? = some x) : l.take (i + 1) = l.take i ++ [x] := by rw [List.take_add_one, h]; rfl
theorem qF {α : Type} {l : List α} {i : Nat} (h : i < l.length) : ∃ x, l[i]? = some x := ⟨_, List.getElem?_eq_getElem h⟩
theorem qj {A B : Type} (a : A) (f : A → Option B) : Option.bind (some a) f = f a := rfl
theorem qd {A : Type} (a b : A) : cond true a b = a := rfl
theorem qf {A : Type} (a b : A) : cond false a b = b := rfl
theorem qH (n : Nat) : Int.toNat (n : Int) = n := rfl
theorem qp (h : Decidable True) : @decide True h = true := decide_eq_true trivial
theorem ze {A : Type} (a b : List A) : (a ++ b).length = a.length + b.length := List.length_append
theorem zw : (!true) = false := rfl
theorem kx : (!false) = true := rfl
theorem zB {A : Type} (a : A) (l : List A) : (a :: l).length = l.length + 1 := rfl
theorem qM {A : Type} : ([] : List A).length = 0 := rfl
theorem jX {A : Type} (a : A) : [a].length = 1 := rfl
theorem jo {A B : Type} (f : A → B) (l : List A) : (l.map f).length = l.length := List.length_map f
set_option maxHeartbeats 0
open Go.Proofs
def yj (x0 : Int) : Option Bool :=
 bif decide (0 ≤ x0) then
 bif decide (x0 < 55296) then
 some true
 else bif decide (57343 < x0) then
 some (decide (x0 ≤ 1114111))
 else some false
 else bif decide (57343 < x0) then
 some (decide (x0 ≤ 1114111))
 else some false
def a3O : TEnt := ⟨174, .int .i32, [], [(.bool, [])], fun s => yj s⟩
theorem Xh : qA Tryz.prog a3O := eo0 _ tn (fun s => by kernel_rfl) (by kernel_rfl)
def Qs (x0 : Int) : Option Bool :=
 bif decide (0 ≤ x0) then
 bif decide (x0 ≤ 1114111) then
 bif decide (x0 < 55296) then
 some true
 else some (decide (57343 < x0))
 else some false
 else some false
def a2X : TEnt := ⟨163, .int .i64, [], [(.bool, [])], fun s => Qs s⟩
theorem Xp : qA Tryz.prog a2X := eo0 _ tn (fun s => by kernel_rfl) (by kernel_rfl)
def a3i (x0 : Int) (x1 : Int) : Option Bool :=
 none
def a3H : TEnt := ⟨192, .agg (.cons (.int .i32) (.int .i32)), [], [(.bool, [])], fun s => a3i s.1 s.2⟩
theorem X9 : qA Tryz.prog a3H := eo0 _ tn (fun s => by kernel_rfl) (by kernel_rfl)
def qE (x4 : Int) (x5 : Int) : Option ((Int × Int) ⊕ Int) :=
 bif decide (x4 < 11) then
 bif decide (x4 = (10 : Int)) then
 bif decide (131072 ≤ x5) then
 bif decide (x5 ≤ 262141) then
 some (Sum.inr ((2 : Int)))
 else some (Sum.inl ((IntKind.i64.wrap (x4 + (1 : Int))), x5))
 else some (Sum.inl ((IntKind.i64.wrap (x4 + (1 : Int))), x5))
 else bif decide (x4 = (9 : Int)) then
 bif decide (129280 ≤ x5) then
 bif decide (x5 ≤ 129535) then
 some (Sum.inr ((2 : Int)))
 else some (Sum.inl ((IntKind.i64.wrap (x4 + (1 : Int))), x5))
 else some (Sum.inl ((IntKind.i64.wrap (x4 + (1 : Int))), x5))
 else bif decide (x4 = (8 : Int)) then
 bif decide (127744 ≤ x5) then
 bif decide (x5 ≤ 128591) then
 some (Sum.inr ((2 : Int)))
 else some (Sum.inl ((IntKind.i64.wrap (x4 + (1 : Int))), x5))
 else some (Sum.inl ((IntKind.i64.wrap (x4 + (1 : Int))), x5))
 else bif decide (x4 = (7 : Int)) then
 bif decide (65504 ≤ x5) then
 bif decide (x5 ≤ 65510) then
 some (Sum.inr ((2 : Int)))
 else some (Sum.inl ((IntKind.i64.wrap (x4 + (1 : Int))), x5))
 else some (Sum.inl ((IntKind.i64.wrap (x4 + (1 : Int))), x5))
 else bif decide (x4 = (6 : Int)) then
 bif decide (65280 ≤ x5) then
 bif decide (x5 ≤ 65376) then
 some (Sum.inr ((2 : Int)))
 else some (Sum.inl ((IntKind.i64.wrap (x4 + (1 : Int))), x5))
 else some (Sum.inl ((IntKind.i64.wrap (x4 + (1 : Int))), x5))
 else bif decide (x4 = (5 : Int)) then
 bif decide (65072 ≤ x5) then
 bif decide (x5 ≤ 65135) then
 some (Sum.inr ((2 : Int)))
 else some (Sum.inl ((IntKind.i64.wrap (x4 + (1 : Int))), x5))
 else some (Sum.inl ((IntKind.i64.wrap (x4 + (1 : Int))), x5))
 else bif decide (x4 = (4 : Int)) then
 bif decide (63744 ≤ x5) then
 bif decide (x5 ≤ 64255) then
 some (Sum.inr ((2 : Int)))
 else some (Sum.inl ((IntKind.i64.wrap (x4 + (1 : Int))), x5))
 else some (Sum.inl ((IntKind.i64.wrap (x4 + (1 : Int))), x5))
 else bif decide (x4 = (3 : Int)) then
 bif decide (44032 ≤ x5) then
 bif decide (x5 ≤ 55203) then
 some (Sum.inr ((2 : Int)))
 else some (Sum.inl ((IntKind.i64.wrap (x4 + (1 : Int))), x5))
 else some (Sum.inl ((IntKind.i64.wrap (x4 + (1 : Int))), x5))
 else bif decide (x4 = (2 : Int)) then
 bif decide (12353 ≤ x5) then
 bif decide (x5 ≤ 42191) then
 some (Sum.inr ((2 : Int)))
 else some (Sum.inl ((IntKind.i64.wrap (x4 + (1 : Int))), x5))
 else some (Sum.inl ((IntKind.i64.wrap (x4 + (1 : Int))), x5))
 else bif decide (x4 = (1 : Int)) then
 bif decide (11904 ≤ x5) then
 bif decide (x5 ≤ 12350) then
 some (Sum.inr ((2 : Int)))
 else some (Sum.inl ((IntKind.i64.wrap (x4 + (1 : Int))), x5))
 else some (Sum.inl ((IntKind.i64.wrap (x4 + (1 : Int))), x5))
 else bif decide (x4 = (0 : Int)) then
 bif decide (4352 ≤ x5) then
 bif decide (x5 ≤ 4447) then
 some (Sum.inr ((2 : Int)))
 else some (Sum.inl ((IntKind.i64.wrap (x4 + (1 : Int))), x5))
 else some (Sum.inl ((IntKind.i64.wrap (x4 + (1 : Int))), x5))
 else none
 else some (Sum.inr ((1 : Int)))
def qx : (Int × Int) → Option Int := zq fun s => qE s.1 s.2
def zl (x2 : Int) (x3 : Int) : Option ((Int × Int) ⊕ Int) :=
 bif decide (x2 < 5) then
 bif decide (x2 = (4 : Int)) then
 bif decide (65056 ≤ x3) then
 bif decide (x3 ≤ 65071) then
 some (Sum.inr ((0 : Int)))
 else some (Sum.inl ((IntKind.i64.wrap (x2 + (1 : Int))), x3))
 else some (Sum.inl ((IntKind.i64.wrap (x2 + (1 : Int))), x3))
 else bif decide (x2 = (3 : Int)) then
 bif decide (65024 ≤ x3) then
 bif decide (x3 ≤ 65039) then
 some (Sum.inr ((0 : Int)))
 else some (Sum.inl ((IntKind.i64.wrap (x2 + (1 : Int))), x3))
 else some (Sum.inl ((IntKind.i64.wrap (x2 + (1 : Int))), x3))
 else bif decide (x2 = (2 : Int)) then
 bif decide (8400 ≤ x3) then
 bif decide (x3 ≤ 8447) then
 some (Sum.inr ((0 : Int)))
 else some (Sum.inl ((IntKind.i64.wrap (x2 + (1 : Int))), x3))
 else some (Sum.inl ((IntKind.i64.wrap (x2 + (1 : Int))), x3))
 else bif decide (x2 = (1 : Int)) then
 bif decide (8203 ≤ x3) then
 bif decide (x3 ≤ 8207) then
 some (Sum.inr ((0 : Int)))
 else some (Sum.inl ((IntKind.i64.wrap (x2 + (1 : Int))), x3))
 else some (Sum.inl ((IntKind.i64.wrap (x2 + (1 : Int))), x3))
 else bif decide (x2 = (0 : Int)) then
 bif decide (768 ≤ x3) then
 bif decide (x3 ≤ 879) then
 some (Sum.inr ((0 : Int)))
 else some (Sum.inl ((IntKind.i64.wrap (x2 + (1 : Int))), x3))
 else some (Sum.inl ((IntKind.i64.wrap (x2 + (1 : Int))), x3))
 else none
 else (qx (((0 : Int)), x3)).bind fun x4 =>
 some (Sum.inr x4)
def qQ : (Int × Int) → Option Int := zq fun s => zl s.1 s.2
def yv (x0 : Int) : Option Int :=
 bif decide (x0 < 32) then
 some ((-1 : Int))
 else bif decide (127 ≤ x0) then
 bif decide (x0 ≤ 159) then
 some ((-1 : Int))
 else (yj x0).bind fun x1 =>
 bif !x1 then
 some ((-1 : Int))
 else (qQ (((0 : Int)), x0)).bind fun x2 =>
 some x2
 else (yj x0).bind fun x1 =>
 bif !x1 then
 some ((-1 : Int))
 else (qQ (((0 : Int)), x0)).bind fun x2 =>
 some x2
def aaL : TEnt := ⟨168, .int .i32, [], [(.int .i64, [])], fun s => yv s⟩
theorem ZU : qA Tryz.prog aaL := zH (loops := [(299594, [3, 24, 25], (.cons (.fn 192 .nil (.ptr 0 0)) (.cons (.agg (.cons (.cst (.int .i32 (768))) (.cons (.cst (.int .i32 (879))) (.cons (.cst (.int .i32 (8203))) (.cons (.cst (.int .i32 (8207))) (.cons (.cst (.int .i32 (8400))) (.cons (.cst (.int .i32 (8447))) (.cons (.cst (.int .i32 (65024))) (.cons (.cst (.int .i32 (65039))) (.cons (.cst (.int .i32 (65056))) (.cst (.int .i32 (65071))))))))))))) (.int .i64))), [.st (.int .i32)]), (19173962, [3, 32, 33], (.cons (.fn 192 .nil (.ptr 0 0)) (.cons (.agg (.cons (.cst (.int .i32 (4352))) (.cons (.cst (.int .i32 (4447))) (.cons (.cst (.int .i32 (11904))) (.cons (.cst (.int .i32 (12350))) (.cons (.cst (.int .i32 (12353))) (.cons (.cst (.int .i32 (42191))) (.cons (.cst (.int .i32 (44032))) (.cons (.cst (.int .i32 (55203))) (.cons (.cst (.int .i32 (63744))) (.cons (.cst (.int .i32 (64255))) (.cons (.cst (.int .i32 (65072))) (.cons (.cst (.int .i32 (65135))) (.cons (.cst (.int .i32 (65280))) (.cons (.cst (.int .i32 (65376))) (.cons (.cst (.int .i32 (65504))) (.cons (.cst (.int .i32 (65510))) (.cons (.cst (.int .i32 (127744))) (.cons (.cst (.int .i32 (128591))) (.cons (.cst (.int .i32 (129280))) (.cons (.cst (.int .i32 (129535))) (.cons (.cst (.int .i32 (131072))) (.cst (.int .i32 (262141))))))))))))))))))))))))) (.int .i64))), [.st (.int .i32)])]) (joins := []) (un := []) _ (tc Xh (tc X9 tn)) (fun s => by kernel_rfl) (by kernel_rfl)
def kz (x0 : Int) : Option Bool :=
 (yv x0).bind fun x1 =>
 some (x1 == 0)
def a3x : TEnt := ⟨128, .int .i32, [], [(.bool, [])], fun s => kz s⟩
theorem Qe : qA Tryz.prog a3x := eo0 _ (tc ZU tn) (fun s => by kernel_rfl) (by kernel_rfl)
def wn (x2 : Int) (x3 : (List Int)) (x4 : Int) : Option ((Int × a2z) ⊕ Bool) :=
 bif decide (IntKind.i64.wrap (x4 + (1 : Int)) < (↑(List.length x3) : Int)) then
 bif decide (0 ≤ x4) then
 (x3[x4.toNat]?).bind fun x5 =>
 bif decide (x5 ≤ x2) then
 bif decide ((0 : Int) ≤ IntKind.i64.wrap (x4 + (1 : Int))) then
 (x3[(IntKind.i64.wrap (x4 + (1 : Int))).toNat]?).bind fun x6 =>
 bif decide (x2 ≤ x6) then
 some (Sum.inr true)
 else some (Sum.inl (x2, (x3, (IntKind.i64.wrap (x4 + (2 : Int))))))
 else none
 else some (Sum.inl (x2, (x3, (IntKind.i64.wrap (x4 + (2 : Int))))))
 else none
 else some (Sum.inr false)
def ZF : (Int × a2z) → Option Bool := zq fun s => wn s.1 s.2.1 s.2.2
def Kf (x0 : Int) (x1 : (List Int)) : Option Bool :=
 (ZF (x0, (x1, ((0 : Int))))).bind fun x2 =>
 some x2
def ahw : TEnt := ⟨162, .cons (.int .i64) (.sl (.int .i64)), [], [(.bool, [])], fun s => Kf s.1 s.2⟩
theorem a60 : qA Tryz.prog ahw := zH (loops := [(586, [0, 1, 5], (.cons (.int .i64) (.cons (.sl (.int .i64)) (.int .i64))), [])]) (joins := []) (un := []) _ tn (fun s => by kernel_rfl) (by kernel_rfl)
def w4 (x0 : Int) : Option Int :=
 bif decide (x0 < 32) then
 some ((-1 : Int))
 else (Kf x0 [(127 : Int), (159 : Int)]).bind fun x1 =>
 bif x1 then
 some ((-1 : Int))
 else (Qs x0).bind fun x2 =>
 bif !x2 then
 some ((-1 : Int))
 else (Kf x0 [(768 : Int), (879 : Int), (8203 : Int), (8207 : Int), (8400 : Int), (8447 : Int), (65024 : Int), (65039 : Int), (65056 : Int), (65071 : Int)]).bind fun x3 =>
 bif x3 then
 some ((0 : Int))
 else (Kf x0 [(4352 : Int), (4447 : Int), (11904 : Int), (12350 : Int), (12353 : Int), (42191 : Int), (44032 : Int), (55203 : Int), (63744 : Int), (64255 : Int), (65072 : Int), (65135 : Int), (65280 : Int), (65376 : Int), (65504 : Int), (65510 : Int), (127744 : Int), (128591 : Int), (129280 : Int), (129535 : Int), (131072 : Int), (262141 : Int)]).bind fun x4 =>
 bif x4 then
 some ((2 : Int))
 else some ((1 : Int))
def afc : TEnt := ⟨107, .int .i64, [], [(.int .i64, [])], fun s => w4 s⟩
theorem ZJ : qA Tryz.prog afc := eo0 _ (tc Xp (tc a60 tn)) (fun s => by kernel_rfl) (by kernel_rfl)
def wL (x0 : Int) (x1 : Int) (x2 : Int) : Option Bool :=
 bif decide (x0 < 32) then
 bif decide (x1 < 17) then
 some (decide (x2 < 17))
 else some false
 else some false
def a6Y : TEnt := ⟨154, .agg Y8_, [], [(.bool, [])], fun s => wL s.1 s.2.1 s.2.2⟩
theorem Za : qA Tryz.prog a6Y := eo0 _ tn (fun s => by kernel_rfl) (by kernel_rfl)
def wP (x0 : Int) (x1 : Int) (x2 : Int) : Option Bool :=
 bif decide (x0 ≤ 31) then
 bif decide (x1 ≤ 16) then
 some (decide (x2 ≤ 16))
 else some false
 else some false
def a88 : TEnt := ⟨155, .agg Y8_, [], [(.bool, [])], fun s => wP s.1 s.2.1 s.2.2⟩
theorem QP : qA Tryz.prog a88 := eo0 _ tn (fun s => by kernel_rfl) (by kernel_rfl)
def y7 (x0 : Int) (x1 : Int) (x2 : Int) : Option Y1 :=
 some (((32 : Int)), (((0 : Int)), (((0 : Int)), (((1 : Int)), (x0, (x1, x2))))))
def a3C : TEnt := ⟨188, .agg Y8_, [], [(.agg a0P, [])], fun s => y7 s.1 s.2.1 s.2.2⟩
theorem Js : qA Tryz.prog a3C := eo0 _ tn (fun s => by kernel_rfl) (by kernel_rfl)
def jU (x0 : Int) (x1 : Int) (x2 : Int) : Option Y1 :=
 some (((32 : Int)), (((0 : Int)), (((0 : Int)), (((1 : Int)), (x0, (x1, x2))))))
def a64 : TEnt := ⟨148, .agg Y8_, [], [(.agg Xs, [])], fun s => jU s.1 s.2.1 s.2.2⟩
theorem Z7 : qA Tryz.prog a64 := eo0 _ tn (fun s => by kernel_rfl) (by kernel_rfl)
def QH (x0 : Int) (x1 : Int) (x2 : Int) (x3 : Int) : Option (Y1 × Bool) :=
 (yv x0).bind fun x4 =>
 bif decide (x4 < 1) then
 some ((((0 : Int)), (((0 : Int)), (((0 : Int)), (((0 : Int)), (((0 : Int)), (((0 : Int)), ((0 : Int)))))))), false)
 else some ((x0, (((0 : Int)), (((0 : Int)), ((IntKind.u8.wrap x4), (x1, (x2, x3)))))), true)
def adJ : TEnt := ⟨127, .cons (.int .i32) (.agg Y8_), [], [(.tup (.cons (.agg a0P) .bool), [])], fun s => QH s.1 s.2.1 s.2.2.1 s.2.2.2⟩
theorem a4P : qA Tryz.prog adJ := eo0 _ (tc ZU tn) (fun s => by kernel_rfl) (by kernel_rfl)
def QX (x0 : Int) (x1 : Int) (x2 : Int) (x3 : Int) : Option (Y1 × Bool) :=
 (w4 x0).bind fun x4 =>
 bif x4 != 1 then
 bif x4 != 2 then
 some ((((0 : Int)), (((0 : Int)), (((0 : Int)), (((0 : Int)), (((0 : Int)), (((0 : Int)), ((0 : Int)))))))), false)
 else some ((x0, (((0 : Int)), (((0 : Int)), ((IntKind.u8.wrap x4), (x1, (x2, x3)))))), true)
 else some ((x0, (((0 : Int)), (((0 : Int)), ((IntKind.u8.wrap x4), (x1, (x2, x3)))))), true)
def agT : TEnt := ⟨52, .cons (.int .i64) (.agg Y8_), [], [(.tup (.cons (.agg Xs) .bool), [])], fun s => QX s.1 s.2.1 s.2.2.1 s.2.2.2⟩
theorem a68 : qA Tryz.prog agT := eo0 _ (tc ZJ tn) (fun s => by kernel_rfl) (by kernel_rfl)
def yX (x0 : Int) (x1 : Int) (x2 : Int) (x3 : Int) (x4 : Int) (x5 : Int) (x6 : Int) : Option Y1 :=
 some (((0 : Int)), (((0 : Int)), (((0 : Int)), (((0 : Int)), (x4, (x5, x6))))))
def a5u : TEnt := ⟨161, .agg a0P, [], [(.agg a0P, [])], fun s => yX s.1 s.2.1 s.2.2.1 s.2.2.2.1 s.2.2.2.2.1 s.2.2.2.2.2.1 s.2.2.2.2.2.2⟩
theorem JK : qA Tryz.prog a5u := eo0 _ tn (fun s => by kernel_rfl) (by kernel_rfl)
def YK (x0 : Int) (x1 : Int) (x2 : Int) (x3 : Int) (x4 : Int) (x5 : Int) (x6 : Int) : Option Y1 :=
 some (((0 : Int)), (((0 : Int)), (((0 : Int)), (((0 : Int)), (x4, (x5, x6))))))
def a9O : TEnt := ⟨165, .agg Xs, [], [(.agg Xs, [])], fun s => YK s.1 s.2.1 s.2.2.1 s.2.2.2.1 s.2.2.2.2.1 s.2.2.2.2.2.1 s.2.2.2.2.2.2⟩
theorem a0A : qA Tryz.prog a9O := eo0 _ tn (fun s => by kernel_rfl) (by kernel_rfl)
set_option maxHeartbeats 4000000
def inR : List Int → Int → Bool
 | a :: b :: l, r => (decide (a ≤ r) && decide (r ≤ b)) || inR l r
 | _, _ => false
def v8 : List Int := [768, 879, 8203, 8207, 8400, 8447, 65024, 65039, 65056, 65071]
def ZP : List Int := [4352, 4447, 11904, 12350, 12353, 42191, 44032, 55203, 63744, 64255, 65072, 65135, 65280, 65376, 65504, 65510, 127744, 128591, 129280, 129535, 131072, 262141]
def vj (r : Int) : Bool := (decide (0 ≤ r) && decide (r < 55296)) || (decide (57343 < r) && decide (r ≤ 1114111))
def qY (r : Int) : Int := if r < 32 ∨ (127 ≤ r ∧ r ≤ 159) then -1 else if vj r = true then (if inR v8 r = true then 0 else if inR ZP r = true then 2 else 1) else -1
theorem adA (r : Int) : yj r = some (vj r) := by
 unfold yj vj
 by_cases h1 : 0 ≤ r <;> by_cases h2 : r < 55296 <;> by_cases h3 : 57343 < r <;> simp [h1, h2, h3]
theorem afY (r : Int) : Qs r = some (vj r) := by
 unfold Qs vj
 by_cases h1 : 0 ≤ r <;> by_cases h2 : r < 55296 <;> by_cases h3 : 57343 < r <;> by_cases h4 : r ≤ 1114111 <;> simp [h1, h2, h3, h4] <;> omega
theorem a6k (a : Int) (b : List Int) (c : Int) : ZF (a, b, c) = unr (wn a b c) ZF := WP _ _
theorem ajU (r : Int) (l : List Int) (hl : l.length ≤ 1000) (he : l.length % 2 = 0) : ∀ (k i : Nat), 2 * k = l.length - i → i ≤ l.length → ZF (r, l, (i : Int)) = some (inR (l.drop i) r) := by
 intro k
 induction k with
 | zero =>
  intro i hk hi
  rw [a6k]
  unfold wn
  simp (disch := omega) only [q8, qh, qm, q9, qd, qf, qH, zx]
  rw [List.drop_eq_nil_of_le (by omega)]
  rfl
 | succ k ih =>
  intro i hk hi
  obtain ⟨a, ha⟩ := qF (l := l) (i := i) (by omega)
  obtain ⟨b, hb⟩ := qF (l := l) (i := i + 1) (by omega)
  rw [Xw ha, Xw hb, a6k]
  unfold wn
  have e1 : ((i : Int) + 1).toNat = i + 1 := by omega
  have e2 : ((i : Int) + 2) = ((i + 2 : Nat) : Int) := by omega
  by_cases h1 : a ≤ r
  ·by_cases h2 : r ≤ b
   ·simp (disch := omega) only [q8, qh, q9, qd, qj, qH, zx, ha, hb, e1]
    simp [inR, h1, h2]
   ·simp (disch := omega) only [q8, qh, qm, q9, qd, qf, qj, qH, qV, ha, hb, e1, e2]
    rw [ih (i + 2) (by omega) (by omega)]
    simp [inR, h1, h2]
  ·simp (disch := omega) only [q8, qh, qm, q9, qd, qf, qj, qH, qV, ha, hb, e1, e2]
   rw [ih (i + 2) (by omega) (by omega)]
   simp [inR, h1]
theorem aam (r : Int) (l : List Int) (hl : l.length ≤ 1000) (he : l.length % 2 = 0) : Kf r l = some (inR l r) := by
 unfold Kf
 have := ajU r l hl he (l.length / 2) 0 (by omega) (by omega)
 rw [show ((0 : Nat) : Int) = 0 from rfl] at this
 rw [this]
 rfl
theorem Xz (r : Int) : w4 r = some (qY r) := by
 unfold w4 qY
 rw [aam _ _ (by simp) (by simp), aam _ _ (by simp) (by simp), aam _ _ (by simp) (by simp), afY]
 by_cases h1 : r < 32
 ·simp [h1]
 ·by_cases h2 : 127 ≤ r ∧ r ≤ 159
  ·simp [h1, h2, inR]
  ·have h2' : inR [127, 159] r = false := by simp only [q8, inR]; simp; omega
   cases h3 : vj r
   ·simp [h1, h2, h2']
   ·rw [h2']
    cases h4 : inR v8 r
    ·have h4' := h4
     unfold v8 at h4'
     cases h5 : inR ZP r
     ·have h5' := h5
      unfold ZP at h5'
      rw [h4', h5']
      simp [h1, h2]
     ·have h5' := h5
      unfold ZP at h5'
      rw [h4', h5']
      simp [h1, h2]
    ·have h4' := h4
     unfold v8 at h4'
     rw [h4']
     simp [h1, h2]
theorem Qc (a b : Int) : qx (a, b) = unr (qE a b) qx := WP _ _
theorem Vr (a b : Int) : qQ (a, b) = unr (zl a b) qQ := WP _ _
theorem alW (r : Int) : qx (0, r) = if (decide ((4352 : Int) ≤ r) && decide (r ≤ 4447)) = true then some 2 else qx (1, r) := by
 rw [Qc]
 unfold qE
 by_cases h1 : (4352 : Int) ≤ r
 ·by_cases h2 : r ≤ 4447
  ·simp (disch := omega) only [q8, qh, qm, q9, qd, qf, qp, zx]
   simp []
  ·simp (disch := omega) only [q8, qh, qm, q9, qd, qf, qp, qV]
   simp []
 ·simp (disch := omega) only [q8, qh, qm, q9, qd, qf, qp, qV]
  simp []
theorem alV (r : Int) : qx (1, r) = if (decide ((11904 : Int) ≤ r) && decide (r ≤ 12350)) = true then some 2 else qx (2, r) := by
 rw [Qc]
 unfold qE
 by_cases h1 : (11904 : Int) ≤ r
 ·by_cases h2 : r ≤ 12350
  ·simp (disch := omega) only [q8, qh, qm, q9, qd, qf, qp, zx]
   simp []
  ·simp (disch := omega) only [q8, qh, qm, q9, qd, qf, qp, qV]
   simp []
 ·simp (disch := omega) only [q8, qh, qm, q9, qd, qf, qp, qV]
  simp []
theorem amn (r : Int) : qx (2, r) = if (decide ((12353 : Int) ≤ r) && decide (r ≤ 42191)) = true then some 2 else qx (3, r) := by
 rw [Qc]
 unfold qE
 by_cases h1 : (12353 : Int) ≤ r
 ·by_cases h2 : r ≤ 42191
  ·simp (disch := omega) only [q8, qh, qm, q9, qd, qf, qp, zx]
   simp []
  ·simp (disch := omega) only [q8, qh, qm, q9, qd, qf, qp, qV]
   simp []
 ·simp (disch := omega) only [q8, qh, qm, q9, qd, qf, qp, qV]
  simp []
theorem alJ (r : Int) : qx (3, r) = if (decide ((44032 : Int) ≤ r) && decide (r ≤ 55203)) = true then some 2 else qx (4, r) := by
 rw [Qc]
 unfold qE
 by_cases h1 : (44032 : Int) ≤ r
 ·by_cases h2 : r ≤ 55203
  ·simp (disch := omega) only [q8, qh, qm, q9, qd, qf, qp, zx]
   simp []
  ·simp (disch := omega) only [q8, qh, qm, q9, qd, qf, qp, qV]
   simp []
 ·simp (disch := omega) only [q8, qh, qm, q9, qd, qf, qp, qV]
  simp []
theorem amm (r : Int) : qx (4, r) = if (decide ((63744 : Int) ≤ r) && decide (r ≤ 64255)) = true then some 2 else qx (5, r) := by
 rw [Qc]
 unfold qE
 by_cases h1 : (63744 : Int) ≤ r
 ·by_cases h2 : r ≤ 64255
  ·simp (disch := omega) only [q8, qh, qm, q9, qd, qf, qp, zx]
   simp []
  ·simp (disch := omega) only [q8, qh, qm, q9, qd, qf, qp, qV]
   simp []
 ·simp (disch := omega) only [q8, qh, qm, q9, qd, qf, qp, qV]
  simp []
theorem amk (r : Int) : qx (5, r) = if (decide ((65072 : Int) ≤ r) && decide (r ≤ 65135)) = true then some 2 else qx (6, r) := by
 rw [Qc]
 unfold qE
 by_cases h1 : (65072 : Int) ≤ r
 ·by_cases h2 : r ≤ 65135
  ·simp (disch := omega) only [q8, qh, qm, q9, qd, qf, qp, zx]
   simp []
  ·simp (disch := omega) only [q8, qh, qm, q9, qd, qf, qp, qV]
   simp []
 ·simp (disch := omega) only [q8, qh, qm, q9, qd, qf, qp, qV]
  simp []
theorem amc (r : Int) : qx (6, r) = if (decide ((65280 : Int) ≤ r) && decide (r ≤ 65376)) = true then some 2 else qx (7, r) := by
 rw [Qc]
 unfold qE
 by_cases h1 : (65280 : Int) ≤ r
 ·by_cases h2 : r ≤ 65376
  ·simp (disch := omega) only [q8, qh, qm, q9, qd, qf, qp, zx]
   simp []
  ·simp (disch := omega) only [q8, qh, qm, q9, qd, qf, qp, qV]
   simp []
 ·simp (disch := omega) only [q8, qh, qm, q9, qd, qf, qp, qV]
  simp []
theorem alM (r : Int) : qx (7, r) = if (decide ((65504 : Int) ≤ r) && decide (r ≤ 65510)) = true then some 2 else qx (8, r) := by
 rw [Qc]
 unfold qE
 by_cases h1 : (65504 : Int) ≤ r
 ·by_cases h2 : r ≤ 65510
  ·simp (disch := omega) only [q8, qh, qm, q9, qd, qf, qp, zx]
   simp []
  ·simp (disch := omega) only [q8, qh, qm, q9, qd, qf, qp, qV]
   simp []
 ·simp (disch := omega) only [q8, qh, qm, q9, qd, qf, qp, qV]
  simp []
theorem alU (r : Int) : qx (8, r) = if (decide ((127744 : Int) ≤ r) && decide (r ≤ 128591)) = true then some 2 else qx (9, r) := by
 rw [Qc]
 unfold qE
 by_cases h1 : (127744 : Int) ≤ r
 ·by_cases h2 : r ≤ 128591
  ·simp (disch := omega) only [q8, qh, qm, q9, qd, qf, qp, zx]
   simp []
  ·simp (disch := omega) only [q8, qh, qm, q9, qd, qf, qp, qV]
   simp []
 ·simp (disch := omega) only [q8, qh, qm, q9, qd, qf, qp, qV]
  simp []
theorem alH (r : Int) : qx (9, r) = if (decide ((129280 : Int) ≤ r) && decide (r ≤ 129535)) = true then some 2 else qx (10, r) := by
 rw [Qc]
 unfold qE
 by_cases h1 : (129280 : Int) ≤ r
 ·by_cases h2 : r ≤ 129535
  ·simp (disch := omega) only [q8, qh, qm, q9, qd, qf, qp, zx]
   simp []
  ·simp (disch := omega) only [q8, qh, qm, q9, qd, qf, qp, qV]
   simp []
 ·simp (disch := omega) only [q8, qh, qm, q9, qd, qf, qp, qV]
  simp []
theorem alB (r : Int) : qx (10, r) = if (decide ((131072 : Int) ≤ r) && decide (r ≤ 262141)) = true then some 2 else qx (11, r) := by
 rw [Qc]
 unfold qE
 by_cases h1 : (131072 : Int) ≤ r
 ·by_cases h2 : r ≤ 262141
  ·simp (disch := omega) only [q8, qh, qm, q9, qd, qf, qp, zx]
   simp []
  ·simp (disch := omega) only [q8, qh, qm, q9, qd, qf, qp, qV]
   simp []
 ·simp (disch := omega) only [q8, qh, qm, q9, qd, qf, qp, qV]
  simp []
theorem alR (r : Int) : qQ (0, r) = if (decide ((768 : Int) ≤ r) && decide (r ≤ 879)) = true then some 0 else qQ (1, r) := by
 rw [Vr]
 unfold zl
 by_cases h1 : (768 : Int) ≤ r
 ·by_cases h2 : r ≤ 879
  ·simp (disch := omega) only [q8, qh, qm, q9, qd, qf, qp, zx]
   simp []
  ·simp (disch := omega) only [q8, qh, qm, q9, qd, qf, qp, qV]
   simp []
 ·simp (disch := omega) only [q8, qh, qm, q9, qd, qf, qp, qV]
  simp []
theorem ame (r : Int) : qQ (1, r) = if (decide ((8203 : Int) ≤ r) && decide (r ≤ 8207)) = true then some 0 else qQ (2, r) := by
 rw [Vr]
 unfold zl
 by_cases h1 : (8203 : Int) ≤ r
 ·by_cases h2 : r ≤ 8207
  ·simp (disch := omega) only [q8, qh, qm, q9, qd, qf, qp, zx]
   simp []
  ·simp (disch := omega) only [q8, qh, qm, q9, qd, qf, qp, qV]
   simp []
 ·simp (disch := omega) only [q8, qh, qm, q9, qd, qf, qp, qV]
  simp []
theorem alN (r : Int) : qQ (2, r) = if (decide ((8400 : Int) ≤ r) && decide (r ≤ 8447)) = true then some 0 else qQ (3, r) := by
 rw [Vr]
 unfold zl
 by_cases h1 : (8400 : Int) ≤ r
 ·by_cases h2 : r ≤ 8447
  ·simp (disch := omega) only [q8, qh, qm, q9, qd, qf, qp, zx]
   simp []
  ·simp (disch := omega) only [q8, qh, qm, q9, qd, qf, qp, qV]
   simp []
 ·simp (disch := omega) only [q8, qh, qm, q9, qd, qf, qp, qV]
  simp []
theorem alK (r : Int) : qQ (3, r) = if (decide ((65024 : Int) ≤ r) && decide (r ≤ 65039)) = true then some 0 else qQ (4, r) := by
 rw [Vr]
 unfold zl
 by_cases h1 : (65024 : Int) ≤ r
 ·by_cases h2 : r ≤ 65039
  ·simp (disch := omega) only [q8, qh, qm, q9, qd, qf, qp, zx]
   simp []
  ·simp (disch := omega) only [q8, qh, qm, q9, qd, qf, qp, qV]
   simp []
 ·simp (disch := omega) only [q8, qh, qm, q9, qd, qf, qp, qV]
  simp []
theorem alQ (r : Int) : qQ (4, r) = if (decide ((65056 : Int) ≤ r) && decide (r ≤ 65071)) = true then some 0 else qQ (5, r) := by
 rw [Vr]
 unfold zl
 by_cases h1 : (65056 : Int) ≤ r
 ·by_cases h2 : r ≤ 65071
  ·simp (disch := omega) only [q8, qh, qm, q9, qd, qf, qp, zx]
   simp []
  ·simp (disch := omega) only [q8, qh, qm, q9, qd, qf, qp, qV]
   simp []
 ·simp (disch := omega) only [q8, qh, qm, q9, qd, qf, qp, qV]
  simp []
theorem aiK (r : Int) : qx (11, r) = some 1 := by
 rw [Qc]
 unfold qE
 simp (disch := omega) only [q8, qm, q9, qf, zx]
theorem ai5 (r : Int) : qx (0, r) = some (if inR ZP r = true then 2 else 1) := by
 unfold ZP
 rw [alW, alV, amn, alJ, amm, amk, amc, alM, alU, alH, alB, aiK]
 simp only [q8, inR, Bool.or_false]
 repeat' split
 all_goals first | (simp_all; done) | (exfalso; simp only [q8, Bool.or_eq_true, Bool.and_eq_true, decide_eq_true_eq] at *; omega)
theorem aie (r : Int) : qQ (5, r) = some (if inR ZP r = true then 2 else 1) := by
 rw [Vr]
 unfold zl
 simp (disch := omega) only [q8, qm, q9, qf, qj, zx, ai5]
theorem ajz (r : Int) : qQ (0, r) = some (if inR v8 r = true then 0 else if inR ZP r = true then 2 else 1) := by
 unfold v8
 rw [alR, ame, alN, alK, alQ, aie]
 generalize (if inR ZP r = true then (2 : Int) else 1) = q
 simp only [q8, inR, Bool.or_false]
 repeat' split
 all_goals first | (simp_all; done) | (exfalso; simp only [q8, Bool.or_eq_true, Bool.and_eq_true, decide_eq_true_eq] at *; omega)
theorem ua (r : Int) : yv r = some (qY r) := by
 unfold yv qY
 rw [adA, ajz]
 by_cases h1 : r < 32
 ·simp [h1]
 ·by_cases h2 : 127 ≤ r
  ·by_cases h3 : r ≤ 159
   ·simp [h1, h2, h3]
   ·cases h4 : vj r <;> simp [h1, h2, h3]
  ·cases h4 : vj r <;> simp [h1, h2]
theorem xj (r : Int) : kz r = some (qY r == 0) := by unfold kz; rw [ua]; rfl
theorem WA (r : Int) : qY r = -1 ∨ qY r = 0 ∨ qY r = 1 ∨ qY r = 2 := by
 unfold qY
 repeat' split
 all_goals simp
set_option maxHeartbeats 0
open Go.Proofs
def kK (x0 : Int) : Option Bool :=
 some (x0 == 0)
def uf : TEnt := ⟨167, .int .i32, [], [(.bool, [])], fun s => kK s⟩
theorem vZ : qA Tryz.prog uf := eo0 _ tn (fun s => by kernel_rfl) (by kernel_rfl)
def w7 (x0 : Int) : Option Bool :=
 (kz x0).bind fun x1 =>
 some !x1
def Ur : TEnt := ⟨171, .int .i32, [], [(.bool, [])], fun s => w7 s⟩
theorem V0 : qA Tryz.prog Ur := eo0 _ (tc Qe tn) (fun s => by kernel_rfl) (by kernel_rfl)
def Zp (x0 : Int) (x1 : Int) (x2 : Int) (x3 : Int) (x4 : Int) (x5 : Int) (x6 : Int) : Option Bool :=
 Option.bind (
 (wP x4 x5 x6).bind fun x7 =>
 bif !x7 then
 some (Sum.inl (true, (x0, (x1, (x2, (x3, (x4, (x5, x6))))))))
 else some (Sum.inl ((decide (2 < x3)), (x0, (x1, (x2, (x3, (x4, (x5, x6))))))))) fun (x7 : ((Bool × Y1) ⊕ Bool)) =>
 match x7 with
  | Sum.inl x8 =>
   bif x8.1 then
   some false
   else bif x8.2.2.2.2.1 == 0 then
   bif x8.2.1 == 0 then
   bif x8.2.2.1 == 0 then
   some (x8.2.2.2.1 == 0)
   else some false
   else some false
   else (w4 x8.2.1).bind fun x9 =>
   bif x9 != IntKind.i64.wrap x8.2.2.2.2.1 then
   some false
   else bif x8.2.2.1 == 0 then
   bif x8.2.2.2.1 == 0 then
   some true
   else (w4 x8.2.2.1).bind fun x10 =>
   bif x10 == 0 then
   bif x8.2.2.1 != 0 then
   bif x8.2.2.2.1 == 0 then
   some true
   else (w4 x8.2.2.2.1).bind fun x11 =>
   some (x11 == 0)
   else some false
   else some false
   else (w4 x8.2.2.1).bind fun x10 =>
   bif x10 == 0 then
   bif x8.2.2.1 != 0 then
   bif x8.2.2.2.1 == 0 then
   some true
   else (w4 x8.2.2.2.1).bind fun x11 =>
   some (x11 == 0)
   else some false
   else some false
  | Sum.inr x8 =>
   some x8
def a5F : TEnt := ⟨164, .agg Xs, [], [(.bool, [])], fun s => Zp s.1 s.2.1 s.2.2.1 s.2.2.2.1 s.2.2.2.2.1 s.2.2.2.2.2.1 s.2.2.2.2.2.2⟩
theorem ug : qA Tryz.prog a5F := zH (loops := []) (joins := [(9, [1, 13], (.cons (.ptr 0 0) .bool), [.st Xs])]) (un := []) _ (tc ZJ (tc QP tn)) (fun s => by kernel_rfl) (by kernel_rfl)
def jB (x0 : Y1) (x1 : Int) : Option (Y1 × Bool) :=
 (w4 x1).bind fun x2 =>
 bif x2 != 0 then
 some (x0, false)
 else bif x0.2.2.2.1 != 1 then
 bif x0.2.2.2.1 != 2 then
 some (x0, false)
 else bif x0.2.1 == 0 then
 some ((x0.1, (x1, x0.2.2)), true)
 else bif x0.2.2.1 == 0 then
 some ((x0.1, (x0.2.1, (x1, x0.2.2.2))), true)
 else some (x0, false)
 else bif x0.2.1 == 0 then
 some ((x0.1, (x1, x0.2.2)), true)
 else bif x0.2.2.1 == 0 then
 some ((x0.1, (x0.2.1, (x1, x0.2.2.2))), true)
 else some (x0, false)
def a9M : TEnt := ⟨189, .cons (.agg Xs) (.int .i64), [], [(.tup (.cons (.agg Xs) .bool), [])], fun s => jB s.1 s.2⟩
theorem a0U : qA Tryz.prog a9M := eo0 _ (tc ZJ tn) (fun s => by kernel_rfl) (by kernel_rfl)
def Qn (x0 : Int) (x1 : Int) (x2 : Int) (x3 : Int) (x4 : Int) (x5 : Int) (x6 : Int) : Option Bool :=
 (wL x4 x5 x6).bind fun x7 =>
 bif !x7 then
 some false
 else bif x3 == 0 then
 (yX x0 x1 x2 x3 x4 x5 x6).bind fun x8 =>
 some (x0 == x8.1 && (x1 == x8.2.1 && (x2 == x8.2.2.1 && true) && (x3 == x8.2.2.2.1 && (x4 == x8.2.2.2.2.1 && (x5 == x8.2.2.2.2.2.1 && (x6 == x8.2.2.2.2.2.2 && true)) && true))))
 else bif decide (2 < x3) then
 some false
 else (yv x0).bind fun x8 =>
 bif x8 != IntKind.i64.wrap x3 then
 some false
 else (kK x1).bind fun x9 =>
 bif x9 then
 (kK x1).bind fun x10 =>
 bif !x10 then
 some false
 else (kK x2).bind fun x11 =>
 bif !x11 then
 some false
 else some true
 else (kK x2).bind fun x10 =>
 bif x10 then
 (w7 x1).bind fun x11 =>
 bif x11 then
 some false
 else (kK x2).bind fun x12 =>
 bif !x12 then
 some false
 else some true
 else (w7 x1).bind fun x11 =>
 bif x11 then
 some false
 else (w7 x2).bind fun x12 =>
 bif x12 then
 some false
 else some true
def a2L : TEnt := ⟨114, .agg a0P, [], [(.bool, [])], fun s => Qn s.1 s.2.1 s.2.2.1 s.2.2.2.1 s.2.2.2.2.1 s.2.2.2.2.2.1 s.2.2.2.2.2.2⟩
theorem Xl : qA Tryz.prog a2L := eo0 _ (tc ZU (tc Za (tc JK (tc vZ (tc V0 tn))))) (fun s => by kernel_rfl) (by kernel_rfl)
def kV (x0 : Y1) (x1 : Int) : Option (Y1 × Bool) :=
 bif 0 == x0.2.1 then
 (kz x1).bind fun x2 =>
 bif !x2 then
 some (x0, false)
 else bif x0.2.2.2.1 != 1 then
 bif x0.2.2.2.1 != 2 then
 some (x0, false)
 else some ((x0.1, (x1, x0.2.2)), true)
 else some ((x0.1, (x1, x0.2.2)), true)
 else bif 0 == x0.2.2.1 then
 (kz x1).bind fun x2 =>
 bif !x2 then
 some (x0, false)
 else bif x0.2.2.2.1 != 1 then
 bif x0.2.2.2.1 != 2 then
 some (x0, false)
 else some ((x0.1, (x0.2.1, (x1, x0.2.2.2))), true)
 else some ((x0.1, (x0.2.1, (x1, x0.2.2.2))), true)
 else some (x0, false)
def a7f : TEnt := ⟨190, .cons (.agg a0P) (.int .i32), [], [(.tup (.cons (.agg a0P) .bool), [])], fun s => kV s.1 s.2⟩
theorem uQ : qA Tryz.prog a7f := eo0 _ (tc Qe tn) (fun s => by kernel_rfl) (by kernel_rfl)
set_option maxHeartbeats 4000000
abbrev qg : Type := Int × ((Int × Int) × (Int × Y6_))
def Z4 (n : Int) : Prop := -2147483648 ≤ n ∧ n < 2147483648
def u8r (n : Int) : Prop := 0 ≤ n ∧ n < 256
structure OkC (c : qg) : Prop where
 r : Z4 c.1
 m1 : Z4 c.2.1.1
 m2 : Z4 c.2.1.2
 w : u8r c.2.2.1
 p1 : u8r c.2.2.2.1
 p2 : u8r c.2.2.2.2.1
 p3 : u8r c.2.2.2.2.2
def Z2 (a b c : Int) : Bool := decide (a < 32) && (decide (b < 17) && decide (c < 17))
theorem Ul (a b c : Int) : wL a b c = some (Z2 a b c) := by
 unfold wL Z2
 by_cases h1 : a < 32 <;> by_cases h2 : b < 17 <;> by_cases h3 : c < 17 <;> simp [h1, h2, h3]
theorem a2O (a b c : Int) : wP a b c = some (Z2 a b c) := by
 unfold wP Z2
 have e1 : decide (a ≤ 31) = decide (a < 32) := decide_eq_decide.2 (by omega)
 have e2 : decide (b ≤ 16) = decide (b < 17) := decide_eq_decide.2 (by omega)
 have e3 : decide (c ≤ 16) = decide (c < 17) := decide_eq_decide.2 (by omega)
 rw [e1, e2, e3]
 by_cases h1 : a < 32 <;> by_cases h2 : b < 17 <;> by_cases h3 : c < 17 <;> simp [h1, h2, h3]
def kn (c : qg) : Bool := Z2 c.2.2.2.1 c.2.2.2.2.1 c.2.2.2.2.2 && (if c.2.2.1 = 0 then (c.1 == 0 && (c.2.1.1 == 0 && c.2.1.2 == 0)) else decide (c.2.2.1 ≤ 2) && (qY c.1 == c.2.2.1 && (if c.2.1.1 = 0 then c.2.1.2 == 0 else qY c.2.1.1 == 0 && (c.2.1.2 == 0 || qY c.2.1.2 == 0))))
theorem a8U {c : qg} (h : OkC c) : Qn c.1 c.2.1.1 c.2.1.2 c.2.2.1 c.2.2.2.1 c.2.2.2.2.1 c.2.2.2.2.2 = some (kn c) := by
 obtain ⟨r, ⟨m1, m2⟩, w, p1, p2, p3⟩ := c
 have hw := h.w
 simp only [q8, u8r] at hw
 unfold Qn kn
 simp only [q8, Ul, ua, yX, kK, w7, xj, qj, bne, Vk, q9 (n := w) (by omega) (by omega)]
 cases hp : Z2 p1 p2 p3
 ·simp
 ·by_cases h0 : w = 0
  ·subst h0; simp []
  ·by_cases h2 : w ≤ 2
   ·have h2' : ¬ 2 < w := by omega
    by_cases h3 : qY r = w
    ·by_cases h4 : m1 = 0
     ·by_cases h5 : m2 = 0 <;> simp [h0, h2, h2', h3, h4, h5]
     ·by_cases h5 : m2 = 0
      ·by_cases h6 : qY m1 = 0 <;> simp [h0, h2, h2', h3, h4, h5, h6]
      ·by_cases h6 : qY m1 = 0 <;> by_cases h7 : qY m2 = 0 <;> simp [h0, h2, h2', h3, h4, h5, h6, h7]
    ·simp [h0, h2, h2', h3]
   ·have h2' : 2 < w := by omega
    simp [h0, h2, h2']
theorem akd : qY 0 = -1 := by simp [qY]
theorem ae3 {c : qg} (h : OkC c) : Zp c.1 c.2.1.1 c.2.1.2 c.2.2.1 c.2.2.2.1 c.2.2.2.2.1 c.2.2.2.2.2 = some (kn c) := by
 obtain ⟨r, ⟨m1, m2⟩, w, p1, p2, p3⟩ := c
 have hw := h.w
 simp only [q8, u8r] at hw
 have ww : IntKind.i64.wrap w = w := q9 (by omega) (by omega)
 unfold Zp kn
 simp only [q8, a2O, Xz, qj, bne, Vk]
 cases hp : Z2 p1 p2 p3
 ·simp
 ·by_cases h2 : w ≤ 2
  ·have h2' : ¬ 2 < w := by omega
   by_cases h0 : w = 0
   ·subst h0
    by_cases h4 : r = 0 <;> by_cases h5 : m1 = 0 <;> simp [h4, h5]
   ·by_cases h3 : qY r = w
    ·by_cases h4 : m1 = 0
     ·by_cases h5 : m2 = 0 <;> simp [ww, h0, h2, h2', h3, h4, h5, akd]
     ·by_cases h5 : m2 = 0
      ·by_cases h6 : qY m1 = 0 <;> simp [ww, h0, h2, h2', h3, h4, h5, h6]
      ·by_cases h6 : qY m1 = 0 <;> by_cases h7 : qY m2 = 0 <;> simp [ww, h0, h2, h2', h3, h4, h5, h6, h7]
    ·simp [ww, h0, h2, h2', h3]
  ·have h2' : 2 < w := by omega
   have h0 : w ≠ 0 := by omega
   simp [h0, h2, h2']
def ofC (r p1 p2 p3 : Int) : qg × Bool := if qY r < 1 then ((0, (0, 0), 0, 0, 0, 0), false) else ((r, (0, 0), qY r, p1, p2, p3), true)
def Qf (c : qg) : Int × (Int × (Int × (Int × Y6_))) := (c.1, c.2.1.1, c.2.1.2, c.2.2.1, c.2.2.2.1, c.2.2.2.2.1, c.2.2.2.2.2)
theorem aca (r p1 p2 p3 : Int) : QH r p1 p2 p3 = some (Qf (ofC r p1 p2 p3).1, (ofC r p1 p2 p3).2) := by
 unfold QH ofC
 rw [ua]
 rcases WA r with h | h | h | h
 ·simp [h, Qf]
 ·simp [h, Qf]
 ·have : IntKind.u8.wrap 1 = 1 := z9 (by omega) (by omega)
  simp [h, Qf, this]
 ·have : IntKind.u8.wrap 2 = 2 := z9 (by omega) (by omega)
  simp [h, Qf, this]
theorem akU (r p1 p2 p3 : Int) : QX r p1 p2 p3 = some (Qf (ofC r p1 p2 p3).1, (ofC r p1 p2 p3).2) := by
 unfold QX ofC
 rw [Xz]
 rcases WA r with h | h | h | h
 ·simp [h, Qf]
 ·simp [h, Qf]
 ·have : IntKind.u8.wrap 1 = 1 := z9 (by omega) (by omega)
  simp [h, Qf, this]
 ·have : IntKind.u8.wrap 2 = 2 := z9 (by omega) (by omega)
  simp [h, Qf, this]
def jr (c : qg) (m : Int) : qg × Bool :=
 if qY m = 0 ∧ (c.2.2.1 = 1 ∨ c.2.2.1 = 2) then
  (if c.2.1.1 = 0 then ((c.1, (m, c.2.1.2), c.2.2), true) else if c.2.1.2 = 0 then ((c.1, (c.2.1.1, m), c.2.2), true) else (c, false))
 else (c, false)
theorem a5H (c : qg) (m : Int) : jB (Qf c) m = some (Qf (jr c m).1, (jr c m).2) := by
 obtain ⟨r, ⟨m1, m2⟩, w, p1, p2, p3⟩ := c
 unfold jB jr Qf
 simp only [q8, Xz, qj, bne, Vk]
 by_cases h1 : qY m = 0
 ·by_cases h2 : w = 1
  ·by_cases h3 : m1 = 0 <;> by_cases h4 : m2 = 0 <;> simp [h1, h2, h3, h4]
  ·by_cases h2b : w = 2
   ·by_cases h3 : m1 = 0 <;> by_cases h4 : m2 = 0 <;> simp [h1, h2b, h3, h4]
   ·simp [h1, h2, h2b]
 ·simp [h1]
theorem Ua (c : qg) (m : Int) : kV (Qf c) m = some (Qf (jr c m).1, (jr c m).2) := by
 obtain ⟨r, ⟨m1, m2⟩, w, p1, p2, p3⟩ := c
 unfold kV jr Qf
 simp only [q8, xj, qj, bne, Vk, eq_comm (a := (0 : Int))]
 by_cases h1 : qY m = 0
 ·by_cases h2 : w = 1
  ·by_cases h3 : m1 = 0 <;> by_cases h4 : m2 = 0 <;> simp [h1, h2, h3, h4]
  ·by_cases h2b : w = 2
   ·by_cases h3 : m1 = 0 <;> by_cases h4 : m2 = 0 <;> simp [h1, h2b, h3, h4]
   ·by_cases h3 : m1 = 0 <;> by_cases h4 : m2 = 0 <;> simp [h1, h2, h2b, h3, h4]
 ·by_cases h3 : m1 = 0 <;> by_cases h4 : m2 = 0 <;> simp [h1, h3, h4]
set_option maxHeartbeats 0
open Go.Proofs
def zy (x0 : Y0_) : Option Y0_ :=
 bif decide (x0.length = (0 : Nat)) then
 Go.Sim.bothM (
 some []) (
 bif decide ((0 : Nat) = (0 : Nat) ∧ (0 : Nat) + x0.length ≤ (8796093022208 : Nat)) then
 bif decide ((0 : Nat) + x0.length = ([] ++ x0).length) then
 some ([] ++ x0)
 else none
 else none)
 else bif decide ((0 : Nat) = (0 : Nat) ∧ (0 : Nat) + x0.length ≤ (8796093022208 : Nat)) then
 bif decide ((0 : Nat) + x0.length = ([] ++ x0).length) then
 some ([] ++ x0)
 else none
 else none
def a0B : TEnt := ⟨98, .sl Y3_, [], [(.own 0, [.li Y3_ 37 false])], fun s => zy s⟩
theorem wk : qA Tryz.prog a0B := eo0 _ tn (fun s => by kernel_rfl) (by kernel_rfl)
def yW (x0 : Int) : Option Int :=
 some (if (512 : Int) < if (0 : Int) > x0 then (0 : Int) else x0 then (512 : Int) else if (0 : Int) > x0 then (0 : Int) else x0)
def a0n : TEnt := ⟨146, .int .i64, [], [(.int .i64, [])], fun s => yW s⟩
theorem VB : qA Tryz.prog a0n := eo0 _ tn (fun s => by kernel_rfl) (by kernel_rfl)
def Qq (x0 : Int) : Option Int :=
 bif decide (x0 < 0) then
 some ((0 : Int))
 else bif decide (512 < x0) then
 some ((512 : Int))
 else some x0
def a3m : TEnt := ⟨147, .int .i64, [], [(.int .i64, [])], fun s => Qq s⟩
theorem Xm : qA Tryz.prog a3m := eo0 _ tn (fun s => by kernel_rfl) (by kernel_rfl)
def zQ (x4 : (Int × Int)) (x5 : Y6_) (x6 : Y0_) : Option (((Int × Int) × (Y6_ × Y0_)) ⊕ Y0_) :=
 bif decide (x4.2 < x4.1) then
 (y7 x5.1 x5.2.1 x5.2.2).bind fun x7 =>
 bif decide ((1 : Nat) = (1 : Nat)) then
 bif decide (x6.length = x6.length ∧ x6.length + (1 : Nat) ≤ (8796093022208 : Nat)) then
 bif decide (x6.length + (1 : Nat) = (x6 ++ [(x7.1, (x7.2.1, x7.2.2.1), x7.2.2.2.1, x7.2.2.2.2.1, x7.2.2.2.2.2.1, x7.2.2.2.2.2.2)]).length) then
 some (Sum.inl ((x4.1, (IntKind.i64.wrap (x4.2 + (1 : Int)))), (x5, (x6 ++ [(x7.1, (x7.2.1, x7.2.2.1), x7.2.2.2.1, x7.2.2.2.2.1, x7.2.2.2.2.2.1, x7.2.2.2.2.2.2)]))))
 else none
 else none
 else none
 else kk x6 (some (Sum.inr x6))
def K6 : ((Int × Int) × (Y6_ × Y0_)) → Option Y0_ := zq fun s => zQ s.1 s.2.1 s.2.2
def wx (x0 : Int) (x1 : Int) (x2 : Int) (x3 : Int) : Option Y0_ :=
 (K6 ((x0, ((0 : Int))), ((x1, (x2, x3)), []))).bind fun x4 =>
 some x4
def a1q : TEnt := ⟨145, .cons (.int .i64) (.agg Y8_), [], [(.sl Y3_, [])], fun s => wx s.1 s.2.1 s.2.2.1 s.2.2.2⟩
theorem K7 : qA Tryz.prog a1q := zH (loops := [(4682, [3, 5, 6, 7], (.cons (.ptr 0 0) (.cons (.own 1) yk)), [.st Y8_, .li Y3_ 37 false])]) (joins := []) (un := []) _ (tc Js tn) (fun s => by kernel_rfl) (by kernel_rfl)
def Zc (x0 : Int) : Option Y0_ :=
 (yW x0).bind fun x1 =>
 (wx x1 (0 : Int) (0 : Int) (0 : Int)).bind fun x2 =>
 some x2
def aae : TEnt := ⟨85, .int .i64, [], [(.sl Y3_, [])], fun s => Zc s⟩
theorem Yu : qA Tryz.prog aae := eo0 _ (tc VB (tc K7 tn)) (fun s => by kernel_rfl) (by kernel_rfl)
def kT (x1 : (Int × Int)) (x2 : Y0_) : Option (((Int × Int) × Y0_) ⊕ Y0_) :=
 (Qq x1.1).bind fun x3 =>
 bif decide (x1.2 < x3) then
 (jU (0 : Int) (0 : Int) (0 : Int)).bind fun x4 =>
 bif decide ((1 : Nat) = (1 : Nat)) then
 bif decide (x2.length = x2.length ∧ x2.length + (1 : Nat) ≤ (4398046511104 : Nat)) then
 bif decide (x2.length + (1 : Nat) = (x2 ++ [(x4.1, (x4.2.1, x4.2.2.1), x4.2.2.2.1, x4.2.2.2.2.1, x4.2.2.2.2.2.1, x4.2.2.2.2.2.2)]).length) then
 some (Sum.inl ((x1.1, (IntKind.i64.wrap (x1.2 + (1 : Int)))), (x2 ++ [(x4.1, (x4.2.1, x4.2.2.1), x4.2.2.2.1, x4.2.2.2.2.1, x4.2.2.2.2.2.1, x4.2.2.2.2.2.2)])))
 else none
 else none
 else none
 else kk x2 (some (Sum.inr x2))
def Vg : ((Int × Int) × Y0_) → Option Y0_ := zq fun s => kT s.1 s.2
def QD (x0 : Int) : Option Y0_ :=
 (Vg ((x0, ((0 : Int))), [])).bind fun x1 =>
 some x1
def ach : TEnt := ⟨86, .int .i64, [], [(.sl Y2_, [])], fun s => QD s⟩
theorem vS : qA Tryz.prog ach := zH (loops := [(4682, [0, 3, 4], (.cons (.int .i64) (.cons (.own 0) (.int .i64))), [.li Y2_ 47 false])]) (joins := []) (un := []) _ (tc Z7 (tc Xm tn)) (fun s => by kernel_rfl) (by kernel_rfl)
def Ui (x0 : Int) (x1 : Int) : Option Bool :=
 bif decide (0 ≤ x0) then
 none
 else some false
def uw : TEnt := ⟨173, .cons (.int .i64) (.int .u8), [], [(.bool, [])], fun s => Ui s.1 s.2⟩
theorem vN : qA Tryz.prog uw := eo0 _ tn (fun s => by kernel_rfl) (by kernel_rfl)
def Qy (x0 : Y0_) (x1 : Int) : Option Bool :=
 bif decide (0 ≤ x1) then
 bif decide (x1 < (↑(List.length x0) : Int)) then
 bif decide (0 ≤ x1) then
 (x0[x1.toNat]?).bind fun x2 =>
 bif x2.2.2.1 == 2 then
 bif decide ((0 : Int) ≤ IntKind.i64.wrap (x1 + (1 : Int))) then
 bif decide (IntKind.i64.wrap (x1 + (1 : Int)) < (↑(List.length x0) : Int)) then
 bif decide ((0 : Int) ≤ IntKind.i64.wrap (x1 + (1 : Int))) then
 (x0[(IntKind.i64.wrap (x1 + (1 : Int))).toNat]?).bind fun x3 =>
 bif !x3.2.2.1 == 0 then
 some true
 else bif decide (0 ≤ x1) then
 bif decide (x1 < (↑(List.length x0) : Int)) then
 bif decide (0 ≤ x1) then
 (x0[x1.toNat]?).bind fun x4 =>
 bif x4.2.2.1 == 0 then
 bif decide ((0 : Int) ≤ IntKind.i64.wrap (x1 - (1 : Int))) then
 bif decide (IntKind.i64.wrap (x1 - (1 : Int)) < (↑(List.length x0) : Int)) then
 bif decide ((0 : Int) ≤ IntKind.i64.wrap (x1 - (1 : Int))) then
 (x0[(IntKind.i64.wrap (x1 - (1 : Int))).toNat]?).bind fun x5 =>
 some (!x5.2.2.1 == 2)
 else none
 else some true
 else some true
 else some false
 else none
 else some false
 else some false
 else none
 else some true
 else some true
 else bif decide (0 ≤ x1) then
 bif decide (x1 < (↑(List.length x0) : Int)) then
 bif decide (0 ≤ x1) then
 (x0[x1.toNat]?).bind fun x3 =>
 bif x3.2.2.1 == 0 then
 bif decide ((0 : Int) ≤ IntKind.i64.wrap (x1 - (1 : Int))) then
 bif decide (IntKind.i64.wrap (x1 - (1 : Int)) < (↑(List.length x0) : Int)) then
 bif decide ((0 : Int) ≤ IntKind.i64.wrap (x1 - (1 : Int))) then
 (x0[(IntKind.i64.wrap (x1 - (1 : Int))).toNat]?).bind fun x4 =>
 some (!x4.2.2.1 == 2)
 else none
 else some true
 else some true
 else some false
 else none
 else some false
 else some false
 else none
 else bif decide (0 ≤ x1) then
 bif decide (x1 < (↑(List.length x0) : Int)) then
 bif decide (0 ≤ x1) then
 (x0[x1.toNat]?).bind fun x2 =>
 bif x2.2.2.1 == 0 then
 bif decide ((0 : Int) ≤ IntKind.i64.wrap (x1 - (1 : Int))) then
 bif decide (IntKind.i64.wrap (x1 - (1 : Int)) < (↑(List.length x0) : Int)) then
 bif decide ((0 : Int) ≤ IntKind.i64.wrap (x1 - (1 : Int))) then
 (x0[(IntKind.i64.wrap (x1 - (1 : Int))).toNat]?).bind fun x3 =>
 some (!x3.2.2.1 == 2)
 else none
 else some true
 else some true
 else some false
 else none
 else some false
 else some false
 else bif decide (0 ≤ x1) then
 bif decide (x1 < (↑(List.length x0) : Int)) then
 bif decide (0 ≤ x1) then
 (x0[x1.toNat]?).bind fun x2 =>
 bif x2.2.2.1 == 0 then
 bif decide ((0 : Int) ≤ IntKind.i64.wrap (x1 - (1 : Int))) then
 bif decide (IntKind.i64.wrap (x1 - (1 : Int)) < (↑(List.length x0) : Int)) then
 bif decide ((0 : Int) ≤ IntKind.i64.wrap (x1 - (1 : Int))) then
 (x0[(IntKind.i64.wrap (x1 - (1 : Int))).toNat]?).bind fun x3 =>
 some (!x3.2.2.1 == 2)
 else none
 else some true
 else some true
 else some false
 else none
 else some false
 else some false
def a3a : TEnt := ⟨115, .cons (.sl Y3_) (.int .i64), [], [(.bool, [])], fun s => Qy s.1 s.2⟩
theorem Xr : qA Tryz.prog a3a := eo0 _ (tc vN tn) (fun s => by kernel_rfl) (by kernel_rfl)
def ZN (x0 : Y0_) (x1 : Int) : Option Bool :=
 bif decide (0 ≤ x1) then
 (x0[x1.toNat]?).bind fun x2 =>
 bif x2.2.2.1 == 2 then
 bif IntKind.i64.wrap (x1 + (1 : Int)) == (↑(List.length x0) : Int) then
 some true
 else bif decide ((0 : Int) ≤ IntKind.i64.wrap (x1 + (1 : Int))) then
 (x0[(IntKind.i64.wrap (x1 + (1 : Int))).toNat]?).bind fun x3 =>
 some (x3.2.2.1 != 0)
 else none
 else bif decide (0 ≤ x1) then
 (x0[x1.toNat]?).bind fun x3 =>
 bif x3.2.2.1 == 0 then
 bif x1 == 0 then
 some true
 else bif decide ((0 : Int) ≤ IntKind.i64.wrap (x1 - (1 : Int))) then
 (x0[(IntKind.i64.wrap (x1 - (1 : Int))).toNat]?).bind fun x4 =>
 some (x4.2.2.1 != 2)
 else none
 else some false
 else none
 else none
def a5S : TEnt := ⟨191, .cons (.sl Y2_) (.int .i64), [], [(.bool, [])], fun s => ZN s.1 s.2⟩
theorem uG : qA Tryz.prog a5S := eo0 _ tn (fun s => by kernel_rfl) (by kernel_rfl)
def zK (x1 : (Y0_ × (Y0_ × (Int × Int)))) (x2 : Y0_) : Option (((Y0_ × (Y0_ × (Int × Int))) × Y0_) ⊕ Y0_) :=
 bif decide (x1.2.2.2 < x1.2.2.1) then
 bif decide (0 ≤ x1.2.2.2) then
 (x1.2.1[x1.2.2.2.toNat]?).bind fun x3 =>
 (Qy x1.1 x1.2.2.2).bind fun x4 =>
 bif !x4 then
 kk x2 (some (Sum.inl ((x1.1, (x1.2.1, (x1.2.2.1, (IntKind.i64.wrap (x1.2.2.2 + (1 : Int)))))), x2)))
 else (y7 x3.2.2.2.1 x3.2.2.2.2.1 x3.2.2.2.2.2).bind fun x5 =>
 bif decide (0 ≤ x1.2.2.2) then
 bif decide (x1.2.2.2.toNat < x2.length ∧ x2.length = x2.length) then
 kk x2 ((x2[x1.2.2.2.toNat]?).bind fun x6 =>
 bif decide (x2.length = (x2.set x1.2.2.2.toNat (x5.1, (x5.2.1, x5.2.2.1), x5.2.2.2.1, x5.2.2.2.2.1, x5.2.2.2.2.2.1, x5.2.2.2.2.2.2)).length) then
 some (Sum.inl ((x1.1, (x1.2.1, (x1.2.2.1, (IntKind.i64.wrap (x1.2.2.2 + (1 : Int)))))), (x2.set x1.2.2.2.toNat (x5.1, (x5.2.1, x5.2.2.1), x5.2.2.2.1, x5.2.2.2.2.1, x5.2.2.2.2.2.1, x5.2.2.2.2.2.2))))
 else none)
 else none
 else none
 else none
 else kk x2 (some (Sum.inr x2))
def Jy : ((Y0_ × (Y0_ × (Int × Int))) × Y0_) → Option Y0_ := zq fun s => zK s.1 s.2
def w5 (x0 : Y0_) : Option Y0_ :=
 bif decide (0 ≤ (↑x0.length : Int) ∧ (↑x0.length : Int) = (↑x0.length : Int) ∧ (↑x0.length : Int).toNat ≤ (8796093022208 : Nat)) then
 bif decide ((List.replicate (↑x0.length : Int).toNat ((0 : Int), ((0 : Int), (0 : Int)), (0 : Int), (0 : Int), (0 : Int), (0 : Int))).length = (↑x0.length : Int).toNat ∧ x0.length ≤ (↑x0.length : Int).toNat) then
 bif decide ((↑x0.length : Int).toNat = (x0 ++ List.drop x0.length (List.replicate (↑x0.length : Int).toNat ((0 : Int), ((0 : Int), (0 : Int)), (0 : Int), (0 : Int), (0 : Int), (0 : Int)))).length) then
 (Jy ((x0, (x0, (((↑x0.length : Int)), ((0 : Int))))), (x0 ++ List.drop x0.length (List.replicate (↑x0.length : Int).toNat ((0 : Int), ((0 : Int), (0 : Int)), (0 : Int), (0 : Int), (0 : Int), (0 : Int)))))).bind fun x1 =>
 some x1
 else none
 else none
 else none
def a6V : TEnt := ⟨183, .sl Y3_, [], [(.sl Y3_, [])], fun s => w5 s⟩
theorem Uu : qA Tryz.prog a6V := zH (loops := [(2429514, [0, 3, 12, 13, 14], (.cons (.sl Y3_) (.cons (.own 0) (.cons (.sl Y3_) yk))), [.li Y3_ 37 true])]) (joins := []) (un := []) _ (tc Js (tc Xr tn)) (fun s => by kernel_rfl) (by kernel_rfl)
def kP (x1 : (Y0_ × Int)) (x2 : Y0_) : Option (((Y0_ × Int) × Y0_) ⊕ Y0_) :=
 bif decide (x1.2 < (↑x1.1.length : Int)) then
 bif decide (0 ≤ x1.2) then
 (x1.1[x1.2.toNat]?).bind fun x3 =>
 (ZN x1.1 x1.2).bind fun x4 =>
 bif x4 then
 (jU x3.2.2.2.1 x3.2.2.2.2.1 x3.2.2.2.2.2).bind fun x5 =>
 bif decide ((1 : Nat) = (1 : Nat)) then
 bif decide (x2.length = x2.length ∧ x2.length + (1 : Nat) ≤ (4398046511104 : Nat)) then
 bif decide (x2.length + (1 : Nat) = (x2 ++ [(x5.1, (x5.2.1, x5.2.2.1), x5.2.2.2.1, x5.2.2.2.2.1, x5.2.2.2.2.2.1, x5.2.2.2.2.2.2)]).length) then
 some (Sum.inl ((x1.1, (IntKind.i64.wrap (x1.2 + (1 : Int)))), (x2 ++ [(x5.1, (x5.2.1, x5.2.2.1), x5.2.2.2.1, x5.2.2.2.2.1, x5.2.2.2.2.2.1, x5.2.2.2.2.2.2)])))
 else none
 else none
 else none
 else bif decide ((1 : Nat) = (1 : Nat)) then
 bif decide (x2.length = x2.length ∧ x2.length + (1 : Nat) ≤ (4398046511104 : Nat)) then
 bif decide (x2.length + (1 : Nat) = (x2 ++ [x3]).length) then
 some (Sum.inl ((x1.1, (IntKind.i64.wrap (x1.2 + (1 : Int)))), (x2 ++ [x3])))
 else none
 else none
 else none
 else none
 else kk x2 (some (Sum.inr x2))
def Yp : ((Y0_ × Int) × Y0_) → Option Y0_ := zq fun s => kP s.1 s.2
def QO (x0 : Y0_) : Option Y0_ :=
 (Yp ((x0, ((0 : Int))), [])).bind fun x1 =>
 some x1
def aab : TEnt := ⟨166, .sl Y2_, [], [(.sl Y2_, [])], fun s => QO s⟩
theorem Yt : qA Tryz.prog aab := zH (loops := [(4682, [0, 3, 4], (.cons (.sl Y2_) (.cons (.own 0) (.int .i64))), [.li Y2_ 47 false])]) (joins := []) (un := []) _ (tc Z7 (tc uG tn)) (fun s => by kernel_rfl) (by kernel_rfl)
def ju (x0 : Y0_) (x1 : Int) (x2 : Y0_) : Option Y0_ :=
 bif decide ((0 : Int) ≤ 0 ∧ 0 ≤ x1 ∧ x1 = x1 ∧ Int.toNat x1 ≤ List.length x0) then
 bif decide ((0 : Int) = x1) then
 bif decide ((0 : Nat) = (0 : Nat) ∧ (0 : Nat) + x2.length ≤ (8796093022208 : Nat)) then
 bif decide ((0 : Int) ≤ IntKind.i64.wrap (x1 + (↑x2.length : Int)) ∧ (IntKind.i64.wrap (x1 + (↑x2.length : Int))).toNat ≤ List.length x0) then
 bif decide (([] ++ x2).length = (0 : Nat) + x2.length ∧ (0 : Nat) + x2.length + (List.drop (IntKind.i64.wrap (x1 + (↑x2.length : Int))).toNat x0).length ≤ (8796093022208 : Nat)) then
 bif decide (([] ++ x2 ++ List.drop (IntKind.i64.wrap (x1 + (↑x2.length : Int))).toNat x0).length = (0 : Nat) + x2.length + (List.drop (IntKind.i64.wrap (x1 + (↑x2.length : Int))).toNat x0).length) then
 (w5 ([] ++ x2 ++ List.drop (IntKind.i64.wrap (x1 + (↑x2.length : Int))).toNat x0)).bind fun x3 =>
 some x3
 else none
 else none
 else none
 else none
 else bif decide ((List.take (Int.toNat x1 - (0 : Nat)) (List.drop (0 : Nat) x0)).length + x2.length ≤ (8796093022208 : Nat)) then
 bif decide (x2.length = (0 : Nat)) then
 bif decide ((0 : Int) ≤ IntKind.i64.wrap (x1 + (↑x2.length : Int)) ∧ (IntKind.i64.wrap (x1 + (↑x2.length : Int))).toNat ≤ List.length x0) then
 bif decide ((List.take (Int.toNat x1 - (0 : Nat)) (List.drop (0 : Nat) x0)).length + (List.drop (IntKind.i64.wrap (x1 + (↑x2.length : Int))).toNat x0).length ≤ (8796093022208 : Nat)) then
 bif decide ((List.drop (IntKind.i64.wrap (x1 + (↑x2.length : Int))).toNat x0).length = (0 : Nat)) then
 (w5 (List.take (Int.toNat x1 - (0 : Nat)) (List.drop (0 : Nat) x0))).bind fun x3 =>
 some x3
 else bif decide ((List.take (Int.toNat x1 - (0 : Nat)) (List.drop (0 : Nat) x0) ++ List.drop (IntKind.i64.wrap (x1 + (↑x2.length : Int))).toNat x0).length = (List.take (Int.toNat x1 - (0 : Nat)) (List.drop (0 : Nat) x0)).length + (List.drop (IntKind.i64.wrap (x1 + (↑x2.length : Int))).toNat x0).length) then
 (w5 (List.take (Int.toNat x1 - (0 : Nat)) (List.drop (0 : Nat) x0) ++ List.drop (IntKind.i64.wrap (x1 + (↑x2.length : Int))).toNat x0)).bind fun x3 =>
 some x3
 else none
 else none
 else none
 else bif decide ((0 : Int) ≤ IntKind.i64.wrap (x1 + (↑x2.length : Int)) ∧ (IntKind.i64.wrap (x1 + (↑x2.length : Int))).toNat ≤ List.length x0) then
 bif decide ((List.take (Int.toNat x1 - (0 : Nat)) (List.drop (0 : Nat) x0) ++ x2).length = (List.take (Int.toNat x1 - (0 : Nat)) (List.drop (0 : Nat) x0)).length + x2.length ∧ (List.take (Int.toNat x1 - (0 : Nat)) (List.drop (0 : Nat) x0)).length + x2.length + (List.drop (IntKind.i64.wrap (x1 + (↑x2.length : Int))).toNat x0).length ≤ (8796093022208 : Nat)) then
 bif decide ((List.take (Int.toNat x1 - (0 : Nat)) (List.drop (0 : Nat) x0) ++ x2 ++ List.drop (IntKind.i64.wrap (x1 + (↑x2.length : Int))).toNat x0).length = (List.take (Int.toNat x1 - (0 : Nat)) (List.drop (0 : Nat) x0)).length + x2.length + (List.drop (IntKind.i64.wrap (x1 + (↑x2.length : Int))).toNat x0).length) then
 (w5 (List.take (Int.toNat x1 - (0 : Nat)) (List.drop (0 : Nat) x0) ++ x2 ++ List.drop (IntKind.i64.wrap (x1 + (↑x2.length : Int))).toNat x0)).bind fun x3 =>
 some x3
 else none
 else none
 else none
 else none
 else none
def a6K : TEnt := ⟨160, .cons (.sl Y3_) (.cons (.int .i64) (.sl Y3_)), [], [(.sl Y3_, [])], fun s => ju s.1 s.2.1 s.2.2⟩
theorem JV : qA Tryz.prog a6K := eo0 _ (tc Uu tn) (fun s => by kernel_rfl) (by kernel_rfl)
def Ji (x0 : Y0_) (x1 : Int) (x2 : Int) (x3 : Int) (x4 : Int) (x5 : Int) (x6 : Int) (x7 : Int) (x8 : Int) : Option (Y0_ × Bool) :=
 bif x5 == 0 then
 (zy x0).bind fun x9 =>
 kk x9 (some (x9, false))
 else (Qn x2 x3 x4 x5 x6 x7 x8).bind fun x9 =>
 bif !x9 then
 (zy x0).bind fun x10 =>
 kk x10 (some (x10, false))
 else bif decide (x1 < 0) then
 (zy x0).bind fun x10 =>
 kk x10 (some (x10, false))
 else bif decide ((↑(List.length x0) : Int) ≤ x1) then
 (zy x0).bind fun x10 =>
 kk x10 (some (x10, false))
 else bif decide (IntKind.i64.wrap ((↑(List.length x0) : Int) - x1) < IntKind.i64.wrap x5) then
 (zy x0).bind fun x10 =>
 kk x10 (some (x10, false))
 else bif x5 == 2 then
 (yX x2 x3 x4 x5 x6 x7 x8).bind fun x10 =>
 bif decide ((2 : Nat) = (2 : Nat)) then
 (ju x0 x1 [(x2, (x3, x4), x5, x6, x7, x8), (x10.1, (x10.2.1, x10.2.2.1), x10.2.2.2.1, x10.2.2.2.2.1, x10.2.2.2.2.2.1, x10.2.2.2.2.2.2)]).bind fun x11 =>
 some (x11, true)
 else none
 else bif decide ((1 : Nat) = (1 : Nat)) then
 (ju x0 x1 [(x2, (x3, x4), x5, x6, x7, x8)]).bind fun x10 =>
 some (x10, true)
 else none
def aaO : TEnt := ⟨106, .cons (.sl Y3_) (.cons (.int .i64) (.agg a0P)), [], [(.tup (.cons (.sl Y3_) .bool), [])], fun s => Ji s.1 s.2.1 s.2.2.1 s.2.2.2.1 s.2.2.2.2.1 s.2.2.2.2.2.1 s.2.2.2.2.2.2.1 s.2.2.2.2.2.2.2.1 s.2.2.2.2.2.2.2.2⟩
theorem a1g : qA Tryz.prog aaO := eo0 _ (tc JK (tc Xl (tc wk (tc JV tn)))) (fun s => by kernel_rfl) (by kernel_rfl)
def kZ (x10 : (Y0_ × (Int × Int))) (x11 : Y1) (x12 : Y0_) : Option (((Y0_ × (Int × Int)) × (Y1 × Y0_)) ⊕ (Y0_ × Bool)) :=
 bif decide (x10.2.2 < (↑x10.1.length : Int)) then
 bif x10.2.2 == x10.2.1 then
 bif decide ((1 : Nat) = (1 : Nat)) then
 bif decide (x12.length = x12.length ∧ x12.length + (1 : Nat) ≤ (4398046511104 : Nat)) then
 bif decide (x12.length + (1 : Nat) = (x12 ++ [(x11.1, (x11.2.1, x11.2.2.1), x11.2.2.2.1, x11.2.2.2.2.1, x11.2.2.2.2.2.1, x11.2.2.2.2.2.2)]).length) then
 some (Sum.inl ((x10.1, (x10.2.1, (IntKind.i64.wrap (x10.2.2 + (1 : Int))))), (x11, (x12 ++ [(x11.1, (x11.2.1, x11.2.2.1), x11.2.2.2.1, x11.2.2.2.2.1, x11.2.2.2.2.2.1, x11.2.2.2.2.2.2)]))))
 else none
 else none
 else none
 else bif x10.2.2 == IntKind.i64.wrap (x10.2.1 + (1 : Int)) then
 bif x11.2.2.2.1 == 2 then
 (YK x11.1 x11.2.1 x11.2.2.1 x11.2.2.2.1 x11.2.2.2.2.1 x11.2.2.2.2.2.1 x11.2.2.2.2.2.2).bind fun x13 =>
 bif decide ((1 : Nat) = (1 : Nat)) then
 bif decide (x12.length = x12.length ∧ x12.length + (1 : Nat) ≤ (4398046511104 : Nat)) then
 bif decide (x12.length + (1 : Nat) = (x12 ++ [(x13.1, (x13.2.1, x13.2.2.1), x13.2.2.2.1, x13.2.2.2.2.1, x13.2.2.2.2.2.1, x13.2.2.2.2.2.2)]).length) then
 some (Sum.inl ((x10.1, (x10.2.1, (IntKind.i64.wrap (x10.2.2 + (1 : Int))))), (x11, (x12 ++ [(x13.1, (x13.2.1, x13.2.2.1), x13.2.2.2.1, x13.2.2.2.2.1, x13.2.2.2.2.2.1, x13.2.2.2.2.2.2)]))))
 else none
 else none
 else none
 else bif decide (0 ≤ x10.2.2) then
 (x10.1[x10.2.2.toNat]?).bind fun x13 =>
 bif decide ((1 : Nat) = (1 : Nat)) then
 bif decide (x12.length = x12.length ∧ x12.length + (1 : Nat) ≤ (4398046511104 : Nat)) then
 bif decide (x12.length + (1 : Nat) = (x12 ++ [x13]).length) then
 some (Sum.inl ((x10.1, (x10.2.1, (IntKind.i64.wrap (x10.2.2 + (1 : Int))))), (x11, (x12 ++ [x13]))))
 else none
 else none
 else none
 else none
 else bif decide (0 ≤ x10.2.2) then
 (x10.1[x10.2.2.toNat]?).bind fun x13 =>
 bif decide ((1 : Nat) = (1 : Nat)) then
 bif decide (x12.length = x12.length ∧ x12.length + (1 : Nat) ≤ (4398046511104 : Nat)) then
 bif decide (x12.length + (1 : Nat) = (x12 ++ [x13]).length) then
 some (Sum.inl ((x10.1, (x10.2.1, (IntKind.i64.wrap (x10.2.2 + (1 : Int))))), (x11, (x12 ++ [x13]))))
 else none
 else none
 else none
 else none
 else kk x12 ((QO x12).bind fun x13 =>
 some (Sum.inr (x13, true)))
def Ql : ((Y0_ × (Int × Int)) × (Y1 × Y0_)) → Option (Y0_ × Bool) := zq fun s => kZ s.1 s.2.1 s.2.2
def WX (x0 : Y0_) (x1 : Int) (x2 : Int) (x3 : Int) (x4 : Int) (x5 : Int) (x6 : Int) (x7 : Int) (x8 : Int) : Option (Y0_ × Bool) :=
 (Zp x2 x3 x4 x5 x6 x7 x8).bind fun x9 =>
 bif !x9 then
 some (x0, false)
 else bif x5 == 0 then
 some (x0, false)
 else bif decide (x1 < 0) then
 some (x0, false)
 else bif decide ((↑(List.length x0) : Int) ≤ x1) then
 some (x0, false)
 else bif x5 == 2 then
 bif x1 == IntKind.i64.wrap ((↑(List.length x0) : Int) - (1 : Int)) then
 some (x0, false)
 else (Ql ((x0, (x1, ((0 : Int)))), ((x2, (x3, (x4, (x5, (x6, (x7, x8)))))), []))).bind fun x10 =>
 some x10
 else (Ql ((x0, (x1, ((0 : Int)))), ((x2, (x3, (x4, (x5, (x6, (x7, x8)))))), []))).bind fun x10 =>
 some x10
def ad2 : TEnt := ⟨111, .cons (.sl Y2_) (.cons (.int .i64) (.agg Xs)), [], [(.tup (.cons (.sl Y2_) .bool), [])], fun s => WX s.1 s.2.1 s.2.2.1 s.2.2.2.1 s.2.2.2.2.1 s.2.2.2.2.2.1 s.2.2.2.2.2.2.1 s.2.2.2.2.2.2.2.1 s.2.2.2.2.2.2.2.2⟩
theorem a2W : qA Tryz.prog ad2 := zH (loops := [(299594, [0, 1, 5, 8, 9], (.cons (.sl Y2_) (.cons (.int .i64) (.cons (.ptr 0 0) (.cons (.own 1) (.int .i64))))), [.st Xs, .li Y2_ 47 false])]) (joins := []) (un := []) _ (tc a0A (tc ug (tc Yt tn))) (fun s => by kernel_rfl) (by kernel_rfl)
def yg (x0 : Y0_) (x1 : Int) (x2 : Int) (x3 : Int) (x4 : Int) (x5 : Int) : Option Y0_ :=
 (wx (if IntKind.i64.wrap ((if (↑(List.length x0) : Int) < if (0 : Int) > x2 then (0 : Int) else x2 then (↑(List.length x0) : Int) else if (0 : Int) > x2 then (0 : Int) else x2) - if (↑(List.length x0) : Int) < if (0 : Int) > x1 then (0 : Int) else x1 then (↑(List.length x0) : Int) else if (0 : Int) > x1 then (0 : Int) else x1) > 0 then IntKind.i64.wrap ((if (↑(List.length x0) : Int) < if (0 : Int) > x2 then (0 : Int) else x2 then (↑(List.length x0) : Int) else if (0 : Int) > x2 then (0 : Int) else x2) - if (↑(List.length x0) : Int) < if (0 : Int) > x1 then (0 : Int) else x1 then (↑(List.length x0) : Int) else if (0 : Int) > x1 then (0 : Int) else x1) else (0 : Int)) x3 x4 x5).bind fun x6 =>
 (ju x0 (if (↑(List.length x0) : Int) < if (0 : Int) > x1 then (0 : Int) else x1 then (↑(List.length x0) : Int) else if (0 : Int) > x1 then (0 : Int) else x1) x6).bind fun x7 =>
 some x7
def a2K : TEnt := ⟨153, .cons (.sl Y3_) ai9, [], [(.sl Y3_, [])], fun s => yg s.1 s.2.1 s.2.2.1 s.2.2.2.1 s.2.2.2.2.1 s.2.2.2.2.2⟩
theorem Jr : qA Tryz.prog a2K := eo0 _ (tc K7 (tc JV tn)) (fun s => by kernel_rfl) (by kernel_rfl)
def ku (x6 : (Y0_ × Y6_)) (x7 : Y6_) (x8 : Y0_) : Option (((Y0_ × Y6_) × (Y6_ × Y0_)) ⊕ Y0_) :=
 bif decide (x6.2.2.2 < (↑x6.1.length : Int)) then
 bif decide (0 ≤ x6.2.2.2) then
 (x6.1[x6.2.2.2.toNat]?).bind fun x9 =>
 bif decide (x6.2.1 ≤ x6.2.2.2) then
 bif decide (x6.2.2.2 < x6.2.2.1) then
 (jU x7.1 x7.2.1 x7.2.2).bind fun x10 =>
 bif decide ((1 : Nat) = (1 : Nat)) then
 bif decide (x8.length = x8.length ∧ x8.length + (1 : Nat) ≤ (4398046511104 : Nat)) then
 bif decide (x8.length + (1 : Nat) = (x8 ++ [(x10.1, (x10.2.1, x10.2.2.1), x10.2.2.2.1, x10.2.2.2.2.1, x10.2.2.2.2.2.1, x10.2.2.2.2.2.2)]).length) then
 some (Sum.inl ((x6.1, (x6.2.1, (x6.2.2.1, (IntKind.i64.wrap (x6.2.2.2 + (1 : Int)))))), (x7, (x8 ++ [(x10.1, (x10.2.1, x10.2.2.1), x10.2.2.2.1, x10.2.2.2.2.1, x10.2.2.2.2.2.1, x10.2.2.2.2.2.2)]))))
 else none
 else none
 else none
 else bif decide ((1 : Nat) = (1 : Nat)) then
 bif decide (x8.length = x8.length ∧ x8.length + (1 : Nat) ≤ (4398046511104 : Nat)) then
 bif decide (x8.length + (1 : Nat) = (x8 ++ [x9]).length) then
 some (Sum.inl ((x6.1, (x6.2.1, (x6.2.2.1, (IntKind.i64.wrap (x6.2.2.2 + (1 : Int)))))), (x7, (x8 ++ [x9]))))
 else none
 else none
 else none
 else bif decide ((1 : Nat) = (1 : Nat)) then
 bif decide (x8.length = x8.length ∧ x8.length + (1 : Nat) ≤ (4398046511104 : Nat)) then
 bif decide (x8.length + (1 : Nat) = (x8 ++ [x9]).length) then
 some (Sum.inl ((x6.1, (x6.2.1, (x6.2.2.1, (IntKind.i64.wrap (x6.2.2.2 + (1 : Int)))))), (x7, (x8 ++ [x9]))))
 else none
 else none
 else none
 else none
 else kk x8 ((QO x8).bind fun x9 =>
 some (Sum.inr x9))
def JG : ((Y0_ × Y6_) × (Y6_ × Y0_)) → Option Y0_ := zq fun s => ku s.1 s.2.1 s.2.2
def wN (x0 : Y0_) (x1 : Int) (x2 : Int) (x3 : Int) (x4 : Int) (x5 : Int) : Option Y0_ :=
 (JG ((x0, (x1, (x2, ((0 : Int))))), ((x3, (x4, x5)), []))).bind fun x6 =>
 some x6
def a5R : TEnt := ⟨156, .cons (.sl Y2_) ai9, [], [(.sl Y2_, [])], fun s => wN s.1 s.2.1 s.2.2.1 s.2.2.2.1 s.2.2.2.2.1 s.2.2.2.2.2⟩
theorem Wc : qA Tryz.prog a5R := zH (loops := [(4682, [0, 1, 2, 7, 9, 10], (.cons (.sl Y2_) (.cons (.int .i64) (.cons (.int .i64) (.cons (.ptr 0 0) (.cons (.own 1) (.int .i64)))))), [.st Y8_, .li Y2_ 47 false])]) (joins := []) (un := []) _ (tc Z7 (tc Yt tn)) (fun s => by kernel_rfl) (by kernel_rfl)
def Zs (x0 : Y0_) (x1 : Int) (x2 : Int) : Option (Y0_ × Bool) :=
 (zy x0).bind fun x3 =>
 bif decide (x1 < 0) then
 kk x3 (some (x3, false))
 else bif decide ((↑(List.length x0) : Int) ≤ x1) then
 kk x3 (some (x3, false))
 else bif decide (0 ≤ x1) then
 (x0[Int.toNat x1]?).bind fun x4 =>
 bif x4.2.2.1 == 0 then
 bif decide (0 < x1) then
 bif decide ((0 : Int) ≤ IntKind.i64.wrap (x1 - (1 : Int))) then
 (x0[(IntKind.i64.wrap (x1 - (1 : Int))).toNat]?).bind fun x5 =>
 bif x5.2.2.1 == 2 then
 bif decide ((0 : Int) ≤ IntKind.i64.wrap (x1 - (1 : Int))) then
 (x0[(IntKind.i64.wrap (x1 - (1 : Int))).toNat]?).bind fun x6 =>
 (kV (x6.1, x6.2.1.1, x6.2.1.2, x6.2.2.1, x6.2.2.2.1, x6.2.2.2.2.1, x6.2.2.2.2.2) x2).bind fun x7 =>
 bif decide ((0 : Int) ≤ IntKind.i64.wrap (x1 - (1 : Int))) then
 bif decide ((IntKind.i64.wrap (x1 - (1 : Int))).toNat < List.length x3 ∧ List.length x3 = List.length x3) then
 kk x3 ((x3[(IntKind.i64.wrap (x1 - (1 : Int))).toNat]?).bind fun x8 =>
 bif decide ((List.set x3 (IntKind.i64.wrap (x1 - (1 : Int))).toNat (x7.1.1, (x7.1.2.1, x7.1.2.2.1), x7.1.2.2.2.1, x7.1.2.2.2.2.1, x7.1.2.2.2.2.2.1, x7.1.2.2.2.2.2.2)).length = List.length x3) then
 some ((List.set x3 (IntKind.i64.wrap (x1 - (1 : Int))).toNat (x7.1.1, (x7.1.2.1, x7.1.2.2.1), x7.1.2.2.2.1, x7.1.2.2.2.2.1, x7.1.2.2.2.2.2.1, x7.1.2.2.2.2.2.2)), x7.2)
 else none)
 else none
 else none
 else none
 else bif decide (0 ≤ x1) then
 (x0[Int.toNat x1]?).bind fun x6 =>
 (kV (x6.1, x6.2.1.1, x6.2.1.2, x6.2.2.1, x6.2.2.2.1, x6.2.2.2.2.1, x6.2.2.2.2.2) x2).bind fun x7 =>
 bif decide (0 ≤ x1) then
 bif decide (Int.toNat x1 < List.length x3 ∧ List.length x3 = List.length x3) then
 kk x3 ((x3[Int.toNat x1]?).bind fun x8 =>
 bif decide ((List.set x3 (Int.toNat x1) (x7.1.1, (x7.1.2.1, x7.1.2.2.1), x7.1.2.2.2.1, x7.1.2.2.2.2.1, x7.1.2.2.2.2.2.1, x7.1.2.2.2.2.2.2)).length = List.length x3) then
 some ((List.set x3 (Int.toNat x1) (x7.1.1, (x7.1.2.1, x7.1.2.2.1), x7.1.2.2.2.1, x7.1.2.2.2.2.1, x7.1.2.2.2.2.2.1, x7.1.2.2.2.2.2.2)), x7.2)
 else none)
 else none
 else none
 else none
 else none
 else bif decide (0 ≤ x1) then
 (x0[Int.toNat x1]?).bind fun x5 =>
 (kV (x5.1, x5.2.1.1, x5.2.1.2, x5.2.2.1, x5.2.2.2.1, x5.2.2.2.2.1, x5.2.2.2.2.2) x2).bind fun x6 =>
 bif decide (0 ≤ x1) then
 bif decide (Int.toNat x1 < List.length x3 ∧ List.length x3 = List.length x3) then
 kk x3 ((x3[Int.toNat x1]?).bind fun x7 =>
 bif decide ((List.set x3 (Int.toNat x1) (x6.1.1, (x6.1.2.1, x6.1.2.2.1), x6.1.2.2.2.1, x6.1.2.2.2.2.1, x6.1.2.2.2.2.2.1, x6.1.2.2.2.2.2.2)).length = List.length x3) then
 some ((List.set x3 (Int.toNat x1) (x6.1.1, (x6.1.2.1, x6.1.2.2.1), x6.1.2.2.2.1, x6.1.2.2.2.2.1, x6.1.2.2.2.2.2.1, x6.1.2.2.2.2.2.2)), x6.2)
 else none)
 else none
 else none
 else none
 else bif decide (0 ≤ x1) then
 (x0[Int.toNat x1]?).bind fun x5 =>
 (kV (x5.1, x5.2.1.1, x5.2.1.2, x5.2.2.1, x5.2.2.2.1, x5.2.2.2.2.1, x5.2.2.2.2.2) x2).bind fun x6 =>
 bif decide (0 ≤ x1) then
 bif decide (Int.toNat x1 < List.length x3 ∧ List.length x3 = List.length x3) then
 kk x3 ((x3[Int.toNat x1]?).bind fun x7 =>
 bif decide ((List.set x3 (Int.toNat x1) (x6.1.1, (x6.1.2.1, x6.1.2.2.1), x6.1.2.2.2.1, x6.1.2.2.2.2.1, x6.1.2.2.2.2.2.1, x6.1.2.2.2.2.2.2)).length = List.length x3) then
 some ((List.set x3 (Int.toNat x1) (x6.1.1, (x6.1.2.1, x6.1.2.2.1), x6.1.2.2.2.1, x6.1.2.2.2.2.1, x6.1.2.2.2.2.2.1, x6.1.2.2.2.2.2.2)), x6.2)
 else none)
 else none
 else none
 else none
 else none
def a5c : TEnt := ⟨151, .cons (.sl Y3_) (.cons (.int .i64) (.int .i32)), [], [(.tup (.cons (.sl Y3_) .bool), [])], fun s => Zs s.1 s.2.1 s.2.2⟩
theorem uL : qA Tryz.prog a5c := eo0 _ (tc uQ (tc wk tn)) (fun s => by kernel_rfl) (by kernel_rfl)
def KU (x0 : Y0_) (x1 : Int) (x2 : Int) : Option (Y0_ × Bool) :=
 bif decide (x1 < 0) then
 some (x0, false)
 else bif decide ((↑(List.length x0) : Int) ≤ x1) then
 some (x0, false)
 else bif decide (0 ≤ x1) then
 (x0[Int.toNat x1]?).bind fun x3 =>
 bif x3.2.2.1 == 0 then
 bif decide (0 < x1) then
 bif decide ((0 : Int) ≤ IntKind.i64.wrap (x1 - (1 : Int))) then
 (x0[(IntKind.i64.wrap (x1 - (1 : Int))).toNat]?).bind fun x4 =>
 bif x4.2.2.1 == 2 then
 bif decide ((0 : Int) ≤ IntKind.i64.wrap (x1 - (1 : Int))) then
 (x0[(IntKind.i64.wrap (x1 - (1 : Int))).toNat]?).bind fun x5 =>
 (jB (x5.1, x5.2.1.1, x5.2.1.2, x5.2.2.1, x5.2.2.2.1, x5.2.2.2.2.1, x5.2.2.2.2.2) x2).bind fun x6 =>
 bif decide ((0 : Nat) = (0 : Nat) ∧ (0 : Nat) + List.length x0 ≤ (4398046511104 : Nat)) then
 bif decide ((0 : Int) ≤ IntKind.i64.wrap (x1 - (1 : Int))) then
 bif decide ((IntKind.i64.wrap (x1 - (1 : Int))).toNat < (0 : Nat) + List.length x0 ∧ ([] ++ x0).length = (0 : Nat) + List.length x0) then
 bif decide (([] ++ x0).length = (0 : Nat) + List.length x0) then
 (([] ++ x0)[(IntKind.i64.wrap (x1 - (1 : Int))).toNat]?).bind fun x7 =>
 bif decide ((([] ++ x0).set (IntKind.i64.wrap (x1 - (1 : Int))).toNat (x6.1.1, (x6.1.2.1, x6.1.2.2.1), x6.1.2.2.2.1, x6.1.2.2.2.2.1, x6.1.2.2.2.2.2.1, x6.1.2.2.2.2.2.2)).length = (0 : Nat) + List.length x0) then
 some ((([] ++ x0).set (IntKind.i64.wrap (x1 - (1 : Int))).toNat (x6.1.1, (x6.1.2.1, x6.1.2.2.1), x6.1.2.2.2.1, x6.1.2.2.2.2.1, x6.1.2.2.2.2.2.1, x6.1.2.2.2.2.2.2)), x6.2)
 else none
 else none
 else none
 else none
 else none
 else none
 else bif decide (0 ≤ x1) then
 (x0[Int.toNat x1]?).bind fun x5 =>
 (jB (x5.1, x5.2.1.1, x5.2.1.2, x5.2.2.1, x5.2.2.2.1, x5.2.2.2.2.1, x5.2.2.2.2.2) x2).bind fun x6 =>
 bif decide ((0 : Nat) = (0 : Nat) ∧ (0 : Nat) + List.length x0 ≤ (4398046511104 : Nat)) then
 bif decide (0 ≤ x1) then
 bif decide (Int.toNat x1 < (0 : Nat) + List.length x0 ∧ ([] ++ x0).length = (0 : Nat) + List.length x0) then
 bif decide (([] ++ x0).length = (0 : Nat) + List.length x0) then
 (([] ++ x0)[Int.toNat x1]?).bind fun x7 =>
 bif decide ((([] ++ x0).set (Int.toNat x1) (x6.1.1, (x6.1.2.1, x6.1.2.2.1), x6.1.2.2.2.1, x6.1.2.2.2.2.1, x6.1.2.2.2.2.2.1, x6.1.2.2.2.2.2.2)).length = (0 : Nat) + List.length x0) then
 some ((([] ++ x0).set (Int.toNat x1) (x6.1.1, (x6.1.2.1, x6.1.2.2.1), x6.1.2.2.2.1, x6.1.2.2.2.2.1, x6.1.2.2.2.2.2.1, x6.1.2.2.2.2.2.2)), x6.2)
 else none
 else none
 else none
 else none
 else none
 else none
 else none
 else bif decide (0 ≤ x1) then
 (x0[Int.toNat x1]?).bind fun x4 =>
 (jB (x4.1, x4.2.1.1, x4.2.1.2, x4.2.2.1, x4.2.2.2.1, x4.2.2.2.2.1, x4.2.2.2.2.2) x2).bind fun x5 =>
 bif decide ((0 : Nat) = (0 : Nat) ∧ (0 : Nat) + List.length x0 ≤ (4398046511104 : Nat)) then
 bif decide (0 ≤ x1) then
 bif decide (Int.toNat x1 < (0 : Nat) + List.length x0 ∧ ([] ++ x0).length = (0 : Nat) + List.length x0) then
 bif decide (([] ++ x0).length = (0 : Nat) + List.length x0) then
 (([] ++ x0)[Int.toNat x1]?).bind fun x6 =>
 bif decide ((([] ++ x0).set (Int.toNat x1) (x5.1.1, (x5.1.2.1, x5.1.2.2.1), x5.1.2.2.2.1, x5.1.2.2.2.2.1, x5.1.2.2.2.2.2.1, x5.1.2.2.2.2.2.2)).length = (0 : Nat) + List.length x0) then
 some ((([] ++ x0).set (Int.toNat x1) (x5.1.1, (x5.1.2.1, x5.1.2.2.1), x5.1.2.2.2.1, x5.1.2.2.2.2.1, x5.1.2.2.2.2.2.1, x5.1.2.2.2.2.2.2)), x5.2)
 else none
 else none
 else none
 else none
 else none
 else none
 else bif decide (0 ≤ x1) then
 (x0[Int.toNat x1]?).bind fun x4 =>
 (jB (x4.1, x4.2.1.1, x4.2.1.2, x4.2.2.1, x4.2.2.2.1, x4.2.2.2.2.1, x4.2.2.2.2.2) x2).bind fun x5 =>
 bif decide ((0 : Nat) = (0 : Nat) ∧ (0 : Nat) + List.length x0 ≤ (4398046511104 : Nat)) then
 bif decide (0 ≤ x1) then
 bif decide (Int.toNat x1 < (0 : Nat) + List.length x0 ∧ ([] ++ x0).length = (0 : Nat) + List.length x0) then
 bif decide (([] ++ x0).length = (0 : Nat) + List.length x0) then
 (([] ++ x0)[Int.toNat x1]?).bind fun x6 =>
 bif decide ((([] ++ x0).set (Int.toNat x1) (x5.1.1, (x5.1.2.1, x5.1.2.2.1), x5.1.2.2.2.1, x5.1.2.2.2.2.1, x5.1.2.2.2.2.2.1, x5.1.2.2.2.2.2.2)).length = (0 : Nat) + List.length x0) then
 some ((([] ++ x0).set (Int.toNat x1) (x5.1.1, (x5.1.2.1, x5.1.2.2.1), x5.1.2.2.2.1, x5.1.2.2.2.2.1, x5.1.2.2.2.2.2.1, x5.1.2.2.2.2.2.2)), x5.2)
 else none
 else none
 else none
 else none
 else none
 else none
 else none
def abd : TEnt := ⟨149, .cons (.sl Y2_) yk, [], [(.tup (.cons (.sl Y2_) .bool), [])], fun s => KU s.1 s.2.1 s.2.2⟩
theorem a0F : qA Tryz.prog abd := eo0 _ (tc a0U tn) (fun s => by kernel_rfl) (by kernel_rfl)
set_option maxHeartbeats 4000000
theorem Jj (l : List qg) (h : l.length ≤ 1000000) : zy l = some l := by
 unfold zy
 have e : ([] : List qg) ++ l = l := rfl
 by_cases h0 : l.length = 0
 ·have : l = [] := List.length_eq_zero_iff.1 h0
  subst this
  simp [Uo]
 ·simp only [q8, e]
  simp (disch := omega) only [q8, qh, qm, qd, qf, true_and]
def Y4 (n : Int) : Nat := (if n < 0 then 0 else if 512 < n then 512 else n).toNat
theorem a4h (n : Int) : Y4 n ≤ 512 := by unfold Y4; split <;> (try split) <;> omega
theorem ah2 (n : Int) : yW n = some (Y4 n : Int) := by
 unfold yW Y4
 by_cases h1 : n < 0
 ·simp [h1]
 ·by_cases h2 : 512 < n
  ·have : ¬ (0 : Int) > n := by omega
   simp [h1, h2]
  ·have : ¬ (0 : Int) > n := by omega
   simp [h1, h2]; omega
theorem abI (n : Int) : Qq n = some (Y4 n : Int) := by
 unfold Qq Y4
 by_cases h1 : n < 0
 ·simp [h1]
 ·by_cases h2 : 512 < n
  ·simp [h1, h2]
  ·simp [h1, h2]; omega
def zD (a b c : Int) : qg := (32, (0, 0), 1, a, b, c)
theorem JH {α : Type} (i : Nat) (x : α) : List.replicate i x ++ [x] = List.replicate (i + 1) x := by rw [List.replicate_succ']
theorem a5G (n : Nat) (hn : n ≤ 1000000) (a b c : Int) : K6 ((((n : Nat) : Int), (0 : Int)), (a, b, c), []) = some (List.replicate n (zD a b c)) := by
 refine zu (st := fun i => ((((n : Nat) : Int), ((i : Nat) : Int)), (a, b, c), List.replicate i (zD a b c))) (n := n) (fun i hi => ?_) ?_ 0 (by omega)
 ·show zQ _ _ _ = _
  unfold zQ
  simp only [q8, y7]
  have e : ((i : Int) + 1) = ((i + 1 : Nat) : Int) := by omega
  have e2 : List.replicate i (zD a b c) ++ [((32 : Int), ((0 : Int), (0 : Int)), (1 : Int), a, b, c)] = List.replicate (i + 1) (zD a b c) := JH i _
  simp (disch := omega) only [q8, qh, q9, qd, qj, ze, zB, qM, qp, true_and, List.length_replicate, e2, e]
 ·show zQ _ _ _ = _
  unfold zQ
  simp (disch := omega) only [q8, qm, q9, qd, qf, ze, zB, qM, qp, true_and]
theorem xE (n : Nat) (hn : n ≤ 1000000) (a b c : Int) : wx (n : Int) a b c = some (List.replicate n (zD a b c)) := by
 unfold wx
 rw [a5G n hn]
 rfl
def wp (n : Int) : List qg := List.replicate (Y4 n) (zD 0 0 0)
theorem a1E (n : Int) : Zc n = some (wp n) := by
 unfold Zc
 rw [ah2]
 simp only [q8, qj]
 rw [xE _ (by have := a4h n; omega)]
 rfl
theorem a4U (n : Int) : QD n = some (wp n) := by
 unfold QD
 have hl := a4h n
 have : Vg ((n, (0 : Int)), []) = some (List.replicate (Y4 n) (zD 0 0 0)) := by
  refine zu (st := fun i => ((n, ((i : Nat) : Int)), List.replicate i (zD 0 0 0))) (n := Y4 n) (fun i hi => ?_) ?_ 0 (by omega)
  ·show kT _ _ = _
   unfold kT
   simp only [q8, jU, abI]
   have e : ((i : Int) + 1) = ((i + 1 : Nat) : Int) := by omega
   have e2 : List.replicate i (zD 0 0 0) ++ [((32 : Int), ((0 : Int), (0 : Int)), (1 : Int), (0 : Int), (0 : Int), (0 : Int))] = List.replicate (i + 1) (zD 0 0 0) := JH i _
   simp (disch := omega) only [q8, qh, q9, qd, qj, ze, zB, qM, qp, true_and, List.length_replicate, e2, e]
  ·show kT _ _ = _
   unfold kT
   simp only [q8, abI]
   simp (disch := omega) only [q8, qm, q9, qd, qf, qj, ze, zB, qM, qp, true_and]
 rw [this]
 rfl
def ja (l : List qg) (i : Nat) : Bool := match l[i]? with
 | none => false
 | some c => if c.2.2.1 = 2 then (match l[i + 1]? with
   | some d => d.2.2.1 != 0
   | none => true)
  else if c.2.2.1 = 0 then (if i = 0 then true else match l[i - 1]? with
   | some d => d.2.2.1 != 2
   | none => true)
  else false
theorem uN {l : List qg} (hl : l.length ≤ 1000000) {i : Nat} (hi : i < l.length) : Qy l (i : Int) = some (ja l i) := by
 obtain ⟨c, hc⟩ := qF hi
 unfold Qy ja
 simp only [q8, hc]
 have e1 : ((i : Int) + 1).toNat = i + 1 := by omega
 have e2 : ((i : Int) - 1).toNat = i - 1 := by omega
 by_cases h2 : c.2.2.1 = 2
 ·rw [if_pos h2]
  by_cases h3 : i + 1 < l.length
  ·obtain ⟨d, hd⟩ := qF h3
   simp only [q8, hd]
   by_cases h4 : d.2.2.1 = 0
   ·simp (disch := omega) only [q8, qh, qD, qw, jW, q9, qd, qf, qj, qH, zw, hc, hd, e1, e2, h4]
   ·simp (disch := omega) only [q8, qh, qD, qw, wX, q9, qd, qf, qj, qH, kx, hc, hd, e1, e2]
  ·have hn : l[i + 1]? = none := List.getElem?_eq_none (by omega)
   simp only [q8, hn]
   simp (disch := omega) only [q8, qh, qm, qD, qw, q9, qd, qf, qj, qH, hc, e1, e2]
 ·rw [if_neg h2]
  by_cases h0 : c.2.2.1 = 0
  ·rw [if_pos h0]
   by_cases hi0 : i = 0
   ·subst hi0
    rw [if_pos rfl]
    simp (disch := omega) only [q8, qh, qm, qD, qw, q9, qd, qf, qj, qH, hc]
   ·rw [if_neg hi0]
    obtain ⟨d, hd⟩ := qF (l := l) (i := i - 1) (by omega)
    simp only [q8, hd]
    simp (disch := omega) only [q8, qh, qD, qw, q9, qd, qf, qj, qH, hc, hd, e1, e2]
    rfl
  ·rw [if_neg h0]
   simp (disch := omega) only [q8, qh, qw, q9, qd, qf, qj, qH, hc]
theorem a24 {l : List qg} (hl : l.length ≤ 1000000) {i : Nat} (hi : i < l.length) : ZN l (i : Int) = some (ja l i) := by
 obtain ⟨c, hc⟩ := qF hi
 unfold ZN ja
 simp only [q8, hc]
 have e1 : ((i : Int) + 1).toNat = i + 1 := by omega
 have e2 : ((i : Int) - 1).toNat = i - 1 := by omega
 by_cases h2 : c.2.2.1 = 2
 ·rw [if_pos h2]
  by_cases h3 : i + 1 < l.length
  ·obtain ⟨d, hd⟩ := qF h3
   simp only [q8, hd]
   simp (disch := omega) only [q8, qh, qD, qw, q9, qd, qf, qj, qH, hc, hd, e1]
  ·have hn : l[i + 1]? = none := List.getElem?_eq_none (by omega)
   simp only [q8, hn]
   simp (disch := omega) only [q8, qh, qD, qw, q9, qd, qf, qj, qH, hc, e1]
 ·rw [if_neg h2]
  by_cases h0 : c.2.2.1 = 0
  ·rw [if_pos h0]
   by_cases hi0 : i = 0
   ·subst hi0
    rw [if_pos rfl]
    simp (disch := omega) only [q8, qh, qm, qD, qw, q9, qd, qf, qj, qH, hc]
   ·rw [if_neg hi0]
    obtain ⟨d, hd⟩ := qF (l := l) (i := i - 1) (by omega)
    simp only [q8, hd]
    simp (disch := omega) only [q8, qh, qD, qw, q9, qd, qf, qj, qH, hc, hd, e2]
  ·rw [if_neg h0]
   simp (disch := omega) only [q8, qh, qw, q9, qd, qf, qj, qH, hc]
def Ya (l : List qg) (i : Nat) (c : qg) : qg := if ja l i = true then zD c.2.2.2.1 c.2.2.2.2.1 c.2.2.2.2.2 else c
def km (l : List qg) : List qg := l.mapIdx (Ya l)
theorem kU (l : List qg) : (km l).length = l.length := by simp [km]
theorem V7 {l : List qg} {i : Nat} {c : qg} (h : l[i]? = some c) : (km l)[i]? = some (Ya l i c) := by simp [km, h]
theorem VV {l : List qg} {i : Nat} {c : qg} (h : l[i]? = some c) : (km l).take i ++ [Ya l i c] = (km l).take (i + 1) := (kA (V7 h)).symm
theorem a6g {l : List qg} (hl : l.length ≤ 1000000) : QO l = some (km l) := by
 unfold QO
 have : Yp ((l, (0 : Int)), []) = some (km l) := by
  refine zu (st := fun i => ((l, ((i : Nat) : Int)), (km l).take i)) (n := l.length) (fun i hi => ?_) ?_ 0 (by omega)
  ·obtain ⟨c, hc⟩ := qF hi
   have ht : ((km l).take i).length = i := by rw [List.length_take, kU]; omega
   have e : ((i : Int) + 1) = ((i + 1 : Nat) : Int) := by omega
   have e2 := VV hc
   show kP _ _ = _
   unfold kP
   simp only [q8, jU]
   unfold Ya at e2
   cases ha : ja l i
   ·rw [ha] at e2
    simp only [q8, Bool.false_eq_true, if_false] at e2
    have e3 : (km l).take i ++ [(c.1, (c.2.1.1, c.2.1.2), c.2.2.1, c.2.2.2.1, c.2.2.2.2.1, c.2.2.2.2.2)] = (km l).take (i + 1) := e2
    simp (disch := omega) only [q8, qh, q9, qd, qf, qj, qH, ze, zB, qM, qp, true_and, hc, a24 hl hi, ha, ht, e3, e]
   ·rw [ha] at e2
    simp only [q8, if_true] at e2
    have e3 : (km l).take i ++ [((32 : Int), ((0 : Int), (0 : Int)), (1 : Int), c.2.2.2.1, c.2.2.2.2.1, c.2.2.2.2.2)] = (km l).take (i + 1) := e2
    simp (disch := omega) only [q8, qh, q9, qd, qj, qH, ze, zB, qM, qp, true_and, hc, a24 hl hi, ha, ht, e3, e]
  ·show kP _ _ = _
   unfold kP
   have ht : (km l).take l.length = km l := List.take_of_length_le (by rw [kU]; omega)
   simp (disch := omega) only [q8, qh, qm, q9, qd, qf, qH, ze, zB, qM, qp, true_and, ht]
 rw [this]
 rfl
def jZ (l : List qg) (i : Nat) : List qg := (km l).take i ++ l.drop i
theorem uB {l : List qg} {i : Nat} (h : i ≤ l.length) : (jZ l i).length = l.length := by
 simp only [q8, jZ, ze, List.length_take, kU, List.length_drop]; omega
theorem a9m {l : List qg} {i : Nat} (h : i < l.length) : (jZ l i)[i]? = l[i]? := by
 unfold jZ
 rw [List.getElem?_append_right (by rw [List.length_take, kU]; omega), List.length_take, kU, List.getElem?_drop]
 congr 1; omega
theorem abh {l : List qg} {i : Nat} {c : qg} (h : l[i]? = some c) : (jZ l i).set i (Ya l i c) = jZ l (i + 1) := by
 have hi : i < l.length := (List.getElem?_eq_some_iff.1 h).1
 unfold jZ
 rw [← VV h, Xw h, List.set_append_right _ _ (by rw [List.length_take, kU]; omega), List.length_take, kU, show i - min i l.length = 0 by omega]
 simp
theorem a5e {l : List qg} {i : Nat} {c : qg} (h : l[i]? = some c) (ha : ja l i = false) : jZ l i = jZ l (i + 1) := by
 unfold jZ
 rw [← VV h, Xw h]
 simp [Ya, ha]
theorem aev {l : List qg} (hl : l.length ≤ 1000000) : w5 l = some (km l) := by
 unfold w5
 have hdr : List.drop l.length (List.replicate l.length (((0 : Int), ((0 : Int), (0 : Int)), (0 : Int), (0 : Int), (0 : Int), (0 : Int)) : qg)) = [] := List.drop_eq_nil_of_le (by simp)
 have : Jy ((l, (l, ((l.length : Nat) : Int), (0 : Int))), l) = some (km l) := by
  have h0 : l = jZ l 0 := by simp [jZ]
  have := zu (step := fun s => zK s.1 s.2) (st := fun i => ((l, (l, ((l.length : Nat) : Int), ((i : Nat) : Int))), jZ l i)) (n := l.length) (t := km l) (fun i hi => ?_) ?_ 0 (by omega)
  ·rw [← h0] at this; exact this
  ·obtain ⟨c, hc⟩ := qF hi
   have e : ((i : Int) + 1) = ((i + 1 : Nat) : Int) := by omega
   have ht := uB (l := l) (i := i) (by omega)
   have hg := (a9m hi).trans hc
   have e2 := abh hc
   show zK _ _ = _
   unfold zK
   simp only [q8, y7]
   unfold Ya at e2
   cases ha : ja l i
   ·simp (disch := omega) only [q8, qh, q9, qd, qj, qH, kx, qp, and_true, hc, uN hl hi, ha, e]
    rw [a5e hc ha]
   ·rw [ha] at e2
    simp only [q8, if_true] at e2
    have e3 : (jZ l i).set i ((32 : Int), ((0 : Int), (0 : Int)), (1 : Int), c.2.2.2.1, c.2.2.2.2.1, c.2.2.2.2.2) = jZ l (i + 1) := e2
    have ht2 := uB (l := l) (i := i + 1) (by omega)
    simp (disch := omega) only [q8, qh, q9, qd, qf, qj, qH, zw, qp, and_true, hc, uN hl hi, ha, ht, hg, e3, ht2, e]
  ·show zK _ _ = _
   unfold zK
   have ht : jZ l l.length = km l := by
    unfold jZ
    rw [List.drop_eq_nil_of_le (Nat.le_refl _), List.append_nil]
    exact List.take_of_length_le (by rw [kU]; omega)
   simp (disch := omega) only [q8, qh, qm, q9, qd, qf, qH, qp, and_true, ht]
 simp only [q8, qH, hdr, List.append_nil]
 simp (disch := omega) only [q8, qh, qd, qp, true_and, List.length_replicate]
 rw [this]
 rfl
def Wo (l : List qg) (k : Nat) (s : List qg) : List qg := l.take k ++ s ++ l.drop (k + s.length)
theorem aeG {l s : List qg} {k : Nat} (h : k + s.length ≤ l.length) : (Wo l k s).length = l.length := by
 simp only [q8, Wo, ze, List.length_take, List.length_drop]; omega
theorem Vw {l s : List qg} {k : Nat} (hl : l.length ≤ 1000000) (h : k + s.length ≤ l.length) : ju l (k : Int) s = some (km (Wo l k s)) := by
 have hm := aev (l := Wo l k s) (by rw [aeG h]; omega)
 unfold Wo at hm ⊢
 unfold ju
 have w : IntKind.i64.wrap ((k : Int) + (s.length : Int)) = ((k + s.length : Nat) : Int) := by rw [q9 (by omega) (by omega)]; omega
 simp only [q8, w, qH, Nat.sub_zero, List.drop_zero]
 by_cases h0 : k = 0
 ·subst h0
  simp only [q8, List.take_zero, List.nil_append] at hm ⊢
  simp (disch := omega) only [q8, qh, qd, qj, ze, qM, true_and, List.length_drop, hm]
 ·by_cases hs : s.length = 0
  ·have : s = [] := List.length_eq_zero_iff.1 hs
   subst this
   simp only [q8, qM, Nat.add_zero, List.append_nil] at hm ⊢
   by_cases hd : k = l.length
   ·have hd0 : List.drop k l = [] := List.drop_eq_nil_of_le (by omega)
    rw [hd0, List.append_nil] at hm
    simp (disch := omega) only [q8, qh, qm, qd, qf, qj, qM, qp, true_and, List.length_take, hm, hd0, List.append_nil]
   ·simp (disch := omega) only [q8, qh, qm, qd, qf, qj, ze, qM, qp, true_and, List.length_drop, List.length_take, hm]
  ·simp (disch := omega) only [q8, qh, qm, qd, qf, qj, ze, qM, qp, true_and, List.length_drop, List.length_take, hm]
def Jn (c : qg) : qg := (0, (0, 0), 0, c.2.2.2.1, c.2.2.2.2.1, c.2.2.2.2.2)
def wy (l : List qg) (k : Nat) (c : qg) : List qg := if c.2.2.1 = 2 then (l.set k c).set (k + 1) (Jn c) else l.set k c
theorem UY (l : List qg) (k : Nat) (c : qg) : (wy l k c).length = l.length := by unfold wy; split <;> simp
def wY (l : List qg) (k : Int) (c : qg) : List qg × Bool :=
 if c.2.2.1 ≠ 0 ∧ kn c = true ∧ 0 ≤ k ∧ k < l.length ∧ c.2.2.1 ≤ (l.length : Int) - k then (km (wy l k.toNat c), true) else (l, false)
theorem a2N {c : qg} (h : kn c = true) : c.2.2.1 ≤ 2 := by
 unfold kn at h
 simp only [q8, Bool.and_eq_true] at h
 have h2 := h.2
 split at h2
 ·omega
 ·simp only [q8, Bool.and_eq_true, decide_eq_true_eq] at h2; exact h2.1
theorem alS {l : List qg} {k : Nat} (c : qg) (h : k < l.length) : Wo l k [c] = l.set k c := by
 unfold Wo
 rw [List.set_eq_take_append_cons_drop, if_pos h]
 simp
theorem amg {l : List qg} {k : Nat} (c d : qg) (h : k + 1 < l.length) : Wo l k [c, d] = (l.set k c).set (k + 1) d := by
 refine List.ext_getElem? fun i => ?_
 unfold Wo
 rw [List.getElem?_set, List.getElem?_set, List.length_set]
 by_cases h1 : i < k
 ·rw [if_neg (by omega), if_neg (by omega), List.append_assoc, List.getElem?_append_left (by rw [List.length_take]; omega), List.getElem?_take, if_pos h1]
 ·by_cases h2 : i = k
  ·subst h2
   rw [if_neg (by omega), if_pos rfl, if_pos (by omega), List.append_assoc, List.getElem?_append_right (by rw [List.length_take]; omega), List.length_take, show i - min i l.length = 0 by omega]
   rfl
  ·by_cases h3 : i = k + 1
   ·subst h3
    rw [if_pos rfl, if_pos h, List.append_assoc, List.getElem?_append_right (by rw [List.length_take]; omega), List.length_take, show k + 1 - min k l.length = 1 by omega]
    rfl
   ·rw [if_neg (by omega), if_neg (by omega), List.getElem?_append_right (by simp [List.length_take]; omega), List.getElem?_drop]
    congr 1
    simp [List.length_take]; omega
theorem aeW {l : List qg} {k : Int} {c : qg} (hl : l.length ≤ 1000000) (hk : -9223372036854775808 ≤ k ∧ k < 9223372036854775808) (h : OkC c) :
  Ji l k c.1 c.2.1.1 c.2.1.2 c.2.2.1 c.2.2.2.1 c.2.2.2.2.1 c.2.2.2.2.2 = some (wY l k c) := by
 have hw := h.w
 simp only [q8, u8r] at hw
 have hcl := Jj l hl
 unfold Ji wY
 simp only [q8, a8U h, yX]
 by_cases h0 : c.2.2.1 = 0
 ·rw [if_neg (by simp [h0])]
  simp (disch := omega) only [q8, qD, qw, q9, qd, qf, qj, qp, hcl]
 ·cases hr : kn c
  ·rw [if_neg (by simp)]
   simp (disch := omega) only [q8, qw, q9, qd, qf, qj, kx, qp, hcl]
  ·have hw2 := a2N hr
   by_cases h1 : k < 0
   ·rw [if_neg (by omega)]
    simp (disch := omega) only [q8, qh, qm, qw, q9, qd, qf, qj, zw, qp, hcl]
   ·by_cases h2 : (l.length : Int) ≤ k
    ·rw [if_neg (by omega)]
     simp (disch := omega) only [q8, qh, qm, qw, q9, qd, qf, qj, zw, qp, hcl]
    ·obtain ⟨n, rfl⟩ : ∃ n : Nat, k = n := ⟨k.toNat, by omega⟩
     by_cases h3 : (l.length : Int) - n < c.2.2.1
     ·rw [if_neg (by omega)]
      simp (disch := omega) only [q8, qh, qm, qD, qw, q9, qd, qf, qj, zw, qp, hcl]
     ·rw [if_pos ⟨h0, rfl, by omega, by omega, by omega⟩]
      unfold wy
      by_cases h4 : c.2.2.1 = 2
      ·rw [if_pos h4]
       have e := Vw (l := l) (s := [c, Jn c]) (k := n) hl (by simp; omega)
       rw [amg _ _ (by omega)] at e
       have e2 : ju l (n : Int) [(c.1, (c.2.1.1, c.2.1.2), c.2.2.1, c.2.2.2.1, c.2.2.2.2.1, c.2.2.2.2.2), (0, (0, 0), 0, c.2.2.2.1, c.2.2.2.2.1, c.2.2.2.2.2)] = some (km ((l.set n c).set (n + 1) (Jn c))) := e
       simp (disch := omega) only [q8, qm, qD, qw, q9, qd, qf, qj, qH, zw, qp, e2]
      ·rw [if_neg h4]
       have e := Vw (l := l) (s := [c]) (k := n) hl (by simp; omega)
       rw [alS _ (by omega)] at e
       have e2 : ju l (n : Int) [(c.1, (c.2.1.1, c.2.1.2), c.2.2.1, c.2.2.2.1, c.2.2.2.2.1, c.2.2.2.2.2)] = some (km (l.set n c)) := e
       simp (disch := omega) only [q8, qm, qw, q9, qd, qf, qj, qH, zw, qp, e2]
theorem a4q {l : List qg} {n : Nat} {c : qg} (hl : l.length ≤ 1000000) (hn : n < l.length) : Ql ((l, ((n : Int), (0 : Int))), Qf c, []) = some (km (wy l n c), true) := by
 have hT := UY l n c
 refine zu (st := fun i => ((l, ((n : Int), ((i : Nat) : Int))), Qf c, (wy l n c).take i)) (n := l.length) (fun i hi => ?_) ?_ 0 (by omega)
 ·obtain ⟨d, hd⟩ := qF hi
  have ht : ((wy l n c).take i).length = i := by rw [List.length_take, hT]; omega
  have e : ((i : Int) + 1) = ((i + 1 : Nat) : Int) := by omega
  show kZ _ _ _ = _
  unfold kZ Qf
  simp only [q8, YK]
  by_cases h1 : i = n
  ·subst h1
   have hg : (wy l i c)[i]? = some c := by
    unfold wy; split <;> simp [hi]
   have e3 : (wy l i c).take i ++ [(c.1, (c.2.1.1, c.2.1.2), c.2.2.1, c.2.2.2.1, c.2.2.2.2.1, c.2.2.2.2.2)] = (wy l i c).take (i + 1) := (kA hg).symm
   have ht1 : ((wy l i c).take (i + 1)).length = i + 1 := by rw [List.length_take, hT]; omega
   simp (disch := omega) only [q8, qh, qD, qw, q9, qd, qf, qj, qH, ze, zB, qM, qp, true_and, ht, e3, e, ht1]
  ·by_cases h2 : i = n + 1
   ·subst h2
    by_cases h3 : c.2.2.1 = 2
    ·have hg : (wy l n c)[n + 1]? = some (Jn c) := by
      unfold wy; rw [if_pos h3]; simp [hi]
     have e3 : (wy l n c).take (n + 1) ++ [((0 : Int), ((0 : Int), (0 : Int)), (0 : Int), c.2.2.2.1, c.2.2.2.2.1, c.2.2.2.2.2)] = (wy l n c).take (n + 1 + 1) := (kA hg).symm
     simp (disch := omega) only [q8, qh, qD, qw, q9, qd, qf, qj, qH, ze, zB, qM, qp, true_and, ht, e3, e]
    ·have hg : (wy l n c)[n + 1]? = some d := by
      unfold wy; rw [if_neg h3]; rw [List.getElem?_set_ne (by omega)]; exact hd
     have e3 : (wy l n c).take (n + 1) ++ [(d.1, (d.2.1.1, d.2.1.2), d.2.2.1, d.2.2.2.1, d.2.2.2.2.1, d.2.2.2.2.2)] = (wy l n c).take (n + 1 + 1) := (kA hg).symm
     simp (disch := omega) only [q8, qh, qD, qw, q9, qd, qf, qj, qH, ze, zB, qM, qp, true_and, hd, ht, e3, e]
   ·have hg : (wy l n c)[i]? = some d := by
     unfold wy; split
     ·rw [List.getElem?_set_ne (by omega), List.getElem?_set_ne (by omega)]; exact hd
     ·rw [List.getElem?_set_ne (by omega)]; exact hd
    have e3 : (wy l n c).take i ++ [(d.1, (d.2.1.1, d.2.1.2), d.2.2.1, d.2.2.2.1, d.2.2.2.2.1, d.2.2.2.2.2)] = (wy l n c).take (i + 1) := (kA hg).symm
    simp (disch := omega) only [q8, qh, qw, q9, qd, qf, qj, qH, ze, zB, qM, qp, true_and, hd, ht, e3, e]
 ·show kZ _ _ _ = _
  unfold kZ
  have ht : (wy l n c).take l.length = wy l n c := List.take_of_length_le (by rw [hT]; omega)
  have hm := a6g (l := wy l n c) (by rw [hT]; omega)
  simp (disch := omega) only [q8, qh, qm, qw, q9, qd, qf, qj, qH, ze, zB, qM, qp, true_and, ht, hm]
theorem ajt {l : List qg} {k : Int} {c : qg} (hl : l.length ≤ 1000000) (hk : -9223372036854775808 ≤ k ∧ k < 9223372036854775808) (h : OkC c) :
  WX l k c.1 c.2.1.1 c.2.1.2 c.2.2.1 c.2.2.2.1 c.2.2.2.2.1 c.2.2.2.2.2 = some (wY l k c) := by
 have hw := h.w
 simp only [q8, u8r] at hw
 unfold WX wY
 simp only [q8, ae3 h]
 cases hr : kn c
 ·rw [if_neg (by simp)]
  simp (disch := omega) only [q8, q9, qd, qj, kx]
 ·have hw2 := a2N hr
  by_cases h0 : c.2.2.1 = 0
  ·rw [if_neg (by simp [h0])]
   simp (disch := omega) only [q8, qD, qw, q9, qd, qf, qj, zw]
  ·by_cases h1 : k < 0
   ·rw [if_neg (by omega)]
    simp (disch := omega) only [q8, qh, qm, qw, q9, qd, qf, qj, zw]
   ·by_cases h2 : (l.length : Int) ≤ k
    ·rw [if_neg (by omega)]
     simp (disch := omega) only [q8, qh, qm, qw, q9, qd, qf, qj, zw]
    ·obtain ⟨n, rfl⟩ : ∃ n : Nat, k = n := ⟨k.toNat, by omega⟩
     have e : Ql ((l, ((n : Int), (0 : Int))), (c.1, c.2.1.1, c.2.1.2, c.2.2.1, c.2.2.2.1, c.2.2.2.2.1, c.2.2.2.2.2), []) = some (km (wy l n c), true) := a4q (c := c) hl (by omega)
     by_cases h4 : c.2.2.1 = 2
     ·by_cases h5 : (n : Int) = l.length - 1
      ·rw [if_neg (by omega)]
       simp (disch := omega) only [q8, qm, qD, qw, q9, qd, qf, qj, zw]
      ·rw [if_pos ⟨h0, rfl, by omega, by omega, by omega⟩]
       simp (disch := omega) only [q8, qm, qD, qw, q9, qd, qf, qj, qH, zw, e]
     ·rw [if_pos ⟨h0, rfl, by omega, by omega, by omega⟩]
      simp (disch := omega) only [q8, qm, qw, q9, qf, qj, qH, zw, e]
end Go.Sim
