/- Part 8 of the claim EmuPrints: T18, T19, T20, V0, GA, V1, GB, V2, GC, V3, V4, V5, V6, GD -/
import Derived.Test.YtaamhddpmbombaaProg
import Derived.Test.YtaamhddpmbombaaW7
set_option linter.unusedSimpArgs false
set_option linter.unusedVariables false
set_option linter.defProp false
noncomputable section
namespace Go.Sim
open Go.RowKit
def VS.fitB (m : Nat) : VS → Bool
 | .ptr k _ => decide (k < m)
 | .own k => decide (k < m)
 | .part k => decide (k < m)
 | .mp _ => false
 | .cons a b => a.fitB m && b.fitB m
 | .fn _ _ _ => false
 | .agg _ => false
 | .tup _ => false
 | _ => true
def VS.fitC (m : Nat) : VS → Bool
 | .ptr k _ => decide (k < m)
 | .own k => decide (k < m)
 | .part k => decide (k < m)
 | .mp _ => false
 | .cons a b => a.fitC m && b.fitC m
 | .fn _ a b => a.fitB m && b.fitB m
 | .agg _ => false
 | .tup _ => false
 | _ => true
def VS.fitA (m : Nat) : VS → Bool
 | .agg s => s.fitC m
 | .cons a b => a.fitA m && b.fitA m
 | s => s.fitC m
def VS.fitT (m : Nat) : VS → Bool
 | .tup s => s.fitA m
 | .cons a b => a.fitT m && b.fitT m
 | s => s.fitA m
def exC (back : Sel) (d' d : TV) : Prop := isC d' = true ∧ isC d = true ∧ yW back (qr d') = some (qr d)
def exB (back : Sel) (d' d : TV) : Prop := kU back (zF d') = some (zF d)
section
variable {back : Sel} {m : Nat} {f len : Nat → Nat}
theorem VM (hb : ∀ k, k < m → back[f k]? = some (some k)) : ∀ (s : VS) (x : s.T), s.fitB m = true → All2 (exB back) (s.ins f len x) (s.ins id len x)
 | .int k, x, _ => .cons rfl .nil
 | .bool, x, _ => .cons rfl .nil
 | .str, x, _ => .cons rfl .nil
 | .cst _, x, _ => .cons rfl .nil
 | .sl c, x, _ => .cons rfl .nil
 | .ptr k off, x, h => by
  have hk := hb k (by simpa [VS.fitB] using h)
  refine .cons ?_ .nil
  show kU back (.ptr (f k) off) = some (.ptr k off)
  unfold kU unB
  simp only [hk]
 | .own k, x, h => by
  have hk := hb k (by simpa [VS.fitB] using h)
  refine .cons ?_ .nil
  show kU back (.ref (f k) 0 (len k) (len k)) = some (.ref k 0 (len k) (len k))
  unfold kU
  simp only [hk]
 | .part k, x, h => by
  have hk := hb k (by simpa [VS.fitB] using h)
  refine .cons ?_ .nil
  show kU back (.ref (f k) x.1 x.2 (len k)) = some (.ref k x.1 x.2 (len k))
  unfold kU
  simp only [hk]
 | .mp _, x, h => by cases h
 | .nil, x, _ => .nil
 | .cons a b, x, h => by
  simp only [VS.fitB, Bool.and_eq_true] at h
  exact (VM hb a _ h.1).append (VM hb b _ h.2)
 | .fn _ _ _, x, h => by cases h
 | .agg _, x, h => by cases h
 | .tup _, x, h => by cases h
theorem xW : ∀ {l' l : List TV}, All2 (exB back) l' l → kB back (l'.map zF) = some (l.map zF)
 | _, _, .nil => rfl
 | _, _, .cons h t => by simp only [List.map_cons, kB, show kU back _ = some _ from h, xW t]
theorem WE (hb : ∀ k, k < m → back[f k]? = some (some k)) : ∀ (s : VS) (x : s.T), s.fitC m = true → All2 (exC back) (s.ins f len x) (s.ins id len x)
 | .int k, x, _ => .cons ⟨rfl, rfl, rfl⟩ .nil
 | .bool, x, _ => .cons ⟨rfl, rfl, rfl⟩ .nil
 | .str, x, _ => .cons ⟨rfl, rfl, rfl⟩ .nil
 | .cst _, x, _ => .cons ⟨rfl, rfl, rfl⟩ .nil
 | .sl c, x, _ => .cons ⟨rfl, rfl, rfl⟩ .nil
 | .ptr k off, x, h => by
  have hk := hb k (by simpa [VS.fitC] using h)
  refine .cons ⟨rfl, rfl, ?_⟩ .nil
  show kU back (.ptr (f k) off) = some (.ptr k off)
  unfold kU unB
  simp only [hk]
 | .own k, x, h => by
  have hk := hb k (by simpa [VS.fitC] using h)
  refine .cons ⟨rfl, rfl, ?_⟩ .nil
  show kU back (.ref (f k) 0 (len k) (len k)) = some (.ref k 0 (len k) (len k))
  unfold kU
  simp only [hk]
 | .part k, x, h => by
  have hk := hb k (by simpa [VS.fitC] using h)
  refine .cons ⟨rfl, rfl, ?_⟩ .nil
  show kU back (.ref (f k) x.1 x.2 (len k)) = some (.ref k x.1 x.2 (len k))
  unfold kU
  simp only [hk]
 | .mp _, x, h => by cases h
 | .nil, x, _ => .nil
 | .cons a b, x, h => by
  simp only [VS.fitC, Bool.and_eq_true] at h
  exact (WE hb a _ h.1).append (WE hb b _ h.2)
 | .fn g a b, x, h => by
  simp only [VS.fitC, Bool.and_eq_true] at h
  refine .cons ⟨rfl, rfl, ?_⟩ .nil
  have h1 := xW (VM (len := len) hb a (SP.fst a.dfl x) h.1)
  have h2 := xW (VM (len := len) hb b (SP.snd b.dfl x) h.2)
  show (match kB back ((a.ins f len (SP.fst a.dfl x)).map zF), kB back ((b.ins f len (SP.snd b.dfl x)).map zF) with
   | some a, some b => some (DV.fn g a b)
   | _, _ => none) = _
  rw [h1, h2]; rfl
 | .agg _, x, h => by cases h
 | .tup _, x, h => by cases h
theorem ub : ∀ {l' l : List TV}, All2 (exC back) l' l → yQ back (l'.map qr) = some (l.map qr)
 | _, _, .nil => rfl
 | _, _, .cons h t => by simp only [List.map_cons, yQ, show yW back _ = some _ from h.2.2, ub t]
def ex1 (back : Sel) (d' d : TV) : Prop := QL d' = true ∧ QL d = true ∧ Vs back (qU d') = some (qU d)
theorem a9G {d' d : TV} (h : exC back d' d) : ex1 back d' d := by
 refine ⟨a0e h.1, a0e h.2.1, ?_⟩
 rw [QZ h.1, QZ h.2.1]
 have := Yo h.1
 unfold Vs
 split
 ·rename_i q; exact absurd q (this.1 _)
 ·exact h.2.2
theorem a8M (hb : ∀ k, k < m → back[f k]? = some (some k)) (s : VS) : ∀ (x : s.T), s.fitA m = true → All2 (ex1 back) (s.ins f len x) (s.ins id len x) := by
 have base : ∀ (s : VS) (x : s.T), s.fitC m = true → All2 (ex1 back) (s.ins f len x) (s.ins id len x) := fun s x h => (WE hb s x h).mono fun _ _ => a9G
 induction s with
 | agg s _ =>
  intro x h
  refine .cons ⟨rfl, rfl, ?_⟩ .nil
  have h1 := ub (WE (len := len) hb s x h)
  show (yQ back ((s.ins f len x).map qr)).map DV.agg = _
  rw [h1]; rfl
 | cons a b iha ihb =>
  intro x h
  simp only [VS.fitA, Bool.and_eq_true] at h
  exact (iha _ h.1).append (ihb _ h.2)
 | _ => intro x h; exact base _ x h
theorem a4Q : ∀ {l' l : List TV}, All2 (ex1 back) l' l → WS back (l'.map qU) = some (l.map qU)
 | _, _, .nil => rfl
 | _, _, .cons h t => by simp only [List.map_cons, WS, show Vs back _ = some _ from h.2.2, a4Q t]
def exD (back : Sel) (d' d : TV) : Prop := a1M back (enc d') = some (enc d)
theorem adb {d' d : TV} (h : ex1 back d' d) : exD back d' d := by
 unfold exD
 rw [Zu h.1, Zu h.2.1]
 unfold a1M
 split
 ·rename_i q
  have := h.1
  cases d' <;> first | (cases q; done) | cases this
 ·exact h.2.2
theorem af4 (hb : ∀ k, k < m → back[f k]? = some (some k)) (s : VS) : ∀ (x : s.T), s.fitT m = true → All2 (exD back) (s.ins f len x) (s.ins id len x) := by
 have base : ∀ (s : VS) (x : s.T), s.fitA m = true → All2 (exD back) (s.ins f len x) (s.ins id len x) := fun s x h => (a8M hb s x h).mono fun _ _ => adb
 induction s with
 | tup s _ =>
  intro x h
  refine .cons ?_ .nil
  have h1 := a4Q (a8M (len := len) hb s x h)
  show (WS back ((s.ins f len x).map qU)).map DV.tup = _
  rw [h1]; rfl
 | cons a b iha ihb =>
  intro x h
  simp only [VS.fitT, Bool.and_eq_true] at h
  exact (iha _ h.1).append (ihb _ h.2)
 | _ => intro x h; exact base _ x h
def OS.fit (m : Nat) : OS → Bool
 | .st s => s.fitC m
 | .li _ _ _ => true
 | .mp _ => false
 | .dead => true
theorem afC (hb : ∀ k, k < m → back[f k]? = some (some k)) : ∀ (o : OS) (x : o.T), o.fit m = true → Wi back (kh (o.ins f len x)) (kh (o.ins id len x))
 | .st s, x, h => ub (WE hb s x h)
 | .li _ _ _, x, _ => ⟨rfl, rfl⟩
 | .mp _, x, h => by cases h
 | .dead, x, _ => by
  show Wi back .dead .dead
  unfold Wi; trivial
theorem a8L (hb : ∀ k, k < m → back[f k]? = some (some k)) : ∀ (os : List OS) (y : OS.Ts os), os.all (OS.fit m) = true → All2 (fun o' o => Wi back (kh o') (kh o)) (OS.inss f len os y) (OS.inss id len os y)
 | [], _, _ => .nil
 | o :: r, y, h => by
  simp only [List.all_cons, Bool.and_eq_true] at h
  exact .cons (afC hb o _ h.1) (a8L hb r _ h.2)
end
def KI (i : Nat) : List Nat → Nat → Option Nat
 | [], _ => none
 | x :: r, k => if x = i then some k else KI i r (k + 1)
theorem Jv {i : Nat} : ∀ {l : List Nat} {k j : Nat}, KI i l k = some j → k ≤ j ∧ l[j - k]? = some i
 | [], k, j, h => by cases h
 | x :: r, k, j, h => by
  unfold KI at h
  split at h
  ·rename_i hx; cases h; subst hx; exact ⟨Nat.le_refl _, by simp⟩
  ·obtain ⟨h1, h2⟩ := Jv h
   refine ⟨by omega, ?_⟩
   rw [show j - k = (j - (k + 1)) + 1 by omega]
   simpa using h2
theorem a07 {i : Nat} : ∀ {l : List Nat} {k : Nat}, KI i l k = none → i ∉ l
 | [], k, h => by simp
 | x :: r, k, h => by
  unfold KI at h
  split at h
  ·cases h
  ·rename_i hx
   intro hm
   rcases List.mem_cons.1 hm with rfl | hm
   ·exact hx rfl
   ·exact a07 h hm
theorem Ja {l : List Nat} (hn : l.Nodup) {i k : Nat} (h : l[k]? = some i) : KI i l 0 = some k := by
 cases hx : KI i l 0 with
 | none => exact absurd (List.mem_of_getElem? h) (a07 hx)
 | some j =>
  have := (Jv hx).2
  rw [Nat.sub_zero] at this
  rw [Jl hn this h]
def stK (os : List OS) (k : Nat) : Bool := match os[k]? with
 | some (.st _) => true
 | _ => false
def vg (os : List OS) (m : Nat) : List Nat := (List.range m).filter fun k => !stK os k
def a7l (os : List OS) (sel : List Nat) (n m k : Nat) : Nat := if stK os k then (sel[k]?).getD 0 else n + (KI k (vg os m) 0).getD 0
def a02 (os : List OS) (sel : List Nat) (new : List TO) : List TO → Nat → List TO
 | [], _ => []
 | o :: r, i => (match KI i sel 0 with
  | some k => if stK os k then (new[k]?).getD .dead else .dead
  | none => o) :: a02 os sel new r (i + 1)
def a0q (os : List OS) (sel : List Nat) : List TO → Nat → Sel
 | [], _ => []
 | o :: r, i => (match KI i sel 0 with
  | some k => if stK os k then some k else none
  | none => none) :: a0q os sel r (i + 1)
def ZK (os : List OS) (sel : List Nat) (new : List TO) (L : List TO) : List TO := a02 os sel new L 0 ++ (vg os new.length).map fun k => (new[k]?).getD .dead
def yi (os : List OS) (sel : List Nat) (m : Nat) (L : List TO) : Sel := a0q os sel L 0 ++ (vg os m).map some
section
variable {os : List OS} {sel : List Nat} {new : List TO}
theorem wI : ∀ (L : List TO) (i : Nat), (a02 os sel new L i).length = L.length
 | [], _ => rfl
 | o :: r, i => by simp [a02, wI r]
theorem w9 : ∀ (L : List TO) (i : Nat), (a0q os sel L i).length = L.length
 | [], _ => rfl
 | o :: r, i => by simp [a0q, w9 r]
theorem a04 : ∀ (L : List TO) (i j : Nat) (o : TO), L[j]? = some o → (a02 os sel new L i)[j]? = some (match KI (i + j) sel 0 with
  | some k => if stK os k then (new[k]?).getD .dead else .dead
  | none => o)
 | [], i, j, o, h => by simp at h
 | x :: r, i, j, o, h => by
  cases j with
  | zero => simp at h; subst h; rfl
  | succ j =>
   simp only [a02, List.getElem?_cons_succ]
   rw [a04 r (i + 1) j o (by simpa using h), show i + 1 + j = i + (j + 1) by omega]
theorem YK : ∀ (L : List TO) (i j : Nat), j < L.length → (a0q os sel L i)[j]? = some (match KI (i + j) sel 0 with
  | some k => if stK os k then some k else none
  | none => none)
 | [], i, j, h => by simp at h
 | x :: r, i, j, h => by
  cases j with
  | zero => rfl
  | succ j =>
   simp only [a0q, List.getElem?_cons_succ]
   rw [YK r (i + 1) j (by simpa using h), show i + 1 + j = i + (j + 1) by omega]
theorem xp (os : List OS) (m : Nat) : (vg os m).Nodup := List.nodup_range.filter _
theorem WH {m k : Nat} : k ∈ vg os m ↔ k < m ∧ stK os k = false := by simp [vg]
theorem ael {n m k : Nat} {L : List TO} (hn : sel.Nodup) (hl : L.length = n) (hlt : ∀ i ∈ sel, i < n) (hs : ∀ k, stK os k = true → k < sel.length) (hk : k < m) : (yi os sel m L)[a7l os sel n m k]? = some (some k) := by
 unfold a7l yi
 cases hst : stK os k with
 | true =>
  have hks := hs k hst
  have h1 : sel[k]? = some sel[k] := List.getElem?_eq_getElem hks
  have h2 : sel[k] < n := hlt _ (List.getElem_mem hks)
  simp only [if_true, h1, Option.getD_some]
  rw [List.getElem?_append_left (by rw [w9, hl]; exact h2), YK _ _ _ (by rw [hl]; exact h2), Nat.zero_add, Ja hn h1]
  simp [hst]
 | false =>
  have hm : k ∈ vg os m := WH.2 ⟨hk, hst⟩
  obtain ⟨j, hj⟩ := List.mem_iff_getElem?.1 hm
  have hx := Ja (xp os m) hj
  simp only [Bool.false_eq_true, if_false, hx, Option.getD_some]
  rw [List.getElem?_append_right (by rw [w9, hl]; omega), w9, hl, Nat.add_sub_cancel_left, List.getElem?_map, hj]
  rfl
theorem aeq {P : Program} {L : List TO} {A A' : List Obj} {old : List TO} (hn : sel.Nodup) (hlt : ∀ i ∈ sel, i < L.length) (hs : ∀ k, stK os k = true → k < sel.length) (hA : ∀ k, stK os k = true ↔ ∃ c, A[k]? = some (.st c)) (hm : sel.length ≤ new.length)
  (hA' : A' = eL old) (hr : All2 (fun o' o => Wi (yi os sel new.length L) (kh o') (kh o)) new old) : Merge (eL L) sel A A' (yi os sel new.length L) (eL (ZK os sel new L)) := by
 have hlen : new.length = old.length := hr.length
 have gl : ∀ {i : Nat}, i < L.length → (yi os sel new.length L)[i]? = some (match KI i sel 0 with
   | some k => if stK os k then some k else none
   | none => none) := fun {i} h => by
  unfold yi
  rw [List.getElem?_append_left (by rw [w9]; exact h), YK _ _ _ h, Nat.zero_add]
 have gr : ∀ {j : Nat}, (yi os sel new.length L)[L.length + j]? = ((vg os new.length)[j]?).map some := fun {j} => by
  unfold yi
  rw [List.getElem?_append_right (by rw [w9]; omega), w9, Nat.add_sub_cancel_left, List.getElem?_map]
 have ol : ∀ {i : Nat} {o : TO}, L[i]? = some o → (ZK os sel new L)[i]? = some (match KI i sel 0 with
   | some k => if stK os k then (new[k]?).getD .dead else .dead
   | none => o) := fun {i o} h => by
  unfold ZK
  rw [List.getElem?_append_left (by rw [wI]; exact (List.getElem?_eq_some_iff.1 h).1), a04 _ _ _ _ h, Nat.zero_add]
 have or' : ∀ {j : Nat}, (ZK os sel new L)[L.length + j]? = ((vg os new.length)[j]?).map fun k => (new[k]?).getD .dead := fun {j} => by
  unfold ZK
  rw [List.getElem?_append_right (by rw [wI]; omega), wI, Nat.add_sub_cancel_left, List.getElem?_map]
 have back : ∀ {i k : Nat}, (yi os sel new.length L)[i]? = some (some k) → (i < L.length ∧ sel[k]? = some i ∧ stK os k = true) ∨ (L.length ≤ i ∧ (vg os new.length)[i - L.length]? = some k) := by
  intro i k h
  by_cases hi : i < L.length
  ·rw [gl hi] at h
   cases hx : KI i sel 0 with
   | none => rw [hx] at h; cases h
   | some k' =>
    rw [hx] at h
    simp only at h
    split at h
    ·rename_i hst
     cases h
     have := (Jv hx).2
     rw [Nat.sub_zero] at this
     exact .inl ⟨hi, this, hst⟩
    ·cases h
  ·have hj : i = L.length + (i - L.length) := by omega
   rw [hj, gr] at h
   cases hx : (vg os new.length)[i - L.length]? with
   | none => rw [hx] at h; cases h
   | some k' => rw [hx] at h; cases h; exact .inr ⟨by omega, by first | exact hx | rfl⟩
 have geteL : ∀ {l : List TO} {i : Nat}, (eL l)[i]? = (l[i]?).map kh := fun {l i} => by unfold eL; rw [List.getElem?_map]
 have hnew : ∀ {k : Nat}, k < new.length → ∃ o' o, new[k]? = some o' ∧ old[k]? = some o ∧ Wi (yi os sel new.length L) (kh o') (kh o) := fun {k} h => by
  obtain ⟨o, h1, h2⟩ := hr.get (List.getElem?_eq_getElem h)
  exact ⟨_, o, List.getElem?_eq_getElem h, h1, h2⟩
 have hdom : ∀ {i : Nat}, i < L.length → ∃ o, L[i]? = some o := fun {i} h => ⟨_, List.getElem?_eq_getElem h⟩
 refine ⟨?_, ?_, fun i hi hn' => ?_, fun k i c h1 h2 => ?_, fun k i h1 h2 => ?_, fun i k h => ?_, fun i h1 h2 => ?_, fun i j k h1 h2 => ?_⟩
 ·simp [yi, ZK, zH, w9, wI]
 ·simp [ZK, zH, wI]
 ·rw [zH] at hi
  have hx : KI i sel 0 = none := by
   cases hx : KI i sel 0 with
   | none => rfl
   | some k => exact absurd (List.mem_of_getElem? (Jv hx).2) hn'
  obtain ⟨o, ho⟩ := hdom hi
  refine ⟨by rw [gl hi, hx], ?_⟩
  rw [geteL, geteL, ol ho, hx, ho]
 ·have hi := hlt i (List.mem_of_getElem? h1)
  rw [gl hi, Ja hn h1]
  simp only
  rw [if_pos ((hA k).2 ⟨c, h2⟩)]
 ·have hi := hlt i (List.mem_of_getElem? h1)
  have hst : ¬ stK os k = true := fun q => by obtain ⟨c, hc⟩ := (hA k).1 q; exact h2 c hc
  obtain ⟨o, ho⟩ := hdom hi
  refine ⟨?_, ?_⟩
  ·rw [geteL, ol ho, Ja hn h1]
   simp only
   rw [if_neg hst]; rfl
  ·rw [gl hi, Ja hn h1]
   simp only
   rw [if_neg hst]
 ·subst hA'
  rcases back h with ⟨h1, h2, h3⟩ | ⟨h1, h2⟩
  ·have hk : k < new.length := by have := (List.getElem?_eq_some_iff.1 h2).1; omega
   obtain ⟨o', o, e1, e2, e3⟩ := hnew hk
   obtain ⟨x, hx⟩ := hdom h1
   refine ⟨.inl (List.mem_of_getElem? h2), kh o, kh o', by rw [geteL, e2]; rfl, ?_, e3⟩
   rw [geteL, ol hx, Ja hn h2]
   simp only
   rw [if_pos h3, e1]; rfl
  ·have hk : k < new.length := (WH.1 (List.mem_of_getElem? h2)).1
   obtain ⟨o', o, e1, e2, e3⟩ := hnew hk
   refine ⟨.inr (by rw [zH]; exact h1), kh o, kh o', by rw [geteL, e2]; rfl, ?_, e3⟩
   rw [geteL, show i = L.length + (i - L.length) by omega, or', h2]
   simp only [Option.map_some, e1, Option.getD_some]
 ·rw [zH] at h1
  have h2' : i - L.length < (vg os new.length).length := by
   simp only [ZK, zH, List.length_append, wI, List.length_map] at h2
   omega
  obtain ⟨k, hk⟩ : ∃ k, (vg os new.length)[i - L.length]? = some k := ⟨_, List.getElem?_eq_getElem h2'⟩
  refine ⟨k, ?_⟩
  rw [show i = L.length + (i - L.length) by omega, gr, hk]
  rfl
 ·rcases back h1 with ⟨a1, a2, a3⟩ | ⟨a1, a2⟩ <;> rcases back h2 with ⟨b1, b2, b3⟩ | ⟨b1, b2⟩
  ·rw [a2] at b2; cases b2; rfl
  ·have := (WH.1 (List.mem_of_getElem? b2)).2
   rw [a3] at this; cases this
  ·have := (WH.1 (List.mem_of_getElem? a2)).2
   rw [b3] at this; cases this
  ·have := Jl (xp os new.length) a2 b2
   omega
end
open Go.RowKit
def a54 (P : Program) (x : TV) (c : CT) (L : List TO) : TV × List TO × List (Nat × Nat) := match x with
 | .v (.slice none 0 0) => (.sl c [], L, [])
 | .part id lo n tot => match L[id]? with
  | some (.li c e loc xs) => (x, L.set id (.fz c e loc xs), [])
  | _ => (x, L, [])
 | x => a5n P L x
def uz (P : Program) : VS → List TV → List TO → List TV × List TV × List TO × List (Nat × Nat)
 | .sl c, l, L => match l with
  | [] => ([], [], L, [])
  | x :: r => match a54 P x c L with
   | (x', L', q) => ([x'], r, L', q)
 | .nil, l, L => ([], l, L, [])
 | .cons a b, l, L => match uz P a l L with
  | (l1, r, L1, q1) => match uz P b r L1 with
   | (l2, r2, L2, q2) => (l1 ++ l2, r2, L2, q1 ++ q2)
 | _, l, L => match l with
  | [] => ([], [], L, [])
  | x :: r => ([x], r, L, [])
def YQ (P : Program) : VS → List TV → List TO → List TV × List TV × List TO × List (Nat × Nat)
 | .agg s, l, L => match l with
  | .agg xs :: r => match uz P s xs L with
   | (l1, r1, L1, q) => ([.agg (l1 ++ r1)], r, L1, q)
  | [] => ([], [], L, [])
  | x :: r => ([x], r, L, [])
 | .sl c, l, L => match l with
  | [] => ([], [], L, [])
  | x :: r => if isC x then (match a54 P x c L with
   | (x', L', q) => ([x'], r, L', q)) else ([x], r, L, [])
 | .nil, l, L => ([], l, L, [])
 | .cons a b, l, L => match YQ P a l L with
  | (l1, r, L1, q1) => match YQ P b r L1 with
   | (l2, r2, L2, q2) => (l1 ++ l2, r2, L2, q1 ++ q2)
 | _, l, L => match l with
  | [] => ([], [], L, [])
  | x :: r => ([x], r, L, [])
section
variable {P : Program} {γ : Pl} {h : Heap} {h0 : Heap} {W0 : Ent}
theorem FrzOk.refl {L : List TO} (H : Hp P h0 W0 γ (eL L) h) : FrzOk P h0 W0 γ L h L := ⟨H, Carry.refl _ _ _⟩
theorem FrzOk.trans {L L1 L2 : List TO} (a : FrzOk P h0 W0 γ L h L1) (b : FrzOk P h0 W0 γ L1 h L2) : FrzOk P h0 W0 γ L h L2 := ⟨b.1, a.2.trans' b.2⟩
theorem XR {L : List TO} (H : Hp P h0 W0 γ (eL L) h) {x x' : TV} {c : CT} {v : Value} {L' : List TO} {q : List (Nat × Nat)} (hd : DC P (qd W0 γ (eL L) h) γ (eL L) h (qr x) v) (e : a54 P x c L = (x', L', q)) (hq : ∀ p ∈ q, p.1 = p.2) :
  FrzOk P h0 W0 γ L h L' ∧ DC P (qd W0 γ (eL L') h) γ (eL L') h (qr x') v := by
 unfold a54 at e
 split at e
 ·cases e
  refine ⟨.refl H, ?_⟩
  have : v = .slice none 0 0 := PR.scal (P := P) (S := qd W0 γ (eL L) h) (h := h) hd
  subst this
  exact PR.nil
 ·rename_i id lo n tot
  split at e
  ·rename_i c' te loc xs hL
   cases e
   have hi : (eL L)[id]? = some (.li (eo loc te xs.length) (xs.map (qM c'))) := z7 hL
   obtain ⟨H', cc⟩ := YJ H hi
   rw [show (eL L).set id (.fz (eo loc te xs.length) (xs.map (qM c'))) = eL (L.set id (.fz c' te loc xs)) from (yR L id (.fz c' te loc xs)).symm] at H' cc
   exact ⟨⟨H', cc⟩, cc.dc hd⟩
  ·cases e; exact ⟨.refl H, hd⟩
 ·exact Wa H hd e hq
theorem a6q : ∀ (s : VS) {L : List TO} {l l1 r : List TV} {vs : List Value} {L' : List TO} {q : List (Nat × Nat)}, Hp P h0 W0 γ (eL L) h → All2 (DC P (qd W0 γ (eL L) h) γ (eL L) h) (l.map qr) vs → uz P s l L = (l1, r, L', q) → (∀ p ∈ q, p.1 = p.2) →
  FrzOk P h0 W0 γ L h L' ∧ All2 (DC P (qd W0 γ (eL L') h) γ (eL L') h) ((l1 ++ r).map qr) vs := by
 intro s
 have other : ∀ {L : List TO} {l l1 r : List TV} {vs : List Value} {L' : List TO} {q : List (Nat × Nat)}, Hp P h0 W0 γ (eL L) h → All2 (DC P (qd W0 γ (eL L) h) γ (eL L) h) (l.map qr) vs → (match l with | [] => ([], [], L, []) | x :: r => ([x], r, L, []) : List TV × List TV × List TO × List (Nat × Nat)) = (l1, r, L', q) →
   FrzOk P h0 W0 γ L h L' ∧ All2 (DC P (qd W0 γ (eL L') h) γ (eL L') h) ((l1 ++ r).map qr) vs := by
  intro L l l1 r vs L' q H hd e
  cases l with
  | nil => cases e; exact ⟨.refl H, hd⟩
  | cons x l => cases e; exact ⟨.refl H, hd⟩
 induction s with
 | sl c =>
  intro L l l1 r vs L' q H hd e hq
  simp only [uz] at e
  cases l with
  | nil => cases e; exact ⟨.refl H, hd⟩
  | cons x l =>
   cases h1 : a54 P x c L with
   | mk x1 rest =>
    obtain ⟨L1, q1⟩ := rest
    simp only [h1] at e
    cases e
    cases hd with
    | cons hx ht =>
     obtain ⟨a, b⟩ := XR H hx h1 hq
     exact ⟨a, .cons b (ht.mono fun _ _ => a.2.dc)⟩
 | nil =>
  intro L l l1 r vs L' q H hd e hq
  simp only [uz] at e
  cases e
  exact ⟨.refl H, hd⟩
 | cons a b iha ihb =>
  intro L l l1 r vs L' q H hd e hq
  simp only [uz] at e
  cases h1 : uz P a l L with
  | mk m1 rest1 =>
   obtain ⟨r1, L1, q1⟩ := rest1
   cases h2 : uz P b r1 L1 with
   | mk m2 rest2 =>
    obtain ⟨r2, L2, q2⟩ := rest2
    simp only [h1, h2] at e
    cases e
    obtain ⟨a1, a2⟩ := iha H hd h1 fun p hp => hq p (by simp [hp])
    rw [List.map_append] at a2
    obtain ⟨vs1, vs2, hv, c1, c2⟩ : ∃ vs1 vs2, vs = vs1 ++ vs2 ∧ All2 (DC P (qd W0 γ (eL L1) h) γ (eL L1) h) (m1.map qr) vs1 ∧ All2 (DC P (qd W0 γ (eL L1) h) γ (eL L1) h) (r1.map qr) vs2 := by
     refine ⟨vs.take (m1.map qr).length, vs.drop (m1.map qr).length, (List.take_append_drop _ _).symm, ?_, ?_⟩
     ·have := a2.take (m1.map qr).length
      simpa using this
     ·have := a2.drop (m1.map qr).length
      simpa using this
    subst hv
    obtain ⟨b1, b2⟩ := ihb a1.1 c2 h2 fun p hp => hq p (by simp [hp])
    refine ⟨a1.trans b1, ?_⟩
    rw [List.append_assoc, List.map_append]
    exact (c1.mono fun _ _ => b1.2.dc).append b2
 | _ => intro L l l1 r vs L' q H hd e hq; exact other H hd e
theorem a1f {S : Nat → Prop} {L : List Obj} {x : TV} {v : Value} (hc : isC x = true) : DR P S γ L h (enc x) v ↔ DC P S γ L h (qr x) v := by
 rw [Qv hc]
 cases x <;> first | exact Iff.rfl | cases hc
theorem aaV {x x' : TV} {c : CT} {L L' : List TO} {q : List (Nat × Nat)} (hc : isC x = true) (e : a54 P x c L = (x', L', q)) : isC x' = true := by
 unfold a54 at e
 split at e
 ·cases e; rfl
 ·split at e <;> (cases e; rfl)
 ·unfold a5n at e
  split at e
  ·split at e
   ·split at e <;> (cases e; rfl)
   ·split at e <;> (cases e; rfl)
   ·cases e; rfl
  ·cases e; exact hc
theorem a5Y : ∀ (s : VS) {L : List TO} {l l1 r : List TV} {vs : List Value} {L' : List TO} {q : List (Nat × Nat)}, Hp P h0 W0 γ (eL L) h → All2 (DR P (qd W0 γ (eL L) h) γ (eL L) h) (l.map enc) vs → YQ P s l L = (l1, r, L', q) → (∀ p ∈ q, p.1 = p.2) →
  FrzOk P h0 W0 γ L h L' ∧ All2 (DR P (qd W0 γ (eL L') h) γ (eL L') h) ((l1 ++ r).map enc) vs := by
 intro s
 have other : ∀ {L : List TO} {l l1 r : List TV} {vs : List Value} {L' : List TO} {q : List (Nat × Nat)}, Hp P h0 W0 γ (eL L) h → All2 (DR P (qd W0 γ (eL L) h) γ (eL L) h) (l.map enc) vs → (match l with | [] => ([], [], L, []) | x :: r => ([x], r, L, []) : List TV × List TV × List TO × List (Nat × Nat)) = (l1, r, L', q) →
   FrzOk P h0 W0 γ L h L' ∧ All2 (DR P (qd W0 γ (eL L') h) γ (eL L') h) ((l1 ++ r).map enc) vs := by
  intro L l l1 r vs L' q H hd e
  cases l with
  | nil => cases e; exact ⟨.refl H, hd⟩
  | cons x l => cases e; exact ⟨.refl H, hd⟩
 induction s with
 | agg s _ =>
  intro L l l1 r vs L' q H hd e hq
  simp only [YQ] at e
  split at e
  ·rename_i xs r'
   cases h1 : uz P s xs L with
   | mk m1 rest =>
    obtain ⟨r1, L1, q1⟩ := rest
    simp only [h1] at e
    cases e
    cases hd with
    | cons hx ht =>
     obtain ⟨us, rfl, hu⟩ := hx
     obtain ⟨a, b⟩ := a6q s H hu h1 hq
     exact ⟨a, .cons ⟨us, rfl, b⟩ (ht.mono fun _ _ => a.2.dr)⟩
  ·cases e; exact ⟨.refl H, hd⟩
  ·cases e; exact ⟨.refl H, hd⟩
 | sl c =>
  intro L l l1 r vs L' q H hd e hq
  simp only [YQ] at e
  cases l with
  | nil => cases e; exact ⟨.refl H, hd⟩
  | cons x l =>
   simp only at e
   split at e
   ·rename_i hc
    cases h1 : a54 P x c L with
    | mk x1 rest =>
     obtain ⟨L1, q1⟩ := rest
     simp only [h1] at e
     cases e
     cases hd with
     | cons hx ht =>
      obtain ⟨a, b⟩ := XR H ((a1f hc).1 hx) h1 hq
      exact ⟨a, .cons ((a1f (aaV hc h1)).2 b) (ht.mono fun _ _ => a.2.dr)⟩
   ·cases e; exact ⟨.refl H, hd⟩
 | nil =>
  intro L l l1 r vs L' q H hd e hq
  simp only [YQ] at e
  cases e
  exact ⟨.refl H, hd⟩
 | cons a b iha ihb =>
  intro L l l1 r vs L' q H hd e hq
  simp only [YQ] at e
  cases h1 : YQ P a l L with
  | mk m1 rest1 =>
   obtain ⟨r1, L1, q1⟩ := rest1
   cases h2 : YQ P b r1 L1 with
   | mk m2 rest2 =>
    obtain ⟨r2, L2, q2⟩ := rest2
    simp only [h1, h2] at e
    cases e
    obtain ⟨a1, a2⟩ := iha H hd h1 fun p hp => hq p (by simp [hp])
    rw [List.map_append] at a2
    obtain ⟨vs1, vs2, hv, c1, c2⟩ : ∃ vs1 vs2, vs = vs1 ++ vs2 ∧ All2 (DR P (qd W0 γ (eL L1) h) γ (eL L1) h) (m1.map enc) vs1 ∧ All2 (DR P (qd W0 γ (eL L1) h) γ (eL L1) h) (r1.map enc) vs2 := by
     refine ⟨vs.take (m1.map enc).length, vs.drop (m1.map enc).length, (List.take_append_drop _ _).symm, ?_, ?_⟩
     ·have := a2.take (m1.map enc).length
      simpa using this
     ·have := a2.drop (m1.map enc).length
      simpa using this
    subst hv
    obtain ⟨b1, b2⟩ := ihb a1.1 c2 h2 fun p hp => hq p (by simp [hp])
    refine ⟨a1.trans b1, ?_⟩
    rw [List.append_assoc, List.map_append]
    exact (c1.mono fun _ _ => b1.2.dr).append b2
 | _ => intro L l l1 r vs L' q H hd e hq; exact other H hd e
end
def a20 (P : Program) (L : List TO) : (s : VS) → List TV → Bd → Option (s.T × List TV × Bd)
 | .sl c, l, B => match l with
  | .part id lo n tot :: r => match L[id]? with
   | some (.fz c' e _ xs) => if szT P e = some c.size then (if h : c'.eqb c = true then some ((List.drop lo (jX (CT.of_eqb h) xs)).take n, r, ⟨B.b, (xs.length, tot) :: B.eqs, B.used⟩) else none) else none
   | _ => none
  | .slx c' xs :: r => if h : c'.eqb c = true then some (jX (CT.of_eqb h) xs, r, B) else none
  | l => wR P L 0 (.sl c) l B
 | .agg s, l, B => match l with
  | .agg xs :: r => match wR P L 0 s xs B with
   | some (x, [], B') => some (x, r, B')
   | _ => none
  | _ => none
 | .cons a b, l, B => match a20 P L a l B with
  | some (x, l', B') => match a20 P L b l' B' with
   | some (y, l'', B'') => some (SP.mk x y, l'', B'')
   | none => none
  | none => none
 | s, l, B => wR P L 0 s l B
section
variable {P : Program} {L : List TO} {sel : Sel} {len : Nat → Nat}
theorem abH {d' d : TV} (h : rC P L sel 0 d' d) : um P (eL L) sel (enc d') (enc d) := by
 have h3 : yW sel (qr d') = some (qr d) := h.2.2
 rw [Qv h.1, Qv h.2.1]
 have hu : a1M sel (qr d') = some (qr d) := by
  have := Yo h.1
  unfold a1M
  split
  ·rename_i q; exact absurd q (this.2 _)
  ·unfold Vs
   split
   ·rename_i q; exact absurd q (this.1 _)
   ·exact h3
 unfold um
 split
 ·rename_i h1 h2
  rw [h1] at h3
  have h4 : some (DV.p (.sl _ _)) = some (qr d) := h3
  rw [h2] at h4
  cases h4
 ·rename_i h1 h2
  rw [h1, h2] at h3
  cases h3
 ·rename_i h1 h2
  rw [h1, h2] at h3
  cases h3
 ·exact hu
theorem a6u (s : VS) : ∀ {l r : List TV} {B B' : Bd} {p : s.T}, a20 P L s l B = some (p, r, B') → B.le B' ∧ (WellB L sel len B' → ∃ l0, l = l0 ++ r ∧ All2 (fun d' d => um P (eL L) sel (enc d') (enc d)) (s.ins id len p) l0) := by
 have base : ∀ (s : VS) {l r : List TV} {B B' : Bd} {p : s.T}, wR P L 0 s l B = some (p, r, B') → B.le B' ∧ (WellB L sel len B' → ∃ l0, l = l0 ++ r ∧ All2 (fun d' d => um P (eL L) sel (enc d') (enc d)) (s.ins id len p) l0) := by
  intro s l r B B' p h
  obtain ⟨h1, h2⟩ := kz (sel := sel) (len := len) 0 s h
  refine ⟨h1, fun g => ?_⟩
  obtain ⟨l0, e, q⟩ := h2 g
  exact ⟨l0, e, q.mono fun _ _ => abH⟩
 induction s with
 | sl c =>
  intro l r B B' p h
  simp only [a20] at h
  split at h
  ·rename_i id lo n tot r'
   split at h
   ·rename_i c' te loc xs hL
    split at h
    ·rename_i hz
     split at h
     ·rename_i hc
      have := CT.of_eqb hc
      subst this
      cases h
      refine ⟨⟨fun _ _ e => e, fun _ e => List.mem_cons_of_mem _ e, fun _ e => e, rfl⟩, fun g => ?_⟩
      have ht : xs.length = tot := g.eqs _ List.mem_cons_self
      refine ⟨[_], rfl, .cons ?_ .nil⟩
      show um P (eL L) sel (.p (.sl _ _)) (.ref id lo n tot)
      refine ⟨⟨_, _, z7 hL⟩, _, yu hL ht, by rw [UC, List.map_take, List.map_drop], by rw [z7 hL]; exact xI hz⟩
     ·cases h
    ·cases h
   ·cases h
  ·rename_i c' xs r'
   split at h
   ·rename_i hc
    have := CT.of_eqb hc
    subst this
    cases h
    exact ⟨Bd.le_refl _, fun g => ⟨[_], rfl, .cons (show um P (eL L) sel (.p (.sl _ _)) (.cx _ _) from ⟨rfl, rfl⟩) .nil⟩⟩
   ·cases h
  ·exact base _ h
 | agg s _ =>
  intro l r B B' p h
  simp only [a20] at h
  split at h
  ·rename_i xs r'
   split at h
   ·rename_i x B1 h1
    cases h
    obtain ⟨a1, a2⟩ := kz (sel := sel) (len := len) 0 s h1
    refine ⟨a1, fun g => ?_⟩
    obtain ⟨l0, e, q⟩ := a2 g
    rw [List.append_nil] at e
    subst e
    have hu : yQ sel ((s.ins id len p).map qr) = some (xs.map qr) := adr (m := 0) (.inl rfl) q
    refine ⟨[_], rfl, .cons ?_ .nil⟩
    show a1M sel (.agg ((s.ins id len p).map qr)) = some (.agg (xs.map qr))
    show (yQ sel ((s.ins id len p).map qr)).map DV.agg = _
    rw [hu]; rfl
   ·cases h
  ·cases h
 | cons a b iha ihb =>
  intro l r B B' p h
  simp only [a20] at h
  split at h
  ·rename_i x l' B1 h1
   split at h
   ·rename_i y l'' B2 h2
    cases h
    obtain ⟨a1, a2⟩ := iha h1
    obtain ⟨b1, b2⟩ := ihb h2
    refine ⟨Bd.le_trans a1 b1, fun g => ?_⟩
    obtain ⟨m1, rfl, q1⟩ := a2 (g.le b1)
    obtain ⟨m2, rfl, q2⟩ := b2 g
    refine ⟨m1 ++ m2, by simp, ?_⟩
    show All2 _ (a.ins id len (SP.fst a.dfl (SP.mk x y)) ++ b.ins id len (SP.snd b.dfl (SP.mk x y))) _
    rw [SP.fst_mk fun q => VS.triv_dfl a q x, SP.snd_mk fun q => VS.triv_dfl b q y]
    exact q1.append q2
   ·cases h
  ·cases h
 | _ => intro l r B B' p h; exact base _ h
end
abbrev Y0_ : List OS := [.st (.cons (.ptr 1 0) (.cons (.int .u8) (.cons (.int .u8) (.cons (.int .u8) (.cons (.int .i64) (.cons (.int .i64) (.cons (.own 3) (.cons (.int .u8) (.cons (.int .u8) (.cons (.int .u8) .bool)))))))))), .st (.cons (.int .i64) (.cons (.int .i64) (.cons (.own 2) (.int .i64)))), .li (.sl (.pair (.int .i32) (.pair (.pair (.int .i32) (.int .i32)) (.pair (.int .u8) (.pair (.int .u8) (.pair (.int .u8) (.int .u8))))))) 151 false, .li (.int .i64) 3 false]
abbrev Y1_ : Type := List (Int × ((Int × Int) × (Int × (Int × (Int × Int)))))
abbrev Y2_ : CT := .pair (.int .i32) (.pair (.pair (.int .i32) (.int .i32)) (.pair (.int .u8) (.pair (.int .u8) (.pair (.int .u8) (.int .u8)))))
abbrev Y3_ : Type := Int × (Int × (Int × (Int × (Int × (Int × (Int × (Int × Bool)))))))
abbrev Y4_ : Type := Int × (Int × Int)
abbrev Y5_ : List OS := [.st (.cons (.int .i64) (.cons (.int .i64) (.cons (.own 1) (.int .i64)))), .li (.sl Y2_) 151 false]
abbrev Y6_ : Type := Y3_ × (Y4_ × ((List Y1_) × (List Int)))
abbrev Y7_ : VS := .cons (.int .u8) (.cons (.int .u8) (.cons (.int .u8) (.cons (.int .i64) (.cons (.int .i64) (.cons (.own 3) (.cons (.int .u8) (.cons (.int .u8) (.cons (.int .u8) .bool))))))))
abbrev Y8_ : VS := .cons (.int .u8) (.cons (.int .u8) (.int .u8))
abbrev Y9_ : Type := Int × (Int × (List Int))
abbrev uJ : VS := .cons (.int .i32) (.cons (.int .i32) (.cons (.int .i32) (.cons (.int .u8) Y8_)))
abbrev Vu : VS := .cons (.int .i64) (.cons (.int .i32) (.sl (.int .i64)))
abbrev a12 : CT := .pair (.int .i64) (.pair (.int .i32) (.sl (.int .i64)))
abbrev aat : VS := .cons (.int .i64) (.cons (.int .i64) (.cons (.own 2) (.int .i64)))
abbrev aiI : List OS := [.st (.cons (.ptr 3 0) (.cons (.int .u8) (.cons (.int .u8) (.cons (.int .u8) (.cons (.int .i64) (.cons (.int .i64) (.cons (.own 4) (.cons (.int .u8) (.cons (.int .u8) (.cons (.int .u8) .bool)))))))))), .st Y8_, .st (.cons (.int .i64) (.cons (.int .i64) (.cons (.own 5) (.int .i64)))), .st (.cons (.int .i64) (.cons (.int .i64) (.cons (.own 6) (.int .i64)))), .li (.int .i64) 3 false, .li (.sl Y2_) 151 false, .li (.sl Y2_) 151 false]
abbrev JF : VS := .cons (.int .i64) (.int .i64)
abbrev aeS : Type := (Int × (Int × (Int × ((List Int) × Int)))) × (Y3_ × (Y4_ × (Y4_ × (Y4_ × ((List Int) × ((List Y1_) × (List Y1_)))))))
abbrev Zt : Type := Y4_ × (List Y1_)
abbrev YR : Type := (List Int) × (Int × Int)
abbrev a9U : Type := Y3_ × (Y4_ × ((List Y1_) × ((List Int) × (List Y9_))))
abbrev ahl : List OS := [.st (.cons (.ptr 1 0) Y7_), .st aat, .li (.sl Y2_) 151 false, .li (.int .i64) 3 false, .st (.own 5), .li a12 92 false]
abbrev a7e : Type := Int × (Int × (Int × (Int × Y4_)))
abbrev aiP : List OS := [.st (.cons (.int .i64) (.cons (.int .i64) (.cons (.own 1) (.int .i64)))), .li (.sl Y2_) 151 false, .st (.cons (.int .i64) (.cons (.int .i64) (.cons (.own 3) (.int .i64)))), .li (.sl Y2_) 151 false]
abbrev afU : Type := Y3_ × ((List Int) × (Y4_ × ((List Int) × (List Y1_))))
abbrev a6U : Type := Y4_ × ((List Y1_) × Zt)
abbrev ai1 : Type := Int × (Int × (Int × ((List Int) × ((List Int) × Int))))
abbrev aii : Type := (Int × (Int × (Int × YR))) × (Y3_ × (Y4_ × (Y4_ × (Y4_ × ((List Int) × ((List Y1_) × (List Y1_)))))))
abbrev a70 : Type := Int × (Int × Bool)
def kk {A B : Type} (l : List A) (x : Option B) : Option B := bif decide (l.length = l.length) then x else none
theorem q8 {A B : Type} (l : List A) (x : Option B) : kk l x = x := by unfold kk; simp
open Go.RowKit
def XX : List (Option (Option Nat)) → Option (List Nat)
 | [] => some []
 | x :: r => match x, XX r with
  | some (some y), some ys => some (y :: ys)
  | _, _ => none
theorem xz : ∀ {b : List (Option (Option Nat))} {l : List Nat}, XX b = some l → XA b = some (l.map some)
 | [], l, h => by cases h; rfl
 | x :: r, l, h => by
  unfold XX at h
  split at h
  ·rename_i y ys h1
   cases h
   unfold XA
   rw [xz h1]
   rfl
  ·cases h
theorem a8O (f g : Nat → Nat) : ∀ (os : List OS) (y : OS.Ts os) (k : Nat), stK os k = true ↔ ∃ c, (eL (OS.inss f g os y))[k]? = some (.st c)
 | [], y, k => by simp [stK, OS.inss, eL]
 | o :: r, y, k => by
  cases k with
  | zero => cases o <;> simp [stK, OS.inss, eL, OS.ins, kh, mpO]
  | succ k =>
   have := a8O f g r (SP.snd (OS.dfls r) y) k
   simp only [stK, List.getElem?_cons_succ] at this ⊢
   simpa [OS.inss, eL] using this
theorem All2.unmap {α β γ : Type} {R : α → β → Prop} {f : γ → α} : ∀ {l : List γ} {m : List β}, All2 R (l.map f) m → All2 (fun a b => R (f a) b) l m
 | [], _, .nil => .nil
 | x :: l, _, .cons h t => .cons h (All2.unmap t)
theorem All2.swap {α β : Type} {R : α → β → Prop} : ∀ {l : List α} {m : List β}, All2 R l m → All2 (fun b a => R a b) m l
 | _, _, .nil => .nil
 | _, _, .cons h t => .cons h t.swap
theorem All2.mapl {α β γ : Type} {R : α → β → Prop} {f : γ → α} : ∀ {l : List γ} {m : List β}, All2 (fun a b => R (f a) b) l m → All2 R (l.map f) m
 | _, _, .nil => .nil
 | _, _, .cons h t => .cons h t.mapl
def OS.live : OS → Bool
 | .dead => false
 | _ => true
theorem a4n (f g : Nat → Nat) : ∀ (os : List OS) (y : OS.Ts os), os.all OS.live = true → ∀ o' ∈ eL (OS.inss f g os y), o' ≠ .dead
 | [], y, _, o', h => by simp [OS.inss, eL] at h
 | o :: r, y, hl, o', h => by
  simp only [List.all_cons, Bool.and_eq_true] at hl
  have h' : o' = kh (o.ins f g (SP.fst o.dfl y)) ∨ o' ∈ eL (OS.inss f g r (SP.snd (OS.dfls r) y)) := by
   simpa [OS.inss, eL] using h
  rcases h' with rfl | h'
  ·cases o with
   | dead => cases hl.1
   | st s => intro q; cases q
   | li c e loc => intro q; cases q
   | mp es => intro q; cases q
  ·exact a4n f g r _ hl.2 o' h'
def a8q (P : Program) (e : TEnt) {R : Type} (ds : List TV) (L : List TO) (K : TV → List TO → Tree R) : Tree R :=
 match YQ P e.av ds L with
 | (l1, r1, L1, q1) => match a20 P L1 e.av (l1 ++ r1) (bd0 0 e.os.length) with
  | some (x, [], B) => match U3 P L1 0 e.os 0 B with
   | some (y, B') => match XX B'.b, B'.used with
    | some sel, [] => if XW sel = true ∧ e.os.all OS.live = true then chk (q1 ++ B'.eqs) (KD (e.m (ShT.mk x y)) fun r => a3Z e.rs r fun ρ w =>
      if ρ.1.fitT ρ.2.length = true ∧ ρ.2.all (OS.fit ρ.2.length) = true ∧ sel.length ≤ ρ.2.length then
       (match ρ.1.ins (a7l e.os sel L1.length ρ.2.length) (OS.lens ρ.2 w.o) w.v with
       | [v] => K v (ZK e.os sel (OS.inss (a7l e.os sel L1.length ρ.2.length) (OS.lens ρ.2 w.o) ρ.2 w.o) L1)
       | _ => .fail) else .fail) else .fail
    | _, _ => .fail
   | none => .fail
  | _ => .fail
def wrG (P : Program) (e : TEnt) (ds : List TV) (L : List TO) : List Nat :=
 match YQ P e.av ds L with
 | (l1, r1, L1, _) => match a20 P L1 e.av (l1 ++ r1) (bd0 0 e.os.length) with
  | some (_, [], B) => match U3 P L1 0 e.os 0 B with
   | some (_, B') => (XX B'.b).getD []
   | none => []
  | _ => []
theorem a1n {P : Program} {e : TEnt} (he : qK P e) {R : Type} {ds : List TV} {L : List TO} {K : TV → List TO → Tree R} {z : R} (hz : (a8q P e ds L K).run = some z) {h0 : Heap} {W0 : Ent} {γ : Pl} {h : Heap} {vs : List Value} (H : Hp P h0 W0 γ (eL L) h) (hr : All2 (DR P (qd W0 γ (eL L) h) γ (eL L) h) (ds.map enc) vs) :
  ADoes P e.f vs h (fun v h' => Aft P h0 W0 γ (eL L) h (KT K z) v h' ∧ VKept γ L h h' (wrG P e ds L)) := by
 obtain ⟨f, av, os, rs, m⟩ := e
 unfold a8q at hz
 cases hp : YQ P av ds L with
 | mk l1 rest =>
  obtain ⟨r1, L1, q1⟩ := rest
  simp only [hp] at hz
  split at hz
  ·rename_i x B h1
   split at hz
   ·rename_i y B' h2
    split at hz
    ·rename_i sel hsel hu
     split at hz
     ·rename_i hnd
      replace hz := zS hz; obtain ⟨hq, hz⟩ := hz
      replace hz := kg hz; obtain ⟨r, h3, hz⟩ := hz
      replace hz := Wt hz; obtain ⟨ρ, w, h4, h5⟩ := hz
      obtain ⟨⟨H1, c1⟩, hr1⟩ := a5Y av H hr hp fun p hp => hq p (by simp [hp])
      have hnd' := ZC hnd.1
      have hwr : wrG P ⟨f, av, os, rs, m⟩ ds L = sel := by
       unfold wrG
       simp only [hp, h1, h2, hsel]
       rfl
      rw [hwr]
      have s1 := xz hsel
      obtain ⟨s5, s6⟩ := YU s1
      obtain ⟨a1, a2⟩ := a6u (P := P) (L := L1) (sel := sel.map some) (len := OS.lens os y) av h1
      obtain ⟨b1, b2, b3⟩ := Wk (sel := sel.map some) (.inl rfl) os h2
      have hlen : B'.b.length = os.length := by rw [b1.2.2.2, a1.2.2.2, a9n]
      have hsl : sel.length = os.length := by rw [← hlen, ← s5, List.length_map]
      have ok : WellB L1 (sel.map some) (OS.lens os y) B' := by
       refine ⟨fun k x e => (s6 k x).1 e, fun p hp => hq p (by simp [hp]), fun i hi => (by rw [hu] at hi; simp at hi), fun k id n e ht => ?_, fun k e => ?_⟩
       ·have hk : k < os.length := by rw [← hlen, ← s5]; exact (List.getElem?_eq_some_iff.1 e).1
        obtain ⟨x, c1, c2, c3⟩ := b2 k hk
        rw [Nat.zero_add] at c1
        have := (s6 k x).1 c1
        rw [e] at this; cases this
        exact c2 id n rfl ht
       ·have hk : k < os.length := by rw [← hlen, ← s5]; exact (List.getElem?_eq_some_iff.1 e).1
        obtain ⟨x, c1, c2, c3⟩ := b2 k hk
        rw [Nat.zero_add] at c1
        have := (s6 k x).1 c1
        rw [e] at this; cases this
        exact c3 rfl
      obtain ⟨l0, e0, hargs⟩ := a2 (ok.le b1)
      rw [List.append_nil] at e0
      have hvals : ShT.vals (ShT.mk x y : ShT av os) = av.ins id (OS.lens os y) x := by unfold ShT.vals; rw [ShT.v_mk, ShT.o_mk]
      have hobjs : ShT.objs (ShT.mk x y : ShT av os) = OS.inss id (OS.lens os y) os y := by unfold ShT.objs; rw [ShT.o_mk]
      have hoo : All2 (oOk L1 (sel.map some) 0) (sel.map some) (OS.inss id (OS.lens os y) os y) := by
       refine All2.of_get (by rw [yU, List.length_map, hsl]) fun i s o' e1 e2 => ?_
       obtain ⟨s', c1, c2⟩ := b3 _ ok i o' e2
       rw [Nat.zero_add, e1] at c1
       cases c1
       exact c2
      have hA : All2 (fun o' (i : Nat) => ∃ o, (eL L1)[i]? = some o ∧ Wi (sel.map some) o' o) (eL (OS.inss id (OS.lens os y) os y)) sel := by
       refine All2.mapl (All2.swap ((All2.unmap hoo).mono fun i o' h => ?_))
       obtain ⟨o, e1, e2⟩ := h
       exact ⟨kh o, z7 e1, e2⟩
      have hlt : ∀ i ∈ sel, i < L1.length := fun i hi => by
       obtain ⟨k, hk⟩ := List.mem_iff_getElem?.1 hi
       obtain ⟨o', _, o, e1, _⟩ := hA.get' hk
       have := (List.getElem?_eq_some_iff.1 e1).1
       rwa [zH] at this
      have hst : ∀ k, stK os k = true → k < sel.length := fun k q => by
       rw [hsl]
       unfold stK at q
       split at q
       ·rename_i h6; exact (List.getElem?_eq_some_iff.1 h6).1
       ·cases q
      have hd := he (ShT.mk x y) r h3
      simp only at hd
      rw [hvals, hobjs] at hd
      subst e0
      have hW : DCallWF P f ((l1 ++ r1).map enc) (eL L1) sel (KT K z) := by
       refine a5N sel hd hnd' hA (All2.maps (f := enc) (g := enc) (R' := um P (eL L1) (sel.map some)) (fun _ _ q => q) hargs) fun d A' hq' => ?_
       obtain ⟨v, b4, rfl, rfl⟩ := h5 d A' hq'
       split at h4
       ·rename_i hfit
        obtain ⟨f1, f2, f3⟩ := hfit
        have hb : ∀ k, k < ρ.2.length → (yi os sel ρ.2.length L1)[a7l os sel L1.length ρ.2.length k]? = some (some k) := fun k hk => ael hnd' rfl hlt hst hk
        have hnl : (OS.inss (a7l os sel L1.length ρ.2.length) (OS.lens ρ.2 w.o) ρ.2 w.o).length = ρ.2.length := yU _ _ _ _
        have hex := af4 (len := OS.lens ρ.2 w.o) hb ρ.1 w.v f1
        have hob := a8L (len := OS.lens ρ.2 w.o) hb ρ.2 w.o f2
        have M := aeq (P := P) (L := L1) (os := os) (sel := sel) (new := OS.inss (a7l os sel L1.length ρ.2.length) (OS.lens ρ.2 w.o) ρ.2 w.o) (A := eL (OS.inss id (OS.lens os y) os y)) (A' := eL (ShT.objs w)) (old := ShT.objs w) hnd' hlt hst (a8O _ _ _ _) (by rw [hnl]; exact f3) rfl (by rw [hnl]; exact hob)
        rw [hnl] at M
        split at h4
        ·rename_i v' hv'
         rw [hv'] at hex
         have b4' : ρ.1.ins id (OS.lens ρ.2 w.o) w.v = [v] := b4
         rw [b4'] at hex
         cases hex with
         | cons hx t =>
          exact ⟨_, _, _, M, hx, _, _, rfl, rfl, h4⟩
        ·cases h4
       ·cases h4
      refine (hW h0 W0 γ h vs H1 hr1).mono ?_
      rintro v h' ⟨⟨γ', d, L', hK, H2, c2, hd2⟩, hfr⟩
      refine ⟨⟨γ', d, L', hK, H2, c1.trans' c2, hd2⟩, fun id b hg hst' hid => ?_⟩
      obtain ⟨g1, c0, s1⟩ := c1.st id b hg hst'
      refine hfr b (OR.lt (fun b hb => hb.1) (H1.obj id _ s1) g1 rfl).1 fun i hi x hgi => ?_
      have hne : i ≠ id := fun q => hid (q ▸ hi)
      obtain ⟨k, hk⟩ := List.mem_iff_getElem?.1 hi
      obtain ⟨o', ho', o, e1, e2⟩ := hA.get' hk
      have hdead := a4n _ _ os y hnd.2 o' (List.mem_of_getElem? ho')
      cases o with
      | st c => exact hne (H1.inj i id _ _ b x 0 e1 s1 rfl rfl hgi g1)
      | li te rows =>
       cases te with
       | none => have := (H1.obj i _ e1).2; rw [hgi] at this; cases this
       | some te => exact hne (H1.inj i id _ _ b x 0 e1 s1 rfl rfl hgi g1)
      | fz te rows =>
       cases te with
       | none => have := (H1.obj i _ e1).2; rw [hgi] at this; cases this
       | some te =>
        obtain ⟨b', o2, g2, f2, _⟩ := H1.obj i _ e1
        rw [hgi] at g2; cases g2
        exact f2.2.2 id _ 0 s1 rfl g1
      | mp es => cases o' <;> exact e2.elim
      | dead =>
       cases o' with
       | dead => exact hdead rfl
       | st c => exact e2.elim
       | li te rows => exact e2.elim
       | fz te rows => exact e2.elim
       | mp es => exact e2.elim
     ·cases hz
    ·cases hz
   ·cases hz
  ·cases hz
def aeJ (P : Program) (e : TEnt) (k : FuncId) (ds : List TV) (L : List TO) : Bool := e.f == k && (if e.os.isEmpty && adz e.rs then (match Ub P L 2 e.av ds (bd0 0 e.os.length) with
  | some (_, [], _) => true
  | _ => false) else (match YQ P e.av ds L with
  | (l1, r1, L1, _) => match a20 P L1 e.av (l1 ++ r1) (bd0 0 e.os.length) with
   | some (_, [], B) => (match U3 P L1 0 e.os 0 B with
    | some _ => true
    | none => false)
   | _ => false))
def a2A (P : Program) : List TEnt → (R : Type) → wD R
 | [], _ => fun _ _ _ _ => .fail
 | e :: r, R => fun k ds L K => match aeJ P e k ds L with
  | true => if e.os.isEmpty && adz e.rs then a8c P e ds L K else a8q P e ds L K
  | false => a2A P r R k ds L K
def wrs (P : Program) : List TEnt → FuncId → List TV → List TO → List Nat
 | [], _, _, _ => []
 | e :: r, k, ds, L => match aeJ P e k ds L with
  | true => if e.os.isEmpty && adz e.rs then [] else wrG P e ds L
  | false => wrs P r k ds L
theorem a03 {P : Program} : ∀ {tab : List TEnt}, (∀ e ∈ tab, qK P e) → ∀ R : Type, TCallOk P (a2A P tab R) (wrs P tab)
 | [], _, R => fun k ds L K z h => by cases h
 | e :: r, ht, R => fun k ds L K z h h0 W0 γ hh vs H hr => by
  unfold a2A at h
  unfold wrs
  split at h
  ·rename_i hf
   have hk : e.f = k := by
    unfold aeJ at hf
    simp only [Bool.and_eq_true, beq_iff_eq] at hf
    exact hf.1
   subst hk
   try simp only [hf]
   split at h
   ·rename_i hc
    rw [if_pos hc]
    simp only [Bool.and_eq_true, List.isEmpty_iff] at hc
    refine (a13 (ht e List.mem_cons_self) hc.1 h h0 W0 γ hh vs H hr).mono fun v h' q => ⟨q.1, fun id b hg hs _ => q.2 b (adW H hg hs) fun i hi => by simp at hi⟩
   ·rename_i hc
    rw [if_neg hc]
    exact a1n (ht e List.mem_cons_self) h H hr
  ·rename_i hf
   try simp only [hf]
   exact a03 (fun e he => ht e (List.mem_cons_of_mem _ he)) R k ds L K z h h0 W0 γ hh vs H hr
def a7J (P : Program) (R : Type) (call : ∀ R : Type, wD R) (wr : FuncId → List TV → List TO → List Nat) (k : FuncId) (ds : List TV) (L : List TO) (K : TV → List TO → Tree R) : Tree R :=
 match a81 P k ds.length with
 | true => adf ⟨P, a8w P 12, call, wr, fun _ => none, fun _ => none, fun _ => 70⟩ k ds L K
 | false => .fail
theorem a0Y {P : Program} {R : Type} {call : ∀ R : Type, wD R} {wr : FuncId → List TV → List TO → List Nat} (hcall : ∀ R : Type, TCallOk P (call R) wr) {k : FuncId} {ds : List TV} {L : List TO} {K : TV → List TO → Tree R} {z : R} (e : (a7J P R call wr k ds L K).run = some z) :
  ∀ h0 W0 γ h vs, Hp P h0 W0 γ (eL L) h → All2 (DR P (qd W0 γ (eL L) h) γ (eL L) h) (ds.map enc) vs → ADoes P k vs h (Aft P h0 W0 γ (eL L) h (KT K z)) := by
 intro h0 W0 γ h vs H hr
 unfold a7J at e
 split at e
 case h_2 => cases e
 rename_i hfn
 unfold adf at e
 replace e := q9 e; obtain ⟨fn, hf, e⟩ := e
 simp only at hf e
 unfold a81 at hfn
 rw [hf] at hfn
 simp only [Bool.and_eq_true, Bool.not_eq_true', decide_eq_true_eq] at hfn
 obtain ⟨⟨h1, h3⟩, h4⟩ := hfn
 let W1 : Ent := { W0 with cnt := L.length, few := fun id b e => by have := H.dom id _ (H.pin id b e).1; rwa [zH] at this }
 have H1 : Hp P h0 W1 γ (eL L) h := ⟨H.start, H.pin, H.obj, H.inj, H.dom, H.new, H.next, H.frame⟩
 cases hbd : fn.body with
 | none => rw [hbd] at h1; cases h1
 | some c =>
  have hb : Xy fn = c := by simp [Xy, hbd]
  rw [hb] at e
  have hlen : vs.length ≤ fn.ntmps := by rw [← hr.length]; simpa using h4
  refine ADoes.of (ZN (Q := Aft P h0 W0 γ (eL L) h (KT K z)) hf hbd rfl rfl h3 hlen (jz ?_))
  have hE : EnvOk ⟨P, a8w P 12, call, wr, fun _ => none, fun _ => none, fun _ => 70⟩ := ⟨fun p S q => (by cases q), hcall, fun p S q => (by cases q)⟩
  have hx : aaz ⟨P, a8w P 12, call, wr, fun _ => none, fun _ => none, fun _ => 70⟩ h0 W1 ⟨True, γ, eL L, h⟩ (xOf P c .nil) := (zf (B := ⟨True, γ, eL L, h⟩) hE (fun _ => ⟨fun _ => rfl, fun _ => rfl⟩) _).1
  have hF : FR P W1 γ (eL L) h (zW ⟨fn.ntmps, L.length, yM 0 ds⟩) ⟨fn.ntmps, kw 0 vs⟩ := ⟨rfl, rfl, fun t d e => Ky 0 hr t d (by rw [← xy]; exact e)⟩
  refine hx (z := z) ?_ ⟨H1, fun _ => Carry.refl _ _ _⟩ hF e
  rintro e fa h' ⟨a, L', γ', hq, ⟨H', cc⟩, hf'⟩
  have fin : (a1N P a L' fn.results.toList fun ds => ql (a08 ds) fun d => K d L').run = some z → ∃ vs, za P fa h' fn.results.toList = some vs ∧ Aft P h0 W0 γ (eL L) h (KT K z) (jW vs) h' := by
   intro hq
   obtain ⟨ds', e1, hq⟩ := Y8 hq
   replace hq := q9 hq; obtain ⟨d, e2, hq⟩ := hq
   obtain ⟨vs', e3, r3⟩ := Q0 H' hf' e1
   have c := cc trivial
   exact ⟨vs', e3, γ', enc d, eL L', ⟨d, L', rfl, rfl, hq⟩, ⟨H'.start, H'.pin, H'.obj, H'.inj, H'.dom, H'.new, H'.next, H'.frame⟩, ⟨c.free, c.len, c.st, c.mp, c.li⟩, VX r3 (UO e2)⟩
  cases e with
  | normal => exact fin hq
  | ret => exact fin hq
  | exit id => cases hq
  | goto l => cases hq
  | panic c => cases hq
  | outgrown => cases hq
def a1t (P : Program) (tab : List TEnt) (k : FuncId) (ds : List TV) (L : List TO) : Bool := tab.any fun e => aeJ P e k ds L
def ag2 (P : Program) (tab : List TEnt) (k : FuncId) (ds : List TV) (L : List TO) : List Nat := match a1t P tab k ds L with
 | true => wrs P tab k ds L
 | false => List.range L.length
def VB (P : Program) (tab : List TEnt) : Nat → (R : Type) → wD R
 | 0, _ => fun _ _ _ _ => .fail
 | n + 1, R => fun k ds L K => match a1t P tab k ds L with
  | true => a2A P tab R k ds L K
  | false => a7J P R (VB P tab n) (ag2 P tab) k ds L K
theorem xa {P : Program} {tab : List TEnt} (ht : ∀ e ∈ tab, qK P e) : ∀ (n : Nat) (R : Type), TCallOk P (VB P tab n R) (ag2 P tab)
 | 0, R => fun k ds L K z e => by cases e
 | n + 1, R => fun k ds L K z e h0 W0 γ h vs H hr => by
  unfold VB at e
  unfold ag2
  cases hf : a1t P tab k ds L with
  | true =>
   simp only [hf] at e ⊢
   exact a03 ht R k ds L K z e h0 W0 γ h vs H hr
  | false =>
   simp only [hf] at e ⊢
   refine (a0Y (fun R => xa ht n R) e h0 W0 γ h vs H hr).mono fun v h' q => ⟨q, fun id b hg hs hid => absurd ?_ hid⟩
   obtain ⟨c, hc⟩ := hs
   have := (List.getElem?_eq_some_iff.1 hc).1
   rw [zH] at this
   exact List.mem_range.2 this
def VK (P : Program) (c : Nat) : List (Nat × List Nat × VS × List OS) → Nat → Option Shp
 | [], _ => none
 | (p, keys, vs, os) :: r, q => if p = q then some (agT P c keys vs os) else VK P c r q
theorem X4 {P : Program} {c : Nat} : ∀ {l : List (Nat × List Nat × VS × List OS)} {q : Nat} {S : Shp}, VK P c l q = some S → a0l P S
 | [], q, S, h => by cases h
 | (p, keys, vs, os) :: r, q, S, h => by
  unfold VK at h
  split at h
  ·cases h; exact abK _ _ _ _ _
  ·exact X4 h
def VC (P : Program) (c : Nat) : List (Nat × List Nat × VS × List OS) → Nat → Option Shp
 | [], _ => none
 | (p, keys, vs, os) :: r, q => if p = q then some (ain P c keys vs os) else VC P c r q
theorem xA {P : Program} {c : Nat} : ∀ {l : List (Nat × List Nat × VS × List OS)} {q : Nat} {S : Shp}, VC P c l q = some S → ago P S
 | [], q, S, h => by cases h
 | (p, keys, vs, os) :: r, q, S, h => by
  unfold VC at h
  split at h
  ·cases h; exact afd _ _ _ _ _
  ·exact xA h
abbrev Shs := List (Nat × List Nat × VS × List OS)
def aiO (un : List Nat) (p : Nat) : Nat := if un.contains p then 70 else 0
def acU (P : Program) (tab : List TEnt) (c : Nat) (loops joins : Shs) (un : List Nat) : TEnv := ⟨P, a8w P 12, VB P tab 8, ag2 P tab, VK P c loops, VC P c joins, aiO un⟩
theorem aia {P : Program} {tab : List TEnt} {c : Nat} {loops joins : Shs} {un : List Nat} (ht : ∀ e ∈ tab, qK P e) : EnvOk (acU P tab c loops joins un) := ⟨fun _ _ h => xA h, xa ht 8, fun _ _ h => X4 h⟩
theorem kT {P : Program} {tab : List TEnt} {loops joins : Shs} {un : List Nat} {f : FuncId} {av : VS} {os : List OS} {rs : List RSh} (m : ShT av os → Option (RT rs)) (ht : ∀ e ∈ tab, qK P e) (hm : ∀ p, uv (acU P tab os.length loops joins un) f av os rs p = m p) (hf : a81 P f (av.ins id (fun _ => 0) av.dfl).length = true) : qK P ⟨f, av, os, rs, m⟩ :=
 ai6 (aia ht) m hm hf
theorem tn {P : Program} : ∀ e ∈ ([] : List TEnt), qK P e := fun e he => absurd he List.not_mem_nil
theorem tc {P : Program} {e : TEnt} {l : List TEnt} (h : qK P e) (t : ∀ x ∈ l, qK P x) : ∀ x ∈ e :: l, qK P x := fun x hx => by
 rcases List.mem_cons.1 hx with rfl | hx
 ·exact h
 ·exact t x hx
theorem eo0 {P : Program} {tab : List TEnt} {f : FuncId} {av : VS} {os : List OS} {rs : List RSh} (m : ShT av os → Option (RT rs)) (ht : ∀ e ∈ tab, qK P e) (hm : ∀ p, uv (acU P tab os.length [] [] []) f av os rs p = m p) (hf : a81 P f (av.ins id (fun _ => 0) av.dfl).length = true) : qK P ⟨f, av, os, rs, m⟩ := kT m ht hm hf
set_option maxRecDepth 100000
theorem adC {n : Int} (h1 : 0 ≤ n) (h2 : n < 18446744073709551616) : IntKind.u64.wrap n = n := by
 unfold IntKind.wrap
 simp only [IntKind.bits, IntKind.signed, Bool.false_and]
 simp
 omega
theorem afz {n : Int} (h1 : 0 ≤ n) (h2 : n < 256) : IntKind.u8.wrap n = n := by
 unfold IntKind.wrap
 simp only [IntKind.bits, IntKind.signed, Bool.false_and]
 simp
 omega
theorem agq {σ T : Type} {step : σ → Option (σ ⊕ T)} {s s' : σ} (h : step s = some (.inl s')) : zO step s = zO step s' := by rw [ud, h]
theorem af9 {σ T : Type} {step : σ → Option (σ ⊕ T)} {s : σ} {t : T} (h : step s = some (.inr t)) : zO step s = some t := by rw [ud, h]
def unr {σ T : Type} (x : Option (σ ⊕ T)) (f : σ → Option T) : Option T := match x with
 | some (.inl s) => f s
 | some (.inr t) => some t
 | none => none
@[simp] theorem zE {σ T : Type} (s : σ) (f : σ → Option T) : unr (some (.inl s)) f = f s := rfl
@[simp] theorem jg {σ T : Type} (t : T) (f : σ → Option T) : unr (some (.inr t)) f = some t := rfl
theorem J9 {σ T : Type} (step : σ → Option (σ ⊕ T)) (s : σ) : zO step s = unr (step s) (zO step) := by rw [ud]; rfl
theorem jd {σ T : Type} {step : σ → Option (σ ⊕ T)} (st : Nat → σ) {n : Nat} {t : T} (h : ∀ i, i < n → step (st i) = some (.inl (st (i + 1)))) (he : step (st n) = some (.inr t)) : ∀ i, i ≤ n → zO step (st i) = some t := by
 intro i hi
 obtain ⟨k, hk⟩ : ∃ k, k = n - i := ⟨_, rfl⟩
 induction k generalizing i with
 | zero => rw [show i = n by omega]; exact af9 he
 | succ k ih => rw [agq (h i (by omega))]; exact ih (i + 1) (by omega) (by omega)
theorem qc {n : Int} (h1 : -9223372036854775808 ≤ n) (h2 : n < 9223372036854775808) : IntKind.i64.wrap n = n := by
 unfold IntKind.wrap
 simp only [IntKind.bits, IntKind.signed, Bool.true_and]
 by_cases h : 0 ≤ n
 ·have : n % 2 ^ 64 = n := by omega
  simp [this]
  omega
 ·have : n % 2 ^ 64 = n + 18446744073709551616 := by omega
  simp [this]
  omega
theorem uf {n : Int} (h1 : -2147483648 ≤ n) (h2 : n < 2147483648) : IntKind.i32.wrap n = n := by
 unfold IntKind.wrap
 simp only [IntKind.bits, IntKind.signed, Bool.true_and]
 by_cases h : 0 ≤ n
 ·have : n % 2 ^ 32 = n := by omega
  simp [this]
  omega
 ·have : n % 2 ^ 32 = n + 4294967296 := by omega
  simp [this]
  omega
theorem a2j {n : Int} (h1 : 0 ≤ n) (h2 : n < 18446744073709551616) : IntKind.u64.wrap n = n := adC h1 h2
theorem QU {n : Int} (h1 : 0 ≤ n) (h2 : n < 256) : IntKind.u8.wrap n = n := afz h1 h2
theorem qn {p : Prop} {i : Decidable p} (h : p) : @decide p i = true := decide_eq_true h
theorem qt {p : Prop} {i : Decidable p} (h : ¬ p) : @decide p i = false := decide_eq_false h
theorem zL {a b : Int} (h : a = b) : (a == b) = true := beq_iff_eq.2 h
theorem qY {a b : Int} (h : a ≠ b) : (a == b) = false := beq_eq_false_iff_ne.2 h
theorem ag5 {a b : Int} (h : a ≠ b) : (a != b) = true := bne_iff_ne.2 h
theorem afN {a b : Int} (h : a = b) : (a != b) = false := by rw [h]; exact bne_self_eq_false _
theorem a9a {α : Type} {l : List α} {i : Nat} {x : α} (h : l[i]? = some x) : l.drop i = x :: l.drop (i + 1) := by
 obtain ⟨hlt, rfl⟩ := List.getElem?_eq_some_iff.1 h
 rw [List.drop_eq_getElem_cons hlt]
theorem yE {α : Type} {l : List α} {i : Nat} {x : α} (h : l[i]? = some x) : l.take (i + 1) = l.take i ++ [x] := by rw [List.take_add_one, h]; rfl
theorem qS {α : Type} {l : List α} {i : Nat} (h : i < l.length) : ∃ x, l[i]? = some x := ⟨_, List.getElem?_eq_getElem h⟩
theorem qw {A B : Type} (a : A) (f : A → Option B) : Option.bind (some a) f = f a := rfl
theorem qg {A : Type} (a b : A) : cond true a b = a := rfl
theorem qk {A : Type} (a b : A) : cond false a b = b := rfl
theorem ze (n : Nat) : Int.toNat (n : Int) = n := rfl
theorem qm (h : Decidable True) : @decide True h = true := decide_eq_true trivial
theorem jf {A : Type} (a b : List A) : (a ++ b).length = a.length + b.length := List.length_append
theorem jE : (!true) = false := rfl
theorem K6 : (!false) = true := rfl
theorem y7 {A : Type} (a : A) (l : List A) : (a :: l).length = l.length + 1 := rfl
theorem zQ {A : Type} : ([] : List A).length = 0 := rfl
theorem ac4 {A : Type} (a : A) : [a].length = 1 := rfl
theorem Qg {A B : Type} (f : A → B) (l : List A) : (l.map f).length = l.length := List.length_map f
set_option maxHeartbeats 0
open Go.Proofs
def wq (x0 : Int) : Option Bool :=
 bif decide (0 ≤ x0) then
 bif decide (x0 < 55296) then
 some true
 else bif decide (57343 < x0) then
 some (decide (x0 ≤ 1114111))
 else some false
 else bif decide (57343 < x0) then
 some (decide (x0 ≤ 1114111))
 else some false
def a2f : TEnt := ⟨126, .int .i32, [], [(.bool, [])], fun s => wq s⟩
theorem Vh : qK Try.prog a2f := eo0 _ tn (fun s => by kernel_rfl) (by kernel_rfl)
def a1b (x0 : Int) (x1 : Int) : Option Bool :=
 none
def a1Q : TEnt := ⟨125, .agg (.cons (.int .i32) (.int .i32)), [], [(.bool, [])], fun s => a1b s.1 s.2⟩
theorem Vt : qK Try.prog a1Q := eo0 _ tn (fun s => by kernel_rfl) (by kernel_rfl)
def qz (x4 : Int) (x5 : Int) : Option ((Int × Int) ⊕ Int) :=
 bif decide (x4 < 11) then
 bif decide (x4 = (10 : Int)) then
 bif decide (131072 ≤ x5) then
 bif decide (x5 ≤ 262141) then
 some (Sum.inr ((2 : Int)))
 else some (Sum.inl ((IntKind.i64.wrap (x4 + (1 : Int))), x5))
 else some (Sum.inl ((IntKind.i64.wrap (x4 + (1 : Int))), x5))
 else bif decide (x4 = (9 : Int)) then
 bif decide (129280 ≤ x5) then
 bif decide (x5 ≤ 129535) then
 some (Sum.inr ((2 : Int)))
 else some (Sum.inl ((IntKind.i64.wrap (x4 + (1 : Int))), x5))
 else some (Sum.inl ((IntKind.i64.wrap (x4 + (1 : Int))), x5))
 else bif decide (x4 = (8 : Int)) then
 bif decide (127744 ≤ x5) then
 bif decide (x5 ≤ 128591) then
 some (Sum.inr ((2 : Int)))
 else some (Sum.inl ((IntKind.i64.wrap (x4 + (1 : Int))), x5))
 else some (Sum.inl ((IntKind.i64.wrap (x4 + (1 : Int))), x5))
 else bif decide (x4 = (7 : Int)) then
 bif decide (65504 ≤ x5) then
 bif decide (x5 ≤ 65510) then
 some (Sum.inr ((2 : Int)))
 else some (Sum.inl ((IntKind.i64.wrap (x4 + (1 : Int))), x5))
 else some (Sum.inl ((IntKind.i64.wrap (x4 + (1 : Int))), x5))
 else bif decide (x4 = (6 : Int)) then
 bif decide (65280 ≤ x5) then
 bif decide (x5 ≤ 65376) then
 some (Sum.inr ((2 : Int)))
 else some (Sum.inl ((IntKind.i64.wrap (x4 + (1 : Int))), x5))
 else some (Sum.inl ((IntKind.i64.wrap (x4 + (1 : Int))), x5))
 else bif decide (x4 = (5 : Int)) then
 bif decide (65072 ≤ x5) then
 bif decide (x5 ≤ 65135) then
 some (Sum.inr ((2 : Int)))
 else some (Sum.inl ((IntKind.i64.wrap (x4 + (1 : Int))), x5))
 else some (Sum.inl ((IntKind.i64.wrap (x4 + (1 : Int))), x5))
 else bif decide (x4 = (4 : Int)) then
 bif decide (63744 ≤ x5) then
 bif decide (x5 ≤ 64255) then
 some (Sum.inr ((2 : Int)))
 else some (Sum.inl ((IntKind.i64.wrap (x4 + (1 : Int))), x5))
 else some (Sum.inl ((IntKind.i64.wrap (x4 + (1 : Int))), x5))
 else bif decide (x4 = (3 : Int)) then
 bif decide (44032 ≤ x5) then
 bif decide (x5 ≤ 55203) then
 some (Sum.inr ((2 : Int)))
 else some (Sum.inl ((IntKind.i64.wrap (x4 + (1 : Int))), x5))
 else some (Sum.inl ((IntKind.i64.wrap (x4 + (1 : Int))), x5))
 else bif decide (x4 = (2 : Int)) then
 bif decide (12353 ≤ x5) then
 bif decide (x5 ≤ 42191) then
 some (Sum.inr ((2 : Int)))
 else some (Sum.inl ((IntKind.i64.wrap (x4 + (1 : Int))), x5))
 else some (Sum.inl ((IntKind.i64.wrap (x4 + (1 : Int))), x5))
 else bif decide (x4 = (1 : Int)) then
 bif decide (11904 ≤ x5) then
 bif decide (x5 ≤ 12350) then
 some (Sum.inr ((2 : Int)))
 else some (Sum.inl ((IntKind.i64.wrap (x4 + (1 : Int))), x5))
 else some (Sum.inl ((IntKind.i64.wrap (x4 + (1 : Int))), x5))
 else bif decide (x4 = (0 : Int)) then
 bif decide (4352 ≤ x5) then
 bif decide (x5 ≤ 4447) then
 some (Sum.inr ((2 : Int)))
 else some (Sum.inl ((IntKind.i64.wrap (x4 + (1 : Int))), x5))
 else some (Sum.inl ((IntKind.i64.wrap (x4 + (1 : Int))), x5))
 else none
 else some (Sum.inr ((1 : Int)))
def qp : (Int × Int) → Option Int := zO fun s => qz s.1 s.2
def z5 (x2 : Int) (x3 : Int) : Option ((Int × Int) ⊕ Int) :=
 bif decide (x2 < 5) then
 bif decide (x2 = (4 : Int)) then
 bif decide (65056 ≤ x3) then
 bif decide (x3 ≤ 65071) then
 some (Sum.inr ((0 : Int)))
 else some (Sum.inl ((IntKind.i64.wrap (x2 + (1 : Int))), x3))
 else some (Sum.inl ((IntKind.i64.wrap (x2 + (1 : Int))), x3))
 else bif decide (x2 = (3 : Int)) then
 bif decide (65024 ≤ x3) then
 bif decide (x3 ≤ 65039) then
 some (Sum.inr ((0 : Int)))
 else some (Sum.inl ((IntKind.i64.wrap (x2 + (1 : Int))), x3))
 else some (Sum.inl ((IntKind.i64.wrap (x2 + (1 : Int))), x3))
 else bif decide (x2 = (2 : Int)) then
 bif decide (8400 ≤ x3) then
 bif decide (x3 ≤ 8447) then
 some (Sum.inr ((0 : Int)))
 else some (Sum.inl ((IntKind.i64.wrap (x2 + (1 : Int))), x3))
 else some (Sum.inl ((IntKind.i64.wrap (x2 + (1 : Int))), x3))
 else bif decide (x2 = (1 : Int)) then
 bif decide (8203 ≤ x3) then
 bif decide (x3 ≤ 8207) then
 some (Sum.inr ((0 : Int)))
 else some (Sum.inl ((IntKind.i64.wrap (x2 + (1 : Int))), x3))
 else some (Sum.inl ((IntKind.i64.wrap (x2 + (1 : Int))), x3))
 else bif decide (x2 = (0 : Int)) then
 bif decide (768 ≤ x3) then
 bif decide (x3 ≤ 879) then
 some (Sum.inr ((0 : Int)))
 else some (Sum.inl ((IntKind.i64.wrap (x2 + (1 : Int))), x3))
 else some (Sum.inl ((IntKind.i64.wrap (x2 + (1 : Int))), x3))
 else none
 else (qp (((0 : Int)), x3)).bind fun x4 =>
 some (Sum.inr x4)
def qI : (Int × Int) → Option Int := zO fun s => z5 s.1 s.2
def wF (x0 : Int) : Option Int :=
 bif decide (x0 < 32) then
 some ((-1 : Int))
 else bif decide (127 ≤ x0) then
 bif decide (x0 ≤ 159) then
 some ((-1 : Int))
 else (wq x0).bind fun x1 =>
 bif !x1 then
 some ((-1 : Int))
 else (qI (((0 : Int)), x0)).bind fun x2 =>
 some x2
 else (wq x0).bind fun x1 =>
 bif !x1 then
 some ((-1 : Int))
 else (qI (((0 : Int)), x0)).bind fun x2 =>
 some x2
def a6C : TEnt := ⟨82, .int .i32, [], [(.int .i64, [])], fun s => wF s⟩
theorem QC : qK Try.prog a6C := kT (loops := [(299594, [3, 24, 25], (.cons (.fn 125 .nil (.ptr 0 0)) (.cons (.agg (.cons (.cst (.int .i32 (768))) (.cons (.cst (.int .i32 (879))) (.cons (.cst (.int .i32 (8203))) (.cons (.cst (.int .i32 (8207))) (.cons (.cst (.int .i32 (8400))) (.cons (.cst (.int .i32 (8447))) (.cons (.cst (.int .i32 (65024))) (.cons (.cst (.int .i32 (65039))) (.cons (.cst (.int .i32 (65056))) (.cst (.int .i32 (65071))))))))))))) (.int .i64))), [.st (.int .i32)]), (19173962, [3, 32, 33], (.cons (.fn 125 .nil (.ptr 0 0)) (.cons (.agg (.cons (.cst (.int .i32 (4352))) (.cons (.cst (.int .i32 (4447))) (.cons (.cst (.int .i32 (11904))) (.cons (.cst (.int .i32 (12350))) (.cons (.cst (.int .i32 (12353))) (.cons (.cst (.int .i32 (42191))) (.cons (.cst (.int .i32 (44032))) (.cons (.cst (.int .i32 (55203))) (.cons (.cst (.int .i32 (63744))) (.cons (.cst (.int .i32 (64255))) (.cons (.cst (.int .i32 (65072))) (.cons (.cst (.int .i32 (65135))) (.cons (.cst (.int .i32 (65280))) (.cons (.cst (.int .i32 (65376))) (.cons (.cst (.int .i32 (65504))) (.cons (.cst (.int .i32 (65510))) (.cons (.cst (.int .i32 (127744))) (.cons (.cst (.int .i32 (128591))) (.cons (.cst (.int .i32 (129280))) (.cons (.cst (.int .i32 (129535))) (.cons (.cst (.int .i32 (131072))) (.cst (.int .i32 (262141))))))))))))))))))))))))) (.int .i64))), [.st (.int .i32)])]) (joins := []) (un := []) _ (tc Vh (tc Vt tn)) (fun s => by kernel_rfl) (by kernel_rfl)
def zT (x0 : Int) : Option Bool :=
 (wF x0).bind fun x1 =>
 some (x1 == 0)
def a1e : TEnt := ⟨86, .int .i32, [], [(.bool, [])], fun s => zT s⟩
theorem yj : qK Try.prog a1e := eo0 _ (tc QC tn) (fun s => by kernel_rfl) (by kernel_rfl)
def w6 (x0 : Int) (x1 : Int) (x2 : Int) : Option Bool :=
 bif decide (x0 < 32) then
 bif decide (x1 < 17) then
 some (decide (x2 < 17))
 else some false
 else some false
def a4F : TEnt := ⟨80, .agg Y8_, [], [(.bool, [])], fun s => w6 s.1 s.2.1 s.2.2⟩
theorem yZ : qK Try.prog a4F := eo0 _ tn (fun s => by kernel_rfl) (by kernel_rfl)
def kQ (x0 : Int) (x1 : Int) (x2 : Int) : Option a7e :=
 some (((32 : Int)), (((0 : Int)), (((0 : Int)), (((1 : Int)), (x0, (x1, x2))))))
def a0C : TEnt := ⟨40, .agg Y8_, [], [(.agg uJ, [])], fun s => kQ s.1 s.2.1 s.2.2⟩
theorem yf : qK Try.prog a0C := eo0 _ tn (fun s => by kernel_rfl) (by kernel_rfl)
def yI (x0 : Int) (x1 : Int) (x2 : Int) (x3 : Int) : Option (a7e × Bool) :=
 (wF x0).bind fun x4 =>
 bif decide (x4 < 1) then
 some ((((0 : Int)), (((0 : Int)), (((0 : Int)), (((0 : Int)), (((0 : Int)), (((0 : Int)), ((0 : Int)))))))), false)
 else some ((x0, (((0 : Int)), (((0 : Int)), ((IntKind.u8.wrap x4), (x1, (x2, x3)))))), true)
def aaT : TEnt := ⟨108, .cons (.int .i32) (.agg Y8_), [], [(.tup (.cons (.agg uJ) .bool), [])], fun s => yI s.1 s.2.1 s.2.2.1 s.2.2.2⟩
theorem a2o : qK Try.prog aaT := eo0 _ (tc QC tn) (fun s => by kernel_rfl) (by kernel_rfl)
def y3 (x0 : Int) (x1 : Int) (x2 : Int) (x3 : Int) (x4 : Int) (x5 : Int) (x6 : Int) : Option a7e :=
 some (((0 : Int)), (((0 : Int)), (((0 : Int)), (((0 : Int)), (x4, (x5, x6))))))
def a5j : TEnt := ⟨81, .agg uJ, [], [(.agg uJ, [])], fun s => y3 s.1 s.2.1 s.2.2.1 s.2.2.2.1 s.2.2.2.2.1 s.2.2.2.2.2.1 s.2.2.2.2.2.2⟩
theorem KQ : qK Try.prog a5j := eo0 _ tn (fun s => by kernel_rfl) (by kernel_rfl)
set_option maxHeartbeats 4000000
def inR : List Int → Int → Bool
 | a :: b :: l, r => (decide (a ≤ r) && decide (r ≤ b)) || inR l r
 | _, _ => false
def VV : List Int := [768, 879, 8203, 8207, 8400, 8447, 65024, 65039, 65056, 65071]
def Kf : List Int := [4352, 4447, 11904, 12350, 12353, 42191, 44032, 55203, 63744, 64255, 65072, 65135, 65280, 65376, 65504, 65510, 127744, 128591, 129280, 129535, 131072, 262141]
def V8 (r : Int) : Bool := (decide (0 ≤ r) && decide (r < 55296)) || (decide (57343 < r) && decide (r ≤ 1114111))
def zj (r : Int) : Int := if r < 32 ∨ (127 ≤ r ∧ r ≤ 159) then -1 else if V8 r = true then (if inR VV r = true then 0 else if inR Kf r = true then 2 else 1) else -1
theorem a9W (r : Int) : wq r = some (V8 r) := by
 unfold wq V8
 by_cases h1 : 0 ≤ r <;> by_cases h2 : r < 55296 <;> by_cases h3 : 57343 < r <;> simp [h1, h2, h3]
theorem yd (a b : Int) : qp (a, b) = unr (qz a b) qp := J9 _ _
theorem vi (a b : Int) : qI (a, b) = unr (z5 a b) qI := J9 _ _
theorem aix (r : Int) : qp (0, r) = if (decide ((4352 : Int) ≤ r) && decide (r ≤ 4447)) = true then some 2 else qp (1, r) := by
 rw [yd]
 unfold qz
 by_cases h1 : (4352 : Int) ≤ r
 ·by_cases h2 : r ≤ 4447
  ·simp (disch := omega) only [q8, qn, qt, qc, qg, qk, qm, jg]
   simp []
  ·simp (disch := omega) only [q8, qn, qt, qc, qg, qk, qm, zE]
   simp []
 ·simp (disch := omega) only [q8, qn, qt, qc, qg, qk, qm, zE]
  simp []
theorem aiS (r : Int) : qp (1, r) = if (decide ((11904 : Int) ≤ r) && decide (r ≤ 12350)) = true then some 2 else qp (2, r) := by
 rw [yd]
 unfold qz
 by_cases h1 : (11904 : Int) ≤ r
 ·by_cases h2 : r ≤ 12350
  ·simp (disch := omega) only [q8, qn, qt, qc, qg, qk, qm, jg]
   simp []
  ·simp (disch := omega) only [q8, qn, qt, qc, qg, qk, qm, zE]
   simp []
 ·simp (disch := omega) only [q8, qn, qt, qc, qg, qk, qm, zE]
  simp []
theorem aiE (r : Int) : qp (2, r) = if (decide ((12353 : Int) ≤ r) && decide (r ≤ 42191)) = true then some 2 else qp (3, r) := by
 rw [yd]
 unfold qz
 by_cases h1 : (12353 : Int) ≤ r
 ·by_cases h2 : r ≤ 42191
  ·simp (disch := omega) only [q8, qn, qt, qc, qg, qk, qm, jg]
   simp []
  ·simp (disch := omega) only [q8, qn, qt, qc, qg, qk, qm, zE]
   simp []
 ·simp (disch := omega) only [q8, qn, qt, qc, qg, qk, qm, zE]
  simp []
theorem aiz (r : Int) : qp (3, r) = if (decide ((44032 : Int) ≤ r) && decide (r ≤ 55203)) = true then some 2 else qp (4, r) := by
 rw [yd]
 unfold qz
 by_cases h1 : (44032 : Int) ≤ r
 ·by_cases h2 : r ≤ 55203
  ·simp (disch := omega) only [q8, qn, qt, qc, qg, qk, qm, jg]
   simp []
  ·simp (disch := omega) only [q8, qn, qt, qc, qg, qk, qm, zE]
   simp []
 ·simp (disch := omega) only [q8, qn, qt, qc, qg, qk, qm, zE]
  simp []
theorem aiH (r : Int) : qp (4, r) = if (decide ((63744 : Int) ≤ r) && decide (r ≤ 64255)) = true then some 2 else qp (5, r) := by
 rw [yd]
 unfold qz
 by_cases h1 : (63744 : Int) ≤ r
 ·by_cases h2 : r ≤ 64255
  ·simp (disch := omega) only [q8, qn, qt, qc, qg, qk, qm, jg]
   simp []
  ·simp (disch := omega) only [q8, qn, qt, qc, qg, qk, qm, zE]
   simp []
 ·simp (disch := omega) only [q8, qn, qt, qc, qg, qk, qm, zE]
  simp []
theorem aiF (r : Int) : qp (5, r) = if (decide ((65072 : Int) ≤ r) && decide (r ≤ 65135)) = true then some 2 else qp (6, r) := by
 rw [yd]
 unfold qz
 by_cases h1 : (65072 : Int) ≤ r
 ·by_cases h2 : r ≤ 65135
  ·simp (disch := omega) only [q8, qn, qt, qc, qg, qk, qm, jg]
   simp []
  ·simp (disch := omega) only [q8, qn, qt, qc, qg, qk, qm, zE]
   simp []
 ·simp (disch := omega) only [q8, qn, qt, qc, qg, qk, qm, zE]
  simp []
theorem aie (r : Int) : qp (6, r) = if (decide ((65280 : Int) ≤ r) && decide (r ≤ 65376)) = true then some 2 else qp (7, r) := by
 rw [yd]
 unfold qz
 by_cases h1 : (65280 : Int) ≤ r
 ·by_cases h2 : r ≤ 65376
  ·simp (disch := omega) only [q8, qn, qt, qc, qg, qk, qm, jg]
   simp []
  ·simp (disch := omega) only [q8, qn, qt, qc, qg, qk, qm, zE]
   simp []
 ·simp (disch := omega) only [q8, qn, qt, qc, qg, qk, qm, zE]
  simp []
theorem aiV (r : Int) : qp (7, r) = if (decide ((65504 : Int) ≤ r) && decide (r ≤ 65510)) = true then some 2 else qp (8, r) := by
 rw [yd]
 unfold qz
 by_cases h1 : (65504 : Int) ≤ r
 ·by_cases h2 : r ≤ 65510
  ·simp (disch := omega) only [q8, qn, qt, qc, qg, qk, qm, jg]
   simp []
  ·simp (disch := omega) only [q8, qn, qt, qc, qg, qk, qm, zE]
   simp []
 ·simp (disch := omega) only [q8, qn, qt, qc, qg, qk, qm, zE]
  simp []
theorem aio (r : Int) : qp (8, r) = if (decide ((127744 : Int) ≤ r) && decide (r ≤ 128591)) = true then some 2 else qp (9, r) := by
 rw [yd]
 unfold qz
 by_cases h1 : (127744 : Int) ≤ r
 ·by_cases h2 : r ≤ 128591
  ·simp (disch := omega) only [q8, qn, qt, qc, qg, qk, qm, jg]
   simp []
  ·simp (disch := omega) only [q8, qn, qt, qc, qg, qk, qm, zE]
   simp []
 ·simp (disch := omega) only [q8, qn, qt, qc, qg, qk, qm, zE]
  simp []
theorem aiG (r : Int) : qp (9, r) = if (decide ((129280 : Int) ≤ r) && decide (r ≤ 129535)) = true then some 2 else qp (10, r) := by
 rw [yd]
 unfold qz
 by_cases h1 : (129280 : Int) ≤ r
 ·by_cases h2 : r ≤ 129535
  ·simp (disch := omega) only [q8, qn, qt, qc, qg, qk, qm, jg]
   simp []
  ·simp (disch := omega) only [q8, qn, qt, qc, qg, qk, qm, zE]
   simp []
 ·simp (disch := omega) only [q8, qn, qt, qc, qg, qk, qm, zE]
  simp []
theorem ahO (r : Int) : qp (10, r) = if (decide ((131072 : Int) ≤ r) && decide (r ≤ 262141)) = true then some 2 else qp (11, r) := by
 rw [yd]
 unfold qz
 by_cases h1 : (131072 : Int) ≤ r
 ·by_cases h2 : r ≤ 262141
  ·simp (disch := omega) only [q8, qn, qt, qc, qg, qk, qm, jg]
   simp []
  ·simp (disch := omega) only [q8, qn, qt, qc, qg, qk, qm, zE]
   simp []
 ·simp (disch := omega) only [q8, qn, qt, qc, qg, qk, qm, zE]
  simp []
theorem air (r : Int) : qI (0, r) = if (decide ((768 : Int) ≤ r) && decide (r ≤ 879)) = true then some 0 else qI (1, r) := by
 rw [vi]
 unfold z5
 by_cases h1 : (768 : Int) ≤ r
 ·by_cases h2 : r ≤ 879
  ·simp (disch := omega) only [q8, qn, qt, qc, qg, qk, qm, jg]
   simp []
  ·simp (disch := omega) only [q8, qn, qt, qc, qg, qk, qm, zE]
   simp []
 ·simp (disch := omega) only [q8, qn, qt, qc, qg, qk, qm, zE]
  simp []
theorem ail (r : Int) : qI (1, r) = if (decide ((8203 : Int) ≤ r) && decide (r ≤ 8207)) = true then some 0 else qI (2, r) := by
 rw [vi]
 unfold z5
 by_cases h1 : (8203 : Int) ≤ r
 ·by_cases h2 : r ≤ 8207
  ·simp (disch := omega) only [q8, qn, qt, qc, qg, qk, qm, jg]
   simp []
  ·simp (disch := omega) only [q8, qn, qt, qc, qg, qk, qm, zE]
   simp []
 ·simp (disch := omega) only [q8, qn, qt, qc, qg, qk, qm, zE]
  simp []
theorem aid (r : Int) : qI (2, r) = if (decide ((8400 : Int) ≤ r) && decide (r ≤ 8447)) = true then some 0 else qI (3, r) := by
 rw [vi]
 unfold z5
 by_cases h1 : (8400 : Int) ≤ r
 ·by_cases h2 : r ≤ 8447
  ·simp (disch := omega) only [q8, qn, qt, qc, qg, qk, qm, jg]
   simp []
  ·simp (disch := omega) only [q8, qn, qt, qc, qg, qk, qm, zE]
   simp []
 ·simp (disch := omega) only [q8, qn, qt, qc, qg, qk, qm, zE]
  simp []
theorem aiZ (r : Int) : qI (3, r) = if (decide ((65024 : Int) ≤ r) && decide (r ≤ 65039)) = true then some 0 else qI (4, r) := by
 rw [vi]
 unfold z5
 by_cases h1 : (65024 : Int) ≤ r
 ·by_cases h2 : r ≤ 65039
  ·simp (disch := omega) only [q8, qn, qt, qc, qg, qk, qm, jg]
   simp []
  ·simp (disch := omega) only [q8, qn, qt, qc, qg, qk, qm, zE]
   simp []
 ·simp (disch := omega) only [q8, qn, qt, qc, qg, qk, qm, zE]
  simp []
theorem aiA (r : Int) : qI (4, r) = if (decide ((65056 : Int) ≤ r) && decide (r ≤ 65071)) = true then some 0 else qI (5, r) := by
 rw [vi]
 unfold z5
 by_cases h1 : (65056 : Int) ≤ r
 ·by_cases h2 : r ≤ 65071
  ·simp (disch := omega) only [q8, qn, qt, qc, qg, qk, qm, jg]
   simp []
  ·simp (disch := omega) only [q8, qn, qt, qc, qg, qk, qm, zE]
   simp []
 ·simp (disch := omega) only [q8, qn, qt, qc, qg, qk, qm, zE]
  simp []
theorem agu (r : Int) : qp (11, r) = some 1 := by
 rw [yd]
 unfold qz
 simp (disch := omega) only [q8, qt, qc, qk, jg]
theorem aeH (r : Int) : qp (0, r) = some (if inR Kf r = true then 2 else 1) := by
 unfold Kf
 rw [aix, aiS, aiE, aiz, aiH, aiF, aie, aiV, aio, aiG, ahO, agu]
 simp only [q8, inR, Bool.or_false]
 repeat' split
 all_goals first | (simp_all; done) | (exfalso; simp only [q8, Bool.or_eq_true, Bool.and_eq_true, decide_eq_true_eq] at *; omega)
theorem afL (r : Int) : qI (5, r) = some (if inR Kf r = true then 2 else 1) := by
 rw [vi]
 unfold z5
 simp (disch := omega) only [q8, qt, qc, qk, qw, jg, aeH]
theorem afZ (r : Int) : qI (0, r) = some (if inR VV r = true then 0 else if inR Kf r = true then 2 else 1) := by
 unfold VV
 rw [air, ail, aid, aiZ, aiA, afL]
 generalize (if inR Kf r = true then (2 : Int) else 1) = q
 simp only [q8, inR, Bool.or_false]
 repeat' split
 all_goals first | (simp_all; done) | (exfalso; simp only [q8, Bool.or_eq_true, Bool.and_eq_true, decide_eq_true_eq] at *; omega)
theorem X9 (r : Int) : wF r = some (zj r) := by
 unfold wF zj
 rw [a9W, afZ]
 by_cases h1 : r < 32
 ·simp [h1]
 ·by_cases h2 : 127 ≤ r
  ·by_cases h3 : r ≤ 159
   ·simp [h1, h2, h3]
   ·cases h4 : V8 r <;> simp [h1, h2, h3]
  ·cases h4 : V8 r <;> simp [h1, h2]
theorem YH (r : Int) : zT r = some (zj r == 0) := by unfold zT; rw [X9]; rfl
theorem vk (r : Int) : zj r = -1 ∨ zj r = 0 ∨ zj r = 1 ∨ zj r = 2 := by
 unfold zj
 repeat' split
 all_goals simp
set_option maxHeartbeats 0
open Go.Proofs
def k8 (x0 : Int) : Option Bool :=
 some (x0 == 0)
def XQ : TEnt := ⟨79, .int .i32, [], [(.bool, [])], fun s => k8 s⟩
theorem Y2 : qK Try.prog XQ := eo0 _ tn (fun s => by kernel_rfl) (by kernel_rfl)
def ju (x0 : Int) : Option Bool :=
 (zT x0).bind fun x1 =>
 some !x1
def u9 : TEnt := ⟨85, .int .i32, [], [(.bool, [])], fun s => ju s⟩
theorem WY : qK Try.prog u9 := eo0 _ (tc yj tn) (fun s => by kernel_rfl) (by kernel_rfl)
def yn (x0 : Int) (x1 : Int) (x2 : Int) (x3 : Int) (x4 : Int) (x5 : Int) (x6 : Int) : Option Bool :=
 (w6 x4 x5 x6).bind fun x7 =>
 bif !x7 then
 some false
 else bif x3 == 0 then
 (y3 x0 x1 x2 x3 x4 x5 x6).bind fun x8 =>
 some (x0 == x8.1 && (x1 == x8.2.1 && (x2 == x8.2.2.1 && true) && (x3 == x8.2.2.2.1 && (x4 == x8.2.2.2.2.1 && (x5 == x8.2.2.2.2.2.1 && (x6 == x8.2.2.2.2.2.2 && true)) && true))))
 else bif decide (2 < x3) then
 some false
 else (wF x0).bind fun x8 =>
 bif x8 != IntKind.i64.wrap x3 then
 some false
 else (k8 x1).bind fun x9 =>
 bif x9 then
 (k8 x1).bind fun x10 =>
 bif !x10 then
 some false
 else (k8 x2).bind fun x11 =>
 bif !x11 then
 some false
 else some true
 else (k8 x2).bind fun x10 =>
 bif x10 then
 (ju x1).bind fun x11 =>
 bif x11 then
 some false
 else (k8 x2).bind fun x12 =>
 bif !x12 then
 some false
 else some true
 else (ju x1).bind fun x11 =>
 bif x11 then
 some false
 else (ju x2).bind fun x12 =>
 bif x12 then
 some false
 else some true
def a2z : TEnt := ⟨51, .agg uJ, [], [(.bool, [])], fun s => yn s.1 s.2.1 s.2.2.1 s.2.2.2.1 s.2.2.2.2.1 s.2.2.2.2.2.1 s.2.2.2.2.2.2⟩
theorem Vw : qK Try.prog a2z := eo0 _ (tc QC (tc yZ (tc KQ (tc Y2 (tc WY tn))))) (fun s => by kernel_rfl) (by kernel_rfl)
def kr (x0 : a7e) (x1 : Int) : Option (a7e × Bool) :=
 bif 0 == x0.2.1 then
 (zT x1).bind fun x2 =>
 bif !x2 then
 some (x0, false)
 else bif x0.2.2.2.1 != 1 then
 bif x0.2.2.2.1 != 2 then
 some (x0, false)
 else some ((x0.1, (x1, x0.2.2)), true)
 else some ((x0.1, (x1, x0.2.2)), true)
 else bif 0 == x0.2.2.1 then
 (zT x1).bind fun x2 =>
 bif !x2 then
 some (x0, false)
 else bif x0.2.2.2.1 != 1 then
 bif x0.2.2.2.1 != 2 then
 some (x0, false)
 else some ((x0.1, (x0.2.1, (x1, x0.2.2.2))), true)
 else some ((x0.1, (x0.2.1, (x1, x0.2.2.2))), true)
 else some (x0, false)
def a42 : TEnt := ⟨163, .cons (.agg uJ) (.int .i32), [], [(.tup (.cons (.agg uJ) .bool), [])], fun s => kr s.1 s.2⟩
theorem xj : qK Try.prog a42 := eo0 _ (tc yj tn) (fun s => by kernel_rfl) (by kernel_rfl)
set_option maxHeartbeats 4000000
abbrev qf : Type := Int × ((Int × Int) × (Int × Y4_))
def Zi (n : Int) : Prop := -2147483648 ≤ n ∧ n < 2147483648
def u8r (n : Int) : Prop := 0 ≤ n ∧ n < 256
structure OkC (c : qf) : Prop where
 r : Zi c.1
 m1 : Zi c.2.1.1
 m2 : Zi c.2.1.2
 w : u8r c.2.2.1
 p1 : u8r c.2.2.2.1
 p2 : u8r c.2.2.2.2.1
 p3 : u8r c.2.2.2.2.2
def K8 (a b c : Int) : Bool := decide (a < 32) && (decide (b < 17) && decide (c < 17))
theorem xf (a b c : Int) : w6 a b c = some (K8 a b c) := by
 unfold w6 K8
 by_cases h1 : a < 32 <;> by_cases h2 : b < 17 <;> by_cases h3 : c < 17 <;> simp [h1, h2, h3]
def zU (c : qf) : Bool := K8 c.2.2.2.1 c.2.2.2.2.1 c.2.2.2.2.2 && (if c.2.2.1 = 0 then (c.1 == 0 && (c.2.1.1 == 0 && c.2.1.2 == 0)) else decide (c.2.2.1 ≤ 2) && (zj c.1 == c.2.2.1 && (if c.2.1.1 = 0 then c.2.1.2 == 0 else zj c.2.1.1 == 0 && (c.2.1.2 == 0 || zj c.2.1.2 == 0))))
theorem a6i {c : qf} (h : OkC c) : yn c.1 c.2.1.1 c.2.1.2 c.2.2.1 c.2.2.2.1 c.2.2.2.2.1 c.2.2.2.2.2 = some (zU c) := by
 obtain ⟨r, ⟨m1, m2⟩, w, p1, p2, p3⟩ := c
 have hw := h.w
 simp only [q8, u8r] at hw
 unfold yn zU
 simp only [q8, xf, X9, y3, k8, ju, YH, qw, bne, a0P, qc (n := w) (by omega) (by omega)]
 cases hp : K8 p1 p2 p3
 ·simp
 ·by_cases h0 : w = 0
  ·subst h0; simp []
  ·by_cases h2 : w ≤ 2
   ·have h2' : ¬ 2 < w := by omega
    by_cases h3 : zj r = w
    ·by_cases h4 : m1 = 0
     ·by_cases h5 : m2 = 0 <;> simp [h0, h2, h2', h3, h4, h5]
     ·by_cases h5 : m2 = 0
      ·by_cases h6 : zj m1 = 0 <;> simp [h0, h2, h2', h3, h4, h5, h6]
      ·by_cases h6 : zj m1 = 0 <;> by_cases h7 : zj m2 = 0 <;> simp [h0, h2, h2', h3, h4, h5, h6, h7]
    ·simp [h0, h2, h2', h3]
   ·have h2' : 2 < w := by omega
    simp [h0, h2, h2']
theorem aik : zj 0 = -1 := by simp [zj]
def ofC (r p1 p2 p3 : Int) : qf × Bool := if zj r < 1 then ((0, (0, 0), 0, 0, 0, 0), false) else ((r, (0, 0), zj r, p1, p2, p3), true)
def Vm (c : qf) : Int × (Int × (Int × (Int × Y4_))) := (c.1, c.2.1.1, c.2.1.2, c.2.2.1, c.2.2.2.1, c.2.2.2.2.1, c.2.2.2.2.2)
theorem a9k (r p1 p2 p3 : Int) : yI r p1 p2 p3 = some (Vm (ofC r p1 p2 p3).1, (ofC r p1 p2 p3).2) := by
 unfold yI ofC
 rw [X9]
 rcases vk r with h | h | h | h
 ·simp [h, Vm]
 ·simp [h, Vm]
 ·have : IntKind.u8.wrap 1 = 1 := QU (by omega) (by omega)
  simp [h, Vm, this]
 ·have : IntKind.u8.wrap 2 = 2 := QU (by omega) (by omega)
  simp [h, Vm, this]
def yl (c : qf) (m : Int) : qf × Bool :=
 if zj m = 0 ∧ (c.2.2.1 = 1 ∨ c.2.2.1 = 2) then
  (if c.2.1.1 = 0 then ((c.1, (m, c.2.1.2), c.2.2), true) else if c.2.1.2 = 0 then ((c.1, (c.2.1.1, m), c.2.2), true) else (c, false))
 else (c, false)
theorem VZ (c : qf) (m : Int) : kr (Vm c) m = some (Vm (yl c m).1, (yl c m).2) := by
 obtain ⟨r, ⟨m1, m2⟩, w, p1, p2, p3⟩ := c
 unfold kr yl Vm
 simp only [q8, YH, qw, bne, a0P, eq_comm (a := (0 : Int))]
 by_cases h1 : zj m = 0
 ·by_cases h2 : w = 1
  ·by_cases h3 : m1 = 0 <;> by_cases h4 : m2 = 0 <;> simp [h1, h2, h3, h4]
  ·by_cases h2b : w = 2
   ·by_cases h3 : m1 = 0 <;> by_cases h4 : m2 = 0 <;> simp [h1, h2b, h3, h4]
   ·by_cases h3 : m1 = 0 <;> by_cases h4 : m2 = 0 <;> simp [h1, h2, h2b, h3, h4]
 ·by_cases h3 : m1 = 0 <;> by_cases h4 : m2 = 0 <;> simp [h1, h3, h4]
set_option maxHeartbeats 0
open Go.Proofs
def zk (x0 : Y1_) : Option Y1_ :=
 bif decide (x0.length = (0 : Nat)) then
 Go.Sim.bothM (
 some []) (
 bif decide ((0 : Nat) = (0 : Nat) ∧ (0 : Nat) + x0.length ≤ (8796093022208 : Nat)) then
 bif decide ((0 : Nat) + x0.length = ([] ++ x0).length) then
 some ([] ++ x0)
 else none
 else none)
 else bif decide ((0 : Nat) = (0 : Nat) ∧ (0 : Nat) + x0.length ≤ (8796093022208 : Nat)) then
 bif decide ((0 : Nat) + x0.length = ([] ++ x0).length) then
 some ([] ++ x0)
 else none
 else none
def uV : TEnt := ⟨120, .sl Y2_, [], [(.own 0, [.li Y2_ 34 false])], fun s => zk s⟩
theorem wP : qK Try.prog uV := eo0 _ tn (fun s => by kernel_rfl) (by kernel_rfl)
def wU (x0 : Int) : Option Int :=
 some (if (512 : Int) < if (0 : Int) > x0 then (0 : Int) else x0 then (512 : Int) else if (0 : Int) > x0 then (0 : Int) else x0)
def Um : TEnt := ⟨134, .int .i64, [], [(.int .i64, [])], fun s => wU s⟩
theorem YA : qK Try.prog Um := eo0 _ tn (fun s => by kernel_rfl) (by kernel_rfl)
def zD (x4 : (Int × Int)) (x5 : Y4_) (x6 : Y1_) : Option (((Int × Int) × (Y4_ × Y1_)) ⊕ Y1_) :=
 bif decide (x4.2 < x4.1) then
 (kQ x5.1 x5.2.1 x5.2.2).bind fun x7 =>
 bif decide ((1 : Nat) = (1 : Nat)) then
 bif decide (x6.length = x6.length ∧ x6.length + (1 : Nat) ≤ (8796093022208 : Nat)) then
 bif decide (x6.length + (1 : Nat) = (x6 ++ [(x7.1, (x7.2.1, x7.2.2.1), x7.2.2.2.1, x7.2.2.2.2.1, x7.2.2.2.2.2.1, x7.2.2.2.2.2.2)]).length) then
 some (Sum.inl ((x4.1, (IntKind.i64.wrap (x4.2 + (1 : Int)))), (x5, (x6 ++ [(x7.1, (x7.2.1, x7.2.2.1), x7.2.2.2.1, x7.2.2.2.2.1, x7.2.2.2.2.2.1, x7.2.2.2.2.2.2)]))))
 else none
 else none
 else none
 else kk x6 (some (Sum.inr x6))
def Zd : ((Int × Int) × (Y4_ × Y1_)) → Option Y1_ := zO fun s => zD s.1 s.2.1 s.2.2
def jL (x0 : Int) (x1 : Int) (x2 : Int) (x3 : Int) : Option Y1_ :=
 (Zd ((x0, ((0 : Int))), ((x1, (x2, x3)), []))).bind fun x4 =>
 some x4
def Uy : TEnt := ⟨133, .cons (.int .i64) (.agg Y8_), [], [(.sl Y2_, [])], fun s => jL s.1 s.2.1 s.2.2.1 s.2.2.2⟩
theorem QW : qK Try.prog Uy := kT (loops := [(4682, [3, 5, 6, 7], (.cons (.ptr 0 0) (.cons (.own 1) JF)), [.st Y8_, .li Y2_ 34 false])]) (joins := []) (un := []) _ (tc yf tn) (fun s => by kernel_rfl) (by kernel_rfl)
def Q2 (x0 : Int) : Option Y1_ :=
 (wU x0).bind fun x1 =>
 (jL x1 (0 : Int) (0 : Int) (0 : Int)).bind fun x2 =>
 some x2
def a7u : TEnt := ⟨96, .int .i64, [], [(.sl Y2_, [])], fun s => Q2 s⟩
theorem JU : qK Try.prog a7u := eo0 _ (tc YA (tc QW tn)) (fun s => by kernel_rfl) (by kernel_rfl)
def Xm (x0 : Int) (x1 : Int) : Option Bool :=
 bif decide (0 ≤ x0) then
 none
 else some false
def Xw : TEnt := ⟨173, .cons (.int .i64) (.int .u8), [], [(.bool, [])], fun s => Xm s.1 s.2⟩
theorem WU : qK Try.prog Xw := eo0 _ tn (fun s => by kernel_rfl) (by kernel_rfl)
def yB (x0 : Y1_) (x1 : Int) : Option Bool :=
 bif decide (0 ≤ x1) then
 bif decide (x1 < (↑(List.length x0) : Int)) then
 bif decide (0 ≤ x1) then
 (x0[x1.toNat]?).bind fun x2 =>
 bif x2.2.2.1 == 2 then
 bif decide ((0 : Int) ≤ IntKind.i64.wrap (x1 + (1 : Int))) then
 bif decide (IntKind.i64.wrap (x1 + (1 : Int)) < (↑(List.length x0) : Int)) then
 bif decide ((0 : Int) ≤ IntKind.i64.wrap (x1 + (1 : Int))) then
 (x0[(IntKind.i64.wrap (x1 + (1 : Int))).toNat]?).bind fun x3 =>
 bif !x3.2.2.1 == 0 then
 some true
 else bif decide (0 ≤ x1) then
 bif decide (x1 < (↑(List.length x0) : Int)) then
 bif decide (0 ≤ x1) then
 (x0[x1.toNat]?).bind fun x4 =>
 bif x4.2.2.1 == 0 then
 bif decide ((0 : Int) ≤ IntKind.i64.wrap (x1 - (1 : Int))) then
 bif decide (IntKind.i64.wrap (x1 - (1 : Int)) < (↑(List.length x0) : Int)) then
 bif decide ((0 : Int) ≤ IntKind.i64.wrap (x1 - (1 : Int))) then
 (x0[(IntKind.i64.wrap (x1 - (1 : Int))).toNat]?).bind fun x5 =>
 some (!x5.2.2.1 == 2)
 else none
 else some true
 else some true
 else some false
 else none
 else some false
 else some false
 else none
 else some true
 else some true
 else bif decide (0 ≤ x1) then
 bif decide (x1 < (↑(List.length x0) : Int)) then
 bif decide (0 ≤ x1) then
 (x0[x1.toNat]?).bind fun x3 =>
 bif x3.2.2.1 == 0 then
 bif decide ((0 : Int) ≤ IntKind.i64.wrap (x1 - (1 : Int))) then
 bif decide (IntKind.i64.wrap (x1 - (1 : Int)) < (↑(List.length x0) : Int)) then
 bif decide ((0 : Int) ≤ IntKind.i64.wrap (x1 - (1 : Int))) then
 (x0[(IntKind.i64.wrap (x1 - (1 : Int))).toNat]?).bind fun x4 =>
 some (!x4.2.2.1 == 2)
 else none
 else some true
 else some true
 else some false
 else none
 else some false
 else some false
 else none
 else bif decide (0 ≤ x1) then
 bif decide (x1 < (↑(List.length x0) : Int)) then
 bif decide (0 ≤ x1) then
 (x0[x1.toNat]?).bind fun x2 =>
 bif x2.2.2.1 == 0 then
 bif decide ((0 : Int) ≤ IntKind.i64.wrap (x1 - (1 : Int))) then
 bif decide (IntKind.i64.wrap (x1 - (1 : Int)) < (↑(List.length x0) : Int)) then
 bif decide ((0 : Int) ≤ IntKind.i64.wrap (x1 - (1 : Int))) then
 (x0[(IntKind.i64.wrap (x1 - (1 : Int))).toNat]?).bind fun x3 =>
 some (!x3.2.2.1 == 2)
 else none
 else some true
 else some true
 else some false
 else none
 else some false
 else some false
 else bif decide (0 ≤ x1) then
 bif decide (x1 < (↑(List.length x0) : Int)) then
 bif decide (0 ≤ x1) then
 (x0[x1.toNat]?).bind fun x2 =>
 bif x2.2.2.1 == 0 then
 bif decide ((0 : Int) ≤ IntKind.i64.wrap (x1 - (1 : Int))) then
 bif decide (IntKind.i64.wrap (x1 - (1 : Int)) < (↑(List.length x0) : Int)) then
 bif decide ((0 : Int) ≤ IntKind.i64.wrap (x1 - (1 : Int))) then
 (x0[(IntKind.i64.wrap (x1 - (1 : Int))).toNat]?).bind fun x3 =>
 some (!x3.2.2.1 == 2)
 else none
 else some true
 else some true
 else some false
 else none
 else some false
 else some false
def a10 : TEnt := ⟨166, .cons (.sl Y2_) (.int .i64), [], [(.bool, [])], fun s => yB s.1 s.2⟩
theorem Vy : qK Try.prog a10 := eo0 _ (tc WU tn) (fun s => by kernel_rfl) (by kernel_rfl)
def zq (x1 : (Y1_ × (Y1_ × (Int × Int)))) (x2 : Y1_) : Option (((Y1_ × (Y1_ × (Int × Int))) × Y1_) ⊕ Y1_) :=
 bif decide (x1.2.2.2 < x1.2.2.1) then
 bif decide (0 ≤ x1.2.2.2) then
 (x1.2.1[x1.2.2.2.toNat]?).bind fun x3 =>
 (yB x1.1 x1.2.2.2).bind fun x4 =>
 bif !x4 then
 kk x2 (some (Sum.inl ((x1.1, (x1.2.1, (x1.2.2.1, (IntKind.i64.wrap (x1.2.2.2 + (1 : Int)))))), x2)))
 else (kQ x3.2.2.2.1 x3.2.2.2.2.1 x3.2.2.2.2.2).bind fun x5 =>
 bif decide (0 ≤ x1.2.2.2) then
 bif decide (x1.2.2.2.toNat < x2.length ∧ x2.length = x2.length) then
 kk x2 ((x2[x1.2.2.2.toNat]?).bind fun x6 =>
 bif decide (x2.length = (x2.set x1.2.2.2.toNat (x5.1, (x5.2.1, x5.2.2.1), x5.2.2.2.1, x5.2.2.2.2.1, x5.2.2.2.2.2.1, x5.2.2.2.2.2.2)).length) then
 some (Sum.inl ((x1.1, (x1.2.1, (x1.2.2.1, (IntKind.i64.wrap (x1.2.2.2 + (1 : Int)))))), (x2.set x1.2.2.2.toNat (x5.1, (x5.2.1, x5.2.2.1), x5.2.2.2.1, x5.2.2.2.2.1, x5.2.2.2.2.2.1, x5.2.2.2.2.2.2))))
 else none)
 else none
 else none
 else none
 else kk x2 (some (Sum.inr x2))
def K9 : ((Y1_ × (Y1_ × (Int × Int))) × Y1_) → Option Y1_ := zO fun s => zq s.1 s.2
def jj (x0 : Y1_) : Option Y1_ :=
 bif decide (0 ≤ (↑x0.length : Int) ∧ (↑x0.length : Int) = (↑x0.length : Int) ∧ (↑x0.length : Int).toNat ≤ (8796093022208 : Nat)) then
 bif decide ((List.replicate (↑x0.length : Int).toNat ((0 : Int), ((0 : Int), (0 : Int)), (0 : Int), (0 : Int), (0 : Int), (0 : Int))).length = (↑x0.length : Int).toNat ∧ x0.length ≤ (↑x0.length : Int).toNat) then
 bif decide ((↑x0.length : Int).toNat = (x0 ++ List.drop x0.length (List.replicate (↑x0.length : Int).toNat ((0 : Int), ((0 : Int), (0 : Int)), (0 : Int), (0 : Int), (0 : Int), (0 : Int)))).length) then
 (K9 ((x0, (x0, (((↑x0.length : Int)), ((0 : Int))))), (x0 ++ List.drop x0.length (List.replicate (↑x0.length : Int).toNat ((0 : Int), ((0 : Int), (0 : Int)), (0 : Int), (0 : Int), (0 : Int), (0 : Int)))))).bind fun x1 =>
 some x1
 else none
 else none
 else none
def a3E : TEnt := ⟨150, .sl Y2_, [], [(.sl Y2_, [])], fun s => jj s⟩
theorem xr : qK Try.prog a3E := kT (loops := [(2429514, [0, 3, 12, 13, 14], (.cons (.sl Y2_) (.cons (.own 0) (.cons (.sl Y2_) JF))), [.li Y2_ 34 true])]) (joins := []) (un := []) _ (tc yf (tc Vy tn)) (fun s => by kernel_rfl) (by kernel_rfl)
def kL (x0 : Y1_) (x1 : Int) (x2 : Y1_) : Option Y1_ :=
 bif decide ((0 : Int) ≤ 0 ∧ 0 ≤ x1 ∧ x1 = x1 ∧ Int.toNat x1 ≤ List.length x0) then
 bif decide ((0 : Int) = x1) then
 bif decide ((0 : Nat) = (0 : Nat) ∧ (0 : Nat) + x2.length ≤ (8796093022208 : Nat)) then
 bif decide ((0 : Int) ≤ IntKind.i64.wrap (x1 + (↑x2.length : Int)) ∧ (IntKind.i64.wrap (x1 + (↑x2.length : Int))).toNat ≤ List.length x0) then
 bif decide (([] ++ x2).length = (0 : Nat) + x2.length ∧ (0 : Nat) + x2.length + (List.drop (IntKind.i64.wrap (x1 + (↑x2.length : Int))).toNat x0).length ≤ (8796093022208 : Nat)) then
 bif decide (([] ++ x2 ++ List.drop (IntKind.i64.wrap (x1 + (↑x2.length : Int))).toNat x0).length = (0 : Nat) + x2.length + (List.drop (IntKind.i64.wrap (x1 + (↑x2.length : Int))).toNat x0).length) then
 (jj ([] ++ x2 ++ List.drop (IntKind.i64.wrap (x1 + (↑x2.length : Int))).toNat x0)).bind fun x3 =>
 some x3
 else none
 else none
 else none
 else none
 else bif decide ((List.take (Int.toNat x1 - (0 : Nat)) (List.drop (0 : Nat) x0)).length + x2.length ≤ (8796093022208 : Nat)) then
 bif decide (x2.length = (0 : Nat)) then
 bif decide ((0 : Int) ≤ IntKind.i64.wrap (x1 + (↑x2.length : Int)) ∧ (IntKind.i64.wrap (x1 + (↑x2.length : Int))).toNat ≤ List.length x0) then
 bif decide ((List.take (Int.toNat x1 - (0 : Nat)) (List.drop (0 : Nat) x0)).length + (List.drop (IntKind.i64.wrap (x1 + (↑x2.length : Int))).toNat x0).length ≤ (8796093022208 : Nat)) then
 bif decide ((List.drop (IntKind.i64.wrap (x1 + (↑x2.length : Int))).toNat x0).length = (0 : Nat)) then
 (jj (List.take (Int.toNat x1 - (0 : Nat)) (List.drop (0 : Nat) x0))).bind fun x3 =>
 some x3
 else bif decide ((List.take (Int.toNat x1 - (0 : Nat)) (List.drop (0 : Nat) x0) ++ List.drop (IntKind.i64.wrap (x1 + (↑x2.length : Int))).toNat x0).length = (List.take (Int.toNat x1 - (0 : Nat)) (List.drop (0 : Nat) x0)).length + (List.drop (IntKind.i64.wrap (x1 + (↑x2.length : Int))).toNat x0).length) then
 (jj (List.take (Int.toNat x1 - (0 : Nat)) (List.drop (0 : Nat) x0) ++ List.drop (IntKind.i64.wrap (x1 + (↑x2.length : Int))).toNat x0)).bind fun x3 =>
 some x3
 else none
 else none
 else none
 else bif decide ((0 : Int) ≤ IntKind.i64.wrap (x1 + (↑x2.length : Int)) ∧ (IntKind.i64.wrap (x1 + (↑x2.length : Int))).toNat ≤ List.length x0) then
 bif decide ((List.take (Int.toNat x1 - (0 : Nat)) (List.drop (0 : Nat) x0) ++ x2).length = (List.take (Int.toNat x1 - (0 : Nat)) (List.drop (0 : Nat) x0)).length + x2.length ∧ (List.take (Int.toNat x1 - (0 : Nat)) (List.drop (0 : Nat) x0)).length + x2.length + (List.drop (IntKind.i64.wrap (x1 + (↑x2.length : Int))).toNat x0).length ≤ (8796093022208 : Nat)) then
 bif decide ((List.take (Int.toNat x1 - (0 : Nat)) (List.drop (0 : Nat) x0) ++ x2 ++ List.drop (IntKind.i64.wrap (x1 + (↑x2.length : Int))).toNat x0).length = (List.take (Int.toNat x1 - (0 : Nat)) (List.drop (0 : Nat) x0)).length + x2.length + (List.drop (IntKind.i64.wrap (x1 + (↑x2.length : Int))).toNat x0).length) then
 (jj (List.take (Int.toNat x1 - (0 : Nat)) (List.drop (0 : Nat) x0) ++ x2 ++ List.drop (IntKind.i64.wrap (x1 + (↑x2.length : Int))).toNat x0)).bind fun x3 =>
 some x3
 else none
 else none
 else none
 else none
 else none
def a57 : TEnt := ⟨164, .cons (.sl Y2_) (.cons (.int .i64) (.sl Y2_)), [], [(.sl Y2_, [])], fun s => kL s.1 s.2.1 s.2.2⟩
theorem KO : qK Try.prog a57 := eo0 _ (tc xr tn) (fun s => by kernel_rfl) (by kernel_rfl)
def ZI (x0 : Y1_) (x1 : Int) (x2 : Int) (x3 : Int) (x4 : Int) (x5 : Int) (x6 : Int) (x7 : Int) (x8 : Int) : Option (Y1_ × Bool) :=
 bif x5 == 0 then
 (zk x0).bind fun x9 =>
 kk x9 (some (x9, false))
 else (yn x2 x3 x4 x5 x6 x7 x8).bind fun x9 =>
 bif !x9 then
 (zk x0).bind fun x10 =>
 kk x10 (some (x10, false))
 else bif decide (x1 < 0) then
 (zk x0).bind fun x10 =>
 kk x10 (some (x10, false))
 else bif decide ((↑(List.length x0) : Int) ≤ x1) then
 (zk x0).bind fun x10 =>
 kk x10 (some (x10, false))
 else bif decide (IntKind.i64.wrap ((↑(List.length x0) : Int) - x1) < IntKind.i64.wrap x5) then
 (zk x0).bind fun x10 =>
 kk x10 (some (x10, false))
 else bif x5 == 2 then
 (y3 x2 x3 x4 x5 x6 x7 x8).bind fun x10 =>
 bif decide ((2 : Nat) = (2 : Nat)) then
 (kL x0 x1 [(x2, (x3, x4), x5, x6, x7, x8), (x10.1, (x10.2.1, x10.2.2.1), x10.2.2.2.1, x10.2.2.2.2.1, x10.2.2.2.2.2.1, x10.2.2.2.2.2.2)]).bind fun x11 =>
 some (x11, true)
 else none
 else bif decide ((1 : Nat) = (1 : Nat)) then
 (kL x0 x1 [(x2, (x3, x4), x5, x6, x7, x8)]).bind fun x10 =>
 some (x10, true)
 else none
def a6T : TEnt := ⟨147, .cons (.sl Y2_) (.cons (.int .i64) (.agg uJ)), [], [(.tup (.cons (.sl Y2_) .bool), [])], fun s => ZI s.1 s.2.1 s.2.2.1 s.2.2.2.1 s.2.2.2.2.1 s.2.2.2.2.2.1 s.2.2.2.2.2.2.1 s.2.2.2.2.2.2.2.1 s.2.2.2.2.2.2.2.2⟩
theorem uB : qK Try.prog a6T := eo0 _ (tc KQ (tc Vw (tc wP (tc KO tn)))) (fun s => by kernel_rfl) (by kernel_rfl)
def we (x0 : Y1_) (x1 : Int) (x2 : Int) (x3 : Int) (x4 : Int) (x5 : Int) : Option Y1_ :=
 (jL (if IntKind.i64.wrap ((if (↑(List.length x0) : Int) < if (0 : Int) > x2 then (0 : Int) else x2 then (↑(List.length x0) : Int) else if (0 : Int) > x2 then (0 : Int) else x2) - if (↑(List.length x0) : Int) < if (0 : Int) > x1 then (0 : Int) else x1 then (↑(List.length x0) : Int) else if (0 : Int) > x1 then (0 : Int) else x1) > 0 then IntKind.i64.wrap ((if (↑(List.length x0) : Int) < if (0 : Int) > x2 then (0 : Int) else x2 then (↑(List.length x0) : Int) else if (0 : Int) > x2 then (0 : Int) else x2) - if (↑(List.length x0) : Int) < if (0 : Int) > x1 then (0 : Int) else x1 then (↑(List.length x0) : Int) else if (0 : Int) > x1 then (0 : Int) else x1) else (0 : Int)) x3 x4 x5).bind fun x6 =>
 (kL x0 (if (↑(List.length x0) : Int) < if (0 : Int) > x1 then (0 : Int) else x1 then (↑(List.length x0) : Int) else if (0 : Int) > x1 then (0 : Int) else x1) x6).bind fun x7 =>
 some x7
def a1U : TEnt := ⟨162, .cons (.sl Y2_) (.cons (.int .i64) (.cons (.int .i64) (.agg Y8_))), [], [(.sl Y2_, [])], fun s => we s.1 s.2.1 s.2.2.1 s.2.2.2.1 s.2.2.2.2.1 s.2.2.2.2.2⟩
theorem ZV : qK Try.prog a1U := eo0 _ (tc QW (tc KO tn)) (fun s => by kernel_rfl) (by kernel_rfl)
def Qj (x0 : Y1_) (x1 : Int) (x2 : Int) : Option (Y1_ × Bool) :=
 (zk x0).bind fun x3 =>
 bif decide (x1 < 0) then
 kk x3 (some (x3, false))
 else bif decide ((↑(List.length x0) : Int) ≤ x1) then
 kk x3 (some (x3, false))
 else bif decide (0 ≤ x1) then
 (x0[Int.toNat x1]?).bind fun x4 =>
 bif x4.2.2.1 == 0 then
 bif decide (0 < x1) then
 bif decide ((0 : Int) ≤ IntKind.i64.wrap (x1 - (1 : Int))) then
 (x0[(IntKind.i64.wrap (x1 - (1 : Int))).toNat]?).bind fun x5 =>
 bif x5.2.2.1 == 2 then
 bif decide ((0 : Int) ≤ IntKind.i64.wrap (x1 - (1 : Int))) then
 (x0[(IntKind.i64.wrap (x1 - (1 : Int))).toNat]?).bind fun x6 =>
 (kr (x6.1, x6.2.1.1, x6.2.1.2, x6.2.2.1, x6.2.2.2.1, x6.2.2.2.2.1, x6.2.2.2.2.2) x2).bind fun x7 =>
 bif decide ((0 : Int) ≤ IntKind.i64.wrap (x1 - (1 : Int))) then
 bif decide ((IntKind.i64.wrap (x1 - (1 : Int))).toNat < List.length x3 ∧ List.length x3 = List.length x3) then
 kk x3 ((x3[(IntKind.i64.wrap (x1 - (1 : Int))).toNat]?).bind fun x8 =>
 bif decide ((List.set x3 (IntKind.i64.wrap (x1 - (1 : Int))).toNat (x7.1.1, (x7.1.2.1, x7.1.2.2.1), x7.1.2.2.2.1, x7.1.2.2.2.2.1, x7.1.2.2.2.2.2.1, x7.1.2.2.2.2.2.2)).length = List.length x3) then
 some ((List.set x3 (IntKind.i64.wrap (x1 - (1 : Int))).toNat (x7.1.1, (x7.1.2.1, x7.1.2.2.1), x7.1.2.2.2.1, x7.1.2.2.2.2.1, x7.1.2.2.2.2.2.1, x7.1.2.2.2.2.2.2)), x7.2)
 else none)
 else none
 else none
 else none
 else bif decide (0 ≤ x1) then
 (x0[Int.toNat x1]?).bind fun x6 =>
 (kr (x6.1, x6.2.1.1, x6.2.1.2, x6.2.2.1, x6.2.2.2.1, x6.2.2.2.2.1, x6.2.2.2.2.2) x2).bind fun x7 =>
 bif decide (0 ≤ x1) then
 bif decide (Int.toNat x1 < List.length x3 ∧ List.length x3 = List.length x3) then
 kk x3 ((x3[Int.toNat x1]?).bind fun x8 =>
 bif decide ((List.set x3 (Int.toNat x1) (x7.1.1, (x7.1.2.1, x7.1.2.2.1), x7.1.2.2.2.1, x7.1.2.2.2.2.1, x7.1.2.2.2.2.2.1, x7.1.2.2.2.2.2.2)).length = List.length x3) then
 some ((List.set x3 (Int.toNat x1) (x7.1.1, (x7.1.2.1, x7.1.2.2.1), x7.1.2.2.2.1, x7.1.2.2.2.2.1, x7.1.2.2.2.2.2.1, x7.1.2.2.2.2.2.2)), x7.2)
 else none)
 else none
 else none
 else none
 else none
 else bif decide (0 ≤ x1) then
 (x0[Int.toNat x1]?).bind fun x5 =>
 (kr (x5.1, x5.2.1.1, x5.2.1.2, x5.2.2.1, x5.2.2.2.1, x5.2.2.2.2.1, x5.2.2.2.2.2) x2).bind fun x6 =>
 bif decide (0 ≤ x1) then
 bif decide (Int.toNat x1 < List.length x3 ∧ List.length x3 = List.length x3) then
 kk x3 ((x3[Int.toNat x1]?).bind fun x7 =>
 bif decide ((List.set x3 (Int.toNat x1) (x6.1.1, (x6.1.2.1, x6.1.2.2.1), x6.1.2.2.2.1, x6.1.2.2.2.2.1, x6.1.2.2.2.2.2.1, x6.1.2.2.2.2.2.2)).length = List.length x3) then
 some ((List.set x3 (Int.toNat x1) (x6.1.1, (x6.1.2.1, x6.1.2.2.1), x6.1.2.2.2.1, x6.1.2.2.2.2.1, x6.1.2.2.2.2.2.1, x6.1.2.2.2.2.2.2)), x6.2)
 else none)
 else none
 else none
 else none
 else bif decide (0 ≤ x1) then
 (x0[Int.toNat x1]?).bind fun x5 =>
 (kr (x5.1, x5.2.1.1, x5.2.1.2, x5.2.2.1, x5.2.2.2.1, x5.2.2.2.2.1, x5.2.2.2.2.2) x2).bind fun x6 =>
 bif decide (0 ≤ x1) then
 bif decide (Int.toNat x1 < List.length x3 ∧ List.length x3 = List.length x3) then
 kk x3 ((x3[Int.toNat x1]?).bind fun x7 =>
 bif decide ((List.set x3 (Int.toNat x1) (x6.1.1, (x6.1.2.1, x6.1.2.2.1), x6.1.2.2.2.1, x6.1.2.2.2.2.1, x6.1.2.2.2.2.2.1, x6.1.2.2.2.2.2.2)).length = List.length x3) then
 some ((List.set x3 (Int.toNat x1) (x6.1.1, (x6.1.2.1, x6.1.2.2.1), x6.1.2.2.2.1, x6.1.2.2.2.2.1, x6.1.2.2.2.2.2.1, x6.1.2.2.2.2.2.2)), x6.2)
 else none)
 else none
 else none
 else none
 else none
def a4E : TEnt := ⟨144, .cons (.sl Y2_) (.cons (.int .i64) (.int .i32)), [], [(.tup (.cons (.sl Y2_) .bool), [])], fun s => Qj s.1 s.2.1 s.2.2⟩
theorem xx : qK Try.prog a4E := eo0 _ (tc xj (tc wP tn)) (fun s => by kernel_rfl) (by kernel_rfl)
set_option maxHeartbeats 4000000
theorem WB (l : List qf) (h : l.length ≤ 1000000) : zk l = some l := by
 unfold zk
 have e : ([] : List qf) ++ l = l := rfl
 by_cases h0 : l.length = 0
 ·have : l = [] := List.length_eq_zero_iff.1 h0
  subst this
  simp [Xh]
 ·simp only [q8, e]
  simp (disch := omega) only [q8, qn, qt, qg, qk, true_and]
def Yw (n : Int) : Nat := (if n < 0 then 0 else if 512 < n then 512 else n).toNat
theorem a94 (n : Int) : Yw n ≤ 512 := by unfold Yw; split <;> (try split) <;> omega
theorem abT (n : Int) : wU n = some (Yw n : Int) := by
 unfold wU Yw
 by_cases h1 : n < 0
 ·simp [h1]
 ·by_cases h2 : 512 < n
  ·have : ¬ (0 : Int) > n := by omega
   simp [h1, h2]
  ·have : ¬ (0 : Int) > n := by omega
   simp [h1, h2]; omega
def zi (a b c : Int) : qf := (32, (0, 0), 1, a, b, c)
theorem xd {α : Type} (i : Nat) (x : α) : List.replicate i x ++ [x] = List.replicate (i + 1) x := by rw [List.replicate_succ']
theorem a2Z (n : Nat) (hn : n ≤ 1000000) (a b c : Int) : Zd ((((n : Nat) : Int), (0 : Int)), (a, b, c), []) = some (List.replicate n (zi a b c)) := by
 refine jd (st := fun i => ((((n : Nat) : Int), ((i : Nat) : Int)), (a, b, c), List.replicate i (zi a b c))) (n := n) (fun i hi => ?_) ?_ 0 (by omega)
 ·show zD _ _ _ = _
  unfold zD
  simp only [q8, kQ]
  have e : ((i : Int) + 1) = ((i + 1 : Nat) : Int) := by omega
  have e2 : List.replicate i (zi a b c) ++ [((32 : Int), ((0 : Int), (0 : Int)), (1 : Int), a, b, c)] = List.replicate (i + 1) (zi a b c) := xd i _
  simp (disch := omega) only [q8, qn, qc, qg, qw, jf, y7, zQ, qm, true_and, List.length_replicate, e2, e]
 ·show zD _ _ _ = _
  unfold zD
  simp (disch := omega) only [q8, qt, qc, qg, qk, jf, y7, zQ, qm, true_and]
theorem vL (n : Nat) (hn : n ≤ 1000000) (a b c : Int) : jL (n : Int) a b c = some (List.replicate n (zi a b c)) := by
 unfold jL
 rw [a2Z n hn]
 rfl
def jO (n : Int) : List qf := List.replicate (Yw n) (zi 0 0 0)
theorem a0f (n : Int) : Q2 n = some (jO n) := by
 unfold Q2
 rw [abT]
 simp only [q8, qw]
 rw [vL _ (by have := a94 n; omega)]
 rfl
def ja (l : List qf) (i : Nat) : Bool := match l[i]? with
 | none => false
 | some c => if c.2.2.1 = 2 then (match l[i + 1]? with
   | some d => d.2.2.1 != 0
   | none => true)
  else if c.2.2.1 = 0 then (if i = 0 then true else match l[i - 1]? with
   | some d => d.2.2.1 != 2
   | none => true)
  else false
theorem X8 {l : List qf} (hl : l.length ≤ 1000000) {i : Nat} (hi : i < l.length) : yB l (i : Int) = some (ja l i) := by
 obtain ⟨c, hc⟩ := qS hi
 unfold yB ja
 simp only [q8, hc]
 have e1 : ((i : Int) + 1).toNat = i + 1 := by omega
 have e2 : ((i : Int) - 1).toNat = i - 1 := by omega
 by_cases h2 : c.2.2.1 = 2
 ·rw [if_pos h2]
  by_cases h3 : i + 1 < l.length
  ·obtain ⟨d, hd⟩ := qS h3
   simp only [q8, hd]
   by_cases h4 : d.2.2.1 = 0
   ·simp (disch := omega) only [q8, qn, zL, qY, afN, qc, qg, qk, qw, ze, jE, hc, hd, e1, e2, h4]
   ·simp (disch := omega) only [q8, qn, zL, qY, ag5, qc, qg, qk, qw, ze, K6, hc, hd, e1, e2]
  ·have hn : l[i + 1]? = none := List.getElem?_eq_none (by omega)
   simp only [q8, hn]
   simp (disch := omega) only [q8, qn, qt, zL, qY, qc, qg, qk, qw, ze, hc, e1, e2]
 ·rw [if_neg h2]
  by_cases h0 : c.2.2.1 = 0
  ·rw [if_pos h0]
   by_cases hi0 : i = 0
   ·subst hi0
    rw [if_pos rfl]
    simp (disch := omega) only [q8, qn, qt, zL, qY, qc, qg, qk, qw, ze, hc]
   ·rw [if_neg hi0]
    obtain ⟨d, hd⟩ := qS (l := l) (i := i - 1) (by omega)
    simp only [q8, hd]
    simp (disch := omega) only [q8, qn, zL, qY, qc, qg, qk, qw, ze, hc, hd, e1, e2]
    rfl
  ·rw [if_neg h0]
   simp (disch := omega) only [q8, qn, qY, qc, qg, qk, qw, ze, hc]
def Ym (l : List qf) (i : Nat) (c : qf) : qf := if ja l i = true then zi c.2.2.2.1 c.2.2.2.2.1 c.2.2.2.2.2 else c
def jA (l : List qf) : List qf := l.mapIdx (Ym l)
theorem kX (l : List qf) : (jA l).length = l.length := by simp [jA]
theorem Ys {l : List qf} {i : Nat} {c : qf} (h : l[i]? = some c) : (jA l)[i]? = some (Ym l i c) := by simp [jA, h]
theorem UF {l : List qf} {i : Nat} {c : qf} (h : l[i]? = some c) : (jA l).take i ++ [Ym l i c] = (jA l).take (i + 1) := (yE (Ys h)).symm
def jm (l : List qf) (i : Nat) : List qf := (jA l).take i ++ l.drop i
theorem uo {l : List qf} {i : Nat} (h : i ≤ l.length) : (jm l i).length = l.length := by
 simp only [q8, jm, jf, List.length_take, kX, List.length_drop]; omega
theorem a8B {l : List qf} {i : Nat} (h : i < l.length) : (jm l i)[i]? = l[i]? := by
 unfold jm
 rw [List.getElem?_append_right (by rw [List.length_take, kX]; omega), List.length_take, kX, List.getElem?_drop]
 congr 1; omega
theorem a7F {l : List qf} {i : Nat} {c : qf} (h : l[i]? = some c) : (jm l i).set i (Ym l i c) = jm l (i + 1) := by
 have hi : i < l.length := (List.getElem?_eq_some_iff.1 h).1
 unfold jm
 rw [← UF h, a9a h, List.set_append_right _ _ (by rw [List.length_take, kX]; omega), List.length_take, kX, show i - min i l.length = 0 by omega]
 simp
theorem a3A {l : List qf} {i : Nat} {c : qf} (h : l[i]? = some c) (ha : ja l i = false) : jm l i = jm l (i + 1) := by
 unfold jm
 rw [← UF h, a9a h]
 simp [Ym, ha]
theorem ab6 {l : List qf} (hl : l.length ≤ 1000000) : jj l = some (jA l) := by
 unfold jj
 have hdr : List.drop l.length (List.replicate l.length (((0 : Int), ((0 : Int), (0 : Int)), (0 : Int), (0 : Int), (0 : Int), (0 : Int)) : qf)) = [] := List.drop_eq_nil_of_le (by simp)
 have : K9 ((l, (l, ((l.length : Nat) : Int), (0 : Int))), l) = some (jA l) := by
  have h0 : l = jm l 0 := by simp [jm]
  have := jd (step := fun s => zq s.1 s.2) (st := fun i => ((l, (l, ((l.length : Nat) : Int), ((i : Nat) : Int))), jm l i)) (n := l.length) (t := jA l) (fun i hi => ?_) ?_ 0 (by omega)
  ·rw [← h0] at this; exact this
  ·obtain ⟨c, hc⟩ := qS hi
   have e : ((i : Int) + 1) = ((i + 1 : Nat) : Int) := by omega
   have ht := uo (l := l) (i := i) (by omega)
   have hg := (a8B hi).trans hc
   have e2 := a7F hc
   show zq _ _ = _
   unfold zq
   simp only [q8, kQ]
   unfold Ym at e2
   cases ha : ja l i
   ·simp (disch := omega) only [q8, qn, qc, qg, qw, ze, K6, qm, and_true, hc, X8 hl hi, ha, e]
    rw [a3A hc ha]
   ·rw [ha] at e2
    simp only [q8, if_true] at e2
    have e3 : (jm l i).set i ((32 : Int), ((0 : Int), (0 : Int)), (1 : Int), c.2.2.2.1, c.2.2.2.2.1, c.2.2.2.2.2) = jm l (i + 1) := e2
    have ht2 := uo (l := l) (i := i + 1) (by omega)
    simp (disch := omega) only [q8, qn, qc, qg, qk, qw, ze, jE, qm, and_true, hc, X8 hl hi, ha, ht, hg, e3, ht2, e]
  ·show zq _ _ = _
   unfold zq
   have ht : jm l l.length = jA l := by
    unfold jm
    rw [List.drop_eq_nil_of_le (Nat.le_refl _), List.append_nil]
    exact List.take_of_length_le (by rw [kX]; omega)
   simp (disch := omega) only [q8, qn, qt, qc, qg, qk, ze, qm, and_true, ht]
 simp only [q8, ze, hdr, List.append_nil]
 simp (disch := omega) only [q8, qn, qg, qm, true_and, List.length_replicate]
 rw [this]
 rfl
def KG (l : List qf) (k : Nat) (s : List qf) : List qf := l.take k ++ s ++ l.drop (k + s.length)
theorem a9R {l s : List qf} {k : Nat} (h : k + s.length ≤ l.length) : (KG l k s).length = l.length := by
 simp only [q8, KG, jf, List.length_take, List.length_drop]; omega
theorem vv {l s : List qf} {k : Nat} (hl : l.length ≤ 1000000) (h : k + s.length ≤ l.length) : kL l (k : Int) s = some (jA (KG l k s)) := by
 have hm := ab6 (l := KG l k s) (by rw [a9R h]; omega)
 unfold KG at hm ⊢
 unfold kL
 have w : IntKind.i64.wrap ((k : Int) + (s.length : Int)) = ((k + s.length : Nat) : Int) := by rw [qc (by omega) (by omega)]; omega
 simp only [q8, w, ze, Nat.sub_zero, List.drop_zero]
 by_cases h0 : k = 0
 ·subst h0
  simp only [q8, List.take_zero, List.nil_append] at hm ⊢
  simp (disch := omega) only [q8, qn, qg, qw, jf, zQ, true_and, List.length_drop, hm]
 ·by_cases hs : s.length = 0
  ·have : s = [] := List.length_eq_zero_iff.1 hs
   subst this
   simp only [q8, zQ, Nat.add_zero, List.append_nil] at hm ⊢
   by_cases hd : k = l.length
   ·have hd0 : List.drop k l = [] := List.drop_eq_nil_of_le (by omega)
    rw [hd0, List.append_nil] at hm
    simp (disch := omega) only [q8, qn, qt, qg, qk, qw, zQ, qm, true_and, List.length_take, hm, hd0, List.append_nil]
   ·simp (disch := omega) only [q8, qn, qt, qg, qk, qw, jf, zQ, qm, true_and, List.length_drop, List.length_take, hm]
  ·simp (disch := omega) only [q8, qn, qt, qg, qk, qw, jf, zQ, qm, true_and, List.length_drop, List.length_take, hm]
def KM (c : qf) : qf := (0, (0, 0), 0, c.2.2.2.1, c.2.2.2.2.1, c.2.2.2.2.2)
def a2H (l : List qf) (k : Nat) (c : qf) : List qf := if c.2.2.1 = 2 then (l.set k c).set (k + 1) (KM c) else l.set k c
theorem a3d (l : List qf) (k : Nat) (c : qf) : (a2H l k c).length = l.length := by unfold a2H; split <;> simp
def Qd (l : List qf) (k : Int) (c : qf) : List qf × Bool :=
 if c.2.2.1 ≠ 0 ∧ zU c = true ∧ 0 ≤ k ∧ k < l.length ∧ c.2.2.1 ≤ (l.length : Int) - k then (jA (a2H l k.toNat c), true) else (l, false)
theorem a8R {c : qf} (h : zU c = true) : c.2.2.1 ≤ 2 := by
 unfold zU at h
 simp only [q8, Bool.and_eq_true] at h
 have h2 := h.2
 split at h2
 ·omega
 ·simp only [q8, Bool.and_eq_true, decide_eq_true_eq] at h2; exact h2.1
theorem aj0 {l : List qf} {k : Nat} (c : qf) (h : k < l.length) : KG l k [c] = l.set k c := by
 unfold KG
 rw [List.set_eq_take_append_cons_drop, if_pos h]
 simp
theorem aiy {l : List qf} {k : Nat} (c d : qf) (h : k + 1 < l.length) : KG l k [c, d] = (l.set k c).set (k + 1) d := by
 refine List.ext_getElem? fun i => ?_
 unfold KG
 rw [List.getElem?_set, List.getElem?_set, List.length_set]
 by_cases h1 : i < k
 ·rw [if_neg (by omega), if_neg (by omega), List.append_assoc, List.getElem?_append_left (by rw [List.length_take]; omega), List.getElem?_take, if_pos h1]
 ·by_cases h2 : i = k
  ·subst h2
   rw [if_neg (by omega), if_pos rfl, if_pos (by omega), List.append_assoc, List.getElem?_append_right (by rw [List.length_take]; omega), List.length_take, show i - min i l.length = 0 by omega]
   rfl
  ·by_cases h3 : i = k + 1
   ·subst h3
    rw [if_pos rfl, if_pos h, List.append_assoc, List.getElem?_append_right (by rw [List.length_take]; omega), List.length_take, show k + 1 - min k l.length = 1 by omega]
    rfl
   ·rw [if_neg (by omega), if_neg (by omega), List.getElem?_append_right (by simp [List.length_take]; omega), List.getElem?_drop]
    congr 1
    simp [List.length_take]; omega
theorem acd {l : List qf} {k : Int} {c : qf} (hl : l.length ≤ 1000000) (hk : -9223372036854775808 ≤ k ∧ k < 9223372036854775808) (h : OkC c) :
  ZI l k c.1 c.2.1.1 c.2.1.2 c.2.2.1 c.2.2.2.1 c.2.2.2.2.1 c.2.2.2.2.2 = some (Qd l k c) := by
 have hw := h.w
 simp only [q8, u8r] at hw
 have hcl := WB l hl
 unfold ZI Qd
 simp only [q8, a6i h, y3]
 by_cases h0 : c.2.2.1 = 0
 ·rw [if_neg (by simp [h0])]
  simp (disch := omega) only [q8, zL, qY, qc, qg, qk, qw, qm, hcl]
 ·cases hr : zU c
  ·rw [if_neg (by simp)]
   simp (disch := omega) only [q8, qY, qc, qg, qk, qw, K6, qm, hcl]
  ·have hw2 := a8R hr
   by_cases h1 : k < 0
   ·rw [if_neg (by omega)]
    simp (disch := omega) only [q8, qn, qt, qY, qc, qg, qk, qw, jE, qm, hcl]
   ·by_cases h2 : (l.length : Int) ≤ k
    ·rw [if_neg (by omega)]
     simp (disch := omega) only [q8, qn, qt, qY, qc, qg, qk, qw, jE, qm, hcl]
    ·obtain ⟨n, rfl⟩ : ∃ n : Nat, k = n := ⟨k.toNat, by omega⟩
     by_cases h3 : (l.length : Int) - n < c.2.2.1
     ·rw [if_neg (by omega)]
      simp (disch := omega) only [q8, qn, qt, zL, qY, qc, qg, qk, qw, jE, qm, hcl]
     ·rw [if_pos ⟨h0, rfl, by omega, by omega, by omega⟩]
      unfold a2H
      by_cases h4 : c.2.2.1 = 2
      ·rw [if_pos h4]
       have e := vv (l := l) (s := [c, KM c]) (k := n) hl (by simp; omega)
       rw [aiy _ _ (by omega)] at e
       have e2 : kL l (n : Int) [(c.1, (c.2.1.1, c.2.1.2), c.2.2.1, c.2.2.2.1, c.2.2.2.2.1, c.2.2.2.2.2), (0, (0, 0), 0, c.2.2.2.1, c.2.2.2.2.1, c.2.2.2.2.2)] = some (jA ((l.set n c).set (n + 1) (KM c))) := e
       simp (disch := omega) only [q8, qt, zL, qY, qc, qg, qk, qw, ze, jE, qm, e2]
      ·rw [if_neg h4]
       have e := vv (l := l) (s := [c]) (k := n) hl (by simp; omega)
       rw [aj0 _ (by omega)] at e
       have e2 : kL l (n : Int) [(c.1, (c.2.1.1, c.2.1.2), c.2.2.1, c.2.2.2.1, c.2.2.2.2.1, c.2.2.2.2.2)] = some (jA (l.set n c)) := e
       simp (disch := omega) only [q8, qt, qY, qc, qg, qk, qw, ze, jE, qm, e2]
def YY (l : List qf) (n : Nat) : Nat := match l[n]?, l[n - 1]? with
 | some c, some d => if c.2.2.1 = 0 ∧ 0 < n ∧ d.2.2.1 = 2 then n - 1 else n
 | _, _ => n
def yS (l : List qf) (k : Int) (m : Int) : List qf × Bool :=
 if 0 ≤ k ∧ k < l.length then (match l[YY l k.toNat]? with
  | some c => (l.set (YY l k.toNat) (yl c m).1, (yl c m).2)
  | none => (l, false)) else (l, false)
theorem a3f {l : List qf} (hl : l.length ≤ 1000000) (k m : Int) (hk : -9223372036854775808 ≤ k ∧ k < 9223372036854775808) : Qj l k m = some (yS l k m) := by
 have hcl := WB l hl
 unfold Qj yS
 by_cases h1 : k < 0
 ·rw [if_neg (by omega)]
  simp (disch := omega) only [q8, qn, qt, qg, qk, qw, qm, and_true, hcl]
 ·by_cases h2 : (l.length : Int) ≤ k
  ·rw [if_neg (by omega)]
   simp (disch := omega) only [q8, qn, qt, qc, qg, qk, qw, qm, and_true, hcl]
  ·obtain ⟨n, rfl⟩ : ∃ n : Nat, k = n := ⟨k.toNat, by omega⟩
   rw [if_pos ⟨by omega, by omega⟩]
   obtain ⟨c, hc⟩ := qS (l := l) (i := n) (by omega)
   obtain ⟨d, hd⟩ := qS (l := l) (i := n - 1) (by omega)
   have e2 : ((n : Int) - 1).toNat = n - 1 := by omega
   have ec : kr (c.1, c.2.1.1, c.2.1.2, c.2.2.1, c.2.2.2.1, c.2.2.2.2.1, c.2.2.2.2.2) m = some (Vm (yl c m).1, (yl c m).2) := VZ c m
   have ed : kr (d.1, d.2.1.1, d.2.1.2, d.2.2.1, d.2.2.2.1, d.2.2.2.2.1, d.2.2.2.2.2) m = some (Vm (yl d m).1, (yl d m).2) := VZ d m
   by_cases h3 : c.2.2.1 = 0 ∧ 0 < n ∧ d.2.2.1 = 2
   ·have ha : YY l n = n - 1 := by unfold YY; simp only [q8, hc, hd]; rw [if_pos h3]
    obtain ⟨h3a, h3b, h3c⟩ := h3
    rw [Int.toNat_natCast, ha]
    simp only [q8, hd]
    simp (disch := omega) only [q8, qn, qt, zL, qc, qg, qk, qw, qm, and_true, hcl, hc, hd, e2, ed, List.length_set]
    rfl
   ·have ha : YY l n = n := by unfold YY; simp only [q8, hc, hd]; rw [if_neg h3]
    rw [Int.toNat_natCast, ha]
    simp only [q8, hc]
    by_cases h4 : c.2.2.1 = 0
    ·by_cases h5 : 0 < n
     ·have h6 : d.2.2.1 ≠ 2 := fun q => h3 ⟨h4, h5, q⟩
      simp (disch := omega) only [q8, qn, qt, zL, qY, qc, qg, qk, qw, qm, and_true, hcl, hc, hd, e2, ec, List.length_set]
      rfl
     ·simp (disch := omega) only [q8, qn, qt, zL, qc, qg, qk, qw, qm, and_true, hcl, hc, hd, e2, ec, List.length_set]
      rfl
    ·simp (disch := omega) only [q8, qn, qt, qY, qc, qg, qk, qw, qm, and_true, hcl, hc, hd, e2, ec, List.length_set]
     rfl
def v6 (l : List qf) (f t a b c : Int) : List qf := l.mapIdx fun i d => if f ≤ (i : Int) ∧ (i : Int) < t then zi a b c else d
theorem WT (l : List qf) (f t a b c : Int) : (v6 l f t a b c).length = l.length := by simp [v6]
theorem XE {l : List qf} {f t a b c : Int} {i : Nat} {d : qf} (h : l[i]? = some d) : (v6 l f t a b c)[i]? = some (if f ≤ (i : Int) ∧ (i : Int) < t then zi a b c else d) := by simp [v6, h]
theorem aeu (l : List qf) (f t a b c : Int) : KG l (min f.toNat l.length) (List.replicate (min t.toNat l.length - min f.toNat l.length) (zi a b c)) = v6 l f t a b c := by
 refine List.ext_getElem? fun i => ?_
 unfold KG
 by_cases hi : i < l.length
 ·obtain ⟨d, hd⟩ := qS hi
  rw [XE hd]
  by_cases h1 : i < min f.toNat l.length
  ·rw [if_neg (by omega), List.append_assoc, List.getElem?_append_left (by rw [List.length_take]; omega), List.getElem?_take, if_pos h1]; exact hd
  ·by_cases h2 : i < min t.toNat l.length
   ·rw [if_pos (by omega), List.append_assoc, List.getElem?_append_right (by rw [List.length_take]; omega), List.length_take, List.getElem?_append_left (by rw [List.length_replicate]; omega), List.getElem?_replicate, if_pos (by omega)]
   ·rw [if_neg (by omega), List.getElem?_append_right (by simp only [q8, jf, List.length_take, List.length_replicate]; omega), List.getElem?_drop]
    rw [← hd]
    congr 1
    simp only [q8, jf, List.length_take, List.length_replicate]; omega
 ·rw [List.getElem?_eq_none (by simp only [q8, jf, List.length_take, List.length_replicate, List.length_drop]; omega), List.getElem?_eq_none (by rw [WT]; omega)]
theorem a52 {l : List qf} (hl : l.length ≤ 1000000) (f t a b c : Int) : we l f t a b c = some (jA (v6 l f t a b c)) := by
 have hf : ∀ x : Int, (if (l.length : Int) < if (0 : Int) > x then (0 : Int) else x then (l.length : Int) else if (0 : Int) > x then (0 : Int) else x) = ((min x.toNat l.length : Nat) : Int) := by
  intro x
  by_cases h1 : (0 : Int) > x
  ·simp only [q8, h1, if_true]; rw [if_neg (by omega)]; omega
  ·simp only [q8, h1, if_false]; split <;> omega
 unfold we
 simp only [q8, hf]
 have hw : IntKind.i64.wrap (((min t.toNat l.length : Nat) : Int) - ((min f.toNat l.length : Nat) : Int)) = ((min t.toNat l.length : Nat) : Int) - ((min f.toNat l.length : Nat) : Int) := qc (by omega) (by omega)
 have hk : (if ((min t.toNat l.length : Nat) : Int) - ((min f.toNat l.length : Nat) : Int) > (0 : Int) then ((min t.toNat l.length : Nat) : Int) - ((min f.toNat l.length : Nat) : Int) else (0 : Int)) = ((min t.toNat l.length - min f.toNat l.length : Nat) : Int) := by split <;> omega
 simp only [q8, hw, hk]
 rw [vL _ (by omega)]
 simp only [q8, qw]
 rw [vv hl (by rw [List.length_replicate]; omega), aeu]
 rfl
def a2x (l : List qf) (n : Nat) : List qf := (List.range n).map fun i => l[i]?.getD (zi 0 0 0)
theorem Xn (l : List qf) (n : Nat) : (a2x l n).length = n := by simp [a2x]
theorem a3l (l : List qf) {n i : Nat} (h : i < n) : (a2x l n)[i]? = some (l[i]?.getD (zi 0 0 0)) := by simp [a2x, h]
def ah8 (l : List qf) (i : Nat) : Bool := match l[i]? with
 | none => true
 | some c => zU c && (!ja l i && (if c.2.2.1 = 0 then (match l[i - 1]? with
  | some d => d.2.2.2.1 == c.2.2.2.1 && (d.2.2.2.2.1 == c.2.2.2.2.1 && d.2.2.2.2.2 == c.2.2.2.2.2)
  | none => false) else true))
def kP (l : List qf) : Bool := (List.range l.length).all (ah8 l)
theorem wE (l : List qf) : kP l = true ↔ ∀ (i : Nat) (c : qf), l[i]? = some c → zU c = true ∧ ja l i = false ∧ (c.2.2.1 = 0 → ∃ d, l[i - 1]? = some d ∧ d.2.2.2 = c.2.2.2) := by
 unfold kP
 rw [List.all_eq_true]
 constructor
 ·intro h i c hc
  have hi : i < l.length := (List.getElem?_eq_some_iff.1 hc).1
  have := h i (List.mem_range.2 hi)
  unfold ah8 at this
  simp only [q8, hc, Bool.and_eq_true, Bool.not_eq_true'] at this
  refine ⟨this.1, this.2.1, fun hw => ?_⟩
  have h2 := this.2.2
  rw [if_pos hw] at h2
  split at h2
  ·rename_i d hd
   simp only [q8, Bool.and_eq_true, beq_iff_eq] at h2
   exact ⟨d, hd, Prod.ext h2.1 (Prod.ext h2.2.1 h2.2.2)⟩
  ·cases h2
 ·intro h i hi
  have hi := List.mem_range.1 hi
  obtain ⟨c, hc⟩ := qS hi
  obtain ⟨h1, h2, h3⟩ := h i c hc
  unfold ah8
  simp only [q8, hc, h1, h2, K6, Bool.true_and]
  split
  ·rename_i hw
   obtain ⟨d, hd, hp⟩ := h3 hw
   simp only [q8, hd, hp]
   simp
  ·rfl
def acT (l : List qf) : Prop := ∀ (i : Nat) (c d : qf), l[i]? = some c → l[i + 1]? = some d → c.2.2.1 = 2 → d.2.2.1 = 0 → c.2.2.2 = d.2.2.2
theorem W4 {l : List qf} (h : kP l = true) : acT l := fun i c d hc hd _ hw => by
 obtain ⟨_, _, h3⟩ := (wE l).1 h (i + 1) d hd
 obtain ⟨e, he, hp⟩ := h3 hw
 rw [Nat.add_sub_cancel, hc] at he
 cases he
 exact hp
theorem Jn {l : List qf} (h : kP l = true) : ∀ c ∈ l, zU c = true := fun c hc => by
 obtain ⟨i, hi⟩ := List.mem_iff_getElem?.1 hc
 exact ((wE l).1 h i c hi).1
theorem ah9 : zj 32 = 1 := by unfold zj; simp [V8, inR, VV, Kf]
theorem Yn (a b c : Int) : (zi a b c).2.2.1 ≠ 2 := (by decide : (1 : Int) ≠ 2)
theorem Z2 (a b c : Int) : (zi a b c).2.2.1 ≠ 0 := (by decide : (1 : Int) ≠ 0)
theorem Qs {a b c : Int} (h : K8 a b c = true) : zU (zi a b c) = true := by
 unfold zU zi; simp [h, ah9]
theorem a0g {c : qf} (h : zU c = true) : K8 c.2.2.2.1 c.2.2.2.2.1 c.2.2.2.2.2 = true := by
 unfold zU at h; simp only [q8, Bool.and_eq_true] at h; exact h.1
theorem a1H {l : List qf} {i : Nat} {c : qf} (h : l[i]? = some c) (hw : c.2.2.1 = 2) : ja l i = false ↔ ∃ d, l[i + 1]? = some d ∧ d.2.2.1 = 0 := by
 unfold ja
 simp only [q8, h]
 rw [if_pos hw]
 cases hd : l[i + 1]? with
 | none => simp
 | some d => simp
theorem a0D {l : List qf} {i : Nat} {c : qf} (h : l[i]? = some c) (hw : c.2.2.1 = 0) : ja l i = false ↔ 0 < i ∧ ∃ d, l[i - 1]? = some d ∧ d.2.2.1 = 2 := by
 unfold ja
 simp only [q8, h]
 rw [if_neg (by omega), if_pos hw]
 by_cases h0 : i = 0
 ·simp [h0]
 ·rw [if_neg h0]
  cases hd : l[i - 1]? with
  | none => simp
  | some d => simp; omega
theorem VR {l : List qf} {i : Nat} {c : qf} (h : l[i]? = some c) (h2 : c.2.2.1 ≠ 2) (h0 : c.2.2.1 ≠ 0) : ja l i = false := by
 unfold ja
 simp only [q8, h]
 rw [if_neg h2, if_neg h0]
theorem JC {l : List qf} {i : Nat} {c : qf} (h : l[i]? = some c) (ha : ja l i = false) : (jA l)[i]? = some c := by
 rw [Ys h]; simp [Ym, ha]
theorem Wz {l : List qf} (hr : ∀ c ∈ l, zU c = true) (hp : acT l) : kP (jA l) = true := by
 refine (wE _).2 fun i c hc => ?_
 have hi : i < l.length := by have := (List.getElem?_eq_some_iff.1 hc).1; rwa [kX] at this
 obtain ⟨d, hd⟩ := qS hi
 have hdr := hr d (List.mem_of_getElem? hd)
 cases ha : ja l i
 ·have hk := JC hd ha
  rw [hk] at hc; cases hc
  by_cases h2 : c.2.2.1 = 2
  ·obtain ⟨e, he, hw⟩ := (a1H hd h2).1 ha
   have hk2 : (jA l)[i + 1]? = some e := JC he ((a0D he hw).2 ⟨by omega, c, by simpa using hd, h2⟩)
   exact ⟨hdr, (a1H hk h2).2 ⟨e, hk2, hw⟩, fun q => by omega⟩
  ·by_cases h0 : c.2.2.1 = 0
   ·obtain ⟨hpos, e, he, hw⟩ := (a0D hd h0).1 ha
    have hs : i - 1 + 1 = i := by omega
    have hk2 : (jA l)[i - 1]? = some e := JC he ((a1H he hw).2 ⟨c, by rw [hs]; exact hd, h0⟩)
    exact ⟨hdr, (a0D hk h0).2 ⟨hpos, e, hk2, hw⟩, fun _ => ⟨e, hk2, hp (i - 1) e c he (by rw [hs]; exact hd) hw h0⟩⟩
   ·exact ⟨hdr, VR hk h2 h0, fun q => absurd q h0⟩
 ·have hk : (jA l)[i]? = some (zi d.2.2.2.1 d.2.2.2.2.1 d.2.2.2.2.2) := by rw [Ys hd]; simp [Ym, ha]
  rw [hk] at hc; cases hc
  exact ⟨Qs (a0g hdr), VR hk (Yn _ _ _) (Z2 _ _ _), fun q => absurd q (Z2 _ _ _)⟩
theorem a6R {c : qf} (h : zU c = true) : zU (KM c) = true := by
 have := a0g h
 unfold zU KM
 simp [this]
theorem a9B {l : List qf} {n : Nat} {c : qf} (h : kP l = true) (hc : zU c = true) (hw : c.2.2.1 ≠ 0) (hn : n + c.2.2.1.toNat ≤ l.length) (hw0 : 0 ≤ c.2.2.1) : kP (jA (a2H l n c)) = true := by
 have hw2 := a8R hc
 have hlen := a3d l n c
 have get : ∀ (i : Nat) (d : qf), (a2H l n c)[i]? = some d → (i = n ∧ d = c) ∨ (i = n + 1 ∧ c.2.2.1 = 2 ∧ d = KM c) ∨ (i ≠ n ∧ (c.2.2.1 = 2 → i ≠ n + 1) ∧ l[i]? = some d) := by
  intro i d hd
  unfold a2H at hd
  split at hd
  ·rename_i h2
   rw [List.getElem?_set] at hd
   split at hd
   ·rename_i hi
    split at hd
    ·cases hd; exact .inr (.inl ⟨hi.symm, h2, rfl⟩)
    ·cases hd
   ·rename_i hi
    rw [List.getElem?_set] at hd
    split at hd
    ·rename_i hi2
     split at hd
     ·cases hd; exact .inl ⟨hi2.symm, rfl⟩
     ·cases hd
    ·rename_i hi2
     exact .inr (.inr ⟨fun q => hi2 q.symm, fun _ q => hi q.symm, hd⟩)
  ·rename_i h2
   rw [List.getElem?_set] at hd
   split at hd
   ·rename_i hi2
    split at hd
    ·cases hd; exact .inl ⟨hi2.symm, rfl⟩
    ·cases hd
   ·rename_i hi2
    exact .inr (.inr ⟨fun q => hi2 q.symm, fun q => absurd q h2, hd⟩)
 refine Wz (fun d hd => ?_) fun i d e hd he h2 h0 => ?_
 ·obtain ⟨i, hi⟩ := List.mem_iff_getElem?.1 hd
  rcases get i d hi with ⟨_, rfl⟩ | ⟨_, _, rfl⟩ | ⟨_, _, q⟩
  ·exact hc
  ·exact a6R hc
  ·exact Jn h d (List.mem_of_getElem? q)
 ·rcases get i d hd with ⟨hi, rfl⟩ | ⟨hi, hw', rfl⟩ | ⟨hi1, hi2, q⟩
  ·rcases get (i + 1) e he with ⟨hj, rfl⟩ | ⟨hj, hw', rfl⟩ | ⟨hj1, hj2, q⟩
   ·omega
   ·rfl
   ·exact absurd (by omega) (hj2 h2)
  ·have : (KM c).2.2.1 = 0 := rfl
   omega
  ·rcases get (i + 1) e he with ⟨hj, rfl⟩ | ⟨hj, hw', rfl⟩ | ⟨hj1, hj2, q2⟩
   ·exact absurd h0 hw
   ·exact absurd (by omega) hi1
   ·exact W4 h i d e q q2 h2 h0
theorem a83 {l : List qf} {k : Int} {c : qf} (h : kP l = true) (hc : OkC c) : kP (Qd l k c).1 = true := by
 have hw := hc.w
 simp only [q8, u8r] at hw
 unfold Qd
 split
 ·rename_i q
  exact a9B h q.2.1 q.1 (by omega) hw.1
 ·exact h
theorem a9z {l : List qf} {f t a b c : Int} (h : kP l = true) (hp : K8 a b c = true) : kP (jA (v6 l f t a b c)) = true := by
 have get : ∀ (i : Nat) (d : qf), (v6 l f t a b c)[i]? = some d → d = zi a b c ∨ l[i]? = some d := by
  intro i d hd
  have hi : i < l.length := by have := (List.getElem?_eq_some_iff.1 hd).1; rwa [WT] at this
  obtain ⟨e, he⟩ := qS hi
  rw [XE he] at hd
  cases hd
  split
  ·exact .inl rfl
  ·exact .inr he
 refine Wz (fun d hd => ?_) fun i d e hd he h2 h0 => ?_
 ·obtain ⟨i, hi⟩ := List.mem_iff_getElem?.1 hd
  rcases get i d hi with rfl | q
  ·exact Qs hp
  ·exact Jn h d (List.mem_of_getElem? q)
 ·rcases get i d hd with rfl | q
  ·exact absurd h2 (Yn _ _ _)
  ·rcases get (i + 1) e he with rfl | q2
   ·exact absurd h0 (Z2 _ _ _)
   ·exact W4 h i d e q q2 h2 h0
theorem agS : K8 0 0 0 = true := by decide
theorem a9D {l : List qf} {n : Nat} (h : kP l = true) : kP (jA (a2x l n)) = true := by
 have get : ∀ (i : Nat) (d : qf), (a2x l n)[i]? = some d → d = zi 0 0 0 ∨ l[i]? = some d := by
  intro i d hd
  have hi : i < n := by have := (List.getElem?_eq_some_iff.1 hd).1; rwa [Xn] at this
  rw [a3l l hi] at hd
  cases hd
  cases hq : l[i]? with
  | none => exact .inl rfl
  | some e => exact .inr rfl
 refine Wz (fun d hd => ?_) fun i d e hd he h2 h0 => ?_
 ·obtain ⟨i, hi⟩ := List.mem_iff_getElem?.1 hd
  rcases get i d hi with rfl | q
  ·exact Qs agS
  ·exact Jn h d (List.mem_of_getElem? q)
 ·rcases get i d hd with rfl | q
  ·exact absurd h2 (Yn _ _ _)
  ·rcases get (i + 1) e he with rfl | q2
   ·exact absurd h0 (Z2 _ _ _)
   ·exact W4 h i d e q q2 h2 h0
theorem a8p (n : Int) : kP (jO n) = true := by
 have get : ∀ (i : Nat) (d : qf), (jO n)[i]? = some d → d = zi 0 0 0 := by
  intro i d hd
  unfold jO at hd
  rw [List.getElem?_replicate] at hd
  split at hd
  ·cases hd; rfl
  ·cases hd
 refine (wE _).2 fun i d hd => ?_
 have := get i d hd
 subst this
 exact ⟨Qs agS, VR hd (Yn _ _ _) (Z2 _ _ _), fun q => absurd q (Z2 _ _ _)⟩
theorem agy (c : qf) (m : Int) : (yl c m).1.2.2 = c.2.2 := by
 unfold yl; split
 ·split
  ·rfl
  ·split <;> rfl
 ·rfl
theorem a3U {c : qf} {m : Int} (h : zU c = true) : zU (yl c m).1 = true := by
 obtain ⟨r, ⟨m1, m2⟩, w, p1, p2, p3⟩ := c
 unfold yl
 split
 ·rename_i q
  obtain ⟨q1, q2⟩ := q
  have hm : m ≠ 0 := fun e => by rw [e, aik] at q1; omega
  have hw0 : w ≠ 0 := by simp only at q2; omega
  unfold zU at h ⊢
  simp only [q8, Bool.and_eq_true] at h
  obtain ⟨h1, h2⟩ := h
  rw [if_neg hw0] at h2
  simp only [q8, Bool.and_eq_true] at h2
  obtain ⟨h3, h4, h5⟩ := h2
  split
  ·rename_i e1
   simp only at e1
   subst e1
   simp only [q8, if_true, beq_iff_eq] at h5
   subst h5
   simp only [q8, h1, h3, h4, q1, Bool.true_and]
   simp
  ·rename_i e1
   simp only at e1
   rw [if_neg e1] at h5
   simp only [q8, Bool.and_eq_true] at h5
   split
   ·rename_i e2
    simp only [q8, h1, h3, h4, h5.1, q1, Bool.true_and]
    simp
   ·simp only [q8, h1, h3, h4, h5.1, h5.2, Bool.true_and]
 ·exact h
theorem a5p {l l' : List qf} (h : ∀ i : Nat, (l[i]?.map fun c : qf => c.2.2) = (l'[i]?.map fun c : qf => c.2.2)) (i : Nat) : ja l i = ja l' i := by
 have h0 := h i
 have h1 := h (i + 1)
 have h2 := h (i - 1)
 unfold ja
 cases a0 : l[i]? with
 | none =>
  cases b0 : l'[i]? with
  | none => rfl
  | some c' => rw [a0, b0] at h0; cases h0
 | some c =>
  cases b0 : l'[i]? with
  | none => rw [a0, b0] at h0; cases h0
  | some c' =>
   rw [a0, b0] at h0
   have e0 : c.2.2 = c'.2.2 := by simpa using h0
   simp only [q8, e0]
   have k1 : (match l[i + 1]? with
    | some d => d.2.2.1 != 0
    | none => true) = (match l'[i + 1]? with
    | some d => d.2.2.1 != 0
    | none => true) := by
    cases a1 : l[i + 1]? with
    | none => cases b1 : l'[i + 1]? with
     | none => rfl
     | some d' => rw [a1, b1] at h1; cases h1
    | some d => cases b1 : l'[i + 1]? with
     | none => rw [a1, b1] at h1; cases h1
     | some d' =>
      rw [a1, b1] at h1
      have e1 : d.2.2 = d'.2.2 := by simpa using h1
      simp only [q8, e1]
   have k2 : (match l[i - 1]? with
    | some d => d.2.2.1 != 2
    | none => true) = (match l'[i - 1]? with
    | some d => d.2.2.1 != 2
    | none => true) := by
    cases a1 : l[i - 1]? with
    | none => cases b1 : l'[i - 1]? with
     | none => rfl
     | some d' => rw [a1, b1] at h2; cases h2
    | some d => cases b1 : l'[i - 1]? with
     | none => rw [a1, b1] at h2; cases h2
     | some d' =>
      rw [a1, b1] at h2
      have e1 : d.2.2 = d'.2.2 := by simpa using h2
      simp only [q8, e1]
   by_cases q2 : c'.2.2.1 = 2
   ·rw [if_pos q2, if_pos q2]; exact k1
   ·rw [if_neg q2, if_neg q2]
    by_cases q0 : c'.2.2.1 = 0
    ·rw [if_pos q0, if_pos q0]
     by_cases qi : i = 0
     ·rw [if_pos qi, if_pos qi]
     ·rw [if_neg qi, if_neg qi]; exact k2
    ·rw [if_neg q0, if_neg q0]
theorem aaQ {l : List qf} {n : Nat} {c d : qf} (h : kP l = true) (hc : l[n]? = some c) (hd : zU d = true) (he : d.2.2 = c.2.2) : kP (l.set n d) = true := by
 have hn : n < l.length := (List.getElem?_eq_some_iff.1 hc).1
 have hg : ∀ i : Nat, ((l.set n d)[i]?.map fun c : qf => c.2.2) = (l[i]?.map fun c : qf => c.2.2) := by
  intro i
  by_cases q : i = n
  ·subst q; rw [List.getElem?_set_self hn, hc]; simp [he]
  ·rw [List.getElem?_set_ne (Ne.symm q)]
 have back : ∀ (i : Nat) (e : qf), (l.set n d)[i]? = some e → ∃ e', l[i]? = some e' ∧ e'.2.2 = e.2.2 ∧ (e = e' ∨ e = d) := by
  intro i e hq
  by_cases q : i = n
  ·subst q; rw [List.getElem?_set_self hn] at hq; cases hq; exact ⟨c, hc, he.symm, .inr rfl⟩
  ·rw [List.getElem?_set_ne (Ne.symm q)] at hq; exact ⟨e, hq, rfl, .inl rfl⟩
 refine (wE _).2 fun i e hq => ?_
 obtain ⟨e', h1, h2, h3⟩ := back i e hq
 obtain ⟨r1, r2, r3⟩ := (wE l).1 h i e' h1
 refine ⟨?_, (a5p hg i).trans r2, fun hw => ?_⟩
 ·rcases h3 with rfl | rfl
  ·exact r1
  ·exact hd
 ·obtain ⟨f, f1, f2⟩ := r3 (by rw [h2]; exact hw)
  have := hg (i - 1)
  rw [f1] at this
  cases hx : (l.set n d)[i - 1]? with
  | none => rw [hx] at this; cases this
  | some x =>
   rw [hx] at this
   have e3 : x.2.2 = f.2.2 := by simpa using this
   exact ⟨x, rfl, by rw [e3, f2, h2]⟩
theorem a3h {l : List qf} {k m : Int} (h : kP l = true) : kP (yS l k m).1 = true := by
 unfold yS
 split
 ·split
  ·rename_i c hc
   exact aaQ h hc (a3U (Jn h c (List.mem_of_getElem? hc))) (agy c m)
  ·exact h
 ·exact h
set_option maxHeartbeats 0
open Go.Proofs
def y5 (x0 : Int) : Option Bool :=
 bif decide (1 ≤ x0) then
 some (decide (x0 ≤ 512))
 else some false
def a3k : TEnt := ⟨95, .int .i64, [], [(.bool, [])], fun s => y5 s⟩
theorem xS : qK Try.prog a3k := eo0 _ tn (fun s => by kernel_rfl) (by kernel_rfl)
def zZ (x4 : Y4_) (x5 : Y4_) (x6 : (List Y1_)) : Option ((Y4_ × Zt) ⊕ (Unit ⊕ Zt)) :=
 bif decide (x4.2.2 < x4.2.1) then
 (Q2 x4.1).bind fun x7 =>
 bif decide ((1 : Nat) = (1 : Nat)) then
 bif decide (x6.length = x6.length ∧ x6.length + (1 : Nat) ≤ (5864062014805 : Nat)) then
 bif decide (x6.length + (1 : Nat) = (x6 ++ [x7]).length) then
 some (Sum.inl ((x4.1, (x4.2.1, (IntKind.i64.wrap (x4.2.2 + (1 : Int))))), (x5, (x6 ++ [x7]))))
 else none
 else none
 else none
 else kk x6 (some (Sum.inr (Sum.inr (x5, x6))))
def JL : (Y4_ × Zt) → Option (Unit ⊕ Zt) := zO fun s => zZ s.1 s.2.1 s.2.2
def ZD (x0 : Int) (x1 : Int) : Option (Unit ⊕ Zt) :=
 (y5 x0).bind fun x2 =>
 bif !x2 then
 some (Sum.inl ())
 else (y5 x1).bind fun x3 =>
 bif !x3 then
 some (Sum.inl ())
 else (JL ((x1, (x0, ((0 : Int)))), ((((0 : Int)), (((0 : Int)), x1)), []))).bind fun x4 =>
 some x4
def a7Q : TEnt := ⟨66, .cons (.int .i64) (.int .i64), [], [(.tup (.cons (.cst (.pointer none)) (.cst (.int .i64 11))), []), (.tup (.cons (.ptr 0 0) (.cst (.int .i64 0))), Y5_)], fun s => ZD s.1 s.2⟩
theorem uW : qK Try.prog a7Q := kT (loops := [(299594, [1, 6, 18, 19], (.cons (.int .i64) (.cons (.ptr 0 0) JF)), Y5_)]) (joins := []) (un := []) _ (tc JU (tc xS tn)) (fun s => by kernel_rfl) (by kernel_rfl)
def wa (x0 : Y4_) (x1 : (List Y1_)) : Option (Int × Zt) :=
 kk x1 (kk x1 (some (((↑x1.length : Int)), (x0, x1))))
def a4K : TEnt := ⟨138, .ptr 0 0, Y5_, [(.int .i64, Y5_)], fun s => wa s.1 s.2⟩
theorem Kj : qK Try.prog a4K := eo0 _ tn (fun s => by kernel_rfl) (by kernel_rfl)
def qA (x0 : Y4_) (x1 : (List Y1_)) : Option (Int × Zt) :=
 kk x1 (some (x0.2.2, (x0, x1)))
def a5w : TEnt := ⟨110, .ptr 0 0, Y5_, [(.int .i64, Y5_)], fun s => qA s.1 s.2⟩
theorem Q5 : qK Try.prog a5w := eo0 _ tn (fun s => by kernel_rfl) (by kernel_rfl)
def qj (x0 : Y4_) (x1 : (List Y1_)) : Option (Int × Zt) :=
 kk x1 (some (x0.1, (x0, x1)))
def a6M : TEnt := ⟨42, .ptr 0 0, Y5_, [(.int .i64, Y5_)], fun s => qj s.1 s.2⟩
theorem kA : qK Try.prog a6M := eo0 _ tn (fun s => by kernel_rfl) (by kernel_rfl)
def qy (x0 : Y4_) (x1 : (List Y1_)) : Option (Int × Zt) :=
 kk x1 (some (x0.2.1, (x0, x1)))
def a7K : TEnt := ⟨43, .ptr 0 0, Y5_, [(.int .i64, Y5_)], fun s => qy s.1 s.2⟩
theorem j4 : qK Try.prog a7K := eo0 _ tn (fun s => by kernel_rfl) (by kernel_rfl)
def wG (x0 : (Int × Int)) (x1 : Y4_) (x2 : (List Y1_)) : Option ((a7e × Bool) × Zt) :=
 bif decide (0 ≤ x0.1) then
 kk x2 (bif !decide (x0.1 < (↑x2.length : Int)) then
 kk x2 (some (((((0 : Int)), (((0 : Int)), (((0 : Int)), (((0 : Int)), (((0 : Int)), (((0 : Int)), ((0 : Int)))))))), false), (x1, x2)))
 else bif decide (x0.2 < 0) then
 kk x2 (some (((((0 : Int)), (((0 : Int)), (((0 : Int)), (((0 : Int)), (((0 : Int)), (((0 : Int)), ((0 : Int)))))))), false), (x1, x2)))
 else bif decide (x1.2.2 ≤ x0.2) then
 kk x2 (some (((((0 : Int)), (((0 : Int)), (((0 : Int)), (((0 : Int)), (((0 : Int)), (((0 : Int)), ((0 : Int)))))))), false), (x1, x2)))
 else bif decide (0 ≤ x0.1) then
 bif decide (x0.1.toNat < x2.length ∧ x2.length = x2.length) then
 kk x2 ((x2[x0.1.toNat]?).bind fun x3 =>
 bif decide (0 ≤ x0.2) then
 (x3[x0.2.toNat]?).bind fun x4 =>
 kk x2 (some (((x4.1, (x4.2.1.1, (x4.2.1.2, x4.2.2))), true), (x1, x2)))
 else none)
 else none
 else none)
 else kk x2 (some (((((0 : Int)), (((0 : Int)), (((0 : Int)), (((0 : Int)), (((0 : Int)), (((0 : Int)), ((0 : Int)))))))), false), (x1, x2)))
def abB : TEnt := ⟨39, .cons (.ptr 0 0) JF, Y5_, [(.tup (.cons (.agg uJ) .bool), Y5_)], fun s => wG s.1 s.2.1 s.2.2⟩
theorem a0T : qK Try.prog abB := eo0 _ tn (fun s => by kernel_rfl) (by kernel_rfl)
def jR (x0 : (Int × (Int × a7e))) (x1 : Y4_) (x2 : (List Y1_)) : Option (Bool × Zt) :=
 bif decide (0 ≤ x0.1) then
 kk x2 (bif !decide (x0.1 < (↑x2.length : Int)) then
 kk x2 (some (false, (x1, x2)))
 else bif decide (0 ≤ x0.1) then
 bif decide (x0.1.toNat < x2.length ∧ x2.length = x2.length) then
 kk x2 ((x2[x0.1.toNat]?).bind fun x3 =>
 (ZI x3 x0.2.1 x0.2.2.1 x0.2.2.2.1 x0.2.2.2.2.1 x0.2.2.2.2.2.1 x0.2.2.2.2.2.2.1 x0.2.2.2.2.2.2.2.1 x0.2.2.2.2.2.2.2.2).bind fun x4 =>
 bif x4.2 then
 bif decide (0 ≤ x0.1) then
 bif decide (x0.1.toNat < x2.length ∧ x2.length = x2.length) then
 kk x2 ((x2[x0.1.toNat]?).bind fun x5 =>
 bif decide (x2.length = (x2.set x0.1.toNat x4.1).length) then
 some (x4.2, (x1, (x2.set x0.1.toNat x4.1)))
 else none)
 else none
 else none
 else kk x2 (some (x4.2, (x1, x2))))
 else none
 else none)
 else kk x2 (some (false, (x1, x2)))
def a6c : TEnt := ⟨113, .cons (.ptr 0 0) (.cons (.int .i64) (.cons (.int .i64) (.agg uJ))), Y5_, [(.bool, Y5_)], fun s => jR s.1 s.2.1 s.2.2⟩
theorem uF : qK Try.prog a6c := eo0 _ (tc uB tn) (fun s => by kernel_rfl) (by kernel_rfl)
def wb (x0 : Y4_) (x1 : Y4_) (x2 : (List Y1_)) : Option (Bool × Zt) :=
 bif decide (0 ≤ x0.1) then
 kk x2 (bif !decide (x0.1 < (↑x2.length : Int)) then
 kk x2 (some (false, (x1, x2)))
 else bif decide (0 ≤ x0.1) then
 bif decide (x0.1.toNat < x2.length ∧ x2.length = x2.length) then
 kk x2 ((x2[x0.1.toNat]?).bind fun x3 =>
 (Qj x3 x0.2.1 x0.2.2).bind fun x4 =>
 bif x4.2 then
 bif decide (0 ≤ x0.1) then
 bif decide (x0.1.toNat < x2.length ∧ x2.length = x2.length) then
 kk x2 ((x2[x0.1.toNat]?).bind fun x5 =>
 bif decide (x2.length = (x2.set x0.1.toNat x4.1).length) then
 some (x4.2, (x1, (x2.set x0.1.toNat x4.1)))
 else none)
 else none
 else none
 else kk x2 (some (x4.2, (x1, x2))))
 else none
 else none)
 else kk x2 (some (false, (x1, x2)))
def a3b : TEnt := ⟨109, .cons (.ptr 0 0) (.cons (.int .i64) (.cons (.int .i64) (.int .i32))), Y5_, [(.bool, Y5_)], fun s => wb s.1 s.2.1 s.2.2⟩
theorem xR : qK Try.prog a3b := eo0 _ (tc xx tn) (fun s => by kernel_rfl) (by kernel_rfl)
def zm (x0 : (Int × (Int × (Int × Y4_)))) (x1 : Y4_) (x2 : (List Y1_)) : Option Zt :=
 bif decide (0 ≤ x0.1) then
 kk x2 (bif !decide (x0.1 < (↑x2.length : Int)) then
 kk x2 (some (x1, x2))
 else bif decide (0 ≤ x0.1) then
 bif decide (x0.1.toNat < x2.length ∧ x2.length = x2.length) then
 kk x2 ((x2[x0.1.toNat]?).bind fun x3 =>
 (we x3 x0.2.1 x0.2.2.1 x0.2.2.2.1 x0.2.2.2.2.1 x0.2.2.2.2.2).bind fun x4 =>
 (w6 x0.2.2.2.1 x0.2.2.2.2.1 x0.2.2.2.2.2).bind fun x5 =>
 bif x5 then
 bif decide (0 ≤ x0.1) then
 bif decide (x0.1.toNat < x2.length ∧ x2.length = x2.length) then
 kk x2 ((x2[x0.1.toNat]?).bind fun x6 =>
 bif decide (x2.length = (x2.set x0.1.toNat x4).length) then
 some (x1, (x2.set x0.1.toNat x4))
 else none)
 else none
 else none
 else kk x2 (some (x1, x2)))
 else none
 else none)
 else kk x2 (some (x1, x2))
def a2L : TEnt := ⟨139, .cons (.ptr 0 0) (.cons (.int .i64) (.cons (.int .i64) (.cons (.int .i64) (.agg Y8_)))), Y5_, [(.tup .nil, Y5_)], fun s => zm s.1 s.2.1 s.2.2⟩
theorem ZU : qK Try.prog a2L := eo0 _ (tc yZ (tc ZV tn)) (fun s => by kernel_rfl) (by kernel_rfl)
def z4 (x0 : (Int × Int)) (x1 : Y4_) (x2 : (List Y1_)) : Option Zt :=
 kk x2 (kk x2 (some (((if IntKind.i64.wrap ((↑x2.length : Int) - (1 : Int)) < if (0 : Int) > x0.1 then (0 : Int) else x0.1 then IntKind.i64.wrap ((↑x2.length : Int) - (1 : Int)) else if (0 : Int) > x0.1 then (0 : Int) else x0.1), ((if IntKind.i64.wrap (x1.2.2 - (1 : Int)) < if (0 : Int) > x0.2 then (0 : Int) else x0.2 then IntKind.i64.wrap (x1.2.2 - (1 : Int)) else if (0 : Int) > x0.2 then (0 : Int) else x0.2), x1.2.2)), x2)))
def a3o : TEnt := ⟨111, .cons (.ptr 0 0) JF, Y5_, [(.tup .nil, Y5_)], fun s => z4 s.1 s.2.1 s.2.2⟩
theorem jq : qK Try.prog a3o := eo0 _ tn (fun s => by kernel_rfl) (by kernel_rfl)
def zC (x4 : (Int × Y4_)) (x5 : Y4_) (x6 : (List Y1_)) (x7 : Y4_) (x8 : (List Y1_)) : Option (((Int × Y4_) × a6U) ⊕ Zt) :=
 bif decide (x4.2.2.2 < x4.2.2.1) then
 (Q2 x5.2.2).bind fun x9 =>
 (we x9 (0 : Int) x5.2.2 x7.1 x7.2.1 x7.2.2).bind fun x10 =>
 bif decide ((1 : Nat) = (1 : Nat)) then
 bif decide (x8.length = x8.length ∧ x8.length + (1 : Nat) ≤ (5864062014805 : Nat)) then
 kk x6 (bif decide (x8.length + (1 : Nat) = (x8 ++ [x10]).length) then
 some (Sum.inl ((x4.1, (x4.2.1, (x4.2.2.1, (IntKind.i64.wrap (x4.2.2.2 + (1 : Int)))))), (x5, (x6, (x7, (x8 ++ [x10]))))))
 else none)
 else none
 else none
 else bif decide (0 ≤ x4.1) then
 kk x6 (kk x6 (bif decide (List.length x6 = List.length x6 ∧ 0 ≤ (Option.some x4.1).getD (0 : Int) ∧ (Option.some x4.1).getD 0 ≤ (↑(List.length x6) : Int) ∧ (↑(List.length x6) : Int) = (↑(List.length x6) : Int) ∧ (↑(List.length x6) : Int).toNat ≤ List.length x6) then
 bif decide ((Option.some x4.1).getD (0 : Int) = (↑(List.length x6) : Int)) then
 kk x8 (bif decide ((0 : Nat) = (0 : Nat) ∧ (0 : Nat) + x8.length ≤ (5864062014805 : Nat)) then
 bif decide ((0 : Nat) + x8.length = ([] ++ x8).length) then
 some (Sum.inr (x5, ([] ++ x8)))
 else none
 else none)
 else bif decide ((Option.some x4.1).getD (0 : Int) = (0 : Int) ∧ (↑(List.length x6) : Int) = (↑(List.length x6) : Int)) then
 kk x8 (bif decide (List.length x6 = List.length x6 ∧ List.length x6 + x8.length ≤ (5864062014805 : Nat)) then
 bif decide (List.length x6 + x8.length = (x6 ++ x8).length) then
 some (Sum.inr (x5, (x6 ++ x8)))
 else none
 else none)
 else kk x8 (bif decide ((List.take ((↑(List.length x6) : Int).toNat - ((Option.some x4.1).getD (0 : Int)).toNat) (List.drop ((Option.some x4.1).getD (0 : Int)).toNat x6)).length + x8.length ≤ (5864062014805 : Nat)) then
 bif decide (x8.length = (0 : Nat)) then
 none
 else bif decide ((List.take ((↑(List.length x6) : Int).toNat - ((Option.some x4.1).getD (0 : Int)).toNat) (List.drop ((Option.some x4.1).getD (0 : Int)).toNat x6)).length + x8.length = (List.take ((↑(List.length x6) : Int).toNat - ((Option.some x4.1).getD (0 : Int)).toNat) (List.drop ((Option.some x4.1).getD (0 : Int)).toNat x6) ++ x8).length) then
 some (Sum.inr (x5, (List.take ((↑(List.length x6) : Int).toNat - ((Option.some x4.1).getD (0 : Int)).toNat) (List.drop ((Option.some x4.1).getD (0 : Int)).toNat x6) ++ x8)))
 else none
 else none)
 else none))
 else bif decide ((0 : Nat) < List.length x6 ∧ List.length x6 = List.length x6) then
 bif decide ((0 : Int) ≤ IntKind.i64.wrap (x4.2.1 + x4.1) ∧ (IntKind.i64.wrap (x4.2.1 + x4.1)).toNat ≤ List.length x6) then
 kk x6 (bif decide (x8.length = x8.length ∧ x8.length + (List.take (IntKind.i64.wrap (x4.2.1 + x4.1)).toNat (List.drop (0 : Nat) x6)).length ≤ (5864062014805 : Nat)) then
 bif decide (x8.length + (List.take (IntKind.i64.wrap (x4.2.1 + x4.1)).toNat (List.drop (0 : Nat) x6)).length = (x8 ++ List.take (IntKind.i64.wrap (x4.2.1 + x4.1)).toNat (List.drop (0 : Nat) x6)).length) then
 some (Sum.inr (x5, (x8 ++ List.take (IntKind.i64.wrap (x4.2.1 + x4.1)).toNat (List.drop (0 : Nat) x6))))
 else none
 else none)
 else none
 else none
def QT : ((Int × Y4_) × a6U) → Option Zt := zO fun s => zC s.1 s.2.1 s.2.2.1 s.2.2.2.1 s.2.2.2.2
def wY (x0 : (Int × Y4_)) (x1 : Y4_) (x2 : (List Y1_)) : Option Zt :=
 (w6 x0.2.1 x0.2.2.1 x0.2.2.2).bind fun x3 =>
 bif !x3 then
 kk x2 (some (x1, x2))
 else kk x2 (kk x2 ((QT (((if (↑x2.length : Int) < if IntKind.i64.wrap ((0 : Int) - (↑x2.length : Int)) > x0.1 then IntKind.i64.wrap ((0 : Int) - (↑x2.length : Int)) else x0.1 then (↑x2.length : Int) else if IntKind.i64.wrap ((0 : Int) - (↑x2.length : Int)) > x0.1 then IntKind.i64.wrap ((0 : Int) - (↑x2.length : Int)) else x0.1), (((↑x2.length : Int)), ((if IntKind.i64.wrap ((0 : Int) - if (↑x2.length : Int) < if IntKind.i64.wrap ((0 : Int) - (↑x2.length : Int)) > x0.1 then IntKind.i64.wrap ((0 : Int) - (↑x2.length : Int)) else x0.1 then (↑x2.length : Int) else if IntKind.i64.wrap ((0 : Int) - (↑x2.length : Int)) > x0.1 then IntKind.i64.wrap ((0 : Int) - (↑x2.length : Int)) else x0.1) > if (↑x2.length : Int) < if IntKind.i64.wrap ((0 : Int) - (↑x2.length : Int)) > x0.1 then IntKind.i64.wrap ((0 : Int) - (↑x2.length : Int)) else x0.1 then (↑x2.length : Int) else if IntKind.i64.wrap ((0 : Int) - (↑x2.length : Int)) > x0.1 then IntKind.i64.wrap ((0 : Int) - (↑x2.length : Int)) else x0.1 then IntKind.i64.wrap ((0 : Int) - if (↑x2.length : Int) < if IntKind.i64.wrap ((0 : Int) - (↑x2.length : Int)) > x0.1 then IntKind.i64.wrap ((0 : Int) - (↑x2.length : Int)) else x0.1 then (↑x2.length : Int) else if IntKind.i64.wrap ((0 : Int) - (↑x2.length : Int)) > x0.1 then IntKind.i64.wrap ((0 : Int) - (↑x2.length : Int)) else x0.1) else if (↑x2.length : Int) < if IntKind.i64.wrap ((0 : Int) - (↑x2.length : Int)) > x0.1 then IntKind.i64.wrap ((0 : Int) - (↑x2.length : Int)) else x0.1 then (↑x2.length : Int) else if IntKind.i64.wrap ((0 : Int) - (↑x2.length : Int)) > x0.1 then IntKind.i64.wrap ((0 : Int) - (↑x2.length : Int)) else x0.1), ((0 : Int))))), (x1, (x2, (x0.2, []))))).bind fun x4 =>
 some x4))
def U7 : TEnt := ⟨145, .cons (.ptr 0 0) (.cons (.int .i64) (.agg Y8_)), Y5_, [(.tup .nil, Y5_)], fun s => wY s.1 s.2.1 s.2.2⟩
theorem v5 : qK Try.prog U7 := kT (loops := [(19173962, [0, 1, 5, 6, 7, 29, 30], (.cons (.ptr 0 0) (.cons (.int .i64) (.cons (.ptr 2 0) (.cons (.int .i64) (.cons (.own 3) JF))))), [.st (.cons (.int .i64) (.cons (.int .i64) (.cons (.own 1) (.int .i64)))), .li (.sl Y2_) 151 false, .st Y8_, .li (.sl Y2_) 151 false])]) (joins := []) (un := []) _ (tc yZ (tc JU (tc ZV tn))) (fun s => by kernel_rfl) (by kernel_rfl)
end Go.Sim
