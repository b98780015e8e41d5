/- Part 4 of the claim RuleNext: D6, D7, D8, D9, D10, D11, D12, I1, I2, I3, I4, D13, D14, D15, D16 -/
import Derived.Test.YtaamhddpmbombaaGreatW3
set_option linter.unusedSimpArgs false
set_option linter.unusedVariables false
set_option linter.defProp false
namespace Go.Sim
open Go.RowKit
section
variable {P : Program} {γ : Pl} {L : List Obj} {h : Heap} {h0 : Heap} {W0 : Ent}
theorem a4v {S : Nat → Prop} {row : List PV} {cs : List Value} {o : Nat} (hl : o + row.length ≤ cs.length) (hr : ∀ (j : Nat) (x : PV) (u : Value), row[j]? = some x → cs[o + j]? = some u → PR P S h x u) :
  All2 (DC P S γ L h) (row.map .p) ((cs.drop o).take row.length) := by
 refine All2.of_get (by simp; omega) fun j d u e1 e2 => ?_
 rw [List.getElem?_map] at e1
 cases hx : row[j]? with
 | none => rw [hx] at e1; cases e1
 | some x =>
  rw [hx] at e1; cases e1
  rw [List.getElem?_take] at e2
  split at e2
  ·rw [List.getElem?_drop] at e2; exact hr j x u hx e2
  ·cases e2
theorem aac {t : TypeId} {cs : List Value} {o n off : Nat} {v : Value} (hl : o + n ≤ cs.length) (e : y9 P t ((cs.drop o).take n) off = some v) : y9 P t cs (o + off) = some v := by
 unfold y9 at e ⊢
 cases hu : P.underlying t with
 | none => simp [hu] at e
 | some q =>
  simp only [hu] at e ⊢
  by_cases ha : a1k P t = true
  ·simp only [ha, if_true] at e ⊢
   cases hs : szT P t with
   | none => simp [hs] at e
   | some k =>
    simp only [hs] at e ⊢
    split at e
    ·rename_i hk
     simp at hk
     rw [if_pos (by omega), ← e]
     congr 2
     rw [List.drop_take, List.take_take, List.drop_drop, Nat.min_eq_left (by omega)]
    ·cases e
  ·simp only [ha] at e ⊢
   simp only [Bool.false_eq_true, if_false] at e ⊢
   rw [List.getElem?_take] at e
   split at e
   ·rw [List.getElem?_drop] at e; exact e
   ·cases e
def acF (d : DV) : Option Int := match d with
 | .p (.v (.int _ n)) => some n
 | _ => none
theorem YL {d : DV} {v : Value} {n : Int} (hd : (DR P (qd W0 γ L h) γ L h) d v) (e : acF d = some n) : ∃ k, v = .int k n := by
 unfold acF at e
 split at e
 ·rename_i k m
  cases e
  exact ⟨k, PR.scal (P := P) (S := qd W0 γ L h) (h := h) hd⟩
 ·cases e
def wI (P : Program) (L : List Obj) (t : TypeId) (x i : DV) : Option DV :=
 match acF i with
 | none => none
 | some n => if 0 ≤ n then
   match P.underlying t with
   | some (.slice e) => match szT P e with
    | some s => match x with
     | .p (.sl z rows) => if z = s then match rows[n.toNat]? with
       | some row => some (.dp row 0)
       | none => none
      else none
     | .ref id lo m tot => match zw L id tot with
      | some rows => if n.toNat < m then match rows[lo + n.toNat]? with
        | some row => if row.length = s then some (.ep id (lo + n.toNat) 0 tot) else none
        | none => none
       else none
      | none => none
     | .aref id off m => if n.toNat < m then some (.ptr id (off + n.toNat * s)) else none
     | _ => none
    | none => none
   | some (.array len e) => match szT P e with
    | some s => if n.toNat < len then onD L (n.toNat * s) x else none
    | none => none
   | _ => none
  else none
theorem xw (H : Hp P h0 W0 γ L h) {t : TypeId} {x i d : DV} {v w : Value} (hx : (DR P (qd W0 γ L h) γ L h) x v) (hi : (DR P (qd W0 γ L h) γ L h) i w) (e : wI P L t x i = some d) : ∃ u, kI P t v w = some u ∧ (DR P (qd W0 γ L h) γ L h) d u := by
 unfold wI at e
 split at e
 ·cases e
 rename_i n hn
 obtain ⟨k, rfl⟩ := YL hi hn
 split at e
 case isFalse => cases e
 rename_i h0n
 split at e
 ·rename_i t' hu
  split at e
  case h_2 => cases e
  rename_i s hs
  split at e
  ·rename_i z rows
   split at e
   case isFalse => cases e
   rename_i hz
   subst hz
   split at e
   case h_2 => cases e
   rename_i row hrow
   cases e
   have hlt : n.toNat < rows.length := (List.getElem?_eq_some_iff.1 hrow).1
   cases (show PR P (qd W0 γ L h) h _ v from hx) with
   | nil => simp at hlt
   | dud => simp at hlt
   | zero => simp at hlt
   | sl hS hb h0 hl hz hr hc hm =>
    rename_i b o c cs te rw
    rw [Qa hu hs, if_pos (by omega)]
    refine ⟨_, rfl, b, o + n.toNat * z, cs, te, rw, hS, hb, rfl, ?_, fun j x u e1 e2 => hr n.toNat row j x u hrow e1 e2⟩
    rw [hz _ _ hrow]
    have : (n.toNat + 1) * z ≤ rows.length * z := Nat.mul_le_mul_right _ hlt
    rw [Nat.succ_mul] at this
    omega
  ·rename_i id lo m tot
   split at e
   case h_2 => cases e
   rename_i rows hro
   split at e
   case isFalse => cases e
   rename_i hm
   split at e
   case h_2 => cases e
   rename_i row hrow
   split at e
   case isFalse => cases e
   rename_i hsz
   cases e
   obtain ⟨q, q1, q2, q3⟩ := kZ hro
   obtain ⟨z, hz⟩ := H.width q1 q2
   have hzs : z = s := by rw [← hz row (List.mem_of_getElem? hrow)]; exact hsz
   subst hzs
   obtain ⟨k1, k2, k3⟩ := hx
   obtain ⟨k4, k5⟩ := k3 q rows q1 q2
   obtain ⟨k6, k7⟩ := k5 q3
   rcases k7 z hz with ⟨_, h1, h2⟩ | ⟨b, o, c, rfl, h1, h2⟩ | ⟨b, o, c, g, rfl, h1⟩
   ·omega
   ·omega
   ·rw [Qa hu hs, if_pos (by omega)]
    have hadd : o + lo * z + n.toNat * z = o + (lo + n.toNat) * z + 0 := by rw [Nat.add_mul]; omega
    rw [hadd]
    refine ⟨_, rfl, k1, rfl, fun q' rows' e1 e2 => ?_⟩
    obtain ⟨m4, m5⟩ := k3 q' rows' e1 e2
    refine ⟨m4, fun e3 => ?_⟩
    obtain ⟨m6, m7⟩ := m5 e3
    refine ⟨by omega, fun z' hz' => ?_⟩
    have hro' : rows' = rows := by
     rw [q1] at e1; cases e1
     cases q <;> first | (cases q2; cases e2; rfl) | exact q2.elim
    subst hro'
    have hzz : z' = z := by rw [← hz row (List.mem_of_getElem? hrow), hz' row (List.mem_of_getElem? hrow)]
    subst hzz
    exact ⟨b, o, g, rfl⟩
  ·rename_i id off m
   split at e
   case isFalse => cases e
   rename_i hm
   cases e
   obtain ⟨b, h1, h2, rfl⟩ := hx
   rw [Qa hu hs, if_pos (by omega)]
   exact ⟨_, rfl, b, h1, h2, rfl⟩
  ·cases e
 ·rename_i len t' hu
  split at e
  case h_2 => cases e
  rename_i s hs
  split at e
  case isFalse => cases e
  rename_i hlen
  obtain ⟨b, o, rfl, h1⟩ := UC H hx e
  rw [Xz hu hs, if_pos (by omega)]
  exact ⟨_, rfl, h1⟩
 ·cases e
def jE (P : Program) (L : List Obj) (t : TypeId) (x : DV) : Option DV :=
 match x with
 | .ptr id off => match L[id]? with
  | some (.st cells) => Q5 P t cells off
  | _ => none
 | .ep id i off tot => match zw L id tot with
  | some rows => match rows[i]? with
   | some row => Q5 P t (row.map .p) off
   | none => none
  | none => none
 | .dp row off => Q5 P t (row.map .p) off
 | _ => none
theorem Zo (H : Hp P h0 W0 γ L h) {t : TypeId} {x d : DV} {v : Value} (hx : (DR P (qd W0 γ L h) γ L h) x v) (e : jE P L t x = some d) : ∃ u, j4 P t h v = some u ∧ (DR P (qd W0 γ L h) γ L h) d u := by
 unfold jE at e
 split at e
 ·rename_i id off
  split at e
  ·rename_i cells hc
   obtain ⟨b, h1, h2, rfl⟩ := hx
   obtain ⟨b', te, vs, g1, g2, g3⟩ := H.obj id _ hc
   rw [h1] at g1; cases g1
   obtain ⟨u, e1, r1⟩ := Q0 g3 e
   exact ⟨u, by simp only [j4, xL, g2]; exact e1, jH r1⟩
  ·cases e
 ·rename_i id i off tot
  split at e
  case h_2 => cases e
  rename_i rows hro
  split at e
  case h_2 => cases e
  rename_i row hrow
  obtain ⟨q, q1, q2, q3⟩ := kZ hro
  obtain ⟨z, hz⟩ := H.width q1 q2
  obtain ⟨k1, k2, k3⟩ := hx
  obtain ⟨k4, k5⟩ := k3 q rows q1 q2
  obtain ⟨k6, k7⟩ := k5 q3
  obtain ⟨b, o, g, rfl⟩ := k7 z hz
  have hR : ∃ te, Rows P (qd W0 γ L h) h b o te rows := by
   have ho := H.obj id q q1
   cases q with
   | li te rs =>
    cases q2
    cases te with
    | none => rw [ho.2] at g; cases g
    | some te => obtain ⟨b', o', g', hR⟩ := ho; rw [g] at g'; cases g'; exact ⟨te, hR⟩
   | fz te rs =>
    cases q2
    cases te with
    | none => rw [ho.2] at g; cases g
    | some te => obtain ⟨b', o', g', _, hR⟩ := ho; rw [g] at g'; cases g'; exact ⟨te, hR⟩
   | st c => exact q2.elim
   | mp => exact q2.elim
   | dead => exact q2.elim
  obtain ⟨te, cs, z', r1, r2, r3, r4, r5, r6, r7⟩ := hR
  have hzz : z' = z := by rw [← hz row (List.mem_of_getElem? hrow), r6 row (List.mem_of_getElem? hrow)]
  subst hzz
  have hil : i < rows.length := (List.getElem?_eq_some_iff.1 hrow).1
  have hmul : (i + 1) * z' ≤ rows.length * z' := Nat.mul_le_mul_right _ hil
  rw [Nat.succ_mul] at hmul
  have hrl := r6 row (List.mem_of_getElem? hrow)
  have h2 := a4v (P := P) (γ := γ) (L := L) (S := qd W0 γ L h) (row := row) (cs := cs) (o := o + i * z') (by omega) (fun j x u e1 e2 => r7 i row j x u hrow e1 e2)
  obtain ⟨u, e1, rr⟩ := Q0 h2 e
  exact ⟨u, by simp only [j4, xL, r1]; exact aac (by omega) e1, jH rr⟩
 ·rename_i row off
  obtain ⟨b, o, cs, te, rw, h1, h2, rfl, h3, h4⟩ := hx
  obtain ⟨u, e1, rr⟩ := Q0 (a4v h3 h4) e
  exact ⟨u, by simp only [j4, xL, h2]; exact aac h3 e1, jH rr⟩
 ·cases e
end
end Go.Sim
namespace Go.Sim
open Go.RowKit
theorem Zq : ∀ (vs cs : List Value) (i m : Nat), i + vs.length ≤ cs.length → (qG cs i vs)[m]? = if i ≤ m ∧ m < i + vs.length then vs[m - i]? else cs[m]?
 | [], cs, i, m, _ => by rw [if_neg (by simp only [List.length_nil]; omega)]; rfl
 | v :: r, cs, i, m, hl => by
  rw [qG, Zq r _ _ _ (by simp only [List.length_cons, List.length_set] at hl ⊢; omega)]
  simp only [List.length_cons] at hl ⊢
  by_cases h1 : i + 1 ≤ m ∧ m < i + 1 + r.length
  ·rw [if_pos h1, if_pos (by omega), show m - i = (m - (i + 1)) + 1 by omega, List.getElem?_cons_succ]
  ·rw [if_neg h1]
   by_cases h2 : m = i
   ·subst h2
    rw [if_pos (by omega), Nat.sub_self, List.getElem?_cons_zero, List.getElem?_set_self (by omega)]
   ·rw [if_neg (by omega), List.getElem?_set_ne (Ne.symm h2)]
def kU : List PV → Nat → List PV → List PV
 | cs, _, [] => cs
 | cs, i, v :: r => kU (cs.set i v) (i + 1) r
@[simp] theorem XM : ∀ (ys cs : List PV) (i : Nat), (kU cs i ys).length = cs.length
  | [], _, _ => rfl
  | v :: r, cs, i => by rw [kU, XM r]; simp
theorem VB : ∀ (vs cs : List PV) (i m : Nat), i + vs.length ≤ cs.length → (kU cs i vs)[m]? = if i ≤ m ∧ m < i + vs.length then vs[m - i]? else cs[m]?
 | [], cs, i, m, _ => by rw [if_neg (by simp only [List.length_nil]; omega)]; rfl
 | v :: r, cs, i, m, hl => by
  rw [kU, VB r _ _ _ (by simp only [List.length_cons, List.length_set] at hl ⊢; omega)]
  simp only [List.length_cons] at hl ⊢
  by_cases h1 : i + 1 ≤ m ∧ m < i + 1 + r.length
  ·rw [if_pos h1, if_pos (by omega), show m - i = (m - (i + 1)) + 1 by omega, List.getElem?_cons_succ]
  ·rw [if_neg h1]
   by_cases h2 : m = i
   ·subst h2
    rw [if_pos (by omega), Nat.sub_self, List.getElem?_cons_zero, List.getElem?_set_self (by omega)]
   ·rw [if_neg (by omega), List.getElem?_set_ne (Ne.symm h2)]
def pvs : List DV → Option (List PV)
 | [] => some []
 | .p x :: l => (pvs l).map (x :: ·)
 | _ :: _ => none
section
variable {P : Program} {γ : Pl} {L : List Obj} {h : Heap} {h0 : Heap} {W0 : Ent}
theorem QD {S : Nat → Prop} : ∀ {ds : List DV} {vs : List Value} {xs : List PV}, All2 (DC P S γ L h) ds vs → pvs ds = some xs → All2 (PR P S h) xs vs
 | [], _, _, .nil, e => by cases e; exact .nil
 | d :: ds, _, _, .cons hd t, e => by
  unfold pvs at e
  split at e
  ·rename_i heq; cases heq
  ·rename_i x l heq
   cases heq
   cases hq : pvs ds with
   | none => rw [hq] at e; cases e
   | some ys => rw [hq] at e; cases e; exact .cons hd (QD t hq)
  ·cases e
def Jc (P : Program) (L : List Obj) (t : TypeId) (p x : DV) : Option (List Obj) :=
 match p with
 | .ptr id off => match L[id]? with
  | some (.st cells) => if is1 x = true ∧ szT P t = some (zg x).length ∧ off + (zg x).length ≤ cells.length then some (L.set id (.st (kD cells off (zg x)))) else none
  | _ => none
 | .ep id i off tot => match L[id]? with
  | some (.li te rows) => if rows.length = tot then match rows[i]? with
    | some row => if is1 x = true then match pvs (zg x) with
      | some ps => if szT P t = some ps.length ∧ off + ps.length ≤ row.length then some (L.set id (.li te (rows.set i (kU row off ps)))) else none
      | none => none
     else none
    | none => none
   else none
  | _ => none
 | _ => none
theorem a5g (H : Hp P h0 W0 γ L h) {id b : Nat} {cells cells' : List DV} {vs vs' : List Value} {te : TypeId} (hi : L[id]? = some (.st cells)) (hg : γ id = some (b, 0)) (hb : h.get b = some (.cells vs te true)) (hr : All2 (DC P (qd W0 γ L h) γ L h) cells' vs') :
  Hp P h0 W0 γ (L.set id (.st cells')) (h.set b (.cells vs' te true)) ∧ Carry W0 γ L h γ (L.set id (.st cells')) (h.set b (.cells vs' te true)) := by
 have hget : ∀ b', b' < h.next → (∀ x, γ id ≠ some (b', x)) → (h.set b (.cells vs' te true)).get b' = h.get b' := fun b' _ hx => Heap.get_set_ne _ _ (by rintro rfl; exact hx 0 hg)
 have c := wH (W0 := W0) (h := h) (γ' := γ) (h' := h.set b (.cells vs' te true)) (o' := .st cells') hi (.inl rfl) (fun _ _ => rfl) (fun c _ => ⟨rfl, _, rfl⟩) (fun rows' hl => hl.elim) (Nat.le_refl _) (fun b x e _ => .inl e) hget
 refine ⟨H.write hi (.inl rfl) c (fun _ _ => rfl) (Nat.le_refl _) (fun b x e => .inl ⟨x, e⟩) (fun x e => H.dom _ _ e) hget ?_, c⟩
 exact ⟨b, te, vs', hg, Heap.get_set_self hb, hr.mono fun _ _ => c.dc⟩
theorem a6l (H : Hp P h0 W0 γ L h) {id b o : Nat} {rows rows' : List (List PV)} {cs cs' : List Value} {te : TypeId} {z : Nat} (hi : L[id]? = some (.li (some te) rows)) (hg : γ id = some (b, o)) (hb : h.get b = some (.cells cs te true))
  (hlen : rows'.length = rows.length) (hw : ∀ r ∈ rows, r.length = z) (hw' : ∀ r ∈ rows', r.length = z) (hz : szT P te = some z) (h0z : 0 < z) (hl : o + rows.length * z ≤ cs'.length) (hm : rows.length ≤ maxLen)
  (hr : ∀ (i : Nat) (r : List PV) (j : Nat) (x : PV) (u : Value), rows'[i]? = some r → r[j]? = some x → cs'[o + i * z + j]? = some u → PR P (qd W0 γ L h) h x u) :
  Hp P h0 W0 γ (L.set id (.li (some te) rows')) (h.set b (.cells cs' te true)) ∧ Carry W0 γ L h γ (L.set id (.li (some te) rows')) (h.set b (.cells cs' te true)) := by
 have hget : ∀ b', b' < h.next → (∀ x, γ id ≠ some (b', x)) → (h.set b (.cells cs' te true)).get b' = h.get b' := fun b' _ hx => Heap.get_set_ne _ _ (by rintro rfl; exact hx o hg)
 have c := wH (W0 := W0) (h := h) (γ' := γ) (h' := h.set b (.cells cs' te true)) (o' := .li (some te) rows') hi (.inl rfl) (fun _ _ => rfl) (fun c e => (by cases e))
  (fun r' hl' => ⟨rows, rfl, by cases hl'; omega, fun _ => ⟨rfl, fun z' hz' r hr' => by
   cases hl'
   rw [hw r hr']
   have hne : 0 < rows.length := List.length_pos_of_mem hr'
   have h1 : rows'[0]'(by omega) ∈ rows' := List.getElem_mem _
   rw [← hz' _ h1, hw' _ h1]⟩⟩) (Nat.le_refl _) (fun b x e _ => .inl e) hget
 refine ⟨H.write hi (.inl rfl) c (fun _ _ => rfl) (Nat.le_refl _) (fun b x e => .inl ⟨x, e⟩) (fun x e => H.dom _ _ e) hget ?_, c⟩
 exact ⟨b, o, hg, cs', z, Heap.get_set_self hb, hz, h0z, by rw [hlen]; exact hl, by rw [hlen]; exact hm, hw', fun i r j x u e1 e2 e3 => c.pr (hr i r j x u e1 e2 e3)⟩
theorem Jf (H : Hp P h0 W0 γ L h) {t : TypeId} {p x : DV} {v u : Value} {L' : List Obj} (hp : (DR P (qd W0 γ L h) γ L h) p v) (hx : (DR P (qd W0 γ L h) γ L h) x u) (e : Jc P L t p x = some L') :
  ∃ h', Q3 P t h v u = some h' ∧ Hp P h0 W0 γ L' h' ∧ Carry W0 γ L h γ L' h' := by
 unfold Jc at e
 split at e
 ·rename_i id off
  split at e
  case h_2 => cases e
  rename_i cells hc
  split at e
  case isFalse => cases e
  rename_i hcond
  obtain ⟨k1, k2, k3⟩ := hcond
  cases e
  obtain ⟨b, h1, _, rfl⟩ := hp
  obtain ⟨b', te, vs, g1, g2, g3⟩ := H.obj id _ hc
  rw [h1] at g1; cases g1
  obtain ⟨q1, q2⟩ := Wp (wL hx k1)
  have hsz : u.cells.size = (zg x).length := by rw [q1.length]; simp
  refine ⟨_, ?_, a5g H hc h1 g2 (Qi g3 q1)⟩
  simp only [Q3, g2]
  rw [if_pos ⟨by rw [hsz]; exact k2, by rw [hsz, ← g3.length]; exact k3, q2⟩]
 ·rename_i id i off tot
  split at e
  case h_2 => cases e
  rename_i te rows hc
  split at e
  case isFalse => cases e
  rename_i htot
  split at e
  case h_2 => cases e
  rename_i row hrow
  split at e
  case isFalse => cases e
  rename_i k1
  split at e
  case h_2 => cases e
  rename_i ps hps
  split at e
  case isFalse => cases e
  rename_i hcond
  obtain ⟨k2, k3⟩ := hcond
  cases e
  have hil : i < rows.length := (List.getElem?_eq_some_iff.1 hrow).1
  have ho := H.obj id _ hc
  cases te with
  | none => obtain ⟨h1, _⟩ := ho; rw [h1] at hil; simp at hil
  | some te =>
   obtain ⟨b, o, hg, cs, z, r1, r2, r3, r4, r5, r6, r7⟩ := ho
   obtain ⟨m1, m2, m3⟩ := hp
   obtain ⟨m4, m5⟩ := m3 _ rows hc rfl
   obtain ⟨m6, m7⟩ := m5 htot
   obtain ⟨b', o', g', rfl⟩ := m7 z r6
   rw [hg] at g'; cases g'
   obtain ⟨q1, q2⟩ := Wp (wL hx k1)
   have q3 := QD q1 hps
   have hsz : u.cells.size = ps.length := by rw [q3.length]; simp
   have hrl := r6 row (List.mem_of_getElem? hrow)
   have hmul : (i + 1) * z ≤ rows.length * z := Nat.mul_le_mul_right _ hil
   rw [Nat.succ_mul] at hmul
   have hul : u.cells.toList.length = ps.length := by simpa using hsz
   refine ⟨_, ?_, a6l H hc hg r1 (cs' := qG cs (o + i * z + off) u.cells.toList) (rows' := rows.set i (kU row off ps)) (by simp) r6 (fun r hr => ?_) r2 r3 (by simpa using r4) r5 ?_⟩
   ·simp only [Q3, r1]
    rw [if_pos ⟨by rw [hsz]; exact k2, by rw [hsz]; omega, q2⟩]
   ·obtain ⟨j, hj⟩ := List.mem_iff_getElem?.1 hr
    rcases getElem?_set' hj with ⟨_, hj⟩ | ⟨_, _, rfl⟩
    ·exact r6 r (List.mem_of_getElem? hj)
    ·simpa using hrl
   ·intro i' r' j x' w e1 e2 e3
    rw [Zq _ _ _ _ (by rw [hul]; omega)] at e3
    rcases getElem?_set' e1 with ⟨hne, e1⟩ | ⟨rfl, _, rfl⟩
    ·have hr'l := r6 r' (List.mem_of_getElem? e1)
     have hj : j < z := by rw [← hr'l]; exact (List.getElem?_eq_some_iff.1 e2).1
     have hi'l : i' < rows.length := (List.getElem?_eq_some_iff.1 e1).1
     rw [if_neg ?_] at e3
     ·exact r7 i' r' j x' w e1 e2 e3
     ·rw [hul]
      rintro ⟨a1, a2⟩
      rcases Nat.lt_or_gt_of_ne hne with hlt | hlt
      ·have : (i' + 1) * z ≤ i * z := Nat.mul_le_mul_right _ hlt
       rw [Nat.succ_mul] at this
       omega
      ·have : (i + 1) * z ≤ i' * z := Nat.mul_le_mul_right _ hlt
       rw [Nat.succ_mul] at this
       omega
    ·have hj : j < row.length := by have := (List.getElem?_eq_some_iff.1 e2).1; simpa using this
     rw [VB _ _ _ _ k3] at e2
     by_cases hin : off ≤ j ∧ j < off + ps.length
     ·rw [if_pos hin] at e2
      rw [if_pos (by rw [hul]; omega)] at e3
      obtain ⟨w', e4, rr⟩ := q3.get e2
      rw [show o + i' * z + j - (o + i' * z + off) = j - off by omega, e4] at e3
      cases e3
      exact rr
     ·rw [if_neg hin] at e2
      rw [if_neg (by rw [hul]; omega)] at e3
      exact r7 i' row j x' w hrow e2 e3
 ·cases e
theorem ae9 (H : Hp P h0 W0 γ L h) {cells : List DV} {vs : List Value} (te : TypeId) (hr : All2 (DC P (qd W0 γ L h) γ L h) cells vs) :
  ∃ γ', Hp P h0 W0 γ' (L ++ [.st cells]) (h.push (.cells vs te true)) ∧ Carry W0 γ L h γ' (L ++ [.st cells]) (h.push (.cells vs te true)) ∧ DR P (qd W0 γ' (L ++ [.st cells]) (h.push (.cells vs te true))) γ' (L ++ [.st cells]) (h.push (.cells vs te true)) (.ptr L.length 0) (wh h.next) := by
 have c := Jh (W0 := W0) (h := h) H.dom (.cells vs te true) (.st cells)
 refine ⟨_, H.push ?_, c, h.next, by simp [yb], ⟨cells, by simp⟩, rfl⟩
 exact ⟨h.next, te, vs, by simp [yb], Heap.get_push_self _ _, hr.mono fun _ _ => c.dc⟩
theorem Uw (H : Hp P h0 W0 γ L h) {rows : List (List PV)} {cs : List Value} {te : TypeId} {z c : Nat} (hz : szT P te = some z) (h0z : 0 < z) (hl : rows.length * z ≤ cs.length) (hm : rows.length ≤ maxLen) (hw : ∀ r ∈ rows, r.length = z)
  (hr : ∀ (i : Nat) (r : List PV) (j : Nat) (x : PV) (u : Value), rows[i]? = some r → r[j]? = some x → cs[i * z + j]? = some u → PR P (qd W0 γ L h) h x u) (hc : c = unk ∨ (rows.length ≤ c ∧ c ≤ maxLen)) :
  ∃ γ', Hp P h0 W0 γ' (L ++ [.li (some te) rows]) (h.push (.cells cs te true)) ∧ Carry W0 γ L h γ' (L ++ [.li (some te) rows]) (h.push (.cells cs te true)) ∧
   DR P (qd W0 γ' (L ++ [.li (some te) rows]) (h.push (.cells cs te true))) γ' (L ++ [.li (some te) rows]) (h.push (.cells cs te true)) (.ref L.length 0 rows.length rows.length) (qr rows.length c h.next) := by
 have c' := Jh (W0 := W0) (h := h) H.dom (.cells cs te true) (.li (some te) rows)
 have hd1 : dud > maxLen := by decide
 have hd2 : qB > maxLen := by decide
 have hd3 : unk ≠ dud := by decide
 have hd4 : unk ≠ qB := by decide
 refine ⟨_, H.push ?_, c', by simp, rfl, fun o rs e1 e2 => ?_⟩
 ·exact ⟨h.next, 0, by simp [yb], cs, z, Heap.get_push_self _ _, hz, h0z, by omega, hm, hw, fun i r j x u e1 e2 e3 => c'.pr (hr i r j x u e1 e2 (by simpa using e3))⟩
 ·simp at e1
  subst e1
  cases e2
  refine ⟨Nat.le_refl _, fun _ => ⟨by omega, fun z' _ => .inr (.inr ⟨h.next, 0, c, by simp [yb], by simp [qr], ?_, ?_, hc⟩)⟩⟩
  ·rcases hc with rfl | hc
   ·exact hd3
   ·omega
  ·rcases hc with rfl | hc
   ·exact hd4
   ·omega
end
end Go.Sim
namespace Go.Sim
open Go.RowKit
section
variable {P : Program} {γ : Pl} {L : List Obj} {h : Heap} {h0 : Heap} {W0 : Ent}
structure FlatR (P : Program) (S : Nat → Prop) (h : Heap) (z : Nat) (rows : List (List PV)) (cs : List Value) : Prop where
 len : cs.length = rows.length * z
 wide : ∀ r ∈ rows, r.length = z
 get : ∀ (i : Nat) (r : List PV) (j : Nat) (x : PV) (u : Value), rows[i]? = some r → r[j]? = some x → cs[i * z + j]? = some u → PR P S h x u
theorem jA {S : Nat → Prop} (z : Nat) : FlatR P S h z [] [] := ⟨by simp, by simp, fun i r j x u e => by simp at e⟩
theorem FlatR.append {S : Nat → Prop} {z : Nat} {r1 r2 : List (List PV)} {c1 c2 : List Value} (a : FlatR P S h z r1 c1) (b : FlatR P S h z r2 c2) : FlatR P S h z (r1 ++ r2) (c1 ++ c2) := by
 refine ⟨by rw [List.length_append, List.length_append, a.len, b.len, Nat.add_mul], fun r hr => ?_, fun i r j x u e1 e2 e3 => ?_⟩
 ·rcases List.mem_append.1 hr with hr | hr
  ·exact a.wide r hr
  ·exact b.wide r hr
 ·by_cases hi : i < r1.length
  ·rw [List.getElem?_append_left hi] at e1
   have hj : j < z := by rw [← a.wide r (List.mem_of_getElem? e1)]; exact (List.getElem?_eq_some_iff.1 e2).1
   have : (i + 1) * z ≤ r1.length * z := Nat.mul_le_mul_right _ hi
   rw [Nat.succ_mul] at this
   rw [List.getElem?_append_left (by rw [a.len]; omega)] at e3
   exact a.get i r j x u e1 e2 e3
  ·rw [List.getElem?_append_right (by omega)] at e1
   have : r1.length * z ≤ i * z := Nat.mul_le_mul_right _ (by omega)
   rw [List.getElem?_append_right (by rw [a.len]; omega), a.len] at e3
   refine b.get _ r j x u e1 e2 ?_
   rw [Nat.sub_mul, ← e3]
   congr 1
   omega
theorem aeP {S : Nat → Prop} {row : List PV} {vs : List Value} (hr : All2 (PR P S h) row vs) : FlatR P S h row.length [row] vs := by
 refine ⟨by simp [hr.length], by simp, fun i r j x u e1 e2 e3 => ?_⟩
 cases i with
 | succ i => simp at e1
 | zero =>
  simp at e1; subst e1
  obtain ⟨w, e4, rr⟩ := hr.get e2
  rw [Nat.zero_mul, Nat.zero_add] at e3
  rw [e4] at e3; cases e3
  exact rr
theorem WN {S : Nat → Prop} {cs : List Value} {o z lo n : Nat} {rows : List (List PV)} (hl : o + rows.length * z ≤ cs.length) (hw : ∀ r ∈ rows, r.length = z) (hn : lo + n ≤ rows.length)
  (hr : ∀ (i : Nat) (r : List PV) (j : Nat) (x : PV) (u : Value), rows[i]? = some r → r[j]? = some x → cs[o + i * z + j]? = some u → PR P S h x u) :
  FlatR P S h z ((rows.drop lo).take n) ((cs.drop (o + lo * z)).take (n * z)) := by
 have h1 : (lo + n) * z ≤ rows.length * z := Nat.mul_le_mul_right _ hn
 rw [Nat.add_mul] at h1
 refine ⟨by simp; rw [Nat.min_eq_left (by omega), Nat.min_eq_left (by omega)], fun r hr => hw r (List.mem_of_mem_drop (List.mem_of_mem_take hr)), fun i r j x u e1 e2 e3 => ?_⟩
 rw [List.getElem?_take] at e1 e3
 split at e1
 case isFalse => cases e1
 split at e3
 case isFalse => cases e3
 rw [List.getElem?_drop] at e1 e3
 refine hr (lo + i) r j x u e1 e2 ?_
 rw [← e3]
 congr 1
 rw [Nat.add_mul]
 omega
def a2y (P : Program) (L : List Obj) (s : Nat) (t : TypeId) (x : DV) : Option (List (List PV)) :=
 match P.underlying t with
 | some (.slice _) => match x with
  | .p (.sl z rows) => if z = s then some rows else none
  | .p (.v (.slice none 0 0)) => some []
  | .ref id lo n tot => match zw L id tot with
   | some rows => if rows.all (fun r => r.length == s) then some ((rows.drop lo).take n) else none
   | none => none
  | .aref id off n => match L[id]? with
   | some (.st cells) => if s = 1 ∧ off + n ≤ cells.length then (pvs ((cells.drop off).take n)).map fun l => l.map fun x => [x] else none
   | _ => none
  | _ => none
 | some .string => match x with
  | .p (.v (.string b)) => if s = 1 then some (b.data.toList.map fun c => [.v (.int .u8 c.toNat)]) else none
  | _ => none
 | _ => none
theorem Hp.rows (H : Hp P h0 W0 γ L h) {id b o : Nat} {q : Obj} {rows : List (List PV)} (e : L[id]? = some q) (hl : q.isList rows) (hg : γ id = some (b, o)) : ∃ te, Rows P (qd W0 γ L h) h b o te rows := by
 have ho := H.obj id q e
 cases q with
 | li te rs =>
  cases hl
  cases te with
  | none => rw [ho.2] at hg; cases hg
  | some te => obtain ⟨b', o', g', hR⟩ := ho; rw [hg] at g'; cases g'; exact ⟨te, hR⟩
 | fz te rs =>
  cases hl
  cases te with
  | none => rw [ho.2] at hg; cases hg
  | some te => obtain ⟨b', o', g', _, hR⟩ := ho; rw [hg] at g'; cases g'; exact ⟨te, hR⟩
 | st c => exact hl.elim
 | mp c => exact hl.elim
 | dead => exact hl.elim
theorem uy {S : Nat → Prop} {z : Nat} {rows : List (List PV)} {cs : List Value} (hf : FlatR P S h z rows cs) : cs.all Value.oneCell' = true := by
 rw [List.all_eq_true]
 intro u hu
 obtain ⟨k, hk, rfl⟩ := List.mem_iff_getElem.1 hu
 have hz : 0 < z := by
  rcases Nat.eq_zero_or_pos z with q | q
  ·rw [hf.len, q] at hk; simp at hk
  ·exact q
 have hi : k / z < rows.length := by rw [Nat.div_lt_iff_lt_mul hz, ← hf.len]; exact hk
 have hrw := hf.wide _ (List.getElem_mem hi)
 have hj : k % z < rows[k / z].length := by rw [hrw]; exact Nat.mod_lt _ hz
 refine PR.one (hf.get (k / z) rows[k / z] (k % z) _ _ (List.getElem?_eq_getElem hi) (List.getElem?_eq_getElem hj) ?_)
 rw [show k / z * z + k % z = k by rw [Nat.mul_comm]; exact Nat.div_add_mod k z]
 exact List.getElem?_eq_getElem hk
theorem J8 {S : Nat → Prop} {xs : List PV} {vs : List Value} (hr : All2 (PR P S h) xs vs) : FlatR P S h 1 (xs.map fun x => [x]) vs := by
 induction hr with
 | nil => exact jA 1
 | cons hx t ih => exact (aeP (.cons hx .nil)).append ih
theorem yk (H : Hp P h0 W0 γ L h) {s : Nat} {t : TypeId} {x : DV} {v : Value} {rows : List (List PV)} (hx : (DR P (qd W0 γ L h) γ L h) x v) (e : a2y P L s t x = some rows) :
  ∃ cs, a50 P s t h v = some (rows.length, cs) ∧ FlatR P (qd W0 γ L h) h s rows cs := by
 unfold a2y at e
 unfold a50
 split at e
 ·rename_i te hu
  simp only [hu]
  split at e
  ·rename_i z rs
   split at e
   case isFalse => cases e
   rename_i hz
   subst hz
   cases e
   cases (show PR P (qd W0 γ L h) h _ v from hx) with
   | nil => exact ⟨[], rfl, jA z⟩
   | dud => exact ⟨[], rfl, jA z⟩
   | zero => exact ⟨[], rfl, jA z⟩
   | sl hS hb hz0 hl hz hr hc hm =>
    rename_i b o c cs te rw
    have hf := WN (P := P) (h := h) (S := qd W0 γ L h) (cs := cs) (o := o) (z := z) (lo := 0) (n := rows.length) hl (fun r hr => by obtain ⟨i, hi⟩ := List.mem_iff_getElem?.1 hr; exact hz i r hi) (by omega) hr
    simp only [List.drop_zero, List.take_length, Nat.zero_mul, Nat.add_zero] at hf
    by_cases h0r : rows.length = 0
    ·have : rows = [] := List.length_eq_zero_iff.1 h0r
     subst this
     exact ⟨[], rfl, jA z⟩
    ·simp only [if_neg h0r, hb]
     rw [if_pos ⟨hl, uy hf⟩]
     exact ⟨_, rfl, hf⟩
  ·cases e
   have : v = .slice none 0 0 := PR.scal (P := P) (S := qd W0 γ L h) (h := h) hx
   subst this
   exact ⟨[], rfl, jA s⟩
  ·rename_i id lo n tot
   split at e
   case h_2 => cases e
   rename_i rs hro
   split at e
   case isFalse => cases e
   rename_i hall
   cases e
   obtain ⟨q, q1, q2, q3⟩ := kZ hro
   have hall' : ∀ r ∈ rs, r.length = s := fun r hr => by have := List.all_eq_true.1 hall r hr; simpa using this
   obtain ⟨k1, k2, k3⟩ := hx
   obtain ⟨k4, k5⟩ := k3 q rs q1 q2
   obtain ⟨k6, k7⟩ := k5 q3
   have hlen : ((rs.drop lo).take n).length = n := by simp; omega
   rw [hlen]
   rcases k7 s hall' with ⟨rfl | ⟨b, o, rfl⟩, h1, h2⟩ | ⟨b, o, c, rfl, h1, h2⟩ | ⟨b, o, c, g, rfl, h1⟩
   ·have : n = 0 := by omega
    subst this
    exact ⟨[], rfl, by simpa using jA s⟩
   ·have : n = 0 := by omega
    subst this
    exact ⟨[], rfl, by simpa using jA s⟩
   ·subst h1
    exact ⟨[], rfl, by simpa using jA s⟩
   ·by_cases hn : n = 0
    ·subst hn
     exact ⟨[], rfl, by simpa using jA s⟩
    ·obtain ⟨te, cs, z, r1, r2, r3, r4, r5, r6, r7⟩ := H.rows q1 q2 g
     have hne : 0 < rs.length := by omega
     have hzs : z = s := by rw [← r6 _ (List.getElem_mem hne), hall' _ (List.getElem_mem hne)]
     subst hzs
     have hf := WN (P := P) (h := h) (S := qd W0 γ L h) r4 r6 (lo := lo) (n := n) (by omega) r7
     simp only [if_neg hn, r1]
     have hm : (lo + n) * z ≤ rs.length * z := Nat.mul_le_mul_right _ (by omega)
     rw [Nat.add_mul] at hm
     rw [if_pos ⟨by omega, uy hf⟩]
     exact ⟨_, rfl, hf⟩
  ·rename_i id off n
   split at e
   case h_2 => cases e
   rename_i cells hc
   split at e
   case isFalse => cases e
   rename_i hcond
   obtain ⟨rfl, hle⟩ := hcond
   cases hp : pvs ((cells.drop off).take n) with
   | none => rw [hp] at e; cases e
   | some xs =>
    rw [hp] at e; cases e
    obtain ⟨b, h1, _, rfl⟩ := hx
    obtain ⟨b', te, vs, g1, g2, g3⟩ := H.obj id _ hc
    rw [h1] at g1; cases g1
    have hr := QD ((g3.drop off).take n) hp
    have hlen : xs.length = n := by rw [hr.length, ← ((g3.drop off).take n).length]; simp; omega
    have hf := J8 hr
    rw [List.length_map, hlen]
    by_cases hn : n = 0
    ·subst hn
     have : xs = [] := List.length_eq_zero_iff.1 hlen
     subst this
     exact ⟨[], rfl, jA 1⟩
    ·simp only [if_neg hn, g2, Nat.mul_one]
     rw [if_pos ⟨by rw [← g3.length]; exact hle, uy hf⟩]
     exact ⟨_, rfl, hf⟩
  ·cases e
 ·rename_i hu
  simp only [hu]
  split at e
  ·rename_i bs
   split at e
   case isFalse => cases e
   rename_i hs
   subst hs
   cases e
   have : v = .string bs := PR.scal (P := P) (S := qd W0 γ L h) (h := h) hx
   subst this
   simp only [if_true]
   refine ⟨jO bs, ?_, ?_⟩
   ·rw [List.length_map]; rfl
   ·have key : ∀ l : List UInt8, All2 (PR P (qd W0 γ L h) h) (l.map fun c => PV.v (.int .u8 c.toNat)) (l.map fun c => Value.int .u8 c.toNat) := by
     intro l
     induction l with
     | nil => exact .nil
     | cons c l ih => exact .cons (PR.v rfl) ih
    have := J8 (key bs.data.toList)
    rw [List.map_map] at this
    exact this
  ·cases e
 ·cases e
end
end Go.Sim
namespace Go.Sim
open Go.RowKit
def ZS (γ : Pl) (id b : Nat) : Pl := fun i => if i = id then some (b, 0) else γ i
section
variable {P : Program} {γ : Pl} {L : List Obj} {h : Heap} {h0 : Heap} {W0 : Ent}
theorem FlatR.mono {S S' : Nat → Prop} {h h' : Heap} {z : Nat} {rows : List (List PV)} {cs : List Value} (hf : FlatR P S h z rows cs) (hs : ∀ b, S b → S' b ∧ h'.get b = h.get b) : FlatR P S' h' z rows cs :=
 ⟨hf.len, hf.wide, fun i r j x u e1 e2 e3 => (hf.get i r j x u e1 e2 e3).mono hs⟩
theorem a3a (H : Hp P h0 W0 γ L h) {id : Nat} {te0 : Option TypeId} {te : TypeId} {rows rows' : List (List PV)} {cs : List Value} {z : Nat} {hk : Heap} (hi : L[id]? = some (.li te0 rows)) (hlt : rows.length < rows'.length)
  (hz : szT P te = some z) (h0z : 0 < z) (hm : rows'.length ≤ maxLen) (hf : FlatR P (qd W0 γ L h) h z rows' cs) (hk1 : hk.next = h.next) (hk2 : ∀ b, (∀ x, γ id ≠ some (b, x)) → hk.get b = h.get b) (hte : te0 = none → γ id = none) :
  Hp P h0 W0 (ZS γ id h.next) (L.set id (.li (some te) rows')) (hk.push (.cells cs te true)) ∧ Carry W0 γ L h (ZS γ id h.next) (L.set id (.li (some te) rows')) (hk.push (.cells cs te true)) ∧
   DR P (qd W0 (ZS γ id h.next) (L.set id (.li (some te) rows')) (hk.push (.cells cs te true))) (ZS γ id h.next) (L.set id (.li (some te) rows')) (hk.push (.cells cs te true)) (.ref id 0 rows'.length rows'.length) (qr rows'.length unk hk.next) := by
 have hid : id < L.length := (List.getElem?_eq_some_iff.1 hi).1
 have hγ : ∀ j, j ≠ id → ZS γ id h.next j = γ j := fun j hj => if_neg hj
 have hget : ∀ b', b' < h.next → (∀ x, γ id ≠ some (b', x)) → (hk.push (.cells cs te true)).get b' = h.get b' := fun b' hb hx => by
  rw [Heap.get_push_ne _ _ (by omega)]; exact hk2 b' hx
 have hd : (Obj.li te0 rows).owns = true ∨ γ id = none := by
  cases te0 with
  | none => exact .inr (hte rfl)
  | some _ => exact .inl rfl
 have hn : h.next ≤ (hk.push (.cells cs te true)).next := by simp; omega
 have c := wH (W0 := W0) (h := h) (γ' := ZS γ id h.next) (h' := hk.push (.cells cs te true)) (o' := .li (some te) rows') hi hd hγ (fun c e => (by cases e)) (fun r' hl' => ⟨rows, rfl, by cases hl'; omega, fun e => by cases hl'; omega⟩) hn
  (fun b x e _ => .inr (by simp [ZS] at e; omega)) hget
 have hdu : unk ≠ dud := by decide
 have hdn : unk ≠ qB := by decide
 refine ⟨H.write hi hd c hγ hn (fun b x e => .inr (by simp [ZS] at e; omega)) (fun _ _ => hid) hget ?_, c, by simpa using hid, rfl, fun o rs e1 e2 => ?_⟩
 ·refine ⟨h.next, 0, by simp [ZS], cs, z, by rw [← hk1]; exact Heap.get_push_self _ _, hz, h0z, by rw [hf.len]; omega, hm, hf.wide, fun i r j x u e1 e2 e3 => c.pr (hf.get i r j x u e1 e2 (by simpa using e3))⟩
 ·simp [List.getElem?_set, hid] at e1
  subst e1
  cases e2
  exact ⟨Nat.le_refl _, fun _ => ⟨by omega, fun z' _ => .inr (.inr ⟨h.next, 0, unk, by simp [ZS], by simp [qr, hk1], hdu, hdn, .inl rfl⟩)⟩⟩
theorem a8O (H : Hp P h0 W0 γ L h) : Hp P h0 W0 γ (L ++ [.li none []]) h ∧ Carry W0 γ L h γ (L ++ [.li none []]) h ∧ DR P (qd W0 γ (L ++ [.li none []]) h) γ (L ++ [.li none []]) h (.ref L.length 0 0 0) (.slice none 0 0) := by
 have hno : γ L.length = none := by
  cases hq : γ L.length with
  | none => rfl
  | some x => have := H.dom _ _ hq; omega
 refine ⟨H.virtual rfl ⟨rfl, hno⟩, ZI _ rfl, by simp, rfl, fun o rs e1 e2 => ?_⟩
 simp at e1
 subst e1
 cases e2
 exact ⟨Nat.le_refl _, fun _ => ⟨by omega, fun z _ => .inl ⟨.inl rfl, rfl, hno⟩⟩⟩
def K7 (P : Program) (ts : List TypeId) (L : List Obj) (s x : DV) : Option (DV × List Obj) :=
 match ts with
 | [t, t2] => match P.underlying t with
  | some (.slice e) => match P.info? e, qY P e with
   | some i, some _ => match a2y P L i.size t2 x with
    | some ys => match s with
     | .p (.v (.slice none 0 0)) => if 0 < i.size ∧ ys.length ≤ maxLen ∧ ys.length * i.bytes ≤ 140737488355328 then some (.ref L.length 0 ys.length ys.length, L ++ [.li (if ys.length = 0 then none else some e) ys]) else none
     | .ref id lo n tot => match L[id]? with
      | some (.li te rows) => if lo = 0 ∧ rows.length = tot ∧ n = tot ∧ (te = none ∨ te = some e) ∧ 0 < i.size ∧ n + ys.length ≤ maxLen ∧ (n + ys.length) * i.bytes ≤ 140737488355328 then
        some (.ref id 0 (n + ys.length) (n + ys.length), L.set id (.li (if ys.length = 0 then te else some e) (rows ++ ys))) else none
      | _ => none
     | _ => none
    | none => none
   | _, _ => none
  | _ => none
 | _ => none
theorem YC (H : Hp P h0 W0 γ L h) {ts : List TypeId} {s x d : DV} {v w : Value} {L' : List Obj} (hs : (DR P (qd W0 γ L h) γ L h) s v) (hx : (DR P (qd W0 γ L h) γ L h) x w) (e : K7 P ts L s x = some (d, L')) :
  ∃ v' h' γ', jq P ts h v w = some (v', h') ∧ Hp P h0 W0 γ' L' h' ∧ Carry W0 γ L h γ' L' h' ∧ DR P (qd W0 γ' L' h') γ' L' h' d v' := by
 unfold K7 at e
 split at e
 case h_2 => cases e
 rename_i t t2
 split at e
 case h_2 => cases e
 rename_i te hu
 split at e
 case h_2 => cases e
 rename_i i zz hi hzz
 split at e
 case h_2 => cases e
 rename_i ys hys
 obtain ⟨cs, hsrc, hf⟩ := yk H hx hys
 have hsz : szT P te = some i.size := by unfold szT; rw [hi]; rfl
 unfold jq
 simp only [hu, hi, hzz, hsrc]
 split at e
 ·-- nil
  split at e
  case isFalse => cases e
  rename_i hc
  obtain ⟨c1, c2, c3⟩ := hc
  cases e
  have : v = .slice none 0 0 := PR.scal (P := P) (S := qd W0 γ L h) (h := h) hs
  subst this
  by_cases h0y : ys.length = 0
  ·have : ys = [] := List.length_eq_zero_iff.1 h0y
   subst this
   simp only [List.length_nil, if_true]
   obtain ⟨a1, a2, a3⟩ := a8O H
   exact ⟨_, _, γ, rfl, a1, a2, a3⟩
  ·simp only [if_neg h0y]
   rw [if_pos ⟨c2, c3⟩]
   obtain ⟨γ', a1, a2, a3⟩ := Uw H (te := te) (c := unk) hsz c1 (by rw [hf.len]; exact Nat.le_refl _) c2 hf.wide hf.get (.inl rfl)
   exact ⟨_, _, γ', rfl, a1, a2, a3⟩
 ·rename_i id lo n tot
  split at e
  case h_2 => cases e
  rename_i te0 rows hli
  split at e
  case isFalse => cases e
  rename_i hc
  obtain ⟨rfl, c1, c2, c3, c4, c5, c6⟩ := hc
  cases e
  subst c1
  subst c2
  by_cases h0y : ys.length = 0
  ·have : ys = [] := List.length_eq_zero_iff.1 h0y
   subst this
   have hL : L.set id (.li te0 (rows ++ [])) = L := by
    rw [List.append_nil]
    refine List.ext_getElem? fun j => ?_
    by_cases hj : j = id
    ·subst hj
     rw [List.getElem?_set_self (List.getElem?_eq_some_iff.1 hli).1, hli]
    ·rw [List.getElem?_set_ne (Ne.symm hj)]
   simp only [List.length_nil, if_true, Nat.add_zero]
   rw [hL]
   have hv : ∃ a n c, v = .slice a n c ∧ (a = none → n = 0 ∧ c = 0) ∧ (∀ q, a = some q → q.spot = none) := by
    obtain ⟨k1, k2, k3⟩ := hs
    obtain ⟨k4, k5⟩ := k3 _ rows hli rfl
    obtain ⟨k6, k7⟩ := k5 rfl
    obtain ⟨z, hz⟩ := H.width hli rfl
    rcases k7 z hz with ⟨rfl | ⟨b, o, rfl⟩, _⟩ | ⟨b, o, c, rfl, _⟩ | ⟨b, o, c, _, rfl, _⟩
    ·exact ⟨_, _, _, rfl, fun _ => ⟨rfl, rfl⟩, fun q e => (by cases e)⟩
    ·exact ⟨_, _, _, rfl, fun e => (by cases e), fun q e => (by cases e; rfl)⟩
    ·exact ⟨_, _, _, rfl, fun e => (by cases e), fun q e => (by cases e; rfl)⟩
    ·exact ⟨_, _, _, rfl, fun e => (by cases e), fun q e => (by cases e; rfl)⟩
   obtain ⟨a, m, c, rfl, ha, hq⟩ := hv
   cases a with
   | none => obtain ⟨rfl, rfl⟩ := ha rfl; exact ⟨_, _, γ, rfl, H, Carry.refl _ _ _, hs⟩
   | some q =>
    obtain ⟨qb, qo, qv⟩ := q
    have := hq _ rfl
    simp only at this
    subst this
    exact ⟨_, _, γ, rfl, H, Carry.refl _ _ _, hs⟩
  ·obtain ⟨k1, k2, k3⟩ := hs
   obtain ⟨k4, k5⟩ := k3 _ rows hli rfl
   obtain ⟨k6, k7⟩ := k5 rfl
   obtain ⟨z0, hz0⟩ := H.width hli rfl
   have ho := H.obj id _ hli
   have hlen : (rows ++ ys).length = rows.length + ys.length := List.length_append
   simp only [if_neg h0y]
   cases te0 with
   | none =>
    obtain ⟨rfl, hγn⟩ := ho
    rcases k7 z0 hz0 with ⟨rfl | ⟨b, o, rfl⟩, _⟩ | ⟨b, o, c, rfl, _, h2⟩ | ⟨b, o, c, g, _⟩
    ·simp only
     simp only [List.length_nil, Nat.zero_add] at c5 c6
     rw [if_pos ⟨c5, c6⟩]
     obtain ⟨a1, a2, a3⟩ := a3a H (rows' := [] ++ ys) (hk := h) hli (by simp; omega) hsz c4 (by simpa using c5) (by simpa using hf) rfl (fun _ _ => rfl) (fun _ => hγn)
     simp only [List.nil_append, List.length_nil, Nat.zero_add] at a1 a2 a3 ⊢
     exact ⟨_, _, _, rfl, a1, a2, a3⟩
    ·simp only
     simp only [List.length_nil, Nat.zero_add] at c5 c6
     rw [if_neg (by rintro (q | q) <;> (simp [dud, qB] at q)), if_pos (by simpa using ⟨c5, c6⟩), if_pos ⟨trivial, trivial⟩]
     obtain ⟨a1, a2, a3⟩ := a3a H (rows' := [] ++ ys) (hk := h) hli (by simp; omega) hsz c4 (by simpa using c5) (by simpa using hf) rfl (fun _ _ => rfl) (fun _ => hγn)
     simp only [List.nil_append, List.length_nil, Nat.zero_add] at a1 a2 a3 ⊢
     exact ⟨_, _, _, rfl, a1, a2, a3⟩
    ·simp at h2
    ·rw [hγn] at g; cases g
   | some te' =>
    have hte : te' = te := by rcases c3 with c3 | c3 <;> cases c3; rfl
    subst hte
    obtain ⟨b', o', g', cs0, z, r1, r2, r3, r4, r5, r6, r7⟩ := ho
    have hzi : z = i.size := by rw [hsz] at r2; cases r2; rfl
    subst hzi
    rcases k7 _ r6 with ⟨_, _, h2⟩ | ⟨b, o, c, rfl, h1, h2⟩ | ⟨b, o, c, g, rfl, d1, d2, d3⟩
    ·rw [h2] at g'; cases g'
    ·omega
    ·rw [g'] at g; cases g
     simp only [Nat.zero_mul, Nat.add_zero]
     rw [if_neg (by rintro (q | q) <;> contradiction), if_pos ⟨c5, c6⟩]
     have hf0 := WN (P := P) (h := h) (S := qd W0 γ L h) r4 r6 (lo := 0) (n := rows.length) (by omega) r7
     simp only [List.drop_zero, List.take_length, Nat.zero_mul, Nat.add_zero] at hf0
     have hff := hf0.append hf
     have key : ∀ hk : Heap, hk.next = h.next → (∀ b, (∀ x, γ id ≠ some (b, x)) → hk.get b = h.get b) → ∃ v' h'' γ', some (qr (rows.length + ys.length) unk hk.next, hk.push (.cells ((cs0.drop o').take (rows.length * i.size) ++ cs) te' true)) = some (v', h'') ∧
       Hp P h0 W0 γ' (L.set id (.li (some te') (rows ++ ys))) h'' ∧ Carry W0 γ L h γ' (L.set id (.li (some te') (rows ++ ys))) h'' ∧ DR P (qd W0 γ' (L.set id (.li (some te') (rows ++ ys))) h'') γ' (L.set id (.li (some te') (rows ++ ys))) h'' (.ref id 0 (rows.length + ys.length) (rows.length + ys.length)) v' := by
      intro hk hk1 hk2
      obtain ⟨a1, a2, a3⟩ := a3a H (rows' := rows ++ ys) (hk := hk) hli (by rw [hlen]; omega) hsz c4 (by rw [hlen]; exact c5) hff hk1 hk2 (fun e => by cases e)
      rw [hlen] at a3
      exact ⟨_, _, _, rfl, a1, a2, a3⟩
     have e1 : h.next = h.next := rfl
     by_cases h00 : rows.length = 0 ∧ c = 0
     ·rw [if_pos h00]
      have hk := key h rfl fun _ _ => rfl
      have h0' : (cs0.drop o').take (rows.length * i.size) = [] := by rw [h00.1, Nat.zero_mul, List.take_zero]
      rw [h0', List.nil_append] at hk
      exact hk
     rw [if_neg h00]
     simp only [r1]
     rw [if_pos ⟨r4, .inr ⟨r2, trivial⟩⟩]
     split
     ·exact key h rfl fun _ _ => rfl
     ·have := key (h.kill b') rfl fun b hb => Heap.get_kill_ne h (by rintro rfl; exact hb o' g')
      exact this
 ·cases e
end
end Go.Sim
namespace Go.Sim
open Go.RowKit
theorem Qt {n c : Nat} {lo hi mx : Option Value} {l r : Nat} {om : Option Nat} (hc : n ≤ c) (e : qz n n lo hi mx = some (l, r, om)) : qz n c lo hi mx = some (l, r, om) ∧ l ≤ r ∧ r ≤ n ∧ (∀ m, om = some m → r ≤ m ∧ m ≤ n) := by
 unfold qz at e ⊢
 split at e
 ·split at e
  ·rename_i m vh h1 
   split at e
   ·split at e
    ·rename_i h2
     rename_i hh _ 
     split at e
     ·split at e
      ·split at e
       ·rename_i vl l' h3 h4
        cases e
        rw [if_pos ⟨by omega, h2.2⟩]
        simp only [h3, if_pos h4]
        exact ⟨trivial, h4, by omega, fun m' e' => by cases e'; omega⟩
       ·cases e
      ·cases e
     ·cases e
      rw [if_pos ⟨by omega, h2.2⟩]
      exact ⟨rfl, by omega, by omega, fun m' e' => by cases e'; omega⟩
    ·cases e
   ·cases e
  ·cases e
 ·split at e
  ·split at e
   ·split at e
    ·rename_i h2
     split at e
     ·split at e
      ·split at e
       ·rename_i vl l' h3 h4
        cases e
        rw [if_pos (by omega)]
        simp only [h3, if_pos h4]
        exact ⟨trivial, h4, by omega, fun m' e' => by cases e'⟩
       ·cases e
      ·cases e
     ·cases e
      rw [if_pos (by omega)]
      exact ⟨rfl, by omega, by omega, fun m' e' => by cases e'⟩
    ·cases e
   ·cases e
  ·split at e
   ·split at e
    ·split at e
     ·rename_i vl l' h3 h4
      cases e
      simp only [h3, if_pos h4]
      exact ⟨trivial, by omega, Nat.le_refl _, fun m' e' => by cases e'⟩
     ·cases e
    ·cases e
   ·cases e
    exact ⟨rfl, by omega, Nat.le_refl _, fun m' e' => by cases e'⟩
section
variable {P : Program} {γ : Pl} {L : List Obj} {h : Heap} {h0 : Heap} {W0 : Ent}
def y2 : Obj → Option TypeId
 | .li e _ => e
 | .fz e _ => e
 | _ => none
def wj (P : Program) (L : List Obj) (t : TypeId) (x : DV) (lo hi mx : Option Value) : Option DV :=
 match P.underlying t with
 | some .string => match x with
  | .p (.v (.string s)) => scD (z5 P (fun _ => none) t (.string s) lo hi mx)
  | _ => none
 | some (.slice e) => match szT P e with
  | some s => match x with
   | .p (.sl z rows) => if z = s then match qz rows.length rows.length lo hi mx with
     | some (l, r, none) => some (.p (.sl z ((rows.drop l).take (r - l))))
     | _ => none
    else none
   | .p (.v (.slice none 0 0)) => match qz 0 0 lo hi mx with
    | some _ => some (.p (.v (.slice none 0 0)))
    | none => none
   | .ref id a n tot => match zw L id tot with
    | some _ => if (L[id]?.bind y2).bind (szT P) = some s ∧ 0 < n then match qz n n lo hi mx with
      | some (l, r, _) => some (.ref id (a + l) (r - l) tot)
      | none => none
     else none
    | none => none
   | .aref id off n => match qz n n lo hi mx with
    | some (l, r, none) => if l < n then some (.aref id (off + l * s) (r - l)) else none
    | _ => none
   | _ => none
  | none => none
 | some (.array n e) => match szT P e with
  | some s => match x with
   | .ptr id off => match qz n n lo hi mx with
    | some (l, r, none) => if l < n ∧ n ≤ maxLen then some (.aref id (off + l * s) (r - l)) else none
    | _ => none
   | _ => none
  | none => none
 | _ => none
theorem Qr (H : Hp P h0 W0 γ L h) {t : TypeId} {x d : DV} {v : Value} {lo hi mx : Option Value} (hx : (DR P (qd W0 γ L h) γ L h) x v) (e : wj P L t x lo hi mx = some d) : ∃ u, z5 P (qU P h) t v lo hi mx = some u ∧ (DR P (qd W0 γ L h) γ L h) d u := by
 have hdu : dud > maxLen := by decide
 have hun : unk > maxLen := by decide
 have hno : qB > maxLen := by decide
 have hnu : qB ≠ unk := by decide
 have hud : unk ≠ dud := by decide
 have hnd : qB ≠ dud := by decide
 unfold wj at e
 split at e
 ·rename_i hu
  split at e
  case h_2 => cases e
  rename_i s
  have : v = .string s := PR.scal (P := P) (S := qd W0 γ L h) (h := h) hx
  subst this
  obtain ⟨u, e1, r1⟩ := jU (P := P) (S := qd W0 γ L h) (γ := γ) (L := L) (h := h) e
  refine ⟨u, ?_, r1⟩
  rw [← e1]
  unfold z5
  simp only [hu]
 ·rename_i te hu
  split at e
  case h_2 => cases e
  rename_i s hs
  unfold z5
  simp only [hu]
  split at e
  ·rename_i z rows
   split at e
   case isFalse => cases e
   rename_i hz
   subst hz
   split at e
   case h_2 => cases e
   rename_i l r hb
   cases e
   obtain ⟨_, hlr, hr, _⟩ := Qt (Nat.le_refl _) hb
   cases (show PR P (qd W0 γ L h) h _ v from hx) with
   | nil =>
    simp only [hs]
    rw [show ([] : List (List PV)).length = 0 from rfl] at hb
    simp only [hb]
    refine ⟨_, rfl, ?_⟩
    rw [List.drop_nil, List.take_nil]
    exact PR.nil
   | dud =>
    simp only [hs]
    rw [show qI 0 dud = 0 from by decide]
    rw [show ([] : List (List PV)).length = 0 from rfl] at hb
    simp only [hb, if_true]
    refine ⟨_, rfl, ?_⟩
    rw [List.drop_nil, List.take_nil]
    exact PR.dud
   | zero =>
    rename_i b o
    simp only [hs]
    rw [show qI 0 0 = 0 from by decide]
    rw [show ([] : List (List PV)).length = 0 from rfl] at hb
    simp only [hb]
    have hl0 : l = 0 := by have := hlr; have := hr; simp at this; omega
    have hr0 : r = 0 := by have := hr; simp at this; omega
    subst hl0 hr0
    rw [if_neg (by decide), if_neg (by simp)]
    refine ⟨_, rfl, ?_⟩
    rw [List.drop_nil, List.take_nil]
    exact PR.zero
   | sl hS hg h0z hl hw hrr hc hm =>
    rename_i b o c cs te' rw'
    have hcap : rows.length ≤ qI rows.length c := by
     unfold qI
     rcases hc with rfl | ⟨_, _, rfl | ⟨h1, h2⟩⟩
     ·rw [if_neg hnu, if_pos rfl]; exact Nat.le_refl _
     ·rw [if_pos rfl]; exact Nat.le_refl _
     ·rw [if_neg (by omega), if_neg (by omega), if_neg (by omega)]; exact h1
    have hbd := (Qt hcap hb).1
    simp only [hs, hbd]
    rw [if_neg hc.nodud]
    have hE : ¬ (c ≠ qB ∧ ¬ (rows.length = 0 ∧ c = 0) ∧ qU P h b ≠ some z) := by
     rintro ⟨h1, _, h2⟩
     rcases hc with rfl | ⟨rfl, h3, _⟩
     ·exact h1 rfl
     ·exact h2 (by unfold qU; rw [hg]; exact h3)
    rw [if_neg hE]
    have hlen : ((rows.drop l).take (r - l)).length = r - l := by simp; omega
    have hmul : r * z ≤ rows.length * z := Nat.mul_le_mul_right _ hr
    have hsub : (r - l) * z = r * z - l * z := Nat.sub_mul _ _ _
    have hlz : l * z ≤ r * z := Nat.mul_le_mul_right _ hlr
    have key : ∀ c', CapOk P c' (r - l) rw' te' z → PR P (qd W0 γ L h) h (.sl z ((rows.drop l).take (r - l))) (.slice (some ⟨b, o + l * z, none⟩) (r - l) c') := by
     intro c' hc'
     have := PR.sl (P := P) (S := qd W0 γ L h) (h := h) (rows := (rows.drop l).take (r - l)) (b := b) (o := o + l * z) (c := c') (z := z) hS hg h0z (by rw [hlen, hsub]; omega)
      (fun i q e1 => by
       rw [List.getElem?_take] at e1
       split at e1
       ·rw [List.getElem?_drop] at e1; exact hw _ q e1
       ·cases e1)
      (fun i q j x u e1 e2 e3 => by
       rw [List.getElem?_take] at e1
       split at e1
       ·rw [List.getElem?_drop] at e1
        exact hrr (l + i) q j x u e1 e2 (by rw [← e3]; congr 1; rw [Nat.add_mul]; omega)
       ·cases e1) (by rw [hlen]; exact hc') (by rw [hlen]; omega)
     rw [hlen] at this
     exact this
    by_cases hcu : c = unk ∨ c = qB
    ·rw [if_pos hcu]
     by_cases hlt : l < rows.length
     ·rw [if_pos hlt]
      refine ⟨_, rfl, key c ?_⟩
      rcases hc with rfl | ⟨h1, h2, rfl | h3⟩
      ·exact .inl rfl
      ·exact .inr ⟨h1, h2, .inl rfl⟩
      ·rcases hcu with rfl | rfl
       ·omega
       ·omega
     ·rw [if_neg hlt]
      have : (rows.drop l).take (r - l) = [] := by rw [show r - l = 0 by omega]; simp
      rw [this]
      exact ⟨_, rfl, PR.dud⟩
    ·rw [if_neg hcu]
     rcases hc with rfl | ⟨h1, h2, rfl | ⟨h3, h4⟩⟩
     ·exact absurd (.inr rfl) hcu
     ·exact absurd (.inl rfl) hcu
     by_cases hcl : c = l
     ·rw [if_pos hcl]
      have : r - l = 0 := by omega
      rw [this]
      simp only [List.take_zero]
      refine ⟨_, rfl, ?_⟩
      exact PR.sl (rows := []) (z := z) (c := 0) hS hg h0z (by simp; omega) (by simp) (by simp) (.inr ⟨h1, h2, .inr ⟨Nat.le_refl _, Nat.zero_le _⟩⟩) (Nat.zero_le _)
     ·rw [if_neg hcl]
      exact ⟨_, rfl, key (c - l) (.inr ⟨h1, h2, .inr ⟨by omega, by omega⟩⟩)⟩
  ·split at e
   case h_2 => cases e
   rename_i q hb
   cases e
   have : v = .slice none 0 0 := PR.scal (P := P) (S := qd W0 γ L h) (h := h) hx
   subst this
   simp only [hs, hb]
   exact ⟨_, rfl, PR.v rfl⟩
  ·rename_i id a n tot
   split at e
   case h_2 => cases e
   rename_i rows hro
   split at e
   case isFalse => cases e
   rename_i hcond
   obtain ⟨hsz, hn0⟩ := hcond
   split at e
   case h_2 => cases e
   rename_i l r om hb
   cases e
   obtain ⟨q, q1, q2, q3⟩ := kZ hro
   obtain ⟨z, hz⟩ := H.width q1 q2
   obtain ⟨k1, k2, k3⟩ := hx
   obtain ⟨k4, k5⟩ := k3 q rows q1 q2
   obtain ⟨k6, k7⟩ := k5 q3
   rcases k7 z hz with ⟨_, h1, h2⟩ | ⟨b, o, c, rfl, h1, h2⟩ | ⟨b, o, c, g, rfl, d1, d2, d3⟩
   ·omega
   ·omega
   obtain ⟨te', cs, z', r1, r2, r3, r4, r5, r6, r7⟩ := H.rows q1 q2 g
   have hne : 0 < rows.length := by omega
   have hzz : z' = z := by rw [← r6 _ (List.getElem_mem hne), hz _ (List.getElem_mem hne)]
   subst hzz
   have hte : y2 q = some te' := by
    have ho := H.obj id q q1
    cases q with
    | li tq rs =>
     cases tq with
     | none => rw [ho.2] at g; cases g
     | some tq =>
      obtain ⟨b', o', g', cs', zz, s1, s2, _⟩ := ho
      rw [g] at g'; cases g'
      rw [r1] at s1; cases s1; rfl
    | fz tq rs =>
     cases tq with
     | none => rw [ho.2] at g; cases g
     | some tq =>
      obtain ⟨b', o', g', _, cs', zz, s1, s2, _⟩ := ho
      rw [g] at g'; cases g'
      rw [r1] at s1; cases s1; rfl
    | st => exact q2.elim
    | mp => exact q2.elim
    | dead => exact q2.elim
   have hsz' : z' = s := by
    rw [q1] at hsz
    simp only [Option.bind_some, hte, r2, Option.some.injEq] at hsz
    exact hsz
   subst hsz'
   have hcap : n ≤ qI n c := by
    unfold qI
    rcases d3 with rfl | ⟨h1, h2⟩
    ·rw [if_pos rfl]; exact Nat.le_refl _
    ·rw [if_neg (by omega), if_neg (by omega), if_neg (by omega)]; exact h1
   have hcap2 : c ≠ unk → qI n c = c := fun hc => by
    unfold qI
    rcases d3 with rfl | ⟨h1, h2⟩
    ·exact absurd rfl hc
    ·rw [if_neg hc, if_neg d2, if_neg d1]
   obtain ⟨hbd, hlr, hr, hom⟩ := Qt hcap hb
   simp only [hs, hbd]
   rw [if_neg d1]
   have hE : ¬ (c ≠ qB ∧ ¬ (n = 0 ∧ c = 0) ∧ qU P h b ≠ some z') := by
    rintro ⟨_, _, h2⟩
    exact h2 (by unfold qU; rw [r1]; exact r2)
   rw [if_neg hE]
   have fin : ∀ u, ((∃ b' o' c', u = .slice (some ⟨b', o', none⟩) 0 c' ∧ r - l = 0) ∨ (∃ c', u = .slice (some ⟨b, o + a * z' + l * z', none⟩) (r - l) c' ∧ c' ≠ dud ∧ c' ≠ qB ∧ (c' = unk ∨ (r - l ≤ c' ∧ c' ≤ maxLen)))) → (DR P (qd W0 γ L h) γ L h) (.ref id (a + l) (r - l) tot) u := by
    intro u hu
    refine ⟨k1, ?_, fun q' rows' e1 e2 => ?_⟩
    ·rcases hu with ⟨_, _, _, rfl, _⟩ | ⟨_, rfl, _⟩ <;> rfl
    ·obtain ⟨m4, m5⟩ := k3 q' rows' e1 e2
     refine ⟨m4, fun e3 => ⟨by omega, fun z2 hz2 => ?_⟩⟩
     have hro' : rows' = rows := by
      rw [q1] at e1; cases e1
      cases q <;> first | (cases q2; cases e2; rfl) | exact q2.elim
     subst hro'
     have hz3 : z2 = z' := by rw [← r6 _ (List.getElem_mem hne), hz2 _ (List.getElem_mem hne)]
     subst hz3
     rcases hu with ⟨b', o', c', rfl, h2⟩ | ⟨c', rfl, f1, f2, f3⟩
     ·exact .inr (.inl ⟨b', o', c', rfl, h2, by omega⟩)
     ·refine .inr (.inr ⟨b, o, c', g, by rw [Nat.add_mul, Nat.add_assoc], f1, f2, f3⟩)
   have e0 : o + a * z' = o + a * z' := rfl
   cases om with
   | some m =>
    obtain ⟨m1, m2⟩ := hom m rfl
    simp only
    by_cases hml : m = l
    ·rw [if_pos hml]
     have : r - l = 0 := by omega
     exact ⟨_, rfl, fin _ (.inl ⟨b, o + a * z', 0, by rw [this], this⟩)⟩
    ·rw [if_neg hml, if_neg (fun q => d2 q.1), if_neg d2]
     have : m - l ≤ maxLen := by omega
     exact ⟨_, rfl, fin _ (.inr ⟨m - l, rfl, by omega, by omega, .inr ⟨by omega, this⟩⟩)⟩
   | none =>
    simp only
    by_cases hcu : c = unk
    ·rw [if_pos (.inl hcu)]
     by_cases hlt : l < n
     ·rw [if_pos hlt]
      exact ⟨_, rfl, fin _ (.inr ⟨c, rfl, d1, d2, .inl hcu⟩)⟩
     ·rw [if_neg hlt]
      have : r - l = 0 := by omega
      exact ⟨_, rfl, fin _ (.inl ⟨b, o + a * z', dud, rfl, this⟩)⟩
    ·rw [if_neg (by rintro (q | q) <;> contradiction)]
     have hd := d3.resolve_left hcu
     by_cases hcl : c = l
     ·rw [if_pos hcl]
      have : r - l = 0 := by omega
      exact ⟨_, rfl, fin _ (.inl ⟨b, o + a * z', 0, by rw [this], this⟩)⟩
     ·rw [if_neg hcl]
      exact ⟨_, rfl, fin _ (.inr ⟨c - l, rfl, by omega, by omega, .inr ⟨by omega, by omega⟩⟩)⟩
  ·rename_i id off n
   split at e
   case h_2 => cases e
   rename_i l r hb
   split at e
   case isFalse => cases e
   rename_i hl
   cases e
   obtain ⟨b, h1, h2, rfl⟩ := hx
   have hcap : qI n qB = n := by unfold qI; rw [if_neg hnu, if_pos rfl]
   simp only [hs, hcap, hb]
   rw [if_neg hnd, if_neg (by rintro ⟨q, _⟩; exact q rfl), if_pos (by simp), if_pos hl]
   exact ⟨_, rfl, b, h1, h2, rfl⟩
  ·cases e
 ·rename_i n te hu
  split at e
  case h_2 => cases e
  rename_i s hs
  split at e
  case h_2 => cases e
  rename_i id off
  split at e
  case h_2 => cases e
  rename_i l r hb
  split at e
  case isFalse => cases e
  rename_i hl
  cases e
  obtain ⟨b, h1, h2, rfl⟩ := hx
  unfold z5
  simp only [hu, hs, hb, Option.getD_none]
  rw [if_pos hl.2, if_neg (by omega)]
  exact ⟨_, rfl, b, h1, h2, rfl⟩
 ·cases e
def Uk (P : Program) (L : List Obj) (t : TypeId) (x : DV) : Option DV :=
 match P.underlying t with
 | some (.slice _) => match x with
  | .p (.sl _ rows) => some (.p (.v (goInt rows.length)))
  | .p (.v (.slice none 0 0)) => some (.p (.v (goInt (0 : Nat))))
  | .ref id _ n tot => match zw L id tot with
   | some _ => some (.p (.v (goInt n)))
   | none => none
  | .aref _ _ n => some (.p (.v (goInt n)))
  | _ => none
 | some .string => match x with
  | .p (.v (.string s)) => some (.p (.v (goInt s.size)))
  | _ => none
 | some (.array n _) => match x with
  | .agg _ => some (.p (.v (goInt n)))
  | _ => none
 | _ => none
theorem a06 (H : Hp P h0 W0 γ L h) {t : TypeId} {x d : DV} {v : Value} (hx : (DR P (qd W0 γ L h) γ L h) x v) (e : Uk P L t x = some d) : ∃ u, a0h P t h v = some u ∧ (DR P (qd W0 γ L h) γ L h) d u := by
 unfold Uk at e
 unfold a0h
 split at e
 ·rename_i te hu
  simp only [hu]
  unfold a8G
  simp only [hu]
  split at e
  ·cases e
   cases (show PR P (qd W0 γ L h) h _ v from hx) with
   | nil => exact ⟨_, rfl, PR.v rfl⟩
   | dud => exact ⟨_, rfl, PR.v rfl⟩
   | zero => exact ⟨_, rfl, PR.v rfl⟩
   | sl => exact ⟨_, rfl, PR.v rfl⟩
  ·cases e
   have : v = .slice none 0 0 := PR.scal (P := P) (S := qd W0 γ L h) (h := h) hx
   subst this
   exact ⟨_, rfl, PR.v rfl⟩
  ·rename_i id a n tot
   split at e
   case h_2 => cases e
   rename_i rows hro
   cases e
   obtain ⟨q, q1, q2, q3⟩ := kZ hro
   obtain ⟨z, hz⟩ := H.width q1 q2
   obtain ⟨k1, k2, k3⟩ := hx
   obtain ⟨k4, k5⟩ := k3 q rows q1 q2
   obtain ⟨k6, k7⟩ := k5 q3
   rcases k7 z hz with ⟨rfl | ⟨b, o, rfl⟩, h1, h2⟩ | ⟨b, o, c, rfl, h1, h2⟩ | ⟨b, o, c, g, rfl, d1⟩
   ·have : n = 0 := by omega
    subst this
    exact ⟨_, rfl, PR.v rfl⟩
   ·have : n = 0 := by omega
    subst this
    exact ⟨_, rfl, PR.v rfl⟩
   ·subst h1
    exact ⟨_, rfl, PR.v rfl⟩
   ·exact ⟨_, rfl, PR.v rfl⟩
  ·cases e
   obtain ⟨b, _, _, rfl⟩ := hx
   exact ⟨_, rfl, PR.v rfl⟩
  ·cases e
 ·rename_i hu
  simp only [hu]
  split at e
  ·cases e
   rename_i s
   have : v = .string s := PR.scal (P := P) (S := qd W0 γ L h) (h := h) hx
   subst this
   exact ⟨_, by simp only [a8G, hu], PR.v rfl⟩
  ·cases e
 ·rename_i n te hu
  simp only [hu]
  split at e
  ·cases e
   obtain ⟨vs, rfl, _⟩ := hx
   exact ⟨_, by simp only [a8G, hu], PR.v rfl⟩
  ·cases e
 ·cases e
end
end Go.Sim
namespace Go.Sim
open Go.RowKit
section
variable {P : Program} {γ : Pl} {L : List Obj} {h : Heap} {h0 : Heap} {W0 : Ent}
def X3 : List (List PV) → Option (List Int)
 | [] => some []
 | [.v (.int .u8 n)] :: r => (X3 r).map (n :: ·)
 | _ :: _ => none
theorem a1P {S : Nat → Prop} : ∀ {rows : List (List PV)} {cs : List Value} {xs : List Int}, FlatR P S h 1 rows cs → X3 rows = some xs → Q8 cs = some xs
 | [], cs, xs, hf, e => by
  cases e
  have : cs = [] := List.length_eq_zero_iff.1 (by rw [hf.len]; rfl)
  subst this; rfl
 | row :: rows, cs, xs, hf, e => by
  unfold X3 at e
  split at e
  ·rename_i heq; cases heq
  ·rename_i n r heq
   cases heq
   cases hq : X3 rows with
   | none => rw [hq] at e; cases e
   | some ys =>
    rw [hq] at e; cases e
    cases cs with
    | nil => have := hf.len; simp at this
    | cons c cs =>
     have h1 : c = .int .u8 n := PR.scal (P := P) (S := S) (h := h) (hf.get 0 _ 0 _ c rfl rfl rfl)
     subst h1
     have hf' : FlatR P S h 1 rows cs := ⟨by have := hf.len; simp at this; omega, fun r hr => hf.wide r (List.mem_cons_of_mem _ hr), fun i r j x u e1 e2 e3 => hf.get (i + 1) r j x u (by simpa using e1) e2 (by rw [show (i + 1) * 1 + j = (i * 1 + j) + 1 by omega, List.getElem?_cons_succ]; exact e3)⟩
     unfold Q8
     rw [a1P hf' hq]
     rfl
  ·cases e
theorem ac7 {t te : TypeId} {v : Value} {n : Nat} {cs : List Value} {xs : List Int} (hu : P.underlying t = some (.slice te)) (e : a50 P 1 t h v = some (n, cs)) (hn : Q8 cs = some xs) : jP h v = some (.string (strOfNums xs)) := by
 unfold a50 at e
 simp only [hu] at e
 unfold jP
 split at e
 ·rename_i q; cases q
 ·cases e; cases hn; rfl
 ·rename_i b o m c _
  simp only
  split at e
  ·rename_i h0; cases e; cases hn; rw [if_pos h0]
  ·rename_i h0
   rw [if_neg h0]
   split at e
   ·rename_i cs' _ _ hg
    split at e
    ·rename_i hc
     cases e
     simp only [hg]
     rw [if_pos (by have := hc.1; omega)]
     rw [Nat.mul_one] at hn
     rw [hn]
     rfl
    ·cases e
   ·cases e
 ·cases e
def Qg (P : Program) (e : TypeId) : Bool := match P.underlying e with
 | some (.int .u8) => true
 | _ => false
theorem JP {e : TypeId} (h : Qg P e = true) : P.underlying e = some (.int .u8) := by
 unfold Qg at h
 split at h
 ·assumption
 ·cases h
def xH (P : Program) (L : List Obj) (s d : TypeId) (x : DV) : Option (DV × List Obj) :=
 match P.underlying s, P.underlying d with
 | some (.slice e), some .string => if Qg P e = true then match (a2y P L 1 s x).bind X3 with
   | some xs => some (.p (.v (.string (strOfNums xs))), L)
   | none => none
  else none
 | some .string, some (.slice e) => match x with
  | .p (.v (.string t)) => if Qg P e = true ∧ szT P e = some 1 ∧ t.size ≤ maxLen then
    some (.ref L.length 0 t.size t.size, L ++ [.li (some e) (t.data.toList.map fun c => [.v (.int .u8 c.toNat)])]) else none
  | _ => none
 | some (.slice _), some (.slice e) => match x with
  | .ref id lo n tot => if s = d ∧ Qg P e = true ∧ 0 < n ∧ 0 < tot then match L[id]? with
    | some (.li (some _) rows) => if rows.length = tot then some (.ref id lo n tot, L) else none
    | _ => none
   else none
  | _ => none
 | _, _ => match y3 x with
  | some v => (scD (U5 P s d v)).map fun d => (d, L)
  | none => none
def Aft (P : Program) (h0 : Heap) (W0 : Ent) (γ : Pl) (L : List Obj) (h : Heap) (K : DV → List Obj → Prop) (v : Value) (h' : Heap) : Prop :=
 ∃ γ' d L', K d L' ∧ Hp P h0 W0 γ' L' h' ∧ Carry W0 γ L h γ' L' h' ∧ DR P (qd W0 γ' L' h') γ' L' h' d v
theorem qR {K : DV → List Obj → Prop} {d : DV} {v : Value} (H : Hp P h0 W0 γ L h) (hK : K d L) (hd : (DR P (qd W0 γ L h) γ L h) d v) : Aft P h0 W0 γ L h K v h := ⟨γ, d, L, hK, H, Carry.refl _ _ _, hd⟩
theorem a6T (H : Hp P h0 W0 γ L h) {s t : TypeId} {x d : DV} {v : Value} {L' : List Obj} {K : DV → List Obj → Prop} (hx : (DR P (qd W0 γ L h) γ L h) x v) (e : xH P L s t x = some (d, L')) (hK : K d L') : wS P s t v h (Aft P h0 W0 γ L h K) := by
 unfold xH at e
 unfold wS
 split at e
 ·rename_i te h1 h2
  simp only [h1, h2]
  split at e
  case isFalse => cases e
  rename_i h3
  refine ⟨JP h3, ?_⟩
  cases hs : a2y P L 1 s x with
  | none => rw [hs] at e; cases e
  | some rows =>
   rw [hs] at e
   simp only [Option.bind_some] at e
   cases hn : X3 rows with
   | none => rw [hn] at e; cases e
   | some xs =>
    rw [hn] at e; cases e
    obtain ⟨cs, e1, hf⟩ := yk H hx hs
    rw [ac7 h1 e1 (a1P hf hn)]
    exact qR H hK (PR.v rfl)
 ·rename_i te h1 h2
  split at e
  case h_2 => cases e
  rename_i b
  split at e
  case isFalse => cases e
  rename_i h3
  cases e
  have : v = .string b := PR.scal (P := P) (S := qd W0 γ L h) (h := h) hx
  subst this
  simp only [h1, h2]
  obtain ⟨k1, k2, k3⟩ := h3
  have key : ∀ l : List UInt8, All2 (PR P (qd W0 γ L h) h) (l.map fun c => PV.v (.int .u8 c.toNat)) (l.map fun c => Value.int .u8 c.toNat) := by
   intro l
   induction l with
   | nil => exact .nil
   | cons c l ih => exact .cons (PR.v rfl) ih
  have hf : FlatR P (qd W0 γ L h) h 1 (b.data.toList.map fun c => [PV.v (.int .u8 c.toNat)]) (jO b) := by
   have := J8 (key b.data.toList)
   rw [List.map_map] at this
   exact this
  have hlen : (b.data.toList.map fun c => [PV.v (.int .u8 (c.toNat : Int))]).length = b.size := by rw [List.length_map]; rfl
  obtain ⟨γ', a1, a2, a3⟩ := Uw H (te := te) (c := unk) k2 (Nat.zero_lt_one) (by rw [hf.len]; exact Nat.le_refl _) (by rw [hlen]; exact k3) hf.wide hf.get (.inl rfl)
  rw [hlen] at a3
  exact ⟨JP k1, k2, k3, γ', _, _, hK, a1, a2, a3⟩
 ·rename_i te0 te1 h1 h2
  split at e
  case h_2 => cases e
  rename_i id lo n tot
  split at e
  case isFalse => cases e
  rename_i h3
  obtain ⟨rfl, k1, k2, k4⟩ := h3
  have hte : te0 = te1 := by rw [h1] at h2; cases h2; rfl
  subst hte
  split at e
  case h_2 => cases e
  rename_i te rows hid
  split at e
  case isFalse => cases e
  rename_i hlen
  cases e
  obtain ⟨b, o, hg, hrows⟩ := H.obj id _ hid
  obtain ⟨cs, z, r1, r2, r3, r4, r5, r6, r7⟩ := hrows
  have hx' := hx
  obtain ⟨_, _, q3⟩ := hx'
  obtain ⟨_, q5⟩ := q3 _ rows hid rfl
  obtain ⟨_, q7⟩ := q5 hlen
  rcases q7 z r6 with ⟨_, h4, _⟩ | ⟨_, _, _, _, h4, _⟩ | ⟨b', o', c, g, rfl, d1, d2, d3⟩
  ·omega
  ·omega
  ·rw [hg] at g; cases g
   simp only [h1, h2, r1]
   exact ⟨trivial, ⟨d1, fun q => by omega⟩, JP k1, qR H hK hx⟩
 ·rename_i n1 n2 n3
  cases hv : y3 x with
  | none => rw [hv] at e; cases e
  | some u =>
   have := j7 hx hv; subst this
   rw [hv] at e
   cases hc : scD (U5 P s t v) with
   | none => simp only [hc] at e; cases e
   | some d' =>
    simp only [hc, Option.map_some, Option.some.injEq, Prod.mk.injEq] at e
    obtain ⟨rfl, rfl⟩ := e
    obtain ⟨u, e1, r1⟩ := jU (P := P) (S := qd W0 γ L h) (γ := γ) (L := L) (h := h) hc
    split
    ·rename_i h1 h2; exact absurd h2 (n1 _ h1)
    ·rename_i h1 h2; exact absurd h2 (n2 _ h1)
    ·rename_i h1 h2; exact absurd h2 (n3 _ _ h1)
    ·simp only [e1]
     exact qR H hK r1
theorem aeN {S : Nat → Prop} {z i : Nat} {rows : List (List PV)} {cs ws : List Value} {ps : List PV} (hf : FlatR P S h z rows cs) (hi : i < rows.length) (hl : ps.length = z) (hp : All2 (PR P S h) ps ws) : FlatR P S h z (rows.set i ps) (qG cs (i * z) ws) := by
 have hmul : (i + 1) * z ≤ rows.length * z := Nat.mul_le_mul_right _ hi
 rw [Nat.succ_mul] at hmul
 have hwl : ws.length = z := by rw [← hp.length]; exact hl
 refine ⟨by simp [hf.len], fun r hr => ?_, fun i' r' j x' w e1 e2 e3 => ?_⟩
 ·obtain ⟨j, hj⟩ := List.mem_iff_getElem?.1 hr
  rcases getElem?_set' hj with ⟨_, hj⟩ | ⟨_, _, rfl⟩
  ·exact hf.wide r (List.mem_of_getElem? hj)
  ·exact hl
 ·rw [Zq _ _ _ _ (by rw [hwl, hf.len]; omega)] at e3
  rcases getElem?_set' e1 with ⟨hne, e1⟩ | ⟨rfl, _, rfl⟩
  ·have hj : j < z := by rw [← hf.wide r' (List.mem_of_getElem? e1)]; exact (List.getElem?_eq_some_iff.1 e2).1
   rw [if_neg ?_] at e3
   ·exact hf.get i' r' j x' w e1 e2 e3
   ·rw [hwl]
    rintro ⟨a1, a2⟩
    rcases Nat.lt_or_gt_of_ne hne with hlt | hlt
    ·have : (i' + 1) * z ≤ i * z := Nat.mul_le_mul_right _ hlt
     rw [Nat.succ_mul] at this
     omega
    ·have : (i + 1) * z ≤ i' * z := Nat.mul_le_mul_right _ hlt
     rw [Nat.succ_mul] at this
     omega
  ·have hj : j < z := by rw [← hl]; exact (List.getElem?_eq_some_iff.1 e2).1
   rw [if_pos (by rw [hwl]; omega)] at e3
   obtain ⟨w', e4, rr⟩ := hp.get e2
   rw [show i' * z + j - i' * z = j by omega, e4] at e3
   cases e3
   exact rr
def wN (z : Nat) (rows : List (List PV)) : List (Nat × DV) → Option (List (List PV))
 | [] => some rows
 | (i, d) :: r => if is1 d = true ∧ i < rows.length then match pvs (zg d) with
   | some ps => if ps.length = z then wN z (rows.set i ps) r else none
   | none => none
  else none
theorem WK {z : Nat} : ∀ {ps : List (Nat × DV)} {qs : List (Nat × Value)} {rows xs : List (List PV)} {cs : List Value}, FlatR P (qd W0 γ L h) h z rows cs → All2 (fun d v => d.1 = v.1 ∧ (DR P (qd W0 γ L h) γ L h) d.2 v.2) ps qs → wN z rows ps = some xs →
  ∃ ws, QK (fun i => some (i * z, z)) cs qs = some ws ∧ FlatR P (qd W0 γ L h) h z xs ws ∧ xs.length = rows.length
 | [], _, rows, xs, cs, hf, .nil, e => by cases e; exact ⟨cs, rfl, hf, rfl⟩
 | (i, d) :: ps, _, rows, xs, cs, hf, .cons (b := (j, v)) hd t, e => by
  obtain ⟨rfl, hd⟩ := hd
  unfold wN at e
  unfold QK
  split at e
  case isFalse => cases e
  rename_i hc
  split at e
  case h_2 => cases e
  rename_i qs hq
  split at e
  case isFalse => cases e
  rename_i hz
  obtain ⟨q1, q2⟩ := Wp (wL hd hc.1)
  have q3 := QD q1 hq
  have hsz : v.cells.size = z := by rw [← hz, q3.length]; simp
  have hmul : (i + 1) * z ≤ rows.length * z := Nat.mul_le_mul_right _ hc.2
  rw [Nat.succ_mul] at hmul
  simp only
  rw [if_pos ⟨hsz, by rw [hf.len]; exact hmul⟩]
  obtain ⟨ws, e1, e2, e3⟩ := WK (aeN hf hc.2 hz q3) t e
  exact ⟨ws, e1, e2, by rw [e3]; simp⟩
theorem uW {S : Nat → Prop} {zs : List Value} {zr : List PV} (hr : All2 (PR P S h) zr zs) (n : Nat) : FlatR P S h zs.length (List.replicate n zr) (wb zs n) := by
 refine ⟨by rw [Jm]; simp, fun r hr' => by rw [List.eq_of_mem_replicate hr', hr.length], fun i r j x u e1 e2 e3 => ?_⟩
 rw [List.getElem?_replicate] at e1
 split at e1
 case isFalse => cases e1
 rename_i hi
 cases e1
 have hj : j < zs.length := by rw [← hr.length]; exact (List.getElem?_eq_some_iff.1 e2).1
 have hmul : (i + 1) * zs.length ≤ n * zs.length := Nat.mul_le_mul_right _ hi
 rw [Nat.succ_mul] at hmul
 rw [xm _ _ _ (by omega)] at e3
 obtain ⟨w, e4, rr⟩ := hr.get e2
 have hmod : (i * zs.length + j) % zs.length = j := by rw [Nat.mul_comm, Nat.mul_add_mod]; exact Nat.mod_eq_of_lt hj
 rw [hmod, e4] at e3
 cases e3
 exact rr
def jX (P : Program) (L : List Obj) (t : TypeId) (len : Nat) (ps : List (Nat × DV)) : Option (DV × List Obj) :=
 match P.underlying t with
 | some (.slice e) => match (Yu P e).bind pvs, szT P e with
  | some zr, some s => if zr.length = s ∧ len * s ≤ 16777216 ∧ 0 < s ∧ len ≤ maxLen then match wN s (List.replicate len zr) ps with
    | some rows => some (.ref L.length 0 len len, L ++ [.li (some e) rows])
    | none => none
   else none
  | _, _ => none
 | _ => none
theorem ZC (H : Hp P h0 W0 γ L h) {t : TypeId} {len : Nat} {ps : List (Nat × DV)} {qs : List (Nat × Value)} {d : DV} {L' : List Obj} {K : DV → List Obj → Prop} (hr : All2 (fun d v => d.1 = v.1 ∧ (DR P (qd W0 γ L h) γ L h) d.2 v.2) ps qs) (e : jX P L t len ps = some (d, L')) (hK : K d L') :
  ∃ q mk, j0 P t len qs = some (q, mk) ∧ Aft P h0 W0 γ L h K (mk h.next) (h.push q) := by
 unfold jX at e
 unfold j0
 split at e
 case h_2 => cases e
 rename_i te hu
 simp only [hu]
 split at e
 case h_2 => cases e
 rename_i zr s hz hs
 split at e
 case isFalse => cases e
 rename_i hc
 obtain ⟨c0, c1, c2, c3⟩ := hc
 split at e
 case h_2 => cases e
 rename_i rows hrows
 cases e
 cases hzd : Yu P te with
 | none => rw [hzd] at hz; cases hz
 | some zs =>
  rw [hzd] at hz
  simp only [Option.bind_some] at hz
  obtain ⟨z, e1, r1⟩ := Zd (P := P) (γ := γ) (L := L) (h := h) (S := qd W0 γ L h) hzd
  have r2 := QD r1 hz
  have hzl : z.length = s := by rw [← r2.length]; exact c0
  simp only [e1, hs]
  rw [if_pos ⟨c1, c2, c3⟩]
  have hf := uW r2 len
  rw [hzl] at hf
  obtain ⟨ws, f1, f2, f3⟩ := WK hf hr hrows
  rw [Y9, f1]
  simp only [Option.map_some]
  have hlen : rows.length = len := by rw [f3]; simp
  obtain ⟨γ', a1, a2, a3⟩ := Uw H (te := te) (c := len) (rows := rows) (cs := ws) hs c2 (by rw [f2.len]; exact Nat.le_refl _) (by rw [hlen]; exact c3) f2.wide f2.get (.inr ⟨by omega, c3⟩)
  rw [hlen] at a3
  exact ⟨_, _, rfl, γ', _, _, hK, a1, a2, a3⟩
end
end Go.Sim
namespace Go.Sim
open Go.RowKit
def qj {α : Type} (o : Option α) (f : α → Prop) : Prop := match o with
 | some d => f d
 | none => False
theorem qx {α : Type} (d : α) (f : α → Prop) : qj (some d) f = f d := rfl
theorem qf {α : Type} {o : Option α} {f : α → Prop} (h : qj o f) : ∃ d, o = some d ∧ f d := by
 cases o with
 | none => exact h.elim
 | some d => exact ⟨d, rfl, h⟩
def XG (ρ : Ym) : Option Operand → Option (Option Value)
 | none => some none
 | some x => match ρ x with
  | some d => (y3 d).map some
  | none => none
def Js : DV → Bool
 | .p _ => true
 | .ptr _ _ => true
 | .ep _ _ _ _ => true
 | .dp _ _ => true
 | .ref _ _ _ _ => true
 | .aref _ _ _ => true
 | _ => false
def a0n (P : Program) (f : FuncId) (ds : List DV) (L : List Obj) (K : DV → List Obj → Prop) : Prop :=
 ∀ h0 W0 γ h vs, Hp P h0 W0 γ L h → All2 (DR P (qd W0 γ L h) γ L h) ds vs → ADoes P f vs h (Aft P h0 W0 γ L h K)
def W3 (c : Option DV) (a b : Option DV) : Option DV := match c with
 | some (.p (.v (.bool t))) => if t then a else b
 | _ => none
def xF (f : Fn) (a b : Option (List DV)) : Option DV := match f, a, b with
 | .func k, some a, some b => if a.all Js && b.all Js then some (.fn k a b) else none
 | _, _, _ => none
def Yk (P : Program) (t : TypeId) (x i : DV) : Option DV :=
 match P.underlying t, x, acF i with
 | some (.array len e), .agg cs, some n => match szT P e with
  | some s => if 0 ≤ n ∧ n.toNat < len then Q5 P e cs (n.toNat * s) else none
  | none => none
 | some .string, .p (.v (.string s)), some n => if 0 ≤ n then scD ((s[n.toNat]?).map fun b => .int .u8 b.toNat) else none
 | _, _, _ => none
def Qw (x : DV) (i : Nat) : Option DV := match x with
 | .tup xs => xs[i]?
 | _ => none
def a9I (L : List Obj) (x : DV) : Option DV := onD L 0 x
def yt : List DV → Option (List Value)
 | [] => some []
 | d :: l => match y3 d, yt l with
  | some v, some vs => some (v :: vs)
  | _, _ => none
def zo (P : Program) (o : Op) (ρ : Ym) (L : List Obj) (K : DV → List Obj → Prop) : Prop :=
 match o with
 | .move x => qj (ρ x) fun d => K d L
 | .assign x => qj (ρ x) fun d => K d L
 | .pick c a b => qj (W3 (ρ c) (ρ a) (ρ b)) fun d => K d L
 | .build t ps => qj (Kf ρ ps.toList) fun ds => qj (Yd P t ds) fun d => K d L
 | .field t x f => qj (ρ x) fun x => qj (Y1 P t x f) fun d => K d L
 | .fieldAddr t x f => qj (ρ x) fun x => qj (yO P L t x f) fun d => K d L
 | .unOp op _ x => qj (ρ x) fun x => qj (y3 x) fun v => qj (scD (unV op v)) fun d => K d L
 | .binOp op t x y _ => qj (ρ x) fun x => qj (ρ y) fun y => qj (ye P op t x y) fun d => K d L
 | .convert s d x => qj (ρ x) fun x => qj (xH P L s d x) fun (d, L') => K d L'
 | .makeFunc f a b => qj (xF f (Qh ρ a.toList) (Qh ρ b.toList)) fun d => K d L
 | .indexAddr t x i => qj (ρ x) fun x => qj (ρ i) fun i => qj (wI P L t x i) fun d => K d L
 | .index t x i => qj (ρ x) fun x => qj (ρ i) fun i => qj (Yk P t x i) fun d => K d L
 | .extract x i => qj (ρ x) fun x => qj (Qw x i) fun d => K d L
 | .nilCheck x => qj (ρ x) fun x => qj (a9I L x) fun d => K d L
 | .load t x => qj (ρ x) fun x => qj (jE P L t x) fun d => K d L
 | .store t x y => qj (ρ x) fun x => qj (ρ y) fun y => qj (Jc P L t x y) fun L' => K abr L'
 | .slice t x lo hi mx => qj (ρ x) fun x => qj (XG ρ lo) fun lo => qj (XG ρ hi) fun hi => qj (XG ρ mx) fun mx => qj (wj P L t x lo hi mx) fun d => K d L
 | .box t x => qj (ρ x) fun x => is1 x = true ∧ szT P t = some (zg x).length ∧ K (.ptr L.length 0) (L ++ [.st (zg x)])
 | .alloc t => qj (Yu P t) fun z => K (.ptr L.length 0) (L ++ [.st z])
 | .buildSlice t n ps => qj (Kf ρ ps.toList) fun ds => qj (jX P L t n ds) fun (d, L') => K d L'
 | .call { callee := .value f, args := args, argTypes := _ } => qj (ρ f) fun f => qj (Qh ρ args.toList) fun ds => match f with
  | .fn k pre cap => a0n P k (pre ++ ds ++ cap) L K
  | _ => False
 | .call { callee := .builtin .append, args := args, argTypes := ts } => qj (Qh ρ args.toList) fun ds => match ds with
  | [s, x] => qj (K7 P ts.toList L s x) fun (d, L') => K d L'
  | _ => False
 | .call { callee := .builtin .len, args := args, argTypes := ts } => qj (Qh ρ args.toList) fun ds => match ds, ts.toList with
  | [x], [t] => qj (Uk P L t x) fun d => K d L
  | _, _ => False
 | .call { callee := .builtin .min, args := args, argTypes := _ } => qj (Qh ρ args.toList) fun ds => qj (yt ds) fun vs => qj (scD (a7f vs)) fun d => K d L
 | .call { callee := .builtin .max, args := args, argTypes := _ } => qj (Qh ρ args.toList) fun ds => qj (yt ds) fun vs => qj (scD (a9k vs)) fun d => K d L
 | _ => False
section
variable {P : Program} {γ : Pl} {L : List Obj} {h : Heap} {h0 : Heap} {W0 : Ent} {ρ : Ym} {r : Rho} {K : DV → List Obj → Prop}
theorem KI (hρ : xy P W0 γ L h ρ r) {x : Option Operand} {v : Option Value} (e : XG ρ x = some v) : wi r x = some v := by
 cases x with
 | none => cases e; rfl
 | some x =>
  unfold XG at e
  cases hx : ρ x with
  | none => simp only [hx] at e; cases e
  | some d =>
   simp only [hx] at e
   cases hv : y3 d with
   | none => rw [hv] at e; cases e
   | some u =>
    rw [hv] at e; cases e
    obtain ⟨w, e1, r1⟩ := hρ x d hx
    have := j7 r1 hv
    subst this
    simp [wi, e1]
theorem ahc {S : Nat → Prop} {d : DV} {v : Value} (hb : Js d = true) (hd : DR P S γ L h d v) : DB P S γ L h d v := by
 cases d <;> first | exact hd | (simp [Js] at hb)
theorem VT {S : Nat → Prop} : ∀ {ds : List DV} {vs : List Value}, ds.all Js = true → All2 (DR P S γ L h) ds vs → All2 (DB P S γ L h) ds vs
 | [], _, _, .nil => .nil
 | d :: ds, _, hb, .cons hd t => by
  simp only [List.all_cons, Bool.and_eq_true] at hb
  exact .cons (ahc hb.1 hd) (VT hb.2 t)
theorem J1 : ∀ {ds : List DV} {vs xs : List Value}, All2 (DR P (qd W0 γ L h) γ L h) ds vs → yt ds = some xs → vs = xs
 | [], _, _, .nil, e => by cases e; rfl
 | d :: ds, _, xs, .cons hd t, e => by
  unfold yt at e
  cases h1 : y3 d with
  | none => rw [h1] at e; cases e
  | some v =>
   cases h2 : yt ds with
   | none => rw [h1, h2] at e; cases e
   | some vs =>
    rw [h1, h2] at e; cases e
    rw [j7 hd h1, J1 t h2]
theorem ac5 (H : Hp P h0 W0 γ L h) (hρ : xy P W0 γ L h ρ r) {o : Op} (hk : zo P o ρ L K) : qy P o r h (Aft P h0 W0 γ L h K) := by
 unfold zo at hk
 split at hk
 ·obtain ⟨d, e, hk⟩ := qf hk
  obtain ⟨v, e1, r1⟩ := hρ _ _ e
  simp only [qy, qZ, e1]; exact qR H hk r1
 ·obtain ⟨d, e, hk⟩ := qf hk
  obtain ⟨v, e1, r1⟩ := hρ _ _ e
  simp only [qy, qZ, e1]; exact qR H hk r1
 ·obtain ⟨d, e, hk⟩ := qf hk
  unfold W3 at e
  split at e
  ·rename_i t hc
   obtain ⟨v, e1, r1⟩ := hρ _ _ hc
   have : v = .bool t := PR.scal (P := P) (S := qd W0 γ L h) (h := h) r1
   subst this
   simp only [qy, qZ, e1]
   cases t
   ·obtain ⟨u, e2, r2⟩ := hρ _ _ e
    simp only [Bool.false_eq_true, if_false, e2]; exact qR H hk r2
   ·obtain ⟨u, e2, r2⟩ := hρ _ _ e
    simp only [if_true, e2]; exact qR H hk r2
  ·cases e
 ·obtain ⟨ds, e, hk⟩ := qf hk
  obtain ⟨d, e2, hk⟩ := qf hk
  obtain ⟨vs, e1, r1⟩ := Zx hρ e
  obtain ⟨u, e3, r3⟩ := a3c r1 e2
  simp only [qy, qZ, e1, e3]; exact qR H hk r3
 ·obtain ⟨x, e, hk⟩ := qf hk
  obtain ⟨d, e2, hk⟩ := qf hk
  obtain ⟨v, e1, r1⟩ := hρ _ _ e
  obtain ⟨u, e3, r3⟩ := a2z r1 e2
  simp only [qy, qZ, e1, e3]; exact qR H hk r3
 ·obtain ⟨x, e, hk⟩ := qf hk
  obtain ⟨d, e2, hk⟩ := qf hk
  obtain ⟨v, e1, r1⟩ := hρ _ _ e
  obtain ⟨u, e3, r3⟩ := xG H r1 e2
  simp only [qy, qZ, e1, e3]; exact qR H hk r3
 ·obtain ⟨x, e, hk⟩ := qf hk
  obtain ⟨w, e2, hk⟩ := qf hk
  obtain ⟨d, e3, hk⟩ := qf hk
  obtain ⟨v, e1, r1⟩ := hρ _ _ e
  have hv := j7 r1 e2
  rw [hv] at e1
  obtain ⟨u, e4, r4⟩ := jU (P := P) (S := qd W0 γ L h) (γ := γ) (L := L) (h := h) e3
  simp only [qy, qZ, e1, e4]; exact qR H hk r4
 ·obtain ⟨x, e, hk⟩ := qf hk
  obtain ⟨y, e2, hk⟩ := qf hk
  obtain ⟨d, e3, hk⟩ := qf hk
  obtain ⟨v, e1, r1⟩ := hρ _ _ e
  obtain ⟨w, e4, r4⟩ := hρ _ _ e2
  obtain ⟨u, e5, r5⟩ := a9s r1 r4 e3
  simp only [qy, qZ, e1, e4, e5]; exact qR H hk r5
 ·obtain ⟨x, e, hk⟩ := qf hk
  obtain ⟨⟨d, L'⟩, e2, hk⟩ := qf hk
  obtain ⟨v, e1, r1⟩ := hρ _ _ e
  simp only [qy, e1]
  exact a6T H r1 e2 hk
 ·obtain ⟨d, e, hk⟩ := qf hk
  unfold xF at e
  split at e
  ·rename_i f a b h1 h2 
   split at e
   ·rename_i hb
    cases e
    simp only [Bool.and_eq_true] at hb
    obtain ⟨us, e1, r1⟩ := zh hρ h1
    obtain ⟨ws, e2, r2⟩ := zh hρ h2
    simp only [qy, qZ, e1, e2]
    exact qR H hk ⟨_, _, rfl, by simpa using VT hb.1 r1, by simpa using VT hb.2 r2⟩
   ·cases e
  ·cases e
 ·obtain ⟨x, e, hk⟩ := qf hk
  obtain ⟨y, e2, hk⟩ := qf hk
  obtain ⟨d, e3, hk⟩ := qf hk
  obtain ⟨v, e1, r1⟩ := hρ _ _ e
  obtain ⟨w, e4, r4⟩ := hρ _ _ e2
  obtain ⟨u, e5, r5⟩ := xw H r1 r4 e3
  simp only [qy, qZ, e1, e4, e5]; exact qR H hk r5
 ·obtain ⟨x, e, hk1⟩ := qf hk
  clear hk
  obtain ⟨y, e2, hk2⟩ := qf hk1
  clear hk1
  obtain ⟨d, e3, hk⟩ := qf hk2
  clear hk2
  obtain ⟨v, e1, r1⟩ := hρ _ _ e
  obtain ⟨w, e4, r4⟩ := hρ _ _ e2
  simp only [qy, qZ, e1, e4]
  unfold Yk at e3
  split at e3
  ·rename_i len te cs n hu hn
   obtain ⟨k, rfl⟩ := YL r4 hn
   obtain ⟨vs, rfl, r5⟩ := r1
   split at e3
   ·rename_i s hs
    split at e3
    ·rename_i hc
     have : vs = vs.toList.toArray := by simp
     rw [this, a6B hu hs, if_pos (by omega)]
     obtain ⟨u, e6, r6⟩ := Q0 r5 e3
     rw [e6]
     exact qR H hk (jH r6)
    ·cases e3
   ·cases e3
  ·rename_i s n hu hn
   obtain ⟨k, rfl⟩ := YL r4 hn
   have : v = .string s := PR.scal (P := P) (S := qd W0 γ L h) (h := h) r1
   subst this
   split at e3
   ·rename_i hc
    rw [a2R hu, if_pos hc]
    obtain ⟨u, e6, r6⟩ := jU (P := P) (S := qd W0 γ L h) (γ := γ) (L := L) (h := h) e3
    rw [e6]
    exact qR H hk r6
   ·cases e3
  ·cases e3
 ·obtain ⟨x, e, hk⟩ := qf hk
  obtain ⟨d, e2, hk'⟩ := qf hk
  clear hk
  obtain ⟨v, e1, r1⟩ := hρ _ _ e
  unfold Qw at e2
  split at e2
  ·obtain ⟨vs, rfl, r2⟩ := r1
   obtain ⟨u, e3, r3⟩ := r2.get e2
   simp only [qy, qZ, e1]
   rw [Array.getElem?_toList] at e3
   rw [e3]
   exact qR H hk' (jH r3)
  ·cases e2
 ·obtain ⟨x, e, hk⟩ := qf hk
  obtain ⟨d, e2, hk⟩ := qf hk
  obtain ⟨v, e1, r1⟩ := hρ _ _ e
  obtain ⟨b, o, rfl, r2⟩ := UC H r1 e2
  simp only [qy, qZ, e1]
  exact qR H hk r2
 ·obtain ⟨x, e, hk⟩ := qf hk
  obtain ⟨d, e2, hk⟩ := qf hk
  obtain ⟨v, e1, r1⟩ := hρ _ _ e
  obtain ⟨u, e3, r3⟩ := Zo H r1 e2
  simp only [qy, e1, e3]; exact qR H hk r3
 ·obtain ⟨x, e, hk⟩ := qf hk
  obtain ⟨y, e2, hk⟩ := qf hk
  obtain ⟨L', e3, hk⟩ := qf hk
  obtain ⟨v, e1, r1⟩ := hρ _ _ e
  obtain ⟨w, e4, r4⟩ := hρ _ _ e2
  obtain ⟨h', e5, H', c⟩ := Jf H r1 r4 e3
  simp only [qy, e1, e4, e5]
  exact ⟨γ, _, L', hk, H', c, ⟨#[], rfl, .nil⟩⟩
 ·obtain ⟨x, e, hk⟩ := qf hk
  obtain ⟨lo, e2, hk⟩ := qf hk
  obtain ⟨hi, e3, hk⟩ := qf hk
  obtain ⟨mx, e4, hk⟩ := qf hk
  obtain ⟨d, e5, hk⟩ := qf hk
  obtain ⟨v, e1, r1⟩ := hρ _ _ e
  obtain ⟨u, e6, r6⟩ := Qr H r1 e5
  simp only [qy, e1, KI hρ e2, KI hρ e3, KI hρ e4, e6]
  exact qR H hk r6
 ·obtain ⟨x, e, hk⟩ := qf hk
  obtain ⟨k1, k2, hk⟩ := hk
  obtain ⟨v, e1, r1⟩ := hρ _ _ e
  obtain ⟨q1, q2⟩ := Wp (wL r1 k1)
  have hsz : v.cells.size = (zg x).length := by rw [q1.length]; simp
  simp only [qy, w4, e1]
  rw [if_pos (by rw [hsz]; exact k2)]
  obtain ⟨γ', a1, a2, a3⟩ := ae9 H _ q1
  exact ⟨γ', _, _, hk, a1, a2, a3⟩
 ·obtain ⟨z, e, hk⟩ := qf hk
  obtain ⟨zv, e1, r1⟩ := Zd (P := P) (γ := γ) (L := L) (h := h) (S := qd W0 γ L h) e
  simp only [qy, w4, e1]
  obtain ⟨γ', a1, a2, a3⟩ := ae9 H _ r1
  exact ⟨γ', _, _, hk, a1, a2, a3⟩
 ·obtain ⟨ds, e, hk⟩ := qf hk
  obtain ⟨⟨d, L'⟩, e2, hk⟩ := qf hk
  obtain ⟨vs, e1, r1⟩ := Zx hρ e
  obtain ⟨q, mk, e3, ha⟩ := ZC H r1 e2 hk
  simp only [qy, w4, e1, e3]
  exact ha
 ·obtain ⟨f, e, hk⟩ := qf hk
  obtain ⟨ds, e2, hk⟩ := qf hk
  obtain ⟨v, e1, r1⟩ := hρ _ _ e
  obtain ⟨vs, e3, r3⟩ := zh hρ e2
  split at hk
  ·rename_i k pre cap
   obtain ⟨as, bs, rfl, r4, r5⟩ := r1
   simp only [qy, e1, e3, Jg]
   have up : ∀ {ds : List DV} {vs : List Value}, All2 (DB P (qd W0 γ L h) γ L h) ds vs → All2 (DR P (qd W0 γ L h) γ L h) ds vs := fun hh => hh.mono fun d v hd => by
    cases d <;> first | exact hd | exact hd.elim
   exact hk h0 W0 γ h _ H (((up r4).append r3).append (up r5))
  ·exact hk.elim
 ·obtain ⟨ds, e, hk⟩ := qf hk
  obtain ⟨vs, e3, r3⟩ := zh hρ e
  split at hk
  ·cases r3 with
   | cons hs t => cases t with
    | cons hx t =>
     cases t
     obtain ⟨⟨d, L'⟩, e2, hk⟩ := qf hk
     obtain ⟨v', h', γ', e4, a1, a2, a3⟩ := YC H hs hx e2
     simp only [qy, e3, e4]
     exact ⟨γ', _, _, hk, a1, a2, a3⟩
  ·exact hk.elim
 ·obtain ⟨ds, e, hk⟩ := qf hk
  obtain ⟨vs, e3, r3⟩ := zh hρ e
  split at hk
  ·rename_i ht
   cases r3 with
   | cons hx t =>
    cases t
    obtain ⟨d, e2, hk⟩ := qf hk
    obtain ⟨u, e4, r4⟩ := a06 H hx e2
    simp only [qy, e3, ht, e4]
    exact qR H hk r4
  ·exact hk.elim
 ·obtain ⟨ds, e, hk⟩ := qf hk
  obtain ⟨xs, e2, hk⟩ := qf hk
  obtain ⟨d, e4, hk⟩ := qf hk
  obtain ⟨vs, e3, r3⟩ := zh hρ e
  have hv := J1 r3 e2
  rw [hv] at e3
  obtain ⟨u, e5, r5⟩ := jU (P := P) (S := qd W0 γ L h) (γ := γ) (L := L) (h := h) e4
  simp only [qy, qZ, e3, wy, e5]
  exact qR H hk r5
 ·obtain ⟨ds, e, hk⟩ := qf hk
  obtain ⟨xs, e2, hk⟩ := qf hk
  obtain ⟨d, e4, hk⟩ := qf hk
  obtain ⟨vs, e3, r3⟩ := zh hρ e
  have hv := J1 r3 e2
  rw [hv] at e3
  obtain ⟨u, e5, r5⟩ := jU (P := P) (S := qd W0 γ L h) (γ := γ) (L := L) (h := h) e4
  simp only [qy, qZ, e3, wy, e5]
  exact qR H hk r5
 ·exact hk.elim
end
end Go.Sim
namespace Go.Sim
open Go.RowKit
inductive Tr (α : Type) where
 | nil
 | node (v : Option α) (l r : Tr α)
namespace Tr
variable {α : Type}
def get : Tr α → Nat → Option α
 | .nil, _ => none
 | .node v l r, n => if n = 0 then v else if n % 2 = 1 then l.get (n / 2) else r.get (n / 2 - 1)
def set : Nat → Tr α → Nat → Option α → Tr α
 | 0, t, _, _ => t
 | d + 1, .nil, n, x => if n = 0 then .node x .nil .nil else if n % 2 = 1 then .node none (set d .nil (n / 2) x) .nil else .node none .nil (set d .nil (n / 2 - 1) x)
 | d + 1, .node v l r, n, x => if n = 0 then .node x l r else if n % 2 = 1 then .node v (set d l (n / 2) x) r else .node v l (set d r (n / 2 - 1) x)
theorem get_set (x : Option α) : ∀ (d : Nat) (t : Tr α) (n m : Nat), n + 1 < 2 ^ d → (set d t n x).get m = if m = n then x else t.get m
 | 0, t, n, m, h => by simp at h
 | d + 1, .nil, n, m, h => by
  have hp : 2 ^ (d + 1) = 2 * 2 ^ d := by rw [Nat.pow_succ]; omega
  unfold set
  by_cases h0 : n = 0
  ·subst h0
   simp only [if_true, get]
   by_cases hm : m = 0 <;> simp [hm]
  ·rw [if_neg h0]
   by_cases ho : n % 2 = 1
   ·rw [if_pos ho]
    simp only [get]
    by_cases hm : m = 0
    ·rw [if_pos hm, if_neg (by omega)]
    ·rw [if_neg hm]
     by_cases hmo : m % 2 = 1
     ·rw [if_pos hmo, get_set x d .nil (n / 2) (m / 2) (by omega)]
      by_cases he : m = n
      ·rw [if_pos (by omega), if_pos he]
      ·rw [if_neg (by omega), if_neg he]; rfl
     ·rw [if_neg hmo, if_neg (by omega)]
   ·rw [if_neg ho]
    simp only [get]
    by_cases hm : m = 0
    ·rw [if_pos hm, if_neg (by omega)]
    ·rw [if_neg hm]
     by_cases hmo : m % 2 = 1
     ·rw [if_pos hmo, if_neg (by omega)]
     ·rw [if_neg hmo, get_set x d .nil (n / 2 - 1) (m / 2 - 1) (by omega)]
      by_cases he : m = n
      ·rw [if_pos (by omega), if_pos he]
      ·rw [if_neg (by omega), if_neg he]; rfl
 | d + 1, .node v l r, n, m, h => by
  have hp : 2 ^ (d + 1) = 2 * 2 ^ d := by rw [Nat.pow_succ]; omega
  unfold set
  by_cases h0 : n = 0
  ·subst h0
   simp only [if_true, get]
   by_cases hm : m = 0 <;> simp [hm]
  ·rw [if_neg h0]
   by_cases ho : n % 2 = 1
   ·rw [if_pos ho]
    simp only [get]
    by_cases hm : m = 0
    ·rw [if_pos hm, if_neg (by omega)]; simp [hm]
    ·rw [if_neg hm]
     by_cases hmo : m % 2 = 1
     ·rw [if_pos hmo, get_set x d l (n / 2) (m / 2) (by omega)]
      by_cases he : m = n
      ·rw [if_pos (by omega), if_pos he]
      ·rw [if_neg (by omega), if_neg he]; simp [hm, hmo]
     ·rw [if_neg hmo, if_neg (by omega)]; simp [hm, hmo]
   ·rw [if_neg ho]
    simp only [get]
    by_cases hm : m = 0
    ·rw [if_pos hm, if_neg (by omega)]; simp [hm]
    ·rw [if_neg hm]
     by_cases hmo : m % 2 = 1
     ·rw [if_pos hmo, if_neg (by omega)]; simp [hm, hmo]
     ·rw [if_neg hmo, get_set x d r (n / 2 - 1) (m / 2 - 1) (by omega)]
      by_cases he : m = n
      ·rw [if_pos (by omega), if_pos he]
      ·rw [if_neg (by omega), if_neg he]; simp [hm, hmo]
end Tr
structure PH where
 next : Nat
 t : Tr AObj
def PH.get (p : PH) (b : Nat) : Option AObj := if b < p.next then p.t.get b else none
def PH.heap (p : PH) : Heap := ⟨p.next, p.get, fun b o h => by
 unfold PH.get at h
 split at h
 ·assumption
 ·cases h⟩
def PH.room : Nat := 1073741824
def PH.push (p : PH) (o : AObj) : PH := ⟨p.next + 1, Tr.set 31 p.t p.next (some o)⟩
def PH.set (p : PH) (b : Nat) (o : AObj) : PH := ⟨p.next, Tr.set 31 p.t b (some o)⟩
def PH.kill (p : PH) (b : Nat) : PH := ⟨p.next, Tr.set 31 p.t b none⟩
theorem Heap.ext' {h h' : Heap} (hn : h.next = h'.next) (hg : ∀ b, h.get b = h'.get b) : h = h' := by
 cases h; cases h'
 simp only at hn hg
 subst hn
 have := funext hg
 subst this
 rfl
end Go.Sim
namespace Go.Sim
open Go.RowKit
abbrev KX := Value → PH → Bool
def up (K : KX) (v : Value) (h : Heap) : Prop := ∃ p : PH, p.heap = h ∧ K v p = true
end Go.Sim
namespace Go.Sim
open Go.RowKit
end Go.Sim
namespace Go.Sim
open Go.RowKit
theorem a6p {P : Program} {s d : TypeId} {x : Value} {h : Heap} {K K' : Value → Heap → Prop} (hk : ∀ v h, K v h → K' v h) (q : wS P s d x h K) : wS P s d x h K' := by
 unfold wS at q ⊢
 split at q
 ·refine ⟨q.1, ?_⟩
  have q2 := q.2
  split at q2
  ·exact hk _ _ q2
  ·exact q2.elim
 ·exact ⟨q.1, q.2.1, q.2.2.1, hk _ _ q.2.2.2⟩
 ·refine ⟨q.1, q.2.1, q.2.2.1, ?_⟩
  have q2 := q.2.2.2
  split at q2
  ·exact hk _ _ q2
  ·exact q2.elim
 ·split at q
  ·exact hk _ _ q
  ·exact q.elim
theorem a2V {P : Program} {t : TypeId} {x : Value} {h : Heap} {K K' : Value → Heap → Prop} (hk : ∀ v h, K v h → K' v h) (q : Y2 P t x h K) : Y2 P t x h K' := by
 unfold Y2 at q ⊢
 split at q
 ·exact hk _ _ q
 ·exact hk _ _ q
 ·split at q
  ·exact hk _ _ q
  ·exact q.elim
 ·exact q.elim
theorem a60 {P : Program} {x : Value} {s : Bool} {h : Heap} {K K' : Value → Heap → Prop} (hk : ∀ v h, K v h → K' v h) (q : xI P x s h K) : xI P x s h K' := by
 unfold xI at q ⊢
 split at q
 ·split at q
  ·split at q
   ·rename_i hl; rw [if_pos hl]; exact hk _ _ q
   ·rename_i hl; rw [if_neg hl]; exact hk _ _ q
  ·exact q.elim
 ·split at q
  ·exact hk _ _ q
  ·split at q
   ·exact ⟨q.1, fun e => hk _ _ (q.2.1 e), fun e he hs => hk _ _ (q.2.2 e he hs)⟩
   ·exact q.elim
  ·exact q.elim
 ·exact q.elim
theorem a43 {P : Program} {x : Value} {h : Heap} {K K' : Value → Heap → Prop} (hk : ∀ v h, K v h → K' v h) (q : Yi P x h K) : Yi P x h K' := by
 unfold Yi at q ⊢
 split at q
 ·split at q
  ·split at q
   ·split at q
    ·rename_i hc
     rw [if_pos hc]
     split at q
     ·exact hk _ _ q
     ·exact q.elim
    ·exact q.elim
   ·exact q.elim
  ·exact q.elim
 ·exact q.elim
theorem a6R {P : Program} {f : Value} {vs : List Value} {h : Heap} {K K' : Value → Heap → Prop} (hk : ∀ v h, K v h → K' v h) (q : Jg P f vs h K) : Jg P f vs h K' := by
 unfold Jg at q ⊢
 split at q
 ·exact ADoes.mono q hk
 ·exact ⟨q.1, AYield.mono q.2 hk⟩
 ·exact q.elim
theorem a8R {P : Program} {s : SelectCase} {ρ : Rho} {h : Heap} {K K' : Value → Heap → Prop} (hk : ∀ v h, K v h → K' v h) (q : vY P s ρ h K) : vY P s ρ h K' := by
 unfold vY at q ⊢
 split at q
 ·refine ⟨q.1, ?_⟩
  have q2 := q.2
  split at q2
  ·rename_i cap buf hg
   try simp only [hg]
   split at q2
   ·rename_i x hx
    split at q2
    ·rename_i v hv
     try simp only [hx, hv]
     split at q2
     ·rename_i hr; rw [if_pos hr]; exact hk _ _ q2
     ·rename_i hr; rw [if_neg hr]; exact hk _ _ q2
    ·exact q2.elim
   ·rename_i hx
    try simp only [hx]
    split at q2
    ·exact hk _ _ q2
    ·exact hk _ _ q2
  ·exact q2.elim
 ·exact q.elim
theorem Qy {P : Program} {o : Op} {ρ : Rho} {h : Heap} {K K' : Value → Heap → Prop} (hk : ∀ v h, K v h → K' v h) (q : qy P o ρ h K) : qy P o ρ h K' := by
 unfold qy at q ⊢
 split at q <;> first
  | (split at q <;> first
    | exact a6p hk q
    | exact a2V hk q
    | exact a60 hk q
    | exact a43 hk q
    | exact a6R hk q
    | exact a8R hk q
    | exact hk _ _ q
    | exact q.elim
    | (split at q <;> first | exact hk _ _ q | exact q.elim))
end Go.Sim
namespace Go.Sim
open Go.RowKit
def JZ (t : Option Tmp) (want : Bool) (a : DFrm) : Option Bool :=
 match t with
 | some t => match qQ t a.l with
  | some (.p (.v (.bool b))) => some (if want then b else !b)
  | some (.tup _) => some false
  | _ => none
 | none => none
def qV (P : Program) : List C → (DFrm → List Obj → Prop) → DFrm → List Obj → Prop
 | [], K, a, L => K a L
 | c :: r, K, a, L =>
  match c.g with
  | none => zo P c.op a.ev L (fun d L' => qV P r K (a.put c.d d) L')
  | some (t, want) => zl (JZ t want a) (zo P c.op a.ev L (fun d L' => qV P r K (a.put c.d d) L')) (qV P r K (a.put c.d abr) L)
def a4X (a : DFrm) : Option Tmp → Option DV
 | some t => qQ t a.l
 | none => none
def Wg (P : Program) (o : Op) (ρ : Ym) (L : List Obj) : Option DV :=
 match o with
 | .load t x => match ρ x with
  | some p => jE P L t p
  | none => none
 | .call { callee := .builtin .len, args := args, argTypes := ts } => match Qh ρ args.toList, ts.toList with
  | some [x], [t] => Uk P L t x
  | _, _ => none
 | _ => none
def uY (P : Program) (c : C) (a : DFrm) (L : List Obj) : Prop :=
 (qj (Wg P c.op a.ev L) fun d => qj (y3 d) fun x => qj (a4X a c.d) fun d' => qj (y3 d') fun y => x = y) ∨ ∃ id off, Wg P c.op a.ev L = some (.ptr id off) ∧ a4X a c.d = some (.ptr id off)
def aaC (P : Program) (c : C) (a : DFrm) (L : List Obj) : Prop :=
 match c.g with
 | none => uY P c a L
 | some (t, want) => zl (JZ t want a) (uY P c a L) True
def Kz (P : Program) (a : DFrm) (L : List Obj) : List C → Prop
 | [] => True
 | c :: r => aaC P c a L ∧ Kz P a L r
def a46 (P : Program) : List (C × List C) → (DFrm → List Obj → Prop) → DFrm → List Obj → Prop
 | [], K, a, L => K a L
 | (c, ks) :: r, K, a, L => qV P [c] (fun a L => Kz P a L ks ∧ a46 P r K a L) a L
structure FR (P : Program) (W0 : Ent) (γ : Pl) (L : List Obj) (h : Heap) (a : DFrm) (fa : Frm) : Prop where
 n : fa.n = a.n
 cnt : W0.cnt = a.c
 slots : ∀ t d, qQ t a.l = some d → ∃ v, fa.get t = some v ∧ DR P (qd W0 γ L h) γ L h d v
section
variable {P : Program} {γ : Pl} {L : List Obj} {h : Heap} {h0 : Heap} {W0 : Ent} {a : DFrm} {fa : Frm}
theorem adn {S : Nat → Prop} {v : Value} {d : DV} (e : UH v = some d) : qA v = true ∧ DR P S γ L h d v := by
 unfold UH at e
 split at e
 ·rename_i hs; cases e; exact ⟨a8e hs, PR.v hs⟩
 ·split at e
  ·split at e
   ·rename_i xs _ hx
    cases e
    refine ⟨by simpa [qA] using hx, ?_⟩
    have hx' : xs = #[] := by simpa using hx
    rw [hx']
    exact ⟨#[], rfl, .nil⟩
   ·cases e
  ·cases e
theorem FR.rho (hf : FR P W0 γ L h a fa) : xy P W0 γ L h a.ev fa.ev := by
 intro x d e
 cases x with
 | tmp t => exact hf.slots t d e
 | const v =>
  obtain ⟨h1, h2⟩ := adn (P := P) (S := qd W0 γ L h) (γ := γ) (L := L) (h := h) e
  exact ⟨v, by simp [Frm.ev, h1], h2⟩
 | func f => cases e; exact ⟨_, rfl, #[], #[], rfl, .nil, .nil⟩
 | global g => cases e
theorem FR.put {γ' : Pl} {L' : List Obj} {h' : Heap} (hf : FR P W0 γ L h a fa) (c : Carry W0 γ L h γ' L' h') {d : DV} {v : Value} (hd : DR P (qd W0 γ' L' h') γ' L' h' d v) (t : Option Tmp) : FR P W0 γ' L' h' (a.put t d) (fa.put t v) := by
 cases t with
 | none => exact ⟨hf.n, hf.cnt, fun t d e => by obtain ⟨v, e1, r⟩ := hf.slots t d e; exact ⟨v, e1, c.dr r⟩⟩
 | some t =>
  unfold DFrm.put Frm.put
  rw [hf.n]
  by_cases ht : t < a.n
  ·simp only [ht, if_true]
   refine ⟨rfl, hf.cnt, fun u w e => ?_⟩
   simp only [qQ] at e
   simp only [Frm.get, Kb]
   by_cases hu : t = u
   ·subst hu
    simp at e ⊢
    subst e
    exact hd
   ·rw [if_neg hu] at e
    rw [if_neg (Ne.symm hu)]
    obtain ⟨v, e1, r⟩ := hf.slots u w e
    exact ⟨v, e1, c.dr r⟩
  ·simp only [ht, if_false]
   exact ⟨hf.n, hf.cnt, fun t d e => by obtain ⟨v, e1, r⟩ := hf.slots t d e; exact ⟨v, e1, c.dr r⟩⟩
theorem a5W {S : Nat → Prop} : DR P S γ L h abr undef := ⟨#[], rfl, .nil⟩
theorem a2G (hf : FR P W0 γ L h a fa) {t : Option Tmp} {want b : Bool} (e : JZ t want a = some b) : zE t want fa = some b := by
 unfold JZ at e
 unfold zE
 split at e
 ·rename_i t
  split at e
  ·rename_i c hc
   cases e
   obtain ⟨v, e1, r⟩ := hf.slots _ _ hc
   have : v = .bool c := PR.scal (P := P) (S := qd W0 γ L h) (h := h) r
   subst this
   simp only [e1]
  ·rename_i xs hc
   cases e
   obtain ⟨v, e1, vs, rfl, _⟩ := hf.slots _ _ hc
   simp only [e1]
  ·cases e
 ·cases e
def Sim (P : Program) (h0 : Heap) (W0 : Ent) (K : DFrm → List Obj → Prop) (fa : Frm) (h : Heap) : Prop := ∃ a L γ, K a L ∧ Hp P h0 W0 γ L h ∧ FR P W0 γ L h a fa
theorem Xa (H : Hp P h0 W0 γ L h) (hf : FR P W0 γ L h a fa) {o : Op} {d : DV} (e : Wg P o a.ev L = some d) : ∃ v, qO P o fa.ev h = some v ∧ (DR P (qd W0 γ L h) γ L h) d v := by
 unfold Wg at e
 unfold qO
 split at e
 ·split at e
  ·rename_i p hp
   obtain ⟨v, e1, r1⟩ := hf.rho _ _ hp
   simp only [e1]
   exact Zo H r1 e
  ·cases e
 ·split at e
  ·rename_i x t hx ht
   obtain ⟨vs, e1, r1⟩ := zh hf.rho hx
   cases r1 with
   | cons hd tl =>
    cases tl
    simp only [e1, ht]
    exact a06 H hd e
  ·cases e
 ·cases e
theorem a8I (H : Hp P h0 W0 γ L h) (hf : FR P W0 γ L h a fa) {c : C} (hk : aaC P c a L) : uQ P c fa h := by
 have one : uY P c a L → (Qf fa c.d).isSome = true ∧ qO P c.op fa.ev h = Qf fa c.d := by
  intro hk
  rcases hk with hk | ⟨id, off, e1, e3⟩
  case inr =>
   obtain ⟨v, f1, r1⟩ := Xa H hf e1
   obtain ⟨b, g1, -, rfl⟩ := (show DB P (qd W0 γ L h) γ L h (.ptr id off) v from r1)
   cases hc : c.d with
   | none => rw [hc] at e3; cases e3
   | some t =>
    rw [hc] at e3
    obtain ⟨u, f2, r2⟩ := hf.slots t _ e3
    obtain ⟨b', g2, -, rfl⟩ := (show DB P (qd W0 γ L h) γ L h (.ptr id off) u from r2)
    rw [g1] at g2
    cases g2
    simp only [Qf]
    rw [f1, f2]
    exact ⟨rfl, rfl⟩
  obtain ⟨d, e1, hk⟩ := qf hk
  obtain ⟨x, e2, hk⟩ := qf hk
  obtain ⟨d', e3, hk⟩ := qf hk
  obtain ⟨y, e4, rfl⟩ := qf hk
  obtain ⟨v, f1, r1⟩ := Xa H hf e1
  have := j7 r1 e2
  rw [this] at f1
  cases hc : c.d with
  | none => rw [hc] at e3; cases e3
  | some t =>
   rw [hc] at e3
   obtain ⟨u, f2, r2⟩ := hf.slots t d' e3
   have := j7 r2 e4
   rw [this] at f2
   simp only [Qf]
   rw [f1, f2]
   exact ⟨rfl, rfl⟩
 unfold aaC at hk
 unfold uQ
 cases hg : c.g with
 | none => simp only [hg] at hk ⊢; exact one hk
 | some p =>
  obtain ⟨t, want⟩ := p
  simp only [hg] at hk ⊢
  cases hv : JZ t want a with
  | none => rw [hv] at hk; exact hk.elim
  | some b =>
   rw [hv] at hk
   cases b
   ·exact .inl (a2G hf hv)
   ·exact .inr (one (hk.1 rfl))
abbrev DQ := Exit → DFrm → List Obj → Prop
def ajD (P : Program) (h0 : Heap) (W0 : Ent) (Q : DQ) (e : Exit) (fa : Frm) (h : Heap) : Prop := Sim P h0 W0 (Q e) fa h
def DAWp (P : Program) (c : Code) (Q : DQ) (a : DFrm) (L : List Obj) : Prop :=
 ∀ h0 W0 γ h fa, Hp P h0 W0 γ L h → FR P W0 γ L h a fa → AWp P c (ajD P h0 W0 Q) fa h
def Wv (K : DFrm → List Obj → Prop) (Q : DQ) : DQ
 | .normal, a, L => K a L
 | e, a, L => Q e a L
def a9Z (id : Nat) (Q : DQ) : DQ
 | .exit id', a, L => if id' = id then Q .normal a L else Q (.exit id') a L
 | e, a, L => Q e a L
def acI (P : Program) (x : X) (Q : DQ) (a : DFrm) (L : List Obj) : Prop := ∀ c, xOf P c .nil = x → DAWp P (.loop c) Q a L
def aa1 (P : Program) (x labs : X) (Q : DQ) (a : DFrm) (L : List Obj) : Prop := ∀ c, xOf P c .nil = x → Z8 P c .nil .nil = labs → DAWp P (.scope c) Q a L
def ag7 (P : Program) (f : Operand) (ps : List Tmp) (c d : Code) (Q : DQ) (a : DFrm) (L : List Obj) : Prop := DAWp P (.rangeFunc f ps.toArray c d) Q a L
def X4 (o : Option DV) (A B : Prop) : Prop := match o with
 | some (.p (.v (.bool b))) => (b = true → A) ∧ (b = false → B)
 | _ => False
def KW (K : DFrm → List Obj → Prop) (a : DFrm) (L : List Obj) : Prop := ∃ l', (∀ t d, qQ t l' = some d → qQ t a.l = some d) ∧ K ⟨a.n, a.c, l'⟩ L
theorem FR.sub (hf : FR P W0 γ L h a fa) {l' : List (Nat × DV)} (hs : ∀ t d, qQ t l' = some d → qQ t a.l = some d) : FR P W0 γ L h ⟨a.n, a.c, l'⟩ fa := ⟨hf.n, hf.cnt, fun t d e => hf.slots t d (hs t d e)⟩
theorem KW.refl {K : DFrm → List Obj → Prop} {a : DFrm} {L : List Obj} (h : K a L) : KW K a L := ⟨a.l, fun _ _ e => e, h⟩
def yU (P : Program) : X → DQ → DFrm → List Obj → Prop
 | .nil, Q, a, L => Q .normal a L
 | .ret, Q, a, L => Q .ret a L
 | .exit id, Q, a, L => Q (.exit id) a L
 | .goto l, Q, a, L => Q (.goto l) a L
 | .bad, _, _, _ => False
 | .reg l k, Q, a, L => qV P l (KW fun a L => yU P k Q a L) a L
 | .draw l k, Q, a, L => a46 P l (KW fun a L => yU P k Q a L) a L
 | .cond c x y k, Q, a, L => X4 (a.ev c) (KW (yU P x (Wv (KW fun a L => yU P k Q a L) Q)) a L) (KW (yU P y (Wv (KW fun a L => yU P k Q a L) Q)) a L)
 | .block id x k, Q, a, L => yU P x (a9Z id (Wv (KW fun a L => yU P k Q a L) Q)) a L
 | .loop x k, Q, a, L => acI P x (Wv (KW fun a L => yU P k Q a L) Q) a L
 | .lcons _ _ _, _, _, _ => False
 | .scope x labs k, Q, a, L => aa1 P x labs (Wv (KW fun a L => yU P k Q a L) Q) a L
 | .label _ k, Q, a, L => yU P k Q a L
 | .range f ps x y k, Q, a, L => ag7 P f ps x y (Wv (KW fun a L => yU P k Q a L) Q) a L
end
def Wj (P : Program) (x : X) (Q : DQ) (a : DFrm) (L : List Obj) : Prop := KW (yU P x Q) a L
end Go.Sim
namespace Go.Sim
open Go.RowKit
inductive VW : Value → Value → Prop
 | refl (v : Value) : VW v v
 | empty (b o c : Nat) : VW (.slice (some ⟨b, o, none⟩) 0 c) (.slice (some ⟨b, o, none⟩) 0 dud)
 | exact {u : Value} (h : u.oneCell' = true) : VW (a0u u) u
 | agg {xs ys : Array Value} (hl : xs.size = ys.size) (h : ∀ (i : Nat) (x y : Value), xs[i]? = some x → ys[i]? = some y → VW x y) : VW (.agg xs) (.agg ys)
 | tuple {xs ys : Array Value} (hl : xs.size = ys.size) (h : ∀ (i : Nat) (x y : Value), xs[i]? = some x → ys[i]? = some y → VW x y) : VW (.tuple xs) (.tuple ys)
theorem VRel.weak {β : Place} {v u : Value} (hw : VW v u) : ∀ {m : Value}, VRel β v m → VRel β u m := by
 induction hw with
 | refl v => exact fun h => h
 | empty b o c =>
  intro m h
  cases h with
  | slice h hc hn hm hr => exact .dud
  | dud => exact .dud
  | zero => exact .dud
 | exact h =>
  intro m q
  cases q with
  | exact q => exact q
  | func hf _ _ _ _ => cases hf
 | @agg xs ys hl _ ih =>
  intro m h
  cases h with
  | agg hx hh =>
   refine .agg (by omega) fun i v v' e1 e2 => ?_
   have hi : i < xs.size := by have := (Array.getElem?_eq_some_iff.1 e1).1; omega
   exact ih i xs[i] v (Array.getElem?_eq_getElem hi) e1 (hh i xs[i] v' (Array.getElem?_eq_getElem hi) e2)
 | @tuple xs ys hl _ ih =>
  intro m h
  cases h with
  | tuple hx hh =>
   refine .tuple (by omega) fun i v v' e1 e2 => ?_
   have hi : i < xs.size := by have := (Array.getElem?_eq_some_iff.1 e1).1; omega
   exact ih i xs[i] v (Array.getElem?_eq_getElem hi) e1 (hh i xs[i] v' (Array.getElem?_eq_getElem hi) e2)
theorem VRels.weak {β : Place} : ∀ {vs us ms : List Value}, All2 VW vs us → VRels β vs ms → VRels β us ms
 | _, _, _, .nil, .nil => .nil
 | _, _, _, .cons hw t, .cons h t' => .cons (h.weak hw) (VRels.weak t t')
theorem ACalls.vw {P : Program} {f : FuncId} {args : List Value} {h : Heap} {Q Q' : Value → Heap → Prop} (hc : ACalls P f args h Q) (hq : ∀ v h', Q v h' → ∃ u, VW v u ∧ Q' u h') : ACalls P f args h Q' :=
 ⟨hc.1, fun β w ms hv hr => (hc.2 β w ms hv hr).mono fun e w' ⟨mv, e1, v, h', β', a, b, c, d⟩ => by
  obtain ⟨u, h1, h2⟩ := hq v h' d
  exact ⟨mv, e1, u, h', β', a.weak h1, b, c, h2⟩⟩
theorem ACalls.args {P : Program} {f : FuncId} {args us : List Value} {h : Heap} {Q : Value → Heap → Prop} (hw : All2 VW args us) (hc : ACalls P f us h Q) : ACalls P f args h Q :=
 ⟨hc.1, fun β w ms hv hr => hc.2 β w ms (hv.weak hw) hr⟩
abbrev Sel := List (Option Nat)
def unB (sel : Sel) : DV → Option DV
 | .p x => some (.p x)
 | .ptr id off => match sel[id]? with
  | some (some k) => some (.ptr k off)
  | _ => none
 | .ep id i off tot => match sel[id]? with
  | some (some k) => some (.ep k i off tot)
  | _ => none
 | .dp row off => some (.dp row off)
 | .ref id lo n tot => match sel[id]? with
  | some (some k) => some (.ref k lo n tot)
  | some none => if lo = 0 ∧ n = 0 ∧ tot = 0 then some (.p (.v (.slice none 0 0))) else none
  | none => none
 | .aref id off n => match sel[id]? with
  | some (some k) => some (.aref k off n)
  | _ => none
 | .cx z rows => some (.cx z rows)
 | .mref id => match sel[id]? with
  | some (some k) => some (.mref k)
  | _ => none
 | _ => none
def Wi (sel : Sel) : List DV → Option (List DV)
 | [] => some []
 | d :: l => match unB sel d, Wi sel l with
  | some d, some l => some (d :: l)
  | _, _ => none
def unC (sel : Sel) : DV → Option DV
 | .fn f pre cap => match Wi sel pre, Wi sel cap with
  | some a, some b => some (.fn f a b)
  | _, _ => none
 | d => unB sel d
def acd (sel : Sel) : List DV → Option (List DV)
 | [] => some []
 | d :: l => match unC sel d, acd sel l with
  | some d, some l => some (d :: l)
  | _, _ => none
def un1 (sel : Sel) : DV → Option DV
 | .agg xs => (acd sel xs).map .agg
 | d => unC sel d
def aj6 (sel : Sel) : List DV → Option (List DV)
 | [] => some []
 | d :: l => match un1 sel d, aj6 sel l with
  | some d, some l => some (d :: l)
  | _, _ => none
def unD (sel : Sel) : DV → Option DV
 | .tup xs => (aj6 sel xs).map .tup
 | d => un1 sel d
def unP : PV → PV → Prop
 | .sl _ rows, .v (.slice none 0 0) => rows = []
 | x, y => x = y
def unX (sel : Sel) : DV → DV → Prop
 | .p (.sl _ rows), .p (.v (.slice none 0 0)) => rows = []
 | d', d => unC sel d' = some d
def Kq (rows rows' : List (List PV)) : Prop := rows = rows' ∨ All2 (All2 unP) rows rows'
theorem aiG {P : Program} {S : Nat → Prop} {h : Heap} {x' x : PV} {v : Value} (e : unP x' x) (hx : PR P S h x v) : PR P S h x' v := by
 unfold unP at e
 split at e
 ·subst e
  rw [hx.scal]
  exact .nil
 ·subst e; exact hx
theorem Kk {rows rows' : List (List PV)} (e : Kq rows rows') : rows.length = rows'.length := by
 rcases e with rfl | e
 ·rfl
 ·exact e.length
theorem VI {rows rows' : List (List PV)} (e : Kq rows rows') {z : Nat} (h : ∀ r ∈ rows, r.length = z) : ∀ r ∈ rows', r.length = z := by
 rcases e with rfl | e
 ·exact h
 ·intro r hr
  obtain ⟨i, hi, rfl⟩ := List.getElem_of_mem hr
  obtain ⟨r', h1, h2⟩ := e.get' (List.getElem?_eq_getElem hi)
  rw [← h2.length]
  exact h _ (List.mem_of_getElem? h1)
theorem a8U {rows rows' : List (List PV)} (e : Kq rows rows') {z : Nat} (h : ∀ r ∈ rows', r.length = z) : ∀ r ∈ rows, r.length = z := by
 rcases e with rfl | e
 ·exact h
 ·intro r hr
  obtain ⟨i, hi, rfl⟩ := List.getElem_of_mem hr
  obtain ⟨r', h1, h2⟩ := e.get (List.getElem?_eq_getElem hi)
  rw [h2.length]
  exact h _ (List.mem_of_getElem? h1)
theorem aeu {rows rows' : List (List PV)} (e : Kq rows rows') {i j : Nat} {r : List PV} {x : PV} (h1 : rows[i]? = some r) (h2 : r[j]? = some x) : ∃ r' x', rows'[i]? = some r' ∧ r'[j]? = some x' ∧ unP x x' := by
 rcases e with rfl | e
 ·exact ⟨r, x, h1, h2, by cases x <;> rfl⟩
 ·obtain ⟨r', a1, a2⟩ := e.get h1
  obtain ⟨x', b1, b2⟩ := a2.get h2
  exact ⟨r', x', a1, b1, b2⟩
theorem Rows.of_w {P : Program} {S : Nat → Prop} {h : Heap} {b q : Nat} {te : TypeId} {rows rows' : List (List PV)} (e : Kq rows rows') (hr : Rows P S h b q te rows') : Rows P S h b q te rows := by
 obtain ⟨cs, z, a1, a2, a3, a4, a5, a6, a7⟩ := hr
 have hl := Kk e
 refine ⟨cs, z, a1, a2, a3, by rw [hl]; exact a4, by rw [hl]; exact a5, a8U e a6, fun i r j x u b1 b2 b3 => ?_⟩
 obtain ⟨r', x', c1, c2, c3⟩ := aeu e b1 b2
 exact aiG c3 (a7 i r' j x' u c1 c2 b3)
theorem Y3 {rows rows' : List (List PV)} (e : Kq rows rows') (h : rows' = []) : rows = [] := by
 have := Kk e
 subst h
 exact List.length_eq_zero_iff.1 this
def unO (sel : Sel) : Obj → Obj → Prop
 | .st cells, .st cells' => All2 (unX sel) cells cells'
 | .li e rows, .li e' rows' => e = e' ∧ Kq rows rows'
 | .fz e rows, .li e' rows' => e = e' ∧ Kq rows rows'
 | .fz e rows, .fz e' rows' => e = e' ∧ Kq rows rows'
 | .mp es, .mp es' => All2 (fun a b => a.1 = b.1 ∧ un1 sel a.2 = some b.2) es es'
 | .dead, .li _ _ => True
 | .dead, .fz _ _ => True
 | .dead, .dead => True
 | _, _ => False
theorem aeJ {sel : Sel} {o' o : Obj} (h : unO sel o' o) (hd : o'.owns = true) : o.owns = true := by
 cases o' with
 | st c => cases o <;> first | exact h.elim | rfl
 | mp c => cases o <;> first | exact h.elim | rfl
 | li e r => cases o with
  | li e' r' => obtain ⟨rfl, -⟩ := h; cases e <;> exact hd
  | _ => exact h.elim
 | fz e r => cases hd
 | dead => cases hd
structure SelOk (L : List Obj) (sel : Sel) (L' : List Obj) : Prop where
 len : sel.length = L'.length
 inj : ∀ (i j k : Nat), sel[i]? = some (some k) → sel[j]? = some (some k) → i = j
 old : ∀ (i k : Nat) (o' : Obj), sel[i]? = some (some k) → L'[i]? = some o' → ∃ o, L[k]? = some o ∧ unO sel o' o
 fresh : ∀ (i : Nat) (o' : Obj), sel[i]? = some none → L'[i]? = some o' → o' = .li none []
def qK (γ : Pl) (sel : Sel) : Pl := fun i => match sel[i]? with
 | some (some k) => γ k
 | _ => none
section
variable {P : Program} {γ : Pl} {L L' : List Obj} {h : Heap} {h0 : Heap} {W0 : Ent} {sel : Sel}
theorem z8 {i k : Nat} (e : sel[i]? = some (some k)) : qK γ sel i = γ k := by unfold qK; rw [e]
theorem a4t {i : Nat} (e : sel[i]? = some none) : qK γ sel i = none := by unfold qK; rw [e]
theorem SelOk.at (ok : SelOk L sel L') {i : Nat} {o' : Obj} (hi : L'[i]? = some o') : ∃ s, sel[i]? = some s := by
 have : i < L'.length := (List.getElem?_eq_some_iff.1 hi).1
 rw [← ok.len] at this
 exact ⟨_, List.getElem?_eq_getElem this⟩
theorem SelOk.owns (ok : SelOk L sel L') {i : Nat} {o' : Obj} (hi : L'[i]? = some o') (hd : o'.owns = true) : ∃ k o, sel[i]? = some (some k) ∧ L[k]? = some o ∧ o.owns = true := by
 obtain ⟨s, hs⟩ := ok.at hi
 cases s with
 | none => rw [ok.fresh i o' hs hi] at hd; cases hd
 | some k =>
  obtain ⟨o, h1, h2⟩ := ok.old i k o' hs hi
  refine ⟨k, o, hs, h1, ?_⟩
  exact aeJ h2 hd
theorem yN (ok : SelOk L sel L') {b : Nat} (hb : qd W0 γ L h b) : qd W0 (qK γ sel) L' h b := by
 refine ⟨hb.1, hb.2.1, fun i o' x hi hd hg => ?_⟩
 obtain ⟨k, o, e1, e2, e3⟩ := ok.owns hi hd
 rw [z8 e1] at hg
 exact hb.2.2 k o x e2 e3 hg
theorem a7B (ok : SelOk L sel L') {x : PV} {v : Value} (hx : PR P (qd W0 γ L h) h x v) : PR P (qd W0 (qK γ sel) L' h) h x v := hx.mono fun _ hb => ⟨yN ok hb, rfl⟩
theorem a5j (ok : SelOk L sel L') {i k : Nat} {o' : Obj} {rows : List (List PV)} (e : sel[i]? = some (some k)) (hi : L'[i]? = some o') (hl : o'.isList rows) : ∃ o rows', L[k]? = some o ∧ o.isList rows' ∧ Kq rows rows' := by
 obtain ⟨o, h1, h2⟩ := ok.old i k o' e hi
 refine ⟨o, ?_⟩
 cases o' <;> cases o <;> first | exact h2.elim | exact hl.elim | (obtain ⟨rfl, h3⟩ := h2; cases hl; exact ⟨_, h1, rfl, h3⟩)
theorem a8k (ok : SelOk L sel L') {id k : Nat} {c : List DV} (hs : sel[id]? = some (some k)) (h2 : L[k]? = some (.st c)) : ∃ c', L'[id]? = some (.st c') := by
 have hlt : id < L'.length := by rw [← ok.len]; exact (List.getElem?_eq_some_iff.1 hs).1
 obtain ⟨o, g1, g2⟩ := ok.old id k _ hs (List.getElem?_eq_getElem hlt)
 rw [h2] at g1; cases g1
 rw [List.getElem?_eq_getElem hlt]
 cases ho : L'[id] <;> rw [ho] at g2 <;> first | exact ⟨_, rfl⟩ | exact g2.elim
theorem ai0 (ok : SelOk L sel L') {id k : Nat} {c : List (Value × DV)} (hs : sel[id]? = some (some k)) (h2 : L[k]? = some (.mp c)) : ∃ c', L'[id]? = some (.mp c') := by
 have hlt : id < L'.length := by rw [← ok.len]; exact (List.getElem?_eq_some_iff.1 hs).1
 obtain ⟨o, g1, g2⟩ := ok.old id k _ hs (List.getElem?_eq_getElem hlt)
 rw [h2] at g1; cases g1
 rw [List.getElem?_eq_getElem hlt]
 cases ho : L'[id] <;> rw [ho] at g2 <;> first | exact ⟨_, rfl⟩ | exact g2.elim
theorem aet (H : Hp P h0 W0 γ L h) (ok : SelOk L sel L') {d' d : DV} {v : Value} (e : unB sel d' = some d) (hd : DB P (qd W0 γ L h) γ L h d v) : DB P (qd W0 (qK γ sel) L' h) (qK γ sel) L' h d' v := by
 cases d' with
 | p x => cases e; exact a7B ok hd
 | dp row off =>
  cases e
  obtain ⟨b, o, cs, te, rw, h1, h2, h3, h4, h5⟩ := hd
  exact ⟨b, o, cs, te, rw, yN ok h1, h2, h3, h4, fun j x u a c => a7B ok (h5 j x u a c)⟩
 | ptr id off =>
  unfold unB at e
  cases hs : sel[id]? with
  | none => simp only [hs] at e; cases e
  | some s =>
   cases s with
   | none => simp only [hs] at e; cases e
   | some k =>
    simp only [hs] at e; cases e
    obtain ⟨b, h1, ⟨c, h2⟩, h3⟩ := hd
    exact ⟨b, (z8 hs).trans h1, a8k ok hs h2, h3⟩
 | aref id off n =>
  unfold unB at e
  cases hs : sel[id]? with
  | none => simp only [hs] at e; cases e
  | some s =>
   cases s with
   | none => simp only [hs] at e; cases e
   | some k =>
    simp only [hs] at e; cases e
    obtain ⟨b, h1, ⟨c, h2⟩, h3⟩ := hd
    exact ⟨b, (z8 hs).trans h1, a8k ok hs h2, h3⟩
 | ep id i off tot =>
  unfold unB at e
  cases hs : sel[id]? with
  | none => simp only [hs] at e; cases e
  | some s =>
   cases s with
   | none => simp only [hs] at e; cases e
   | some k =>
    simp only [hs] at e; cases e
    have hlt : id < L'.length := by rw [← ok.len]; exact (List.getElem?_eq_some_iff.1 hs).1
    obtain ⟨k1, k2, k3⟩ := hd
    refine ⟨hlt, k2, fun o' rows e1 e2 => ?_⟩
    obtain ⟨o, rows', g1, g2, g3⟩ := a5j ok hs e1 e2
    rw [z8 hs]
    obtain ⟨m1, m2⟩ := k3 o rows' g1 g2
    have hl := Kk g3
    refine ⟨by rw [hl]; exact m1, fun hq => ?_⟩
    obtain ⟨m3, m4⟩ := m2 (by rw [← hl]; exact hq)
    exact ⟨m3, fun z hz => m4 z (VI g3 hz)⟩
 | ref id lo n tot =>
  unfold unB at e
  cases hs : sel[id]? with
  | none => simp only [hs] at e; cases e
  | some s =>
   have hlt : id < L'.length := by rw [← ok.len]; exact (List.getElem?_eq_some_iff.1 hs).1
   cases s with
   | none =>
    simp only [hs] at e
    split at e
    ·rename_i hc
     obtain ⟨rfl, rfl, rfl⟩ := hc
     cases e
     have : v = .slice none 0 0 := PR.scal (P := P) (S := qd W0 γ L h) (h := h) hd
     subst this
     refine ⟨hlt, rfl, fun o' rows e1 e2 => ?_⟩
     have := ok.fresh id o' hs e1
     subst this
     cases e2
     exact ⟨Nat.le_refl _, fun _ => ⟨by omega, fun z _ => .inl ⟨.inl rfl, rfl, a4t hs⟩⟩⟩
    ·cases e
   | some k =>
    simp only [hs] at e; cases e
    obtain ⟨k1, k2, k3⟩ := hd
    refine ⟨hlt, k2, fun o' rows e1 e2 => ?_⟩
    obtain ⟨o, rows', g1, g2, g3⟩ := a5j ok hs e1 e2
    unfold afH
    rw [z8 hs]
    obtain ⟨m1, m2⟩ := k3 o rows' g1 g2
    have hl := Kk g3
    refine ⟨by rw [hl]; exact m1, fun hq => ?_⟩
    obtain ⟨m3, m4⟩ := m2 (by rw [← hl]; exact hq)
    exact ⟨m3, fun z hz => m4 z (VI g3 hz)⟩
 | cx z rows => cases e; exact CxV.mono (fun b hb => ⟨yN ok hb, rfl⟩) hd
 | mref id =>
  unfold unB at e
  cases hs : sel[id]? with
  | none => simp only [hs] at e; cases e
  | some s =>
   cases s with
   | none => simp only [hs] at e; cases e
   | some k =>
    simp only [hs] at e; cases e
    obtain ⟨b, h1, ⟨c, h2⟩, h3⟩ := hd
    exact ⟨b, (z8 hs).trans h1, ai0 ok hs h2, h3⟩
 | fn => cases e
 | agg => cases e
 | tup => cases e
theorem a3p (H : Hp P h0 W0 γ L h) (ok : SelOk L sel L') : ∀ {ds' ds : List DV} {vs : List Value}, Wi sel ds' = some ds → All2 (DB P (qd W0 γ L h) γ L h) ds vs → All2 (DB P (qd W0 (qK γ sel) L' h) (qK γ sel) L' h) ds' vs
 | [], _, _, e, hd => by cases e; cases hd; exact .nil
 | d' :: ds', _, _, e, hd => by
  unfold Wi at e
  cases h1 : unB sel d' with
  | none => simp only [h1] at e; cases e
  | some d =>
   cases h2 : Wi sel ds' with
   | none => simp only [h1, h2] at e; cases e
   | some ds =>
    simp only [h1, h2] at e; cases e
    cases hd with
    | cons a b => exact .cons (aet H ok h1 a) (a3p H ok h2 b)
theorem a8o (H : Hp P h0 W0 γ L h) (ok : SelOk L sel L') {d' d : DV} {v : Value} (e : unC sel d' = some d) (hd : DC P (qd W0 γ L h) γ L h d v) : DC P (qd W0 (qK γ sel) L' h) (qK γ sel) L' h d' v := by
 have key : ∀ d', (∀ f a b, d' ≠ .fn f a b) → unB sel d' = some d → DC P (qd W0 (qK γ sel) L' h) (qK γ sel) L' h d' v := by
  intro d' hn e
  have hb : DB P (qd W0 γ L h) γ L h d v := by
   cases d with
   | fn f a b =>
    cases d' <;> (unfold unB at e) <;> (try split at e) <;> (try split at e) <;> (try split at e) <;> cases e
   | p => exact hd
   | ptr => exact hd
   | ep => exact hd
   | dp => exact hd
   | ref => exact hd
   | aref => exact hd
   | mref => exact hd
   | cx => exact hd
   | agg => exact hd.elim
   | tup => exact hd.elim
  have := aet H ok e hb
  cases d' <;> first | exact this | exact absurd rfl (hn _ _ _)
 cases d' with
 | fn f pre cap =>
  unfold unC at e
  cases h1 : Wi sel pre with
  | none => simp only [h1] at e; cases e
  | some p =>
   cases h2 : Wi sel cap with
   | none => simp only [h1, h2] at e; cases e
   | some c =>
    simp only [h1, h2] at e; cases e
    obtain ⟨as, bs, rfl, a1, a2⟩ := hd
    exact ⟨as, bs, rfl, a3p H ok h1 a1, a3p H ok h2 a2⟩
 | _ => exact key _ (by intro f a b e; cases e) e
theorem aa4 (H : Hp P h0 W0 γ L h) (ok : SelOk L sel L') : ∀ {ds' ds : List DV} {vs : List Value}, acd sel ds' = some ds → All2 (DC P (qd W0 γ L h) γ L h) ds vs → All2 (DC P (qd W0 (qK γ sel) L' h) (qK γ sel) L' h) ds' vs
 | [], _, _, e, hd => by cases e; cases hd; exact .nil
 | d' :: ds', _, _, e, hd => by
  unfold acd at e
  cases h1 : unC sel d' with
  | none => simp only [h1] at e; cases e
  | some d =>
   cases h2 : acd sel ds' with
   | none => simp only [h1, h2] at e; cases e
   | some ds =>
    simp only [h1, h2] at e; cases e
    cases hd with
    | cons a b => exact .cons (a8o H ok h1 a) (aa4 H ok h2 b)
theorem ahM {d d' : DV} (e : unC sel d' = some d) : ∀ xs, d ≠ .agg xs := by
 intro xs hx
 subst hx
 cases d' with
 | fn f a b =>
  unfold unC at e
  cases h1 : Wi sel a with
  | none => simp only [h1] at e; cases e
  | some p =>
   cases h2 : Wi sel b with
   | none => simp only [h1, h2] at e; cases e
   | some c => simp only [h1, h2] at e; cases e
 | _ =>
  simp only [unC, unB] at e
  all_goals (repeat' split at e)
  all_goals cases e
theorem agc (H : Hp P h0 W0 γ L h) (ok : SelOk L sel L') {d' d : DV} {v : Value} (e : un1 sel d' = some d) (hd : D1 P (qd W0 γ L h) γ L h d v) : D1 P (qd W0 (qK γ sel) L' h) (qK γ sel) L' h d' v := by
 have key : un1 sel d' = unC sel d' → D1 P (qd W0 (qK γ sel) L' h) (qK γ sel) L' h d' v := fun q => by
  rw [q] at e
  exact ZY (a8o H ok e (Ke hd (ahM e)))
 cases d' with
 | agg xs =>
  simp only [un1] at e
  cases hx : acd sel xs with
  | none => rw [hx] at e; cases e
  | some ys =>
   rw [hx] at e; cases e
   obtain ⟨vs, rfl, h1⟩ := hd
   exact ⟨vs, rfl, aa4 H ok hx h1⟩
 | _ => exact key rfl
theorem a7i (H : Hp P h0 W0 γ L h) (ok : SelOk L sel L') {d' d : DV} {v : Value} (e : unX sel d' d) (hd : DC P (qd W0 γ L h) γ L h d v) : DC P (qd W0 (qK γ sel) L' h) (qK γ sel) L' h d' v := by
 unfold unX at e
 split at e
 ·subst e
  have : v = .slice none 0 0 := PR.scal (P := P) (S := qd W0 γ L h) (h := h) hd
  subst this
  exact PR.nil
 ·exact a8o H ok e hd
theorem a9T (H : Hp P h0 W0 γ L h) (ok : SelOk L sel L') : ∀ {ds' ds : List DV} {vs : List Value}, All2 (unX sel) ds' ds → All2 (DC P (qd W0 γ L h) γ L h) ds vs → All2 (DC P (qd W0 (qK γ sel) L' h) (qK γ sel) L' h) ds' vs
 | _, _, _, .nil, .nil => .nil
 | _, _, _, .cons e t, .cons hd t' => .cons (a7i H ok e hd) (a9T H ok t t')
theorem Hp.allowed (H : Hp P h0 W0 γ L h) {id b x : Nat} {o : Obj} (hi : L[id]? = some o) (hd : o.owns = true) (hg : γ id = some (b, x)) : W0.start ≤ b ∨ W0.A b := by
 rw [H.start]
 exact (H.new id o b x hi hd hg).imp_right (W0.sub b)
theorem Hp.select (H : Hp P h0 W0 γ L h) (ok : SelOk L sel L') (hpin : ∀ id b, W0.pin id b → sel[id]? = some (some id)) : Hp P h0 W0 (qK γ sel) L' h := by
 refine ⟨H.start, fun id b e => (let ⟨a, c, b'⟩ := H.pin id b e; ⟨(z8 (hpin id b e)).trans a, a8k ok (hpin id b e) b'⟩), fun i o' hi => ?_, fun i j o1 o2 b x x' e1 e2 d1 d2 g1 g2 => ?_, fun i x e => ?_, fun i o' b x hi hd hg => ?_, H.next, H.frame⟩
 ·obtain ⟨s, hs⟩ := ok.at hi
  cases s with
  | none =>
   have := ok.fresh i o' hs hi
   subst this
   exact ⟨rfl, a4t hs⟩
  | some k =>
   obtain ⟨o, h1, h2⟩ := ok.old i k o' hs hi
   have ho := H.obj k o h1
   have rr : ∀ {b q te rows}, Rows P (qd W0 γ L h) h b q te rows → Rows P (qd W0 (qK γ sel) L' h) h b q te rows := by
    rintro b q te rows ⟨cs, z, a1, a2, a3, a4, a5, a6, a7⟩
    exact ⟨cs, z, a1, a2, a3, a4, a5, a6, fun i r j x u b1 b2 b3 => a7B ok (a7 i r j x u b1 b2 b3)⟩
   cases o' with
   | dead => trivial
   | mp es =>
    cases o with
    | mp es' =>
     obtain ⟨b, mes, ck, g1, g2, g3⟩ := ho
     refine ⟨b, mes, ck, (z8 hs).trans g1, g2, ?_⟩
     refine All2.of_get (by rw [(show All2 _ es es' from h2).length, g3.length]) fun i a e1 ha he1 => ?_
     obtain ⟨a', q1, q2, q3⟩ := (show All2 _ es es' from h2).get ha
     obtain ⟨e2, q4, q5, q6⟩ := g3.get q1
     rw [he1] at q4; cases q4
     exact ⟨q5.trans q2.symm, agc H ok q3 q6⟩
    | _ => exact h2.elim
   | st cells =>
    cases o with
    | st cells' =>
     obtain ⟨b, te, vs, g1, g2, g3⟩ := ho
     exact ⟨b, te, vs, (z8 hs).trans g1, g2, a9T H ok h2 g3⟩
    | _ => exact h2.elim
   | li te rows =>
    cases o with
    | li te' rows' =>
     obtain ⟨rfl, hw⟩ := h2
     cases te with
     | none => exact ⟨Y3 hw ho.1, (z8 hs).trans ho.2⟩
     | some te =>
      obtain ⟨b, q, g1, g2⟩ := ho
      exact ⟨b, q, (z8 hs).trans g1, rr (g2.of_w hw)⟩
    | _ => exact h2.elim
   | fz te rows =>
    cases o with
    | fz te' rows' =>
     obtain ⟨rfl, hw⟩ := h2
     cases te with
     | none => exact ⟨Y3 hw ho.1, (z8 hs).trans ho.2⟩
     | some te =>
      obtain ⟨b, q, g1, g2, g3⟩ := ho
      exact ⟨b, q, (z8 hs).trans g1, yN ok g2, rr (g3.of_w hw)⟩
    | li te' rows' =>
     obtain ⟨rfl, hw⟩ := h2
     cases te with
     | none => exact ⟨Y3 hw ho.1, (z8 hs).trans ho.2⟩
     | some te =>
      obtain ⟨b, q, g1, g2⟩ := ho
      refine ⟨b, q, (z8 hs).trans g1, ⟨?_, H.allowed h1 rfl g1, fun j oj x hj hd hg => ?_⟩, rr (g2.of_w hw)⟩
      ·obtain ⟨cs, z, a1, _⟩ := g2
       exact h.wf _ _ a1
      ·obtain ⟨kj, ok', f1, f2, f3⟩ := ok.owns hj hd
       rw [z8 f1] at hg
       have hkk := H.inj k kj _ ok' b q x h1 f2 rfl f3 g1 hg
       subst hkk
       have hij := ok.inj i j k hs f1
       subst hij
       rw [hi] at hj
       cases hj
       cases hd
    | _ => exact h2.elim
 ·obtain ⟨k1, q1, a1, a2, a3⟩ := ok.owns e1 d1
  obtain ⟨k2, q2, b1, b2, b3⟩ := ok.owns e2 d2
  rw [z8 a1] at g1
  rw [z8 b1] at g2
  have := H.inj k1 k2 q1 q2 b x x' a2 b2 a3 b3 g1 g2
  subst this
  exact ok.inj i j k1 a1 b1
 ·unfold qK at e
  split at e
  ·rename_i k hs
   rw [← ok.len]; exact (List.getElem?_eq_some_iff.1 hs).1
  ·cases e
 ·obtain ⟨k1, q1, a1, a2, a3⟩ := ok.owns hi hd
  rw [z8 a1] at hg
  exact H.new k1 q1 b x a2 a3 hg
def wkC (P : Program) (L : List Obj) (sel : Sel) : DV → DV → Prop
 | .p (.sl z rows), .ref id lo n tot => some id ∉ sel ∧ ∃ rs, zw L id tot = some rs ∧ rows = (rs.drop lo).take n ∧ ∀ te, L[id]?.bind y2 = some te → szT P te = some z
 | .p (.sl z rows), .cx z' rows' => z = z' ∧ rows = rows'
 | d', d => unX sel d' d
def wk1 (P : Program) (L : List Obj) (sel : Sel) : DV → DV → Prop
 | .agg xs, .agg ys => All2 (wkC P L sel) xs ys
 | d', d => wkC P L sel d' d
def wkD (P : Program) (L : List Obj) (sel : Sel) : DV → DV → Prop
 | .tup xs, .tup ys => All2 (wk1 P L sel) xs ys
 | d', d => wk1 P L sel d' d
theorem a7s (H : Hp P h0 W0 γ L h) {S : Nat → Prop} {id lo n tot z : Nat} {v : Value} {rs : List (List PV)} (hd : DB P (qd W0 γ L h) γ L h (.ref id lo n tot) v) (hr : zw L id tot = some rs)
  (hz : ∀ te, L[id]?.bind y2 = some te → szT P te = some z) (hS : ∀ b x, γ id = some (b, x) → b < h.next → S b) (hF : ∀ b, qd W0 γ L h b → S b) : ∃ u, VW v u ∧ PR P S h (.sl z ((rs.drop lo).take n)) u := by
 obtain ⟨q, q1, q2, q3⟩ := kZ hr
 obtain ⟨k1, k2, k3⟩ := hd
 obtain ⟨k4, k5⟩ := k3 q rs q1 q2
 obtain ⟨k6, k7⟩ := k5 q3
 obtain ⟨z0, hz0⟩ := H.width q1 q2
 have hlen : ((rs.drop lo).take n).length = n := by simp; omega
 have hun : unk > maxLen := by decide
 have hno : qB > maxLen := by decide
 rcases k7 z0 hz0 with ⟨rfl | ⟨b, o, rfl⟩, h1, h2⟩ | ⟨b, o, c, rfl, h1, h2⟩ | ⟨b, o, c, g, rfl, d1, d2, d3⟩
 ·have : (rs.drop lo).take n = [] := List.length_eq_zero_iff.1 (by rw [hlen]; omega)
  rw [this]
  exact ⟨_, .refl _, .nil⟩
 ·have : (rs.drop lo).take n = [] := List.length_eq_zero_iff.1 (by rw [hlen]; omega)
  rw [this]
  exact ⟨_, .empty b o 0, .dud⟩
 ·have : (rs.drop lo).take n = [] := List.length_eq_zero_iff.1 (by rw [hlen]; exact h1)
  rw [this]
  exact ⟨_, .empty b o c, .dud⟩
 ·obtain ⟨te', cs, z', r1, r2, r3, r4, r5, r6, r7⟩ := H.rows q1 q2 g
  have hte : L[id]?.bind y2 = some te' := by
   rw [q1]
   have ho := H.obj id q q1
   cases q with
   | li tq rs' =>
    cases tq with
    | none => rw [ho.2] at g; cases g
    | some tq =>
     obtain ⟨b', o', g', cs', zz, s1, s2, _⟩ := ho
     rw [g] at g'; cases g'
     rw [r1] at s1; cases s1; rfl
   | fz tq rs' =>
    cases tq with
    | none => rw [ho.2] at g; cases g
    | some tq =>
     obtain ⟨b', o', g', _, cs', zz, s1, s2, _⟩ := ho
     rw [g] at g'; cases g'
     rw [r1] at s1; cases s1; rfl
   | st => exact q2.elim
   | mp => exact q2.elim
   | dead => exact q2.elim
  have hzz : z' = z := by have := hz te' hte; rw [r2] at this; cases this; rfl
  subst hzz
  by_cases hn : n = 0
  ·subst hn
   rw [List.take_zero]
   exact ⟨_, .empty b (o + lo * z0) c, .dud⟩
  ·have hne : 0 < rs.length := by omega
   have hz00 : z0 = z' := by rw [← r6 _ (List.getElem_mem hne), hz0 _ (List.getElem_mem hne)]
   subst hz00
   refine ⟨_, .refl _, ?_⟩
   have hmul : (lo + n) * z0 ≤ rs.length * z0 := Nat.mul_le_mul_right _ (by omega)
   rw [Nat.add_mul] at hmul
   have := PR.sl (P := P) (S := S) (h := h) (rows := (rs.drop lo).take n) (b := b) (o := o + lo * z0) (c := c) (z := z0) (hS b o g (h.wf _ _ r1)) r1 r3 (by rw [hlen]; omega)
    (fun i r e1 => by
     rw [List.getElem?_take] at e1
     split at e1
     ·rw [List.getElem?_drop] at e1; exact r6 r (List.mem_of_getElem? e1)
     ·cases e1)
    (fun i r j x u e1 e2 e3 => by
     rw [List.getElem?_take] at e1
     split at e1
     ·rw [List.getElem?_drop] at e1
      exact (r7 (lo + i) r j x u e1 e2 (by rw [← e3]; congr 1; rw [Nat.add_mul]; omega)).mono fun b hb => ⟨hF b hb, rfl⟩
     ·cases e1) (by
      rw [hlen]
      refine .inr ⟨rfl, r2, ?_⟩
      exact d3) (by rw [hlen]; omega)
   rw [hlen] at this
   exact this
theorem a2u (H : Hp P h0 W0 γ L h) (ok : SelOk L sel L') {d' d : DV} {v : Value} (e : wkC P L sel d' d) (hd : DC P (qd W0 γ L h) γ L h d v) : ∃ u, VW v u ∧ DC P (qd W0 (qK γ sel) L' h) (qK γ sel) L' h d' u := by
 unfold wkC at e
 split at e
 ·rename_i z rows id lo n tot
  obtain ⟨e1, rs, e2, rfl, e3⟩ := e
  refine a7s H hd e2 e3 (fun b x hg hlt => ?_) (fun b hb => yN ok hb)
  obtain ⟨q, q1, q2, q3⟩ := kZ e2
  by_cases hq : q.owns = true
  case neg =>
   have ho := H.obj id q q1
   cases q with
   | li te rs' =>
    cases te with
    | none => rw [ho.2] at hg; cases hg
    | some te => exact absurd rfl hq
   | fz te rs' =>
    cases te with
    | none => rw [ho.2] at hg; cases hg
    | some te =>
     obtain ⟨b', o'', g', hS, _⟩ := ho
     rw [hg] at g'; cases g'
     exact yN ok hS
   | st => exact q2.elim
   | mp => exact q2.elim
   | dead => exact q2.elim
  refine ⟨hlt, H.allowed q1 hq hg, fun i o' y hi hd' hg' => ?_⟩
  obtain ⟨k, o, f1, f2, f3⟩ := ok.owns hi hd'
  rw [z8 f1] at hg'
  have := H.inj id k q o b x y q1 f2 hq f3 hg hg'
  subst this
  exact e1 (List.mem_of_getElem? f1)
 ·obtain ⟨rfl, rfl⟩ := e
  obtain ⟨_, ⟨u, rfl, h1, h2⟩ | ⟨_, _, rfl, h2⟩⟩ := hd
  ·exact ⟨u, .exact h1, h2.mono fun b hb => ⟨yN ok hb, rfl⟩⟩
  ·exact ⟨_, .refl _, h2.mono fun b hb => ⟨yN ok hb, rfl⟩⟩
 ·exact ⟨v, .refl v, a7i H ok e hd⟩
theorem Uz (H : Hp P h0 W0 γ L h) (ok : SelOk L sel L') : ∀ {ds' ds : List DV} {vs : List Value}, All2 (wkC P L sel) ds' ds → All2 (DC P (qd W0 γ L h) γ L h) ds vs → ∃ us, All2 VW vs us ∧ All2 (DC P (qd W0 (qK γ sel) L' h) (qK γ sel) L' h) ds' us
 | _, _, _, .nil, .nil => ⟨[], .nil, .nil⟩
 | _, _, _, .cons e t, .cons hd t' => by
  obtain ⟨u, a1, a2⟩ := a2u H ok e hd
  obtain ⟨us, b1, b2⟩ := Uz H ok t t'
  exact ⟨u :: us, .cons a1 b1, .cons a2 b2⟩
theorem a2i (H : Hp P h0 W0 γ L h) (ok : SelOk L sel L') {d' d : DV} {v : Value} (e : wk1 P L sel d' d) (hd : D1 P (qd W0 γ L h) γ L h d v) : ∃ u, VW v u ∧ D1 P (qd W0 (qK γ sel) L' h) (qK γ sel) L' h d' u := by
 unfold wk1 at e
 split at e
 ·rename_i xs ys
  obtain ⟨vs, rfl, h1⟩ := hd
  obtain ⟨us, a1, a2⟩ := Uz H ok e h1
  refine ⟨.agg us.toArray, .agg ?_ fun i x y e1 e2 => ?_, us.toArray, rfl, by simpa using a2⟩
  ·have := a1.length; simpa using this
  ·obtain ⟨u, b1, b2⟩ := a1.get (i := i) (a := x) (by simpa using e1)
   have : us[i]? = some y := by simpa using e2
   rw [this] at b1; cases b1
   exact b2
 ·rename_i hne
  have hc : DC P (qd W0 γ L h) γ L h d v := by
   refine Ke hd fun ys hy => ?_
   subst hy
   cases d' with
   | agg xs => exact hne xs ys rfl rfl
   | p x => cases x <;> (simp [wkC, unX, unC, unB] at e)
   | _ =>
    simp only [wkC, unX, unC, unB] at e
    repeat' split at e
    all_goals cases e
  obtain ⟨u, a1, a2⟩ := a2u H ok e hc
  exact ⟨u, a1, ZY a2⟩
theorem a01 (H : Hp P h0 W0 γ L h) (ok : SelOk L sel L') : ∀ {ds' ds : List DV} {vs : List Value}, All2 (wk1 P L sel) ds' ds → All2 (D1 P (qd W0 γ L h) γ L h) ds vs → ∃ us, All2 VW vs us ∧ All2 (D1 P (qd W0 (qK γ sel) L' h) (qK γ sel) L' h) ds' us
 | _, _, _, .nil, .nil => ⟨[], .nil, .nil⟩
 | _, _, _, .cons e t, .cons hd t' => by
  obtain ⟨u, a1, a2⟩ := a2i H ok e hd
  obtain ⟨us, b1, b2⟩ := a01 H ok t t'
  exact ⟨u :: us, .cons a1 b1, .cons a2 b2⟩
theorem a1E (H : Hp P h0 W0 γ L h) (ok : SelOk L sel L') {d' d : DV} {v : Value} (e : wkD P L sel d' d) (hd : DR P (qd W0 γ L h) γ L h d v) : ∃ u, VW v u ∧ DR P (qd W0 (qK γ sel) L' h) (qK γ sel) L' h d' u := by
 unfold wkD at e
 split at e
 ·rename_i xs ys
  obtain ⟨vs, rfl, h1⟩ := hd
  obtain ⟨us, a1, a2⟩ := a01 H ok e h1
  refine ⟨.tuple us.toArray, .tuple ?_ fun i x y e1 e2 => ?_, us.toArray, rfl, by simpa using a2⟩
  ·have := a1.length; simpa using this
  ·obtain ⟨u, b1, b2⟩ := a1.get (i := i) (a := x) (by simpa using e1)
   have : us[i]? = some y := by simpa using e2
   rw [this] at b1; cases b1
   exact b2
 ·rename_i hne
  have hc : D1 P (qd W0 γ L h) γ L h d v := by
   refine wL hd ?_
   cases d with
   | tup ys =>
    exfalso
    cases d' with
    | tup xs => exact hne xs ys rfl rfl
    | p x => cases x <;> (simp [wk1, wkC, unX, unC, unB] at e)
    | _ =>
     simp only [wk1, wkC, unX, unC, unB] at e
     repeat' split at e
     all_goals cases e
   | _ => rfl
  obtain ⟨u, a1, a2⟩ := a2i H ok e hc
  exact ⟨u, a1, jH a2⟩
end
end Go.Sim
namespace Go.Sim
open Go.RowKit
def y5 (P : Program) (a : DFrm) (L : List Obj) : ResultVar → Option DV
 | .tmp t => qQ t a.l
 | .cell p t => match qQ p a.l with
  | some d => jE P L t d
  | none => none
def zH (P : Program) (a : DFrm) (L : List Obj) : List ResultVar → Option (List DV)
 | [] => some []
 | x :: r => match y5 P a L x, zH P a L r with
  | some v, some vs => some (v :: vs)
  | _, _ => none
def Jp : List DV → Option DV
 | [d] => some d
 | ds => if ds.all is1 then some (.tup ds) else none
def aek (P : Program) (rs : List ResultVar) (Q : DV → List Obj → Prop) : DQ
 | .normal, a, L => qj (zH P a L rs) fun ds => qj (Jp ds) fun d => Q d L
 | .ret, a, L => qj (zH P a L rs) fun ds => qj (Jp ds) fun d => Q d L
 | _, _, _ => False
def aaw (P : Program) (c : Nat) (Q : DV → List Obj → Prop) (r : DV) (L : List Obj) : Prop :=
 ∃ sel r' A', SelOk L sel A' ∧ (∀ id, id < c → (∃ cs, L[id]? = some (.st cs)) → sel[id]? = some (some id)) ∧ wkD P L sel r' r ∧ Q r' A'
def wC : Nat → List DV → List (Nat × DV)
 | _, [] => []
 | k, v :: vs => (k, v) :: wC (k + 1) vs
def DCalls (P : Program) (f : FuncId) (ds : List DV) (A : List Obj) (Q : DV → List Obj → Prop) : Prop :=
 ∀ (W0 : Ent) γ h vs, W0.cnt ≤ A.length → Hp P h W0 γ A h → All2 (DR P (qd W0 γ A h) γ A h) ds vs →
  ACalls P f vs h (fun v h' => ∃ γ' r A', Q r A' ∧ Hp P h W0 γ' A' h' ∧ DR P (qd W0 γ' A' h') γ' A' h' r v)
section
variable {P : Program} {W0 : Ent} {γ : Pl} {L : List Obj} {h : Heap} {h0 : Heap} {a : DFrm} {fa : Frm}
theorem a0y (H : Hp P h0 W0 γ L h) (hf : FR P W0 γ L h a fa) {x : ResultVar} {d : DV} (e : y5 P a L x = some d) : ∃ v, ZD P fa h x = some v ∧ (DR P (qd W0 γ L h) γ L h) d v := by
 cases x with
 | tmp t => exact hf.slots t d e
 | cell p t =>
  unfold y5 at e
  cases hq : qQ p a.l with
  | none => simp only [hq] at e; cases e
  | some q =>
   simp only [hq] at e
   obtain ⟨v, e1, r1⟩ := hf.slots p q hq
   obtain ⟨u, e2, r2⟩ := Zo H r1 e
   exact ⟨u, by simp only [ZD, e1]; exact e2, r2⟩
theorem QO (H : Hp P h0 W0 γ L h) (hf : FR P W0 γ L h a fa) : ∀ {rs : List ResultVar} {ds : List DV}, zH P a L rs = some ds → ∃ vs, za P fa h rs = some vs ∧ All2 (DR P (qd W0 γ L h) γ L h) ds vs
 | [], ds, e => by cases e; exact ⟨[], rfl, .nil⟩
 | x :: rs, ds, e => by
  unfold zH at e
  cases h1 : y5 P a L x with
  | none => rw [h1] at e; cases e
  | some d =>
   cases h2 : zH P a L rs with
   | none => rw [h1, h2] at e; cases e
   | some ds' =>
    rw [h1, h2] at e; cases e
    obtain ⟨v, e1, r1⟩ := a0y H hf h1
    obtain ⟨vs, e2, r2⟩ := QO H hf h2
    exact ⟨v :: vs, by simp only [za, e1, e2], .cons r1 r2⟩
theorem aan {S : Nat → Prop} : ∀ {ds : List DV} {vs : List Value}, ds.all is1 = true → All2 (DR P S γ L h) ds vs → All2 (D1 P S γ L h) ds vs
 | [], _, _, .nil => .nil
 | d :: ds, _, hb, .cons hd t => by
  simp only [List.all_cons, Bool.and_eq_true] at hb
  exact .cons (wL hd hb.1) (aan hb.2 t)
theorem a0f {ds : List DV} {vs : List Value} {d : DV} (hr : All2 (DR P (qd W0 γ L h) γ L h) ds vs) (e : Jp ds = some d) : (DR P (qd W0 γ L h) γ L h) d (yd vs) := by
 cases hr with
 | nil =>
  simp [Jp] at e
  subst e
  exact ⟨#[], rfl, .nil⟩
 | cons hd t =>
  cases t with
  | nil => simp only [Jp] at e; cases e; exact hd
  | cons hd2 t2 =>
   simp only [Jp] at e
   split at e
   ·rename_i hb
    cases e
    exact ⟨_, rfl, by simpa using aan hb (.cons hd (.cons hd2 t2))⟩
   ·cases e
theorem JJ : ∀ {ds : List DV} {vs : List Value} (k : Nat), All2 (DR P (qd W0 γ L h) γ L h) ds vs → ∀ t d, qQ t (wC k ds) = some d → ∃ v, y8 t (kN k vs) = some v ∧ (DR P (qd W0 γ L h) γ L h) d v
 | [], _, k, .nil, t, d, e => by cases e
 | d0 :: ds, v0 :: vs, k, .cons hd tl, t, d, e => by
  simp only [wC, qQ] at e
  simp only [kN, y8]
  split at e
  ·rename_i hk; cases e; rw [if_pos hk]; exact ⟨v0, rfl, hd⟩
  ·rename_i hk; rw [if_neg hk]; exact JJ (k + 1) tl t d e
theorem Hp.grow {h' : Heap} (H : Hp P h0 W0 γ L h) (hn : h.next ≤ h'.next) (hg : ∀ b, b < h.next → h'.get b = h.get b) : Hp P h0 W0 γ L h' ∧ Carry W0 γ L h γ L h' := by
 have c : Carry W0 γ L h γ L h' := ⟨fun b hb => ⟨⟨Nat.lt_of_lt_of_le hb.1 hn, hb.2⟩, hg b hb.1⟩, Nat.le_refl _, fun _ _ e hc => ⟨e, hc⟩, fun _ _ e hc => ⟨e, hc⟩, fun id o' rows' _ e hl => ⟨o', rows', e, hl, Nat.le_refl _, fun _ => ⟨rfl, fun _ hz => hz⟩⟩⟩
 have hlt : ∀ id o b x, L[id]? = some o → o.owns = true → γ id = some (b, x) → b < h.next := fun id o b x e e2 e3 => (OR.lt (fun b hb => hb.1) (H.obj id o e) e3 e2).1
 exact ⟨⟨H.start, H.pin, fun id o e => H.others c e rfl fun b x g d => hg b (hlt id o b x e d g), H.inj, H.dom, H.new, Nat.le_trans H.next hn, fun b hb hw => (hg b (Nat.lt_of_lt_of_le hb H.next)).trans (H.frame b hb hw)⟩, c⟩
def a2Q (P : Program) (L : List Obj) (any : Bool) : DV → DV → Prop
 | .p (.sl z rows), .ref id lo n tot => (any = true ∨ ∃ e rs, L[id]? = some (.fz e rs)) ∧ ∃ rs, zw L id tot = some rs ∧ rows = (rs.drop lo).take n ∧ ∀ te, L[id]?.bind y2 = some te → szT P te = some z
 | .p (.sl _ rows), .p (.v (.slice none 0 0)) => rows = []
 | .p (.sl z rows), .cx z' rows' => z = z' ∧ rows = rows'
 | d', d => unC [] d' = some d
def a7P (P : Program) (L : List Obj) (any : Bool) : DV → DV → Prop
 | .agg xs, .agg ys => All2 (a2Q P L any) xs ys
 | d', d => a2Q P L any d' d
end
end Go.Sim
namespace Go.Sim
open Go.RowKit
section
variable {P : Program} {W0 : Ent} {γ : Pl} {L : List Obj} {h : Heap} {h0 : Heap} {a : DFrm} {fa : Frm}
def UB : Pl := fun _ => none
theorem a9S (W : Ent) (h : Heap) (h1 : W.start = h.next) (h2 : ∀ id b, ¬ W.pin id b) : Hp P h W UB [] h :=
 ⟨h1, fun id b e => absurd e (h2 id b), fun id o e => by simp at e, fun id id' o o' b x x' e => by simp at e, fun id x e => (by cases e), fun id o b x e => by simp at e, Nat.le_refl _, fun _ _ _ => rfl⟩
theorem yL {S S' : Nat → Prop} {γ' : Pl} {L' : List Obj} {d d' : DV} {v : Value} (hs : ∀ b, S b → S' b) (e : unB [] d' = some d) (hd : DB P S γ L h d v) : DB P S' γ' L' h d' v := by
 cases d' with
 | p x => cases e; exact PR.mono (fun b hb => ⟨hs b hb, rfl⟩) hd
 | dp row off =>
  cases e
  obtain ⟨b, o, cs, te, rw, h1, h2, h3, h4, h5⟩ := hd
  exact ⟨b, o, cs, te, rw, hs b h1, h2, h3, h4, fun j x u e1 e2 => (h5 j x u e1 e2).mono fun b hb => ⟨hs b hb, rfl⟩⟩
 | cx z rows => cases e; exact CxV.mono (fun b hb => ⟨hs b hb, rfl⟩) hd
 | _ => cases e
theorem QX {S S' : Nat → Prop} {γ' : Pl} {L' : List Obj} (hs : ∀ b, S b → S' b) : ∀ {ds' ds : List DV} {vs : List Value}, Wi [] ds' = some ds → All2 (DB P S γ L h) ds vs → All2 (DB P S' γ' L' h) ds' vs
 | [], _, _, e, hd => by cases e; cases hd; exact .nil
 | d' :: ds', _, _, e, hd => by
  unfold Wi at e
  cases h1 : unB [] d' with
  | none => simp only [h1] at e; cases e
  | some d =>
   cases h2 : Wi [] ds' with
   | none => simp only [h1, h2] at e; cases e
   | some ds =>
    simp only [h1, h2] at e; cases e
    cases hd with
    | cons a b => exact .cons (yL hs h1 a) (QX hs h2 b)
theorem a0P {S S' : Nat → Prop} {γ' : Pl} {L' : List Obj} {d d' : DV} {v : Value} (hs : ∀ b, S b → S' b) (e : unC [] d' = some d) (hd : DC P S γ L h d v) : DC P S' γ' L' h d' v := by
 cases d' with
 | p x => cases e; exact yL (P := P) (γ := γ) (L := L) (γ' := γ') (L' := L') (d := .p x) (d' := .p x) hs rfl hd
 | dp row off => cases e; exact yL (P := P) (γ := γ) (L := L) (γ' := γ') (L' := L') (d := .dp row off) (d' := .dp row off) hs rfl hd
 | cx z rows => cases e; exact yL (P := P) (γ := γ) (L := L) (γ' := γ') (L' := L') (d := .cx z rows) (d' := .cx z rows) hs rfl hd
 | fn f pre cap =>
  unfold unC at e
  cases h1 : Wi [] pre with
  | none => simp only [h1] at e; cases e
  | some p =>
   cases h2 : Wi [] cap with
   | none => simp only [h1, h2] at e; cases e
   | some c =>
    simp only [h1, h2] at e; cases e
    obtain ⟨as, bs, rfl, a1, a2⟩ := hd
    exact ⟨as, bs, rfl, QX hs h1 a1, QX hs h2 a2⟩
 | _ => cases e
theorem Ul {S' : Nat → Prop} {any : Bool} (H : Hp P h0 W0 γ L h) (hs : ∀ b, qd W0 γ L h b → S' b) (ha : any = true → ∀ b, b < h.next → S' b) {d d' : DV} {v : Value} (e : a2Q P L any d' d) (hd : DC P (qd W0 γ L h) γ L h d v) : ∃ u, VW v u ∧ DC P S' UB [] h d' u := by
 unfold a2Q at e
 split at e
 ·rename_i z rows id lo n tot
  obtain ⟨e1, rs, e2, rfl, e3⟩ := e
  refine a7s H hd e2 e3 (fun b x hg hlt => ?_) hs
  rcases e1 with e1 | ⟨te, rs', e1⟩
  ·exact ha e1 b hlt
  ·have ho := H.obj id _ e1
   cases te with
   | none => rw [ho.2] at hg; cases hg
   | some te =>
    obtain ⟨b', o', g', hS, _⟩ := ho
    rw [hg] at g'; cases g'
    exact hs b hS
 ·subst e
  have : v = .slice none 0 0 := PR.scal (P := P) (S := qd W0 γ L h) (h := h) hd
  subst this
  exact ⟨_, .refl _, PR.nil⟩
 ·obtain ⟨rfl, rfl⟩ := e
  obtain ⟨_, ⟨u, rfl, h1, h2⟩ | ⟨_, _, rfl, h2⟩⟩ := hd
  ·exact ⟨u, .exact h1, h2.mono fun b hb => ⟨hs b hb, rfl⟩⟩
  ·exact ⟨_, .refl _, h2.mono fun b hb => ⟨hs b hb, rfl⟩⟩
 ·exact ⟨v, .refl v, a0P hs e hd⟩
theorem Xc {S' : Nat → Prop} {any : Bool} (H : Hp P h0 W0 γ L h) (hs : ∀ b, qd W0 γ L h b → S' b) (ha : any = true → ∀ b, b < h.next → S' b) : ∀ {ds' ds : List DV} {vs : List Value}, All2 (a2Q P L any) ds' ds → All2 (DC P (qd W0 γ L h) γ L h) ds vs → ∃ us, All2 VW vs us ∧ All2 (DC P S' UB [] h) ds' us
 | _, _, _, .nil, .nil => ⟨[], .nil, .nil⟩
 | _, _, _, .cons e t, .cons hd t' => by
  obtain ⟨u, a1, a2⟩ := Ul H hs ha e hd
  obtain ⟨us, b1, b2⟩ := Xc H hs ha t t'
  exact ⟨u :: us, .cons a1 b1, .cons a2 b2⟩
theorem agF {d d' : DV} (e : unC [] d' = some d) : (∀ xs, d ≠ .agg xs) ∧ (∀ xs, d ≠ .tup xs) := by
 cases d' <;> (simp only [unC, unB] at e) <;> (try (repeat' split at e)) <;> cases e <;> exact ⟨fun _ h => (by cases h), fun _ h => (by cases h)⟩
theorem a9i {S' : Nat → Prop} {any : Bool} (H : Hp P h0 W0 γ L h) (hs : ∀ b, qd W0 γ L h b → S' b) (ha : any = true → ∀ b, b < h.next → S' b) {d d' : DV} {v : Value} (e : a7P P L any d' d) (hd : DR P (qd W0 γ L h) γ L h d v) : ∃ u, VW v u ∧ DR P S' UB [] h d' u := by
 unfold a7P at e
 split at e
 ·rename_i xs ys
  obtain ⟨vs, rfl, h1⟩ := hd
  obtain ⟨us, a1, a2⟩ := Xc H hs ha e h1
  refine ⟨.agg us.toArray, .agg ?_ fun i x y e1 e2 => ?_, us.toArray, rfl, by simpa using a2⟩
  ·have := a1.length; simpa using this
  ·obtain ⟨u, b1, b2⟩ := a1.get (i := i) (a := x) (by simpa using e1)
   have : us[i]? = some y := by simpa using e2
   rw [this] at b1; cases b1
   exact b2
 ·have hn : (∀ xs, d ≠ .agg xs) ∧ (∀ xs, d ≠ .tup xs) := by
   unfold a2Q at e
   split at e
   ·exact ⟨fun _ h => (by cases h), fun _ h => (by cases h)⟩
   ·exact ⟨fun _ h => (by cases h), fun _ h => (by cases h)⟩
   ·exact ⟨fun _ h => (by cases h), fun _ h => (by cases h)⟩
   ·exact agF e
  have h1 : D1 P (qd W0 γ L h) γ L h d v := by
   cases d <;> first | exact hd | exact absurd rfl (hn.2 _)
  obtain ⟨u, a1, a2⟩ := Ul H hs ha e (Ke h1 hn.1)
  exact ⟨u, a1, jH (ZY a2)⟩
theorem Us {S' : Nat → Prop} {any : Bool} (H : Hp P h0 W0 γ L h) (hs : ∀ b, qd W0 γ L h b → S' b) (ha : any = true → ∀ b, b < h.next → S' b) : ∀ {ds' ds : List DV} {vs : List Value}, All2 (a7P P L any) ds' ds → All2 (DR P (qd W0 γ L h) γ L h) ds vs → ∃ us, All2 VW vs us ∧ All2 (DR P S' UB [] h) ds' us
 | _, _, _, .nil, .nil => ⟨[], .nil, .nil⟩
 | _, _, _, .cons e t, .cons hd t' => by
  obtain ⟨u, a1, a2⟩ := a9i H hs ha e hd
  obtain ⟨us, b1, b2⟩ := Us H hs ha t t'
  exact ⟨u :: us, .cons a1 b1, .cons a2 b2⟩
def UY : DV → Bool
 | .p (.v _) => true
 | _ => false
def uF : DV → Bool
 | .agg xs => xs.all UY
 | d => UY d
def aa8 : DV → Bool
 | .tup xs => xs.all uF
 | d => uF d
theorem Uu {S S' : Nat → Prop} {γ γ' : Pl} {L L' : List Obj} {h h' : Heap} {d : DV} {v : Value} (hs : UY d = true) (hd : DC P S γ L h d v) : DC P S' γ' L' h' d v := by
 unfold UY at hs
 split at hs
 ·rename_i x
  cases (show PR P S h (.v x) v from hd) with
  | v hx => exact PR.v hx
 ·cases hs
theorem Xx {S S' : Nat → Prop} {γ γ' : Pl} {L L' : List Obj} {h h' : Heap} : ∀ {ds : List DV} {vs : List Value}, ds.all UY = true → All2 (DC P S γ L h) ds vs → All2 (DC P S' γ' L' h') ds vs
 | [], _, _, .nil => .nil
 | d :: ds, _, hb, .cons hd t => by
  simp only [List.all_cons, Bool.and_eq_true] at hb
  exact .cons (Uu hb.1 hd) (Xx hb.2 t)
theorem a0k {S S' : Nat → Prop} {γ γ' : Pl} {L L' : List Obj} {h h' : Heap} {d : DV} {v : Value} (hs : uF d = true) (hd : D1 P S γ L h d v) : D1 P S' γ' L' h' d v := by
 unfold uF at hs
 split at hs
 ·obtain ⟨vs, rfl, h1⟩ := hd; exact ⟨vs, rfl, Xx hs h1⟩
 ·rename_i hn
  exact ZY (Uu hs (Ke hd fun xs e => hn xs e))
theorem Xk {S S' : Nat → Prop} {γ γ' : Pl} {L L' : List Obj} {h h' : Heap} : ∀ {ds : List DV} {vs : List Value}, ds.all uF = true → All2 (D1 P S γ L h) ds vs → All2 (D1 P S' γ' L' h') ds vs
 | [], _, _, .nil => .nil
 | d :: ds, _, hb, .cons hd t => by
  simp only [List.all_cons, Bool.and_eq_true] at hb
  exact .cons (a0k hb.1 hd) (Xk hb.2 t)
theorem abS {S S' : Nat → Prop} {γ γ' : Pl} {L L' : List Obj} {h h' : Heap} {d : DV} {v : Value} (hs : aa8 d = true) (hd : DR P S γ L h d v) : DR P S' γ' L' h' d v := by
 unfold aa8 at hs
 split at hs
 ·obtain ⟨vs, rfl, h1⟩ := hd; exact ⟨vs, rfl, Xk hs h1⟩
 ·rename_i hn
  refine jH (a0k hs (wL hd ?_))
  cases d <;> first | rfl | exact absurd rfl (hn _)
def wkS (P : Program) (a : DFrm) (L : List Obj) (l' : List (Nat × DV)) (L' : List Obj) : Prop :=
 ∃ sel, SelOk L sel L' ∧ (∀ id, id < a.c → (∃ cs, L[id]? = some (.st cs)) → sel[id]? = some (some id)) ∧ ∀ p ∈ l', ∃ d, qQ p.1 a.l = some d ∧ wkD P L sel p.2 d
theorem AWp.weaken_vw {c : Code} {Q : Exit → Frm → Heap → Prop} {a a' : Frm} (hn : a'.n = a.n) (hl : ∀ t v, a'.get t = some v → ∃ u, a.get t = some u ∧ VW u v) (hc : AWp P c Q a' h) : AWp P c Q a h :=
 fun ro D β m w ha hr ok => hc ro D β m w ⟨ha.defers, by rw [hn]; exact ha.size, fun t v e => by
  obtain ⟨u, e1, hw⟩ := hl t v e
  obtain ⟨mv, e2, r⟩ := ha.rel t u e1
  exact ⟨mv, e2, r.weak hw⟩⟩ hr ok
theorem UL {L' : List Obj} {sel : Sel} (H : Hp P h0 W0 γ L h) (ok : SelOk L sel L') (hf : FR P W0 γ L h a fa) : ∀ (l' : List (Nat × DV)), (∀ p ∈ l', ∃ d, qQ p.1 a.l = some d ∧ wkD P L sel p.2 d) →
  ∃ fl : List (Nat × Value), (∀ t v, y8 t fl = some v → ∃ u, fa.get t = some u ∧ VW u v) ∧ ∀ t d, qQ t l' = some d → ∃ v, y8 t fl = some v ∧ DR P (qd W0 (qK γ sel) L' h) (qK γ sel) L' h d v
 | [], _ => ⟨[], fun t v e => (by cases e), fun t d e => (by cases e)⟩
 | (t0, d0) :: l', hl => by
  obtain ⟨fl, f1, f2⟩ := UL H ok hf l' fun p hp => hl p (List.mem_cons_of_mem _ hp)
  obtain ⟨d, e1, e2⟩ := hl (t0, d0) List.mem_cons_self
  obtain ⟨v, e3, r3⟩ := hf.slots t0 d e1
  obtain ⟨u, hw, hd⟩ := a1E H ok e2 r3
  refine ⟨(t0, u) :: fl, fun t w e => ?_, fun t d' e => ?_⟩
  ·simp only [y8] at e
   split at e
   ·rename_i ht; cases e; subst ht; exact ⟨v, e3, hw⟩
   ·exact f1 t w e
  ·simp only [qQ] at e
   simp only [y8]
   split at e
   ·rename_i ht; cases e; rw [if_pos ht]; exact ⟨u, rfl, hd⟩
   ·rename_i ht; rw [if_neg ht]; exact f2 t d' e
theorem abp {l' : List (Nat × DV)} {L' : List Obj} {c : Code} {Q : Exit → Frm → Heap → Prop} (H : Hp P h0 W0 γ L h) (hf : FR P W0 γ L h a fa) (hw : wkS P a L l' L') (hk : ∀ γ' fa', Hp P h0 W0 γ' L' h → FR P W0 γ' L' h ⟨a.n, a.c, l'⟩ fa' → AWp P c Q fa' h) : AWp P c Q fa h := by
 obtain ⟨sel, ok, hp, hl⟩ := hw
 obtain ⟨fl, f1, f2⟩ := UL H ok hf l' hl
 exact AWp.weaken_vw (a' := ⟨a.n, fl⟩) hf.n.symm f1 (hk _ ⟨a.n, fl⟩ (H.select ok fun id b e => hp id (by rw [← hf.cnt]; exact W0.few id b e) (H.pin id b e).2) ⟨rfl, hf.cnt, f2⟩)
inductive DFx where
 | k (x : X)
 | block (id : Nat)
 | loop (K : DFrm → List Obj → Prop)
 | scope (J : Nat → DFrm → List Obj → Prop)
def ajB (J : Nat → DFrm → List Obj → Prop) (Q : DQ) : DQ
 | .goto l, a, L => J l a L
 | e, a, L => Q e a L
def dsx (P : Program) : List DFx → DQ → DQ
 | [], Q => Q
 | .k y :: s, Q => Wv (Wj P y (dsx P s Q)) (dsx P s Q)
 | .block id :: s, Q => a9Z id (dsx P s Q)
 | .loop K :: s, Q => Wv K (dsx P s Q)
 | .scope J :: s, Q => ajB J (dsx P s Q)
theorem DAWp.mono {c : Code} {Q Q' : DQ} {a : DFrm} {L : List Obj} (hc : DAWp P c Q a L) (hq : ∀ e a L, Q e a L → Q' e a L) : DAWp P c Q' a L := fun h0 W0 γ h fa H hf => (hc h0 W0 γ h fa H hf).mono fun e fa h ⟨a, L, γ, hk, H, hf⟩ => ⟨a, L, γ, hq _ _ _ hk, H, hf⟩
end
end Go.Sim
