/- Part 5 of the claim EmuPrints: D14, D15, D16, D17, D18, D19, D20, D21, D22, T1, T2 -/
import Derived.Test.YtaamhddpmbombaaW4
set_option linter.unusedSimpArgs false
set_option linter.unusedVariables false
set_option linter.defProp false
noncomputable section
namespace Go.Sim
open Go.RowKit
inductive VW : Value → Value → Prop
 | refl (v : Value) : VW v v
 | empty (b o c : Nat) : VW (.slice (some ⟨b, o, none⟩) 0 c) (.slice (some ⟨b, o, none⟩) 0 dud)
 | exact {u : Value} (h : u.oneCell' = true) : VW (xX u) u
 | agg {xs ys : Array Value} (hl : xs.size = ys.size) (h : ∀ (i : Nat) (x y : Value), xs[i]? = some x → ys[i]? = some y → VW x y) : VW (.agg xs) (.agg ys)
 | tuple {xs ys : Array Value} (hl : xs.size = ys.size) (h : ∀ (i : Nat) (x y : Value), xs[i]? = some x → ys[i]? = some y → VW x y) : VW (.tuple xs) (.tuple ys)
theorem VRel.weak {β : Place} {v u : Value} (hw : VW v u) : ∀ {m : Value}, VRel β v m → VRel β u m := by
 induction hw with
 | refl v => exact fun h => h
 | empty b o c =>
  intro m h
  cases h with
  | slice h hc hn hm hr => exact .dud
  | dud => exact .dud
  | zero => exact .dud
 | exact h =>
  intro m q
  cases q with
  | exact q => exact q
  | func hf _ _ _ _ => cases hf
 | @agg xs ys hl _ ih =>
  intro m h
  cases h with
  | agg hx hh =>
   refine .agg (by omega) fun i v v' e1 e2 => ?_
   have hi : i < xs.size := by have := (Array.getElem?_eq_some_iff.1 e1).1; omega
   exact ih i xs[i] v (Array.getElem?_eq_getElem hi) e1 (hh i xs[i] v' (Array.getElem?_eq_getElem hi) e2)
 | @tuple xs ys hl _ ih =>
  intro m h
  cases h with
  | tuple hx hh =>
   refine .tuple (by omega) fun i v v' e1 e2 => ?_
   have hi : i < xs.size := by have := (Array.getElem?_eq_some_iff.1 e1).1; omega
   exact ih i xs[i] v (Array.getElem?_eq_getElem hi) e1 (hh i xs[i] v' (Array.getElem?_eq_getElem hi) e2)
theorem VRels.weak {β : Place} : ∀ {vs us ms : List Value}, All2 VW vs us → VRels β vs ms → VRels β us ms
 | _, _, _, .nil, .nil => .nil
 | _, _, _, .cons hw t, .cons h t' => .cons (h.weak hw) (VRels.weak t t')
theorem ACalls.vw {P : Program} {f : FuncId} {args : List Value} {h : Heap} {Q Q' : Value → Heap → Prop} (hc : ACalls P f args h Q) (hq : ∀ v h', Q v h' → ∃ u, VW v u ∧ Q' u h') : ACalls P f args h Q' :=
 ⟨hc.1, fun β w ms hv hr => (hc.2 β w ms hv hr).mono fun e w' ⟨mv, e1, v, h', β', a, b, c, d⟩ => by
  obtain ⟨u, h1, h2⟩ := hq v h' d
  exact ⟨mv, e1, u, h', β', a.weak h1, b, c, h2⟩⟩
theorem ACalls.args {P : Program} {f : FuncId} {args us : List Value} {h : Heap} {Q : Value → Heap → Prop} (hw : All2 VW args us) (hc : ACalls P f us h Q) : ACalls P f args h Q :=
 ⟨hc.1, fun β w ms hv hr => hc.2 β w ms (hv.weak hw) hr⟩
abbrev Sel := List (Option Nat)
def unB (sel : Sel) : DV → Option DV
 | .p x => some (.p x)
 | .ptr id off => match sel[id]? with
  | some (some k) => some (.ptr k off)
  | _ => none
 | .ep id i off tot => match sel[id]? with
  | some (some k) => some (.ep k i off tot)
  | _ => none
 | .dp row off => some (.dp row off)
 | .ref id lo n tot => match sel[id]? with
  | some (some k) => some (.ref k lo n tot)
  | some none => if lo = 0 ∧ n = 0 ∧ tot = 0 then some (.p (.v (.slice none 0 0))) else none
  | none => none
 | .aref id off n => match sel[id]? with
  | some (some k) => some (.aref k off n)
  | _ => none
 | .cx z rows => some (.cx z rows)
 | .mref id => match sel[id]? with
  | some (some k) => some (.mref k)
  | _ => none
 | _ => none
def Kl (sel : Sel) : List DV → Option (List DV)
 | [] => some []
 | d :: l => match unB sel d, Kl sel l with
  | some d, some l => some (d :: l)
  | _, _ => none
def unC (sel : Sel) : DV → Option DV
 | .fn f pre cap => match Kl sel pre, Kl sel cap with
  | some a, some b => some (.fn f a b)
  | _, _ => none
 | d => unB sel d
def a9O (sel : Sel) : List DV → Option (List DV)
 | [] => some []
 | d :: l => match unC sel d, a9O sel l with
  | some d, some l => some (d :: l)
  | _, _ => none
def un1 (sel : Sel) : DV → Option DV
 | .agg xs => (a9O sel xs).map .agg
 | d => unC sel d
def aig (sel : Sel) : List DV → Option (List DV)
 | [] => some []
 | d :: l => match un1 sel d, aig sel l with
  | some d, some l => some (d :: l)
  | _, _ => none
def unD (sel : Sel) : DV → Option DV
 | .tup xs => (aig sel xs).map .tup
 | d => un1 sel d
def unP : PV → PV → Prop
 | .sl _ rows, .v (.slice none 0 0) => rows = []
 | x, y => x = y
def unX (sel : Sel) : DV → DV → Prop
 | .p (.sl _ rows), .p (.v (.slice none 0 0)) => rows = []
 | d', d => unC sel d' = some d
def QS (rows rows' : List (List PV)) : Prop := rows = rows' ∨ All2 (All2 unP) rows rows'
theorem ahh {P : Program} {S : Nat → Prop} {h : Heap} {x' x : PV} {v : Value} (e : unP x' x) (hx : PR P S h x v) : PR P S h x' v := by
 unfold unP at e
 split at e
 ·subst e
  rw [hx.scal]
  exact .nil
 ·subst e; exact hx
theorem QV {rows rows' : List (List PV)} (e : QS rows rows') : rows.length = rows'.length := by
 rcases e with rfl | e
 ·rfl
 ·exact e.length
theorem YW {rows rows' : List (List PV)} (e : QS rows rows') {z : Nat} (h : ∀ r ∈ rows, r.length = z) : ∀ r ∈ rows', r.length = z := by
 rcases e with rfl | e
 ·exact h
 ·intro r hr
  obtain ⟨i, hi, rfl⟩ := List.getElem_of_mem hr
  obtain ⟨r', h1, h2⟩ := e.get' (List.getElem?_eq_getElem hi)
  rw [← h2.length]
  exact h _ (List.mem_of_getElem? h1)
theorem a8d {rows rows' : List (List PV)} (e : QS rows rows') {z : Nat} (h : ∀ r ∈ rows', r.length = z) : ∀ r ∈ rows, r.length = z := by
 rcases e with rfl | e
 ·exact h
 ·intro r hr
  obtain ⟨i, hi, rfl⟩ := List.getElem_of_mem hr
  obtain ⟨r', h1, h2⟩ := e.get (List.getElem?_eq_getElem hi)
  rw [h2.length]
  exact h _ (List.mem_of_getElem? h1)
theorem aek {rows rows' : List (List PV)} (e : QS rows rows') {i j : Nat} {r : List PV} {x : PV} (h1 : rows[i]? = some r) (h2 : r[j]? = some x) : ∃ r' x', rows'[i]? = some r' ∧ r'[j]? = some x' ∧ unP x x' := by
 rcases e with rfl | e
 ·exact ⟨r, x, h1, h2, by cases x <;> rfl⟩
 ·obtain ⟨r', a1, a2⟩ := e.get h1
  obtain ⟨x', b1, b2⟩ := a2.get h2
  exact ⟨r', x', a1, b1, b2⟩
theorem Rows.of_w {P : Program} {S : Nat → Prop} {h : Heap} {b q : Nat} {te : TypeId} {rows rows' : List (List PV)} (e : QS rows rows') (hr : Rows P S h b q te rows') : Rows P S h b q te rows := by
 obtain ⟨cs, z, a1, a2, a3, a4, a5, a6, a7⟩ := hr
 have hl := QV e
 refine ⟨cs, z, a1, a2, a3, by rw [hl]; exact a4, by rw [hl]; exact a5, a8d e a6, fun i r j x u b1 b2 b3 => ?_⟩
 obtain ⟨r', x', c1, c2, c3⟩ := aek e b1 b2
 exact ahh c3 (a7 i r' j x' u c1 c2 b3)
theorem Jh {rows rows' : List (List PV)} (e : QS rows rows') (h : rows' = []) : rows = [] := by
 have := QV e
 subst h
 exact List.length_eq_zero_iff.1 this
def unO (sel : Sel) : Obj → Obj → Prop
 | .st cells, .st cells' => All2 (unX sel) cells cells'
 | .li e rows, .li e' rows' => e = e' ∧ QS rows rows'
 | .fz e rows, .li e' rows' => e = e' ∧ QS rows rows'
 | .fz e rows, .fz e' rows' => e = e' ∧ QS rows rows'
 | .mp es, .mp es' => All2 (fun a b => a.1 = b.1 ∧ un1 sel a.2 = some b.2) es es'
 | .dead, .li _ _ => True
 | .dead, .fz _ _ => True
 | .dead, .dead => True
 | _, _ => False
theorem acn {sel : Sel} {o' o : Obj} (h : unO sel o' o) (hd : o'.owns = true) : o.owns = true := by
 cases o' with
 | st c => cases o <;> first | exact h.elim | rfl
 | mp c => cases o <;> first | exact h.elim | rfl
 | li e r => cases o with
  | li e' r' => obtain ⟨rfl, -⟩ := h; cases e <;> exact hd
  | _ => exact h.elim
 | fz e r => cases hd
 | dead => cases hd
structure SelOk (L : List Obj) (sel : Sel) (L' : List Obj) : Prop where
 len : sel.length = L'.length
 inj : ∀ (i j k : Nat), sel[i]? = some (some k) → sel[j]? = some (some k) → i = j
 old : ∀ (i k : Nat) (o' : Obj), sel[i]? = some (some k) → L'[i]? = some o' → ∃ o, L[k]? = some o ∧ unO sel o' o
 fresh : ∀ (i : Nat) (o' : Obj), sel[i]? = some none → L'[i]? = some o' → o' = .li none []
def qQ (γ : Pl) (sel : Sel) : Pl := fun i => match sel[i]? with
 | some (some k) => γ k
 | _ => none
section
variable {P : Program} {γ : Pl} {L L' : List Obj} {h : Heap} {h0 : Heap} {W0 : Ent} {sel : Sel}
theorem zg {i k : Nat} (e : sel[i]? = some (some k)) : qQ γ sel i = γ k := by unfold qQ; rw [e]
theorem a3m {i : Nat} (e : sel[i]? = some none) : qQ γ sel i = none := by unfold qQ; rw [e]
theorem SelOk.at (ok : SelOk L sel L') {i : Nat} {o' : Obj} (hi : L'[i]? = some o') : ∃ s, sel[i]? = some s := by
 have : i < L'.length := (List.getElem?_eq_some_iff.1 hi).1
 rw [← ok.len] at this
 exact ⟨_, List.getElem?_eq_getElem this⟩
theorem SelOk.owns (ok : SelOk L sel L') {i : Nat} {o' : Obj} (hi : L'[i]? = some o') (hd : o'.owns = true) : ∃ k o, sel[i]? = some (some k) ∧ L[k]? = some o ∧ o.owns = true := by
 obtain ⟨s, hs⟩ := ok.at hi
 cases s with
 | none => rw [ok.fresh i o' hs hi] at hd; cases hd
 | some k =>
  obtain ⟨o, h1, h2⟩ := ok.old i k o' hs hi
  refine ⟨k, o, hs, h1, ?_⟩
  exact acn h2 hd
theorem y9 (ok : SelOk L sel L') {b : Nat} (hb : qd W0 γ L h b) : qd W0 (qQ γ sel) L' h b := by
 refine ⟨hb.1, hb.2.1, fun i o' x hi hd hg => ?_⟩
 obtain ⟨k, o, e1, e2, e3⟩ := ok.owns hi hd
 rw [zg e1] at hg
 exact hb.2.2 k o x e2 e3 hg
theorem a5P (ok : SelOk L sel L') {x : PV} {v : Value} (hx : PR P (qd W0 γ L h) h x v) : PR P (qd W0 (qQ γ sel) L' h) h x v := hx.mono fun _ hb => ⟨y9 ok hb, rfl⟩
theorem a2X (ok : SelOk L sel L') {i k : Nat} {o' : Obj} {rows : List (List PV)} (e : sel[i]? = some (some k)) (hi : L'[i]? = some o') (hl : o'.isList rows) : ∃ o rows', L[k]? = some o ∧ o.isList rows' ∧ QS rows rows' := by
 obtain ⟨o, h1, h2⟩ := ok.old i k o' e hi
 refine ⟨o, ?_⟩
 cases o' <;> cases o <;> first | exact h2.elim | exact hl.elim | (obtain ⟨rfl, h3⟩ := h2; cases hl; exact ⟨_, h1, rfl, h3⟩)
theorem a5S (ok : SelOk L sel L') {id k : Nat} {c : List DV} (hs : sel[id]? = some (some k)) (h2 : L[k]? = some (.st c)) : ∃ c', L'[id]? = some (.st c') := by
 have hlt : id < L'.length := by rw [← ok.len]; exact (List.getElem?_eq_some_iff.1 hs).1
 obtain ⟨o, g1, g2⟩ := ok.old id k _ hs (List.getElem?_eq_getElem hlt)
 rw [h2] at g1; cases g1
 rw [List.getElem?_eq_getElem hlt]
 cases ho : L'[id] <;> rw [ho] at g2 <;> first | exact ⟨_, rfl⟩ | exact g2.elim
theorem ahv (ok : SelOk L sel L') {id k : Nat} {c : List (Value × DV)} (hs : sel[id]? = some (some k)) (h2 : L[k]? = some (.mp c)) : ∃ c', L'[id]? = some (.mp c') := by
 have hlt : id < L'.length := by rw [← ok.len]; exact (List.getElem?_eq_some_iff.1 hs).1
 obtain ⟨o, g1, g2⟩ := ok.old id k _ hs (List.getElem?_eq_getElem hlt)
 rw [h2] at g1; cases g1
 rw [List.getElem?_eq_getElem hlt]
 cases ho : L'[id] <;> rw [ho] at g2 <;> first | exact ⟨_, rfl⟩ | exact g2.elim
theorem acf (H : Hp P h0 W0 γ L h) (ok : SelOk L sel L') {d' d : DV} {v : Value} (e : unB sel d' = some d) (hd : DB P (qd W0 γ L h) γ L h d v) : DB P (qd W0 (qQ γ sel) L' h) (qQ γ sel) L' h d' v := by
 cases d' with
 | p x => cases e; exact a5P ok hd
 | dp row off =>
  cases e
  obtain ⟨b, o, cs, te, rw, h1, h2, h3, h4, h5⟩ := hd
  exact ⟨b, o, cs, te, rw, y9 ok h1, h2, h3, h4, fun j x u a c => a5P ok (h5 j x u a c)⟩
 | ptr id off =>
  unfold unB at e
  cases hs : sel[id]? with
  | none => simp only [hs] at e; cases e
  | some s =>
   cases s with
   | none => simp only [hs] at e; cases e
   | some k =>
    simp only [hs] at e; cases e
    obtain ⟨b, h1, ⟨c, h2⟩, h3⟩ := hd
    exact ⟨b, (zg hs).trans h1, a5S ok hs h2, h3⟩
 | aref id off n =>
  unfold unB at e
  cases hs : sel[id]? with
  | none => simp only [hs] at e; cases e
  | some s =>
   cases s with
   | none => simp only [hs] at e; cases e
   | some k =>
    simp only [hs] at e; cases e
    obtain ⟨b, h1, ⟨c, h2⟩, h3⟩ := hd
    exact ⟨b, (zg hs).trans h1, a5S ok hs h2, h3⟩
 | ep id i off tot =>
  unfold unB at e
  cases hs : sel[id]? with
  | none => simp only [hs] at e; cases e
  | some s =>
   cases s with
   | none => simp only [hs] at e; cases e
   | some k =>
    simp only [hs] at e; cases e
    have hlt : id < L'.length := by rw [← ok.len]; exact (List.getElem?_eq_some_iff.1 hs).1
    obtain ⟨k1, k2, k3⟩ := hd
    refine ⟨hlt, k2, fun o' rows e1 e2 => ?_⟩
    obtain ⟨o, rows', g1, g2, g3⟩ := a2X ok hs e1 e2
    rw [zg hs]
    obtain ⟨m1, m2⟩ := k3 o rows' g1 g2
    have hl := QV g3
    refine ⟨by rw [hl]; exact m1, fun hq => ?_⟩
    obtain ⟨m3, m4⟩ := m2 (by rw [← hl]; exact hq)
    exact ⟨m3, fun z hz => m4 z (YW g3 hz)⟩
 | ref id lo n tot =>
  unfold unB at e
  cases hs : sel[id]? with
  | none => simp only [hs] at e; cases e
  | some s =>
   have hlt : id < L'.length := by rw [← ok.len]; exact (List.getElem?_eq_some_iff.1 hs).1
   cases s with
   | none =>
    simp only [hs] at e
    split at e
    ·rename_i hc
     obtain ⟨rfl, rfl, rfl⟩ := hc
     cases e
     have : v = .slice none 0 0 := PR.scal (P := P) (S := qd W0 γ L h) (h := h) hd
     subst this
     refine ⟨hlt, rfl, fun o' rows e1 e2 => ?_⟩
     have := ok.fresh id o' hs e1
     subst this
     cases e2
     exact ⟨Nat.le_refl _, fun _ => ⟨by omega, fun z _ => .inl ⟨.inl rfl, rfl, a3m hs⟩⟩⟩
    ·cases e
   | some k =>
    simp only [hs] at e; cases e
    obtain ⟨k1, k2, k3⟩ := hd
    refine ⟨hlt, k2, fun o' rows e1 e2 => ?_⟩
    obtain ⟨o, rows', g1, g2, g3⟩ := a2X ok hs e1 e2
    unfold agl
    rw [zg hs]
    obtain ⟨m1, m2⟩ := k3 o rows' g1 g2
    have hl := QV g3
    refine ⟨by rw [hl]; exact m1, fun hq => ?_⟩
    obtain ⟨m3, m4⟩ := m2 (by rw [← hl]; exact hq)
    exact ⟨m3, fun z hz => m4 z (YW g3 hz)⟩
 | cx z rows => cases e; exact CxV.mono (fun b hb => ⟨y9 ok hb, rfl⟩) hd
 | mref id =>
  unfold unB at e
  cases hs : sel[id]? with
  | none => simp only [hs] at e; cases e
  | some s =>
   cases s with
   | none => simp only [hs] at e; cases e
   | some k =>
    simp only [hs] at e; cases e
    obtain ⟨b, h1, ⟨c, h2⟩, h3⟩ := hd
    exact ⟨b, (zg hs).trans h1, ahv ok hs h2, h3⟩
 | fn => cases e
 | agg => cases e
 | tup => cases e
theorem a1K (H : Hp P h0 W0 γ L h) (ok : SelOk L sel L') : ∀ {ds' ds : List DV} {vs : List Value}, Kl sel ds' = some ds → All2 (DB P (qd W0 γ L h) γ L h) ds vs → All2 (DB P (qd W0 (qQ γ sel) L' h) (qQ γ sel) L' h) ds' vs
 | [], _, _, e, hd => by cases e; cases hd; exact .nil
 | d' :: ds', _, _, e, hd => by
  unfold Kl at e
  cases h1 : unB sel d' with
  | none => simp only [h1] at e; cases e
  | some d =>
   cases h2 : Kl sel ds' with
   | none => simp only [h1, h2] at e; cases e
   | some ds =>
    simp only [h1, h2] at e; cases e
    cases hd with
    | cons a b => exact .cons (acf H ok h1 a) (a1K H ok h2 b)
theorem a6P (H : Hp P h0 W0 γ L h) (ok : SelOk L sel L') {d' d : DV} {v : Value} (e : unC sel d' = some d) (hd : DC P (qd W0 γ L h) γ L h d v) : DC P (qd W0 (qQ γ sel) L' h) (qQ γ sel) L' h d' v := by
 have key : ∀ d', (∀ f a b, d' ≠ .fn f a b) → unB sel d' = some d → DC P (qd W0 (qQ γ sel) L' h) (qQ γ sel) L' h d' v := by
  intro d' hn e
  have hb : DB P (qd W0 γ L h) γ L h d v := by
   cases d with
   | fn f a b =>
    cases d' <;> (unfold unB at e) <;> (try split at e) <;> (try split at e) <;> (try split at e) <;> cases e
   | p => exact hd
   | ptr => exact hd
   | ep => exact hd
   | dp => exact hd
   | ref => exact hd
   | aref => exact hd
   | mref => exact hd
   | cx => exact hd
   | agg => exact hd.elim
   | tup => exact hd.elim
  have := acf H ok e hb
  cases d' <;> first | exact this | exact absurd rfl (hn _ _ _)
 cases d' with
 | fn f pre cap =>
  unfold unC at e
  cases h1 : Kl sel pre with
  | none => simp only [h1] at e; cases e
  | some p =>
   cases h2 : Kl sel cap with
   | none => simp only [h1, h2] at e; cases e
   | some c =>
    simp only [h1, h2] at e; cases e
    obtain ⟨as, bs, rfl, a1, a2⟩ := hd
    exact ⟨as, bs, rfl, a1K H ok h1 a1, a1K H ok h2 a2⟩
 | _ => exact key _ (by intro f a b e; cases e) e
theorem a8J (H : Hp P h0 W0 γ L h) (ok : SelOk L sel L') : ∀ {ds' ds : List DV} {vs : List Value}, a9O sel ds' = some ds → All2 (DC P (qd W0 γ L h) γ L h) ds vs → All2 (DC P (qd W0 (qQ γ sel) L' h) (qQ γ sel) L' h) ds' vs
 | [], _, _, e, hd => by cases e; cases hd; exact .nil
 | d' :: ds', _, _, e, hd => by
  unfold a9O at e
  cases h1 : unC sel d' with
  | none => simp only [h1] at e; cases e
  | some d =>
   cases h2 : a9O sel ds' with
   | none => simp only [h1, h2] at e; cases e
   | some ds =>
    simp only [h1, h2] at e; cases e
    cases hd with
    | cons a b => exact .cons (a6P H ok h1 a) (a8J H ok h2 b)
theorem ai3 {d d' : DV} (e : unC sel d' = some d) : ∀ xs, d ≠ .agg xs := by
 intro xs hx
 subst hx
 cases d' with
 | fn f a b =>
  unfold unC at e
  cases h1 : Kl sel a with
  | none => simp only [h1] at e; cases e
  | some p =>
   cases h2 : Kl sel b with
   | none => simp only [h1, h2] at e; cases e
   | some c => simp only [h1, h2] at e; cases e
 | _ =>
  simp only [unC, unB] at e
  all_goals (repeat' split at e)
  all_goals cases e
theorem agB (H : Hp P h0 W0 γ L h) (ok : SelOk L sel L') {d' d : DV} {v : Value} (e : un1 sel d' = some d) (hd : D1 P (qd W0 γ L h) γ L h d v) : D1 P (qd W0 (qQ γ sel) L' h) (qQ γ sel) L' h d' v := by
 have key : un1 sel d' = unC sel d' → D1 P (qd W0 (qQ γ sel) L' h) (qQ γ sel) L' h d' v := fun q => by
  rw [q] at e
  exact QP (a6P H ok e (QX hd (ai3 e)))
 cases d' with
 | agg xs =>
  simp only [un1] at e
  cases hx : a9O sel xs with
  | none => rw [hx] at e; cases e
  | some ys =>
   rw [hx] at e; cases e
   obtain ⟨vs, rfl, h1⟩ := hd
   exact ⟨vs, rfl, a8J H ok hx h1⟩
 | _ => exact key rfl
theorem a7I (H : Hp P h0 W0 γ L h) (ok : SelOk L sel L') {d' d : DV} {v : Value} (e : unX sel d' d) (hd : DC P (qd W0 γ L h) γ L h d v) : DC P (qd W0 (qQ γ sel) L' h) (qQ γ sel) L' h d' v := by
 unfold unX at e
 split at e
 ·subst e
  have : v = .slice none 0 0 := PR.scal (P := P) (S := qd W0 γ L h) (h := h) hd
  subst this
  exact PR.nil
 ·exact a6P H ok e hd
theorem a93 (H : Hp P h0 W0 γ L h) (ok : SelOk L sel L') : ∀ {ds' ds : List DV} {vs : List Value}, All2 (unX sel) ds' ds → All2 (DC P (qd W0 γ L h) γ L h) ds vs → All2 (DC P (qd W0 (qQ γ sel) L' h) (qQ γ sel) L' h) ds' vs
 | _, _, _, .nil, .nil => .nil
 | _, _, _, .cons e t, .cons hd t' => .cons (a7I H ok e hd) (a93 H ok t t')
theorem Hp.allowed (H : Hp P h0 W0 γ L h) {id b x : Nat} {o : Obj} (hi : L[id]? = some o) (hd : o.owns = true) (hg : γ id = some (b, x)) : W0.start ≤ b ∨ W0.A b := by
 rw [H.start]
 exact (H.new id o b x hi hd hg).imp_right (W0.sub b)
theorem Hp.select (H : Hp P h0 W0 γ L h) (ok : SelOk L sel L') (hpin : ∀ id b, W0.pin id b → sel[id]? = some (some id)) : Hp P h0 W0 (qQ γ sel) L' h := by
 refine ⟨H.start, fun id b e => (let ⟨a, c, b'⟩ := H.pin id b e; ⟨(zg (hpin id b e)).trans a, a5S ok (hpin id b e) b'⟩), fun i o' hi => ?_, fun i j o1 o2 b x x' e1 e2 d1 d2 g1 g2 => ?_, fun i x e => ?_, fun i o' b x hi hd hg => ?_, H.next, H.frame⟩
 ·obtain ⟨s, hs⟩ := ok.at hi
  cases s with
  | none =>
   have := ok.fresh i o' hs hi
   subst this
   exact ⟨rfl, a3m hs⟩
  | some k =>
   obtain ⟨o, h1, h2⟩ := ok.old i k o' hs hi
   have ho := H.obj k o h1
   have rr : ∀ {b q te rows}, Rows P (qd W0 γ L h) h b q te rows → Rows P (qd W0 (qQ γ sel) L' h) h b q te rows := by
    rintro b q te rows ⟨cs, z, a1, a2, a3, a4, a5, a6, a7⟩
    exact ⟨cs, z, a1, a2, a3, a4, a5, a6, fun i r j x u b1 b2 b3 => a5P ok (a7 i r j x u b1 b2 b3)⟩
   cases o' with
   | dead => trivial
   | mp es =>
    cases o with
    | mp es' =>
     obtain ⟨b, mes, ck, g1, g2, g3⟩ := ho
     refine ⟨b, mes, ck, (zg hs).trans g1, g2, ?_⟩
     refine All2.of_get (by rw [(show All2 _ es es' from h2).length, g3.length]) fun i a e1 ha he1 => ?_
     obtain ⟨a', q1, q2, q3⟩ := (show All2 _ es es' from h2).get ha
     obtain ⟨e2, q4, q5, q6⟩ := g3.get q1
     rw [he1] at q4; cases q4
     exact ⟨q5.trans q2.symm, agB H ok q3 q6⟩
    | _ => exact h2.elim
   | st cells =>
    cases o with
    | st cells' =>
     obtain ⟨b, te, vs, g1, g2, g3⟩ := ho
     exact ⟨b, te, vs, (zg hs).trans g1, g2, a93 H ok h2 g3⟩
    | _ => exact h2.elim
   | li te rows =>
    cases o with
    | li te' rows' =>
     obtain ⟨rfl, hw⟩ := h2
     cases te with
     | none => exact ⟨Jh hw ho.1, (zg hs).trans ho.2⟩
     | some te =>
      obtain ⟨b, q, g1, g2⟩ := ho
      exact ⟨b, q, (zg hs).trans g1, rr (g2.of_w hw)⟩
    | _ => exact h2.elim
   | fz te rows =>
    cases o with
    | fz te' rows' =>
     obtain ⟨rfl, hw⟩ := h2
     cases te with
     | none => exact ⟨Jh hw ho.1, (zg hs).trans ho.2⟩
     | some te =>
      obtain ⟨b, q, g1, g2, g3⟩ := ho
      exact ⟨b, q, (zg hs).trans g1, y9 ok g2, rr (g3.of_w hw)⟩
    | li te' rows' =>
     obtain ⟨rfl, hw⟩ := h2
     cases te with
     | none => exact ⟨Jh hw ho.1, (zg hs).trans ho.2⟩
     | some te =>
      obtain ⟨b, q, g1, g2⟩ := ho
      refine ⟨b, q, (zg hs).trans g1, ⟨?_, H.allowed h1 rfl g1, fun j oj x hj hd hg => ?_⟩, rr (g2.of_w hw)⟩
      ·obtain ⟨cs, z, a1, _⟩ := g2
       exact h.wf _ _ a1
      ·obtain ⟨kj, ok', f1, f2, f3⟩ := ok.owns hj hd
       rw [zg f1] at hg
       have hkk := H.inj k kj _ ok' b q x h1 f2 rfl f3 g1 hg
       subst hkk
       have hij := ok.inj i j k hs f1
       subst hij
       rw [hi] at hj
       cases hj
       cases hd
    | _ => exact h2.elim
 ·obtain ⟨k1, q1, a1, a2, a3⟩ := ok.owns e1 d1
  obtain ⟨k2, q2, b1, b2, b3⟩ := ok.owns e2 d2
  rw [zg a1] at g1
  rw [zg b1] at g2
  have := H.inj k1 k2 q1 q2 b x x' a2 b2 a3 b3 g1 g2
  subst this
  exact ok.inj i j k1 a1 b1
 ·unfold qQ at e
  split at e
  ·rename_i k hs
   rw [← ok.len]; exact (List.getElem?_eq_some_iff.1 hs).1
  ·cases e
 ·obtain ⟨k1, q1, a1, a2, a3⟩ := ok.owns hi hd
  rw [zg a1] at hg
  exact H.new k1 q1 b x a2 a3 hg
def wkC (P : Program) (L : List Obj) (sel : Sel) : DV → DV → Prop
 | .p (.sl z rows), .ref id lo n tot => some id ∉ sel ∧ ∃ rs, zG L id tot = some rs ∧ rows = (rs.drop lo).take n ∧ ∀ te, L[id]?.bind wj = some te → szT P te = some z
 | .p (.sl z rows), .cx z' rows' => z = z' ∧ rows = rows'
 | d', d => unX sel d' d
def wk1 (P : Program) (L : List Obj) (sel : Sel) : DV → DV → Prop
 | .agg xs, .agg ys => All2 (wkC P L sel) xs ys
 | d', d => wkC P L sel d' d
def wkD (P : Program) (L : List Obj) (sel : Sel) : DV → DV → Prop
 | .tup xs, .tup ys => All2 (wk1 P L sel) xs ys
 | d', d => wk1 P L sel d' d
theorem a7p (H : Hp P h0 W0 γ L h) {S : Nat → Prop} {id lo n tot z : Nat} {v : Value} {rs : List (List PV)} (hd : DB P (qd W0 γ L h) γ L h (.ref id lo n tot) v) (hr : zG L id tot = some rs)
  (hz : ∀ te, L[id]?.bind wj = some te → szT P te = some z) (hS : ∀ b x, γ id = some (b, x) → b < h.next → S b) (hF : ∀ b, qd W0 γ L h b → S b) : ∃ u, VW v u ∧ PR P S h (.sl z ((rs.drop lo).take n)) u := by
 obtain ⟨q, q1, q2, q3⟩ := kN hr
 obtain ⟨k1, k2, k3⟩ := hd
 obtain ⟨k4, k5⟩ := k3 q rs q1 q2
 obtain ⟨k6, k7⟩ := k5 q3
 obtain ⟨z0, hz0⟩ := H.width q1 q2
 have hlen : ((rs.drop lo).take n).length = n := by simp; omega
 have hun : unk > maxLen := by decide
 have hno : qG > maxLen := by decide
 rcases k7 z0 hz0 with ⟨rfl | ⟨b, o, rfl⟩, h1, h2⟩ | ⟨b, o, c, rfl, h1, h2⟩ | ⟨b, o, c, g, rfl, d1, d2, d3⟩
 ·have : (rs.drop lo).take n = [] := List.length_eq_zero_iff.1 (by rw [hlen]; omega)
  rw [this]
  exact ⟨_, .refl _, .nil⟩
 ·have : (rs.drop lo).take n = [] := List.length_eq_zero_iff.1 (by rw [hlen]; omega)
  rw [this]
  exact ⟨_, .empty b o 0, .dud⟩
 ·have : (rs.drop lo).take n = [] := List.length_eq_zero_iff.1 (by rw [hlen]; exact h1)
  rw [this]
  exact ⟨_, .empty b o c, .dud⟩
 ·obtain ⟨te', cs, z', r1, r2, r3, r4, r5, r6, r7⟩ := H.rows q1 q2 g
  have hte : L[id]?.bind wj = some te' := by
   rw [q1]
   have ho := H.obj id q q1
   cases q with
   | li tq rs' =>
    cases tq with
    | none => rw [ho.2] at g; cases g
    | some tq =>
     obtain ⟨b', o', g', cs', zz, s1, s2, _⟩ := ho
     rw [g] at g'; cases g'
     rw [r1] at s1; cases s1; rfl
   | fz tq rs' =>
    cases tq with
    | none => rw [ho.2] at g; cases g
    | some tq =>
     obtain ⟨b', o', g', _, cs', zz, s1, s2, _⟩ := ho
     rw [g] at g'; cases g'
     rw [r1] at s1; cases s1; rfl
   | st => exact q2.elim
   | mp => exact q2.elim
   | dead => exact q2.elim
  have hzz : z' = z := by have := hz te' hte; rw [r2] at this; cases this; rfl
  subst hzz
  by_cases hn : n = 0
  ·subst hn
   rw [List.take_zero]
   exact ⟨_, .empty b (o + lo * z0) c, .dud⟩
  ·have hne : 0 < rs.length := by omega
   have hz00 : z0 = z' := by rw [← r6 _ (List.getElem_mem hne), hz0 _ (List.getElem_mem hne)]
   subst hz00
   refine ⟨_, .refl _, ?_⟩
   have hmul : (lo + n) * z0 ≤ rs.length * z0 := Nat.mul_le_mul_right _ (by omega)
   rw [Nat.add_mul] at hmul
   have := PR.sl (P := P) (S := S) (h := h) (rows := (rs.drop lo).take n) (b := b) (o := o + lo * z0) (c := c) (z := z0) (hS b o g (h.wf _ _ r1)) r1 r3 (by rw [hlen]; omega)
    (fun i r e1 => by
     rw [List.getElem?_take] at e1
     split at e1
     ·rw [List.getElem?_drop] at e1; exact r6 r (List.mem_of_getElem? e1)
     ·cases e1)
    (fun i r j x u e1 e2 e3 => by
     rw [List.getElem?_take] at e1
     split at e1
     ·rw [List.getElem?_drop] at e1
      exact (r7 (lo + i) r j x u e1 e2 (by rw [← e3]; congr 1; rw [Nat.add_mul]; omega)).mono fun b hb => ⟨hF b hb, rfl⟩
     ·cases e1) (by
      rw [hlen]
      refine .inr ⟨rfl, r2, ?_⟩
      exact d3) (by rw [hlen]; omega)
   rw [hlen] at this
   exact this
theorem UH (H : Hp P h0 W0 γ L h) (ok : SelOk L sel L') {d' d : DV} {v : Value} (e : wkC P L sel d' d) (hd : DC P (qd W0 γ L h) γ L h d v) : ∃ u, VW v u ∧ DC P (qd W0 (qQ γ sel) L' h) (qQ γ sel) L' h d' u := by
 unfold wkC at e
 split at e
 ·rename_i z rows id lo n tot
  obtain ⟨e1, rs, e2, rfl, e3⟩ := e
  refine a7p H hd e2 e3 (fun b x hg hlt => ?_) (fun b hb => y9 ok hb)
  obtain ⟨q, q1, q2, q3⟩ := kN e2
  by_cases hq : q.owns = true
  case neg =>
   have ho := H.obj id q q1
   cases q with
   | li te rs' =>
    cases te with
    | none => rw [ho.2] at hg; cases hg
    | some te => exact absurd rfl hq
   | fz te rs' =>
    cases te with
    | none => rw [ho.2] at hg; cases hg
    | some te =>
     obtain ⟨b', o'', g', hS, _⟩ := ho
     rw [hg] at g'; cases g'
     exact y9 ok hS
   | st => exact q2.elim
   | mp => exact q2.elim
   | dead => exact q2.elim
  refine ⟨hlt, H.allowed q1 hq hg, fun i o' y hi hd' hg' => ?_⟩
  obtain ⟨k, o, f1, f2, f3⟩ := ok.owns hi hd'
  rw [zg f1] at hg'
  have := H.inj id k q o b x y q1 f2 hq f3 hg hg'
  subst this
  exact e1 (List.mem_of_getElem? f1)
 ·obtain ⟨rfl, rfl⟩ := e
  obtain ⟨_, ⟨u, rfl, h1, h2⟩ | ⟨_, _, rfl, h2⟩⟩ := hd
  ·exact ⟨u, .exact h1, h2.mono fun b hb => ⟨y9 ok hb, rfl⟩⟩
  ·exact ⟨_, .refl _, h2.mono fun b hb => ⟨y9 ok hb, rfl⟩⟩
 ·exact ⟨v, .refl v, a7I H ok e hd⟩
theorem XI (H : Hp P h0 W0 γ L h) (ok : SelOk L sel L') : ∀ {ds' ds : List DV} {vs : List Value}, All2 (wkC P L sel) ds' ds → All2 (DC P (qd W0 γ L h) γ L h) ds vs → ∃ us, All2 VW vs us ∧ All2 (DC P (qd W0 (qQ γ sel) L' h) (qQ γ sel) L' h) ds' us
 | _, _, _, .nil, .nil => ⟨[], .nil, .nil⟩
 | _, _, _, .cons e t, .cons hd t' => by
  obtain ⟨u, a1, a2⟩ := UH H ok e hd
  obtain ⟨us, b1, b2⟩ := XI H ok t t'
  exact ⟨u :: us, .cons a1 b1, .cons a2 b2⟩
theorem UW (H : Hp P h0 W0 γ L h) (ok : SelOk L sel L') {d' d : DV} {v : Value} (e : wk1 P L sel d' d) (hd : D1 P (qd W0 γ L h) γ L h d v) : ∃ u, VW v u ∧ D1 P (qd W0 (qQ γ sel) L' h) (qQ γ sel) L' h d' u := by
 unfold wk1 at e
 split at e
 ·rename_i xs ys
  obtain ⟨vs, rfl, h1⟩ := hd
  obtain ⟨us, a1, a2⟩ := XI H ok e h1
  refine ⟨.agg us.toArray, .agg ?_ fun i x y e1 e2 => ?_, us.toArray, rfl, by simpa using a2⟩
  ·have := a1.length; simpa using this
  ·obtain ⟨u, b1, b2⟩ := a1.get (i := i) (a := x) (by simpa using e1)
   have : us[i]? = some y := by simpa using e2
   rw [this] at b1; cases b1
   exact b2
 ·rename_i hne
  have hc : DC P (qd W0 γ L h) γ L h d v := by
   refine QX hd fun ys hy => ?_
   subst hy
   cases d' with
   | agg xs => exact hne xs ys rfl rfl
   | p x => cases x <;> (simp [wkC, unX, unC, unB] at e)
   | _ =>
    simp only [wkC, unX, unC, unB] at e
    repeat' split at e
    all_goals cases e
  obtain ⟨u, a1, a2⟩ := UH H ok e hc
  exact ⟨u, a1, QP a2⟩
theorem u6 (H : Hp P h0 W0 γ L h) (ok : SelOk L sel L') : ∀ {ds' ds : List DV} {vs : List Value}, All2 (wk1 P L sel) ds' ds → All2 (D1 P (qd W0 γ L h) γ L h) ds vs → ∃ us, All2 VW vs us ∧ All2 (D1 P (qd W0 (qQ γ sel) L' h) (qQ γ sel) L' h) ds' us
 | _, _, _, .nil, .nil => ⟨[], .nil, .nil⟩
 | _, _, _, .cons e t, .cons hd t' => by
  obtain ⟨u, a1, a2⟩ := UW H ok e hd
  obtain ⟨us, b1, b2⟩ := u6 H ok t t'
  exact ⟨u :: us, .cons a1 b1, .cons a2 b2⟩
theorem UB (H : Hp P h0 W0 γ L h) (ok : SelOk L sel L') {d' d : DV} {v : Value} (e : wkD P L sel d' d) (hd : DR P (qd W0 γ L h) γ L h d v) : ∃ u, VW v u ∧ DR P (qd W0 (qQ γ sel) L' h) (qQ γ sel) L' h d' u := by
 unfold wkD at e
 split at e
 ·rename_i xs ys
  obtain ⟨vs, rfl, h1⟩ := hd
  obtain ⟨us, a1, a2⟩ := u6 H ok e h1
  refine ⟨.tuple us.toArray, .tuple ?_ fun i x y e1 e2 => ?_, us.toArray, rfl, by simpa using a2⟩
  ·have := a1.length; simpa using this
  ·obtain ⟨u, b1, b2⟩ := a1.get (i := i) (a := x) (by simpa using e1)
   have : us[i]? = some y := by simpa using e2
   rw [this] at b1; cases b1
   exact b2
 ·rename_i hne
  have hc : D1 P (qd W0 γ L h) γ L h d v := by
   refine wn hd ?_
   cases d with
   | tup ys =>
    exfalso
    cases d' with
    | tup xs => exact hne xs ys rfl rfl
    | p x => cases x <;> (simp [wk1, wkC, unX, unC, unB] at e)
    | _ =>
     simp only [wk1, wkC, unX, unC, unB] at e
     repeat' split at e
     all_goals cases e
   | _ => rfl
  obtain ⟨u, a1, a2⟩ := UW H ok e hc
  exact ⟨u, a1, jl a2⟩
end
open Go.RowKit
def wg (P : Program) (a : DFrm) (L : List Obj) : ResultVar → Option DV
 | .tmp t => qW t a.l
 | .cell p t => match qW p a.l with
  | some d => jv P L t d
  | none => none
def zN (P : Program) (a : DFrm) (L : List Obj) : List ResultVar → Option (List DV)
 | [] => some []
 | x :: r => match wg P a L x, zN P a L r with
  | some v, some vs => some (v :: vs)
  | _, _ => none
def ZY : List DV → Option DV
 | [d] => some d
 | ds => if ds.all is1 then some (.tup ds) else none
def adQ (P : Program) (rs : List ResultVar) (Q : DV → List Obj → Prop) : DQ
 | .normal, a, L => qh (zN P a L rs) fun ds => qh (ZY ds) fun d => Q d L
 | .ret, a, L => qh (zN P a L rs) fun ds => qh (ZY ds) fun d => Q d L
 | _, _, _ => False
def aaE (P : Program) (c : Nat) (Q : DV → List Obj → Prop) (r : DV) (L : List Obj) : Prop :=
 ∃ sel r' A', SelOk L sel A' ∧ (∀ id, id < c → (∃ cs, L[id]? = some (.st cs)) → sel[id]? = some (some id)) ∧ wkD P L sel r' r ∧ Q r' A'
def jY : Nat → List DV → List (Nat × DV)
 | _, [] => []
 | k, v :: vs => (k, v) :: jY (k + 1) vs
def DCalls (P : Program) (f : FuncId) (ds : List DV) (A : List Obj) (Q : DV → List Obj → Prop) : Prop :=
 ∀ (W0 : Ent) γ h vs, W0.cnt ≤ A.length → Hp P h W0 γ A h → All2 (DR P (qd W0 γ A h) γ A h) ds vs →
  ACalls P f vs h (fun v h' => ∃ γ' r A', Q r A' ∧ Hp P h W0 γ' A' h' ∧ DR P (qd W0 γ' A' h') γ' A' h' r v)
section
variable {P : Program} {W0 : Ent} {γ : Pl} {L : List Obj} {h : Heap} {h0 : Heap} {a : DFrm} {fa : Frm}
theorem uH (H : Hp P h0 W0 γ L h) (hf : FR P W0 γ L h a fa) {x : ResultVar} {d : DV} (e : wg P a L x = some d) : ∃ v, Qy P fa h x = some v ∧ (DR P (qd W0 γ L h) γ L h) d v := by
 cases x with
 | tmp t => exact hf.slots t d e
 | cell p t =>
  unfold wg at e
  cases hq : qW p a.l with
  | none => simp only [hq] at e; cases e
  | some q =>
   simp only [hq] at e
   obtain ⟨v, e1, r1⟩ := hf.slots p q hq
   obtain ⟨u, e2, r2⟩ := Qo H r1 e
   exact ⟨u, by simp only [Qy, e1]; exact e2, r2⟩
theorem Q0 (H : Hp P h0 W0 γ L h) (hf : FR P W0 γ L h a fa) : ∀ {rs : List ResultVar} {ds : List DV}, zN P a L rs = some ds → ∃ vs, za P fa h rs = some vs ∧ All2 (DR P (qd W0 γ L h) γ L h) ds vs
 | [], ds, e => by cases e; exact ⟨[], rfl, .nil⟩
 | x :: rs, ds, e => by
  unfold zN at e
  cases h1 : wg P a L x with
  | none => rw [h1] at e; cases e
  | some d =>
   cases h2 : zN P a L rs with
   | none => rw [h1, h2] at e; cases e
   | some ds' =>
    rw [h1, h2] at e; cases e
    obtain ⟨v, e1, r1⟩ := uH H hf h1
    obtain ⟨vs, e2, r2⟩ := Q0 H hf h2
    exact ⟨v :: vs, by simp only [za, e1, e2], .cons r1 r2⟩
theorem a9i {S : Nat → Prop} : ∀ {ds : List DV} {vs : List Value}, ds.all is1 = true → All2 (DR P S γ L h) ds vs → All2 (D1 P S γ L h) ds vs
 | [], _, _, .nil => .nil
 | d :: ds, _, hb, .cons hd t => by
  simp only [List.all_cons, Bool.and_eq_true] at hb
  exact .cons (wn hd hb.1) (a9i hb.2 t)
theorem VX {ds : List DV} {vs : List Value} {d : DV} (hr : All2 (DR P (qd W0 γ L h) γ L h) ds vs) (e : ZY ds = some d) : (DR P (qd W0 γ L h) γ L h) d (jW vs) := by
 cases hr with
 | nil =>
  simp [ZY] at e
  subst e
  exact ⟨#[], rfl, .nil⟩
 | cons hd t =>
  cases t with
  | nil => simp only [ZY] at e; cases e; exact hd
  | cons hd2 t2 =>
   simp only [ZY] at e
   split at e
   ·rename_i hb
    cases e
    exact ⟨_, rfl, by simpa using a9i hb (.cons hd (.cons hd2 t2))⟩
   ·cases e
theorem Ky : ∀ {ds : List DV} {vs : List Value} (k : Nat), All2 (DR P (qd W0 γ L h) γ L h) ds vs → ∀ t d, qW t (jY k ds) = some d → ∃ v, wv t (kw k vs) = some v ∧ (DR P (qd W0 γ L h) γ L h) d v
 | [], _, k, .nil, t, d, e => by cases e
 | d0 :: ds, v0 :: vs, k, .cons hd tl, t, d, e => by
  simp only [jY, qW] at e
  simp only [kw, wv]
  split at e
  ·rename_i hk; cases e; rw [if_pos hk]; exact ⟨v0, rfl, hd⟩
  ·rename_i hk; rw [if_neg hk]; exact Ky (k + 1) tl t d e
theorem Hp.grow {h' : Heap} (H : Hp P h0 W0 γ L h) (hn : h.next ≤ h'.next) (hg : ∀ b, b < h.next → h'.get b = h.get b) : Hp P h0 W0 γ L h' ∧ Carry W0 γ L h γ L h' := by
 have c : Carry W0 γ L h γ L h' := ⟨fun b hb => ⟨⟨Nat.lt_of_lt_of_le hb.1 hn, hb.2⟩, hg b hb.1⟩, Nat.le_refl _, fun _ _ e hc => ⟨e, hc⟩, fun _ _ e hc => ⟨e, hc⟩, fun id o' rows' _ e hl => ⟨o', rows', e, hl, Nat.le_refl _, fun _ => ⟨rfl, fun _ hz => hz⟩⟩⟩
 have hlt : ∀ id o b x, L[id]? = some o → o.owns = true → γ id = some (b, x) → b < h.next := fun id o b x e e2 e3 => (OR.lt (fun b hb => hb.1) (H.obj id o e) e3 e2).1
 exact ⟨⟨H.start, H.pin, fun id o e => H.others c e rfl fun b x g d => hg b (hlt id o b x e d g), H.inj, H.dom, H.new, Nat.le_trans H.next hn, fun b hb hw => (hg b (Nat.lt_of_lt_of_le hb H.next)).trans (H.frame b hb hw)⟩, c⟩
def a1I (P : Program) (L : List Obj) (any : Bool) : DV → DV → Prop
 | .p (.sl z rows), .ref id lo n tot => (any = true ∨ ∃ e rs, L[id]? = some (.fz e rs)) ∧ ∃ rs, zG L id tot = some rs ∧ rows = (rs.drop lo).take n ∧ ∀ te, L[id]?.bind wj = some te → szT P te = some z
 | .p (.sl _ rows), .p (.v (.slice none 0 0)) => rows = []
 | .p (.sl z rows), .cx z' rows' => z = z' ∧ rows = rows'
 | d', d => unC [] d' = some d
def a7z (P : Program) (L : List Obj) (any : Bool) : DV → DV → Prop
 | .agg xs, .agg ys => All2 (a1I P L any) xs ys
 | d', d => a1I P L any d' d
end
open Go.RowKit
section
variable {P : Program} {W0 : Ent} {γ : Pl} {L : List Obj} {h : Heap} {h0 : Heap} {a : DFrm} {fa : Frm}
def ut : Pl := fun _ => none
theorem a9g (W : Ent) (h : Heap) (h1 : W.start = h.next) (h2 : ∀ id b, ¬ W.pin id b) : Hp P h W ut [] h :=
 ⟨h1, fun id b e => absurd e (h2 id b), fun id o e => by simp at e, fun id id' o o' b x x' e => by simp at e, fun id x e => (by cases e), fun id o b x e => by simp at e, Nat.le_refl _, fun _ _ _ => rfl⟩
theorem wV {S S' : Nat → Prop} {γ' : Pl} {L' : List Obj} {d d' : DV} {v : Value} (hs : ∀ b, S b → S' b) (e : unB [] d' = some d) (hd : DB P S γ L h d v) : DB P S' γ' L' h d' v := by
 cases d' with
 | p x => cases e; exact PR.mono (fun b hb => ⟨hs b hb, rfl⟩) hd
 | dp row off =>
  cases e
  obtain ⟨b, o, cs, te, rw, h1, h2, h3, h4, h5⟩ := hd
  exact ⟨b, o, cs, te, rw, hs b h1, h2, h3, h4, fun j x u e1 e2 => (h5 j x u e1 e2).mono fun b hb => ⟨hs b hb, rfl⟩⟩
 | cx z rows => cases e; exact CxV.mono (fun b hb => ⟨hs b hb, rfl⟩) hd
 | _ => cases e
theorem Qb {S S' : Nat → Prop} {γ' : Pl} {L' : List Obj} (hs : ∀ b, S b → S' b) : ∀ {ds' ds : List DV} {vs : List Value}, Kl [] ds' = some ds → All2 (DB P S γ L h) ds vs → All2 (DB P S' γ' L' h) ds' vs
 | [], _, _, e, hd => by cases e; cases hd; exact .nil
 | d' :: ds', _, _, e, hd => by
  unfold Kl at e
  cases h1 : unB [] d' with
  | none => simp only [h1] at e; cases e
  | some d =>
   cases h2 : Kl [] ds' with
   | none => simp only [h1, h2] at e; cases e
   | some ds =>
    simp only [h1, h2] at e; cases e
    cases hd with
    | cons a b => exact .cons (wV hs h1 a) (Qb hs h2 b)
theorem Uk {S S' : Nat → Prop} {γ' : Pl} {L' : List Obj} {d d' : DV} {v : Value} (hs : ∀ b, S b → S' b) (e : unC [] d' = some d) (hd : DC P S γ L h d v) : DC P S' γ' L' h d' v := by
 cases d' with
 | p x => cases e; exact wV (P := P) (γ := γ) (L := L) (γ' := γ') (L' := L') (d := .p x) (d' := .p x) hs rfl hd
 | dp row off => cases e; exact wV (P := P) (γ := γ) (L := L) (γ' := γ') (L' := L') (d := .dp row off) (d' := .dp row off) hs rfl hd
 | cx z rows => cases e; exact wV (P := P) (γ := γ) (L := L) (γ' := γ') (L' := L') (d := .cx z rows) (d' := .cx z rows) hs rfl hd
 | fn f pre cap =>
  unfold unC at e
  cases h1 : Kl [] pre with
  | none => simp only [h1] at e; cases e
  | some p =>
   cases h2 : Kl [] cap with
   | none => simp only [h1, h2] at e; cases e
   | some c =>
    simp only [h1, h2] at e; cases e
    obtain ⟨as, bs, rfl, a1, a2⟩ := hd
    exact ⟨as, bs, rfl, Qb hs h1 a1, Qb hs h2 a2⟩
 | _ => cases e
theorem uq {S' : Nat → Prop} {any : Bool} (H : Hp P h0 W0 γ L h) (hs : ∀ b, qd W0 γ L h b → S' b) (ha : any = true → ∀ b, b < h.next → S' b) {d d' : DV} {v : Value} (e : a1I P L any d' d) (hd : DC P (qd W0 γ L h) γ L h d v) : ∃ u, VW v u ∧ DC P S' ut [] h d' u := by
 unfold a1I at e
 split at e
 ·rename_i z rows id lo n tot
  obtain ⟨e1, rs, e2, rfl, e3⟩ := e
  refine a7p H hd e2 e3 (fun b x hg hlt => ?_) hs
  rcases e1 with e1 | ⟨te, rs', e1⟩
  ·exact ha e1 b hlt
  ·have ho := H.obj id _ e1
   cases te with
   | none => rw [ho.2] at hg; cases hg
   | some te =>
    obtain ⟨b', o', g', hS, _⟩ := ho
    rw [hg] at g'; cases g'
    exact hs b hS
 ·subst e
  have : v = .slice none 0 0 := PR.scal (P := P) (S := qd W0 γ L h) (h := h) hd
  subst this
  exact ⟨_, .refl _, PR.nil⟩
 ·obtain ⟨rfl, rfl⟩ := e
  obtain ⟨_, ⟨u, rfl, h1, h2⟩ | ⟨_, _, rfl, h2⟩⟩ := hd
  ·exact ⟨u, .exact h1, h2.mono fun b hb => ⟨hs b hb, rfl⟩⟩
  ·exact ⟨_, .refl _, h2.mono fun b hb => ⟨hs b hb, rfl⟩⟩
 ·exact ⟨v, .refl v, Uk hs e hd⟩
theorem vR {S' : Nat → Prop} {any : Bool} (H : Hp P h0 W0 γ L h) (hs : ∀ b, qd W0 γ L h b → S' b) (ha : any = true → ∀ b, b < h.next → S' b) : ∀ {ds' ds : List DV} {vs : List Value}, All2 (a1I P L any) ds' ds → All2 (DC P (qd W0 γ L h) γ L h) ds vs → ∃ us, All2 VW vs us ∧ All2 (DC P S' ut [] h) ds' us
 | _, _, _, .nil, .nil => ⟨[], .nil, .nil⟩
 | _, _, _, .cons e t, .cons hd t' => by
  obtain ⟨u, a1, a2⟩ := uq H hs ha e hd
  obtain ⟨us, b1, b2⟩ := vR H hs ha t t'
  exact ⟨u :: us, .cons a1 b1, .cons a2 b2⟩
theorem afp {d d' : DV} (e : unC [] d' = some d) : (∀ xs, d ≠ .agg xs) ∧ (∀ xs, d ≠ .tup xs) := by
 cases d' <;> (simp only [unC, unB] at e) <;> (try (repeat' split at e)) <;> cases e <;> exact ⟨fun _ h => (by cases h), fun _ h => (by cases h)⟩
theorem a7M {S' : Nat → Prop} {any : Bool} (H : Hp P h0 W0 γ L h) (hs : ∀ b, qd W0 γ L h b → S' b) (ha : any = true → ∀ b, b < h.next → S' b) {d d' : DV} {v : Value} (e : a7z P L any d' d) (hd : DR P (qd W0 γ L h) γ L h d v) : ∃ u, VW v u ∧ DR P S' ut [] h d' u := by
 unfold a7z at e
 split at e
 ·rename_i xs ys
  obtain ⟨vs, rfl, h1⟩ := hd
  obtain ⟨us, a1, a2⟩ := vR H hs ha e h1
  refine ⟨.agg us.toArray, .agg ?_ fun i x y e1 e2 => ?_, us.toArray, rfl, by simpa using a2⟩
  ·have := a1.length; simpa using this
  ·obtain ⟨u, b1, b2⟩ := a1.get (i := i) (a := x) (by simpa using e1)
   have : us[i]? = some y := by simpa using e2
   rw [this] at b1; cases b1
   exact b2
 ·have hn : (∀ xs, d ≠ .agg xs) ∧ (∀ xs, d ≠ .tup xs) := by
   unfold a1I at e
   split at e
   ·exact ⟨fun _ h => (by cases h), fun _ h => (by cases h)⟩
   ·exact ⟨fun _ h => (by cases h), fun _ h => (by cases h)⟩
   ·exact ⟨fun _ h => (by cases h), fun _ h => (by cases h)⟩
   ·exact afp e
  have h1 : D1 P (qd W0 γ L h) γ L h d v := by
   cases d <;> first | exact hd | exact absurd rfl (hn.2 _)
  obtain ⟨u, a1, a2⟩ := uq H hs ha e (QX h1 hn.1)
  exact ⟨u, a1, jl (QP a2)⟩
theorem Xf {S' : Nat → Prop} {any : Bool} (H : Hp P h0 W0 γ L h) (hs : ∀ b, qd W0 γ L h b → S' b) (ha : any = true → ∀ b, b < h.next → S' b) : ∀ {ds' ds : List DV} {vs : List Value}, All2 (a7z P L any) ds' ds → All2 (DR P (qd W0 γ L h) γ L h) ds vs → ∃ us, All2 VW vs us ∧ All2 (DR P S' ut [] h) ds' us
 | _, _, _, .nil, .nil => ⟨[], .nil, .nil⟩
 | _, _, _, .cons e t, .cons hd t' => by
  obtain ⟨u, a1, a2⟩ := a7M H hs ha e hd
  obtain ⟨us, b1, b2⟩ := Xf H hs ha t t'
  exact ⟨u :: us, .cons a1 b1, .cons a2 b2⟩
def xJ : DV → Bool
 | .p (.v _) => true
 | _ => false
def xM : DV → Bool
 | .agg xs => xs.all xJ
 | d => xJ d
def a8U : DV → Bool
 | .tup xs => xs.all xM
 | d => xM d
theorem XF {S S' : Nat → Prop} {γ γ' : Pl} {L L' : List Obj} {h h' : Heap} {d : DV} {v : Value} (hs : xJ d = true) (hd : DC P S γ L h d v) : DC P S' γ' L' h' d v := by
 unfold xJ at hs
 split at hs
 ·rename_i x
  cases (show PR P S h (.v x) v from hd) with
  | v hx => exact PR.v hx
 ·cases hs
theorem vP {S S' : Nat → Prop} {γ γ' : Pl} {L L' : List Obj} {h h' : Heap} : ∀ {ds : List DV} {vs : List Value}, ds.all xJ = true → All2 (DC P S γ L h) ds vs → All2 (DC P S' γ' L' h') ds vs
 | [], _, _, .nil => .nil
 | d :: ds, _, hb, .cons hd t => by
  simp only [List.all_cons, Bool.and_eq_true] at hb
  exact .cons (XF hb.1 hd) (vP hb.2 t)
theorem XY {S S' : Nat → Prop} {γ γ' : Pl} {L L' : List Obj} {h h' : Heap} {d : DV} {v : Value} (hs : xM d = true) (hd : D1 P S γ L h d v) : D1 P S' γ' L' h' d v := by
 unfold xM at hs
 split at hs
 ·obtain ⟨vs, rfl, h1⟩ := hd; exact ⟨vs, rfl, vP hs h1⟩
 ·rename_i hn
  exact QP (XF hs (QX hd fun xs e => hn xs e))
theorem vX {S S' : Nat → Prop} {γ γ' : Pl} {L L' : List Obj} {h h' : Heap} : ∀ {ds : List DV} {vs : List Value}, ds.all xM = true → All2 (D1 P S γ L h) ds vs → All2 (D1 P S' γ' L' h') ds vs
 | [], _, _, .nil => .nil
 | d :: ds, _, hb, .cons hd t => by
  simp only [List.all_cons, Bool.and_eq_true] at hb
  exact .cons (XY hb.1 hd) (vX hb.2 t)
theorem a9t {S S' : Nat → Prop} {γ γ' : Pl} {L L' : List Obj} {h h' : Heap} {d : DV} {v : Value} (hs : a8U d = true) (hd : DR P S γ L h d v) : DR P S' γ' L' h' d v := by
 unfold a8U at hs
 split at hs
 ·obtain ⟨vs, rfl, h1⟩ := hd; exact ⟨vs, rfl, vX hs h1⟩
 ·rename_i hn
  refine jl (XY hs (wn hd ?_))
  cases d <;> first | rfl | exact absurd rfl (hn _)
def wkS (P : Program) (a : DFrm) (L : List Obj) (l' : List (Nat × DV)) (L' : List Obj) : Prop :=
 ∃ sel, SelOk L sel L' ∧ (∀ id, id < a.c → (∃ cs, L[id]? = some (.st cs)) → sel[id]? = some (some id)) ∧ ∀ p ∈ l', ∃ d, qW p.1 a.l = some d ∧ wkD P L sel p.2 d
theorem AWp.weaken_vw {c : Code} {Q : Exit → Frm → Heap → Prop} {a a' : Frm} (hn : a'.n = a.n) (hl : ∀ t v, a'.get t = some v → ∃ u, a.get t = some u ∧ VW u v) (hc : AWp P c Q a' h) : AWp P c Q a h :=
 fun ro D β m w ha hr ok => hc ro D β m w ⟨ha.defers, by rw [hn]; exact ha.size, fun t v e => by
  obtain ⟨u, e1, hw⟩ := hl t v e
  obtain ⟨mv, e2, r⟩ := ha.rel t u e1
  exact ⟨mv, e2, r.weak hw⟩⟩ hr ok
theorem XV {L' : List Obj} {sel : Sel} (H : Hp P h0 W0 γ L h) (ok : SelOk L sel L') (hf : FR P W0 γ L h a fa) : ∀ (l' : List (Nat × DV)), (∀ p ∈ l', ∃ d, qW p.1 a.l = some d ∧ wkD P L sel p.2 d) →
  ∃ fl : List (Nat × Value), (∀ t v, wv t fl = some v → ∃ u, fa.get t = some u ∧ VW u v) ∧ ∀ t d, qW t l' = some d → ∃ v, wv t fl = some v ∧ DR P (qd W0 (qQ γ sel) L' h) (qQ γ sel) L' h d v
 | [], _ => ⟨[], fun t v e => (by cases e), fun t d e => (by cases e)⟩
 | (t0, d0) :: l', hl => by
  obtain ⟨fl, f1, f2⟩ := XV H ok hf l' fun p hp => hl p (List.mem_cons_of_mem _ hp)
  obtain ⟨d, e1, e2⟩ := hl (t0, d0) List.mem_cons_self
  obtain ⟨v, e3, r3⟩ := hf.slots t0 d e1
  obtain ⟨u, hw, hd⟩ := UB H ok e2 r3
  refine ⟨(t0, u) :: fl, fun t w e => ?_, fun t d' e => ?_⟩
  ·simp only [wv] at e
   split at e
   ·rename_i ht; cases e; subst ht; exact ⟨v, e3, hw⟩
   ·exact f1 t w e
  ·simp only [qW] at e
   simp only [wv]
   split at e
   ·rename_i ht; cases e; rw [if_pos ht]; exact ⟨u, rfl, hd⟩
   ·rename_i ht; rw [if_neg ht]; exact f2 t d' e
theorem abr {l' : List (Nat × DV)} {L' : List Obj} {c : Code} {Q : Exit → Frm → Heap → Prop} (H : Hp P h0 W0 γ L h) (hf : FR P W0 γ L h a fa) (hw : wkS P a L l' L') (hk : ∀ γ' fa', Hp P h0 W0 γ' L' h → FR P W0 γ' L' h ⟨a.n, a.c, l'⟩ fa' → AWp P c Q fa' h) : AWp P c Q fa h := by
 obtain ⟨sel, ok, hp, hl⟩ := hw
 obtain ⟨fl, f1, f2⟩ := XV H ok hf l' hl
 exact AWp.weaken_vw (a' := ⟨a.n, fl⟩) hf.n.symm f1 (hk _ ⟨a.n, fl⟩ (H.select ok fun id b e => hp id (by rw [← hf.cnt]; exact W0.few id b e) (H.pin id b e).2) ⟨rfl, hf.cnt, f2⟩)
inductive DFx where
 | k (x : X)
 | block (id : Nat)
 | loop (K : DFrm → List Obj → Prop)
 | scope (J : Nat → DFrm → List Obj → Prop)
def aj9 (J : Nat → DFrm → List Obj → Prop) (Q : DQ) : DQ
 | .goto l, a, L => J l a L
 | e, a, L => Q e a L
def dsx (P : Program) : List DFx → DQ → DQ
 | [], Q => Q
 | .k y :: s, Q => KJ (Kg P y (dsx P s Q)) (dsx P s Q)
 | .block id :: s, Q => a9l id (dsx P s Q)
 | .loop K :: s, Q => KJ K (dsx P s Q)
 | .scope J :: s, Q => aj9 J (dsx P s Q)
theorem DAWp.mono {c : Code} {Q Q' : DQ} {a : DFrm} {L : List Obj} (hc : DAWp P c Q a L) (hq : ∀ e a L, Q e a L → Q' e a L) : DAWp P c Q' a L := fun h0 W0 γ h fa H hf => (hc h0 W0 γ h fa H hf).mono fun e fa h ⟨a, L, γ, hk, H, hf⟩ => ⟨a, L, γ, hq _ _ _ hk, H, hf⟩
end
open Go.RowKit
theorem a5s {α : Type} {o o' : Option α} {f : α → Prop} (h : o = o') : qh o f = qh o' f := by rw [h]
def Wc (P : Program) (l : List C) (K : DFrm → List Obj → Prop) (a : DFrm) (L : List Obj) : Prop := z3 P l K a L
def ai2 (P : Program) (l : List (C × List C)) (K : DFrm → List Obj → Prop) (a : DFrm) (L : List Obj) : Prop := a0z P l K a L
theorem vj {α : Type} {o : Option α} {f g : α → Prop} (h : ∀ x, f x = g x) : qh o f = qh o g := by
 cases o
 ·rfl
 ·exact h _
section
variable (P : Program) (d : Option Tmp) (r : List C) (K : DFrm → List Obj → Prop) (a : DFrm) (L : List Obj)
theorem ahc : z3 P [] K a L = K a L := rfl
theorem adR (op : Op) (t : Option Tmp) (want : Bool) : z3 P (⟨d, op, some (t, want)⟩ :: r) K a L = zA (KS t want a) (Wc P (⟨d, op, none⟩ :: r) K a L) (Wc P r K (a.put d abI) L) := rfl
theorem a4U (l : List C) (B : Prop) : zA (some true) (Wc P l K a L) B = z3 P l K a L := by simp [zA, Wc]
theorem a0W (l : List C) (A : Prop) : zA (some false) A (Wc P l K a L) = z3 P l K a L := by simp [zA, Wc]
theorem ag8 (x : Operand) : z3 P (⟨d, .move x, none⟩ :: r) K a L = qh (a.ev x) fun v => z3 P r K (a.put d v) L := rfl
theorem abA (x : Operand) : z3 P (⟨d, .assign x, none⟩ :: r) K a L = qh (a.ev x) fun v => z3 P r K (a.put d v) L := rfl
theorem afP (c x y : Operand) : z3 P (⟨d, .pick c x y, none⟩ :: r) K a L = qh (Kn (a.ev c) (a.ev x) (a.ev y)) fun v => z3 P r K (a.put d v) L := rfl
theorem aeF (t : TypeId) (ps : List (Nat × Operand)) : z3 P (⟨d, .build t ps.toArray, none⟩ :: r) K a L = qh (Zc a.ev ps) fun ds => qh (Ji P t ds) fun v => z3 P r K (a.put d v) L := by simp only [z3, zB]
theorem acB (t : TypeId) (x : Operand) (f : Nat) : z3 P (⟨d, .field t x f, none⟩ :: r) K a L = qh (a.ev x) fun x => qh (Jw P t x f) fun v => z3 P r K (a.put d v) L := rfl
theorem a1i (t : TypeId) (x : Operand) (f : Nat) : z3 P (⟨d, .fieldAddr t x f, none⟩ :: r) K a L = qh (a.ev x) fun x => qh (yb P L t x f) fun v => z3 P r K (a.put d v) L := rfl
theorem ag9 (op : UnOp) (t : TypeId) (x : Operand) : z3 P (⟨d, .unOp op t x, none⟩ :: r) K a L = qh (a.ev x) fun x => qh (wp x) fun v => qh (scD (unV op v)) fun v => z3 P r K (a.put d v) L := rfl
theorem abO (op : BinOp) (t : TypeId) (x y : Operand) (u : TypeId) : z3 P (⟨d, .binOp op t x y u, none⟩ :: r) K a L = qh (a.ev x) fun x => qh (a.ev y) fun y => qh (wB P op t x y) fun v => z3 P r K (a.put d v) L := rfl
theorem a6V (s t : TypeId) (x : Operand) : z3 P (⟨d, .convert s t x, none⟩ :: r) K a L = qh (a.ev x) fun x => qh (vp P L s t x) fun p => z3 P r K (a.put d p.1) p.2 := rfl
theorem a4T (f : Fn) (xs ys : List Operand) : z3 P (⟨d, .makeFunc f xs.toArray ys.toArray, none⟩ :: r) K a L = qh (vx f (yx a.ev xs) (yx a.ev ys)) fun v => z3 P r K (a.put d v) L := by simp only [z3, zB]
theorem a2t (t : TypeId) (x i : Operand) : z3 P (⟨d, .indexAddr t x i, none⟩ :: r) K a L = qh (a.ev x) fun x => qh (a.ev i) fun i => qh (jV P L t x i) fun v => z3 P r K (a.put d v) L := rfl
theorem acS (t : TypeId) (x i : Operand) : z3 P (⟨d, .index t x i, none⟩ :: r) K a L = qh (a.ev x) fun x => qh (a.ev i) fun i => qh (Jg P t x i) fun v => z3 P r K (a.put d v) L := rfl
theorem a7d (x : Operand) (i : Nat) : z3 P (⟨d, .extract x i, none⟩ :: r) K a L = qh (a.ev x) fun x => qh (yJ x i) fun v => z3 P r K (a.put d v) L := rfl
theorem a5h (x : Operand) : z3 P (⟨d, .nilCheck x, none⟩ :: r) K a L = qh (a.ev x) fun x => qh (onD L 0 x) fun v => z3 P r K (a.put d v) L := rfl
theorem aeO (t : TypeId) (x : Operand) : z3 P (⟨d, .load t x, none⟩ :: r) K a L = qh (a.ev x) fun x => qh (jv P L t x) fun v => z3 P r K (a.put d v) L := rfl
theorem abQ (t : TypeId) (x y : Operand) : z3 P (⟨d, .store t x y, none⟩ :: r) K a L = qh (a.ev x) fun x => qh (a.ev y) fun y => qh (ZR P L t x y) fun L' => z3 P r K (a.put d abI) L' := rfl
theorem aed (t : TypeId) (x : Operand) (lo hi mx : Option Operand) : z3 P (⟨d, .slice t x lo hi mx, none⟩ :: r) K a L = qh (a.ev x) fun x => qh (Vr a.ev lo) fun lo => qh (Vr a.ev hi) fun hi => qh (Vr a.ev mx) fun mx => qh (jN P L t x lo hi mx) fun v => z3 P r K (a.put d v) L := rfl
theorem ahQ (t : TypeId) (x : Operand) : z3 P (⟨d, .box t x, none⟩ :: r) K a L = qh (a.ev x) fun x => qh (if is1 x = true ∧ szT P t = some (zl x).length then some (zl x) else none) fun cs => z3 P r K (a.put d (.ptr L.length 0)) (L ++ [.st cs]) := by
 simp only [z3, zB]
 refine vj fun x => ?_
 split
 ·rename_i h; simp [qh, h]
 ·rename_i h; simp only [qh]; exact propext ⟨fun q => h ⟨q.1, q.2.1⟩, fun q => q.elim⟩
theorem acy (t : TypeId) : z3 P (⟨d, .alloc t, none⟩ :: r) K a L = qh (JK P t) fun z => z3 P r K (a.put d (.ptr L.length 0)) (L ++ [.st z]) := rfl
theorem Uj (t : TypeId) (n : Nat) (ps : List (Nat × Operand)) : z3 P (⟨d, .buildSlice t n ps.toArray, none⟩ :: r) K a L = qh (Zc a.ev ps) fun ds => qh (jy P L t n ds) fun p => z3 P r K (a.put d p.1) p.2 := by simp only [z3, zB]
def adg (P : Program) (f : DV) (ds : List DV) (L : List Obj) (K : DV → List Obj → Prop) : Prop := match f with
 | .fn k pre cap => xn P k (pre ++ ds ++ cap) L K
 | _ => False
theorem aeE (k : FuncId) (pre ds cap : List DV) (K : DV → List Obj → Prop) : adg P (.fn k pre cap) ds L K = xn P k (pre ++ ds ++ cap) L K := rfl
theorem afW (f : Operand) (xs : List Operand) (ts : Array TypeId) : z3 P (⟨d, .call ⟨.value f, xs.toArray, ts⟩, none⟩ :: r) K a L = qh (a.ev f) fun f => qh (yx a.ev xs) fun ds => adg P f ds L fun v L' => Wc P r K (a.put d v) L' := by
 simp only [z3, zB]
 refine vj fun f => ?_
 refine vj fun ds => ?_
 cases f <;> rfl
theorem aak (x y : Operand) (ts : List TypeId) : z3 P (⟨d, .call ⟨.builtin .append, #[x, y], ts.toArray⟩, none⟩ :: r) K a L = qh (a.ev x) fun x => qh (a.ev y) fun y => qh (Z5 P ts L x y) fun p => z3 P r K (a.put d p.1) p.2 := by
 simp only [z3, zB, yx, qh]
 cases a.ev x <;> cases a.ev y <;> rfl
theorem ahF (x : Operand) (t : TypeId) : z3 P (⟨d, .call ⟨.builtin .len, #[x], #[t]⟩, none⟩ :: r) K a L = qh (a.ev x) fun x => qh (xm P L t x) fun v => z3 P r K (a.put d v) L := by
 simp only [z3, zB, yx, qh]
 cases a.ev x <;> rfl
theorem ahB (xs : List Operand) (ts : Array TypeId) : z3 P (⟨d, .call ⟨.builtin .min, xs.toArray, ts⟩, none⟩ :: r) K a L = qh (yx a.ev xs) fun ds => qh (wN ds) fun vs => qh (scD (a6z vs)) fun v => z3 P r K (a.put d v) L := by simp only [z3, zB]
theorem ahU (xs : List Operand) (ts : Array TypeId) : z3 P (⟨d, .call ⟨.builtin .max, xs.toArray, ts⟩, none⟩ :: r) K a L = qh (yx a.ev xs) fun ds => qh (wN ds) fun vs => qh (scD (a6t vs)) fun v => z3 P r K (a.put d v) L := by simp only [z3, zB]
theorem ahI : a0z P [] K a L = K a L := rfl
theorem acC (c : C) (r : List (C × List C)) : a0z P ((c, []) :: r) K a L = z3 P [c] (a0z P r K) a L := by simp only [a0z, Zx, true_and]
theorem ahN (c k : C) (ks : List C) (r : List (C × List C)) : a0z P ((c, k :: ks) :: r) K a L = z3 P [c] (fun a L => aeQ (Zx P a L (k :: ks)) (ai2 P r K a L)) a L := rfl
theorem abV : Zx P a L [] = True := rfl
theorem aaj (c : C) (r : List C) : Zx P a L (c :: r) = (ab7 P c a L ∧ Zx P a L r) := rfl
theorem a6s (d : Option Tmp) (o : Op) : ab7 P ⟨d, o, none⟩ a L = Xg P ⟨d, o, none⟩ a L := rfl
theorem a5U (d : Option Tmp) (o : Op) (t : Option Tmp) (want : Bool) : ab7 P ⟨d, o, some (t, want)⟩ a L = zA (KS t want a) (Xg P ⟨d, o, some (t, want)⟩ a L) True := rfl
theorem a5W (t : TypeId) (x : Operand) : KB P (.load t x) a.ev L = (a.ev x).bind (jv P L t) := by
 simp only [KB]; cases a.ev x <;> rfl
theorem a84 (n c : Nat) (l : List (Nat × DV)) (t : Tmp) : a3r ⟨n, c, l⟩ (some t) = qW t l := rfl
end
def a00 (l : List (Nat × DV)) : List Nat → List (Nat × DV)
 | [] => []
 | t :: ts => match qW t l with
  | some d => (t, d) :: a00 l ts
  | none => a00 l ts
def a97 (t : Nat) (o : Option DV) (r : List (Nat × DV)) : List (Nat × DV) := match o with
 | some d => (t, d) :: r
 | none => r
theorem ab9 (l : List (Nat × DV)) : a00 l [] = [] := rfl
theorem a7k (l : List (Nat × DV)) (t : Nat) (ts : List Nat) : a00 l (t :: ts) = a97 t (qW t l) (a00 l ts) := by
 unfold a97; rw [a00]
theorem a8r (t : Nat) (d : DV) (r : List (Nat × DV)) : a97 t (some d) r = (t, d) :: r := rfl
theorem a6x (t : Nat) (r : List (Nat × DV)) : a97 t none r = r := rfl
section
variable (P : Program) (s : List DFx) (Q : DQ) (a : DFrm) (L : List Obj)
theorem afO (e : Exit) : dsx P [] Q e a L = Q e a L := rfl
theorem aiY (y : X) : dsx P (.k y :: s) Q .normal a L = Kg P y (dsx P s Q) a L := rfl
theorem a7C (y : X) (id : Nat) : dsx P (.k y :: s) Q (.exit id) a L = dsx P s Q (.exit id) a L := rfl
theorem a6m (y : X) (l : Nat) : dsx P (.k y :: s) Q (.goto l) a L = dsx P s Q (.goto l) a L := rfl
theorem aaU (id : Nat) : dsx P (.block id :: s) Q .normal a L = dsx P s Q .normal a L := rfl
theorem ul (id id' : Nat) : dsx P (.block id :: s) Q (.exit id') a L = if id' = id then dsx P s Q .normal a L else dsx P s Q (.exit id') a L := rfl
theorem uk (id l : Nat) : dsx P (.block id :: s) Q (.goto l) a L = dsx P s Q (.goto l) a L := rfl
theorem ack (K : DFrm → List Obj → Prop) : dsx P (.loop K :: s) Q .normal a L = K a L := rfl
theorem uQ (K : DFrm → List Obj → Prop) (id : Nat) : dsx P (.loop K :: s) Q (.exit id) a L = dsx P s Q (.exit id) a L := rfl
theorem Ux (K : DFrm → List Obj → Prop) (l : Nat) : dsx P (.loop K :: s) Q (.goto l) a L = dsx P s Q (.goto l) a L := rfl
theorem WX : ∀ s, dsx P s Q .ret a L = Q .ret a L
 | [] => rfl
 | .k _ :: s => WX s
 | .block _ :: s => WX s
 | .loop _ :: s => WX s
 | .scope _ :: s => WX s
theorem abl (J : Nat → DFrm → List Obj → Prop) : dsx P (.scope J :: s) Q .normal a L = dsx P s Q .normal a L := rfl
theorem xh (J : Nat → DFrm → List Obj → Prop) (id : Nat) : dsx P (.scope J :: s) Q (.exit id) a L = dsx P s Q (.exit id) a L := rfl
theorem XZ (J : Nat → DFrm → List Obj → Prop) (l : Nat) : dsx P (.scope J :: s) Q (.goto l) a L = J l a L := rfl
theorem ah7 : y2 P .nil (dsx P s Q) a L = dsx P s Q .normal a L := rfl
theorem ahu : y2 P .ret (dsx P s Q) a L = dsx P s Q .ret a L := rfl
theorem afc (id : Nat) : y2 P (.exit id) (dsx P s Q) a L = dsx P s Q (.exit id) a L := rfl
theorem afv (l : Nat) : y2 P (.goto l) (dsx P s Q) a L = dsx P s Q (.goto l) a L := rfl
theorem ahM (l : List C) (k : X) : y2 P (.reg l k) (dsx P s Q) a L = z3 P l (dsx P (.k k :: s) Q .normal) a L := rfl
theorem afl (l : List (C × List C)) (k : X) : y2 P (.draw l k) (dsx P s Q) a L = a0z P l (dsx P (.k k :: s) Q .normal) a L := rfl
theorem afJ (c : Operand) (x y k : X) : y2 P (.cond c x y k) (dsx P s Q) a L = vO (a.ev c) (Kg P x (dsx P (.k k :: s) Q) a L) (Kg P y (dsx P (.k k :: s) Q) a L) := rfl
theorem aeo (id : Nat) (x k : X) : y2 P (.block id x k) (dsx P s Q) a L = y2 P x (dsx P (.block id :: .k k :: s) Q) a L := rfl
theorem agf (x k : X) : y2 P (.loop x k) (dsx P s Q) a L = adE P x (dsx P (.k k :: s) Q) a L := rfl
theorem aco (x labs k : X) : y2 P (.scope x labs k) (dsx P s Q) a L = a95 P x labs (dsx P (.k k :: s) Q) a L := rfl
theorem abL (l : Nat) (k : X) : y2 P (.label l k) (dsx P s Q) a L = y2 P k (dsx P s Q) a L := rfl
theorem a8k (x : X) (R : DQ) (B : Prop) : vO (some (.p (.v (.bool true)))) (Kg P x R a L) B = Kg P x R a L := by simp [vO]
theorem a3w (x : X) (R : DQ) (A : Prop) : vO (some (.p (.v (.bool false)))) A (Kg P x R a L) = Kg P x R a L := by simp [vO]
end
theorem a3x {o o' : Option DV} {A B : Prop} (h : o = o') : vO o A B = vO o' A B := by rw [h]
theorem aaI (P : Program) (rs : List ResultVar) (Q : DV → List Obj → Prop) (a : DFrm) (L : List Obj) : adQ P rs Q .ret a L = qh (zN P a L rs) fun ds => qh (ZY ds) fun d => Q d L := rfl
theorem a0y (P : Program) (rs : List ResultVar) (Q : DV → List Obj → Prop) (a : DFrm) (L : List Obj) : adQ P rs Q .normal a L = qh (zN P a L rs) fun ds => qh (ZY ds) fun d => Q d L := rfl
theorem a9y (n c : Nat) (l : List (Nat × DV)) (t : Nat) (v : DV) : DFrm.put ⟨n, c, l⟩ (some t) v = if t < n then ⟨n, c, (t, v) :: l⟩ else ⟨n, c, l⟩ := rfl
theorem aba (a : DFrm) (v : DV) : DFrm.put a none v = a := rfl
theorem agh (n c : Nat) (l : List (Nat × DV)) (t : Nat) : DFrm.ev ⟨n, c, l⟩ (.tmp t) = qW t l := rfl
theorem adO (a : DFrm) (f : FuncId) : a.ev (.func f) = some (.fn f [] []) := rfl
theorem aeX (a : DFrm) (k : IntKind) (n : Int) : a.ev (.const (.int k n)) = some (.p (.v (.int k n))) := rfl
theorem acE (a : DFrm) (b : Bool) : a.ev (.const (.bool b)) = some (.p (.v (.bool b))) := rfl
theorem a5E (a : DFrm) (s : ByteArray) : a.ev (.const (.string s)) = some (.p (.v (.string s))) := rfl
theorem a8g (a : DFrm) : a.ev (.const (.pointer none)) = some (.p (.v (.pointer none))) := rfl
theorem a1x (a : DFrm) : a.ev (.const (.slice none 0 0)) = some (.p (.v (.slice none 0 0))) := rfl
theorem a7o (a : DFrm) : a.ev (.const (.map none)) = some (.p (.v (.map none))) := rfl
theorem a56 (a : DFrm) : a.ev (.const .nilFunc) = some (.p (.v .nilFunc)) := rfl
theorem a7U (t t' : Nat) (v : DV) (r : List (Nat × DV)) : qW t ((t', v) :: r) = if t' = t then some v else qW t r := rfl
theorem aaG (t : Nat) : qW t [] = none := rfl
theorem aan (k : Nat) : jY k [] = [] := rfl
theorem a6G (k : Nat) (v : DV) (l : List DV) : jY k (v :: l) = (k, v) :: jY (k + 1) l := rfl
theorem ac5 (ρ : JD) : yx ρ [] = some [] := rfl
theorem abh (ρ : JD) (x : Operand) (l : List Operand) : yx ρ (x :: l) = match ρ x, yx ρ l with | some v, some vs => some (v :: vs) | _, _ => none := rfl
theorem aa1 (ρ : JD) : Zc ρ [] = some [] := rfl
theorem a7W (ρ : JD) (i : Nat) (x : Operand) (l : List (Nat × Operand)) : Zc ρ ((i, x) :: l) = match ρ x, Zc ρ l with | some v, some vs => some ((i, v) :: vs) | _, _ => none := rfl
theorem US (ρ : JD) : Vr ρ none = some none := rfl
theorem aar (ρ : JD) (x : Operand) : Vr ρ (some x) = match ρ x with | some d => (wp d).map some | none => none := rfl
theorem aag (P : Program) (a : DFrm) (L : List Obj) : zN P a L [] = some [] := rfl
theorem a7r (P : Program) (a : DFrm) (L : List Obj) (x : ResultVar) (r : List ResultVar) : zN P a L (x :: r) = match wg P a L x, zN P a L r with | some v, some vs => some (v :: vs) | _, _ => none := rfl
theorem abX (P : Program) (n c : Nat) (l : List (Nat × DV)) (L : List Obj) (t : Nat) : wg P ⟨n, c, l⟩ L (.tmp t) = qW t l := rfl
theorem abq (P : Program) (n c : Nat) (l : List (Nat × DV)) (L : List Obj) (p : Nat) (t : TypeId) : wg P ⟨n, c, l⟩ L (.cell p t) = match qW p l with | some d => jv P L t d | none => none := rfl
theorem aaY (d : DV) : ZY [d] = some d := rfl
theorem abk : ZY [] = some (.tup []) := rfl
theorem ab5 (d e : DV) (l : List DV) : ZY (d :: e :: l) = if (d :: e :: l).all is1 then some (.tup (d :: e :: l)) else none := rfl
theorem a9C (n c : Nat) (l : List (Nat × DV)) (t : Tmp) (want : Bool) : KS (some t) want ⟨n, c, l⟩ = match qW t l with | some (.p (.v (.bool b))) => some (if want then b else !b) | some (.tup _) => some false | _ => none := rfl
theorem a8y (x y : Option DV) : Kn (some (.p (.v (.bool true)))) x y = x := rfl
theorem a5a (x y : Option DV) : Kn (some (.p (.v (.bool false)))) x y = y := rfl
theorem a87 (b u v : Bool) : Kn (some (.p (.v (.bool b)))) (some (.p (.v (.bool u)))) (some (.p (.v (.bool v)))) = some (.p (.v (.bool (if b then u else v)))) := by cases b <;> rfl
theorem aib (x : Value) : wp (.p (.v x)) = some x := rfl
theorem ady (xs : List DV) : wp (.agg xs) = (yk xs).map fun l => .agg l.toArray := rfl
theorem a9L : yk [] = some [] := rfl
theorem a6e (x : Value) (l : List DV) : yk (.p (.v x) :: l) = (yk l).map (x :: ·) := rfl
theorem a79 : wN [] = some [] := rfl
theorem a5B (d : DV) (l : List DV) : wN (d :: l) = match wp d, wN l with | some v, some vs => some (v :: vs) | _, _ => none := rfl
theorem ahz (k : IntKind) (n : Int) : scD (some (.int k n)) = some (.p (.v (.int k n))) := rfl
theorem af7 (b : Bool) : scD (some (.bool b)) = some (.p (.v (.bool b))) := rfl
theorem a9s (s : ByteArray) : scD (some (.string s)) = some (.p (.v (.string s))) := rfl
theorem aiv (x : PV) : is1 (.p x) = true := rfl
theorem af3 (i o : Nat) : is1 (.ptr i o) = true := rfl
theorem agZ (i o t q : Nat) : is1 (.ep i o t q) = true := rfl
theorem ah0 (r : List PV) (o : Nat) : is1 (.dp r o) = true := rfl
theorem aeP (i o t q : Nat) : is1 (.ref i o t q) = true := rfl
theorem aen (i o t : Nat) : is1 (.aref i o t) = true := rfl
theorem ah6 (f : FuncId) (x y : List DV) : is1 (.fn f x y) = true := rfl
theorem agk (xs : List DV) : is1 (.agg xs) = true := rfl
theorem acl (x : PV) : zl (.p x) = [.p x] := rfl
theorem a6o (i o : Nat) : zl (.ptr i o) = [.ptr i o] := rfl
theorem a9X (i o t q : Nat) : zl (.ep i o t q) = [.ep i o t q] := rfl
theorem aa5 (r : List PV) (o : Nat) : zl (.dp r o) = [.dp r o] := rfl
theorem a8l (i o t q : Nat) : zl (.ref i o t q) = [.ref i o t q] := rfl
theorem a3n (i o t : Nat) : zl (.aref i o t) = [.aref i o t] := rfl
theorem ab3 (f : FuncId) (x y : List DV) : zl (.fn f x y) = [.fn f x y] := rfl
theorem a7D (xs : List DV) : zl (.agg xs) = xs := rfl
theorem a29 (cs : List DV) (i : Nat) : kq cs i [] = cs := rfl
theorem Uq (cs : List DV) (i : Nat) (v : DV) (r : List DV) : kq cs i (v :: r) = kq (cs.set i v) (i + 1) r := rfl
theorem a2u (cs : List PV) (i : Nat) : kK cs i [] = cs := rfl
theorem Ud (cs : List PV) (i : Nat) (v : PV) (r : List PV) : kK cs i (v :: r) = kK (cs.set i v) (i + 1) r := rfl
theorem aeZ : pvs [] = some [] := rfl
theorem acu (x : PV) (l : List DV) : pvs (.p x :: l) = (pvs l).map (x :: ·) := rfl
theorem aft (P : Program) (op : BinOp) (t : TypeId) (x y : Value) : wB P op t (.p (.v x)) (.p (.v y)) = scD (qZ P op t x y) := rfl
theorem ac3 (P : Program) (op : BinOp) (t : TypeId) (i o : Nat) : wB P op t (.ptr i o) (.p (.v (.pointer none))) = scD (qZ P op t (.pointer (some ⟨0, 0, none⟩)) (.pointer none)) := rfl
theorem af6 (P : Program) (op : BinOp) (t : TypeId) (r : List PV) (o : Nat) : wB P op t (.dp r o) (.p (.v (.pointer none))) = scD (qZ P op t (.pointer (some ⟨0, 0, none⟩)) (.pointer none)) := rfl
theorem agp (P : Program) (op : BinOp) (t : TypeId) (z : Nat) (r : List PV) (l : List (List PV)) : wB P op t (.p (.sl z (r :: l))) (.p (.v (.slice none 0 0))) = scD (qZ P op t (.slice (some ⟨0, 0, none⟩) 1 0) (.slice none 0 0)) := rfl
theorem aev (P : Program) (op : BinOp) (t : TypeId) (xs ys : List DV) : wB P op t (.agg xs) (.agg ys) = match (yk xs).map (fun l => Value.agg l.toArray), (yk ys).map (fun l => Value.agg l.toArray) with
 | some x, some y => scD (qZ P op t x y)
 | none, some y => none
 | some x, none => none
 | none, none => none := by
 unfold wB
 simp only [wp, Kb]
 cases (yk xs).map (fun l => Value.agg l.toArray) <;> cases hy : (yk ys).map (fun l => Value.agg l.toArray) <;> simp only <;> split <;> rfl
theorem ab4 (P : Program) (L : List Obj) (t : TypeId) (id off : Nat) : jv P L t (.ptr id off) = match L[id]? with | some (.st cells) => ye P t cells off | _ => none := rfl
theorem abJ (P : Program) (L : List Obj) (t : TypeId) (id i off tot : Nat) : jv P L t (.ep id i off tot) = match zG L id tot with | some rows => (match rows[i]? with | some row => ye P t (row.map .p) off | none => none) | none => none := rfl
theorem aeD (P : Program) (L : List Obj) (t : TypeId) (row : List PV) (off : Nat) : jv P L t (.dp row off) = ye P t (row.map .p) off := rfl
theorem a6b (P : Program) (L : List Obj) (t : TypeId) (id off : Nat) (x : DV) : ZR P L t (.ptr id off) x = match L[id]? with
  | some (.st cells) => if is1 x = true ∧ szT P t = some (zl x).length ∧ off + (zl x).length ≤ cells.length then some (L.set id (.st (kq cells off (zl x)))) else none
  | _ => none := rfl
theorem ahV (L : List Obj) (k id off : Nat) : onD L k (.ptr id off) = some (.ptr id (off + k)) := rfl
theorem aiq (L : List Obj) (k : Nat) (row : List PV) (off : Nat) : onD L k (.dp row off) = some (.dp row (off + k)) := rfl
theorem aip (L : List Obj) (k id i off tot : Nat) : onD L k (.ep id i off tot) = match zG L id tot with | some _ => some (.ep id i (off + k) tot) | none => none := rfl
theorem agb (L : List Obj) (id tot : Nat) : zG L id tot = match L[id]? with | some (.li _ rows) => if rows.length = tot then some rows else none | some (.fz _ rows) => if rows.length = tot then some rows else none | _ => none := rfl
theorem ada (xs : List DV) (i : Nat) : yJ (.tup xs) i = xs[i]? := rfl
theorem a7b (k : FuncId) (a b : List DV) : vx (.func k) (some a) (some b) = if a.all K2 && b.all K2 then some (.fn k a b) else none := rfl
theorem aht (x : PV) : K2 (.p x) = true := rfl
theorem aee (i o : Nat) : K2 (.ptr i o) = true := rfl
theorem ae5 (i o t q : Nat) : K2 (.ref i o t q) = true := rfl
open Go.RowKit
section
variable {P : Program}
theorem aaD (pl : Nat → Option (Nat × Nat)) (cs : List DV) : JS pl cs [] = some cs := rfl
theorem a7V (pl : Nat → Option (Nat × Nat)) (cs : List DV) (i : Nat) (v : DV) (r : List (Nat × DV)) : JS pl cs ((i, v) :: r) = match pl i with
  | none => none
  | some (off, sz) => if is1 v = true ∧ (zl v).length = sz ∧ off + sz ≤ cs.length then JS pl (kq cs off (zl v)) r else none := rfl
def aiR (L : List Obj) (e : TypeId) (b : Nat) (o : Option (List (List PV))) : Option (DV × List Obj) := match o with
 | some ys => if ys.length ≤ 9223372036854775807 ∧ ys.length * b ≤ 140737488355328 then some (.ref L.length 0 ys.length ys.length, L ++ [.li (if ys.length = 0 then none else some e) ys]) else none
 | none => none
def aiT (L : List Obj) (e : TypeId) (b id lo n tot : Nat) (q : Option Obj) (o : Option (List (List PV))) : Option (DV × List Obj) := match o, q with
 | some ys, some (.li te rows) => if lo = 0 ∧ rows.length = tot ∧ n = tot ∧ (te = none ∨ te = some e) ∧ n + ys.length ≤ 9223372036854775807 ∧ (n + ys.length) * b ≤ 140737488355328 then some (.ref id 0 (n + ys.length) (n + ys.length), L.set id (.li (if ys.length = 0 then te else some e) (rows ++ ys))) else none
 | _, _ => none
theorem a5G (L : List Obj) (e : TypeId) (b : Nat) (ys : List (List PV)) : aiR L e b (some ys) = if ys.length ≤ 9223372036854775807 ∧ ys.length * b ≤ 140737488355328 then some (.ref L.length 0 ys.length ys.length, L ++ [.li (if ys.length = 0 then none else some e) ys]) else none := rfl
theorem a7S (L : List Obj) (e : TypeId) (b id lo n tot : Nat) (te : Option TypeId) (rows ys : List (List PV)) : aiT L e b id lo n tot (some (.li te rows)) (some ys) = if lo = 0 ∧ rows.length = tot ∧ n = tot ∧ (te = none ∨ te = some e) ∧ n + ys.length ≤ 9223372036854775807 ∧ (n + ys.length) * b ≤ 140737488355328 then some (.ref id 0 (n + ys.length) (n + ys.length), L.set id (.li (if ys.length = 0 then te else some e) (rows ++ ys))) else none := rfl
def slP (s : Nat) (rows : List (List PV)) : Nat × Nat × Option Nat → Option DV
 | (l, r, none) => some (.p (.sl s ((rows.drop l).take (r - l))))
 | _ => none
def slR (id a tot : Nat) : Nat × Nat × Option Nat → Option DV
 | (l, r, _) => some (.ref id (a + l) (r - l) tot)
def slA (id off n s : Nat) : Nat × Nat × Option Nat → Option DV
 | (l, r, none) => if l < n then some (.aref id (off + l * s) (r - l)) else none
 | _ => none
def aj5 (id off n s : Nat) : Nat × Nat × Option Nat → Option DV
 | (l, r, none) => if l < n ∧ n ≤ maxLen then some (.aref id (off + l * s) (r - l)) else none
 | _ => none
theorem adL (s : Nat) (rows : List (List PV)) (l r : Nat) : slP s rows (l, r, none) = some (.p (.sl s ((rows.drop l).take (r - l)))) := rfl
theorem adk (id a tot l r : Nat) (m : Option Nat) : slR id a tot (l, r, m) = some (.ref id (a + l) (r - l) tot) := rfl
theorem aeg (id off n s l r : Nat) : slA id off n s (l, r, none) = if l < n then some (.aref id (off + l * s) (r - l)) else none := rfl
theorem aaL (id off n s l r : Nat) : aj5 id off n s (l, r, none) = if l < n ∧ n ≤ maxLen then some (.aref id (off + l * s) (r - l)) else none := rfl
theorem agx {α β : Type} {c : Prop} {dc : Decidable c} (x : α) (f : α → Option β) : (if c then some x else none).bind f = if c then f x else none := by split <;> rfl
theorem abN {α β : Type} (x : α) (f : α → Option β) : (some x).bind f = f x := rfl
theorem ahR (n c : Nat) (k : IntKind) (l : Int) : qE n c (some (.int k l)) none none = if 0 ≤ l ∧ l ≤ n then some (l.toNat, n, none) else none := by
 unfold qE
 simp only [kR]
 by_cases h : 0 ≤ l
 ·simp only [h, if_true, true_and]
  by_cases h2 : l ≤ n
  ·rw [if_pos h2, if_pos (by omega)]
  ·rw [if_neg h2, if_neg (by omega)]
 ·simp [h]
theorem ai9 (n c : Nat) (k : IntKind) (r : Int) : qE n c none (some (.int k r)) none = if 0 ≤ r ∧ r ≤ c then some (0, r.toNat, none) else none := by
 unfold qE
 simp only [kR]
 by_cases h : 0 ≤ r
 ·simp only [h, if_true, true_and]
  by_cases h2 : r ≤ c
  ·rw [if_pos h2, if_pos (by omega)]
  ·rw [if_neg h2, if_neg (by omega)]
 ·simp [h]
theorem ae4 (n c : Nat) (k k' : IntKind) (l r : Int) : qE n c (some (.int k l)) (some (.int k' r)) none = if 0 ≤ l ∧ l ≤ r ∧ r ≤ c then some (l.toNat, r.toNat, none) else none := by
 unfold qE
 simp only [kR]
 by_cases h : 0 ≤ r
 ·simp only [h, if_true]
  by_cases h2 : r ≤ c
  ·rw [if_pos (show r.toNat ≤ c by omega)]
   by_cases h3 : 0 ≤ l
   ·simp only [h3, if_true, true_and]
    by_cases h4 : l ≤ r
    ·rw [if_pos (by omega), if_pos ⟨h4, h2⟩]
    ·rw [if_neg (by omega), if_neg (by omega)]
   ·simp [h3]
  ·rw [if_neg (by omega), if_neg (by omega)]
 ·rw [if_neg (by omega)]; simp [h]; omega
theorem ahx (n c : Nat) : qE n c none none none = some (0, n, none) := rfl
theorem a0V (z : Nat) (rows : List (List PV)) : wo z rows [] = some rows := rfl
theorem Ut (z : Nat) (rows : List (List PV)) (i : Nat) (d : DV) (r : List (Nat × DV)) : wo z rows ((i, d) :: r) = if is1 d = true ∧ i < rows.length then match pvs (zl d) with
   | some ps => if ps.length = z then wo z (rows.set i ps) r else none
   | none => none
  else none := rfl
end
theorem acx (A : Prop) : zA (some true) A True = A := by simp [zA]
theorem adY (A : Prop) : zA (some false) A True = True := by simp [zA]
attribute [congr] a5s a3x
attribute [go_sem ↓] ab9 a7k a8r a6x qD ahc adR a4U a0W ag8 abA afP aeF acB a1i ag9 abO a6V a4T a2t acS a7d a5h aeO abQ aed ahQ acy Uj afW aeE aak ahF ahB ahU
 ahI acC ahN abV aaj a6s a5U
 afO aiY a7C a6m aaU ul uk ack uQ Ux abl xh XZ WX
 ah7 ahu afc afv ahM afl afJ aeo agf aco abL a8k a3w aaI a0y
attribute [push_cast] a5W a84 acx adY a9y aba agh adO aeX acE a5E a8g a1x a7o a56 a7U aaG aan a6G ac5 abh aa1 a7W US aar aag a7r abX abq aaY abk ab5 a9C
 a8y a5a a87 aib ady a9L a6e a79 a5B ahz af7 a9s aiv af3 agZ ah0 aeP aen ah6 agk acl a6o a9X aa5 a8l a3n ab3 a7D a29 Uq a2u Ud aeZ acu
 aft ac3 af6 agp aev ab4 abJ aeD a6b ahV aiq aip agb ada a7b aht aee ae5 aaD a7V a5G a7S adL adk aeg aaL agx abN ahR ai9 ae4 ahx a0V Ut
 List.getElem?_cons_zero List.getElem?_cons_succ List.getElem?_nil List.length_cons List.length_nil List.map_cons List.map_nil List.set_cons_zero List.set_cons_succ List.all_cons List.all_nil List.nil_append List.cons_append List.append_nil List.length_append List.length_set Option.map_some Option.map_none Option.bind_some Option.bind_none List.length_replicate List.replicate_succ List.replicate_zero Nat.zero_le
open Go.RowKit
def a9V (L : List Obj) (sel : Sel) : Option Nat → Obj → Prop
 | none, o' => o' = .li none []
 | some k, o' => match L[k]? with
  | some o => unO sel o' o
  | none => False
theorem SelOk.of {L L' : List Obj} {sel : Sel} (h : All2 (a9V L sel) sel L') (hn : (sel.filterMap id).Nodup) : SelOk L sel L' := by
 refine ⟨h.length, fun i j k e1 e2 => ?_, fun i k o' e1 e2 => ?_, fun i o' e1 e2 => ?_⟩
 ·clear h
  induction sel generalizing i j with
  | nil => simp at e1
  | cons s sel ih =>
   have hmem : ∀ (m : Nat), sel[m]? = some (some k) → k ∈ sel.filterMap id := fun m e => List.mem_filterMap.2 ⟨some k, List.mem_of_getElem? e, rfl⟩
   have hn' : (sel.filterMap id).Nodup := by
    cases s with
    | none => simpa using hn
    | some q => rw [List.filterMap_cons_some (by rfl)] at hn; exact (List.nodup_cons.1 hn).2
   have hno : ∀ m, s = some k → sel[m]? = some (some k) → False := fun m e e' => by
    subst e
    rw [List.filterMap_cons_some (by rfl)] at hn
    exact (List.nodup_cons.1 hn).1 (hmem m e')
   cases i with
   | zero =>
    cases j with
    | zero => rfl
    | succ j => exact (hno j (by simpa using e1) (by simpa using e2)).elim
   | succ i =>
    cases j with
    | zero => exact (hno i (by simpa using e2) (by simpa using e1)).elim
    | succ j => rw [ih hn' i j (by simpa using e1) (by simpa using e2)]
 ·obtain ⟨o2, e3, r⟩ := h.get e1
  rw [e2] at e3; cases e3
  unfold a9V at r
  simp only at r
  split at r
  ·rename_i o ho; exact ⟨o, ho, r⟩
  ·exact r.elim
 ·obtain ⟨o2, e3, r⟩ := h.get e1
  rw [e2] at e3; cases e3
  exact r
def wkL (P : Program) (L : List Obj) (sel : Sel) (l : List (Nat × DV)) : List (Nat × DV) → Prop
 | [] => True
 | (t, d') :: r => (match qW t l with | some d => wkD P L sel d' d | none => False) ∧ wkL P L sel l r
def ahE : Option Obj → Bool
 | some (.st _) => true
 | _ => false
def vZ (c : Nat) (L : List Obj) (sel : Sel) : Bool := (List.range c).all fun id => !ahE L[id]? || sel[id]? == some (some id)
theorem xH {c : Nat} {L : List Obj} {sel : Sel} (h : vZ c L sel = true) (id : Nat) (hid : id < c) (hs : ∃ cs, L[id]? = some (.st cs)) : sel[id]? = some (some id) := by
 have := List.all_eq_true.1 h id (List.mem_range.2 hid)
 obtain ⟨cs, hs⟩ := hs
 rw [hs] at this
 simpa [ahE] using this
theorem aao {P : Program} {n c : Nat} {l l' : List (Nat × DV)} {L L' : List Obj} (sel : Sel) (h1 : All2 (a9V L sel) sel L') (h2 : (sel.filterMap id).Nodup) (h3 : vZ c L sel = true) (h4 : wkL P L sel l l') : wkS P ⟨n, c, l⟩ L l' L' := by
 refine ⟨sel, SelOk.of h1 h2, xH h3, ?_⟩
 ·clear h1 h2 h3
  induction l' with
  | nil => intro p hp; simp at hp
  | cons q r ih =>
   obtain ⟨t, d'⟩ := q
   obtain ⟨h5, h6⟩ := h4
   intro p hp
   rcases List.mem_cons.1 hp with rfl | hp
   ·simp only
    cases hd : qW t l with
    | none => rw [hd] at h5; exact h5.elim
    | some d => rw [hd] at h5; exact ⟨d, rfl, h5⟩
   ·exact ih h6 p hp
theorem afE {P : Program} {c : Nat} {Q : DV → List Obj → Prop} {r : DV} {L : List Obj} (sel : Sel) (r' : DV) (A' : List Obj) (h1 : All2 (a9V L sel) sel A') (h2 : (sel.filterMap id).Nodup) (h3 : vZ c L sel = true) (h : wkD P L sel r' r) (hq : Q r' A') : aaE P c Q r L :=
 ⟨sel, r', A', SelOk.of h1 h2, xH h3, h, hq⟩
section
variable (P : Program) (L : List Obj) (sel : Sel)
theorem agw (z : Nat) (rows : List (List PV)) (id lo n tot : Nat) : wkC P L sel (.p (.sl z rows)) (.ref id lo n tot) = (some id ∉ sel ∧ ∃ rs, zG L id tot = some rs ∧ rows = (rs.drop lo).take n ∧ ∀ te, L[id]?.bind wj = some te → szT P te = some z) := rfl
theorem ahY (z z' : Nat) (r r' : List (List PV)) : wkC P L sel (.p (.sl z r)) (.p (.sl z' r')) = (z = z' ∧ r = r') := by
 unfold wkC unX; simp [unC, unB]
theorem ahW (z z' : Nat) (r r' : List (List PV)) : unX sel (.p (.sl z r)) (.p (.sl z' r')) = (z = z' ∧ r = r') := by
 unfold unX; simp [unC, unB]
end
theorem aho (sel : Sel) (e e' : Option TypeId) (r r' : List (List PV)) : unO sel (.li e r) (.li e' r') = (e = e' ∧ QS r r') := rfl
theorem ahf (sel : Sel) (c c' : List DV) : unO sel (.st c) (.st c') = All2 (unX sel) c c' := rfl
open Go.RowKit
section
variable {P : Program} {γ γ' : Pl} {L L' : List Obj} {h : Heap} {S S' : Nat → Prop} {sel : Sel}
structure Ren (γ : Pl) (L : List Obj) (sel : Sel) (γ' : Pl) (L' : List Obj) : Prop where
 at' : ∀ (i k : Nat), sel[i]? = some (some k) → γ' i = γ k
 lt : ∀ (i k : Nat), sel[i]? = some (some k) → i < L'.length
 st : ∀ (i k : Nat) (c : List DV), sel[i]? = some (some k) → L[k]? = some (.st c) → ∃ c', L'[i]? = some (.st c')
 li : ∀ (i k : Nat) (o' : Obj) (rows : List (List PV)), sel[i]? = some (some k) → L'[i]? = some o' → o'.isList rows → ∃ o, L[k]? = some o ∧ o.isList rows
def kU (sel : Sel) (d' : DV) : Option DV := match d' with
 | .ref id lo n tot => match sel[id]? with
  | some (some k) => some (.ref k lo n tot)
  | _ => none
 | .cx _ _ => none
 | .mref _ => none
 | d => unB sel d
def kB (sel : Sel) : List DV → Option (List DV)
 | [] => some []
 | d :: l => match kU sel d, kB sel l with
  | some d, some l => some (d :: l)
  | _, _ => none
def yW (sel : Sel) : DV → Option DV
 | .fn f pre cap => match kB sel pre, kB sel cap with
  | some a, some b => some (.fn f a b)
  | _, _ => none
 | d => kU sel d
def yQ (sel : Sel) : List DV → Option (List DV)
 | [] => some []
 | d :: l => match yW sel d, yQ sel l with
  | some d, some l => some (d :: l)
  | _, _ => none
def Vs (sel : Sel) : DV → Option DV
 | .agg xs => (yQ sel xs).map .agg
 | d => yW sel d
def WS (sel : Sel) : List DV → Option (List DV)
 | [] => some []
 | d :: l => match Vs sel d, WS sel l with
  | some d, some l => some (d :: l)
  | _, _ => none
def a1M (sel : Sel) : DV → Option DV
 | .tup xs => (WS sel xs).map .tup
 | d => Vs sel d
theorem a8e (hs : ∀ b, S b → S' b) {x : PV} {v : Value} (hx : PR P S h x v) : PR P S' h x v := hx.mono fun _ hb => ⟨hs _ hb, rfl⟩
theorem adH (hs : ∀ b, S b → S' b) (R : Ren γ L sel γ' L') {d' d : DV} {v : Value} (e : kU sel d' = some d) (hd : DB P S γ L h d v) : DB P S' γ' L' h d' v := by
 cases d' with
 | p x => cases e; exact a8e hs hd
 | dp row off =>
  cases e
  obtain ⟨b, o, cs, te, rw, h1, h2, h3, h4, h5⟩ := hd
  exact ⟨b, o, cs, te, rw, hs b h1, h2, h3, h4, fun j x u a c => a8e hs (h5 j x u a c)⟩
 | ptr id off =>
  unfold kU unB at e
  cases hx : sel[id]? with
  | none => simp only [hx] at e; cases e
  | some s =>
   cases s with
   | none => simp only [hx] at e; cases e
   | some k =>
    simp only [hx] at e; cases e
    obtain ⟨b, h1, ⟨c, h2⟩, h3⟩ := hd
    exact ⟨b, (R.at' _ _ hx).trans h1, R.st _ _ _ hx h2, h3⟩
 | aref id off n =>
  unfold kU unB at e
  cases hx : sel[id]? with
  | none => simp only [hx] at e; cases e
  | some s =>
   cases s with
   | none => simp only [hx] at e; cases e
   | some k =>
    simp only [hx] at e; cases e
    obtain ⟨b, h1, ⟨c, h2⟩, h3⟩ := hd
    exact ⟨b, (R.at' _ _ hx).trans h1, R.st _ _ _ hx h2, h3⟩
 | ep id i off tot =>
  unfold kU unB at e
  cases hx : sel[id]? with
  | none => simp only [hx] at e; cases e
  | some s =>
   cases s with
   | none => simp only [hx] at e; cases e
   | some k =>
    simp only [hx] at e; cases e
    obtain ⟨k1, k2, k3⟩ := hd
    refine ⟨R.lt _ _ hx, k2, fun o' rows e1 e2 => ?_⟩
    obtain ⟨o, g1, g2⟩ := R.li _ _ _ _ hx e1 e2
    rw [R.at' _ _ hx]
    exact k3 o rows g1 g2
 | ref id lo n tot =>
  unfold kU at e
  cases hx : sel[id]? with
  | none => simp only [hx] at e; cases e
  | some s =>
   cases s with
   | none => simp only [hx] at e; cases e
   | some k =>
    simp only [hx] at e; cases e
    obtain ⟨k1, k2, k3⟩ := hd
    refine ⟨R.lt _ _ hx, k2, fun o' rows e1 e2 => ?_⟩
    obtain ⟨o, g1, g2⟩ := R.li _ _ _ _ hx e1 e2
    unfold agl
    rw [R.at' _ _ hx]
    exact k3 o rows g1 g2
 | cx => cases e
 | mref => cases e
 | fn => cases e
 | agg => cases e
 | tup => cases e
theorem a2c (hs : ∀ b, S b → S' b) (R : Ren γ L sel γ' L') : ∀ {ds' ds : List DV} {vs : List Value}, kB sel ds' = some ds → All2 (DB P S γ L h) ds vs → All2 (DB P S' γ' L' h) ds' vs
 | [], _, _, e, hd => by cases e; cases hd; exact .nil
 | d' :: ds', _, _, e, hd => by
  unfold kB at e
  cases h1 : kU sel d' with
  | none => simp only [h1] at e; cases e
  | some d =>
   cases h2 : kB sel ds' with
   | none => simp only [h1, h2] at e; cases e
   | some ds =>
    simp only [h1, h2] at e; cases e
    cases hd with
    | cons a b => exact .cons (adH hs R h1 a) (a2c hs R h2 b)
theorem wM {d d' : DV} (e : kU sel d' = some d) : (∀ f a b, d ≠ .fn f a b) ∧ (∀ xs, d ≠ .agg xs) ∧ ∀ xs, d ≠ .tup xs := by
 cases d' <;> (simp only [kU, unB] at e) <;> (try (repeat' split at e)) <;> cases e <;> exact ⟨fun _ _ _ h => (by cases h), fun _ h => (by cases h), fun _ h => (by cases h)⟩
theorem ach (hs : ∀ b, S b → S' b) (R : Ren γ L sel γ' L') {d' d : DV} {v : Value} (e : yW sel d' = some d) (hd : DC P S γ L h d v) : DC P S' γ' L' h d' v := by
 have key : ∀ d', (∀ f a b, d' ≠ .fn f a b) → kU sel d' = some d → DC P S' γ' L' h d' v := by
  intro d' hn e
  have hb : DB P S γ L h d v := by
   have := wM e
   cases d <;> first | exact hd | exact absurd rfl (this.1 _ _ _) | exact hd.elim
  have := adH hs R e hb
  cases d' <;> first | exact this | exact absurd rfl (hn _ _ _)
 cases d' with
 | fn f pre cap =>
  unfold yW at e
  cases h1 : kB sel pre with
  | none => simp only [h1] at e; cases e
  | some p =>
   cases h2 : kB sel cap with
   | none => simp only [h1, h2] at e; cases e
   | some c =>
    simp only [h1, h2] at e; cases e
    obtain ⟨as, bs, rfl, a1, a2⟩ := hd
    exact ⟨as, bs, rfl, a2c hs R h1 a1, a2c hs R h2 a2⟩
 | _ => exact key _ (by intro f a b e; cases e) e
theorem a1u (hs : ∀ b, S b → S' b) (R : Ren γ L sel γ' L') : ∀ {ds' ds : List DV} {vs : List Value}, yQ sel ds' = some ds → All2 (DC P S γ L h) ds vs → All2 (DC P S' γ' L' h) ds' vs
 | [], _, _, e, hd => by cases e; cases hd; exact .nil
 | d' :: ds', _, _, e, hd => by
  unfold yQ at e
  cases h1 : yW sel d' with
  | none => simp only [h1] at e; cases e
  | some d =>
   cases h2 : yQ sel ds' with
   | none => simp only [h1, h2] at e; cases e
   | some ds =>
    simp only [h1, h2] at e; cases e
    cases hd with
    | cons a b => exact .cons (ach hs R h1 a) (a1u hs R h2 b)
theorem jZ {d d' : DV} (e : yW sel d' = some d) : (∀ xs, d ≠ .agg xs) ∧ ∀ xs, d ≠ .tup xs := by
 cases d' with
 | fn f pre cap =>
  simp only [yW] at e
  split at e
  ·cases e; exact ⟨fun _ h => (by cases h), fun _ h => (by cases h)⟩
  ·cases e
 | agg xs => cases e
 | tup xs => cases e
 | p x => exact (wM (sel := sel) (d' := .p x) e).2
 | ptr x y => exact (wM (sel := sel) (d' := .ptr x y) e).2
 | ep x y z w => exact (wM (sel := sel) (d' := .ep x y z w) e).2
 | dp x y => exact (wM (sel := sel) (d' := .dp x y) e).2
 | ref x y z w => exact (wM (sel := sel) (d' := .ref x y z w) e).2
 | aref x y z => exact (wM (sel := sel) (d' := .aref x y z) e).2
 | mref x => cases e
 | cx x y => cases e
theorem aca (hs : ∀ b, S b → S' b) (R : Ren γ L sel γ' L') {d' d : DV} {v : Value} (e : Vs sel d' = some d) (hd : D1 P S γ L h d v) : D1 P S' γ' L' h d' v := by
 have key : ∀ d', (∀ xs, d' ≠ .agg xs) → yW sel d' = some d → D1 P S' γ' L' h d' v := by
  intro d' hn e
  exact QP (ach hs R e (QX hd (jZ e).1))
 cases d' with
 | agg xs =>
  simp only [Vs] at e
  cases h1 : yQ sel xs with
  | none => rw [h1] at e; cases e
  | some ys =>
   rw [h1] at e; cases e
   obtain ⟨vs, rfl, a1⟩ := hd
   exact ⟨vs, rfl, a1u hs R h1 a1⟩
 | _ => exact key _ (by intro xs e; cases e) e
theorem a8V (hs : ∀ b, S b → S' b) (R : Ren γ L sel γ' L') : ∀ {ds' ds : List DV} {vs : List Value}, WS sel ds' = some ds → All2 (D1 P S γ L h) ds vs → All2 (D1 P S' γ' L' h) ds' vs
 | [], _, _, e, hd => by cases e; cases hd; exact .nil
 | d' :: ds', _, _, e, hd => by
  unfold WS at e
  cases h1 : Vs sel d' with
  | none => simp only [h1] at e; cases e
  | some d =>
   cases h2 : WS sel ds' with
   | none => simp only [h1, h2] at e; cases e
   | some ds =>
    simp only [h1, h2] at e; cases e
    cases hd with
    | cons a b => exact .cons (aca hs R h1 a) (a8V hs R h2 b)
theorem agt {d d' : DV} (e : Vs sel d' = some d) : ∀ xs, d ≠ .tup xs := by
 cases d' with
 | agg xs =>
  simp only [Vs] at e
  cases h1 : yQ sel xs with
  | none => rw [h1] at e; cases e
  | some ys => rw [h1] at e; cases e; exact fun _ h => (by cases h)
 | tup xs => cases e
 | p x => exact (jZ (sel := sel) (d' := .p x) e).2
 | ptr x y => exact (jZ (sel := sel) (d' := .ptr x y) e).2
 | ep x y z w => exact (jZ (sel := sel) (d' := .ep x y z w) e).2
 | dp x y => exact (jZ (sel := sel) (d' := .dp x y) e).2
 | ref x y z w => exact (jZ (sel := sel) (d' := .ref x y z w) e).2
 | aref x y z => exact (jZ (sel := sel) (d' := .aref x y z) e).2
 | mref x => cases e
 | cx x y => cases e
 | fn x y z => exact (jZ (sel := sel) (d' := .fn x y z) e).2
theorem ad6 (hs : ∀ b, S b → S' b) (R : Ren γ L sel γ' L') {d' d : DV} {v : Value} (e : a1M sel d' = some d) (hd : DR P S γ L h d v) : DR P S' γ' L' h d' v := by
 have key : ∀ d', (∀ xs, d' ≠ .tup xs) → Vs sel d' = some d → DR P S' γ' L' h d' v := by
  intro d' hn e
  have h1 : D1 P S γ L h d v := by
   have := agt e
   cases d <;> first | exact hd | exact absurd rfl (this _)
  exact jl (aca hs R e h1)
 cases d' with
 | tup xs =>
  simp only [a1M] at e
  cases h1 : WS sel xs with
  | none => rw [h1] at e; cases e
  | some ys =>
   rw [h1] at e; cases e
   obtain ⟨vs, rfl, a1⟩ := hd
   exact ⟨vs, rfl, a8V hs R h1 a1⟩
 | _ => exact key _ (by intro xs e; cases e) e
def Wi (sel : Sel) : Obj → Obj → Prop
 | .st cells, .st cells' => yQ sel cells = some cells'
 | .li e rows, .li e' rows' => e = e' ∧ rows = rows'
 | .fz e rows, .fz e' rows' => e = e' ∧ rows = rows'
 | .dead, .dead => True
 | _, _ => False
theorem Z9 {o' o : Obj} (e : Wi sel o' o) : o'.owns = o.owns := by
 cases o' <;> cases o <;> first | exact e.elim | rfl | (obtain ⟨rfl, rfl⟩ := e; rfl)
theorem a0j {o' o : Obj} {rows : List (List PV)} (e : Wi sel o' o) (hl : o'.isList rows) : o.isList rows := by
 cases o' <;> cases o <;> first | exact e.elim | exact hl.elim | (obtain ⟨rfl, rfl⟩ := e; exact hl)
theorem UD (hs : ∀ b, S b → S' b) {b q : Nat} {te : TypeId} {rows : List (List PV)} (hr : Rows P S h b q te rows) : Rows P S' h b q te rows := by
 obtain ⟨cs, z, a1, a2, a3, a4, a5, a6, a7⟩ := hr
 exact ⟨cs, z, a1, a2, a3, a4, a5, a6, fun i r j x u b1 b2 b3 => a8e hs (a7 i r j x u b1 b2 b3)⟩
theorem acP (hs : ∀ b, S b → S' b) (R : Ren γ L sel γ' L') {i k : Nat} {o' o : Obj} (hi : sel[i]? = some (some k)) (e : Wi sel o' o) (ho : OR P S γ L h k o) : OR P S' γ' L' h i o' := by
 cases o' with
 | st cells =>
  cases o with
  | st cells' =>
   obtain ⟨b, te, vs, g1, g2, g3⟩ := ho
   exact ⟨b, te, vs, (R.at' _ _ hi).trans g1, g2, a1u hs R e g3⟩
  | _ => exact e.elim
 | li te rows =>
  cases o with
  | li te' rows' =>
   obtain ⟨rfl, rfl⟩ := e
   cases te with
   | none => exact ⟨ho.1, (R.at' _ _ hi).trans ho.2⟩
   | some te =>
    obtain ⟨b, q, g1, g2⟩ := ho
    exact ⟨b, q, (R.at' _ _ hi).trans g1, UD hs g2⟩
  | _ => exact e.elim
 | fz te rows =>
  cases o with
  | fz te' rows' =>
   obtain ⟨rfl, rfl⟩ := e
   cases te with
   | none => exact ⟨ho.1, (R.at' _ _ hi).trans ho.2⟩
   | some te =>
    obtain ⟨b, q, g1, g2, g3⟩ := ho
    exact ⟨b, q, (R.at' _ _ hi).trans g1, hs b g2, UD hs g3⟩
  | _ => exact e.elim
 | mp es => cases o <;> exact e.elim
 | dead => trivial
end
structure Merge (L : List Obj) (sel : List Nat) (A A' : List Obj) (back : Sel) (L2 : List Obj) : Prop where
 len : back.length = L2.length
 le : L.length ≤ L2.length
 kept : ∀ i, i < L.length → i ∉ sel → back[i]? = some none ∧ L2[i]? = L[i]?
 st : ∀ (k i : Nat) (c : List DV), sel[k]? = some i → A[k]? = some (.st c) → back[i]? = some (some k)
 gone : ∀ (k i : Nat), sel[k]? = some i → (∀ c, A[k]? ≠ some (.st c)) → L2[i]? = some .dead ∧ back[i]? = some none
 old : ∀ (i k : Nat), back[i]? = some (some k) → (i ∈ sel ∨ L.length ≤ i) ∧ ∃ o o', A'[k]? = some o ∧ L2[i]? = some o' ∧ Wi back o' o
 new : ∀ i, L.length ≤ i → i < L2.length → ∃ k, back[i]? = some (some k)
 inj : ∀ (i j k : Nat), back[i]? = some (some k) → back[j]? = some (some k) → i = j
section
variable {P : Program} {γ : Pl} {L : List Obj} {h : Heap} {h0 : Heap} {W0 : Ent}
def um (P : Program) (L : List Obj) (sel : Sel) : DV → DV → Prop
 | .p (.sl z rows), .ref id lo n tot => (∃ e rs, L[id]? = some (.fz e rs)) ∧ ∃ rs, zG L id tot = some rs ∧ rows = (rs.drop lo).take n ∧ ∀ te, L[id]?.bind wj = some te → szT P te = some z
 | .p (.sl _ rows), .p (.v (.slice none 0 0)) => rows = []
 | .p (.sl z rows), .cx z' rows' => z = z' ∧ rows = rows'
 | d', d => a1M sel d' = some d
theorem a6J {S' : Nat → Prop} {γ' : Pl} {A : List Obj} {sel : Sel} (H : Hp P h0 W0 γ L h) (hs : ∀ b, qd W0 γ L h b → S' b) (R : Ren γ L sel γ' A) {d d' : DV} {v : Value} (e : um P L sel d' d) (hd : DR P (qd W0 γ L h) γ L h d v) : ∃ u, VW v u ∧ DR P S' γ' A h d' u := by
 unfold um at e
 split at e
 ·rename_i z rows id lo n tot
  obtain ⟨⟨te, rs', e1⟩, rs, e2, rfl, e3⟩ := e
  refine a7p H hd e2 e3 (fun b x hg hlt => ?_) hs
  have ho := H.obj id _ e1
  cases te with
  | none => rw [ho.2] at hg; cases hg
  | some te =>
   obtain ⟨b', o', g', hS, _⟩ := ho
   rw [hg] at g'; cases g'
   exact hs b hS
 ·subst e
  have : v = .slice none 0 0 := PR.scal (P := P) (S := qd W0 γ L h) (h := h) hd
  subst this
  exact ⟨_, .refl _, PR.nil⟩
 ·obtain ⟨rfl, rfl⟩ := e
  obtain ⟨_, ⟨u, rfl, h1, h2⟩ | ⟨_, _, rfl, h2⟩⟩ := hd
  ·exact ⟨u, .exact h1, h2.mono fun b hb => ⟨hs b hb, rfl⟩⟩
  ·exact ⟨_, .refl _, h2.mono fun b hb => ⟨hs b hb, rfl⟩⟩
 ·exact ⟨v, .refl v, ad6 hs R e hd⟩
theorem Ve {S' : Nat → Prop} {γ' : Pl} {A : List Obj} {sel : Sel} (H : Hp P h0 W0 γ L h) (hs : ∀ b, qd W0 γ L h b → S' b) (R : Ren γ L sel γ' A) : ∀ {ds' ds : List DV} {vs : List Value}, All2 (um P L sel) ds' ds → All2 (DR P (qd W0 γ L h) γ L h) ds vs → ∃ us, All2 VW vs us ∧ All2 (DR P S' γ' A h) ds' us
 | _, _, _, .nil, .nil => ⟨[], .nil, .nil⟩
 | _, _, _, .cons e t, .cons hd t' => by
  obtain ⟨u, a1, a2⟩ := a6J H hs R e hd
  obtain ⟨us, b1, b2⟩ := Ve H hs R t t'
  exact ⟨u :: us, .cons a1 b1, .cons a2 b2⟩
theorem Jl : ∀ {l : List Nat}, l.Nodup → ∀ {i j k : Nat}, l[i]? = some k → l[j]? = some k → i = j
 | [], _, i, j, k, e1, _ => by simp at e1
 | a :: l, hn, i, j, k, e1, e2 => by
  obtain ⟨h1, h2⟩ := List.nodup_cons.1 hn
  cases i with
  | zero =>
   cases j with
   | zero => rfl
   | succ j => simp at e1 e2; subst e1; exact absurd (List.mem_of_getElem? e2) h1
  | succ i =>
   cases j with
   | zero => simp at e1 e2; subst e2; exact absurd (List.mem_of_getElem? e1) h1
   | succ j => exact congrArg (· + 1) (Jl (k := k) h2 (by simpa using e1) (by simpa using e2))
def DCallWF (P : Program) (f : FuncId) (ds : List DV) (L : List Obj) (wr : List Nat) (K : DV → List Obj → Prop) : Prop :=
 ∀ h0 W0 γ h vs, Hp P h0 W0 γ L h → All2 (DR P (qd W0 γ L h) γ L h) ds vs → ADoes P f vs h (fun v h' => Aft P h0 W0 γ L h K v h' ∧ ∀ b, b < h.next → (∀ i ∈ wr, ∀ x, γ i ≠ some (b, x)) → h'.get b = h.get b)
theorem DCallWF.weak {f : FuncId} {ds : List DV} {wr : List Nat} {K : DV → List Obj → Prop} (h : DCallWF P f ds L wr K) : xn P f ds L K := fun h0 W0 γ hh vs H hr => (h h0 W0 γ hh vs H hr).mono fun _ _ q => q.1
theorem a5N {f : FuncId} {ds ds' : List DV} {A : List Obj} {K : DV → List Obj → Prop} {Q : DV → List Obj → Prop} (sel : List Nat) (hc : DCalls P f ds' A Q) (hnd : sel.Nodup) (hA : All2 (fun o' (i : Nat) => ∃ o, L[i]? = some o ∧ Wi (sel.map some) o' o) A sel) (ha : All2 (um P L (sel.map some)) ds' ds)
  (hq : ∀ r A', Q r A' → ∃ back L2 r', Merge L sel A A' back L2 ∧ a1M back r' = some r ∧ K r' L2) : DCallWF P f ds L sel K := by
 intro h0 W0 γ h vs H hr
 have hlen : A.length = sel.length := hA.length
 let γA : Pl := fun i => (sel[i]?).bind γ
 have hat : ∀ (i k : Nat), (sel.map some)[i]? = some (some k) ↔ sel[i]? = some k := fun i k => by
  rw [List.getElem?_map]
  cases sel[i]? <;> simp
 have hobj : ∀ {i : Nat} {o' : Obj}, A[i]? = some o' → ∃ k o, sel[i]? = some k ∧ L[k]? = some o ∧ Wi (sel.map some) o' o := fun {i o'} e => by
  obtain ⟨k, e1, o, e2, e3⟩ := hA.get e
  exact ⟨k, o, e1, e2, e3⟩
 have hγA : ∀ {i k : Nat}, sel[i]? = some k → γA i = γ k := fun {i k} e => by show (sel[i]?).bind γ = γ k; rw [e]; rfl
 have hinj : ∀ {i j k : Nat}, sel[i]? = some k → sel[j]? = some k → i = j := fun {i j k} e1 e2 => by
  have hi := (List.getElem?_eq_some_iff.1 e1).1
  have hj := (List.getElem?_eq_some_iff.1 e2).1
  exact Jl hnd e1 e2
 have R : Ren γ L (sel.map some) γA A := by
  refine ⟨fun i k e => hγA ((hat i k).1 e), fun i k e => by have := (List.getElem?_eq_some_iff.1 e).1; rw [List.length_map] at this; omega, fun i k c e e2 => ?_, fun i k o' rows e e2 e3 => ?_⟩
  ·have e' := (hat i k).1 e
   have hi : i < A.length := by have := (List.getElem?_eq_some_iff.1 e').1; omega
   obtain ⟨k', o, e3, e4, e5⟩ := hobj (List.getElem?_eq_getElem hi)
   rw [e'] at e3; cases e3
   rw [e2] at e4; cases e4
   rw [List.getElem?_eq_getElem hi]
   cases hA' : A[i] <;> rw [hA'] at e5 <;> first | exact ⟨_, rfl⟩ | exact e5.elim
  ·have e' := (hat i k).1 e
   obtain ⟨k', o, e4, e5, e6⟩ := hobj e2
   rw [e'] at e4; cases e4
   exact ⟨o, e5, a0j e6 e3⟩
 let Wn : Nat → Prop := fun b => ∃ i o x, A[i]? = some o ∧ o.owns = true ∧ γA i = some (b, x)
 let W1 : Ent := { start := h.next, W := Wn, A := fun b => qd W0 γ L h b ∨ Wn b, pin := fun i b => γA i = some (b, 0) ∧ ∃ c, A[i]? = some (.st c), cnt := A.length, few := fun i b e => (by
   obtain ⟨_, c, hc⟩ := e
   exact (List.getElem?_eq_some_iff.1 hc).1), sub := fun b e => .inr e }
 have hWn : ∀ {b}, Wn b → ∃ k o x i, sel[i]? = some k ∧ L[k]? = some o ∧ o.owns = true ∧ γ k = some (b, x) ∧ (∃ o', A[i]? = some o') := fun {b} ⟨i, o', x, e1, e2, e3⟩ => by
  obtain ⟨k, o, e4, e5, e6⟩ := hobj e1
  exact ⟨k, o, x, i, e4, e5, by rw [← Z9 e6]; exact e2, by rw [← hγA e4]; exact e3, o', e1⟩
 have hS : ∀ b, qd W0 γ L h b → qd W1 γA A h b := fun b hb => by
  refine ⟨hb.1, .inr (.inl hb), fun i o' x e1 e2 e3 => ?_⟩
  obtain ⟨k, o, e4, e5, e6⟩ := hobj e1
  rw [hγA e4] at e3
  exact hb.2.2 k o x e5 (by rw [← Z9 e6]; exact e2) e3
 have hlt : ∀ {k : Nat} {o : Obj} {b x : Nat}, L[k]? = some o → o.owns = true → γ k = some (b, x) → b < h.next := fun {k o b x} e e2 e3 => (OR.lt (fun b hb => hb.1) (H.obj k o e) e3 e2).1
 have HA : Hp P h W1 γA A h := by
  refine ⟨rfl, fun i b e => e, fun i o' e => ?_, fun i j o1 o2 b x x' e1 e2 d1 d2 g1 g2 => ?_, fun i x e => ?_, fun i o' b x e d g => .inr ⟨i, o', x, e, d, g⟩, Nat.le_refl _, fun _ _ _ => rfl⟩
  ·obtain ⟨k, o, e4, e5, e6⟩ := hobj e
   exact acP hS R ((hat i k).2 e4) e6 (H.obj k o e5)
  ·obtain ⟨k1, q1, a1, a2, a3⟩ := hobj e1
   obtain ⟨k2, q2, b1, b2, b3⟩ := hobj e2
   rw [hγA a1] at g1
   rw [hγA b1] at g2
   have := H.inj k1 k2 q1 q2 b x x' a2 b2 (by rw [← Z9 a3]; exact d1) (by rw [← Z9 b3]; exact d2) g1 g2
   subst this
   exact hinj a1 b1
  ·have e' : (sel[i]?).bind γ = some x := e
   cases hi : sel[i]? with
   | none => rw [hi] at e'; cases e'
   | some k => have := (List.getElem?_eq_some_iff.1 hi).1; omega
 obtain ⟨us, hw, hu⟩ := Ve (S' := qd W1 γA A h) H hS R ha hr
 refine ADoes.of (ACalls.args hw ((hc W1 γA h us (Nat.le_refl _) HA hu).mono ?_))
 rintro v h' ⟨γ2, r, A', q, H2, hd⟩
 obtain ⟨back, L2, r', M, hr', hK⟩ := hq r A' q
 let γ3 : Pl := fun i => match back[i]? with
  | some (some k) => γ2 k
  | _ => if i ∈ sel then none else γ i
 have h3b : ∀ {i k : Nat}, back[i]? = some (some k) → γ3 i = γ2 k := fun {i k} e => by show (match back[i]? with | some (some k) => γ2 k | _ => _) = _; rw [e]
 have h3k : ∀ {i : Nat}, i < L.length → i ∉ sel → γ3 i = γ i := fun {i} h1 h2 => by show (match back[i]? with | some (some k) => γ2 k | _ => _) = _; rw [(M.kept i h1 h2).1]; simp [h2]
 have hn : h.next ≤ h'.next := H2.next
 have hfr : ∀ b, b < h.next → ¬ Wn b → h'.get b = h.get b := fun b hb hw => H2.frame b hb hw
 have hown : ∀ {i : Nat} {o : Obj} {b x : Nat}, L[i]? = some o → i ∉ sel → o.owns = true → γ i = some (b, x) → b < h.next ∧ ¬ Wn b := fun {i o b x} e1 e2 e3 e4 => by
  refine ⟨hlt e1 e3 e4, fun hw => ?_⟩
  obtain ⟨k, o', x', j, f1, f2, f3, f4, _⟩ := hWn hw
  have := H.inj i k o o' b x x' e1 f2 e3 f3 e4 f4
  subst this
  exact e2 (List.mem_of_getElem? f1)
 have hback : ∀ {i : Nat} {o' : Obj} {k : Nat}, L2[i]? = some o' → back[i]? = some (some k) → o'.owns = true → ∃ o : Obj, A'[k]? = some o ∧ o.owns = true := fun {i o' k} e1 e2 e3 => by
  obtain ⟨_, o, o2, f1, f2, f3⟩ := M.old i k e2
  rw [e1] at f2; cases f2
  exact ⟨o, f1, by rw [← Z9 f3]; exact e3⟩
 have hcase : ∀ {i : Nat} {o' : Obj}, L2[i]? = some o' → (i < L.length ∧ i ∉ sel ∧ L[i]? = some o') ∨ (∃ k, back[i]? = some (some k)) ∨ o' = .dead := fun {i o'} e => by
  by_cases h1 : i < L.length
  ·by_cases h2 : i ∈ sel
   ·obtain ⟨k, hk⟩ := List.mem_iff_getElem?.1 h2
    have hkA : k < A.length := by rw [hlen]; exact (List.getElem?_eq_some_iff.1 hk).1
    by_cases h3 : ∃ c, A[k]? = some (.st c)
    ·obtain ⟨c, h3⟩ := h3
     exact .inr (.inl ⟨k, M.st k i c hk h3⟩)
    ·have := (M.gone k i hk fun c hc => h3 ⟨c, hc⟩).1
     rw [e] at this; cases this
     exact .inr (.inr rfl)
   ·exact .inl ⟨h1, h2, by rw [← (M.kept i h1 h2).2]; exact e⟩
  ·exact .inr (.inl (M.new i (by omega) (List.getElem?_eq_some_iff.1 e).1))
 have hSf : ∀ b, qd W1 γ2 A' h' b → qd W0 γ3 L2 h' b := fun b hb => by
  obtain ⟨c1, c2, c3⟩ := hb
  refine ⟨c1, ?_, fun i o' x e1 e2 e3 => ?_⟩
  ·rcases c2 with c2 | c2 | c2
   ·have c2' : h.next ≤ b := c2
    exact .inl (by rw [H.start]; exact Nat.le_trans H.next c2')
   ·exact c2.2.1
   ·obtain ⟨k, o, x, i, f1, f2, f3, f4, _⟩ := hWn c2
    exact H.allowed f2 f3 f4
  ·rcases hcase e1 with ⟨g1, g2, g3⟩ | ⟨k, g⟩ | rfl
   ·rw [h3k g1 g2] at e3
    have := hown g3 g2 e2 e3
    rcases c2 with c2 | c2 | c2
    ·have c2' : h.next ≤ b := c2
     omega
    ·exact c2.2.2 i o' x g3 e2 e3
    ·exact this.2 c2
   ·obtain ⟨o, f1, f2⟩ := hback e1 g e2
    rw [h3b g] at e3
    exact c3 k o x f1 f2 e3
   ·cases e2
 have c : Carry W0 γ L h γ3 L2 h' := by
  refine ⟨fun b hb => ?_, M.le, fun i b e ⟨c, hc⟩ => ?_, fun i b e ⟨c, hc⟩ => ?_, fun i o' rows' hi e hl => ?_⟩
  ·have hnw : ¬ Wn b := fun hw => by
    obtain ⟨k, o, x, i, f1, f2, f3, f4, _⟩ := hWn hw
    exact hb.2.2 k o x f2 f3 f4
   refine ⟨⟨Nat.lt_of_lt_of_le hb.1 hn, hb.2.1, fun i o' x e1 e2 e3 => ?_⟩, hfr b hb.1 hnw⟩
   rcases hcase e1 with ⟨g1, g2, g3⟩ | ⟨k, g⟩ | rfl
   ·rw [h3k g1 g2] at e3
    exact hb.2.2 i o' x g3 e2 e3
   ·obtain ⟨o, f1, f2⟩ := hback e1 g e2
    rw [h3b g] at e3
    rcases H2.new k o b x f1 f2 e3 with q | q
    ·have := hb.1; omega
    ·exact hnw q
   ·cases e2
  ·have hiL : i < L.length := (List.getElem?_eq_some_iff.1 hc).1
   by_cases h2 : i ∈ sel
   ·obtain ⟨k, hk⟩ := List.mem_iff_getElem?.1 h2
    have hkA : k < A.length := by rw [hlen]; exact (List.getElem?_eq_some_iff.1 hk).1
    obtain ⟨k', o, f1, f2, f3⟩ := hobj (List.getElem?_eq_getElem hkA)
    rw [hk] at f1; cases f1
    rw [hc] at f2; cases f2
    have hst : ∃ c', A[k]? = some (.st c') := by
     rw [List.getElem?_eq_getElem hkA]
     cases hA' : A[k] <;> rw [hA'] at f3 <;> first | exact ⟨_, rfl⟩ | exact f3.elim
    obtain ⟨c', hc'⟩ := hst
    have hb := M.st k i c' hk hc'
    have hp := H2.pin k b ⟨by rw [hγA hk]; exact e, c', hc'⟩
    refine ⟨(h3b hb).trans hp.1, ?_⟩
    obtain ⟨c2, hc2⟩ := hp.2
    obtain ⟨_, o, o2, g1, g2, g3⟩ := M.old i k hb
    rw [hc2] at g1; cases g1
    rw [g2]
    cases o2 <;> first | exact ⟨_, rfl⟩ | exact g3.elim
   ·exact ⟨(h3k hiL h2).trans e, c, by rw [(M.kept i hiL h2).2]; exact hc⟩
  ·have hiL : i < L.length := (List.getElem?_eq_some_iff.1 hc).1
   by_cases h2 : i ∈ sel
   ·obtain ⟨k, hk⟩ := List.mem_iff_getElem?.1 h2
    have hkA : k < A.length := by rw [hlen]; exact (List.getElem?_eq_some_iff.1 hk).1
    obtain ⟨k', o, f1, f2, f3⟩ := hobj (List.getElem?_eq_getElem hkA)
    rw [hk] at f1; cases f1
    rw [hc] at f2; cases f2
    cases hA' : A[k] <;> rw [hA'] at f3 <;> exact f3.elim
   ·exact ⟨(h3k hiL h2).trans e, c, by rw [(M.kept i hiL h2).2]; exact hc⟩
  ·rcases hcase e with ⟨g1, g2, g3⟩ | ⟨k, g⟩ | rfl
   ·exact ⟨o', rows', g3, hl, Nat.le_refl _, fun _ => ⟨h3k g1 g2, fun _ hz => hz⟩⟩
   ·exfalso
    have h2 : i ∈ sel := by
     rcases (M.old i k g).1 with q | q
     ·exact q
     ·omega
    obtain ⟨k2, hk2⟩ := List.mem_iff_getElem?.1 h2
    have hkA : k2 < A.length := by rw [hlen]; exact (List.getElem?_eq_some_iff.1 hk2).1
    by_cases h3 : ∃ c, A[k2]? = some (.st c)
    ·obtain ⟨c, h3⟩ := h3
     have hb := M.st k2 i c hk2 h3
     rw [g] at hb; cases hb
     obtain ⟨k', o, f1, f2, f3⟩ := hobj h3
     rw [hk2] at f1; cases f1
     cases o with
     | st c0 =>
      have ho := H.obj i _ f2
      obtain ⟨b, te, vs, p1, _⟩ := ho
      have hp := H2.pin k b ⟨by rw [hγA hk2]; exact p1, c, h3⟩
      obtain ⟨c2, hc2⟩ := hp.2
      obtain ⟨_, o3, o4, m1, m2, m3⟩ := M.old i k g
      rw [hc2] at m1; cases m1
      rw [e] at m2; cases m2
      cases o' <;> first | exact m3.elim | exact hl.elim
     | _ => exact f3.elim
    ·have := (M.gone k2 i hk2 fun c hc => h3 ⟨c, hc⟩).2
     rw [g] at this; cases this
   ·exact hl.elim
 have R2 : Ren γ2 A' back γ3 L2 := by
  refine ⟨fun i k e => h3b e, fun i k e => by rw [← M.len]; exact (List.getElem?_eq_some_iff.1 e).1, fun i k c e e2 => ?_, fun i k o' rows e e2 e3 => ?_⟩
  ·obtain ⟨_, o, o2, f1, f2, f3⟩ := M.old i k e
   rw [e2] at f1; cases f1
   rw [f2]
   cases o2 <;> first | exact ⟨_, rfl⟩ | exact f3.elim
  ·obtain ⟨_, o, o2, f1, f2, f3⟩ := M.old i k e
   rw [e2] at f2; cases f2
   exact ⟨o, f1, a0j f3 e3⟩
 refine ⟨⟨γ3, r', L2, hK, ?_, c, ad6 hSf R2 hr' hd⟩, fun b hb hne => hfr b hb fun ⟨i, o, x, e1, e2, e3⟩ => by
  have e3' : (sel[i]?).bind γ = some (b, x) := e3
  cases hi : sel[i]? with
  | none => rw [hi] at e3'; cases e3'
  | some k => rw [hi] at e3'; exact hne k (List.mem_of_getElem? hi) x e3'⟩
 refine ⟨H.start, fun i b e => ?_, fun i o' e => ?_, fun i j o1 o2 b x x' e1 e2 d1 d2 g1 g2 => ?_, fun i x e => ?_, fun i o' b x e d g => ?_, Nat.le_trans H.next hn, fun b hb hw => ?_⟩
 ·obtain ⟨p1, p2⟩ := H.pin i b e
  exact c.st i b p1 p2
 ·rcases hcase e with ⟨g1, g2, g3⟩ | ⟨k, g⟩ | rfl
  ·exact H.others c g3 (h3k g1 g2) fun b x hg hd => by
    obtain ⟨q1, q2⟩ := hown g3 g2 hd hg
    exact hfr b q1 q2
  ·obtain ⟨_, o, o2, f1, f2, f3⟩ := M.old i k g
   rw [e] at f2; cases f2
   exact acP hSf R2 g f3 (H2.obj k o f1)
  ·trivial
 ·have side : ∀ {i j : Nat} {o1 o2 : Obj} {b x x' k : Nat}, L2[i]? = some o1 → L2[j]? = some o2 → o1.owns = true → o2.owns = true → γ3 i = some (b, x) → γ3 j = some (b, x') → (i < L.length ∧ i ∉ sel ∧ L[i]? = some o1) → back[j]? = some (some k) → False := by
   intro i j o1 o2 b x x' k e1 e2 d1 d2 g1 g2 hi hj
   obtain ⟨i1, i2, i3⟩ := hi
   rw [h3k i1 i2] at g1
   obtain ⟨q1, q2⟩ := hown i3 i2 d1 g1
   obtain ⟨o, f1, f2⟩ := hback e2 hj d2
   rw [h3b hj] at g2
   rcases H2.new k o b x' f1 f2 g2 with q | q
   ·omega
   ·exact q2 q
  rcases hcase e1 with c1 | ⟨k1, c1⟩ | rfl <;> rcases hcase e2 with c2 | ⟨k2, c2⟩ | rfl
  ·obtain ⟨i1, i2, i3⟩ := c1
   obtain ⟨j1, j2, j3⟩ := c2
   rw [h3k i1 i2] at g1
   rw [h3k j1 j2] at g2
   exact H.inj i j o1 o2 b x x' i3 j3 d1 d2 g1 g2
  ·exact (side e1 e2 d1 d2 g1 g2 c1 c2).elim
  ·cases d2
  ·exact (side e2 e1 d2 d1 g2 g1 c2 c1).elim
  ·obtain ⟨q1, f1, f2⟩ := hback e1 c1 d1
   obtain ⟨q2, m1, m2⟩ := hback e2 c2 d2
   rw [h3b c1] at g1
   rw [h3b c2] at g2
   have := H2.inj k1 k2 q1 q2 b x x' f1 m1 f2 m2 g1 g2
   subst this
   exact M.inj i j k1 c1 c2
  ·cases d2
  ·cases d1
  ·cases d1
  ·cases d1
 ·rw [← M.len]
  have e' : (match back[i]? with | some (some k) => γ2 k | _ => if i ∈ sel then none else γ i) = some x := e
  split at e'
  ·rename_i k hk; exact (List.getElem?_eq_some_iff.1 hk).1
  ·split at e'
   ·cases e'
   ·have := H.dom i x e'
    rw [M.len]; exact Nat.lt_of_lt_of_le this M.le
 ·rcases hcase e with ⟨g1, g2, g3⟩ | ⟨k, g'⟩ | rfl
  ·rw [h3k g1 g2] at g
   exact H.new i o' b x g3 d g
  ·obtain ⟨o, f1, f2⟩ := hback e g' d
   rw [h3b g'] at g
   rcases H2.new k o b x f1 f2 g with q | q
   ·exact .inl (Nat.le_trans H.next q)
   ·obtain ⟨k, o, x, j, f1, f2, f3, f4, _⟩ := hWn q
    exact H.new k o b x f2 f3 f4
  ·cases d
 ·by_cases hwn : Wn b
  ·obtain ⟨k, o, x, j, f1, f2, f3, f4, _⟩ := hWn hwn
   rcases H.new k o b x f2 f3 f4 with q | q
   ·omega
   ·exact absurd q hw
  ·rw [hfr b (Nat.lt_of_lt_of_le hb H.next) hwn]; exact H.frame b hb hw
theorem a4c {f : FuncId} {ds ds' : List DV} {K : DV → List Obj → Prop} {Q : DV → List Obj → Prop} (hc : DCalls P f ds' [] Q) (ha : All2 (a7z P L true) ds' ds) (hq : ∀ r A', Q r A' → A' = [] ∧ a8U r = true ∧ K r L) : DCallWF P f ds L [] K := by
 intro h0 W0 γ h vs H hr
 let W1 : Ent := { start := h.next, W := fun _ => False, A := fun _ => True, pin := fun _ _ => False, cnt := 0, few := fun _ _ e => e.elim, sub := fun _ e => e.elim }
 have hS : ∀ b, b < h.next → qd W1 ut [] h b := fun b hb => ⟨hb, .inr trivial, fun id o x e => by simp at e⟩
 obtain ⟨us, hw, hu⟩ := Xf (S' := qd W1 ut [] h) H (fun b hb => hS b hb.1) (fun _ => hS) ha hr
 refine ADoes.of (ACalls.args hw ((hc W1 ut h us (Nat.le_refl _) (a9g W1 h rfl fun _ _ e => e) hu).mono ?_))
 rintro v h' ⟨γ', r, A', q, H', hd⟩
 obtain ⟨rfl, hsc, hK⟩ := hq r A' q
 have hg : ∀ b, b < h.next → h'.get b = h.get b := fun b hb => H'.frame b hb (fun e => e)
 obtain ⟨H2, c⟩ := H.grow H'.next hg
 exact ⟨⟨γ, r, L, hK, H2, c, a9t hsc hd⟩, fun b hb _ => hg b hb⟩
end
open Go.RowKit
theorem Y5 {s : Sel} {d d' : DV} (e : kU [] d = some d') : d' = d ∧ kU s d = some d := by
 cases d <;> (simp only [kU, unB, List.getElem?_nil] at e) <;> (try cases e) <;> exact ⟨rfl, rfl⟩
theorem a82 {s : Sel} : ∀ {ds ds' : List DV}, kB [] ds = some ds' → ds' = ds ∧ kB s ds = some ds
 | [], _, e => by cases e; exact ⟨rfl, rfl⟩
 | d :: ds, _, e => by
  unfold kB at e
  cases h1 : kU [] d with
  | none => simp only [h1] at e; cases e
  | some x =>
   cases h2 : kB [] ds with
   | none => simp only [h1, h2] at e; cases e
   | some y =>
    simp only [h1, h2] at e; cases e
    obtain ⟨rfl, a1⟩ := Y5 (s := s) h1
    obtain ⟨rfl, a2⟩ := a82 (s := s) h2
    exact ⟨rfl, by simp only [kB, a1, a2]⟩
theorem freeC {s : Sel} {d d' : DV} (e : yW [] d = some d') : d' = d ∧ yW s d = some d := by
 cases d with
 | fn f a b =>
  simp only [yW] at e
  cases h1 : kB [] a with
  | none => simp only [h1] at e; cases e
  | some x =>
   cases h2 : kB [] b with
   | none => simp only [h1, h2] at e; cases e
   | some y =>
    simp only [h1, h2] at e; cases e
    obtain ⟨rfl, a1⟩ := a82 (s := s) h1
    obtain ⟨rfl, a2⟩ := a82 (s := s) h2
    exact ⟨rfl, by simp only [yW, a1, a2]⟩
 | p x => exact Y5 (s := s) (d := .p x) e
 | ptr x y => exact Y5 (s := s) (d := .ptr x y) e
 | ep x y z w => exact Y5 (s := s) (d := .ep x y z w) e
 | dp x y => exact Y5 (s := s) (d := .dp x y) e
 | ref x y z w => exact Y5 (s := s) (d := .ref x y z w) e
 | aref x y z => exact Y5 (s := s) (d := .aref x y z) e
 | cx x y => exact Y5 (s := s) (d := .cx x y) e
 | mref x => exact Y5 (s := s) (d := .mref x) e
 | agg xs => cases e
 | tup xs => cases e
section
variable {P : Program} {L : List Obj}
theorem DCalls.mono {f : FuncId} {ds : List DV} {A : List Obj} {Q Q' : DV → List Obj → Prop} (hc : DCalls P f ds A Q) (hq : ∀ r A', Q r A' → Q' r A') : DCalls P f ds A Q' := fun W0 γ h vs h1 H hr => (hc W0 γ h vs h1 H hr).mono fun v h' ⟨γ', r, A', q, x, y⟩ => ⟨γ', r, A', hq _ _ q, x, y⟩
end
def a5M (L : List Obj) (sel : List Nat) (A' : List Obj) (back : Sel) (i : Nat) (o' : Obj) : Prop := match back[i]? with
 | some (some k) => (sel.contains i = true ∨ L.length ≤ i) ∧ match A'[k]? with
  | some o => Wi back o' o
  | none => False
 | some none => i < L.length ∧ if sel.contains i = true then o' = .dead else L[i]? = some o'
 | none => False
def ai7 (L : List Obj) (sel : List Nat) (A' : List Obj) (back : Sel) : Nat → List Obj → Prop
 | _, [] => True
 | i, o' :: r => a5M L sel A' back i o' ∧ ai7 L sel A' back (i + 1) r
def adI (back : Sel) : Nat → List Obj → List Nat → Prop
 | k, .st _ :: A, i :: sel => back[i]? = some (some k) ∧ adI back (k + 1) A sel
 | k, _ :: A, i :: sel => back[i]? = some none ∧ adI back (k + 1) A sel
 | _, _, _ => True
theorem a50 {L : List Obj} {sel : List Nat} {A' : List Obj} {back : Sel} : ∀ {n : Nat} {l : List Obj}, ai7 L sel A' back n l → ∀ {i : Nat} {o' : Obj}, l[i]? = some o' → a5M L sel A' back (n + i) o'
 | n, [], _, i, o', e => by simp at e
 | n, o :: l, h, i, o', e => by
  cases i with
  | zero => simp at e; subst e; exact h.1
  | succ i => have := a50 h.2 (i := i) (by simpa using e); rwa [show n + 1 + i = n + (i + 1) by omega] at this
theorem xV {back : Sel} : ∀ {n : Nat} {A : List Obj} {sel : List Nat}, adI back n A sel → ∀ {k i : Nat} {o : Obj}, sel[k]? = some i → A[k]? = some o → back[i]? = some (match o with | .st _ => some (n + k) | _ => none)
 | n, [], _, _, k, i, o, _, e => by simp at e
 | n, a :: A, [], _, k, i, o, e, _ => by simp at e
 | n, a :: A, s :: sel, h, k, i, o, e1, e2 => by
  have hs : (∀ (o : Obj), o = a → back[s]? = some (match o with | .st _ => some n | _ => none)) ∧ adI back (n + 1) A sel := by
   refine ⟨fun o e => ?_, ?_⟩
   ·subst e; cases o <;> exact h.1
   ·cases a <;> exact h.2
  cases k with
  | zero => simp at e1 e2; subst e1; subst e2; rw [Nat.add_zero]; exact hs.1 _ rfl
  | succ k => rw [xV hs.2 (k := k) (i := i) (o := o) (by simpa using e1) (by simpa using e2), show n + 1 + k = n + (k + 1) by omega]
theorem afa {sel : Sel} (hn : (sel.filterMap id).Nodup) : ∀ (i j k : Nat), sel[i]? = some (some k) → sel[j]? = some (some k) → i = j := by
 intro i j k e1 e2
 induction sel generalizing i j with
 | nil => simp at e1
 | cons s sel ih =>
  have hmem : ∀ (m : Nat), sel[m]? = some (some k) → k ∈ sel.filterMap id := fun m e => List.mem_filterMap.2 ⟨some k, List.mem_of_getElem? e, rfl⟩
  have hn' : (sel.filterMap id).Nodup := by
   cases s with
   | none => simpa using hn
   | some q => rw [List.filterMap_cons_some (by rfl)] at hn; exact (List.nodup_cons.1 hn).2
  have hno : ∀ m, s = some k → sel[m]? = some (some k) → False := fun m e e' => by
   subst e
   rw [List.filterMap_cons_some (by rfl)] at hn
   exact (List.nodup_cons.1 hn).1 (hmem m e')
  cases i with
  | zero =>
   cases j with
   | zero => rfl
   | succ j => exact (hno j (by simpa using e1) (by simpa using e2)).elim
  | succ i =>
   cases j with
   | zero => exact (hno i (by simpa using e2) (by simpa using e1)).elim
   | succ j => exact congrArg (· + 1) (ih hn' i j (by simpa using e1) (by simpa using e2))
theorem Merge.of {L : List Obj} {sel : List Nat} {A A' : List Obj} {back : Sel} {L2 : List Obj} (h1 : back.length = L2.length) (h2 : L.length ≤ L2.length) (h3 : ai7 L sel A' back 0 L2) (h4 : adI back 0 A sel) (h5 : (back.filterMap id).Nodup) (h6 : A.length = sel.length) : Merge L sel A A' back L2 := by
 have at' : ∀ {i : Nat}, i < L2.length → ∃ o', L2[i]? = some o' ∧ a5M L sel A' back i o' := fun {i} hi => ⟨_, List.getElem?_eq_getElem hi, by have := a50 h3 (List.getElem?_eq_getElem hi); rwa [Nat.zero_add] at this⟩
 refine ⟨h1, h2, fun i hi hn => ?_, fun k i c e1 e2 => ?_, fun k i e1 e2 => ?_, fun i k e => ?_, fun i hi hi2 => ?_, afa h5⟩
 ·obtain ⟨o', e, hm⟩ := at' (show i < L2.length by omega)
  have hc : sel.contains i = false := by simpa using hn
  unfold a5M at hm
  split at hm
  ·rename_i k hk
   rcases hm.1 with q | q
   ·rw [hc] at q; cases q
   ·omega
  ·rename_i hk
   rw [if_neg (by rw [hc]; simp)] at hm
   exact ⟨hk, e.trans hm.2.symm⟩
  ·exact hm.elim
 ·have := xV h4 e1 e2
  rw [Nat.zero_add] at this
  exact this
 ·have hk : k < A.length := by rw [h6]; exact (List.getElem?_eq_some_iff.1 e1).1
  have hb := xV h4 e1 (List.getElem?_eq_getElem hk)
  have hb' : back[i]? = some none := by
   cases ho : A[k] with
   | st c => exact absurd (by rw [List.getElem?_eq_getElem hk, ho]) (e2 c)
   | li => rw [ho] at hb; exact hb
   | fz => rw [ho] at hb; exact hb
   | mp => rw [ho] at hb; exact hb
   | dead => rw [ho] at hb; exact hb
  have hi : i < L2.length := by rw [← h1]; exact (List.getElem?_eq_some_iff.1 hb').1
  obtain ⟨o', e, hm⟩ := at' hi
  unfold a5M at hm
  rw [hb'] at hm
  have hc : sel.contains i = true := by simpa using List.mem_of_getElem? e1
  rw [if_pos hc] at hm
  exact ⟨by rw [e, hm.2], hb'⟩
 ·have hi : i < L2.length := by rw [← h1]; exact (List.getElem?_eq_some_iff.1 e).1
  obtain ⟨o', e', hm⟩ := at' hi
  unfold a5M at hm
  rw [e] at hm
  obtain ⟨m1, m2⟩ := hm
  refine ⟨m1.imp_left (by simp), ?_⟩
  split at m2
  ·rename_i o ho; exact ⟨o, o', ho, e', m2⟩
  ·exact m2.elim
 ·obtain ⟨o', e', hm⟩ := at' hi2
  unfold a5M at hm
  split at hm
  ·rename_i k hk; exact ⟨k, hk⟩
  ·omega
  ·exact hm.elim
set_option maxRecDepth 100000
theorem a2Y (p q : Prop) {dp : Decidable p} {dq : Decidable q} : (if @decide p dp = true then @decide q dq else false) = decide (p ∧ q) := by
 by_cases hp : p <;> simp [hp]
theorem a7Y (p q : Prop) {dp : Decidable p} {dq : Decidable q} : (if @decide p dp = true then true else @decide q dq) = decide (p ∨ q) := by
 by_cases hp : p <;> simp [hp]
theorem a1h (p q : Prop) {dp : Decidable p} {dq : Decidable q} : (if @decide p dp = true then false else @decide q dq) = decide (¬ p ∧ q) := by
 by_cases hp : p <;> simp [hp]
theorem a8m (p : Prop) {dp : Decidable p} : (if @decide p dp = true then true else false) = decide p := by
 by_cases hp : p <;> simp [hp]
attribute [push_cast] Classical.not_not a2Y a7Y a1h a8m
open Go.RowKit
inductive CT where
 | int (k : IntKind)
 | bool
 | str
 | sl (r : CT)
 | pair (a b : CT)
def CT.T : CT → Type
 | .int _ => Int
 | .bool => Bool
 | .str => ByteArray
 | .sl r => List (CT.T r)
 | .pair a b => CT.T a × CT.T b
def CT.size : CT → Nat
 | .pair a b => a.size + b.size
 | _ => 1
def CT.eqb : CT → CT → Bool
 | .int k, .int k' => decide (k = k')
 | .bool, .bool => true
 | .str, .str => true
 | .sl a, .sl b => CT.eqb a b
 | .pair a b, .pair a' b' => CT.eqb a a' && CT.eqb b b'
 | _, _ => false
theorem CT.of_eqb : ∀ {a b : CT}, CT.eqb a b = true → a = b
 | .int k, .int k', h => by simp [CT.eqb] at h; rw [h]
 | .bool, .bool, _ => rfl
 | .str, .str, _ => rfl
 | .sl a, .sl b, h => by rw [CT.of_eqb (a := a) (b := b) h]
 | .pair a b, .pair a' b', h => by
  simp only [CT.eqb, Bool.and_eq_true] at h
  rw [CT.of_eqb h.1, CT.of_eqb h.2]
 | .int _, .bool, h => by cases h
 | .int _, .str, h => by cases h
 | .int _, .sl _, h => by cases h
 | .int _, .pair _ _, h => by cases h
 | .bool, .int _, h => by cases h
 | .bool, .str, h => by cases h
 | .bool, .sl _, h => by cases h
 | .bool, .pair _ _, h => by cases h
 | .str, .int _, h => by cases h
 | .str, .bool, h => by cases h
 | .str, .sl _, h => by cases h
 | .str, .pair _ _, h => by cases h
 | .sl _, .int _, h => by cases h
 | .sl _, .bool, h => by cases h
 | .sl _, .str, h => by cases h
 | .sl _, .pair _ _, h => by cases h
 | .pair _ _, .int _, h => by cases h
 | .pair _ _, .bool, h => by cases h
 | .pair _ _, .str, h => by cases h
 | .pair _ _, .sl _, h => by cases h
theorem CT.size_pos : ∀ c : CT, 0 < c.size
 | .int _ => Nat.one_pos
 | .bool => Nat.one_pos
 | .str => Nat.one_pos
 | .sl _ => Nat.one_pos
 | .pair a _ => Nat.lt_of_lt_of_le (CT.size_pos a) (Nat.le_add_right _ _)
def qM : (c : CT) → c.T → List PV
 | .int k, n => [.v (.int k n)]
 | .bool, b => [.v (.bool b)]
 | .str, s => [.v (.string s)]
 | .sl r, xs => [.sl r.size (List.map (qM r) xs)]
 | .pair a b, x => qM a x.1 ++ qM b x.2
theorem k9 : ∀ (c : CT) (x : c.T), (qM c x).length = c.size
 | .int _, _ => rfl
 | .bool, _ => rfl
 | .str, _ => rfl
 | .sl _, _ => rfl
 | .pair a b, x => by simp only [qM, CT.size, List.length_append, k9 a, k9 b]
inductive TV where
 | v (x : Value)
 | sl (c : CT) (xs : List c.T)
 | ptr (id off : Nat)
 | ep (id i off tot : Nat)
 | dp (c : CT) (x : c.T) (off : Nat)
 | ref (id tot : Nat)
 | part (id lo n tot : Nat)
 | aref (id off n : Nat)
 | slx (c : CT) (xs : List c.T)
 | mref (id : Nat)
 | fn (f : FuncId) (pre cap : List TV)
 | agg (xs : List TV)
 | tup (xs : List TV)
def zF : TV → DV
 | .v x => .p (.v x)
 | .sl c xs => .p (.sl c.size (xs.map (qM c)))
 | .ptr id off => .ptr id off
 | .ep id i off tot => .ep id i off tot
 | .dp c x off => .dp (qM c x) off
 | .ref id tot => .ref id 0 tot tot
 | .part id lo n tot => .ref id lo n tot
 | .aref id off n => .aref id off n
 | .slx c xs => .cx c.size (xs.map (qM c))
 | .mref id => .mref id
 | .fn f _ _ => .fn f [] []
 | .agg _ => .agg []
 | .tup _ => .tup []
def qr : TV → DV
 | .fn f pre cap => .fn f (pre.map zF) (cap.map zF)
 | d => zF d
def qU : TV → DV
 | .agg xs => .agg (xs.map qr)
 | d => qr d
def enc : TV → DV
 | .tup xs => .tup (xs.map qU)
 | d => qU d
inductive TO where
 | st (cells : List TV)
 | li (c : CT) (e : TypeId) (loc : Bool) (xs : List c.T)
 | fz (c : CT) (e : TypeId) (loc : Bool) (xs : List c.T)
 | mp (es : List (Value × TV))
 | dead
def eo (loc : Bool) (e : TypeId) (n : Nat) : Option TypeId := if loc then some e else if n = 0 then none else some e
def kh : TO → Obj
 | .st cells => .st (cells.map qr)
 | .li c e loc xs => .li (eo loc e xs.length) (xs.map (qM c))
 | .fz c e loc xs => .fz (eo loc e xs.length) (xs.map (qM c))
 | .mp es => .mp (es.map fun x => (x.1, qU x.2))
 | .dead => .dead
def tvC : (c : CT) → c.T → List TV
 | .int k, n => [.v (.int k n)]
 | .bool, b => [.v (.bool b)]
 | .str, s => [.v (.string s)]
 | .sl r, xs => [.sl r xs]
 | .pair a b, x => tvC a x.1 ++ tvC b x.2
theorem Qh : ∀ (c : CT) (x : c.T), (tvC c x).map qr = (qM c x).map .p
 | .int _, _ => rfl
 | .bool, _ => rfl
 | .str, _ => rfl
 | .sl _, _ => rfl
 | .pair a b, x => by simp only [tvC, qM, List.map_append, Qh a, Qh b]
theorem a2i (c : CT) (x : c.T) : (tvC c x).length = c.size := by
 have := congrArg List.length (Qh c x)
 simpa [k9] using this
def jX {a b : CT} (h : a = b) (xs : List a.T) : List b.T := h ▸ xs
theorem UC {a : CT} (h : a = a) (xs : List a.T) : jX h xs = xs := rfl
def Yc : (c : CT) → List TV → Option (c.T × List TV)
 | .int k, l => match l with
  | .v (.int k' n) :: r => if k = k' then some (n, r) else none
  | _ => none
 | .bool, l => match l with
  | .v (.bool b) :: r => some (b, r)
  | _ => none
 | .str, l => match l with
  | .v (.string s) :: r => some (s, r)
  | _ => none
 | .sl c, l => match l with
  | .sl c' xs :: r => if h : c'.eqb c = true then some (jX (CT.of_eqb h) xs, r) else none
  | .v (.slice none 0 0) :: r => some ([], r)
  | _ => none
 | .pair a b, l => match Yc a l with
  | some (x, l') => match Yc b l' with
   | some (y, l'') => some ((x, y), l'')
   | none => none
  | none => none
def a3F (c : CT) (l : List TV) : Option c.T := match Yc c l with
 | some (x, []) => some x
 | _ => none
def X6 : TV → PV → Prop
 | .v x, p => p = .v x
 | .sl c xs, p => p = .sl c.size (xs.map (qM c))
 | _, _ => False
theorem All2.refl_of {α : Type} {R : α → α → Prop} (h : ∀ a, R a a) : ∀ l : List α, All2 R l l
 | [] => .nil
 | a :: l => .cons (h a) (All2.refl_of h l)
theorem a5v (x : PV) : unP x x := by cases x <;> exact rfl
theorem Yy : ∀ (c : CT) (l : List TV) (x : c.T) (r : List TV), Yc c l = some (x, r) → ∃ l0 ps, l = l0 ++ r ∧ All2 X6 l0 ps ∧ All2 unP (qM c x) ps
 | .int k, l, x, r, e => by
  simp only [Yc] at e
  split at e
  ·split at e
   ·rename_i hk; cases e; subst hk; exact ⟨[_], [_], rfl, .cons rfl .nil, .cons rfl .nil⟩
   ·cases e
  ·cases e
 | .bool, l, x, r, e => by
  simp only [Yc] at e
  split at e
  ·cases e; exact ⟨[_], [_], rfl, .cons rfl .nil, .cons rfl .nil⟩
  ·cases e
 | .str, l, x, r, e => by
  simp only [Yc] at e
  split at e
  ·cases e; exact ⟨[_], [_], rfl, .cons rfl .nil, .cons rfl .nil⟩
  ·cases e
 | .sl c, l, x, r, e => by
  simp only [Yc] at e
  split at e
  ·rename_i c' xs r'
   split at e
   ·rename_i h
    cases e
    have := CT.of_eqb h
    subst this
    exact ⟨[_], [_], rfl, .cons rfl .nil, .cons (a5v _) .nil⟩
   ·cases e
  ·cases e; exact ⟨[_], [_], rfl, .cons rfl .nil, .cons rfl .nil⟩
  ·cases e
 | .pair a b, l, x, r, e => by
  simp only [Yc] at e
  split at e
  ·rename_i y l' h1
   split at e
   ·rename_i z l'' h2
    cases e
    obtain ⟨m1, p1, rfl, a2, a3⟩ := Yy a _ _ _ h1
    obtain ⟨m2, p2, rfl, b2, b3⟩ := Yy b _ _ _ h2
    exact ⟨m1 ++ m2, p1 ++ p2, by simp, a2.append b2, a3.append b3⟩
   ·cases e
  ·cases e
theorem Ye {c : CT} {l : List TV} {x : c.T} (e : a3F c l = some x) : ∃ ps, All2 X6 l ps ∧ All2 unP (qM c x) ps := by
 unfold a3F at e
 split at e
 ·rename_i y h
  cases e
  obtain ⟨l0, ps, rfl, h2, h3⟩ := Yy _ _ _ _ h
  exact ⟨ps, by simpa using h2, h3⟩
 ·cases e
theorem a4G : ∀ {l : List TV} {ps : List PV}, All2 X6 l ps → l.map qr = ps.map .p
 | _, _, .nil => rfl
 | _, _, .cons (a := a) (b := b) h t => by
  have := a4G t
  simp only [List.map_cons, this]
  congr 1
  cases a <;> first | (cases h; rfl) | exact h.elim
open Go.RowKit
def Qx (t : Nat) : List (Nat × TV) → Option TV
 | [] => none
 | (t', d) :: l => if t' = t then some d else Qx t l
structure TFrm where
 n : Nat
 c : Nat
 l : List (Nat × TV)
def TFrm.put (a : TFrm) (t : Option Nat) (d : TV) : TFrm := match t with
 | some t => if t < a.n then ⟨a.n, a.c, (t, d) :: a.l⟩ else a
 | none => a
abbrev a7a : TV := .tup []
def a7n (v : Value) : Option TV := if scal v then some (.v v) else match v with
 | .tuple xs => if xs.size = 0 then some a7a else none
 | _ => none
def TFrm.ev (a : TFrm) : Operand → Option TV
 | .tmp t => Qx t a.l
 | .const v => a7n v
 | .func f => some (.fn f [] [])
 | .global _ => none
abbrev Zq := Operand → Option TV
def Wh (ρ : Zq) : List Operand → Option (List TV)
 | [] => some []
 | x :: r => match ρ x, Wh ρ r with
  | some v, some vs => some (v :: vs)
  | _, _ => none
def a0c (ρ : Zq) : List (Nat × Operand) → Option (List (Nat × TV))
 | [] => some []
 | (i, x) :: r => match ρ x, a0c ρ r with
  | some v, some vs => some ((i, v) :: vs)
  | _, _ => none
def wl : TV → List TV
 | .agg xs => xs
 | d => [d]
def QL : TV → Bool
 | .tup _ => false
 | _ => true
def isC : TV → Bool
 | .agg _ => false
 | .tup _ => false
 | _ => true
def adK : Option TV → Option TV
 | some d => if isC d then some d else none
 | none => none
def Zz (P : Program) (t : TypeId) (cs : List TV) (off : Nat) : Option TV :=
 match P.underlying t with
 | none => none
 | some _ => if U2 P t then match szT P t with
   | some n => if off + n ≤ cs.length then some (.agg ((cs.drop off).take n)) else none
   | none => none
  else adK cs[off]?
def V5 : List TV → Option (List Value)
 | [] => some []
 | x :: l => match x with
  | .v x => (V5 l).map (x :: ·)
  | _ => none
def Vk : TV → Option Value
 | .v x => some x
 | .agg xs => (V5 xs).map fun l => .agg l.toArray
 | _ => none
def scT (o : Option Value) : Option TV := match o with
 | some v => if scal v then some (.v v) else none
 | none => none
def a1B : TV → Option Value
 | .ptr _ _ => some (.pointer (some ⟨0, 0, none⟩))
 | .dp _ _ _ => some (.pointer (some ⟨0, 0, none⟩))
 | .fn f _ _ => some (.func (.func f) #[] #[])
 | _ => none
inductive Tree (R : Type) : Type 1
 | fail
 | ret (r : R)
 | cond (b : Bool) (x y : Tree R)
 | bind (α : Type) (o : Option α) (k : α → Tree R)
 | case (α β : Type) (s : α ⊕ β) (f : α → Tree R) (g : β → Tree R)
 | both (x y : Tree R)
open Classical in
def bothM {R : Type} (x y : Option R) : Option R := if x = y then x else none
theorem Xh {R : Type} (x : Option R) : bothM x x = x := by unfold bothM; rw [if_pos rfl]
theorem a5H {R : Type} {x y : Option R} {a : R} (h : bothM x y = some a) : x = some a ∧ y = some a := by
 unfold bothM at h
 split at h
 ·rename_i e; exact ⟨h, e ▸ h⟩
 ·cases h
def Tree.run {R : Type} : Tree R → Option R
 | .fail => none
 | .ret r => some r
 | .cond b x y => match b with
  | true => x.run
  | false => y.run
 | .bind _ o k => match o with
  | some x => (k x).run
  | none => none
 | .case _ _ s f g => match s with
  | .inl a => (f a).run
  | .inr b => (g b).run
 | .both x y => bothM x.run y.run
def Tree.map {R S : Type} (j : R → S) : Tree R → Tree S
 | .fail => .fail
 | .ret r => .ret (j r)
 | .cond b x y => .cond b (x.map j) (y.map j)
 | .bind α o k => .bind α o fun x => (k x).map j
 | .case α β s f g => .case α β s (fun a => (f a).map j) (fun b => (g b).map j)
 | .both x y => .both (x.map j) (y.map j)
theorem Tree.run_map {R S : Type} (j : R → S) (hj : ∀ a b, j a = j b → a = b) : ∀ t : Tree R, (t.map j).run = t.run.map j
 | .fail => rfl
 | .ret r => rfl
 | .cond b x y => by cases b <;> simp only [Tree.map, Tree.run] <;> exact Tree.run_map j hj _
 | .bind α o k => by
  cases o with
  | none => rfl
  | some x => exact Tree.run_map j hj (k x)
 | .case α β s f g => by
  cases s with
  | inl a => exact Tree.run_map j hj (f a)
  | inr b => exact Tree.run_map j hj (g b)
 | .both x y => by
  show bothM (x.map j).run (y.map j).run = (bothM x.run y.run).map j
  rw [Tree.run_map j hj x, Tree.run_map j hj y]
  unfold bothM
  by_cases h : x.run = y.run
  ·rw [if_pos h, if_pos (by rw [h])]
  ·rw [if_neg h, if_neg fun q => h ?_]
   ·rfl
   ·cases hx : x.run <;> cases hy : y.run <;> rw [hx, hy] at q <;> first | rfl | (simp at q; done) | (simp only [Option.map_some, Option.some.injEq] at q; rw [hj _ _ q])
def tif {R : Type} (c : Prop) [Decidable c] (x : Tree R) : Tree R := .cond (decide c) x .fail
theorem qa {R : Type} (c : Prop) [Decidable c] (x : Tree R) : (tif c x).run = if c then x.run else none := by
 unfold tif
 by_cases h : c <;> simp [h, Tree.run]
def chk {R : Type} : List (Nat × Nat) → Tree R → Tree R
 | [], o => o
 | (a, b) :: r, o => tif (a = b) (chk r o)
theorem zS {R : Type} {o : Tree R} {a : R} : ∀ {l : List (Nat × Nat)}, (chk l o).run = some a → (∀ p ∈ l, p.1 = p.2) ∧ o.run = some a
 | [], e => ⟨fun p hp => by simp at hp, e⟩
 | (x, y) :: r, e => by
  unfold chk at e
  rw [qa] at e
  split at e
  ·rename_i h
   obtain ⟨h1, h2⟩ := zS e
   exact ⟨fun p hp => by rcases List.mem_cons.1 hp with rfl | hp; exact h; exact h1 p hp, h2⟩
  ·cases e
def ql {α R : Type} (o : Option α) (k : α → Tree R) : Tree R := match o with
 | some x => k x
 | none => .fail
theorem q9 {α R : Type} {o : Option α} {k : α → Tree R} {a : R} (e : (ql o k).run = some a) : ∃ x, o = some x ∧ (k x).run = some a := by
 cases o with
 | none => cases e
 | some x => exact ⟨x, rfl, e⟩
def KD {α R : Type} (o : Option α) (k : α → Tree R) : Tree R := .bind α o k
theorem kg {α R : Type} {o : Option α} {k : α → Tree R} {a : R} (e : (KD o k).run = some a) : ∃ x, o = some x ∧ (k x).run = some a := by
 cases o with
 | none => cases e
 | some x => exact ⟨x, rfl, e⟩
def adw (P : Program) (op : BinOp) (t : TypeId) (a b : TV) : Option TV :=
 match Vk a, Vk b with
 | some x, some y => scT (qZ P op t x y)
 | none, some y => if a3Y y then match a1B a with
   | some x => scT (qZ P op t x y)
   | none => none
  else none
 | some x, none => if a3Y x then match a1B b with
   | some y => scT (qZ P op t x y)
   | none => none
  else none
 | none, none => none
def acX {R : Type} (xs : Nat) (b : Bool) (K : TV → Tree R) : Tree R := .cond (decide (xs = 0)) (.both (K (.v (.bool b))) (K (.v (.bool (!b))))) (K (.v (.bool (!b))))
def a4v (P : Program) (t : TypeId) : Bool := match P.underlying t with
 | some (.slice _) => true
 | _ => false
def acH {R : Type} (P : Program) (op : BinOp) (t : TypeId) (x y : TV) (K : TV → Tree R) : Tree R :=
 match op, x, y with
 | .quo, .v (.int k a), .v (.int k' b) => if k = k' then tif (b ≠ 0) (K (.v (.int k (k.wrap (a.tdiv b))))) else .fail
 | .rem, .v (.int k a), .v (.int k' b) => if k = k' then tif (b ≠ 0) (K (.v (.int k (a.tmod b)))) else .fail
 | .shl, .v (.int k a), .v (.int _ b) => tif (0 ≤ b) (K (.v (.int k (k.wrap (a * 2 ^ (min b.toNat k.bits))))))
 | .shr, .v (.int k a), .v (.int _ b) => tif (0 ≤ b) (K (.v (.int k (a.fdiv (2 ^ (min b.toNat k.bits))))))
 | .add, .v (.string a), .v (.string b) => tif (a.size + b.size ≤ 9223372036854775807) (K (.v (.string (a ++ b))))
 | .eql, .sl _ xs, .v (.slice none 0 0) => if a4v P t then acX xs.length true K else .fail
 | .neq, .sl _ xs, .v (.slice none 0 0) => if a4v P t then acX xs.length false K else .fail
 | op, x, y => ql (adw P op t x y) K
def kY : List TV → Nat → List TV → List TV
 | cs, _, [] => cs
 | cs, i, v :: r => kY (cs.set i v) (i + 1) r
def vU (P : Program) (t : TypeId) : Option (List TV) := match qT P t with
 | some z => if z.all scal then some (z.map .v) else none
 | none => none
def a4Y (place : Nat → Option (Nat × Nat)) (cells : List TV) : List (Nat × TV) → Option (List TV)
 | [] => some cells
 | (i, v) :: r => match place i with
  | none => none
  | some (off, sz) => if QL v = true ∧ (wl v).length = sz ∧ off + sz ≤ cells.length then a4Y place (kY cells off (wl v)) r else none
def a0M (P : Program) (t : TypeId) (ps : List (Nat × TV)) : Option TV :=
 match WK P t, vU P t with
 | some pl, some z => if Wb P t then (a4Y pl z ps).map .agg else none
 | _, _ => none
def a23 (P : Program) (t : TypeId) (x : TV) (f : Nat) : Option TV :=
 match P.underlying t, x with
 | some (.struct fs), .agg cs => match fs[f]? with
  | some fd => Zz P fd.type cs fd.offset
  | none => none
 | _, _ => none
def YE (L : List TO) (id : Nat) : Option Nat := match L[id]? with
 | some (.li _ _ _ xs) => some xs.length
 | some (.fz _ _ _ xs) => some xs.length
 | _ => none
def ton {R : Type} (L : List TO) (k : Nat) (x : TV) (K : TV → Tree R) : Tree R := match x with
 | .ptr id off => K (.ptr id (off + k))
 | .ep id i off tot => ql (YE L id) fun n => chk [(n, tot)] (K (.ep id i (off + k) tot))
 | .dp c y off => K (.dp c y (off + k))
 | _ => .fail
def Ug : TV → Option Int
 | .v (.int _ n) => some n
 | _ => none
def aav {R : Type} (c : CT) (s : Nat) (id n tot m : Nat) (K : TV → Tree R) : Tree R :=
 if c.size = s then tif (n < tot ∧ m = tot) (K (.ep id n 0 tot)) else .fail
def Q3 {R : Type} (P : Program) (L : List TO) (t : TypeId) (x i : TV) (K : TV → Tree R) : Tree R :=
 ql (Ug i) fun n => match P.underlying t with
  | some (.slice e) => ql (szT P e) fun s => match x with
   | .sl c xs => if c.size = s then tif (0 ≤ n) (KD xs[n.toNat]? fun y => K (.dp c y 0)) else .fail
   | .ref id tot => tif (0 ≤ n) (match L[id]? with
    | some (.li c _ _ xs) => aav c s id n.toNat tot xs.length K
    | some (.fz c _ _ xs) => aav c s id n.toNat tot xs.length K
    | _ => .fail)
   | .part id lo m tot => tif (0 ≤ n ∧ n.toNat < m) (match L[id]? with
    | some (.li c _ _ xs) => aav c s id (lo + n.toNat) tot xs.length K
    | some (.fz c _ _ xs) => aav c s id (lo + n.toNat) tot xs.length K
    | _ => .fail)
   | .aref id off m => tif (0 ≤ n ∧ n.toNat < m) (K (.ptr id (off + n.toNat * s)))
   | _ => .fail
  | some (.array len e) => ql (szT P e) fun s => tif (0 ≤ n ∧ n.toNat < len) (ton L (n.toNat * s) x K)
  | _ => .fail
def a3O {R : Type} (P : Program) (L : List TO) (t : TypeId) (x : TV) (K : TV → Tree R) : Tree R := match x with
 | .ptr id off => match L[id]? with
  | some (.st cells) => ql (Zz P t cells off) K
  | _ => .fail
 | .ep id i off tot => match L[id]? with
  | some (.li c _ _ xs) => tif (xs.length = tot) (KD xs[i]? fun y => ql (Zz P t (tvC c y) off) K)
  | some (.fz c _ _ xs) => tif (xs.length = tot) (KD xs[i]? fun y => ql (Zz P t (tvC c y) off) K)
  | _ => .fail
 | .dp c y off => ql (Zz P t (tvC c y) off) K
 | _ => .fail
def a5n (P : Program) (L : List TO) : TV → TV × List TO × List (Nat × Nat)
 | .ref id tot => match L[id]? with
  | some (.li c e loc xs) => if szT P e = some c.size then (.sl c xs, L.set id (.fz c e loc xs), [(xs.length, tot)]) else (.ref id tot, L, [])
  | some (.fz c e _ xs) => if szT P e = some c.size then (.sl c xs, L, [(xs.length, tot)]) else (.ref id tot, L, [])
  | _ => (.ref id tot, L, [])
 | d => (d, L, [])
def a0b (P : Program) (L : List TO) : List TV → List TV × List TO × List (Nat × Nat)
 | [] => ([], L, [])
 | x :: l => match a5n P L x with
  | (x', L', q) => match a0b P L' l with
   | (l', L'', q') => (x' :: l', L'', q ++ q')
def a8D (P : Program) (L : List TO) (x : TV) : TV × List TO × List (Nat × Nat) := match x with
 | .agg xs => match a0b P L xs with
  | (xs', L', q) => (.agg xs', L', q)
 | d => a5n P L d
def a0a (P : Program) (L : List TO) : List (Nat × TV) → List (Nat × TV) × List TO × List (Nat × Nat)
 | [] => ([], L, [])
 | (i, x) :: l => match a8D P L x with
  | (x', L', q) => match a0a P L' l with
   | (l', L'', q') => ((i, x') :: l', L'', q ++ q')
def agR : TV → Bool
 | .v _ => true
 | .sl _ _ => true
 | _ => false
def a2h {R : Type} (P : Program) (L : List TO) (t : TypeId) (p x : TV) (K : List TO → Tree R) : Tree R := match p with
 | .ptr id off => match L[id]? with
  | some (.st cells) => if QL x = true ∧ szT P t = some (wl x).length ∧ off + (wl x).length ≤ cells.length then K (L.set id (.st (kY cells off (wl x)))) else .fail
  | _ => .fail
 | .ep id i off tot => match a8D P L x with
  | (x', L', q) => match L'[id]? with
   | some (.li c e loc xs) => if QL x' = true ∧ szT P t = some (wl x').length ∧ off + (wl x').length ≤ c.size ∧ (wl x').all agR = true then
     tif (xs.length = tot) (KD xs[i]? fun y => ql (a3F c (kY (tvC c y) off (wl x'))) fun z => chk q (K (L'.set id (.li c e loc (xs.set i z))))) else .fail
   | _ => .fail
 | _ => .fail
def a1o (s : ByteArray) : List (CT.T (.int .u8)) := s.data.toList.map fun c => ((c.toNat : Int) : CT.T (.int .u8))
def a5e (k : IntKind) : List TV → Option (List Int)
 | [] => some []
 | x :: r => match x with
  | .v (.int k' n) => if k' = k then (a5e k r).map (n :: ·) else none
  | _ => none
def a3X {R : Type} (P : Program) (L : List TO) (c : CT) (t : TypeId) (x : TV) (K : List c.T → Tree R) : Tree R :=
 match P.underlying t with
 | some (.slice _) => match x with
  | .sl c' xs => if h : c'.eqb c = true then K (jX (CT.of_eqb h) xs) else .fail
  | .v (.slice none 0 0) => K []
  | .ref id tot => match L[id]? with
   | some (.li c' _ _ xs) => if h : c'.eqb c = true then chk [(xs.length, tot)] (K (jX (CT.of_eqb h) xs)) else .fail
   | some (.fz c' _ _ xs) => if h : c'.eqb c = true then chk [(xs.length, tot)] (K (jX (CT.of_eqb h) xs)) else .fail
   | _ => .fail
  | .part id lo n tot => match L[id]? with
   | some (.li c' _ _ xs) => if h : c'.eqb c = true then chk [(xs.length, tot)] (K ((List.drop lo (jX (CT.of_eqb h) xs)).take n)) else .fail
   | some (.fz c' _ _ xs) => if h : c'.eqb c = true then chk [(xs.length, tot)] (K ((List.drop lo (jX (CT.of_eqb h) xs)).take n)) else .fail
   | _ => .fail
  | .aref id off n => match c, K with
   | .int k, K => match L[id]? with
    | some (.st cells) => if off + n ≤ cells.length then ql (a5e k ((cells.drop off).take n)) fun ys => K ys else .fail
    | _ => .fail
   | _, _ => .fail
  | _ => .fail
 | some .string => match x with
  | .v (.string s) => if h : (CT.int .u8).eqb c = true then K (jX (CT.of_eqb h) (a1o s)) else .fail
  | _ => .fail
 | _ => .fail
def lim (b : Nat) : Nat := 140737488355328 / b
def Yk {R : Type} (P : Program) (ty : TypeId → Option CT) (ts : List TypeId) (L : List TO) (s x : TV) (K : TV → List TO → Tree R) : Tree R :=
 match ts with
 | [t, t2] => match P.underlying t with
  | some (.slice e) => ql (P.info? e) fun i => ql (qT P e) fun _ => ql (ty e) fun c => if c.size = i.size ∧ 0 < i.bytes then
    a3X P L c t2 x fun ys => match s with
     | .v (.slice none 0 0) => tif (ys.length ≤ lim i.bytes) (K (.ref L.length ys.length) (L ++ [.li c e false ys]))
     | .ref id tot => match L[id]? with
      | some (.li c' e' loc xs) => if e' = e then (if h : c'.eqb c = true then (tif (xs.length = tot ∧ tot + ys.length ≤ lim i.bytes) (
        K (.ref id (tot + ys.length)) (L.set id (.li c e loc (jX (CT.of_eqb h) xs ++ ys))))) else .fail) else .fail
      | _ => .fail
     | _ => .fail
   else .fail
  | _ => .fail
 | _ => .fail
def Uw (ρ : Zq) : Option Operand → Option (Option Int)
 | none => some none
 | some x => match ρ x with
  | some d => (Ug d).map some
  | none => none
def wZ {R : Type} (n : Nat) (lo hi : Option Int) (K : Option Nat → Option Nat → Tree R) : Tree R := match lo, hi with
 | none, none => K none none
 | none, some h => tif (0 ≤ h ∧ h.toNat ≤ n) (K none (some h.toNat))
 | some l, none => tif (0 ≤ l ∧ l.toNat ≤ n) (K (some l.toNat) none)
 | some l, some h => tif (0 ≤ l ∧ l ≤ h ∧ h.toNat ≤ n) (K (some l.toNat) (some h.toNat))
def aad {α : Type} (xs : List α) : Option Nat → Option Nat → List α
 | none, none => xs
 | none, some h => xs.take h
 | some l, none => xs.drop l
 | some l, some h => (xs.drop l).take (h - l)
def jS (n : Nat) : Option Nat → Option Nat → Nat × Nat
 | none, none => (0, n)
 | none, some h => (0, h)
 | some l, none => (l, n - l)
 | some l, some h => (l, h - l)
def a67 {R : Type} (P : Program) (L : List TO) (t : TypeId) (x : TV) (lo hi : Option Int) (K : TV → Tree R) : Tree R :=
 match P.underlying t with
 | some (.slice e) => ql (szT P e) fun s => match x with
  | .sl c xs => if c.size = s then wZ xs.length lo hi fun l h => K (.sl c (aad xs l h)) else .fail
  | .v (.slice none 0 0) => wZ 0 lo hi fun _ _ => K x
  | .ref id tot => match L[id]? with
   | some (.li c e' _ xs) => if c.size = s ∧ e' = e then tif (0 < tot ∧ xs.length = tot) (wZ tot lo hi fun l h => K (.part id (jS tot l h).1 (jS tot l h).2 tot)) else .fail
   | some (.fz c e' _ xs) => if c.size = s ∧ e' = e then tif (0 < tot ∧ xs.length = tot) (wZ tot lo hi fun l h => K (.part id (jS tot l h).1 (jS tot l h).2 tot)) else .fail
   | _ => .fail
  | .part id a n tot => match L[id]? with
   | some (.li c e' _ xs) => if c.size = s ∧ e' = e then tif (0 < n ∧ xs.length = tot ∧ 0 < tot) (wZ n lo hi fun l h => K (.part id (a + (jS n l h).1) (jS n l h).2 tot)) else .fail
   | some (.fz c e' _ xs) => if c.size = s ∧ e' = e then tif (0 < n ∧ xs.length = tot ∧ 0 < tot) (wZ n lo hi fun l h => K (.part id (a + (jS n l h).1) (jS n l h).2 tot)) else .fail
   | _ => .fail
  | _ => .fail
 | _ => .fail
def a8H {R : Type} (P : Program) (L : List TO) (t : TypeId) (x : TV) (K : TV → Tree R) : Tree R :=
 match P.underlying t with
 | some (.slice _) => match x with
  | .sl _ xs => K (.v (goInt xs.length))
  | .v (.slice none 0 0) => K (.v (goInt (0 : Nat)))
  | .ref id tot => ql (YE L id) fun n => chk [(n, tot)] (K (.v (goInt tot)))
  | .part id _ m tot => ql (YE L id) fun n => chk [(n, tot)] (K (.v (goInt m)))
  | .aref _ _ n => K (.v (goInt n))
  | _ => .fail
 | some .string => match x with
  | .v (.string s) => K (.v (goInt s.size))
  | _ => .fail
 | some (.array n _) => match x with
  | .agg _ => K (.v (goInt n))
  | _ => .fail
 | _ => .fail
def aeB {R : Type} (P : Program) (L : List TO) (s d : TypeId) (x : TV) (K : TV → List TO → Tree R) : Tree R :=
 match P.underlying s, P.underlying d with
 | some (.slice e), some .string => if yo P e = true then a3X P L (.int .u8) s x fun xs => K (.v (.string (strOfNums xs))) L else .fail
 | some .string, some (.slice e) => match x with
  | .v (.string t) => if yo P e = true ∧ szT P e = some 1 then tif (t.size ≤ maxLen) (K (.ref L.length t.size) (L ++ [.li (.int .u8) e true (a1o t)])) else .fail
  | _ => .fail
 | some (.slice _), some (.slice e) => match x with
  | .ref id tot => if s = d ∧ yo P e = true then (match L[id]? with
   | some (.li _ _ _ xs) => tif (0 < tot ∧ xs.length = tot) (K x L)
   | _ => .fail) else .fail
  | _ => .fail
 | _, _ => match Vk x with
  | some v => ql (scT (vS P s d v)) fun d => K d L
  | none => .fail
def Jq (c : CT) (rows : List c.T) : List (Nat × TV) → Option (List c.T)
 | [] => some rows
 | (i, d) :: r => if QL d = true ∧ i < rows.length then match a3F c (wl d) with
   | some y => Jq c (rows.set i y) r
   | none => none
  else none
def KR {R : Type} (P : Program) (ty : TypeId → Option CT) (L : List TO) (t : TypeId) (len : Nat) (ps : List (Nat × TV)) (K : TV → List TO → Tree R) : Tree R :=
 match P.underlying t with
 | some (.slice e) => ql (ty e) fun c => ql ((vU P e).bind (a3F c)) fun z => if szT P e = some c.size ∧ len * c.size ≤ 16777216 ∧ len ≤ maxLen then
   (match a0a P L ps with
   | (ps', L', q) => ql (Jq c (List.replicate len z) ps') fun rows => chk q (K (.ref L'.length len) (L' ++ [.li c e true rows]))) else .fail
 | _ => .fail
def Y4 : TV → Bool
 | .fn _ _ _ => false
 | .slx _ _ => false
 | .mref _ => false
 | .agg _ => false
 | .tup _ => false
 | _ => true
def a6l (f : Fn) (a b : Option (List TV)) : Option TV := match f, a, b with
 | .func k, some a, some b => if a.all Y4 && b.all Y4 then some (.fn k a b) else none
 | _, _, _ => none
def acM {R : Type} (c : Option TV) (a b : Option TV) (K : TV → Tree R) : Tree R := match c with
 | some (.v (.bool t)) => match a, b with
  | some (.v (.bool x)), some (.v (.bool y)) => K (.v (.bool (cond t x y)))
  | a, b => .cond t (ql a K) (ql b K)
 | _ => .fail
def VT {R : Type} (P : Program) (ty : TypeId → Option CT) (t : TypeId) (x i : TV) (K : TV → Tree R) : Tree R :=
 match P.underlying t, x, Ug i with
 | some (.array len e), .agg cs, some n => match szT P e with
  | some s => tif (0 ≤ n ∧ n.toNat < len) (ql (Zz P e cs (n.toNat * s)) K)
  | none => .fail
 | some .string, .v (.string s), some n => tif (0 ≤ n) (KD s[n.toNat]? fun b => K (.v (.int .u8 b.toNat)))
 | _, _, _ => .fail
def vr (x : TV) (i : Nat) : Option TV := match x with
 | .tup xs => match xs[i]? with
  | some d => if QL d then some d else none
  | none => none
 | _ => none
def Jy : List TV → Option (List Value)
 | [] => some []
 | d :: l => match Vk d, Jy l with
  | some v, some vs => some (v :: vs)
  | _, _ => none
abbrev wD (R : Type) := FuncId → List TV → List TO → (TV → List TO → Tree R) → Tree R
def WM {R : Type} (P : Program) (ty : TypeId → Option CT) (call : wD R) (o : Op) (ρ : Zq) (L : List TO) (K : TV → List TO → Tree R) : Tree R :=
 match o with
 | .move x => ql (ρ x) fun d => K d L
 | .assign x => ql (ρ x) fun d => K d L
 | .pick c a b => acM (ρ c) (ρ a) (ρ b) fun d => K d L
 | .build t ps => ql (a0c ρ ps.toList) fun ds => ql (a0M P t ds) fun d => K d L
 | .field t x f => ql (ρ x) fun x => ql (a23 P t x f) fun d => K d L
 | .fieldAddr t x f => ql (ρ x) fun x => ql (afk P t f) fun k => ton L k x fun d => K d L
 | .unOp op _ x => ql (ρ x) fun x => ql (Vk x) fun v => ql (scT (unV op v)) fun d => K d L
 | .binOp op t x y _ => ql (ρ x) fun x => ql (ρ y) fun y => acH P op t x y fun d => K d L
 | .convert s d x => ql (ρ x) fun x => aeB P L s d x K
 | .makeFunc f a b => ql (a6l f (Wh ρ a.toList) (Wh ρ b.toList)) fun d => K d L
 | .indexAddr t x i => ql (ρ x) fun x => ql (ρ i) fun i => Q3 P L t x i fun d => K d L
 | .index t x i => ql (ρ x) fun x => ql (ρ i) fun i => VT P ty t x i fun d => K d L
 | .extract x i => ql (ρ x) fun x => ql (vr x i) fun d => K d L
 | .nilCheck x => ql (ρ x) fun x => ton L 0 x fun d => K d L
 | .load t x => ql (ρ x) fun x => a3O P L t x fun d => K d L
 | .store t x y => ql (ρ x) fun x => ql (ρ y) fun y => a2h P L t x y fun L' => K a7a L'
 | .slice t x lo hi none => ql (ρ x) fun x => ql (Uw ρ lo) fun lo => ql (Uw ρ hi) fun hi => a67 P L t x lo hi fun d => K d L
 | .box t x => ql (ρ x) fun x => if QL x = true ∧ szT P t = some (wl x).length then K (.ptr L.length 0) (L ++ [.st (wl x)]) else .fail
 | .alloc t => ql (vU P t) fun z => K (.ptr L.length 0) (L ++ [.st z])
 | .buildSlice t n ps => ql (a0c ρ ps.toList) fun ds => KR P ty L t n ds K
 | .call { callee := .value f, args := args, argTypes := _ } => ql (ρ f) fun f => ql (Wh ρ args.toList) fun ds => match f with
  | .fn k pre cap => if pre.all Y4 && cap.all Y4 then call k (pre ++ ds ++ cap) L K else .fail
  | _ => .fail
 | .call { callee := .builtin .append, args := args, argTypes := ts } => ql (Wh ρ args.toList) fun ds => match ds with
  | [s, x] => Yk P ty ts.toList L s x K
  | _ => .fail
 | .call { callee := .builtin .len, args := args, argTypes := ts } => ql (Wh ρ args.toList) fun ds => match ds, ts.toList with
  | [x], [t] => a8H P L t x fun d => K d L
  | _, _ => .fail
 | .call { callee := .builtin .min, args := args, argTypes := _ } => ql (Wh ρ args.toList) fun ds => ql (Jy ds) fun vs => ql (scT (a6z vs)) fun d => K d L
 | .call { callee := .builtin .max, args := args, argTypes := _ } => ql (Wh ρ args.toList) fun ds => ql (Jy ds) fun vs => ql (scT (a6t vs)) fun d => K d L
 | _ => .fail
end Go.Sim
