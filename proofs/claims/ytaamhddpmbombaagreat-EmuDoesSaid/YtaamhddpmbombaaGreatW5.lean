/- Part 5 of the claim EmuDoes: D14, D15, D16, D17, D18, D19, D20, D21, D22, T1, T2 -/
import Derived.Test.YtaamhddpmbombaaGreatW4
set_option linter.unusedSimpArgs false
set_option linter.unusedVariables false
set_option linter.defProp false
noncomputable section
namespace Go.Sim
open Go.RowKit
inductive VW : Value → Value → Prop
 | refl (v : Value) : VW v v
 | empty (b o c : Nat) : VW (.slice (some ⟨b, o, none⟩) 0 c) (.slice (some ⟨b, o, none⟩) 0 dud)
 | exact {u : Value} (h : u.oneCell' = true) : VW (Uk u) u
 | agg {xs ys : Array Value} (hl : xs.size = ys.size) (h : ∀ (i : Nat) (x y : Value), xs[i]? = some x → ys[i]? = some y → VW x y) : VW (.agg xs) (.agg ys)
 | tuple {xs ys : Array Value} (hl : xs.size = ys.size) (h : ∀ (i : Nat) (x y : Value), xs[i]? = some x → ys[i]? = some y → VW x y) : VW (.tuple xs) (.tuple ys)
theorem VRel.weak {β : Place} {v u : Value} (hw : VW v u) : ∀ {m : Value}, VRel β v m → VRel β u m := by
 induction hw with
 | refl v => exact fun h => h
 | empty b o c =>
  intro m h
  cases h with
  | slice h hc hn hm hr => exact .dud
  | dud => exact .dud
  | zero => exact .dud
 | exact h =>
  intro m q
  cases q with
  | exact q => exact q
  | func hf _ _ _ _ => cases hf
 | @agg xs ys hl _ ih =>
  intro m h
  cases h with
  | agg hx hh =>
   refine .agg (by omega) fun i v v' e1 e2 => ?_
   have hi : i < xs.size := by have := (Array.getElem?_eq_some_iff.1 e1).1; omega
   exact ih i xs[i] v (Array.getElem?_eq_getElem hi) e1 (hh i xs[i] v' (Array.getElem?_eq_getElem hi) e2)
 | @tuple xs ys hl _ ih =>
  intro m h
  cases h with
  | tuple hx hh =>
   refine .tuple (by omega) fun i v v' e1 e2 => ?_
   have hi : i < xs.size := by have := (Array.getElem?_eq_some_iff.1 e1).1; omega
   exact ih i xs[i] v (Array.getElem?_eq_getElem hi) e1 (hh i xs[i] v' (Array.getElem?_eq_getElem hi) e2)
theorem VRels.weak {β : Place} : ∀ {vs us ms : List Value}, All2 VW vs us → VRels β vs ms → VRels β us ms
 | _, _, _, .nil, .nil => .nil
 | _, _, _, .cons hw t, .cons h t' => .cons (h.weak hw) (VRels.weak t t')
theorem ACalls.vw {P : Program} {f : FuncId} {args : List Value} {h : Heap} {Q Q' : Value → Heap → Prop} (hc : ACalls P f args h Q) (hq : ∀ v h', Q v h' → ∃ u, VW v u ∧ Q' u h') : ACalls P f args h Q' :=
 ⟨hc.1, fun β w ms hv hr => (hc.2 β w ms hv hr).mono fun e w' ⟨mv, e1, v, h', β', a, b, c, d⟩ => by
  obtain ⟨u, h1, h2⟩ := hq v h' d
  exact ⟨mv, e1, u, h', β', a.weak h1, b, c, h2⟩⟩
theorem ACalls.args {P : Program} {f : FuncId} {args us : List Value} {h : Heap} {Q : Value → Heap → Prop} (hw : All2 VW args us) (hc : ACalls P f us h Q) : ACalls P f args h Q :=
 ⟨hc.1, fun β w ms hv hr => hc.2 β w ms (hv.weak hw) hr⟩
abbrev Sel := List (Option Nat)
def unB (sel : Sel) : DV → Option DV
 | .p x => some (.p x)
 | .ptr id off => match sel[id]? with
  | some (some k) => some (.ptr k off)
  | _ => none
 | .ep id i off tot => match sel[id]? with
  | some (some k) => some (.ep k i off tot)
  | _ => none
 | .dp row off => some (.dp row off)
 | .ref id lo n tot => match sel[id]? with
  | some (some k) => some (.ref k lo n tot)
  | some none => if lo = 0 ∧ n = 0 ∧ tot = 0 then some (.p (.v (.slice none 0 0))) else none
  | none => none
 | .aref id off n => match sel[id]? with
  | some (some k) => some (.aref k off n)
  | _ => none
 | .cx z rows => some (.cx z rows)
 | .mref id => match sel[id]? with
  | some (some k) => some (.mref k)
  | _ => none
 | _ => none
def JN (sel : Sel) : List DV → Option (List DV)
 | [] => some []
 | d :: l => match unB sel d, JN sel l with
  | some d, some l => some (d :: l)
  | _, _ => none
def unC (sel : Sel) : DV → Option DV
 | .fn f pre cap => match JN sel pre, JN sel cap with
  | some a, some b => some (.fn f a b)
  | _, _ => none
 | d => unB sel d
def ad0 (sel : Sel) : List DV → Option (List DV)
 | [] => some []
 | d :: l => match unC sel d, ad0 sel l with
  | some d, some l => some (d :: l)
  | _, _ => none
def un1 (sel : Sel) : DV → Option DV
 | .agg xs => (ad0 sel xs).map .agg
 | d => unC sel d
def am1 (sel : Sel) : List DV → Option (List DV)
 | [] => some []
 | d :: l => match un1 sel d, am1 sel l with
  | some d, some l => some (d :: l)
  | _, _ => none
def unD (sel : Sel) : DV → Option DV
 | .tup xs => (am1 sel xs).map .tup
 | d => un1 sel d
def unP : PV → PV → Prop
 | .sl _ rows, .v (.slice none 0 0) => rows = []
 | x, y => x = y
def unX (sel : Sel) : DV → DV → Prop
 | .p (.sl _ rows), .p (.v (.slice none 0 0)) => rows = []
 | d', d => unC sel d' = some d
def K8 (rows rows' : List (List PV)) : Prop := rows = rows' ∨ All2 (All2 unP) rows rows'
theorem alp {P : Program} {S : Nat → Prop} {h : Heap} {x' x : PV} {v : Value} (e : unP x' x) (hx : PR P S h x v) : PR P S h x' v := by
 unfold unP at e
 split at e
 ·subst e
  rw [hx.scal]
  exact .nil
 ·subst e; exact hx
theorem Kg {rows rows' : List (List PV)} (e : K8 rows rows') : rows.length = rows'.length := by
 rcases e with rfl | e
 ·rfl
 ·exact e.length
theorem xo {rows rows' : List (List PV)} (e : K8 rows rows') {z : Nat} (h : ∀ r ∈ rows, r.length = z) : ∀ r ∈ rows', r.length = z := by
 rcases e with rfl | e
 ·exact h
 ·intro r hr
  obtain ⟨i, hi, rfl⟩ := List.getElem_of_mem hr
  obtain ⟨r', h1, h2⟩ := e.get' (List.getElem?_eq_getElem hi)
  rw [← h2.length]
  exact h _ (List.mem_of_getElem? h1)
theorem abg {rows rows' : List (List PV)} (e : K8 rows rows') {z : Nat} (h : ∀ r ∈ rows', r.length = z) : ∀ r ∈ rows, r.length = z := by
 rcases e with rfl | e
 ·exact h
 ·intro r hr
  obtain ⟨i, hi, rfl⟩ := List.getElem_of_mem hr
  obtain ⟨r', h1, h2⟩ := e.get (List.getElem?_eq_getElem hi)
  rw [h2.length]
  exact h _ (List.mem_of_getElem? h1)
theorem ag4 {rows rows' : List (List PV)} (e : K8 rows rows') {i j : Nat} {r : List PV} {x : PV} (h1 : rows[i]? = some r) (h2 : r[j]? = some x) : ∃ r' x', rows'[i]? = some r' ∧ r'[j]? = some x' ∧ unP x x' := by
 rcases e with rfl | e
 ·exact ⟨r, x, h1, h2, by cases x <;> rfl⟩
 ·obtain ⟨r', a1, a2⟩ := e.get h1
  obtain ⟨x', b1, b2⟩ := a2.get h2
  exact ⟨r', x', a1, b1, b2⟩
theorem Rows.of_w {P : Program} {S : Nat → Prop} {h : Heap} {b q : Nat} {te : TypeId} {rows rows' : List (List PV)} (e : K8 rows rows') (hr : Rows P S h b q te rows') : Rows P S h b q te rows := by
 obtain ⟨cs, z, a1, a2, a3, a4, a5, a6, a7⟩ := hr
 have hl := Kg e
 refine ⟨cs, z, a1, a2, a3, by rw [hl]; exact a4, by rw [hl]; exact a5, abg e a6, fun i r j x u b1 b2 b3 => ?_⟩
 obtain ⟨r', x', c1, c2, c3⟩ := ag4 e b1 b2
 exact alp c3 (a7 i r' j x' u c1 c2 b3)
theorem WL {rows rows' : List (List PV)} (e : K8 rows rows') (h : rows' = []) : rows = [] := by
 have := Kg e
 subst h
 exact List.length_eq_zero_iff.1 this
def unO (sel : Sel) : Obj → Obj → Prop
 | .st cells, .st cells' => All2 (unX sel) cells cells'
 | .li e rows, .li e' rows' => e = e' ∧ K8 rows rows'
 | .fz e rows, .li e' rows' => e = e' ∧ K8 rows rows'
 | .fz e rows, .fz e' rows' => e = e' ∧ K8 rows rows'
 | .mp es, .mp es' => All2 (fun a b => a.1 = b.1 ∧ un1 sel a.2 = some b.2) es es'
 | .dead, .li _ _ => True
 | .dead, .fz _ _ => True
 | .dead, .dead => True
 | _, _ => False
theorem agW {sel : Sel} {o' o : Obj} (h : unO sel o' o) (hd : o'.owns = true) : o.owns = true := by
 cases o' with
 | st c => cases o <;> first | exact h.elim | rfl
 | mp c => cases o <;> first | exact h.elim | rfl
 | li e r => cases o with
  | li e' r' => obtain ⟨rfl, -⟩ := h; cases e <;> exact hd
  | _ => exact h.elim
 | fz e r => cases hd
 | dead => cases hd
structure SelOk (L : List Obj) (sel : Sel) (L' : List Obj) : Prop where
 len : sel.length = L'.length
 inj : ∀ (i j k : Nat), sel[i]? = some (some k) → sel[j]? = some (some k) → i = j
 old : ∀ (i k : Nat) (o' : Obj), sel[i]? = some (some k) → L'[i]? = some o' → ∃ o, L[k]? = some o ∧ unO sel o' o
 fresh : ∀ (i : Nat) (o' : Obj), sel[i]? = some none → L'[i]? = some o' → o' = .li none []
def qZ (γ : Pl) (sel : Sel) : Pl := fun i => match sel[i]? with
 | some (some k) => γ k
 | _ => none
section
variable {P : Program} {γ : Pl} {L L' : List Obj} {h : Heap} {h0 : Heap} {W0 : Ent} {sel : Sel}
theorem zC {i k : Nat} (e : sel[i]? = some (some k)) : qZ γ sel i = γ k := by unfold qZ; rw [e]
theorem a7b {i : Nat} (e : sel[i]? = some none) : qZ γ sel i = none := by unfold qZ; rw [e]
theorem SelOk.at (ok : SelOk L sel L') {i : Nat} {o' : Obj} (hi : L'[i]? = some o') : ∃ s, sel[i]? = some s := by
 have : i < L'.length := (List.getElem?_eq_some_iff.1 hi).1
 rw [← ok.len] at this
 exact ⟨_, List.getElem?_eq_getElem this⟩
theorem SelOk.owns (ok : SelOk L sel L') {i : Nat} {o' : Obj} (hi : L'[i]? = some o') (hd : o'.owns = true) : ∃ k o, sel[i]? = some (some k) ∧ L[k]? = some o ∧ o.owns = true := by
 obtain ⟨s, hs⟩ := ok.at hi
 cases s with
 | none => rw [ok.fresh i o' hs hi] at hd; cases hd
 | some k =>
  obtain ⟨o, h1, h2⟩ := ok.old i k o' hs hi
  refine ⟨k, o, hs, h1, ?_⟩
  exact agW h2 hd
theorem Q9 (ok : SelOk L sel L') {b : Nat} (hb : qe W0 γ L h b) : qe W0 (qZ γ sel) L' h b := by
 refine ⟨hb.1, hb.2.1, fun i o' x hi hd hg => ?_⟩
 obtain ⟨k, o, e1, e2, e3⟩ := ok.owns hi hd
 rw [zC e1] at hg
 exact hb.2.2 k o x e2 e3 hg
theorem aa6 (ok : SelOk L sel L') {x : PV} {v : Value} (hx : PR P (qe W0 γ L h) h x v) : PR P (qe W0 (qZ γ sel) L' h) h x v := hx.mono fun _ hb => ⟨Q9 ok hb, rfl⟩
theorem a84 (ok : SelOk L sel L') {i k : Nat} {o' : Obj} {rows : List (List PV)} (e : sel[i]? = some (some k)) (hi : L'[i]? = some o') (hl : o'.isList rows) : ∃ o rows', L[k]? = some o ∧ o.isList rows' ∧ K8 rows rows' := by
 obtain ⟨o, h1, h2⟩ := ok.old i k o' e hi
 refine ⟨o, ?_⟩
 cases o' <;> cases o <;> first | exact h2.elim | exact hl.elim | (obtain ⟨rfl, h3⟩ := h2; cases hl; exact ⟨_, h1, rfl, h3⟩)
theorem aaa (ok : SelOk L sel L') {id k : Nat} {c : List DV} (hs : sel[id]? = some (some k)) (h2 : L[k]? = some (.st c)) : ∃ c', L'[id]? = some (.st c') := by
 have hlt : id < L'.length := by rw [← ok.len]; exact (List.getElem?_eq_some_iff.1 hs).1
 obtain ⟨o, g1, g2⟩ := ok.old id k _ hs (List.getElem?_eq_getElem hlt)
 rw [h2] at g1; cases g1
 rw [List.getElem?_eq_getElem hlt]
 cases ho : L'[id] <;> rw [ho] at g2 <;> first | exact ⟨_, rfl⟩ | exact g2.elim
theorem al2 (ok : SelOk L sel L') {id k : Nat} {c : List (Value × DV)} (hs : sel[id]? = some (some k)) (h2 : L[k]? = some (.mp c)) : ∃ c', L'[id]? = some (.mp c') := by
 have hlt : id < L'.length := by rw [← ok.len]; exact (List.getElem?_eq_some_iff.1 hs).1
 obtain ⟨o, g1, g2⟩ := ok.old id k _ hs (List.getElem?_eq_getElem hlt)
 rw [h2] at g1; cases g1
 rw [List.getElem?_eq_getElem hlt]
 cases ho : L'[id] <;> rw [ho] at g2 <;> first | exact ⟨_, rfl⟩ | exact g2.elim
theorem aeR (H : Hp P h0 W0 γ L h) (ok : SelOk L sel L') {d' d : DV} {v : Value} (e : unB sel d' = some d) (hd : DB P (qe W0 γ L h) γ L h d v) : DB P (qe W0 (qZ γ sel) L' h) (qZ γ sel) L' h d' v := by
 cases d' with
 | p x => cases e; exact aa6 ok hd
 | dp row off =>
  cases e
  obtain ⟨b, o, cs, te, rw, h1, h2, h3, h4, h5⟩ := hd
  exact ⟨b, o, cs, te, rw, Q9 ok h1, h2, h3, h4, fun j x u a c => aa6 ok (h5 j x u a c)⟩
 | ptr id off =>
  unfold unB at e
  cases hs : sel[id]? with
  | none => simp only [hs] at e; cases e
  | some s =>
   cases s with
   | none => simp only [hs] at e; cases e
   | some k =>
    simp only [hs] at e; cases e
    obtain ⟨b, h1, ⟨c, h2⟩, h3⟩ := hd
    exact ⟨b, (zC hs).trans h1, aaa ok hs h2, h3⟩
 | aref id off n =>
  unfold unB at e
  cases hs : sel[id]? with
  | none => simp only [hs] at e; cases e
  | some s =>
   cases s with
   | none => simp only [hs] at e; cases e
   | some k =>
    simp only [hs] at e; cases e
    obtain ⟨b, h1, ⟨c, h2⟩, h3⟩ := hd
    exact ⟨b, (zC hs).trans h1, aaa ok hs h2, h3⟩
 | ep id i off tot =>
  unfold unB at e
  cases hs : sel[id]? with
  | none => simp only [hs] at e; cases e
  | some s =>
   cases s with
   | none => simp only [hs] at e; cases e
   | some k =>
    simp only [hs] at e; cases e
    have hlt : id < L'.length := by rw [← ok.len]; exact (List.getElem?_eq_some_iff.1 hs).1
    obtain ⟨k1, k2, k3⟩ := hd
    refine ⟨hlt, k2, fun o' rows e1 e2 => ?_⟩
    obtain ⟨o, rows', g1, g2, g3⟩ := a84 ok hs e1 e2
    rw [zC hs]
    obtain ⟨m1, m2⟩ := k3 o rows' g1 g2
    have hl := Kg g3
    refine ⟨by rw [hl]; exact m1, fun hq => ?_⟩
    obtain ⟨m3, m4⟩ := m2 (by rw [← hl]; exact hq)
    exact ⟨m3, fun z hz => m4 z (xo g3 hz)⟩
 | ref id lo n tot =>
  unfold unB at e
  cases hs : sel[id]? with
  | none => simp only [hs] at e; cases e
  | some s =>
   have hlt : id < L'.length := by rw [← ok.len]; exact (List.getElem?_eq_some_iff.1 hs).1
   cases s with
   | none =>
    simp only [hs] at e
    split at e
    ·rename_i hc
     obtain ⟨rfl, rfl, rfl⟩ := hc
     cases e
     have : v = .slice none 0 0 := PR.scal (P := P) (S := qe W0 γ L h) (h := h) hd
     subst this
     refine ⟨hlt, rfl, fun o' rows e1 e2 => ?_⟩
     have := ok.fresh id o' hs e1
     subst this
     cases e2
     exact ⟨Nat.le_refl _, fun _ => ⟨by omega, fun z _ => .inl ⟨.inl rfl, rfl, a7b hs⟩⟩⟩
    ·cases e
   | some k =>
    simp only [hs] at e; cases e
    obtain ⟨k1, k2, k3⟩ := hd
    refine ⟨hlt, k2, fun o' rows e1 e2 => ?_⟩
    obtain ⟨o, rows', g1, g2, g3⟩ := a84 ok hs e1 e2
    unfold ai7
    rw [zC hs]
    obtain ⟨m1, m2⟩ := k3 o rows' g1 g2
    have hl := Kg g3
    refine ⟨by rw [hl]; exact m1, fun hq => ?_⟩
    obtain ⟨m3, m4⟩ := m2 (by rw [← hl]; exact hq)
    exact ⟨m3, fun z hz => m4 z (xo g3 hz)⟩
 | cx z rows => cases e; exact CxV.mono (fun b hb => ⟨Q9 ok hb, rfl⟩) hd
 | mref id =>
  unfold unB at e
  cases hs : sel[id]? with
  | none => simp only [hs] at e; cases e
  | some s =>
   cases s with
   | none => simp only [hs] at e; cases e
   | some k =>
    simp only [hs] at e; cases e
    obtain ⟨b, h1, ⟨c, h2⟩, h3⟩ := hd
    exact ⟨b, (zC hs).trans h1, al2 ok hs h2, h3⟩
 | fn => cases e
 | agg => cases e
 | tup => cases e
theorem a4b (H : Hp P h0 W0 γ L h) (ok : SelOk L sel L') : ∀ {ds' ds : List DV} {vs : List Value}, JN sel ds' = some ds → All2 (DB P (qe W0 γ L h) γ L h) ds vs → All2 (DB P (qe W0 (qZ γ sel) L' h) (qZ γ sel) L' h) ds' vs
 | [], _, _, e, hd => by cases e; cases hd; exact .nil
 | d' :: ds', _, _, e, hd => by
  unfold JN at e
  cases h1 : unB sel d' with
  | none => simp only [h1] at e; cases e
  | some d =>
   cases h2 : JN sel ds' with
   | none => simp only [h1, h2] at e; cases e
   | some ds =>
    simp only [h1, h2] at e; cases e
    cases hd with
    | cons a b => exact .cons (aeR H ok h1 a) (a4b H ok h2 b)
theorem a8S (H : Hp P h0 W0 γ L h) (ok : SelOk L sel L') {d' d : DV} {v : Value} (e : unC sel d' = some d) (hd : DC P (qe W0 γ L h) γ L h d v) : DC P (qe W0 (qZ γ sel) L' h) (qZ γ sel) L' h d' v := by
 have key : ∀ d', (∀ f a b, d' ≠ .fn f a b) → unB sel d' = some d → DC P (qe W0 (qZ γ sel) L' h) (qZ γ sel) L' h d' v := by
  intro d' hn e
  have hb : DB P (qe W0 γ L h) γ L h d v := by
   cases d with
   | fn f a b =>
    cases d' <;> (unfold unB at e) <;> (try split at e) <;> (try split at e) <;> (try split at e) <;> cases e
   | p => exact hd
   | ptr => exact hd
   | ep => exact hd
   | dp => exact hd
   | ref => exact hd
   | aref => exact hd
   | mref => exact hd
   | cx => exact hd
   | agg => exact hd.elim
   | tup => exact hd.elim
  have := aeR H ok e hb
  cases d' <;> first | exact this | exact absurd rfl (hn _ _ _)
 cases d' with
 | fn f pre cap =>
  unfold unC at e
  cases h1 : JN sel pre with
  | none => simp only [h1] at e; cases e
  | some p =>
   cases h2 : JN sel cap with
   | none => simp only [h1, h2] at e; cases e
   | some c =>
    simp only [h1, h2] at e; cases e
    obtain ⟨as, bs, rfl, a1, a2⟩ := hd
    exact ⟨as, bs, rfl, a4b H ok h1 a1, a4b H ok h2 a2⟩
 | _ => exact key _ (by intro f a b e; cases e) e
theorem ac5 (H : Hp P h0 W0 γ L h) (ok : SelOk L sel L') : ∀ {ds' ds : List DV} {vs : List Value}, ad0 sel ds' = some ds → All2 (DC P (qe W0 γ L h) γ L h) ds vs → All2 (DC P (qe W0 (qZ γ sel) L' h) (qZ γ sel) L' h) ds' vs
 | [], _, _, e, hd => by cases e; cases hd; exact .nil
 | d' :: ds', _, _, e, hd => by
  unfold ad0 at e
  cases h1 : unC sel d' with
  | none => simp only [h1] at e; cases e
  | some d =>
   cases h2 : ad0 sel ds' with
   | none => simp only [h1, h2] at e; cases e
   | some ds =>
    simp only [h1, h2] at e; cases e
    cases hd with
    | cons a b => exact .cons (a8S H ok h1 a) (ac5 H ok h2 b)
theorem alu {d d' : DV} (e : unC sel d' = some d) : ∀ xs, d ≠ .agg xs := by
 intro xs hx
 subst hx
 cases d' with
 | fn f a b =>
  unfold unC at e
  cases h1 : JN sel a with
  | none => simp only [h1] at e; cases e
  | some p =>
   cases h2 : JN sel b with
   | none => simp only [h1, h2] at e; cases e
   | some c => simp only [h1, h2] at e; cases e
 | _ =>
  simp only [unC, unB] at e
  all_goals (repeat' split at e)
  all_goals cases e
theorem aip (H : Hp P h0 W0 γ L h) (ok : SelOk L sel L') {d' d : DV} {v : Value} (e : un1 sel d' = some d) (hd : D1 P (qe W0 γ L h) γ L h d v) : D1 P (qe W0 (qZ γ sel) L' h) (qZ γ sel) L' h d' v := by
 have key : un1 sel d' = unC sel d' → D1 P (qe W0 (qZ γ sel) L' h) (qZ γ sel) L' h d' v := fun q => by
  rw [q] at e
  exact Kq (a8S H ok e (Kt hd (alu e)))
 cases d' with
 | agg xs =>
  simp only [un1] at e
  cases hx : ad0 sel xs with
  | none => rw [hx] at e; cases e
  | some ys =>
   rw [hx] at e; cases e
   obtain ⟨vs, rfl, h1⟩ := hd
   exact ⟨vs, rfl, ac5 H ok hx h1⟩
 | _ => exact key rfl
theorem a9C (H : Hp P h0 W0 γ L h) (ok : SelOk L sel L') {d' d : DV} {v : Value} (e : unX sel d' d) (hd : DC P (qe W0 γ L h) γ L h d v) : DC P (qe W0 (qZ γ sel) L' h) (qZ γ sel) L' h d' v := by
 unfold unX at e
 split at e
 ·subst e
  have : v = .slice none 0 0 := PR.scal (P := P) (S := qe W0 γ L h) (h := h) hd
  subst this
  exact PR.nil
 ·exact a8S H ok e hd
theorem abM (H : Hp P h0 W0 γ L h) (ok : SelOk L sel L') : ∀ {ds' ds : List DV} {vs : List Value}, All2 (unX sel) ds' ds → All2 (DC P (qe W0 γ L h) γ L h) ds vs → All2 (DC P (qe W0 (qZ γ sel) L' h) (qZ γ sel) L' h) ds' vs
 | _, _, _, .nil, .nil => .nil
 | _, _, _, .cons e t, .cons hd t' => .cons (a9C H ok e hd) (abM H ok t t')
theorem Hp.allowed (H : Hp P h0 W0 γ L h) {id b x : Nat} {o : Obj} (hi : L[id]? = some o) (hd : o.owns = true) (hg : γ id = some (b, x)) : W0.start ≤ b ∨ W0.A b := by
 rw [H.start]
 exact (H.new id o b x hi hd hg).imp_right (W0.sub b)
theorem Hp.select (H : Hp P h0 W0 γ L h) (ok : SelOk L sel L') (hpin : ∀ id b, W0.pin id b → sel[id]? = some (some id)) : Hp P h0 W0 (qZ γ sel) L' h := by
 refine ⟨H.start, fun id b e => (let ⟨a, c, b'⟩ := H.pin id b e; ⟨(zC (hpin id b e)).trans a, aaa ok (hpin id b e) b'⟩), fun i o' hi => ?_, fun i j o1 o2 b x x' e1 e2 d1 d2 g1 g2 => ?_, fun i x e => ?_, fun i o' b x hi hd hg => ?_, H.next, H.frame⟩
 ·obtain ⟨s, hs⟩ := ok.at hi
  cases s with
  | none =>
   have := ok.fresh i o' hs hi
   subst this
   exact ⟨rfl, a7b hs⟩
  | some k =>
   obtain ⟨o, h1, h2⟩ := ok.old i k o' hs hi
   have ho := H.obj k o h1
   have rr : ∀ {b q te rows}, Rows P (qe W0 γ L h) h b q te rows → Rows P (qe W0 (qZ γ sel) L' h) h b q te rows := by
    rintro b q te rows ⟨cs, z, a1, a2, a3, a4, a5, a6, a7⟩
    exact ⟨cs, z, a1, a2, a3, a4, a5, a6, fun i r j x u b1 b2 b3 => aa6 ok (a7 i r j x u b1 b2 b3)⟩
   cases o' with
   | dead => trivial
   | mp es =>
    cases o with
    | mp es' =>
     obtain ⟨b, mes, ck, g1, g2, g3⟩ := ho
     refine ⟨b, mes, ck, (zC hs).trans g1, g2, ?_⟩
     refine All2.of_get (by rw [(show All2 _ es es' from h2).length, g3.length]) fun i a e1 ha he1 => ?_
     obtain ⟨a', q1, q2, q3⟩ := (show All2 _ es es' from h2).get ha
     obtain ⟨e2, q4, q5, q6⟩ := g3.get q1
     rw [he1] at q4; cases q4
     exact ⟨q5.trans q2.symm, aip H ok q3 q6⟩
    | _ => exact h2.elim
   | st cells =>
    cases o with
    | st cells' =>
     obtain ⟨b, te, vs, g1, g2, g3⟩ := ho
     exact ⟨b, te, vs, (zC hs).trans g1, g2, abM H ok h2 g3⟩
    | _ => exact h2.elim
   | li te rows =>
    cases o with
    | li te' rows' =>
     obtain ⟨rfl, hw⟩ := h2
     cases te with
     | none => exact ⟨WL hw ho.1, (zC hs).trans ho.2⟩
     | some te =>
      obtain ⟨b, q, g1, g2⟩ := ho
      exact ⟨b, q, (zC hs).trans g1, rr (g2.of_w hw)⟩
    | _ => exact h2.elim
   | fz te rows =>
    cases o with
    | fz te' rows' =>
     obtain ⟨rfl, hw⟩ := h2
     cases te with
     | none => exact ⟨WL hw ho.1, (zC hs).trans ho.2⟩
     | some te =>
      obtain ⟨b, q, g1, g2, g3⟩ := ho
      exact ⟨b, q, (zC hs).trans g1, Q9 ok g2, rr (g3.of_w hw)⟩
    | li te' rows' =>
     obtain ⟨rfl, hw⟩ := h2
     cases te with
     | none => exact ⟨WL hw ho.1, (zC hs).trans ho.2⟩
     | some te =>
      obtain ⟨b, q, g1, g2⟩ := ho
      refine ⟨b, q, (zC hs).trans g1, ⟨?_, H.allowed h1 rfl g1, fun j oj x hj hd hg => ?_⟩, rr (g2.of_w hw)⟩
      ·obtain ⟨cs, z, a1, _⟩ := g2
       exact h.wf _ _ a1
      ·obtain ⟨kj, ok', f1, f2, f3⟩ := ok.owns hj hd
       rw [zC f1] at hg
       have hkk := H.inj k kj _ ok' b q x h1 f2 rfl f3 g1 hg
       subst hkk
       have hij := ok.inj i j k hs f1
       subst hij
       rw [hi] at hj
       cases hj
       cases hd
    | _ => exact h2.elim
 ·obtain ⟨k1, q1, a1, a2, a3⟩ := ok.owns e1 d1
  obtain ⟨k2, q2, b1, b2, b3⟩ := ok.owns e2 d2
  rw [zC a1] at g1
  rw [zC b1] at g2
  have := H.inj k1 k2 q1 q2 b x x' a2 b2 a3 b3 g1 g2
  subst this
  exact ok.inj i j k1 a1 b1
 ·unfold qZ at e
  split at e
  ·rename_i k hs
   rw [← ok.len]; exact (List.getElem?_eq_some_iff.1 hs).1
  ·cases e
 ·obtain ⟨k1, q1, a1, a2, a3⟩ := ok.owns hi hd
  rw [zC a1] at hg
  exact H.new k1 q1 b x a2 a3 hg
def wkC (P : Program) (L : List Obj) (sel : Sel) : DV → DV → Prop
 | .p (.sl z rows), .ref id lo n tot => some id ∉ sel ∧ ∃ rs, zT L id tot = some rs ∧ rows = (rs.drop lo).take n ∧ ∀ te, L[id]?.bind y9 = some te → szT P te = some z
 | .p (.sl z rows), .cx z' rows' => z = z' ∧ rows = rows'
 | d', d => unX sel d' d
def wk1 (P : Program) (L : List Obj) (sel : Sel) : DV → DV → Prop
 | .agg xs, .agg ys => All2 (wkC P L sel) xs ys
 | d', d => wkC P L sel d' d
def wkD (P : Program) (L : List Obj) (sel : Sel) : DV → DV → Prop
 | .tup xs, .tup ys => All2 (wk1 P L sel) xs ys
 | d', d => wk1 P L sel d' d
theorem a94 (H : Hp P h0 W0 γ L h) {S : Nat → Prop} {id lo n tot z : Nat} {v : Value} {rs : List (List PV)} (hd : DB P (qe W0 γ L h) γ L h (.ref id lo n tot) v) (hr : zT L id tot = some rs)
  (hz : ∀ te, L[id]?.bind y9 = some te → szT P te = some z) (hS : ∀ b x, γ id = some (b, x) → b < h.next → S b) (hF : ∀ b, qe W0 γ L h b → S b) : ∃ u, VW v u ∧ PR P S h (.sl z ((rs.drop lo).take n)) u := by
 obtain ⟨q, q1, q2, q3⟩ := jv hr
 obtain ⟨k1, k2, k3⟩ := hd
 obtain ⟨k4, k5⟩ := k3 q rs q1 q2
 obtain ⟨k6, k7⟩ := k5 q3
 obtain ⟨z0, hz0⟩ := H.width q1 q2
 have hlen : ((rs.drop lo).take n).length = n := by simp; omega
 have hun : unk > maxLen := by decide
 have hno : qN > maxLen := by decide
 rcases k7 z0 hz0 with ⟨rfl | ⟨b, o, rfl⟩, h1, h2⟩ | ⟨b, o, c, rfl, h1, h2⟩ | ⟨b, o, c, g, rfl, d1, d2, d3⟩
 ·have : (rs.drop lo).take n = [] := List.length_eq_zero_iff.1 (by rw [hlen]; omega)
  rw [this]
  exact ⟨_, .refl _, .nil⟩
 ·have : (rs.drop lo).take n = [] := List.length_eq_zero_iff.1 (by rw [hlen]; omega)
  rw [this]
  exact ⟨_, .empty b o 0, .dud⟩
 ·have : (rs.drop lo).take n = [] := List.length_eq_zero_iff.1 (by rw [hlen]; exact h1)
  rw [this]
  exact ⟨_, .empty b o c, .dud⟩
 ·obtain ⟨te', cs, z', r1, r2, r3, r4, r5, r6, r7⟩ := H.rows q1 q2 g
  have hte : L[id]?.bind y9 = some te' := by
   rw [q1]
   have ho := H.obj id q q1
   cases q with
   | li tq rs' =>
    cases tq with
    | none => rw [ho.2] at g; cases g
    | some tq =>
     obtain ⟨b', o', g', cs', zz, s1, s2, _⟩ := ho
     rw [g] at g'; cases g'
     rw [r1] at s1; cases s1; rfl
   | fz tq rs' =>
    cases tq with
    | none => rw [ho.2] at g; cases g
    | some tq =>
     obtain ⟨b', o', g', _, cs', zz, s1, s2, _⟩ := ho
     rw [g] at g'; cases g'
     rw [r1] at s1; cases s1; rfl
   | st => exact q2.elim
   | mp => exact q2.elim
   | dead => exact q2.elim
  have hzz : z' = z := by have := hz te' hte; rw [r2] at this; cases this; rfl
  subst hzz
  by_cases hn : n = 0
  ·subst hn
   rw [List.take_zero]
   exact ⟨_, .empty b (o + lo * z0) c, .dud⟩
  ·have hne : 0 < rs.length := by omega
   have hz00 : z0 = z' := by rw [← r6 _ (List.getElem_mem hne), hz0 _ (List.getElem_mem hne)]
   subst hz00
   refine ⟨_, .refl _, ?_⟩
   have hmul : (lo + n) * z0 ≤ rs.length * z0 := Nat.mul_le_mul_right _ (by omega)
   rw [Nat.add_mul] at hmul
   have := PR.sl (P := P) (S := S) (h := h) (rows := (rs.drop lo).take n) (b := b) (o := o + lo * z0) (c := c) (z := z0) (hS b o g (h.wf _ _ r1)) r1 r3 (by rw [hlen]; omega)
    (fun i r e1 => by
     rw [List.getElem?_take] at e1
     split at e1
     ·rw [List.getElem?_drop] at e1; exact r6 r (List.mem_of_getElem? e1)
     ·cases e1)
    (fun i r j x u e1 e2 e3 => by
     rw [List.getElem?_take] at e1
     split at e1
     ·rw [List.getElem?_drop] at e1
      exact (r7 (lo + i) r j x u e1 e2 (by rw [← e3]; congr 1; rw [Nat.add_mul]; omega)).mono fun b hb => ⟨hF b hb, rfl⟩
     ·cases e1) (by
      rw [hlen]
      refine .inr ⟨rfl, r2, ?_⟩
      exact d3) (by rw [hlen]; omega)
   rw [hlen] at this
   exact this
theorem a2f (H : Hp P h0 W0 γ L h) (ok : SelOk L sel L') {d' d : DV} {v : Value} (e : wkC P L sel d' d) (hd : DC P (qe W0 γ L h) γ L h d v) : ∃ u, VW v u ∧ DC P (qe W0 (qZ γ sel) L' h) (qZ γ sel) L' h d' u := by
 unfold wkC at e
 split at e
 ·rename_i z rows id lo n tot
  obtain ⟨e1, rs, e2, rfl, e3⟩ := e
  refine a94 H hd e2 e3 (fun b x hg hlt => ?_) (fun b hb => Q9 ok hb)
  obtain ⟨q, q1, q2, q3⟩ := jv e2
  by_cases hq : q.owns = true
  case neg =>
   have ho := H.obj id q q1
   cases q with
   | li te rs' =>
    cases te with
    | none => rw [ho.2] at hg; cases hg
    | some te => exact absurd rfl hq
   | fz te rs' =>
    cases te with
    | none => rw [ho.2] at hg; cases hg
    | some te =>
     obtain ⟨b', o'', g', hS, _⟩ := ho
     rw [hg] at g'; cases g'
     exact Q9 ok hS
   | st => exact q2.elim
   | mp => exact q2.elim
   | dead => exact q2.elim
  refine ⟨hlt, H.allowed q1 hq hg, fun i o' y hi hd' hg' => ?_⟩
  obtain ⟨k, o, f1, f2, f3⟩ := ok.owns hi hd'
  rw [zC f1] at hg'
  have := H.inj id k q o b x y q1 f2 hq f3 hg hg'
  subst this
  exact e1 (List.mem_of_getElem? f1)
 ·obtain ⟨rfl, rfl⟩ := e
  obtain ⟨_, ⟨u, rfl, h1, h2⟩ | ⟨_, _, rfl, h2⟩⟩ := hd
  ·exact ⟨u, .exact h1, h2.mono fun b hb => ⟨Q9 ok hb, rfl⟩⟩
  ·exact ⟨_, .refl _, h2.mono fun b hb => ⟨Q9 ok hb, rfl⟩⟩
 ·exact ⟨v, .refl v, a9C H ok e hd⟩
theorem Ub (H : Hp P h0 W0 γ L h) (ok : SelOk L sel L') : ∀ {ds' ds : List DV} {vs : List Value}, All2 (wkC P L sel) ds' ds → All2 (DC P (qe W0 γ L h) γ L h) ds vs → ∃ us, All2 VW vs us ∧ All2 (DC P (qe W0 (qZ γ sel) L' h) (qZ γ sel) L' h) ds' us
 | _, _, _, .nil, .nil => ⟨[], .nil, .nil⟩
 | _, _, _, .cons e t, .cons hd t' => by
  obtain ⟨u, a1, a2⟩ := a2f H ok e hd
  obtain ⟨us, b1, b2⟩ := Ub H ok t t'
  exact ⟨u :: us, .cons a1 b1, .cons a2 b2⟩
theorem a1A (H : Hp P h0 W0 γ L h) (ok : SelOk L sel L') {d' d : DV} {v : Value} (e : wk1 P L sel d' d) (hd : D1 P (qe W0 γ L h) γ L h d v) : ∃ u, VW v u ∧ D1 P (qe W0 (qZ γ sel) L' h) (qZ γ sel) L' h d' u := by
 unfold wk1 at e
 split at e
 ·rename_i xs ys
  obtain ⟨vs, rfl, h1⟩ := hd
  obtain ⟨us, a1, a2⟩ := Ub H ok e h1
  refine ⟨.agg us.toArray, .agg ?_ fun i x y e1 e2 => ?_, us.toArray, rfl, by simpa using a2⟩
  ·have := a1.length; simpa using this
  ·obtain ⟨u, b1, b2⟩ := a1.get (i := i) (a := x) (by simpa using e1)
   have : us[i]? = some y := by simpa using e2
   rw [this] at b1; cases b1
   exact b2
 ·rename_i hne
  have hc : DC P (qe W0 γ L h) γ L h d v := by
   refine Kt hd fun ys hy => ?_
   subst hy
   cases d' with
   | agg xs => exact hne xs ys rfl rfl
   | p x => cases x <;> (simp [wkC, unX, unC, unB] at e)
   | _ =>
    simp only [wkC, unX, unC, unB] at e
    repeat' split at e
    all_goals cases e
  obtain ⟨u, a1, a2⟩ := a2f H ok e hc
  exact ⟨u, a1, Kq a2⟩
theorem U1 (H : Hp P h0 W0 γ L h) (ok : SelOk L sel L') : ∀ {ds' ds : List DV} {vs : List Value}, All2 (wk1 P L sel) ds' ds → All2 (D1 P (qe W0 γ L h) γ L h) ds vs → ∃ us, All2 VW vs us ∧ All2 (D1 P (qe W0 (qZ γ sel) L' h) (qZ γ sel) L' h) ds' us
 | _, _, _, .nil, .nil => ⟨[], .nil, .nil⟩
 | _, _, _, .cons e t, .cons hd t' => by
  obtain ⟨u, a1, a2⟩ := a1A H ok e hd
  obtain ⟨us, b1, b2⟩ := U1 H ok t t'
  exact ⟨u :: us, .cons a1 b1, .cons a2 b2⟩
theorem a1K (H : Hp P h0 W0 γ L h) (ok : SelOk L sel L') {d' d : DV} {v : Value} (e : wkD P L sel d' d) (hd : DR P (qe W0 γ L h) γ L h d v) : ∃ u, VW v u ∧ DR P (qe W0 (qZ γ sel) L' h) (qZ γ sel) L' h d' u := by
 unfold wkD at e
 split at e
 ·rename_i xs ys
  obtain ⟨vs, rfl, h1⟩ := hd
  obtain ⟨us, a1, a2⟩ := U1 H ok e h1
  refine ⟨.tuple us.toArray, .tuple ?_ fun i x y e1 e2 => ?_, us.toArray, rfl, by simpa using a2⟩
  ·have := a1.length; simpa using this
  ·obtain ⟨u, b1, b2⟩ := a1.get (i := i) (a := x) (by simpa using e1)
   have : us[i]? = some y := by simpa using e2
   rw [this] at b1; cases b1
   exact b2
 ·rename_i hne
  have hc : D1 P (qe W0 γ L h) γ L h d v := by
   refine yi hd ?_
   cases d with
   | tup ys =>
    exfalso
    cases d' with
    | tup xs => exact hne xs ys rfl rfl
    | p x => cases x <;> (simp [wk1, wkC, unX, unC, unB] at e)
    | _ =>
     simp only [wk1, wkC, unX, unC, unB] at e
     repeat' split at e
     all_goals cases e
   | _ => rfl
  obtain ⟨u, a1, a2⟩ := a1A H ok e hc
  exact ⟨u, a1, w6 a2⟩
end
open Go.RowKit
def ye (P : Program) (a : DFrm) (L : List Obj) : ResultVar → Option DV
 | .tmp t => zf t a.l
 | .cell p t => match zf p a.l with
  | some d => jT P L t d
  | none => none
def kh (P : Program) (a : DFrm) (L : List Obj) : List ResultVar → Option (List DV)
 | [] => some []
 | x :: r => match ye P a L x, kh P a L r with
  | some v, some vs => some (v :: vs)
  | _, _ => none
def Jo : List DV → Option DV
 | [d] => some d
 | ds => if ds.all is1 then some (.tup ds) else none
def agf (P : Program) (rs : List ResultVar) (Q : DV → List Obj → Prop) : DQ
 | .normal, a, L => qn (kh P a L rs) fun ds => qn (Jo ds) fun d => Q d L
 | .ret, a, L => qn (kh P a L rs) fun ds => qn (Jo ds) fun d => Q d L
 | _, _, _ => False
def aee (P : Program) (c : Nat) (Q : DV → List Obj → Prop) (r : DV) (L : List Obj) : Prop :=
 ∃ sel r' A', SelOk L sel A' ∧ (∀ id, id < c → (∃ cs, L[id]? = some (.st cs)) → sel[id]? = some (some id)) ∧ wkD P L sel r' r ∧ Q r' A'
def wV : Nat → List DV → List (Nat × DV)
 | _, [] => []
 | k, v :: vs => (k, v) :: wV (k + 1) vs
def DCalls (P : Program) (f : FuncId) (ds : List DV) (A : List Obj) (Q : DV → List Obj → Prop) : Prop :=
 ∀ (W0 : Ent) γ h vs, W0.cnt ≤ A.length → Hp P h W0 γ A h → All2 (DR P (qe W0 γ A h) γ A h) ds vs →
  ACalls P f vs h (fun v h' => ∃ γ' r A', Q r A' ∧ Hp P h W0 γ' A' h' ∧ DR P (qe W0 γ' A' h') γ' A' h' r v)
section
variable {P : Program} {W0 : Ent} {γ : Pl} {L : List Obj} {h : Heap} {h0 : Heap} {a : DFrm} {fa : Frm}
theorem a0H (H : Hp P h0 W0 γ L h) (hf : FR P W0 γ L h a fa) {x : ResultVar} {d : DV} (e : ye P a L x = some d) : ∃ v, ZA P fa h x = some v ∧ (DR P (qe W0 γ L h) γ L h) d v := by
 cases x with
 | tmp t => exact hf.slots t d e
 | cell p t =>
  unfold ye at e
  cases hq : zf p a.l with
  | none => simp only [hq] at e; cases e
  | some q =>
   simp only [hq] at e
   obtain ⟨v, e1, r1⟩ := hf.slots p q hq
   obtain ⟨u, e2, r2⟩ := Zo H r1 e
   exact ⟨u, by simp only [ZA, e1]; exact e2, r2⟩
theorem Zi (H : Hp P h0 W0 γ L h) (hf : FR P W0 γ L h a fa) : ∀ {rs : List ResultVar} {ds : List DV}, kh P a L rs = some ds → ∃ vs, zp P fa h rs = some vs ∧ All2 (DR P (qe W0 γ L h) γ L h) ds vs
 | [], ds, e => by cases e; exact ⟨[], rfl, .nil⟩
 | x :: rs, ds, e => by
  unfold kh at e
  cases h1 : ye P a L x with
  | none => rw [h1] at e; cases e
  | some d =>
   cases h2 : kh P a L rs with
   | none => rw [h1, h2] at e; cases e
   | some ds' =>
    rw [h1, h2] at e; cases e
    obtain ⟨v, e1, r1⟩ := a0H H hf h1
    obtain ⟨vs, e2, r2⟩ := Zi H hf h2
    exact ⟨v :: vs, by simp only [zp, e1, e2], .cons r1 r2⟩
theorem ac8 {S : Nat → Prop} : ∀ {ds : List DV} {vs : List Value}, ds.all is1 = true → All2 (DR P S γ L h) ds vs → All2 (D1 P S γ L h) ds vs
 | [], _, _, .nil => .nil
 | d :: ds, _, hb, .cons hd t => by
  simp only [List.all_cons, Bool.and_eq_true] at hb
  exact .cons (yi hd hb.1) (ac8 hb.2 t)
theorem XX {ds : List DV} {vs : List Value} {d : DV} (hr : All2 (DR P (qe W0 γ L h) γ L h) ds vs) (e : Jo ds = some d) : (DR P (qe W0 γ L h) γ L h) d (wU vs) := by
 cases hr with
 | nil =>
  simp [Jo] at e
  subst e
  exact ⟨#[], rfl, .nil⟩
 | cons hd t =>
  cases t with
  | nil => simp only [Jo] at e; cases e; exact hd
  | cons hd2 t2 =>
   simp only [Jo] at e
   split at e
   ·rename_i hb
    cases e
    exact ⟨_, rfl, by simpa using ac8 hb (.cons hd (.cons hd2 t2))⟩
   ·cases e
theorem JB : ∀ {ds : List DV} {vs : List Value} (k : Nat), All2 (DR P (qe W0 γ L h) γ L h) ds vs → ∀ t d, zf t (wV k ds) = some d → ∃ v, yl t (kX k vs) = some v ∧ (DR P (qe W0 γ L h) γ L h) d v
 | [], _, k, .nil, t, d, e => by cases e
 | d0 :: ds, v0 :: vs, k, .cons hd tl, t, d, e => by
  simp only [wV, zf] at e
  simp only [kX, yl]
  split at e
  ·rename_i hk; cases e; rw [if_pos hk]; exact ⟨v0, rfl, hd⟩
  ·rename_i hk; rw [if_neg hk]; exact JB (k + 1) tl t d e
theorem Hp.grow {h' : Heap} (H : Hp P h0 W0 γ L h) (hn : h.next ≤ h'.next) (hg : ∀ b, b < h.next → h'.get b = h.get b) : Hp P h0 W0 γ L h' ∧ Carry W0 γ L h γ L h' := by
 have c : Carry W0 γ L h γ L h' := ⟨fun b hb => ⟨⟨Nat.lt_of_lt_of_le hb.1 hn, hb.2⟩, hg b hb.1⟩, Nat.le_refl _, fun _ _ e hc => ⟨e, hc⟩, fun _ _ e hc => ⟨e, hc⟩, fun id o' rows' _ e hl => ⟨o', rows', e, hl, Nat.le_refl _, fun _ => ⟨rfl, fun _ hz => hz⟩⟩⟩
 have hlt : ∀ id o b x, L[id]? = some o → o.owns = true → γ id = some (b, x) → b < h.next := fun id o b x e e2 e3 => (OR.lt (fun b hb => hb.1) (H.obj id o e) e3 e2).1
 exact ⟨⟨H.start, H.pin, fun id o e => H.others c e rfl fun b x g d => hg b (hlt id o b x e d g), H.inj, H.dom, H.new, Nat.le_trans H.next hn, fun b hb hw => (hg b (Nat.lt_of_lt_of_le hb H.next)).trans (H.frame b hb hw)⟩, c⟩
def a4T (P : Program) (L : List Obj) (any : Bool) : DV → DV → Prop
 | .p (.sl z rows), .ref id lo n tot => (any = true ∨ ∃ e rs, L[id]? = some (.fz e rs)) ∧ ∃ rs, zT L id tot = some rs ∧ rows = (rs.drop lo).take n ∧ ∀ te, L[id]?.bind y9 = some te → szT P te = some z
 | .p (.sl _ rows), .p (.v (.slice none 0 0)) => rows = []
 | .p (.sl z rows), .cx z' rows' => z = z' ∧ rows = rows'
 | d', d => unC [] d' = some d
def aaE (P : Program) (L : List Obj) (any : Bool) : DV → DV → Prop
 | .agg xs, .agg ys => All2 (a4T P L any) xs ys
 | d', d => a4T P L any d' d
end
open Go.RowKit
section
variable {P : Program} {W0 : Ent} {γ : Pl} {L : List Obj} {h : Heap} {h0 : Heap} {a : DFrm} {fa : Frm}
def u0 : Pl := fun _ => none
theorem ace (W : Ent) (h : Heap) (h1 : W.start = h.next) (h2 : ∀ id b, ¬ W.pin id b) : Hp P h W u0 [] h :=
 ⟨h1, fun id b e => absurd e (h2 id b), fun id o e => by simp at e, fun id id' o o' b x x' e => by simp at e, fun id x e => (by cases e), fun id o b x e => by simp at e, Nat.le_refl _, fun _ _ _ => rfl⟩
theorem yT {S S' : Nat → Prop} {γ' : Pl} {L' : List Obj} {d d' : DV} {v : Value} (hs : ∀ b, S b → S' b) (e : unB [] d' = some d) (hd : DB P S γ L h d v) : DB P S' γ' L' h d' v := by
 cases d' with
 | p x => cases e; exact PR.mono (fun b hb => ⟨hs b hb, rfl⟩) hd
 | dp row off =>
  cases e
  obtain ⟨b, o, cs, te, rw, h1, h2, h3, h4, h5⟩ := hd
  exact ⟨b, o, cs, te, rw, hs b h1, h2, h3, h4, fun j x u e1 e2 => (h5 j x u e1 e2).mono fun b hb => ⟨hs b hb, rfl⟩⟩
 | cx z rows => cases e; exact CxV.mono (fun b hb => ⟨hs b hb, rfl⟩) hd
 | _ => cases e
theorem QR {S S' : Nat → Prop} {γ' : Pl} {L' : List Obj} (hs : ∀ b, S b → S' b) : ∀ {ds' ds : List DV} {vs : List Value}, JN [] ds' = some ds → All2 (DB P S γ L h) ds vs → All2 (DB P S' γ' L' h) ds' vs
 | [], _, _, e, hd => by cases e; cases hd; exact .nil
 | d' :: ds', _, _, e, hd => by
  unfold JN at e
  cases h1 : unB [] d' with
  | none => simp only [h1] at e; cases e
  | some d =>
   cases h2 : JN [] ds' with
   | none => simp only [h1, h2] at e; cases e
   | some ds =>
    simp only [h1, h2] at e; cases e
    cases hd with
    | cons a b => exact .cons (yT hs h1 a) (QR hs h2 b)
theorem a0G {S S' : Nat → Prop} {γ' : Pl} {L' : List Obj} {d d' : DV} {v : Value} (hs : ∀ b, S b → S' b) (e : unC [] d' = some d) (hd : DC P S γ L h d v) : DC P S' γ' L' h d' v := by
 cases d' with
 | p x => cases e; exact yT (P := P) (γ := γ) (L := L) (γ' := γ') (L' := L') (d := .p x) (d' := .p x) hs rfl hd
 | dp row off => cases e; exact yT (P := P) (γ := γ) (L := L) (γ' := γ') (L' := L') (d := .dp row off) (d' := .dp row off) hs rfl hd
 | cx z rows => cases e; exact yT (P := P) (γ := γ) (L := L) (γ' := γ') (L' := L') (d := .cx z rows) (d' := .cx z rows) hs rfl hd
 | fn f pre cap =>
  unfold unC at e
  cases h1 : JN [] pre with
  | none => simp only [h1] at e; cases e
  | some p =>
   cases h2 : JN [] cap with
   | none => simp only [h1, h2] at e; cases e
   | some c =>
    simp only [h1, h2] at e; cases e
    obtain ⟨as, bs, rfl, a1, a2⟩ := hd
    exact ⟨as, bs, rfl, QR hs h1 a1, QR hs h2 a2⟩
 | _ => cases e
theorem UJ {S' : Nat → Prop} {any : Bool} (H : Hp P h0 W0 γ L h) (hs : ∀ b, qe W0 γ L h b → S' b) (ha : any = true → ∀ b, b < h.next → S' b) {d d' : DV} {v : Value} (e : a4T P L any d' d) (hd : DC P (qe W0 γ L h) γ L h d v) : ∃ u, VW v u ∧ DC P S' u0 [] h d' u := by
 unfold a4T at e
 split at e
 ·rename_i z rows id lo n tot
  obtain ⟨e1, rs, e2, rfl, e3⟩ := e
  refine a94 H hd e2 e3 (fun b x hg hlt => ?_) hs
  rcases e1 with e1 | ⟨te, rs', e1⟩
  ·exact ha e1 b hlt
  ·have ho := H.obj id _ e1
   cases te with
   | none => rw [ho.2] at hg; cases hg
   | some te =>
    obtain ⟨b', o', g', hS, _⟩ := ho
    rw [hg] at g'; cases g'
    exact hs b hS
 ·subst e
  have : v = .slice none 0 0 := PR.scal (P := P) (S := qe W0 γ L h) (h := h) hd
  subst this
  exact ⟨_, .refl _, PR.nil⟩
 ·obtain ⟨rfl, rfl⟩ := e
  obtain ⟨_, ⟨u, rfl, h1, h2⟩ | ⟨_, _, rfl, h2⟩⟩ := hd
  ·exact ⟨u, .exact h1, h2.mono fun b hb => ⟨hs b hb, rfl⟩⟩
  ·exact ⟨_, .refl _, h2.mono fun b hb => ⟨hs b hb, rfl⟩⟩
 ·exact ⟨v, .refl v, a0G hs e hd⟩
theorem X7 {S' : Nat → Prop} {any : Bool} (H : Hp P h0 W0 γ L h) (hs : ∀ b, qe W0 γ L h b → S' b) (ha : any = true → ∀ b, b < h.next → S' b) : ∀ {ds' ds : List DV} {vs : List Value}, All2 (a4T P L any) ds' ds → All2 (DC P (qe W0 γ L h) γ L h) ds vs → ∃ us, All2 VW vs us ∧ All2 (DC P S' u0 [] h) ds' us
 | _, _, _, .nil, .nil => ⟨[], .nil, .nil⟩
 | _, _, _, .cons e t, .cons hd t' => by
  obtain ⟨u, a1, a2⟩ := UJ H hs ha e hd
  obtain ⟨us, b1, b2⟩ := X7 H hs ha t t'
  exact ⟨u :: us, .cons a1 b1, .cons a2 b2⟩
theorem ajI {d d' : DV} (e : unC [] d' = some d) : (∀ xs, d ≠ .agg xs) ∧ (∀ xs, d ≠ .tup xs) := by
 cases d' <;> (simp only [unC, unB] at e) <;> (try (repeat' split at e)) <;> cases e <;> exact ⟨fun _ h => (by cases h), fun _ h => (by cases h)⟩
theorem ab4 {S' : Nat → Prop} {any : Bool} (H : Hp P h0 W0 γ L h) (hs : ∀ b, qe W0 γ L h b → S' b) (ha : any = true → ∀ b, b < h.next → S' b) {d d' : DV} {v : Value} (e : aaE P L any d' d) (hd : DR P (qe W0 γ L h) γ L h d v) : ∃ u, VW v u ∧ DR P S' u0 [] h d' u := by
 unfold aaE at e
 split at e
 ·rename_i xs ys
  obtain ⟨vs, rfl, h1⟩ := hd
  obtain ⟨us, a1, a2⟩ := X7 H hs ha e h1
  refine ⟨.agg us.toArray, .agg ?_ fun i x y e1 e2 => ?_, us.toArray, rfl, by simpa using a2⟩
  ·have := a1.length; simpa using this
  ·obtain ⟨u, b1, b2⟩ := a1.get (i := i) (a := x) (by simpa using e1)
   have : us[i]? = some y := by simpa using e2
   rw [this] at b1; cases b1
   exact b2
 ·have hn : (∀ xs, d ≠ .agg xs) ∧ (∀ xs, d ≠ .tup xs) := by
   unfold a4T at e
   split at e
   ·exact ⟨fun _ h => (by cases h), fun _ h => (by cases h)⟩
   ·exact ⟨fun _ h => (by cases h), fun _ h => (by cases h)⟩
   ·exact ⟨fun _ h => (by cases h), fun _ h => (by cases h)⟩
   ·exact ajI e
  have h1 : D1 P (qe W0 γ L h) γ L h d v := by
   cases d <;> first | exact hd | exact absurd rfl (hn.2 _)
  obtain ⟨u, a1, a2⟩ := UJ H hs ha e (Kt h1 hn.1)
  exact ⟨u, a1, w6 (Kq a2)⟩
theorem UP {S' : Nat → Prop} {any : Bool} (H : Hp P h0 W0 γ L h) (hs : ∀ b, qe W0 γ L h b → S' b) (ha : any = true → ∀ b, b < h.next → S' b) : ∀ {ds' ds : List DV} {vs : List Value}, All2 (aaE P L any) ds' ds → All2 (DR P (qe W0 γ L h) γ L h) ds vs → ∃ us, All2 VW vs us ∧ All2 (DR P S' u0 [] h) ds' us
 | _, _, _, .nil, .nil => ⟨[], .nil, .nil⟩
 | _, _, _, .cons e t, .cons hd t' => by
  obtain ⟨u, a1, a2⟩ := ab4 H hs ha e hd
  obtain ⟨us, b1, b2⟩ := UP H hs ha t t'
  exact ⟨u :: us, .cons a1 b1, .cons a2 b2⟩
def a01 : DV → Bool
 | .p (.v _) => true
 | _ => false
def a09 : DV → Bool
 | .agg xs => xs.all a01
 | d => a01 d
def abF : DV → Bool
 | .tup xs => xs.all a09
 | d => a09 d
theorem uE {S S' : Nat → Prop} {γ γ' : Pl} {L L' : List Obj} {h h' : Heap} {d : DV} {v : Value} (hs : a01 d = true) (hd : DC P S γ L h d v) : DC P S' γ' L' h' d v := by
 unfold a01 at hs
 split at hs
 ·rename_i x
  cases (show PR P S h (.v x) v from hd) with
  | v hx => exact PR.v hx
 ·cases hs
theorem xx {S S' : Nat → Prop} {γ γ' : Pl} {L L' : List Obj} {h h' : Heap} : ∀ {ds : List DV} {vs : List Value}, ds.all a01 = true → All2 (DC P S γ L h) ds vs → All2 (DC P S' γ' L' h') ds vs
 | [], _, _, .nil => .nil
 | d :: ds, _, hb, .cons hd t => by
  simp only [List.all_cons, Bool.and_eq_true] at hb
  exact .cons (uE hb.1 hd) (xx hb.2 t)
theorem UC {S S' : Nat → Prop} {γ γ' : Pl} {L L' : List Obj} {h h' : Heap} {d : DV} {v : Value} (hs : a09 d = true) (hd : D1 P S γ L h d v) : D1 P S' γ' L' h' d v := by
 unfold a09 at hs
 split at hs
 ·obtain ⟨vs, rfl, h1⟩ := hd; exact ⟨vs, rfl, xx hs h1⟩
 ·rename_i hn
  exact Kq (uE hs (Kt hd fun xs e => hn xs e))
theorem xL {S S' : Nat → Prop} {γ γ' : Pl} {L L' : List Obj} {h h' : Heap} : ∀ {ds : List DV} {vs : List Value}, ds.all a09 = true → All2 (D1 P S γ L h) ds vs → All2 (D1 P S' γ' L' h') ds vs
 | [], _, _, .nil => .nil
 | d :: ds, _, hb, .cons hd t => by
  simp only [List.all_cons, Bool.and_eq_true] at hb
  exact .cons (UC hb.1 hd) (xL hb.2 t)
theorem acD {S S' : Nat → Prop} {γ γ' : Pl} {L L' : List Obj} {h h' : Heap} {d : DV} {v : Value} (hs : abF d = true) (hd : DR P S γ L h d v) : DR P S' γ' L' h' d v := by
 unfold abF at hs
 split at hs
 ·obtain ⟨vs, rfl, h1⟩ := hd; exact ⟨vs, rfl, xL hs h1⟩
 ·rename_i hn
  refine w6 (UC hs (yi hd ?_))
  cases d <;> first | rfl | exact absurd rfl (hn _)
def wkS (P : Program) (a : DFrm) (L : List Obj) (l' : List (Nat × DV)) (L' : List Obj) : Prop :=
 ∃ sel, SelOk L sel L' ∧ (∀ id, id < a.c → (∃ cs, L[id]? = some (.st cs)) → sel[id]? = some (some id)) ∧ ∀ p ∈ l', ∃ d, zf p.1 a.l = some d ∧ wkD P L sel p.2 d
theorem AWp.weaken_vw {c : Code} {Q : Exit → Frm → Heap → Prop} {a a' : Frm} (hn : a'.n = a.n) (hl : ∀ t v, a'.get t = some v → ∃ u, a.get t = some u ∧ VW u v) (hc : AWp P c Q a' h) : AWp P c Q a h :=
 fun ro D β m w ha hr ok => hc ro D β m w ⟨ha.defers, by rw [hn]; exact ha.size, fun t v e => by
  obtain ⟨u, e1, hw⟩ := hl t v e
  obtain ⟨mv, e2, r⟩ := ha.rel t u e1
  exact ⟨mv, e2, r.weak hw⟩⟩ hr ok
theorem Un {L' : List Obj} {sel : Sel} (H : Hp P h0 W0 γ L h) (ok : SelOk L sel L') (hf : FR P W0 γ L h a fa) : ∀ (l' : List (Nat × DV)), (∀ p ∈ l', ∃ d, zf p.1 a.l = some d ∧ wkD P L sel p.2 d) →
  ∃ fl : List (Nat × Value), (∀ t v, yl t fl = some v → ∃ u, fa.get t = some u ∧ VW u v) ∧ ∀ t d, zf t l' = some d → ∃ v, yl t fl = some v ∧ DR P (qe W0 (qZ γ sel) L' h) (qZ γ sel) L' h d v
 | [], _ => ⟨[], fun t v e => (by cases e), fun t d e => (by cases e)⟩
 | (t0, d0) :: l', hl => by
  obtain ⟨fl, f1, f2⟩ := Un H ok hf l' fun p hp => hl p (List.mem_cons_of_mem _ hp)
  obtain ⟨d, e1, e2⟩ := hl (t0, d0) List.mem_cons_self
  obtain ⟨v, e3, r3⟩ := hf.slots t0 d e1
  obtain ⟨u, hw, hd⟩ := a1K H ok e2 r3
  refine ⟨(t0, u) :: fl, fun t w e => ?_, fun t d' e => ?_⟩
  ·simp only [yl] at e
   split at e
   ·rename_i ht; cases e; subst ht; exact ⟨v, e3, hw⟩
   ·exact f1 t w e
  ·simp only [zf] at e
   simp only [yl]
   split at e
   ·rename_i ht; cases e; rw [if_pos ht]; exact ⟨u, rfl, hd⟩
   ·rename_i ht; rw [if_neg ht]; exact f2 t d' e
theorem adp {l' : List (Nat × DV)} {L' : List Obj} {c : Code} {Q : Exit → Frm → Heap → Prop} (H : Hp P h0 W0 γ L h) (hf : FR P W0 γ L h a fa) (hw : wkS P a L l' L') (hk : ∀ γ' fa', Hp P h0 W0 γ' L' h → FR P W0 γ' L' h ⟨a.n, a.c, l'⟩ fa' → AWp P c Q fa' h) : AWp P c Q fa h := by
 obtain ⟨sel, ok, hp, hl⟩ := hw
 obtain ⟨fl, f1, f2⟩ := Un H ok hf l' hl
 exact AWp.weaken_vw (a' := ⟨a.n, fl⟩) hf.n.symm f1 (hk _ ⟨a.n, fl⟩ (H.select ok fun id b e => hp id (by rw [← hf.cnt]; exact W0.few id b e) (H.pin id b e).2) ⟨rfl, hf.cnt, f2⟩)
inductive DFx where
 | k (x : X)
 | block (id : Nat)
 | loop (K : DFrm → List Obj → Prop)
 | scope (J : Nat → DFrm → List Obj → Prop)
def amo (J : Nat → DFrm → List Obj → Prop) (Q : DQ) : DQ
 | .goto l, a, L => J l a L
 | e, a, L => Q e a L
def dsx (P : Program) : List DFx → DQ → DQ
 | [], Q => Q
 | .k y :: s, Q => JQ (JP P y (dsx P s Q)) (dsx P s Q)
 | .block id :: s, Q => abX id (dsx P s Q)
 | .loop K :: s, Q => JQ K (dsx P s Q)
 | .scope J :: s, Q => amo J (dsx P s Q)
theorem DAWp.mono {c : Code} {Q Q' : DQ} {a : DFrm} {L : List Obj} (hc : DAWp P c Q a L) (hq : ∀ e a L, Q e a L → Q' e a L) : DAWp P c Q' a L := fun h0 W0 γ h fa H hf => (hc h0 W0 γ h fa H hf).mono fun e fa h ⟨a, L, γ, hk, H, hf⟩ => ⟨a, L, γ, hq _ _ _ hk, H, hf⟩
end
open Go.RowKit
theorem a6J {α : Type} {o o' : Option α} {f : α → Prop} (h : o = o') : qn o f = qn o' f := by rw [h]
def Yy (P : Program) (l : List C) (K : DFrm → List Obj → Prop) (a : DFrm) (L : List Obj) : Prop := zj P l K a L
def al9 (P : Program) (l : List (C × List C)) (K : DFrm → List Obj → Prop) (a : DFrm) (L : List Obj) : Prop := a4N P l K a L
theorem VJ {α : Type} {o : Option α} {f g : α → Prop} (h : ∀ x, f x = g x) : qn o f = qn o g := by
 cases o
 ·rfl
 ·exact h _
section
variable (P : Program) (d : Option Tmp) (r : List C) (K : DFrm → List Obj → Prop) (a : DFrm) (L : List Obj)
theorem ali : zj P [] K a L = K a L := rfl
theorem ahF (op : Op) (t : Option Tmp) (want : Bool) : zj P (⟨d, op, some (t, want)⟩ :: r) K a L = zL (JM t want a) (Yy P (⟨d, op, none⟩ :: r) K a L) (Yy P r K (a.put d acm) L) := rfl
theorem a7R (l : List C) (B : Prop) : zL (some true) (Yy P l K a L) B = zj P l K a L := by simp [zL, Yy]
theorem a3Y (l : List C) (A : Prop) : zL (some false) A (Yy P l K a L) = zj P l K a L := by simp [zL, Yy]
theorem aix (x : Operand) : zj P (⟨d, .move x, none⟩ :: r) K a L = qn (a.ev x) fun v => zj P r K (a.put d v) L := rfl
theorem aeJ (x : Operand) : zj P (⟨d, .assign x, none⟩ :: r) K a L = qn (a.ev x) fun v => zj P r K (a.put d v) L := rfl
theorem ajf (c x y : Operand) : zj P (⟨d, .pick c x y, none⟩ :: r) K a L = qn (JS (a.ev c) (a.ev x) (a.ev y)) fun v => zj P r K (a.put d v) L := rfl
theorem ahm (t : TypeId) (ps : List (Nat × Operand)) : zj P (⟨d, .build t ps.toArray, none⟩ :: r) K a L = qn (Kk a.ev ps) fun ds => qn (Wu P t ds) fun v => zj P r K (a.put d v) L := by simp only [zj, zO]
theorem ahh (t : TypeId) (x : Operand) (f : Nat) : zj P (⟨d, .field t x f, none⟩ :: r) K a L = qn (a.ev x) fun x => qn (WY P t x f) fun v => zj P r K (a.put d v) L := rfl
theorem a3z (t : TypeId) (x : Operand) (f : Nat) : zj P (⟨d, .fieldAddr t x f, none⟩ :: r) K a L = qn (a.ev x) fun x => qn (Q5 P L t x f) fun v => zj P r K (a.put d v) L := rfl
theorem ait (op : UnOp) (t : TypeId) (x : Operand) : zj P (⟨d, .unOp op t x, none⟩ :: r) K a L = qn (a.ev x) fun x => qn (yc x) fun v => qn (scD (unV op v)) fun v => zj P r K (a.put d v) L := rfl
theorem ahR (op : BinOp) (t : TypeId) (x y : Operand) (u : TypeId) : zj P (⟨d, .binOp op t x y u, none⟩ :: r) K a L = qn (a.ev x) fun x => qn (a.ev y) fun y => qn (ym P op t x y) fun v => zj P r K (a.put d v) L := rfl
theorem ab9 (s t : TypeId) (x : Operand) : zj P (⟨d, .convert s t x, none⟩ :: r) K a L = qn (a.ev x) fun x => qn (VR P L s t x) fun p => zj P r K (a.put d p.1) p.2 := rfl
theorem a5U (f : Fn) (xs ys : List Operand) : zj P (⟨d, .makeFunc f xs.toArray ys.toArray, none⟩ :: r) K a L = qn (Vx f (Qp a.ev xs) (Qp a.ev ys)) fun v => zj P r K (a.put d v) L := by simp only [zj, zO]
theorem a2A (t : TypeId) (x i : Operand) : zj P (⟨d, .indexAddr t x i, none⟩ :: r) K a L = qn (a.ev x) fun x => qn (a.ev i) fun i => qn (wR P L t x i) fun v => zj P r K (a.put d v) L := rfl
theorem af0 (t : TypeId) (x i : Operand) : zj P (⟨d, .index t x i, none⟩ :: r) K a L = qn (a.ev x) fun x => qn (a.ev i) fun i => qn (WT P t x i) fun v => zj P r K (a.put d v) L := rfl
theorem abn (x : Operand) (i : Nat) : zj P (⟨d, .extract x i, none⟩ :: r) K a L = qn (a.ev x) fun x => qn (QN x i) fun v => zj P r K (a.put d v) L := rfl
theorem a4Z (x : Operand) : zj P (⟨d, .nilCheck x, none⟩ :: r) K a L = qn (a.ev x) fun x => qn (onD L 0 x) fun v => zj P r K (a.put d v) L := rfl
theorem ajg (t : TypeId) (x : Operand) : zj P (⟨d, .load t x, none⟩ :: r) K a L = qn (a.ev x) fun x => qn (jT P L t x) fun v => zj P r K (a.put d v) L := rfl
theorem afM (t : TypeId) (x y : Operand) : zj P (⟨d, .store t x y, none⟩ :: r) K a L = qn (a.ev x) fun x => qn (a.ev y) fun y => qn (Jh P L t x y) fun L' => zj P r K (a.put d acm) L' := rfl
theorem afX (t : TypeId) (x : Operand) (lo hi mx : Option Operand) : zj P (⟨d, .slice t x lo hi mx, none⟩ :: r) K a L = qn (a.ev x) fun x => qn (Xc a.ev lo) fun lo => qn (Xc a.ev hi) fun hi => qn (Xc a.ev mx) fun mx => qn (wA P L t x lo hi mx) fun v => zj P r K (a.put d v) L := rfl
theorem akH (t : TypeId) (x : Operand) : zj P (⟨d, .box t x, none⟩ :: r) K a L = qn (a.ev x) fun x => qn (if is1 x = true ∧ szT P t = some (zG x).length then some (zG x) else none) fun cs => zj P r K (a.put d (.ptr L.length 0)) (L ++ [.st cs]) := by
 simp only [zj, zO]
 refine VJ fun x => ?_
 split
 ·rename_i h; simp [qn, h]
 ·rename_i h; simp only [qn]; exact propext ⟨fun q => h ⟨q.1, q.2.1⟩, fun q => q.elim⟩
theorem afK (t : TypeId) : zj P (⟨d, .alloc t, none⟩ :: r) K a L = qn (Yj P t) fun z => zj P r K (a.put d (.ptr L.length 0)) (L ++ [.st z]) := rfl
theorem a0q (t : TypeId) (n : Nat) (ps : List (Nat × Operand)) : zj P (⟨d, .buildSlice t n ps.toArray, none⟩ :: r) K a L = qn (Kk a.ev ps) fun ds => qn (wg P L t n ds) fun p => zj P r K (a.put d p.1) p.2 := by simp only [zj, zO]
def afu (P : Program) (f : DV) (ds : List DV) (L : List Obj) (K : DV → List Obj → Prop) : Prop := match f with
 | .fn k pre cap => ud P k (pre ++ ds ++ cap) L K
 | _ => False
theorem aff (k : FuncId) (pre ds cap : List DV) (K : DV → List Obj → Prop) : afu P (.fn k pre cap) ds L K = ud P k (pre ++ ds ++ cap) L K := rfl
theorem aiW (f : Operand) (xs : List Operand) (ts : Array TypeId) : zj P (⟨d, .call ⟨.value f, xs.toArray, ts⟩, none⟩ :: r) K a L = qn (a.ev f) fun f => qn (Qp a.ev xs) fun ds => afu P f ds L fun v L' => Yy P r K (a.put d v) L' := by
 simp only [zj, zO]
 refine VJ fun f => ?_
 refine VJ fun ds => ?_
 cases f <;> rfl
theorem acp (x y : Operand) (ts : List TypeId) : zj P (⟨d, .call ⟨.builtin .append, #[x, y], ts.toArray⟩, none⟩ :: r) K a L = qn (a.ev x) fun x => qn (a.ev y) fun y => qn (Ka P ts L x y) fun p => zj P r K (a.put d p.1) p.2 := by
 simp only [zj, zO, Qp, qn]
 cases a.ev x <;> cases a.ev y <;> rfl
theorem alo (x : Operand) (t : TypeId) : zj P (⟨d, .call ⟨.builtin .len, #[x], #[t]⟩, none⟩ :: r) K a L = qn (a.ev x) fun x => qn (Ue P L t x) fun v => zj P r K (a.put d v) L := by
 simp only [zj, zO, Qp, qn]
 cases a.ev x <;> rfl
theorem akD (xs : List Operand) (ts : Array TypeId) : zj P (⟨d, .call ⟨.builtin .min, xs.toArray, ts⟩, none⟩ :: r) K a L = qn (Qp a.ev xs) fun ds => qn (yJ ds) fun vs => qn (scD (aao vs)) fun v => zj P r K (a.put d v) L := by simp only [zj, zO]
theorem akv (xs : List Operand) (ts : Array TypeId) : zj P (⟨d, .call ⟨.builtin .max, xs.toArray, ts⟩, none⟩ :: r) K a L = qn (Qp a.ev xs) fun ds => qn (yJ ds) fun vs => qn (scD (a8Q vs)) fun v => zj P r K (a.put d v) L := by simp only [zj, zO]
theorem al6 : a4N P [] K a L = K a L := rfl
theorem agp (c : C) (r : List (C × List C)) : a4N P ((c, []) :: r) K a L = zj P [c] (a4N P r K) a L := by simp only [a4N, J1, true_and]
theorem akO (c k : C) (ks : List C) (r : List (C × List C)) : a4N P ((c, k :: ks) :: r) K a L = zj P [c] (fun a L => aih (J1 P a L (k :: ks)) (al9 P r K a L)) a L := rfl
theorem ah4 : J1 P a L [] = True := rfl
theorem acj (c : C) (r : List C) : J1 P a L (c :: r) = (acE P c a L ∧ J1 P a L r) := rfl
theorem abf (d : Option Tmp) (o : Op) : acE P ⟨d, o, none⟩ a L = uV P ⟨d, o, none⟩ a L := rfl
theorem a8y (d : Option Tmp) (o : Op) (t : Option Tmp) (want : Bool) : acE P ⟨d, o, some (t, want)⟩ a L = zL (JM t want a) (uV P ⟨d, o, some (t, want)⟩ a L) True := rfl
theorem a8q (t : TypeId) (x : Operand) : Jz P (.load t x) a.ev L = (a.ev x).bind (jT P L t) := by
 simp only [Jz]; cases a.ev x <;> rfl
theorem abb (n c : Nat) (l : List (Nat × DV)) (t : Tmp) : a6h ⟨n, c, l⟩ (some t) = zf t l := rfl
end
def a1J (l : List (Nat × DV)) : List Nat → List (Nat × DV)
 | [] => []
 | t :: ts => match zf t l with
  | some d => (t, d) :: a1J l ts
  | none => a1J l ts
def abG (t : Nat) (o : Option DV) (r : List (Nat × DV)) : List (Nat × DV) := match o with
 | some d => (t, d) :: r
 | none => r
theorem acW (l : List (Nat × DV)) : a1J l [] = [] := rfl
theorem aaM (l : List (Nat × DV)) (t : Nat) (ts : List Nat) : a1J l (t :: ts) = abG t (zf t l) (a1J l ts) := by
 unfold abG; rw [a1J]
theorem a8h (t : Nat) (d : DV) (r : List (Nat × DV)) : abG t (some d) r = (t, d) :: r := rfl
theorem a9a (t : Nat) (r : List (Nat × DV)) : abG t none r = r := rfl
section
variable (P : Program) (s : List DFx) (Q : DQ) (a : DFrm) (L : List Obj)
theorem ajN (e : Exit) : dsx P [] Q e a L = Q e a L := rfl
theorem am8 (y : X) : dsx P (.k y :: s) Q .normal a L = JP P y (dsx P s Q) a L := rfl
theorem abe (y : X) (id : Nat) : dsx P (.k y :: s) Q (.exit id) a L = dsx P s Q (.exit id) a L := rfl
theorem a9V (y : X) (l : Nat) : dsx P (.k y :: s) Q (.goto l) a L = dsx P s Q (.goto l) a L := rfl
theorem aeq (id : Nat) : dsx P (.block id :: s) Q .normal a L = dsx P s Q .normal a L := rfl
theorem Up (id id' : Nat) : dsx P (.block id :: s) Q (.exit id') a L = if id' = id then dsx P s Q .normal a L else dsx P s Q (.exit id') a L := rfl
theorem UZ (id l : Nat) : dsx P (.block id :: s) Q (.goto l) a L = dsx P s Q (.goto l) a L := rfl
theorem agt (K : DFrm → List Obj → Prop) : dsx P (.loop K :: s) Q .normal a L = K a L := rfl
theorem a0W (K : DFrm → List Obj → Prop) (id : Nat) : dsx P (.loop K :: s) Q (.exit id) a L = dsx P s Q (.exit id) a L := rfl
theorem a0I (K : DFrm → List Obj → Prop) (l : Nat) : dsx P (.loop K :: s) Q (.goto l) a L = dsx P s Q (.goto l) a L := rfl
theorem vD : ∀ s, dsx P s Q .ret a L = Q .ret a L
 | [] => rfl
 | .k _ :: s => vD s
 | .block _ :: s => vD s
 | .loop _ :: s => vD s
 | .scope _ :: s => vD s
theorem acQ (J : Nat → DFrm → List Obj → Prop) : dsx P (.scope J :: s) Q .normal a L = dsx P s Q .normal a L := rfl
theorem uW (J : Nat → DFrm → List Obj → Prop) (id : Nat) : dsx P (.scope J :: s) Q (.exit id) a L = dsx P s Q (.exit id) a L := rfl
theorem uZ (J : Nat → DFrm → List Obj → Prop) (l : Nat) : dsx P (.scope J :: s) Q (.goto l) a L = J l a L := rfl
theorem aky : Q8 P .nil (dsx P s Q) a L = dsx P s Q .normal a L := rfl
theorem alv : Q8 P .ret (dsx P s Q) a L = dsx P s Q .ret a L := rfl
theorem ai8 (id : Nat) : Q8 P (.exit id) (dsx P s Q) a L = dsx P s Q (.exit id) a L := rfl
theorem ajq (l : Nat) : Q8 P (.goto l) (dsx P s Q) a L = dsx P s Q (.goto l) a L := rfl
theorem alx (l : List C) (k : X) : Q8 P (.reg l k) (dsx P s Q) a L = zj P l (dsx P (.k k :: s) Q .normal) a L := rfl
theorem aik (l : List (C × List C)) (k : X) : Q8 P (.draw l k) (dsx P s Q) a L = a4N P l (dsx P (.k k :: s) Q .normal) a L := rfl
theorem aig (c : Operand) (x y k : X) : Q8 P (.cond c x y k) (dsx P s Q) a L = xQ (a.ev c) (JP P x (dsx P (.k k :: s) Q) a L) (JP P y (dsx P (.k k :: s) Q) a L) := rfl
theorem afG (id : Nat) (x k : X) : Q8 P (.block id x k) (dsx P s Q) a L = Q8 P x (dsx P (.block id :: .k k :: s) Q) a L := rfl
theorem ajY (x k : X) : Q8 P (.loop x k) (dsx P s Q) a L = agA P x (dsx P (.k k :: s) Q) a L := rfl
theorem ag0 (x labs k : X) : Q8 P (.scope x labs k) (dsx P s Q) a L = abv P x labs (dsx P (.k k :: s) Q) a L := rfl
theorem ag2 (l : Nat) (k : X) : Q8 P (.label l k) (dsx P s Q) a L = Q8 P k (dsx P s Q) a L := rfl
theorem a9l (x : X) (R : DQ) (B : Prop) : xQ (some (.p (.v (.bool true)))) (JP P x R a L) B = JP P x R a L := by simp [xQ]
theorem a7G (x : X) (R : DQ) (A : Prop) : xQ (some (.p (.v (.bool false)))) A (JP P x R a L) = JP P x R a L := by simp [xQ]
end
theorem a7V {o o' : Option DV} {A B : Prop} (h : o = o') : xQ o A B = xQ o' A B := by rw [h]
theorem ae4 (P : Program) (rs : List ResultVar) (Q : DV → List Obj → Prop) (a : DFrm) (L : List Obj) : agf P rs Q .ret a L = qn (kh P a L rs) fun ds => qn (Jo ds) fun d => Q d L := rfl
theorem a4z (P : Program) (rs : List ResultVar) (Q : DV → List Obj → Prop) (a : DFrm) (L : List Obj) : agf P rs Q .normal a L = qn (kh P a L rs) fun ds => qn (Jo ds) fun d => Q d L := rfl
theorem adb (n c : Nat) (l : List (Nat × DV)) (t : Nat) (v : DV) : DFrm.put ⟨n, c, l⟩ (some t) v = if t < n then ⟨n, c, (t, v) :: l⟩ else ⟨n, c, l⟩ := rfl
theorem adX (a : DFrm) (v : DV) : DFrm.put a none v = a := rfl
theorem aiA (n c : Nat) (l : List (Nat × DV)) (t : Nat) : DFrm.ev ⟨n, c, l⟩ (.tmp t) = zf t l := rfl
theorem afd (a : DFrm) (f : FuncId) : a.ev (.func f) = some (.fn f [] []) := rfl
theorem ajn (a : DFrm) (k : IntKind) (n : Int) : a.ev (.const (.int k n)) = some (.p (.v (.int k n))) := rfl
theorem agY (a : DFrm) (b : Bool) : a.ev (.const (.bool b)) = some (.p (.v (.bool b))) := rfl
theorem a8E (a : DFrm) (s : ByteArray) : a.ev (.const (.string s)) = some (.p (.v (.string s))) := rfl
theorem a9W (a : DFrm) : a.ev (.const (.pointer none)) = some (.p (.v (.pointer none))) := rfl
theorem a3D (a : DFrm) : a.ev (.const (.slice none 0 0)) = some (.p (.v (.slice none 0 0))) := rfl
theorem a8w (a : DFrm) : a.ev (.const (.map none)) = some (.p (.v (.map none))) := rfl
theorem a71 (a : DFrm) : a.ev (.const .nilFunc) = some (.p (.v .nilFunc)) := rfl
theorem a8p (t t' : Nat) (v : DV) (r : List (Nat × DV)) : zf t ((t', v) :: r) = if t' = t then some v else zf t r := rfl
theorem adG (t : Nat) : zf t [] = none := rfl
theorem aeu (k : Nat) : wV k [] = [] := rfl
theorem aaB (k : Nat) (v : DV) (l : List DV) : wV k (v :: l) = (k, v) :: wV (k + 1) l := rfl
theorem ahi (ρ : Y2) : Qp ρ [] = some [] := rfl
theorem acO (ρ : Y2) (x : Operand) (l : List Operand) : Qp ρ (x :: l) = match ρ x, Qp ρ l with | some v, some vs => some (v :: vs) | _, _ => none := rfl
theorem aeI (ρ : Y2) : Kk ρ [] = some [] := rfl
theorem ab5 (ρ : Y2) (i : Nat) (x : Operand) (l : List (Nat × Operand)) : Kk ρ ((i, x) :: l) = match ρ x, Kk ρ l with | some v, some vs => some ((i, v) :: vs) | _, _ => none := rfl
theorem a2b (ρ : Y2) : Xc ρ none = some none := rfl
theorem adK (ρ : Y2) (x : Operand) : Xc ρ (some x) = match ρ x with | some d => (yc d).map some | none => none := rfl
theorem ae1 (P : Program) (a : DFrm) (L : List Obj) : kh P a L [] = some [] := rfl
theorem a8R (P : Program) (a : DFrm) (L : List Obj) (x : ResultVar) (r : List ResultVar) : kh P a L (x :: r) = match ye P a L x, kh P a L r with | some v, some vs => some (v :: vs) | _, _ => none := rfl
theorem ahM (P : Program) (n c : Nat) (l : List (Nat × DV)) (L : List Obj) (t : Nat) : ye P ⟨n, c, l⟩ L (.tmp t) = zf t l := rfl
theorem acx (P : Program) (n c : Nat) (l : List (Nat × DV)) (L : List Obj) (p : Nat) (t : TypeId) : ye P ⟨n, c, l⟩ L (.cell p t) = match zf p l with | some d => jT P L t d | none => none := rfl
theorem aej (d : DV) : Jo [d] = some d := rfl
theorem acZ : Jo [] = some (.tup []) := rfl
theorem acR (d e : DV) (l : List DV) : Jo (d :: e :: l) = if (d :: e :: l).all is1 then some (.tup (d :: e :: l)) else none := rfl
theorem acP (n c : Nat) (l : List (Nat × DV)) (t : Tmp) (want : Bool) : JM (some t) want ⟨n, c, l⟩ = match zf t l with | some (.p (.v (.bool b))) => some (if want then b else !b) | some (.tup _) => some false | _ => none := rfl
theorem a8H (x y : Option DV) : JS (some (.p (.v (.bool true)))) x y = x := rfl
theorem a5B (x y : Option DV) : JS (some (.p (.v (.bool false)))) x y = y := rfl
theorem a98 (b u v : Bool) : JS (some (.p (.v (.bool b)))) (some (.p (.v (.bool u)))) (some (.p (.v (.bool v)))) = some (.p (.v (.bool (if b then u else v)))) := by cases b <;> rfl
theorem aku (x : Value) : yc (.p (.v x)) = some x := rfl
theorem aeZ (xs : List DV) : yc (.agg xs) = (Qk xs).map fun l => .agg l.toArray := rfl
theorem ada : Qk [] = some [] := rfl
theorem a8d (x : Value) (l : List DV) : Qk (.p (.v x) :: l) = (Qk l).map (x :: ·) := rfl
theorem a9H : yJ [] = some [] := rfl
theorem a5y (d : DV) (l : List DV) : yJ (d :: l) = match yc d, yJ l with | some v, some vs => some (v :: vs) | _, _ => none := rfl
theorem akx (k : IntKind) (n : Int) : scD (some (.int k n)) = some (.p (.v (.int k n))) := rfl
theorem aiv (b : Bool) : scD (some (.bool b)) = some (.p (.v (.bool b))) := rfl
theorem ad6 (s : ByteArray) : scD (some (.string s)) = some (.p (.v (.string s))) := rfl
theorem alP (x : PV) : is1 (.p x) = true := rfl
theorem aiV (i o : Nat) : is1 (.ptr i o) = true := rfl
theorem al7 (i o t q : Nat) : is1 (.ep i o t q) = true := rfl
theorem akI (r : List PV) (o : Nat) : is1 (.dp r o) = true := rfl
theorem aid (i o t q : Nat) : is1 (.ref i o t q) = true := rfl
theorem agr (i o t : Nat) : is1 (.aref i o t) = true := rfl
theorem akQ (f : FuncId) (x y : List DV) : is1 (.fn f x y) = true := rfl
theorem aj7 (xs : List DV) : is1 (.agg xs) = true := rfl
theorem aha (x : PV) : zG (.p x) = [.p x] := rfl
theorem aa7 (i o : Nat) : zG (.ptr i o) = [.ptr i o] := rfl
theorem aeC (i o t q : Nat) : zG (.ep i o t q) = [.ep i o t q] := rfl
theorem ae8 (r : List PV) (o : Nat) : zG (.dp r o) = [.dp r o] := rfl
theorem aaS (i o t q : Nat) : zG (.ref i o t q) = [.ref i o t q] := rfl
theorem a6o (i o t : Nat) : zG (.aref i o t) = [.aref i o t] := rfl
theorem ady (f : FuncId) (x y : List DV) : zG (.fn f x y) = [.fn f x y] := rfl
theorem a8F (xs : List DV) : zG (.agg xs) = xs := rfl
theorem a3s (cs : List DV) (i : Nat) : j6 cs i [] = cs := rfl
theorem a0R (cs : List DV) (i : Nat) (v : DV) (r : List DV) : j6 cs i (v :: r) = j6 (cs.set i v) (i + 1) r := rfl
theorem a4Q (cs : List PV) (i : Nat) : jg cs i [] = cs := rfl
theorem a1i (cs : List PV) (i : Nat) (v : PV) (r : List PV) : jg cs i (v :: r) = jg (cs.set i v) (i + 1) r := rfl
theorem ak1 : pvs [] = some [] := rfl
theorem afW (x : PV) (l : List DV) : pvs (.p x :: l) = (pvs l).map (x :: ·) := rfl
theorem aiw (P : Program) (op : BinOp) (t : TypeId) (x y : Value) : ym P op t (.p (.v x)) (.p (.v y)) = scD (zk P op t x y) := rfl
theorem ahK (P : Program) (op : BinOp) (t : TypeId) (i o : Nat) : ym P op t (.ptr i o) (.p (.v (.pointer none))) = scD (zk P op t (.pointer (some ⟨0, 0, none⟩)) (.pointer none)) := rfl
theorem ahW (P : Program) (op : BinOp) (t : TypeId) (r : List PV) (o : Nat) : ym P op t (.dp r o) (.p (.v (.pointer none))) = scD (zk P op t (.pointer (some ⟨0, 0, none⟩)) (.pointer none)) := rfl
theorem ajH (P : Program) (op : BinOp) (t : TypeId) (z : Nat) (r : List PV) (l : List (List PV)) : ym P op t (.p (.sl z (r :: l))) (.p (.v (.slice none 0 0))) = scD (zk P op t (.slice (some ⟨0, 0, none⟩) 1 0) (.slice none 0 0)) := rfl
theorem agc (P : Program) (op : BinOp) (t : TypeId) (xs ys : List DV) : ym P op t (.agg xs) (.agg ys) = match (Qk xs).map (fun l => Value.agg l.toArray), (Qk ys).map (fun l => Value.agg l.toArray) with
 | some x, some y => scD (zk P op t x y)
 | none, some y => none
 | some x, none => none
 | none, none => none := by
 unfold ym
 simp only [yc, We]
 cases (Qk xs).map (fun l => Value.agg l.toArray) <;> cases hy : (Qk ys).map (fun l => Value.agg l.toArray) <;> simp only <;> split <;> rfl
theorem adx (P : Program) (L : List Obj) (t : TypeId) (id off : Nat) : jT P L t (.ptr id off) = match L[id]? with | some (.st cells) => Qg P t cells off | _ => none := rfl
theorem ag3 (P : Program) (L : List Obj) (t : TypeId) (id i off tot : Nat) : jT P L t (.ep id i off tot) = match zT L id tot with | some rows => (match rows[i]? with | some row => Qg P t (row.map .p) off | none => none) | none => none := rfl
theorem aeV (P : Program) (L : List Obj) (t : TypeId) (row : List PV) (off : Nat) : jT P L t (.dp row off) = Qg P t (row.map .p) off := rfl
theorem a8m (P : Program) (L : List Obj) (t : TypeId) (id off : Nat) (x : DV) : Jh P L t (.ptr id off) x = match L[id]? with
  | some (.st cells) => if is1 x = true ∧ szT P t = some (zG x).length ∧ off + (zG x).length ≤ cells.length then some (L.set id (.st (j6 cells off (zG x)))) else none
  | _ => none := rfl
theorem akR (L : List Obj) (k id off : Nat) : onD L k (.ptr id off) = some (.ptr id (off + k)) := rfl
theorem alD (L : List Obj) (k : Nat) (row : List PV) (off : Nat) : onD L k (.dp row off) = some (.dp row (off + k)) := rfl
theorem am3 (L : List Obj) (k id i off tot : Nat) : onD L k (.ep id i off tot) = match zT L id tot with | some _ => some (.ep id i (off + k) tot) | none => none := rfl
theorem ajs (L : List Obj) (id tot : Nat) : zT L id tot = match L[id]? with | some (.li _ rows) => if rows.length = tot then some rows else none | some (.fz _ rows) => if rows.length = tot then some rows else none | _ => none := rfl
theorem afR (xs : List DV) (i : Nat) : QN (.tup xs) i = xs[i]? := rfl
theorem a9i (k : FuncId) (a b : List DV) : Vx (.func k) (some a) (some b) = if a.all Jp && b.all Jp then some (.fn k a b) else none := rfl
theorem ald (x : PV) : Jp (.p x) = true := rfl
theorem agD (i o : Nat) : Jp (.ptr i o) = true := rfl
theorem ahy (i o t q : Nat) : Jp (.ref i o t q) = true := rfl
open Go.RowKit
section
variable {P : Program}
theorem aco (pl : Nat → Option (Nat × Nat)) (cs : List DV) : Yc pl cs [] = some cs := rfl
theorem a9K (pl : Nat → Option (Nat × Nat)) (cs : List DV) (i : Nat) (v : DV) (r : List (Nat × DV)) : Yc pl cs ((i, v) :: r) = match pl i with
  | none => none
  | some (off, sz) => if is1 v = true ∧ (zG v).length = sz ∧ off + sz ≤ cs.length then Yc pl (j6 cs off (zG v)) r else none := rfl
def am4 (L : List Obj) (e : TypeId) (b : Nat) (o : Option (List (List PV))) : Option (DV × List Obj) := match o with
 | some ys => if ys.length ≤ 9223372036854775807 ∧ ys.length * b ≤ 140737488355328 then some (.ref L.length 0 ys.length ys.length, L ++ [.li (if ys.length = 0 then none else some e) ys]) else none
 | none => none
def am6 (L : List Obj) (e : TypeId) (b id lo n tot : Nat) (q : Option Obj) (o : Option (List (List PV))) : Option (DV × List Obj) := match o, q with
 | some ys, some (.li te rows) => if lo = 0 ∧ rows.length = tot ∧ n = tot ∧ (te = none ∨ te = some e) ∧ n + ys.length ≤ 9223372036854775807 ∧ (n + ys.length) * b ≤ 140737488355328 then some (.ref id 0 (n + ys.length) (n + ys.length), L.set id (.li (if ys.length = 0 then te else some e) (rows ++ ys))) else none
 | _, _ => none
theorem ab1 (L : List Obj) (e : TypeId) (b : Nat) (ys : List (List PV)) : am4 L e b (some ys) = if ys.length ≤ 9223372036854775807 ∧ ys.length * b ≤ 140737488355328 then some (.ref L.length 0 ys.length ys.length, L ++ [.li (if ys.length = 0 then none else some e) ys]) else none := rfl
theorem aaH (L : List Obj) (e : TypeId) (b id lo n tot : Nat) (te : Option TypeId) (rows ys : List (List PV)) : am6 L e b id lo n tot (some (.li te rows)) (some ys) = if lo = 0 ∧ rows.length = tot ∧ n = tot ∧ (te = none ∨ te = some e) ∧ n + ys.length ≤ 9223372036854775807 ∧ (n + ys.length) * b ≤ 140737488355328 then some (.ref id 0 (n + ys.length) (n + ys.length), L.set id (.li (if ys.length = 0 then te else some e) (rows ++ ys))) else none := rfl
def slP (s : Nat) (rows : List (List PV)) : Nat × Nat × Option Nat → Option DV
 | (l, r, none) => some (.p (.sl s ((rows.drop l).take (r - l))))
 | _ => none
def slR (id a tot : Nat) : Nat × Nat × Option Nat → Option DV
 | (l, r, _) => some (.ref id (a + l) (r - l) tot)
def slA (id off n s : Nat) : Nat × Nat × Option Nat → Option DV
 | (l, r, none) => if l < n then some (.aref id (off + l * s) (r - l)) else none
 | _ => none
def amy (id off n s : Nat) : Nat × Nat × Option Nat → Option DV
 | (l, r, none) => if l < n ∧ n ≤ maxLen then some (.aref id (off + l * s) (r - l)) else none
 | _ => none
theorem afS (s : Nat) (rows : List (List PV)) (l r : Nat) : slP s rows (l, r, none) = some (.p (.sl s ((rows.drop l).take (r - l)))) := rfl
theorem afJ (id a tot l r : Nat) (m : Option Nat) : slR id a tot (l, r, m) = some (.ref id (a + l) (r - l) tot) := rfl
theorem afa (id off n s l r : Nat) : slA id off n s (l, r, none) = if l < n then some (.aref id (off + l * s) (r - l)) else none := rfl
theorem adl (id off n s l r : Nat) : amy id off n s (l, r, none) = if l < n ∧ n ≤ maxLen then some (.aref id (off + l * s) (r - l)) else none := rfl
theorem ajl {α β : Type} {c : Prop} {dc : Decidable c} (x : α) (f : α → Option β) : (if c then some x else none).bind f = if c then f x else none := by split <;> rfl
theorem ahU {α β : Type} (x : α) (f : α → Option β) : (some x).bind f = f x := rfl
theorem ala (n c : Nat) (k : IntKind) (l : Int) : qK n c (some (.int k l)) none none = if 0 ≤ l ∧ l ≤ n then some (l.toNat, n, none) else none := by
 unfold qK
 simp only [jC]
 by_cases h : 0 ≤ l
 ·simp only [h, if_true, true_and]
  by_cases h2 : l ≤ n
  ·rw [if_pos h2, if_pos (by omega)]
  ·rw [if_neg h2, if_neg (by omega)]
 ·simp [h]
theorem akK (n c : Nat) (k : IntKind) (r : Int) : qK n c none (some (.int k r)) none = if 0 ≤ r ∧ r ≤ c then some (0, r.toNat, none) else none := by
 unfold qK
 simp only [jC]
 by_cases h : 0 ≤ r
 ·simp only [h, if_true, true_and]
  by_cases h2 : r ≤ c
  ·rw [if_pos h2, if_pos (by omega)]
  ·rw [if_neg h2, if_neg (by omega)]
 ·simp [h]
theorem agP (n c : Nat) (k k' : IntKind) (l r : Int) : qK n c (some (.int k l)) (some (.int k' r)) none = if 0 ≤ l ∧ l ≤ r ∧ r ≤ c then some (l.toNat, r.toNat, none) else none := by
 unfold qK
 simp only [jC]
 by_cases h : 0 ≤ r
 ·simp only [h, if_true]
  by_cases h2 : r ≤ c
  ·rw [if_pos (show r.toNat ≤ c by omega)]
   by_cases h3 : 0 ≤ l
   ·simp only [h3, if_true, true_and]
    by_cases h4 : l ≤ r
    ·rw [if_pos (by omega), if_pos ⟨h4, h2⟩]
    ·rw [if_neg (by omega), if_neg (by omega)]
   ·simp [h3]
  ·rw [if_neg (by omega), if_neg (by omega)]
 ·rw [if_neg (by omega)]; simp [h]; omega
theorem aki (n c : Nat) : qK n c none none none = some (0, n, none) := rfl
theorem a3S (z : Nat) (rows : List (List PV)) : wZ z rows [] = some rows := rfl
theorem a1b (z : Nat) (rows : List (List PV)) (i : Nat) (d : DV) (r : List (Nat × DV)) : wZ z rows ((i, d) :: r) = if is1 d = true ∧ i < rows.length then match pvs (zG d) with
   | some ps => if ps.length = z then wZ z (rows.set i ps) r else none
   | none => none
  else none := rfl
end
theorem agq (A : Prop) : zL (some true) A True = A := by simp [zL]
theorem ahd (A : Prop) : zL (some false) A True = True := by simp [zL]
attribute [congr] a6J a7V
attribute [go_sem ↓] acW aaM a8h a9a qI ali ahF a7R a3Y aix aeJ ajf ahm ahh a3z ait ahR ab9 a5U a2A af0 abn a4Z ajg afM afX akH afK a0q aiW aff acp alo akD akv
 al6 agp akO ah4 acj abf a8y
 ajN am8 abe a9V aeq Up UZ agt a0W a0I acQ uW uZ vD
 aky alv ai8 ajq alx aik aig afG ajY ag0 ag2 a9l a7G ae4 a4z
attribute [push_cast] a8q abb agq ahd adb adX aiA afd ajn agY a8E a9W a3D a8w a71 a8p adG aeu aaB ahi acO aeI ab5 a2b adK ae1 a8R ahM acx aej acZ acR acP
 a8H a5B a98 aku aeZ ada a8d a9H a5y akx aiv ad6 alP aiV al7 akI aid agr akQ aj7 aha aa7 aeC ae8 aaS a6o ady a8F a3s a0R a4Q a1i ak1 afW
 aiw ahK ahW ajH agc adx ag3 aeV a8m akR alD am3 ajs afR a9i ald agD ahy aco a9K ab1 aaH afS afJ afa adl ajl ahU ala akK agP aki a3S a1b
 List.getElem?_cons_zero List.getElem?_cons_succ List.getElem?_nil List.length_cons List.length_nil List.map_cons List.map_nil List.set_cons_zero List.set_cons_succ List.all_cons List.all_nil List.nil_append List.cons_append List.append_nil List.length_append List.length_set Option.map_some Option.map_none Option.bind_some Option.bind_none List.length_replicate List.replicate_succ List.replicate_zero Nat.zero_le
open Go.RowKit
def aeB (L : List Obj) (sel : Sel) : Option Nat → Obj → Prop
 | none, o' => o' = .li none []
 | some k, o' => match L[k]? with
  | some o => unO sel o' o
  | none => False
theorem SelOk.of {L L' : List Obj} {sel : Sel} (h : All2 (aeB L sel) sel L') (hn : (sel.filterMap id).Nodup) : SelOk L sel L' := by
 refine ⟨h.length, fun i j k e1 e2 => ?_, fun i k o' e1 e2 => ?_, fun i o' e1 e2 => ?_⟩
 ·clear h
  induction sel generalizing i j with
  | nil => simp at e1
  | cons s sel ih =>
   have hmem : ∀ (m : Nat), sel[m]? = some (some k) → k ∈ sel.filterMap id := fun m e => List.mem_filterMap.2 ⟨some k, List.mem_of_getElem? e, rfl⟩
   have hn' : (sel.filterMap id).Nodup := by
    cases s with
    | none => simpa using hn
    | some q => rw [List.filterMap_cons_some (by rfl)] at hn; exact (List.nodup_cons.1 hn).2
   have hno : ∀ m, s = some k → sel[m]? = some (some k) → False := fun m e e' => by
    subst e
    rw [List.filterMap_cons_some (by rfl)] at hn
    exact (List.nodup_cons.1 hn).1 (hmem m e')
   cases i with
   | zero =>
    cases j with
    | zero => rfl
    | succ j => exact (hno j (by simpa using e1) (by simpa using e2)).elim
   | succ i =>
    cases j with
    | zero => exact (hno i (by simpa using e2) (by simpa using e1)).elim
    | succ j => rw [ih hn' i j (by simpa using e1) (by simpa using e2)]
 ·obtain ⟨o2, e3, r⟩ := h.get e1
  rw [e2] at e3; cases e3
  unfold aeB at r
  simp only at r
  split at r
  ·rename_i o ho; exact ⟨o, ho, r⟩
  ·exact r.elim
 ·obtain ⟨o2, e3, r⟩ := h.get e1
  rw [e2] at e3; cases e3
  exact r
def wkL (P : Program) (L : List Obj) (sel : Sel) (l : List (Nat × DV)) : List (Nat × DV) → Prop
 | [] => True
 | (t, d') :: r => (match zf t l with | some d => wkD P L sel d' d | none => False) ∧ wkL P L sel l r
def aly : Option Obj → Bool
 | some (.st _) => true
 | _ => false
def xC (c : Nat) (L : List Obj) (sel : Sel) : Bool := (List.range c).all fun id => !aly L[id]? || sel[id]? == some (some id)
theorem XZ {c : Nat} {L : List Obj} {sel : Sel} (h : xC c L sel = true) (id : Nat) (hid : id < c) (hs : ∃ cs, L[id]? = some (.st cs)) : sel[id]? = some (some id) := by
 have := List.all_eq_true.1 h id (List.mem_range.2 hid)
 obtain ⟨cs, hs⟩ := hs
 rw [hs] at this
 simpa [aly] using this
theorem adc {P : Program} {n c : Nat} {l l' : List (Nat × DV)} {L L' : List Obj} (sel : Sel) (h1 : All2 (aeB L sel) sel L') (h2 : (sel.filterMap id).Nodup) (h3 : xC c L sel = true) (h4 : wkL P L sel l l') : wkS P ⟨n, c, l⟩ L l' L' := by
 refine ⟨sel, SelOk.of h1 h2, XZ h3, ?_⟩
 ·clear h1 h2 h3
  induction l' with
  | nil => intro p hp; simp at hp
  | cons q r ih =>
   obtain ⟨t, d'⟩ := q
   obtain ⟨h5, h6⟩ := h4
   intro p hp
   rcases List.mem_cons.1 hp with rfl | hp
   ·simp only
    cases hd : zf t l with
    | none => rw [hd] at h5; exact h5.elim
    | some d => rw [hd] at h5; exact ⟨d, rfl, h5⟩
   ·exact ih h6 p hp
theorem air {P : Program} {c : Nat} {Q : DV → List Obj → Prop} {r : DV} {L : List Obj} (sel : Sel) (r' : DV) (A' : List Obj) (h1 : All2 (aeB L sel) sel A') (h2 : (sel.filterMap id).Nodup) (h3 : xC c L sel = true) (h : wkD P L sel r' r) (hq : Q r' A') : aee P c Q r L :=
 ⟨sel, r', A', SelOk.of h1 h2, XZ h3, h, hq⟩
section
variable (P : Program) (L : List Obj) (sel : Sel)
theorem ajr (z : Nat) (rows : List (List PV)) (id lo n tot : Nat) : wkC P L sel (.p (.sl z rows)) (.ref id lo n tot) = (some id ∉ sel ∧ ∃ rs, zT L id tot = some rs ∧ rows = (rs.drop lo).take n ∧ ∀ te, L[id]?.bind y9 = some te → szT P te = some z) := rfl
theorem alc (z z' : Nat) (r r' : List (List PV)) : wkC P L sel (.p (.sl z r)) (.p (.sl z' r')) = (z = z' ∧ r = r') := by
 unfold wkC unX; simp [unC, unB]
theorem akZ (z z' : Nat) (r r' : List (List PV)) : unX sel (.p (.sl z r)) (.p (.sl z' r')) = (z = z' ∧ r = r') := by
 unfold unX; simp [unC, unB]
end
theorem ako (sel : Sel) (e e' : Option TypeId) (r r' : List (List PV)) : unO sel (.li e r) (.li e' r') = (e = e' ∧ K8 r r') := rfl
theorem akw (sel : Sel) (c c' : List DV) : unO sel (.st c) (.st c') = All2 (unX sel) c c' := rfl
open Go.RowKit
section
variable {P : Program} {γ γ' : Pl} {L L' : List Obj} {h : Heap} {S S' : Nat → Prop} {sel : Sel}
structure Ren (γ : Pl) (L : List Obj) (sel : Sel) (γ' : Pl) (L' : List Obj) : Prop where
 at' : ∀ (i k : Nat), sel[i]? = some (some k) → γ' i = γ k
 lt : ∀ (i k : Nat), sel[i]? = some (some k) → i < L'.length
 st : ∀ (i k : Nat) (c : List DV), sel[i]? = some (some k) → L[k]? = some (.st c) → ∃ c', L'[i]? = some (.st c')
 li : ∀ (i k : Nat) (o' : Obj) (rows : List (List PV)), sel[i]? = some (some k) → L'[i]? = some o' → o'.isList rows → ∃ o, L[k]? = some o ∧ o.isList rows
def jx (sel : Sel) (d' : DV) : Option DV := match d' with
 | .ref id lo n tot => match sel[id]? with
  | some (some k) => some (.ref k lo n tot)
  | _ => none
 | .cx _ _ => none
 | .mref _ => none
 | d => unB sel d
def jd (sel : Sel) : List DV → Option (List DV)
 | [] => some []
 | d :: l => match jx sel d, jd sel l with
  | some d, some l => some (d :: l)
  | _, _ => none
def QT (sel : Sel) : DV → Option DV
 | .fn f pre cap => match jd sel pre, jd sel cap with
  | some a, some b => some (.fn f a b)
  | _, _ => none
 | d => jx sel d
def QU (sel : Sel) : List DV → Option (List DV)
 | [] => some []
 | d :: l => match QT sel d, QU sel l with
  | some d, some l => some (d :: l)
  | _, _ => none
def Xk (sel : Sel) : DV → Option DV
 | .agg xs => (QU sel xs).map .agg
 | d => QT sel d
def vU (sel : Sel) : List DV → Option (List DV)
 | [] => some []
 | d :: l => match Xk sel d, vU sel l with
  | some d, some l => some (d :: l)
  | _, _ => none
def a4u (sel : Sel) : DV → Option DV
 | .tup xs => (vU sel xs).map .tup
 | d => Xk sel d
theorem a9Q (hs : ∀ b, S b → S' b) {x : PV} {v : Value} (hx : PR P S h x v) : PR P S' h x v := hx.mono fun _ hb => ⟨hs _ hb, rfl⟩
theorem afF (hs : ∀ b, S b → S' b) (R : Ren γ L sel γ' L') {d' d : DV} {v : Value} (e : jx sel d' = some d) (hd : DB P S γ L h d v) : DB P S' γ' L' h d' v := by
 cases d' with
 | p x => cases e; exact a9Q hs hd
 | dp row off =>
  cases e
  obtain ⟨b, o, cs, te, rw, h1, h2, h3, h4, h5⟩ := hd
  exact ⟨b, o, cs, te, rw, hs b h1, h2, h3, h4, fun j x u a c => a9Q hs (h5 j x u a c)⟩
 | ptr id off =>
  unfold jx unB at e
  cases hx : sel[id]? with
  | none => simp only [hx] at e; cases e
  | some s =>
   cases s with
   | none => simp only [hx] at e; cases e
   | some k =>
    simp only [hx] at e; cases e
    obtain ⟨b, h1, ⟨c, h2⟩, h3⟩ := hd
    exact ⟨b, (R.at' _ _ hx).trans h1, R.st _ _ _ hx h2, h3⟩
 | aref id off n =>
  unfold jx unB at e
  cases hx : sel[id]? with
  | none => simp only [hx] at e; cases e
  | some s =>
   cases s with
   | none => simp only [hx] at e; cases e
   | some k =>
    simp only [hx] at e; cases e
    obtain ⟨b, h1, ⟨c, h2⟩, h3⟩ := hd
    exact ⟨b, (R.at' _ _ hx).trans h1, R.st _ _ _ hx h2, h3⟩
 | ep id i off tot =>
  unfold jx unB at e
  cases hx : sel[id]? with
  | none => simp only [hx] at e; cases e
  | some s =>
   cases s with
   | none => simp only [hx] at e; cases e
   | some k =>
    simp only [hx] at e; cases e
    obtain ⟨k1, k2, k3⟩ := hd
    refine ⟨R.lt _ _ hx, k2, fun o' rows e1 e2 => ?_⟩
    obtain ⟨o, g1, g2⟩ := R.li _ _ _ _ hx e1 e2
    rw [R.at' _ _ hx]
    exact k3 o rows g1 g2
 | ref id lo n tot =>
  unfold jx at e
  cases hx : sel[id]? with
  | none => simp only [hx] at e; cases e
  | some s =>
   cases s with
   | none => simp only [hx] at e; cases e
   | some k =>
    simp only [hx] at e; cases e
    obtain ⟨k1, k2, k3⟩ := hd
    refine ⟨R.lt _ _ hx, k2, fun o' rows e1 e2 => ?_⟩
    obtain ⟨o, g1, g2⟩ := R.li _ _ _ _ hx e1 e2
    unfold ai7
    rw [R.at' _ _ hx]
    exact k3 o rows g1 g2
 | cx => cases e
 | mref => cases e
 | fn => cases e
 | agg => cases e
 | tup => cases e
theorem a3n (hs : ∀ b, S b → S' b) (R : Ren γ L sel γ' L') : ∀ {ds' ds : List DV} {vs : List Value}, jd sel ds' = some ds → All2 (DB P S γ L h) ds vs → All2 (DB P S' γ' L' h) ds' vs
 | [], _, _, e, hd => by cases e; cases hd; exact .nil
 | d' :: ds', _, _, e, hd => by
  unfold jd at e
  cases h1 : jx sel d' with
  | none => simp only [h1] at e; cases e
  | some d =>
   cases h2 : jd sel ds' with
   | none => simp only [h1, h2] at e; cases e
   | some ds =>
    simp only [h1, h2] at e; cases e
    cases hd with
    | cons a b => exact .cons (afF hs R h1 a) (a3n hs R h2 b)
theorem yz {d d' : DV} (e : jx sel d' = some d) : (∀ f a b, d ≠ .fn f a b) ∧ (∀ xs, d ≠ .agg xs) ∧ ∀ xs, d ≠ .tup xs := by
 cases d' <;> (simp only [jx, unB] at e) <;> (try (repeat' split at e)) <;> cases e <;> exact ⟨fun _ _ _ h => (by cases h), fun _ h => (by cases h), fun _ h => (by cases h)⟩
theorem af2 (hs : ∀ b, S b → S' b) (R : Ren γ L sel γ' L') {d' d : DV} {v : Value} (e : QT sel d' = some d) (hd : DC P S γ L h d v) : DC P S' γ' L' h d' v := by
 have key : ∀ d', (∀ f a b, d' ≠ .fn f a b) → jx sel d' = some d → DC P S' γ' L' h d' v := by
  intro d' hn e
  have hb : DB P S γ L h d v := by
   have := yz e
   cases d <;> first | exact hd | exact absurd rfl (this.1 _ _ _) | exact hd.elim
  have := afF hs R e hb
  cases d' <;> first | exact this | exact absurd rfl (hn _ _ _)
 cases d' with
 | fn f pre cap =>
  unfold QT at e
  cases h1 : jd sel pre with
  | none => simp only [h1] at e; cases e
  | some p =>
   cases h2 : jd sel cap with
   | none => simp only [h1, h2] at e; cases e
   | some c =>
    simp only [h1, h2] at e; cases e
    obtain ⟨as, bs, rfl, a1, a2⟩ := hd
    exact ⟨as, bs, rfl, a3n hs R h1 a1, a3n hs R h2 a2⟩
 | _ => exact key _ (by intro f a b e; cases e) e
theorem a4g (hs : ∀ b, S b → S' b) (R : Ren γ L sel γ' L') : ∀ {ds' ds : List DV} {vs : List Value}, QU sel ds' = some ds → All2 (DC P S γ L h) ds vs → All2 (DC P S' γ' L' h) ds' vs
 | [], _, _, e, hd => by cases e; cases hd; exact .nil
 | d' :: ds', _, _, e, hd => by
  unfold QU at e
  cases h1 : QT sel d' with
  | none => simp only [h1] at e; cases e
  | some d =>
   cases h2 : QU sel ds' with
   | none => simp only [h1, h2] at e; cases e
   | some ds =>
    simp only [h1, h2] at e; cases e
    cases hd with
    | cons a b => exact .cons (af2 hs R h1 a) (a4g hs R h2 b)
theorem wK {d d' : DV} (e : QT sel d' = some d) : (∀ xs, d ≠ .agg xs) ∧ ∀ xs, d ≠ .tup xs := by
 cases d' with
 | fn f pre cap =>
  simp only [QT] at e
  split at e
  ·cases e; exact ⟨fun _ h => (by cases h), fun _ h => (by cases h)⟩
  ·cases e
 | agg xs => cases e
 | tup xs => cases e
 | p x => exact (yz (sel := sel) (d' := .p x) e).2
 | ptr x y => exact (yz (sel := sel) (d' := .ptr x y) e).2
 | ep x y z w => exact (yz (sel := sel) (d' := .ep x y z w) e).2
 | dp x y => exact (yz (sel := sel) (d' := .dp x y) e).2
 | ref x y z w => exact (yz (sel := sel) (d' := .ref x y z w) e).2
 | aref x y z => exact (yz (sel := sel) (d' := .aref x y z) e).2
 | mref x => cases e
 | cx x y => cases e
theorem afj (hs : ∀ b, S b → S' b) (R : Ren γ L sel γ' L') {d' d : DV} {v : Value} (e : Xk sel d' = some d) (hd : D1 P S γ L h d v) : D1 P S' γ' L' h d' v := by
 have key : ∀ d', (∀ xs, d' ≠ .agg xs) → QT sel d' = some d → D1 P S' γ' L' h d' v := by
  intro d' hn e
  exact Kq (af2 hs R e (Kt hd (wK e).1))
 cases d' with
 | agg xs =>
  simp only [Xk] at e
  cases h1 : QU sel xs with
  | none => rw [h1] at e; cases e
  | some ys =>
   rw [h1] at e; cases e
   obtain ⟨vs, rfl, a1⟩ := hd
   exact ⟨vs, rfl, a4g hs R h1 a1⟩
 | _ => exact key _ (by intro xs e; cases e) e
theorem abY (hs : ∀ b, S b → S' b) (R : Ren γ L sel γ' L') : ∀ {ds' ds : List DV} {vs : List Value}, vU sel ds' = some ds → All2 (D1 P S γ L h) ds vs → All2 (D1 P S' γ' L' h) ds' vs
 | [], _, _, e, hd => by cases e; cases hd; exact .nil
 | d' :: ds', _, _, e, hd => by
  unfold vU at e
  cases h1 : Xk sel d' with
  | none => simp only [h1] at e; cases e
  | some d =>
   cases h2 : vU sel ds' with
   | none => simp only [h1, h2] at e; cases e
   | some ds =>
    simp only [h1, h2] at e; cases e
    cases hd with
    | cons a b => exact .cons (afj hs R h1 a) (abY hs R h2 b)
theorem aj3 {d d' : DV} (e : Xk sel d' = some d) : ∀ xs, d ≠ .tup xs := by
 cases d' with
 | agg xs =>
  simp only [Xk] at e
  cases h1 : QU sel xs with
  | none => rw [h1] at e; cases e
  | some ys => rw [h1] at e; cases e; exact fun _ h => (by cases h)
 | tup xs => cases e
 | p x => exact (wK (sel := sel) (d' := .p x) e).2
 | ptr x y => exact (wK (sel := sel) (d' := .ptr x y) e).2
 | ep x y z w => exact (wK (sel := sel) (d' := .ep x y z w) e).2
 | dp x y => exact (wK (sel := sel) (d' := .dp x y) e).2
 | ref x y z w => exact (wK (sel := sel) (d' := .ref x y z w) e).2
 | aref x y z => exact (wK (sel := sel) (d' := .aref x y z) e).2
 | mref x => cases e
 | cx x y => cases e
 | fn x y z => exact (wK (sel := sel) (d' := .fn x y z) e).2
theorem agl (hs : ∀ b, S b → S' b) (R : Ren γ L sel γ' L') {d' d : DV} {v : Value} (e : a4u sel d' = some d) (hd : DR P S γ L h d v) : DR P S' γ' L' h d' v := by
 have key : ∀ d', (∀ xs, d' ≠ .tup xs) → Xk sel d' = some d → DR P S' γ' L' h d' v := by
  intro d' hn e
  have h1 : D1 P S γ L h d v := by
   have := aj3 e
   cases d <;> first | exact hd | exact absurd rfl (this _)
  exact w6 (afj hs R e h1)
 cases d' with
 | tup xs =>
  simp only [a4u] at e
  cases h1 : vU sel xs with
  | none => rw [h1] at e; cases e
  | some ys =>
   rw [h1] at e; cases e
   obtain ⟨vs, rfl, a1⟩ := hd
   exact ⟨vs, rfl, abY hs R h1 a1⟩
 | _ => exact key _ (by intro xs e; cases e) e
def YJ (sel : Sel) : Obj → Obj → Prop
 | .st cells, .st cells' => QU sel cells = some cells'
 | .li e rows, .li e' rows' => e = e' ∧ rows = rows'
 | .fz e rows, .fz e' rows' => e = e' ∧ rows = rows'
 | .dead, .dead => True
 | _, _ => False
theorem Ku {o' o : Obj} (e : YJ sel o' o) : o'.owns = o.owns := by
 cases o' <;> cases o <;> first | exact e.elim | rfl | (obtain ⟨rfl, rfl⟩ := e; rfl)
theorem a1C {o' o : Obj} {rows : List (List PV)} (e : YJ sel o' o) (hl : o'.isList rows) : o.isList rows := by
 cases o' <;> cases o <;> first | exact e.elim | exact hl.elim | (obtain ⟨rfl, rfl⟩ := e; exact hl)
theorem a2h (hs : ∀ b, S b → S' b) {b q : Nat} {te : TypeId} {rows : List (List PV)} (hr : Rows P S h b q te rows) : Rows P S' h b q te rows := by
 obtain ⟨cs, z, a1, a2, a3, a4, a5, a6, a7⟩ := hr
 exact ⟨cs, z, a1, a2, a3, a4, a5, a6, fun i r j x u b1 b2 b3 => a9Q hs (a7 i r j x u b1 b2 b3)⟩
theorem afr (hs : ∀ b, S b → S' b) (R : Ren γ L sel γ' L') {i k : Nat} {o' o : Obj} (hi : sel[i]? = some (some k)) (e : YJ sel o' o) (ho : OR P S γ L h k o) : OR P S' γ' L' h i o' := by
 cases o' with
 | st cells =>
  cases o with
  | st cells' =>
   obtain ⟨b, te, vs, g1, g2, g3⟩ := ho
   exact ⟨b, te, vs, (R.at' _ _ hi).trans g1, g2, a4g hs R e g3⟩
  | _ => exact e.elim
 | li te rows =>
  cases o with
  | li te' rows' =>
   obtain ⟨rfl, rfl⟩ := e
   cases te with
   | none => exact ⟨ho.1, (R.at' _ _ hi).trans ho.2⟩
   | some te =>
    obtain ⟨b, q, g1, g2⟩ := ho
    exact ⟨b, q, (R.at' _ _ hi).trans g1, a2h hs g2⟩
  | _ => exact e.elim
 | fz te rows =>
  cases o with
  | fz te' rows' =>
   obtain ⟨rfl, rfl⟩ := e
   cases te with
   | none => exact ⟨ho.1, (R.at' _ _ hi).trans ho.2⟩
   | some te =>
    obtain ⟨b, q, g1, g2, g3⟩ := ho
    exact ⟨b, q, (R.at' _ _ hi).trans g1, hs b g2, a2h hs g3⟩
  | _ => exact e.elim
 | mp es => cases o <;> exact e.elim
 | dead => trivial
end
structure Merge (L : List Obj) (sel : List Nat) (A A' : List Obj) (back : Sel) (L2 : List Obj) : Prop where
 len : back.length = L2.length
 le : L.length ≤ L2.length
 kept : ∀ i, i < L.length → i ∉ sel → back[i]? = some none ∧ L2[i]? = L[i]?
 st : ∀ (k i : Nat) (c : List DV), sel[k]? = some i → A[k]? = some (.st c) → back[i]? = some (some k)
 gone : ∀ (k i : Nat), sel[k]? = some i → (∀ c, A[k]? ≠ some (.st c)) → L2[i]? = some .dead ∧ back[i]? = some none
 old : ∀ (i k : Nat), back[i]? = some (some k) → (i ∈ sel ∨ L.length ≤ i) ∧ ∃ o o', A'[k]? = some o ∧ L2[i]? = some o' ∧ YJ back o' o
 new : ∀ i, L.length ≤ i → i < L2.length → ∃ k, back[i]? = some (some k)
 inj : ∀ (i j k : Nat), back[i]? = some (some k) → back[j]? = some (some k) → i = j
section
variable {P : Program} {γ : Pl} {L : List Obj} {h : Heap} {h0 : Heap} {W0 : Ent}
def uK (P : Program) (L : List Obj) (sel : Sel) : DV → DV → Prop
 | .p (.sl z rows), .ref id lo n tot => (∃ e rs, L[id]? = some (.fz e rs)) ∧ ∃ rs, zT L id tot = some rs ∧ rows = (rs.drop lo).take n ∧ ∀ te, L[id]?.bind y9 = some te → szT P te = some z
 | .p (.sl _ rows), .p (.v (.slice none 0 0)) => rows = []
 | .p (.sl z rows), .cx z' rows' => z = z' ∧ rows = rows'
 | d', d => a4u sel d' = some d
theorem aa2 {S' : Nat → Prop} {γ' : Pl} {A : List Obj} {sel : Sel} (H : Hp P h0 W0 γ L h) (hs : ∀ b, qe W0 γ L h b → S' b) (R : Ren γ L sel γ' A) {d d' : DV} {v : Value} (e : uK P L sel d' d) (hd : DR P (qe W0 γ L h) γ L h d v) : ∃ u, VW v u ∧ DR P S' γ' A h d' u := by
 unfold uK at e
 split at e
 ·rename_i z rows id lo n tot
  obtain ⟨⟨te, rs', e1⟩, rs, e2, rfl, e3⟩ := e
  refine a94 H hd e2 e3 (fun b x hg hlt => ?_) hs
  have ho := H.obj id _ e1
  cases te with
  | none => rw [ho.2] at hg; cases hg
  | some te =>
   obtain ⟨b', o', g', hS, _⟩ := ho
   rw [hg] at g'; cases g'
   exact hs b hS
 ·subst e
  have : v = .slice none 0 0 := PR.scal (P := P) (S := qe W0 γ L h) (h := h) hd
  subst this
  exact ⟨_, .refl _, PR.nil⟩
 ·obtain ⟨rfl, rfl⟩ := e
  obtain ⟨_, ⟨u, rfl, h1, h2⟩ | ⟨_, _, rfl, h2⟩⟩ := hd
  ·exact ⟨u, .exact h1, h2.mono fun b hb => ⟨hs b hb, rfl⟩⟩
  ·exact ⟨_, .refl _, h2.mono fun b hb => ⟨hs b hb, rfl⟩⟩
 ·exact ⟨v, .refl v, agl hs R e hd⟩
theorem xH {S' : Nat → Prop} {γ' : Pl} {A : List Obj} {sel : Sel} (H : Hp P h0 W0 γ L h) (hs : ∀ b, qe W0 γ L h b → S' b) (R : Ren γ L sel γ' A) : ∀ {ds' ds : List DV} {vs : List Value}, All2 (uK P L sel) ds' ds → All2 (DR P (qe W0 γ L h) γ L h) ds vs → ∃ us, All2 VW vs us ∧ All2 (DR P S' γ' A h) ds' us
 | _, _, _, .nil, .nil => ⟨[], .nil, .nil⟩
 | _, _, _, .cons e t, .cons hd t' => by
  obtain ⟨u, a1, a2⟩ := aa2 H hs R e hd
  obtain ⟨us, b1, b2⟩ := xH H hs R t t'
  exact ⟨u :: us, .cons a1 b1, .cons a2 b2⟩
theorem Wv : ∀ {l : List Nat}, l.Nodup → ∀ {i j k : Nat}, l[i]? = some k → l[j]? = some k → i = j
 | [], _, i, j, k, e1, _ => by simp at e1
 | a :: l, hn, i, j, k, e1, e2 => by
  obtain ⟨h1, h2⟩ := List.nodup_cons.1 hn
  cases i with
  | zero =>
   cases j with
   | zero => rfl
   | succ j => simp at e1 e2; subst e1; exact absurd (List.mem_of_getElem? e2) h1
  | succ i =>
   cases j with
   | zero => simp at e1 e2; subst e2; exact absurd (List.mem_of_getElem? e1) h1
   | succ j => exact congrArg (· + 1) (Wv (k := k) h2 (by simpa using e1) (by simpa using e2))
def DCallWF (P : Program) (f : FuncId) (ds : List DV) (L : List Obj) (wr : List Nat) (K : DV → List Obj → Prop) : Prop :=
 ∀ h0 W0 γ h vs, Hp P h0 W0 γ L h → All2 (DR P (qe W0 γ L h) γ L h) ds vs → ADoes P f vs h (fun v h' => Aft P h0 W0 γ L h K v h' ∧ ∀ b, b < h.next → (∀ i ∈ wr, ∀ x, γ i ≠ some (b, x)) → h'.get b = h.get b)
theorem DCallWF.weak {f : FuncId} {ds : List DV} {wr : List Nat} {K : DV → List Obj → Prop} (h : DCallWF P f ds L wr K) : ud P f ds L K := fun h0 W0 γ hh vs H hr => (h h0 W0 γ hh vs H hr).mono fun _ _ q => q.1
theorem aa5 {f : FuncId} {ds ds' : List DV} {A : List Obj} {K : DV → List Obj → Prop} {Q : DV → List Obj → Prop} (sel : List Nat) (hc : DCalls P f ds' A Q) (hnd : sel.Nodup) (hA : All2 (fun o' (i : Nat) => ∃ o, L[i]? = some o ∧ YJ (sel.map some) o' o) A sel) (ha : All2 (uK P L (sel.map some)) ds' ds)
  (hq : ∀ r A', Q r A' → ∃ back L2 r', Merge L sel A A' back L2 ∧ a4u back r' = some r ∧ K r' L2) : DCallWF P f ds L sel K := by
 intro h0 W0 γ h vs H hr
 have hlen : A.length = sel.length := hA.length
 let γA : Pl := fun i => (sel[i]?).bind γ
 have hat : ∀ (i k : Nat), (sel.map some)[i]? = some (some k) ↔ sel[i]? = some k := fun i k => by
  rw [List.getElem?_map]
  cases sel[i]? <;> simp
 have hobj : ∀ {i : Nat} {o' : Obj}, A[i]? = some o' → ∃ k o, sel[i]? = some k ∧ L[k]? = some o ∧ YJ (sel.map some) o' o := fun {i o'} e => by
  obtain ⟨k, e1, o, e2, e3⟩ := hA.get e
  exact ⟨k, o, e1, e2, e3⟩
 have hγA : ∀ {i k : Nat}, sel[i]? = some k → γA i = γ k := fun {i k} e => by show (sel[i]?).bind γ = γ k; rw [e]; rfl
 have hinj : ∀ {i j k : Nat}, sel[i]? = some k → sel[j]? = some k → i = j := fun {i j k} e1 e2 => by
  have hi := (List.getElem?_eq_some_iff.1 e1).1
  have hj := (List.getElem?_eq_some_iff.1 e2).1
  exact Wv hnd e1 e2
 have R : Ren γ L (sel.map some) γA A := by
  refine ⟨fun i k e => hγA ((hat i k).1 e), fun i k e => by have := (List.getElem?_eq_some_iff.1 e).1; rw [List.length_map] at this; omega, fun i k c e e2 => ?_, fun i k o' rows e e2 e3 => ?_⟩
  ·have e' := (hat i k).1 e
   have hi : i < A.length := by have := (List.getElem?_eq_some_iff.1 e').1; omega
   obtain ⟨k', o, e3, e4, e5⟩ := hobj (List.getElem?_eq_getElem hi)
   rw [e'] at e3; cases e3
   rw [e2] at e4; cases e4
   rw [List.getElem?_eq_getElem hi]
   cases hA' : A[i] <;> rw [hA'] at e5 <;> first | exact ⟨_, rfl⟩ | exact e5.elim
  ·have e' := (hat i k).1 e
   obtain ⟨k', o, e4, e5, e6⟩ := hobj e2
   rw [e'] at e4; cases e4
   exact ⟨o, e5, a1C e6 e3⟩
 let Wn : Nat → Prop := fun b => ∃ i o x, A[i]? = some o ∧ o.owns = true ∧ γA i = some (b, x)
 let W1 : Ent := { start := h.next, W := Wn, A := fun b => qe W0 γ L h b ∨ Wn b, pin := fun i b => γA i = some (b, 0) ∧ ∃ c, A[i]? = some (.st c), cnt := A.length, few := fun i b e => (by
   obtain ⟨_, c, hc⟩ := e
   exact (List.getElem?_eq_some_iff.1 hc).1), sub := fun b e => .inr e }
 have hWn : ∀ {b}, Wn b → ∃ k o x i, sel[i]? = some k ∧ L[k]? = some o ∧ o.owns = true ∧ γ k = some (b, x) ∧ (∃ o', A[i]? = some o') := fun {b} ⟨i, o', x, e1, e2, e3⟩ => by
  obtain ⟨k, o, e4, e5, e6⟩ := hobj e1
  exact ⟨k, o, x, i, e4, e5, by rw [← Ku e6]; exact e2, by rw [← hγA e4]; exact e3, o', e1⟩
 have hS : ∀ b, qe W0 γ L h b → qe W1 γA A h b := fun b hb => by
  refine ⟨hb.1, .inr (.inl hb), fun i o' x e1 e2 e3 => ?_⟩
  obtain ⟨k, o, e4, e5, e6⟩ := hobj e1
  rw [hγA e4] at e3
  exact hb.2.2 k o x e5 (by rw [← Ku e6]; exact e2) e3
 have hlt : ∀ {k : Nat} {o : Obj} {b x : Nat}, L[k]? = some o → o.owns = true → γ k = some (b, x) → b < h.next := fun {k o b x} e e2 e3 => (OR.lt (fun b hb => hb.1) (H.obj k o e) e3 e2).1
 have HA : Hp P h W1 γA A h := by
  refine ⟨rfl, fun i b e => e, fun i o' e => ?_, fun i j o1 o2 b x x' e1 e2 d1 d2 g1 g2 => ?_, fun i x e => ?_, fun i o' b x e d g => .inr ⟨i, o', x, e, d, g⟩, Nat.le_refl _, fun _ _ _ => rfl⟩
  ·obtain ⟨k, o, e4, e5, e6⟩ := hobj e
   exact afr hS R ((hat i k).2 e4) e6 (H.obj k o e5)
  ·obtain ⟨k1, q1, a1, a2, a3⟩ := hobj e1
   obtain ⟨k2, q2, b1, b2, b3⟩ := hobj e2
   rw [hγA a1] at g1
   rw [hγA b1] at g2
   have := H.inj k1 k2 q1 q2 b x x' a2 b2 (by rw [← Ku a3]; exact d1) (by rw [← Ku b3]; exact d2) g1 g2
   subst this
   exact hinj a1 b1
  ·have e' : (sel[i]?).bind γ = some x := e
   cases hi : sel[i]? with
   | none => rw [hi] at e'; cases e'
   | some k => have := (List.getElem?_eq_some_iff.1 hi).1; omega
 obtain ⟨us, hw, hu⟩ := xH (S' := qe W1 γA A h) H hS R ha hr
 refine ADoes.of (ACalls.args hw ((hc W1 γA h us (Nat.le_refl _) HA hu).mono ?_))
 rintro v h' ⟨γ2, r, A', q, H2, hd⟩
 obtain ⟨back, L2, r', M, hr', hK⟩ := hq r A' q
 let γ3 : Pl := fun i => match back[i]? with
  | some (some k) => γ2 k
  | _ => if i ∈ sel then none else γ i
 have h3b : ∀ {i k : Nat}, back[i]? = some (some k) → γ3 i = γ2 k := fun {i k} e => by show (match back[i]? with | some (some k) => γ2 k | _ => _) = _; rw [e]
 have h3k : ∀ {i : Nat}, i < L.length → i ∉ sel → γ3 i = γ i := fun {i} h1 h2 => by show (match back[i]? with | some (some k) => γ2 k | _ => _) = _; rw [(M.kept i h1 h2).1]; simp [h2]
 have hn : h.next ≤ h'.next := H2.next
 have hfr : ∀ b, b < h.next → ¬ Wn b → h'.get b = h.get b := fun b hb hw => H2.frame b hb hw
 have hown : ∀ {i : Nat} {o : Obj} {b x : Nat}, L[i]? = some o → i ∉ sel → o.owns = true → γ i = some (b, x) → b < h.next ∧ ¬ Wn b := fun {i o b x} e1 e2 e3 e4 => by
  refine ⟨hlt e1 e3 e4, fun hw => ?_⟩
  obtain ⟨k, o', x', j, f1, f2, f3, f4, _⟩ := hWn hw
  have := H.inj i k o o' b x x' e1 f2 e3 f3 e4 f4
  subst this
  exact e2 (List.mem_of_getElem? f1)
 have hback : ∀ {i : Nat} {o' : Obj} {k : Nat}, L2[i]? = some o' → back[i]? = some (some k) → o'.owns = true → ∃ o : Obj, A'[k]? = some o ∧ o.owns = true := fun {i o' k} e1 e2 e3 => by
  obtain ⟨_, o, o2, f1, f2, f3⟩ := M.old i k e2
  rw [e1] at f2; cases f2
  exact ⟨o, f1, by rw [← Ku f3]; exact e3⟩
 have hcase : ∀ {i : Nat} {o' : Obj}, L2[i]? = some o' → (i < L.length ∧ i ∉ sel ∧ L[i]? = some o') ∨ (∃ k, back[i]? = some (some k)) ∨ o' = .dead := fun {i o'} e => by
  by_cases h1 : i < L.length
  ·by_cases h2 : i ∈ sel
   ·obtain ⟨k, hk⟩ := List.mem_iff_getElem?.1 h2
    have hkA : k < A.length := by rw [hlen]; exact (List.getElem?_eq_some_iff.1 hk).1
    by_cases h3 : ∃ c, A[k]? = some (.st c)
    ·obtain ⟨c, h3⟩ := h3
     exact .inr (.inl ⟨k, M.st k i c hk h3⟩)
    ·have := (M.gone k i hk fun c hc => h3 ⟨c, hc⟩).1
     rw [e] at this; cases this
     exact .inr (.inr rfl)
   ·exact .inl ⟨h1, h2, by rw [← (M.kept i h1 h2).2]; exact e⟩
  ·exact .inr (.inl (M.new i (by omega) (List.getElem?_eq_some_iff.1 e).1))
 have hSf : ∀ b, qe W1 γ2 A' h' b → qe W0 γ3 L2 h' b := fun b hb => by
  obtain ⟨c1, c2, c3⟩ := hb
  refine ⟨c1, ?_, fun i o' x e1 e2 e3 => ?_⟩
  ·rcases c2 with c2 | c2 | c2
   ·have c2' : h.next ≤ b := c2
    exact .inl (by rw [H.start]; exact Nat.le_trans H.next c2')
   ·exact c2.2.1
   ·obtain ⟨k, o, x, i, f1, f2, f3, f4, _⟩ := hWn c2
    exact H.allowed f2 f3 f4
  ·rcases hcase e1 with ⟨g1, g2, g3⟩ | ⟨k, g⟩ | rfl
   ·rw [h3k g1 g2] at e3
    have := hown g3 g2 e2 e3
    rcases c2 with c2 | c2 | c2
    ·have c2' : h.next ≤ b := c2
     omega
    ·exact c2.2.2 i o' x g3 e2 e3
    ·exact this.2 c2
   ·obtain ⟨o, f1, f2⟩ := hback e1 g e2
    rw [h3b g] at e3
    exact c3 k o x f1 f2 e3
   ·cases e2
 have c : Carry W0 γ L h γ3 L2 h' := by
  refine ⟨fun b hb => ?_, M.le, fun i b e ⟨c, hc⟩ => ?_, fun i b e ⟨c, hc⟩ => ?_, fun i o' rows' hi e hl => ?_⟩
  ·have hnw : ¬ Wn b := fun hw => by
    obtain ⟨k, o, x, i, f1, f2, f3, f4, _⟩ := hWn hw
    exact hb.2.2 k o x f2 f3 f4
   refine ⟨⟨Nat.lt_of_lt_of_le hb.1 hn, hb.2.1, fun i o' x e1 e2 e3 => ?_⟩, hfr b hb.1 hnw⟩
   rcases hcase e1 with ⟨g1, g2, g3⟩ | ⟨k, g⟩ | rfl
   ·rw [h3k g1 g2] at e3
    exact hb.2.2 i o' x g3 e2 e3
   ·obtain ⟨o, f1, f2⟩ := hback e1 g e2
    rw [h3b g] at e3
    rcases H2.new k o b x f1 f2 e3 with q | q
    ·have := hb.1; omega
    ·exact hnw q
   ·cases e2
  ·have hiL : i < L.length := (List.getElem?_eq_some_iff.1 hc).1
   by_cases h2 : i ∈ sel
   ·obtain ⟨k, hk⟩ := List.mem_iff_getElem?.1 h2
    have hkA : k < A.length := by rw [hlen]; exact (List.getElem?_eq_some_iff.1 hk).1
    obtain ⟨k', o, f1, f2, f3⟩ := hobj (List.getElem?_eq_getElem hkA)
    rw [hk] at f1; cases f1
    rw [hc] at f2; cases f2
    have hst : ∃ c', A[k]? = some (.st c') := by
     rw [List.getElem?_eq_getElem hkA]
     cases hA' : A[k] <;> rw [hA'] at f3 <;> first | exact ⟨_, rfl⟩ | exact f3.elim
    obtain ⟨c', hc'⟩ := hst
    have hb := M.st k i c' hk hc'
    have hp := H2.pin k b ⟨by rw [hγA hk]; exact e, c', hc'⟩
    refine ⟨(h3b hb).trans hp.1, ?_⟩
    obtain ⟨c2, hc2⟩ := hp.2
    obtain ⟨_, o, o2, g1, g2, g3⟩ := M.old i k hb
    rw [hc2] at g1; cases g1
    rw [g2]
    cases o2 <;> first | exact ⟨_, rfl⟩ | exact g3.elim
   ·exact ⟨(h3k hiL h2).trans e, c, by rw [(M.kept i hiL h2).2]; exact hc⟩
  ·have hiL : i < L.length := (List.getElem?_eq_some_iff.1 hc).1
   by_cases h2 : i ∈ sel
   ·obtain ⟨k, hk⟩ := List.mem_iff_getElem?.1 h2
    have hkA : k < A.length := by rw [hlen]; exact (List.getElem?_eq_some_iff.1 hk).1
    obtain ⟨k', o, f1, f2, f3⟩ := hobj (List.getElem?_eq_getElem hkA)
    rw [hk] at f1; cases f1
    rw [hc] at f2; cases f2
    cases hA' : A[k] <;> rw [hA'] at f3 <;> exact f3.elim
   ·exact ⟨(h3k hiL h2).trans e, c, by rw [(M.kept i hiL h2).2]; exact hc⟩
  ·rcases hcase e with ⟨g1, g2, g3⟩ | ⟨k, g⟩ | rfl
   ·exact ⟨o', rows', g3, hl, Nat.le_refl _, fun _ => ⟨h3k g1 g2, fun _ hz => hz⟩⟩
   ·exfalso
    have h2 : i ∈ sel := by
     rcases (M.old i k g).1 with q | q
     ·exact q
     ·omega
    obtain ⟨k2, hk2⟩ := List.mem_iff_getElem?.1 h2
    have hkA : k2 < A.length := by rw [hlen]; exact (List.getElem?_eq_some_iff.1 hk2).1
    by_cases h3 : ∃ c, A[k2]? = some (.st c)
    ·obtain ⟨c, h3⟩ := h3
     have hb := M.st k2 i c hk2 h3
     rw [g] at hb; cases hb
     obtain ⟨k', o, f1, f2, f3⟩ := hobj h3
     rw [hk2] at f1; cases f1
     cases o with
     | st c0 =>
      have ho := H.obj i _ f2
      obtain ⟨b, te, vs, p1, _⟩ := ho
      have hp := H2.pin k b ⟨by rw [hγA hk2]; exact p1, c, h3⟩
      obtain ⟨c2, hc2⟩ := hp.2
      obtain ⟨_, o3, o4, m1, m2, m3⟩ := M.old i k g
      rw [hc2] at m1; cases m1
      rw [e] at m2; cases m2
      cases o' <;> first | exact m3.elim | exact hl.elim
     | _ => exact f3.elim
    ·have := (M.gone k2 i hk2 fun c hc => h3 ⟨c, hc⟩).2
     rw [g] at this; cases this
   ·exact hl.elim
 have R2 : Ren γ2 A' back γ3 L2 := by
  refine ⟨fun i k e => h3b e, fun i k e => by rw [← M.len]; exact (List.getElem?_eq_some_iff.1 e).1, fun i k c e e2 => ?_, fun i k o' rows e e2 e3 => ?_⟩
  ·obtain ⟨_, o, o2, f1, f2, f3⟩ := M.old i k e
   rw [e2] at f1; cases f1
   rw [f2]
   cases o2 <;> first | exact ⟨_, rfl⟩ | exact f3.elim
  ·obtain ⟨_, o, o2, f1, f2, f3⟩ := M.old i k e
   rw [e2] at f2; cases f2
   exact ⟨o, f1, a1C f3 e3⟩
 refine ⟨⟨γ3, r', L2, hK, ?_, c, agl hSf R2 hr' hd⟩, fun b hb hne => hfr b hb fun ⟨i, o, x, e1, e2, e3⟩ => by
  have e3' : (sel[i]?).bind γ = some (b, x) := e3
  cases hi : sel[i]? with
  | none => rw [hi] at e3'; cases e3'
  | some k => rw [hi] at e3'; exact hne k (List.mem_of_getElem? hi) x e3'⟩
 refine ⟨H.start, fun i b e => ?_, fun i o' e => ?_, fun i j o1 o2 b x x' e1 e2 d1 d2 g1 g2 => ?_, fun i x e => ?_, fun i o' b x e d g => ?_, Nat.le_trans H.next hn, fun b hb hw => ?_⟩
 ·obtain ⟨p1, p2⟩ := H.pin i b e
  exact c.st i b p1 p2
 ·rcases hcase e with ⟨g1, g2, g3⟩ | ⟨k, g⟩ | rfl
  ·exact H.others c g3 (h3k g1 g2) fun b x hg hd => by
    obtain ⟨q1, q2⟩ := hown g3 g2 hd hg
    exact hfr b q1 q2
  ·obtain ⟨_, o, o2, f1, f2, f3⟩ := M.old i k g
   rw [e] at f2; cases f2
   exact afr hSf R2 g f3 (H2.obj k o f1)
  ·trivial
 ·have side : ∀ {i j : Nat} {o1 o2 : Obj} {b x x' k : Nat}, L2[i]? = some o1 → L2[j]? = some o2 → o1.owns = true → o2.owns = true → γ3 i = some (b, x) → γ3 j = some (b, x') → (i < L.length ∧ i ∉ sel ∧ L[i]? = some o1) → back[j]? = some (some k) → False := by
   intro i j o1 o2 b x x' k e1 e2 d1 d2 g1 g2 hi hj
   obtain ⟨i1, i2, i3⟩ := hi
   rw [h3k i1 i2] at g1
   obtain ⟨q1, q2⟩ := hown i3 i2 d1 g1
   obtain ⟨o, f1, f2⟩ := hback e2 hj d2
   rw [h3b hj] at g2
   rcases H2.new k o b x' f1 f2 g2 with q | q
   ·omega
   ·exact q2 q
  rcases hcase e1 with c1 | ⟨k1, c1⟩ | rfl <;> rcases hcase e2 with c2 | ⟨k2, c2⟩ | rfl
  ·obtain ⟨i1, i2, i3⟩ := c1
   obtain ⟨j1, j2, j3⟩ := c2
   rw [h3k i1 i2] at g1
   rw [h3k j1 j2] at g2
   exact H.inj i j o1 o2 b x x' i3 j3 d1 d2 g1 g2
  ·exact (side e1 e2 d1 d2 g1 g2 c1 c2).elim
  ·cases d2
  ·exact (side e2 e1 d2 d1 g2 g1 c2 c1).elim
  ·obtain ⟨q1, f1, f2⟩ := hback e1 c1 d1
   obtain ⟨q2, m1, m2⟩ := hback e2 c2 d2
   rw [h3b c1] at g1
   rw [h3b c2] at g2
   have := H2.inj k1 k2 q1 q2 b x x' f1 m1 f2 m2 g1 g2
   subst this
   exact M.inj i j k1 c1 c2
  ·cases d2
  ·cases d1
  ·cases d1
  ·cases d1
 ·rw [← M.len]
  have e' : (match back[i]? with | some (some k) => γ2 k | _ => if i ∈ sel then none else γ i) = some x := e
  split at e'
  ·rename_i k hk; exact (List.getElem?_eq_some_iff.1 hk).1
  ·split at e'
   ·cases e'
   ·have := H.dom i x e'
    rw [M.len]; exact Nat.lt_of_lt_of_le this M.le
 ·rcases hcase e with ⟨g1, g2, g3⟩ | ⟨k, g'⟩ | rfl
  ·rw [h3k g1 g2] at g
   exact H.new i o' b x g3 d g
  ·obtain ⟨o, f1, f2⟩ := hback e g' d
   rw [h3b g'] at g
   rcases H2.new k o b x f1 f2 g with q | q
   ·exact .inl (Nat.le_trans H.next q)
   ·obtain ⟨k, o, x, j, f1, f2, f3, f4, _⟩ := hWn q
    exact H.new k o b x f2 f3 f4
  ·cases d
 ·by_cases hwn : Wn b
  ·obtain ⟨k, o, x, j, f1, f2, f3, f4, _⟩ := hWn hwn
   rcases H.new k o b x f2 f3 f4 with q | q
   ·omega
   ·exact absurd q hw
  ·rw [hfr b (Nat.lt_of_lt_of_le hb H.next) hwn]; exact H.frame b hb hw
theorem a83 {f : FuncId} {ds ds' : List DV} {K : DV → List Obj → Prop} {Q : DV → List Obj → Prop} (hc : DCalls P f ds' [] Q) (ha : All2 (aaE P L true) ds' ds) (hq : ∀ r A', Q r A' → A' = [] ∧ abF r = true ∧ K r L) : DCallWF P f ds L [] K := by
 intro h0 W0 γ h vs H hr
 let W1 : Ent := { start := h.next, W := fun _ => False, A := fun _ => True, pin := fun _ _ => False, cnt := 0, few := fun _ _ e => e.elim, sub := fun _ e => e.elim }
 have hS : ∀ b, b < h.next → qe W1 u0 [] h b := fun b hb => ⟨hb, .inr trivial, fun id o x e => by simp at e⟩
 obtain ⟨us, hw, hu⟩ := UP (S' := qe W1 u0 [] h) H (fun b hb => hS b hb.1) (fun _ => hS) ha hr
 refine ADoes.of (ACalls.args hw ((hc W1 u0 h us (Nat.le_refl _) (ace W1 h rfl fun _ _ e => e) hu).mono ?_))
 rintro v h' ⟨γ', r, A', q, H', hd⟩
 obtain ⟨rfl, hsc, hK⟩ := hq r A' q
 have hg : ∀ b, b < h.next → h'.get b = h.get b := fun b hb => H'.frame b hb (fun e => e)
 obtain ⟨H2, c⟩ := H.grow H'.next hg
 exact ⟨⟨γ, r, L, hK, H2, c, acD hsc hd⟩, fun b hb _ => hg b hb⟩
end
open Go.RowKit
theorem vR {s : Sel} {d d' : DV} (e : jx [] d = some d') : d' = d ∧ jx s d = some d := by
 cases d <;> (simp only [jx, unB, List.getElem?_nil] at e) <;> (try cases e) <;> exact ⟨rfl, rfl⟩
theorem a8A {s : Sel} : ∀ {ds ds' : List DV}, jd [] ds = some ds' → ds' = ds ∧ jd s ds = some ds
 | [], _, e => by cases e; exact ⟨rfl, rfl⟩
 | d :: ds, _, e => by
  unfold jd at e
  cases h1 : jx [] d with
  | none => simp only [h1] at e; cases e
  | some x =>
   cases h2 : jd [] ds with
   | none => simp only [h1, h2] at e; cases e
   | some y =>
    simp only [h1, h2] at e; cases e
    obtain ⟨rfl, a1⟩ := vR (s := s) h1
    obtain ⟨rfl, a2⟩ := a8A (s := s) h2
    exact ⟨rfl, by simp only [jd, a1, a2]⟩
theorem freeC {s : Sel} {d d' : DV} (e : QT [] d = some d') : d' = d ∧ QT s d = some d := by
 cases d with
 | fn f a b =>
  simp only [QT] at e
  cases h1 : jd [] a with
  | none => simp only [h1] at e; cases e
  | some x =>
   cases h2 : jd [] b with
   | none => simp only [h1, h2] at e; cases e
   | some y =>
    simp only [h1, h2] at e; cases e
    obtain ⟨rfl, a1⟩ := a8A (s := s) h1
    obtain ⟨rfl, a2⟩ := a8A (s := s) h2
    exact ⟨rfl, by simp only [QT, a1, a2]⟩
 | p x => exact vR (s := s) (d := .p x) e
 | ptr x y => exact vR (s := s) (d := .ptr x y) e
 | ep x y z w => exact vR (s := s) (d := .ep x y z w) e
 | dp x y => exact vR (s := s) (d := .dp x y) e
 | ref x y z w => exact vR (s := s) (d := .ref x y z w) e
 | aref x y z => exact vR (s := s) (d := .aref x y z) e
 | cx x y => exact vR (s := s) (d := .cx x y) e
 | mref x => exact vR (s := s) (d := .mref x) e
 | agg xs => cases e
 | tup xs => cases e
section
variable {P : Program} {L : List Obj}
theorem DCalls.mono {f : FuncId} {ds : List DV} {A : List Obj} {Q Q' : DV → List Obj → Prop} (hc : DCalls P f ds A Q) (hq : ∀ r A', Q r A' → Q' r A') : DCalls P f ds A Q' := fun W0 γ h vs h1 H hr => (hc W0 γ h vs h1 H hr).mono fun v h' ⟨γ', r, A', q, x, y⟩ => ⟨γ', r, A', hq _ _ q, x, y⟩
end
def aap (L : List Obj) (sel : List Nat) (A' : List Obj) (back : Sel) (i : Nat) (o' : Obj) : Prop := match back[i]? with
 | some (some k) => (sel.contains i = true ∨ L.length ≤ i) ∧ match A'[k]? with
  | some o => YJ back o' o
  | none => False
 | some none => i < L.length ∧ if sel.contains i = true then o' = .dead else L[i]? = some o'
 | none => False
def akF (L : List Obj) (sel : List Nat) (A' : List Obj) (back : Sel) : Nat → List Obj → Prop
 | _, [] => True
 | i, o' :: r => aap L sel A' back i o' ∧ akF L sel A' back (i + 1) r
def afL (back : Sel) : Nat → List Obj → List Nat → Prop
 | k, .st _ :: A, i :: sel => back[i]? = some (some k) ∧ afL back (k + 1) A sel
 | k, _ :: A, i :: sel => back[i]? = some none ∧ afL back (k + 1) A sel
 | _, _, _ => True
theorem a7d {L : List Obj} {sel : List Nat} {A' : List Obj} {back : Sel} : ∀ {n : Nat} {l : List Obj}, akF L sel A' back n l → ∀ {i : Nat} {o' : Obj}, l[i]? = some o' → aap L sel A' back (n + i) o'
 | n, [], _, i, o', e => by simp at e
 | n, o :: l, h, i, o', e => by
  cases i with
  | zero => simp at e; subst e; exact h.1
  | succ i => have := a7d h.2 (i := i) (by simpa using e); rwa [show n + 1 + i = n + (i + 1) by omega] at this
theorem Uy {back : Sel} : ∀ {n : Nat} {A : List Obj} {sel : List Nat}, afL back n A sel → ∀ {k i : Nat} {o : Obj}, sel[k]? = some i → A[k]? = some o → back[i]? = some (match o with | .st _ => some (n + k) | _ => none)
 | n, [], _, _, k, i, o, _, e => by simp at e
 | n, a :: A, [], _, k, i, o, e, _ => by simp at e
 | n, a :: A, s :: sel, h, k, i, o, e1, e2 => by
  have hs : (∀ (o : Obj), o = a → back[s]? = some (match o with | .st _ => some n | _ => none)) ∧ afL back (n + 1) A sel := by
   refine ⟨fun o e => ?_, ?_⟩
   ·subst e; cases o <;> exact h.1
   ·cases a <;> exact h.2
  cases k with
  | zero => simp at e1 e2; subst e1; subst e2; rw [Nat.add_zero]; exact hs.1 _ rfl
  | succ k => rw [Uy hs.2 (k := k) (i := i) (o := o) (by simpa using e1) (by simpa using e2), show n + 1 + k = n + (k + 1) by omega]
theorem ajP {sel : Sel} (hn : (sel.filterMap id).Nodup) : ∀ (i j k : Nat), sel[i]? = some (some k) → sel[j]? = some (some k) → i = j := by
 intro i j k e1 e2
 induction sel generalizing i j with
 | nil => simp at e1
 | cons s sel ih =>
  have hmem : ∀ (m : Nat), sel[m]? = some (some k) → k ∈ sel.filterMap id := fun m e => List.mem_filterMap.2 ⟨some k, List.mem_of_getElem? e, rfl⟩
  have hn' : (sel.filterMap id).Nodup := by
   cases s with
   | none => simpa using hn
   | some q => rw [List.filterMap_cons_some (by rfl)] at hn; exact (List.nodup_cons.1 hn).2
  have hno : ∀ m, s = some k → sel[m]? = some (some k) → False := fun m e e' => by
   subst e
   rw [List.filterMap_cons_some (by rfl)] at hn
   exact (List.nodup_cons.1 hn).1 (hmem m e')
  cases i with
  | zero =>
   cases j with
   | zero => rfl
   | succ j => exact (hno j (by simpa using e1) (by simpa using e2)).elim
  | succ i =>
   cases j with
   | zero => exact (hno i (by simpa using e2) (by simpa using e1)).elim
   | succ j => exact congrArg (· + 1) (ih hn' i j (by simpa using e1) (by simpa using e2))
theorem Merge.of {L : List Obj} {sel : List Nat} {A A' : List Obj} {back : Sel} {L2 : List Obj} (h1 : back.length = L2.length) (h2 : L.length ≤ L2.length) (h3 : akF L sel A' back 0 L2) (h4 : afL back 0 A sel) (h5 : (back.filterMap id).Nodup) (h6 : A.length = sel.length) : Merge L sel A A' back L2 := by
 have at' : ∀ {i : Nat}, i < L2.length → ∃ o', L2[i]? = some o' ∧ aap L sel A' back i o' := fun {i} hi => ⟨_, List.getElem?_eq_getElem hi, by have := a7d h3 (List.getElem?_eq_getElem hi); rwa [Nat.zero_add] at this⟩
 refine ⟨h1, h2, fun i hi hn => ?_, fun k i c e1 e2 => ?_, fun k i e1 e2 => ?_, fun i k e => ?_, fun i hi hi2 => ?_, ajP h5⟩
 ·obtain ⟨o', e, hm⟩ := at' (show i < L2.length by omega)
  have hc : sel.contains i = false := by simpa using hn
  unfold aap at hm
  split at hm
  ·rename_i k hk
   rcases hm.1 with q | q
   ·rw [hc] at q; cases q
   ·omega
  ·rename_i hk
   rw [if_neg (by rw [hc]; simp)] at hm
   exact ⟨hk, e.trans hm.2.symm⟩
  ·exact hm.elim
 ·have := Uy h4 e1 e2
  rw [Nat.zero_add] at this
  exact this
 ·have hk : k < A.length := by rw [h6]; exact (List.getElem?_eq_some_iff.1 e1).1
  have hb := Uy h4 e1 (List.getElem?_eq_getElem hk)
  have hb' : back[i]? = some none := by
   cases ho : A[k] with
   | st c => exact absurd (by rw [List.getElem?_eq_getElem hk, ho]) (e2 c)
   | li => rw [ho] at hb; exact hb
   | fz => rw [ho] at hb; exact hb
   | mp => rw [ho] at hb; exact hb
   | dead => rw [ho] at hb; exact hb
  have hi : i < L2.length := by rw [← h1]; exact (List.getElem?_eq_some_iff.1 hb').1
  obtain ⟨o', e, hm⟩ := at' hi
  unfold aap at hm
  rw [hb'] at hm
  have hc : sel.contains i = true := by simpa using List.mem_of_getElem? e1
  rw [if_pos hc] at hm
  exact ⟨by rw [e, hm.2], hb'⟩
 ·have hi : i < L2.length := by rw [← h1]; exact (List.getElem?_eq_some_iff.1 e).1
  obtain ⟨o', e', hm⟩ := at' hi
  unfold aap at hm
  rw [e] at hm
  obtain ⟨m1, m2⟩ := hm
  refine ⟨m1.imp_left (by simp), ?_⟩
  split at m2
  ·rename_i o ho; exact ⟨o, o', ho, e', m2⟩
  ·exact m2.elim
 ·obtain ⟨o', e', hm⟩ := at' hi2
  unfold aap at hm
  split at hm
  ·rename_i k hk; exact ⟨k, hk⟩
  ·omega
  ·exact hm.elim
set_option maxRecDepth 100000
theorem a5K (p q : Prop) {dp : Decidable p} {dq : Decidable q} : (if @decide p dp = true then @decide q dq else false) = decide (p ∧ q) := by
 by_cases hp : p <;> simp [hp]
theorem a9o (p q : Prop) {dp : Decidable p} {dq : Decidable q} : (if @decide p dp = true then true else @decide q dq) = decide (p ∨ q) := by
 by_cases hp : p <;> simp [hp]
theorem a3u (p q : Prop) {dp : Decidable p} {dq : Decidable q} : (if @decide p dp = true then false else @decide q dq) = decide (¬ p ∧ q) := by
 by_cases hp : p <;> simp [hp]
theorem a8Y (p : Prop) {dp : Decidable p} : (if @decide p dp = true then true else false) = decide p := by
 by_cases hp : p <;> simp [hp]
attribute [push_cast] Classical.not_not a5K a9o a3u a8Y
open Go.RowKit
inductive CT where
 | int (k : IntKind)
 | bool
 | str
 | sl (r : CT)
 | pair (a b : CT)
def CT.T : CT → Type
 | .int _ => Int
 | .bool => Bool
 | .str => ByteArray
 | .sl r => List (CT.T r)
 | .pair a b => CT.T a × CT.T b
def CT.size : CT → Nat
 | .pair a b => a.size + b.size
 | _ => 1
def CT.eqb : CT → CT → Bool
 | .int k, .int k' => decide (k = k')
 | .bool, .bool => true
 | .str, .str => true
 | .sl a, .sl b => CT.eqb a b
 | .pair a b, .pair a' b' => CT.eqb a a' && CT.eqb b b'
 | _, _ => false
theorem CT.of_eqb : ∀ {a b : CT}, CT.eqb a b = true → a = b
 | .int k, .int k', h => by simp [CT.eqb] at h; rw [h]
 | .bool, .bool, _ => rfl
 | .str, .str, _ => rfl
 | .sl a, .sl b, h => by rw [CT.of_eqb (a := a) (b := b) h]
 | .pair a b, .pair a' b', h => by
  simp only [CT.eqb, Bool.and_eq_true] at h
  rw [CT.of_eqb h.1, CT.of_eqb h.2]
 | .int _, .bool, h => by cases h
 | .int _, .str, h => by cases h
 | .int _, .sl _, h => by cases h
 | .int _, .pair _ _, h => by cases h
 | .bool, .int _, h => by cases h
 | .bool, .str, h => by cases h
 | .bool, .sl _, h => by cases h
 | .bool, .pair _ _, h => by cases h
 | .str, .int _, h => by cases h
 | .str, .bool, h => by cases h
 | .str, .sl _, h => by cases h
 | .str, .pair _ _, h => by cases h
 | .sl _, .int _, h => by cases h
 | .sl _, .bool, h => by cases h
 | .sl _, .str, h => by cases h
 | .sl _, .pair _ _, h => by cases h
 | .pair _ _, .int _, h => by cases h
 | .pair _ _, .bool, h => by cases h
 | .pair _ _, .str, h => by cases h
 | .pair _ _, .sl _, h => by cases h
theorem CT.size_pos : ∀ c : CT, 0 < c.size
 | .int _ => Nat.one_pos
 | .bool => Nat.one_pos
 | .str => Nat.one_pos
 | .sl _ => Nat.one_pos
 | .pair a _ => Nat.lt_of_lt_of_le (CT.size_pos a) (Nat.le_add_right _ _)
def qT : (c : CT) → c.T → List PV
 | .int k, n => [.v (.int k n)]
 | .bool, b => [.v (.bool b)]
 | .str, s => [.v (.string s)]
 | .sl r, xs => [.sl r.size (List.map (qT r) xs)]
 | .pair a b, x => qT a x.1 ++ qT b x.2
theorem kF : ∀ (c : CT) (x : c.T), (qT c x).length = c.size
 | .int _, _ => rfl
 | .bool, _ => rfl
 | .str, _ => rfl
 | .sl _, _ => rfl
 | .pair a b, x => by simp only [qT, CT.size, List.length_append, kF a, kF b]
inductive TV where
 | v (x : Value)
 | sl (c : CT) (xs : List c.T)
 | ptr (id off : Nat)
 | ep (id i off tot : Nat)
 | dp (c : CT) (x : c.T) (off : Nat)
 | ref (id tot : Nat)
 | part (id lo n tot : Nat)
 | aref (id off n : Nat)
 | slx (c : CT) (xs : List c.T)
 | mref (id : Nat)
 | fn (f : FuncId) (pre cap : List TV)
 | agg (xs : List TV)
 | tup (xs : List TV)
def zN : TV → DV
 | .v x => .p (.v x)
 | .sl c xs => .p (.sl c.size (xs.map (qT c)))
 | .ptr id off => .ptr id off
 | .ep id i off tot => .ep id i off tot
 | .dp c x off => .dp (qT c x) off
 | .ref id tot => .ref id 0 tot tot
 | .part id lo n tot => .ref id lo n tot
 | .aref id off n => .aref id off n
 | .slx c xs => .cx c.size (xs.map (qT c))
 | .mref id => .mref id
 | .fn f _ _ => .fn f [] []
 | .agg _ => .agg []
 | .tup _ => .tup []
def qy : TV → DV
 | .fn f pre cap => .fn f (pre.map zN) (cap.map zN)
 | d => zN d
def zb : TV → DV
 | .agg xs => .agg (xs.map qy)
 | d => qy d
def enc : TV → DV
 | .tup xs => .tup (xs.map zb)
 | d => zb d
inductive TO where
 | st (cells : List TV)
 | li (c : CT) (e : TypeId) (loc : Bool) (xs : List c.T)
 | fz (c : CT) (e : TypeId) (loc : Bool) (xs : List c.T)
 | mp (es : List (Value × TV))
 | dead
def eo (loc : Bool) (e : TypeId) (n : Nat) : Option TypeId := if loc then some e else if n = 0 then none else some e
def kQ : TO → Obj
 | .st cells => .st (cells.map qy)
 | .li c e loc xs => .li (eo loc e xs.length) (xs.map (qT c))
 | .fz c e loc xs => .fz (eo loc e xs.length) (xs.map (qT c))
 | .mp es => .mp (es.map fun x => (x.1, zb x.2))
 | .dead => .dead
def tvC : (c : CT) → c.T → List TV
 | .int k, n => [.v (.int k n)]
 | .bool, b => [.v (.bool b)]
 | .str, s => [.v (.string s)]
 | .sl r, xs => [.sl r xs]
 | .pair a b, x => tvC a x.1 ++ tvC b x.2
theorem ZB : ∀ (c : CT) (x : c.T), (tvC c x).map qy = (qT c x).map .p
 | .int _, _ => rfl
 | .bool, _ => rfl
 | .str, _ => rfl
 | .sl _, _ => rfl
 | .pair a b, x => by simp only [tvC, qT, List.map_append, ZB a, ZB b]
theorem a4R (c : CT) (x : c.T) : (tvC c x).length = c.size := by
 have := congrArg List.length (ZB c x)
 simpa [kF] using this
def wO {a b : CT} (h : a = b) (xs : List a.T) : List b.T := h ▸ xs
theorem a1N {a : CT} (h : a = a) (xs : List a.T) : wO h xs = xs := rfl
def va : (c : CT) → List TV → Option (c.T × List TV)
 | .int k, l => match l with
  | .v (.int k' n) :: r => if k = k' then some (n, r) else none
  | _ => none
 | .bool, l => match l with
  | .v (.bool b) :: r => some (b, r)
  | _ => none
 | .str, l => match l with
  | .v (.string s) :: r => some (s, r)
  | _ => none
 | .sl c, l => match l with
  | .sl c' xs :: r => if h : c'.eqb c = true then some (wO (CT.of_eqb h) xs, r) else none
  | .v (.slice none 0 0) :: r => some ([], r)
  | _ => none
 | .pair a b, l => match va a l with
  | some (x, l') => match va b l' with
   | some (y, l'') => some ((x, y), l'')
   | none => none
  | none => none
def a59 (c : CT) (l : List TV) : Option c.T := match va c l with
 | some (x, []) => some x
 | _ => none
def Ud : TV → PV → Prop
 | .v x, p => p = .v x
 | .sl c xs, p => p = .sl c.size (xs.map (qT c))
 | _, _ => False
theorem All2.refl_of {α : Type} {R : α → α → Prop} (h : ∀ a, R a a) : ∀ l : List α, All2 R l l
 | [] => .nil
 | a :: l => .cons (h a) (All2.refl_of h l)
theorem a76 (x : PV) : unP x x := by cases x <;> exact rfl
theorem xa : ∀ (c : CT) (l : List TV) (x : c.T) (r : List TV), va c l = some (x, r) → ∃ l0 ps, l = l0 ++ r ∧ All2 Ud l0 ps ∧ All2 unP (qT c x) ps
 | .int k, l, x, r, e => by
  simp only [va] at e
  split at e
  ·split at e
   ·rename_i hk; cases e; subst hk; exact ⟨[_], [_], rfl, .cons rfl .nil, .cons rfl .nil⟩
   ·cases e
  ·cases e
 | .bool, l, x, r, e => by
  simp only [va] at e
  split at e
  ·cases e; exact ⟨[_], [_], rfl, .cons rfl .nil, .cons rfl .nil⟩
  ·cases e
 | .str, l, x, r, e => by
  simp only [va] at e
  split at e
  ·cases e; exact ⟨[_], [_], rfl, .cons rfl .nil, .cons rfl .nil⟩
  ·cases e
 | .sl c, l, x, r, e => by
  simp only [va] at e
  split at e
  ·rename_i c' xs r'
   split at e
   ·rename_i h
    cases e
    have := CT.of_eqb h
    subst this
    exact ⟨[_], [_], rfl, .cons rfl .nil, .cons (a76 _) .nil⟩
   ·cases e
  ·cases e; exact ⟨[_], [_], rfl, .cons rfl .nil, .cons rfl .nil⟩
  ·cases e
 | .pair a b, l, x, r, e => by
  simp only [va] at e
  split at e
  ·rename_i y l' h1
   split at e
   ·rename_i z l'' h2
    cases e
    obtain ⟨m1, p1, rfl, a2, a3⟩ := xa a _ _ _ h1
    obtain ⟨m2, p2, rfl, b2, b3⟩ := xa b _ _ _ h2
    exact ⟨m1 ++ m2, p1 ++ p2, by simp, a2.append b2, a3.append b3⟩
   ·cases e
  ·cases e
theorem V5 {c : CT} {l : List TV} {x : c.T} (e : a59 c l = some x) : ∃ ps, All2 Ud l ps ∧ All2 unP (qT c x) ps := by
 unfold a59 at e
 split at e
 ·rename_i y h
  cases e
  obtain ⟨l0, ps, rfl, h2, h3⟩ := xa _ _ _ _ h
  exact ⟨ps, by simpa using h2, h3⟩
 ·cases e
theorem a5V : ∀ {l : List TV} {ps : List PV}, All2 Ud l ps → l.map qy = ps.map .p
 | _, _, .nil => rfl
 | _, _, .cons (a := a) (b := b) h t => by
  have := a5V t
  simp only [List.map_cons, this]
  congr 1
  cases a <;> first | (cases h; rfl) | exact h.elim
open Go.RowKit
def ZI (t : Nat) : List (Nat × TV) → Option TV
 | [] => none
 | (t', d) :: l => if t' = t then some d else ZI t l
structure TFrm where
 n : Nat
 c : Nat
 l : List (Nat × TV)
def TFrm.put (a : TFrm) (t : Option Nat) (d : TV) : TFrm := match t with
 | some t => if t < a.n then ⟨a.n, a.c, (t, d) :: a.l⟩ else a
 | none => a
abbrev a8P : TV := .tup []
def aaQ (v : Value) : Option TV := if scal v then some (.v v) else match v with
 | .tuple xs => if xs.size = 0 then some a8P else none
 | _ => none
def TFrm.ev (a : TFrm) : Operand → Option TV
 | .tmp t => ZI t a.l
 | .const v => aaQ v
 | .func f => some (.fn f [] [])
 | .global _ => none
abbrev KM := Operand → Option TV
def YM (ρ : KM) : List Operand → Option (List TV)
 | [] => some []
 | x :: r => match ρ x, YM ρ r with
  | some v, some vs => some (v :: vs)
  | _, _ => none
def a1P (ρ : KM) : List (Nat × Operand) → Option (List (Nat × TV))
 | [] => some []
 | (i, x) :: r => match ρ x, a1P ρ r with
  | some v, some vs => some ((i, v) :: vs)
  | _, _ => none
def yd : TV → List TV
 | .agg xs => xs
 | d => [d]
def ZR : TV → Bool
 | .tup _ => false
 | _ => true
def isC : TV → Bool
 | .agg _ => false
 | .tup _ => false
 | _ => true
def agB : Option TV → Option TV
 | some d => if isC d then some d else none
 | none => none
def J3 (P : Program) (t : TypeId) (cs : List TV) (off : Nat) : Option TV :=
 match P.underlying t with
 | none => none
 | some _ => if a1d P t then match szT P t with
   | some n => if off + n ≤ cs.length then some (.agg ((cs.drop off).take n)) else none
   | none => none
  else agB cs[off]?
def xD : List TV → Option (List Value)
 | [] => some []
 | x :: l => match x with
  | .v x => (xD l).map (x :: ·)
  | _ => none
def Xe : TV → Option Value
 | .v x => some x
 | .agg xs => (xD xs).map fun l => .agg l.toArray
 | _ => none
def scT (o : Option Value) : Option TV := match o with
 | some v => if scal v then some (.v v) else none
 | none => none
def a31 : TV → Option Value
 | .ptr _ _ => some (.pointer (some ⟨0, 0, none⟩))
 | .dp _ _ _ => some (.pointer (some ⟨0, 0, none⟩))
 | .fn f _ _ => some (.func (.func f) #[] #[])
 | _ => none
inductive Tree (R : Type) : Type 1
 | fail
 | ret (r : R)
 | cond (b : Bool) (x y : Tree R)
 | bind (α : Type) (o : Option α) (k : α → Tree R)
 | case (α β : Type) (s : α ⊕ β) (f : α → Tree R) (g : β → Tree R)
 | both (x y : Tree R)
open Classical in
def bothM {R : Type} (x y : Option R) : Option R := if x = y then x else none
theorem Uo {R : Type} (x : Option R) : bothM x x = x := by unfold bothM; rw [if_pos rfl]
theorem a8O {R : Type} {x y : Option R} {a : R} (h : bothM x y = some a) : x = some a ∧ y = some a := by
 unfold bothM at h
 split at h
 ·rename_i e; exact ⟨h, e ▸ h⟩
 ·cases h
def Tree.run {R : Type} : Tree R → Option R
 | .fail => none
 | .ret r => some r
 | .cond b x y => match b with
  | true => x.run
  | false => y.run
 | .bind _ o k => match o with
  | some x => (k x).run
  | none => none
 | .case _ _ s f g => match s with
  | .inl a => (f a).run
  | .inr b => (g b).run
 | .both x y => bothM x.run y.run
def Tree.map {R S : Type} (j : R → S) : Tree R → Tree S
 | .fail => .fail
 | .ret r => .ret (j r)
 | .cond b x y => .cond b (x.map j) (y.map j)
 | .bind α o k => .bind α o fun x => (k x).map j
 | .case α β s f g => .case α β s (fun a => (f a).map j) (fun b => (g b).map j)
 | .both x y => .both (x.map j) (y.map j)
theorem Tree.run_map {R S : Type} (j : R → S) (hj : ∀ a b, j a = j b → a = b) : ∀ t : Tree R, (t.map j).run = t.run.map j
 | .fail => rfl
 | .ret r => rfl
 | .cond b x y => by cases b <;> simp only [Tree.map, Tree.run] <;> exact Tree.run_map j hj _
 | .bind α o k => by
  cases o with
  | none => rfl
  | some x => exact Tree.run_map j hj (k x)
 | .case α β s f g => by
  cases s with
  | inl a => exact Tree.run_map j hj (f a)
  | inr b => exact Tree.run_map j hj (g b)
 | .both x y => by
  show bothM (x.map j).run (y.map j).run = (bothM x.run y.run).map j
  rw [Tree.run_map j hj x, Tree.run_map j hj y]
  unfold bothM
  by_cases h : x.run = y.run
  ·rw [if_pos h, if_pos (by rw [h])]
  ·rw [if_neg h, if_neg fun q => h ?_]
   ·rfl
   ·cases hx : x.run <;> cases hy : y.run <;> rw [hx, hy] at q <;> first | rfl | (simp at q; done) | (simp only [Option.map_some, Option.some.injEq] at q; rw [hj _ _ q])
def tif {R : Type} (c : Prop) [Decidable c] (x : Tree R) : Tree R := .cond (decide c) x .fail
theorem qc {R : Type} (c : Prop) [Decidable c] (x : Tree R) : (tif c x).run = if c then x.run else none := by
 unfold tif
 by_cases h : c <;> simp [h, Tree.run]
def chk {R : Type} : List (Nat × Nat) → Tree R → Tree R
 | [], o => o
 | (a, b) :: r, o => tif (a = b) (chk r o)
theorem kp {R : Type} {o : Tree R} {a : R} : ∀ {l : List (Nat × Nat)}, (chk l o).run = some a → (∀ p ∈ l, p.1 = p.2) ∧ o.run = some a
 | [], e => ⟨fun p hp => by simp at hp, e⟩
 | (x, y) :: r, e => by
  unfold chk at e
  rw [qc] at e
  split at e
  ·rename_i h
   obtain ⟨h1, h2⟩ := kp e
   exact ⟨fun p hp => by rcases List.mem_cons.1 hp with rfl | hp; exact h; exact h1 p hp, h2⟩
  ·cases e
def qt {α R : Type} (o : Option α) (k : α → Tree R) : Tree R := match o with
 | some x => k x
 | none => .fail
theorem qa {α R : Type} {o : Option α} {k : α → Tree R} {a : R} (e : (qt o k).run = some a) : ∃ x, o = some x ∧ (k x).run = some a := by
 cases o with
 | none => cases e
 | some x => exact ⟨x, rfl, e⟩
def Wj {α R : Type} (o : Option α) (k : α → Tree R) : Tree R := .bind α o k
theorem kL {α R : Type} {o : Option α} {k : α → Tree R} {a : R} (e : (Wj o k).run = some a) : ∃ x, o = some x ∧ (k x).run = some a := by
 cases o with
 | none => cases e
 | some x => exact ⟨x, rfl, e⟩
def afC (P : Program) (op : BinOp) (t : TypeId) (a b : TV) : Option TV :=
 match Xe a, Xe b with
 | some x, some y => scT (zk P op t x y)
 | none, some y => if a5O y then match a31 a with
   | some x => scT (zk P op t x y)
   | none => none
  else none
 | some x, none => if a5O x then match a31 b with
   | some y => scT (zk P op t x y)
   | none => none
  else none
 | none, none => none
def aeM {R : Type} (xs : Nat) (b : Bool) (K : TV → Tree R) : Tree R := .cond (decide (xs = 0)) (.both (K (.v (.bool b))) (K (.v (.bool (!b))))) (K (.v (.bool (!b))))
def a5T (P : Program) (t : TypeId) : Bool := match P.underlying t with
 | some (.slice _) => true
 | _ => false
def ah6 {R : Type} (P : Program) (op : BinOp) (t : TypeId) (x y : TV) (K : TV → Tree R) : Tree R :=
 match op, x, y with
 | .quo, .v (.int k a), .v (.int k' b) => if k = k' then tif (b ≠ 0) (K (.v (.int k (k.wrap (a.tdiv b))))) else .fail
 | .rem, .v (.int k a), .v (.int k' b) => if k = k' then tif (b ≠ 0) (K (.v (.int k (a.tmod b)))) else .fail
 | .shl, .v (.int k a), .v (.int _ b) => tif (0 ≤ b) (K (.v (.int k (k.wrap (a * 2 ^ (min b.toNat k.bits))))))
 | .shr, .v (.int k a), .v (.int _ b) => tif (0 ≤ b) (K (.v (.int k (a.fdiv (2 ^ (min b.toNat k.bits))))))
 | .add, .v (.string a), .v (.string b) => tif (a.size + b.size ≤ 9223372036854775807) (K (.v (.string (a ++ b))))
 | .eql, .sl _ xs, .v (.slice none 0 0) => if a5T P t then aeM xs.length true K else .fail
 | .neq, .sl _ xs, .v (.slice none 0 0) => if a5T P t then aeM xs.length false K else .fail
 | op, x, y => qt (afC P op t x y) K
def jH : List TV → Nat → List TV → List TV
 | cs, _, [] => cs
 | cs, i, v :: r => jH (cs.set i v) (i + 1) r
def xW (P : Program) (t : TypeId) : Option (List TV) := match za P t with
 | some z => if z.all scal then some (z.map .v) else none
 | none => none
def a65 (place : Nat → Option (Nat × Nat)) (cells : List TV) : List (Nat × TV) → Option (List TV)
 | [] => some cells
 | (i, v) :: r => match place i with
  | none => none
  | some (off, sz) => if ZR v = true ∧ (yd v).length = sz ∧ off + sz ≤ cells.length then a65 place (jH cells off (yd v)) r else none
def a2v (P : Program) (t : TypeId) (ps : List (Nat × TV)) : Option TV :=
 match vt P t, xW P t with
 | some pl, some z => if YD P t then (a65 pl z ps).map .agg else none
 | _, _ => none
def a3k (P : Program) (t : TypeId) (x : TV) (f : Nat) : Option TV :=
 match P.underlying t, x with
 | some (.struct fs), .agg cs => match fs[f]? with
  | some fd => J3 P fd.type cs fd.offset
  | none => none
 | _, _ => none
def VL (L : List TO) (id : Nat) : Option Nat := match L[id]? with
 | some (.li _ _ _ xs) => some xs.length
 | some (.fz _ _ _ xs) => some xs.length
 | _ => none
def ton {R : Type} (L : List TO) (k : Nat) (x : TV) (K : TV → Tree R) : Tree R := match x with
 | .ptr id off => K (.ptr id (off + k))
 | .ep id i off tot => qt (VL L id) fun n => chk [(n, tot)] (K (.ep id i (off + k) tot))
 | .dp c y off => K (.dp c y (off + k))
 | _ => .fail
def a0N : TV → Option Int
 | .v (.int _ n) => some n
 | _ => none
def aep {R : Type} (c : CT) (s : Nat) (id n tot m : Nat) (K : TV → Tree R) : Tree R :=
 if c.size = s then tif (n < tot ∧ m = tot) (K (.ep id n 0 tot)) else .fail
def Zg {R : Type} (P : Program) (L : List TO) (t : TypeId) (x i : TV) (K : TV → Tree R) : Tree R :=
 qt (a0N i) fun n => match P.underlying t with
  | some (.slice e) => qt (szT P e) fun s => match x with
   | .sl c xs => if c.size = s then tif (0 ≤ n) (Wj xs[n.toNat]? fun y => K (.dp c y 0)) else .fail
   | .ref id tot => tif (0 ≤ n) (match L[id]? with
    | some (.li c _ _ xs) => aep c s id n.toNat tot xs.length K
    | some (.fz c _ _ xs) => aep c s id n.toNat tot xs.length K
    | _ => .fail)
   | .part id lo m tot => tif (0 ≤ n ∧ n.toNat < m) (match L[id]? with
    | some (.li c _ _ xs) => aep c s id (lo + n.toNat) tot xs.length K
    | some (.fz c _ _ xs) => aep c s id (lo + n.toNat) tot xs.length K
    | _ => .fail)
   | .aref id off m => tif (0 ≤ n ∧ n.toNat < m) (K (.ptr id (off + n.toNat * s)))
   | _ => .fail
  | some (.array len e) => qt (szT P e) fun s => tif (0 ≤ n ∧ n.toNat < len) (ton L (n.toNat * s) x K)
  | _ => .fail
def a6D {R : Type} (P : Program) (L : List TO) (t : TypeId) (x : TV) (K : TV → Tree R) : Tree R := match x with
 | .ptr id off => match L[id]? with
  | some (.st cells) => qt (J3 P t cells off) K
  | _ => .fail
 | .ep id i off tot => match L[id]? with
  | some (.li c _ _ xs) => tif (xs.length = tot) (Wj xs[i]? fun y => qt (J3 P t (tvC c y) off) K)
  | some (.fz c _ _ xs) => tif (xs.length = tot) (Wj xs[i]? fun y => qt (J3 P t (tvC c y) off) K)
  | _ => .fail
 | .dp c y off => qt (J3 P t (tvC c y) off) K
 | _ => .fail
def a5o (P : Program) (L : List TO) : TV → TV × List TO × List (Nat × Nat)
 | .ref id tot => match L[id]? with
  | some (.li c e loc xs) => if szT P e = some c.size then (.sl c xs, L.set id (.fz c e loc xs), [(xs.length, tot)]) else (.ref id tot, L, [])
  | some (.fz c e _ xs) => if szT P e = some c.size then (.sl c xs, L, [(xs.length, tot)]) else (.ref id tot, L, [])
  | _ => (.ref id tot, L, [])
 | d => (d, L, [])
def a1z (P : Program) (L : List TO) : List TV → List TV × List TO × List (Nat × Nat)
 | [] => ([], L, [])
 | x :: l => match a5o P L x with
  | (x', L', q) => match a1z P L' l with
   | (l', L'', q') => (x' :: l', L'', q ++ q')
def a9P (P : Program) (L : List TO) (x : TV) : TV × List TO × List (Nat × Nat) := match x with
 | .agg xs => match a1z P L xs with
  | (xs', L', q) => (.agg xs', L', q)
 | d => a5o P L d
def a29 (P : Program) (L : List TO) : List (Nat × TV) → List (Nat × TV) × List TO × List (Nat × Nat)
 | [] => ([], L, [])
 | (i, x) :: l => match a9P P L x with
  | (x', L', q) => match a29 P L' l with
   | (l', L'', q') => ((i, x') :: l', L'', q ++ q')
def ak2 : TV → Bool
 | .v _ => true
 | .sl _ _ => true
 | _ => false
def a4j {R : Type} (P : Program) (L : List TO) (t : TypeId) (p x : TV) (K : List TO → Tree R) : Tree R := match p with
 | .ptr id off => match L[id]? with
  | some (.st cells) => if ZR x = true ∧ szT P t = some (yd x).length ∧ off + (yd x).length ≤ cells.length then K (L.set id (.st (jH cells off (yd x)))) else .fail
  | _ => .fail
 | .ep id i off tot => match a9P P L x with
  | (x', L', q) => match L'[id]? with
   | some (.li c e loc xs) => if ZR x' = true ∧ szT P t = some (yd x').length ∧ off + (yd x').length ≤ c.size ∧ (yd x').all ak2 = true then
     tif (xs.length = tot) (Wj xs[i]? fun y => qt (a59 c (jH (tvC c y) off (yd x'))) fun z => chk q (K (L'.set id (.li c e loc (xs.set i z))))) else .fail
   | _ => .fail
 | _ => .fail
def a3J (s : ByteArray) : List (CT.T (.int .u8)) := s.data.toList.map fun c => ((c.toNat : Int) : CT.T (.int .u8))
def a6W (k : IntKind) : List TV → Option (List Int)
 | [] => some []
 | x :: r => match x with
  | .v (.int k' n) => if k' = k then (a6W k r).map (n :: ·) else none
  | _ => none
def a6H {R : Type} (P : Program) (L : List TO) (c : CT) (t : TypeId) (x : TV) (K : List c.T → Tree R) : Tree R :=
 match P.underlying t with
 | some (.slice _) => match x with
  | .sl c' xs => if h : c'.eqb c = true then K (wO (CT.of_eqb h) xs) else .fail
  | .v (.slice none 0 0) => K []
  | .ref id tot => match L[id]? with
   | some (.li c' _ _ xs) => if h : c'.eqb c = true then chk [(xs.length, tot)] (K (wO (CT.of_eqb h) xs)) else .fail
   | some (.fz c' _ _ xs) => if h : c'.eqb c = true then chk [(xs.length, tot)] (K (wO (CT.of_eqb h) xs)) else .fail
   | _ => .fail
  | .part id lo n tot => match L[id]? with
   | some (.li c' _ _ xs) => if h : c'.eqb c = true then chk [(xs.length, tot)] (K ((List.drop lo (wO (CT.of_eqb h) xs)).take n)) else .fail
   | some (.fz c' _ _ xs) => if h : c'.eqb c = true then chk [(xs.length, tot)] (K ((List.drop lo (wO (CT.of_eqb h) xs)).take n)) else .fail
   | _ => .fail
  | .aref id off n => match c, K with
   | .int k, K => match L[id]? with
    | some (.st cells) => if off + n ≤ cells.length then qt (a6W k ((cells.drop off).take n)) fun ys => K ys else .fail
    | _ => .fail
   | _, _ => .fail
  | _ => .fail
 | some .string => match x with
  | .v (.string s) => if h : (CT.int .u8).eqb c = true then K (wO (CT.of_eqb h) (a3J s)) else .fail
  | _ => .fail
 | _ => .fail
def lim (b : Nat) : Nat := 140737488355328 / b
def Vf {R : Type} (P : Program) (ty : TypeId → Option CT) (ts : List TypeId) (L : List TO) (s x : TV) (K : TV → List TO → Tree R) : Tree R :=
 match ts with
 | [t, t2] => match P.underlying t with
  | some (.slice e) => qt (P.info? e) fun i => qt (za P e) fun _ => qt (ty e) fun c => if c.size = i.size ∧ 0 < i.bytes then
    a6H P L c t2 x fun ys => match s with
     | .v (.slice none 0 0) => tif (ys.length ≤ lim i.bytes) (K (.ref L.length ys.length) (L ++ [.li c e false ys]))
     | .ref id tot => match L[id]? with
      | some (.li c' e' loc xs) => if e' = e then (if h : c'.eqb c = true then (tif (xs.length = tot ∧ tot + ys.length ≤ lim i.bytes) (
        K (.ref id (tot + ys.length)) (L.set id (.li c e loc (wO (CT.of_eqb h) xs ++ ys))))) else .fail) else .fail
      | _ => .fail
     | _ => .fail
   else .fail
  | _ => .fail
 | _ => .fail
def a0y (ρ : KM) : Option Operand → Option (Option Int)
 | none => some none
 | some x => match ρ x with
  | some d => (a0N d).map some
  | none => none
def yU {R : Type} (n : Nat) (lo hi : Option Int) (K : Option Nat → Option Nat → Tree R) : Tree R := match lo, hi with
 | none, none => K none none
 | none, some h => tif (0 ≤ h ∧ h.toNat ≤ n) (K none (some h.toNat))
 | some l, none => tif (0 ≤ l ∧ l.toNat ≤ n) (K (some l.toNat) none)
 | some l, some h => tif (0 ≤ l ∧ l ≤ h ∧ h.toNat ≤ n) (K (some l.toNat) (some h.toNat))
def ae2 {α : Type} (xs : List α) : Option Nat → Option Nat → List α
 | none, none => xs
 | none, some h => xs.take h
 | some l, none => xs.drop l
 | some l, some h => (xs.drop l).take (h - l)
def wF (n : Nat) : Option Nat → Option Nat → Nat × Nat
 | none, none => (0, n)
 | none, some h => (0, h)
 | some l, none => (l, n - l)
 | some l, some h => (l, h - l)
def a9I {R : Type} (P : Program) (L : List TO) (t : TypeId) (x : TV) (lo hi : Option Int) (K : TV → Tree R) : Tree R :=
 match P.underlying t with
 | some (.slice e) => qt (szT P e) fun s => match x with
  | .sl c xs => if c.size = s then yU xs.length lo hi fun l h => K (.sl c (ae2 xs l h)) else .fail
  | .v (.slice none 0 0) => yU 0 lo hi fun _ _ => K x
  | .ref id tot => match L[id]? with
   | some (.li c e' _ xs) => if c.size = s ∧ e' = e then tif (0 < tot ∧ xs.length = tot) (yU tot lo hi fun l h => K (.part id (wF tot l h).1 (wF tot l h).2 tot)) else .fail
   | some (.fz c e' _ xs) => if c.size = s ∧ e' = e then tif (0 < tot ∧ xs.length = tot) (yU tot lo hi fun l h => K (.part id (wF tot l h).1 (wF tot l h).2 tot)) else .fail
   | _ => .fail
  | .part id a n tot => match L[id]? with
   | some (.li c e' _ xs) => if c.size = s ∧ e' = e then tif (0 < n ∧ xs.length = tot ∧ 0 < tot) (yU n lo hi fun l h => K (.part id (a + (wF n l h).1) (wF n l h).2 tot)) else .fail
   | some (.fz c e' _ xs) => if c.size = s ∧ e' = e then tif (0 < n ∧ xs.length = tot ∧ 0 < tot) (yU n lo hi fun l h => K (.part id (a + (wF n l h).1) (wF n l h).2 tot)) else .fail
   | _ => .fail
  | _ => .fail
 | _ => .fail
def abw {R : Type} (P : Program) (L : List TO) (t : TypeId) (x : TV) (K : TV → Tree R) : Tree R :=
 match P.underlying t with
 | some (.slice _) => match x with
  | .sl _ xs => K (.v (goInt xs.length))
  | .v (.slice none 0 0) => K (.v (goInt (0 : Nat)))
  | .ref id tot => qt (VL L id) fun n => chk [(n, tot)] (K (.v (goInt tot)))
  | .part id _ m tot => qt (VL L id) fun n => chk [(n, tot)] (K (.v (goInt m)))
  | .aref _ _ n => K (.v (goInt n))
  | _ => .fail
 | some .string => match x with
  | .v (.string s) => K (.v (goInt s.size))
  | _ => .fail
 | some (.array n _) => match x with
  | .agg _ => K (.v (goInt n))
  | _ => .fail
 | _ => .fail
def aeY {R : Type} (P : Program) (L : List TO) (s d : TypeId) (x : TV) (K : TV → List TO → Tree R) : Tree R :=
 match P.underlying s, P.underlying d with
 | some (.slice e), some .string => if Qz P e = true then a6H P L (.int .u8) s x fun xs => K (.v (.string (strOfNums xs))) L else .fail
 | some .string, some (.slice e) => match x with
  | .v (.string t) => if Qz P e = true ∧ szT P e = some 1 then tif (t.size ≤ maxLen) (K (.ref L.length t.size) (L ++ [.li (.int .u8) e true (a3J t)])) else .fail
  | _ => .fail
 | some (.slice _), some (.slice e) => match x with
  | .ref id tot => if s = d ∧ Qz P e = true then (match L[id]? with
   | some (.li _ _ _ xs) => tif (0 < tot ∧ xs.length = tot) (K x L)
   | _ => .fail) else .fail
  | _ => .fail
 | _, _ => match Xe x with
  | some v => qt (scT (xK P s d v)) fun d => K d L
  | none => .fail
def WE (c : CT) (rows : List c.T) : List (Nat × TV) → Option (List c.T)
 | [] => some rows
 | (i, d) :: r => if ZR d = true ∧ i < rows.length then match a59 c (yd d) with
   | some y => WE c (rows.set i y) r
   | none => none
  else none
def Wr {R : Type} (P : Program) (ty : TypeId → Option CT) (L : List TO) (t : TypeId) (len : Nat) (ps : List (Nat × TV)) (K : TV → List TO → Tree R) : Tree R :=
 match P.underlying t with
 | some (.slice e) => qt (ty e) fun c => qt ((xW P e).bind (a59 c)) fun z => if szT P e = some c.size ∧ len * c.size ≤ 16777216 ∧ len ≤ maxLen then
   (match a29 P L ps with
   | (ps', L', q) => qt (WE c (List.replicate len z) ps') fun rows => chk q (K (.ref L'.length len) (L' ++ [.li c e true rows]))) else .fail
 | _ => .fail
def V8 : TV → Bool
 | .fn _ _ _ => false
 | .slx _ _ => false
 | .mref _ => false
 | .agg _ => false
 | .tup _ => false
 | _ => true
def aaK (f : Fn) (a b : Option (List TV)) : Option TV := match f, a, b with
 | .func k, some a, some b => if a.all V8 && b.all V8 then some (.fn k a b) else none
 | _, _, _ => none
def ahz {R : Type} (c : Option TV) (a b : Option TV) (K : TV → Tree R) : Tree R := match c with
 | some (.v (.bool t)) => match a, b with
  | some (.v (.bool x)), some (.v (.bool y)) => K (.v (.bool (cond t x y)))
  | a, b => .cond t (qt a K) (qt b K)
 | _ => .fail
def XE {R : Type} (P : Program) (ty : TypeId → Option CT) (t : TypeId) (x i : TV) (K : TV → Tree R) : Tree R :=
 match P.underlying t, x, a0N i with
 | some (.array len e), .agg cs, some n => match szT P e with
  | some s => tif (0 ≤ n ∧ n.toNat < len) (qt (J3 P e cs (n.toNat * s)) K)
  | none => .fail
 | some .string, .v (.string s), some n => tif (0 ≤ n) (Wj s[n.toNat]? fun b => K (.v (.int .u8 b.toNat)))
 | _, _, _ => .fail
def xl (x : TV) (i : Nat) : Option TV := match x with
 | .tup xs => match xs[i]? with
  | some d => if ZR d then some d else none
  | none => none
 | _ => none
def Y0 : List TV → Option (List Value)
 | [] => some []
 | d :: l => match Xe d, Y0 l with
  | some v, some vs => some (v :: vs)
  | _, _ => none
abbrev yt (R : Type) := FuncId → List TV → List TO → (TV → List TO → Tree R) → Tree R
def vk {R : Type} (P : Program) (ty : TypeId → Option CT) (call : yt R) (o : Op) (ρ : KM) (L : List TO) (K : TV → List TO → Tree R) : Tree R :=
 match o with
 | .move x => qt (ρ x) fun d => K d L
 | .assign x => qt (ρ x) fun d => K d L
 | .pick c a b => ahz (ρ c) (ρ a) (ρ b) fun d => K d L
 | .build t ps => qt (a1P ρ ps.toList) fun ds => qt (a2v P t ds) fun d => K d L
 | .field t x f => qt (ρ x) fun x => qt (a3k P t x f) fun d => K d L
 | .fieldAddr t x f => qt (ρ x) fun x => qt (ajm P t f) fun k => ton L k x fun d => K d L
 | .unOp op _ x => qt (ρ x) fun x => qt (Xe x) fun v => qt (scT (unV op v)) fun d => K d L
 | .binOp op t x y _ => qt (ρ x) fun x => qt (ρ y) fun y => ah6 P op t x y fun d => K d L
 | .convert s d x => qt (ρ x) fun x => aeY P L s d x K
 | .makeFunc f a b => qt (aaK f (YM ρ a.toList) (YM ρ b.toList)) fun d => K d L
 | .indexAddr t x i => qt (ρ x) fun x => qt (ρ i) fun i => Zg P L t x i fun d => K d L
 | .index t x i => qt (ρ x) fun x => qt (ρ i) fun i => XE P ty t x i fun d => K d L
 | .extract x i => qt (ρ x) fun x => qt (xl x i) fun d => K d L
 | .nilCheck x => qt (ρ x) fun x => ton L 0 x fun d => K d L
 | .load t x => qt (ρ x) fun x => a6D P L t x fun d => K d L
 | .store t x y => qt (ρ x) fun x => qt (ρ y) fun y => a4j P L t x y fun L' => K a8P L'
 | .slice t x lo hi none => qt (ρ x) fun x => qt (a0y ρ lo) fun lo => qt (a0y ρ hi) fun hi => a9I P L t x lo hi fun d => K d L
 | .box t x => qt (ρ x) fun x => if ZR x = true ∧ szT P t = some (yd x).length then K (.ptr L.length 0) (L ++ [.st (yd x)]) else .fail
 | .alloc t => qt (xW P t) fun z => K (.ptr L.length 0) (L ++ [.st z])
 | .buildSlice t n ps => qt (a1P ρ ps.toList) fun ds => Wr P ty L t n ds K
 | .call { callee := .value f, args := args, argTypes := _ } => qt (ρ f) fun f => qt (YM ρ args.toList) fun ds => match f with
  | .fn k pre cap => if pre.all V8 && cap.all V8 then call k (pre ++ ds ++ cap) L K else .fail
  | _ => .fail
 | .call { callee := .builtin .append, args := args, argTypes := ts } => qt (YM ρ args.toList) fun ds => match ds with
  | [s, x] => Vf P ty ts.toList L s x K
  | _ => .fail
 | .call { callee := .builtin .len, args := args, argTypes := ts } => qt (YM ρ args.toList) fun ds => match ds, ts.toList with
  | [x], [t] => abw P L t x fun d => K d L
  | _, _ => .fail
 | .call { callee := .builtin .min, args := args, argTypes := _ } => qt (YM ρ args.toList) fun ds => qt (Y0 ds) fun vs => qt (scT (aao vs)) fun d => K d L
 | .call { callee := .builtin .max, args := args, argTypes := _ } => qt (YM ρ args.toList) fun ds => qt (Y0 ds) fun vs => qt (scT (a8Q vs)) fun d => K d L
 | _ => .fail
end Go.Sim
