/- Part 5 of the claim TapeTells: D14, D15, D16, D17, D18, D19, D20, D21, D22, T1 -/
import Derived.Test.YtmcboobmnipjlaaW4
set_option linter.unusedSimpArgs false
set_option linter.unusedVariables false
set_option linter.defProp false
namespace Go.Sim
open Go.RowKit

/-- A value with less known of it. -/
inductive VW : Value → Value → Prop
  | refl (v : Value) : VW v v
  | empty (b o c : Nat) : VW (.slice (some ⟨b, o, none⟩) 0 c) (.slice (some ⟨b, o, none⟩) 0 dud)
  | agg {xs ys : Array Value} (hl : xs.size = ys.size) (h : ∀ (i : Nat) (x y : Value), xs[i]? = some x → ys[i]? = some y → VW x y) : VW (.agg xs) (.agg ys)
  | tuple {xs ys : Array Value} (hl : xs.size = ys.size) (h : ∀ (i : Nat) (x y : Value), xs[i]? = some x → ys[i]? = some y → VW x y) : VW (.tuple xs) (.tuple ys)
theorem VRel.weak {β : Place} {v u : Value} (hw : VW v u) : ∀ {m : Value}, VRel β v m → VRel β u m := by
  induction hw with
  | refl v => exact fun h => h
  | empty b o c =>
    intro m h
    cases h with
    | slice h hc hn hm hr => exact .dud
    | dud => exact .dud
  | @agg xs ys hl _ ih =>
    intro m h
    cases h with
    | agg hx hh =>
      refine .agg (by omega) fun i v v' e1 e2 => ?_
      have hi : i < xs.size := by have := (Array.getElem?_eq_some_iff.1 e1).1; omega
      exact ih i xs[i] v (Array.getElem?_eq_getElem hi) e1 (hh i xs[i] v' (Array.getElem?_eq_getElem hi) e2)
  | @tuple xs ys hl _ ih =>
    intro m h
    cases h with
    | tuple hx hh =>
      refine .tuple (by omega) fun i v v' e1 e2 => ?_
      have hi : i < xs.size := by have := (Array.getElem?_eq_some_iff.1 e1).1; omega
      exact ih i xs[i] v (Array.getElem?_eq_getElem hi) e1 (hh i xs[i] v' (Array.getElem?_eq_getElem hi) e2)
theorem VRels.weak {β : Place} : ∀ {vs us ms : List Value}, All2 VW vs us → VRels β vs ms → VRels β us ms
  | _, _, _, .nil, .nil => .nil
  | _, _, _, .cons hw t, .cons h t' => .cons (h.weak hw) (VRels.weak t t')
theorem ACalls.vw {P : Program} {f : FuncId} {args : List Value} {h : Heap} {Q Q' : Value → Heap → Prop} (hc : ACalls P f args h Q) (hq : ∀ v h', Q v h' → ∃ u, VW v u ∧ Q' u h') : ACalls P f args h Q' :=
  ⟨hc.1, fun β w ms hv hr => (hc.2 β w ms hv hr).mono fun e w' ⟨mv, e1, v, h', β', a, b, c, d⟩ => by
    obtain ⟨u, h1, h2⟩ := hq v h' d
    exact ⟨mv, e1, u, h', β', a.weak h1, b, c, h2⟩⟩
theorem ACalls.args {P : Program} {f : FuncId} {args us : List Value} {h : Heap} {Q : Value → Heap → Prop} (hw : All2 VW args us) (hc : ACalls P f us h Q) : ACalls P f args h Q :=
  ⟨hc.1, fun β w ms hv hr => hc.2 β w ms (hv.weak hw) hr⟩

abbrev Sel := List (Option Nat)
def unB (sel : Sel) : DV → Option DV
  | .p x => some (.p x)
  | .ptr id off => match sel[id]? with
    | some (some k) => some (.ptr k off)
    | _ => none
  | .ep id i off tot => match sel[id]? with
    | some (some k) => some (.ep k i off tot)
    | _ => none
  | .dp row off => some (.dp row off)
  | .ref id lo n tot => match sel[id]? with
    | some (some k) => some (.ref k lo n tot)
    | some none => if lo = 0 ∧ n = 0 ∧ tot = 0 then some (.p (.v (.slice none 0 0))) else none
    | none => none
  | .aref id off n => match sel[id]? with
    | some (some k) => some (.aref k off n)
    | _ => none
  | _ => none
def unBs (sel : Sel) : List DV → Option (List DV)
  | [] => some []
  | d :: l => match unB sel d, unBs sel l with
    | some d, some l => some (d :: l)
    | _, _ => none
def unC (sel : Sel) : DV → Option DV
  | .fn f pre cap => match unBs sel pre, unBs sel cap with
    | some a, some b => some (.fn f a b)
    | _, _ => none
  | d => unB sel d
def unCs (sel : Sel) : List DV → Option (List DV)
  | [] => some []
  | d :: l => match unC sel d, unCs sel l with
    | some d, some l => some (d :: l)
    | _, _ => none
def un1 (sel : Sel) : DV → Option DV
  | .agg xs => (unCs sel xs).map .agg
  | d => unC sel d
def un1s (sel : Sel) : List DV → Option (List DV)
  | [] => some []
  | d :: l => match un1 sel d, un1s sel l with
    | some d, some l => some (d :: l)
    | _, _ => none
def unD (sel : Sel) : DV → Option DV
  | .tup xs => (un1s sel xs).map .tup
  | d => un1 sel d
/-- A slice of nothing may be taken for an empty one. -/
def unP : PV → PV → Prop
  | .sl _ rows, .v (.slice none 0 0) => rows = []
  | x, y => x = y
def unX (sel : Sel) : DV → DV → Prop
  | .p (.sl _ rows), .p (.v (.slice none 0 0)) => rows = []
  | d', d => unC sel d' = some d
def rowsW (rows rows' : List (List PV)) : Prop := rows = rows' ∨ All2 (All2 unP) rows rows'
theorem unP_pr {P : Program} {S : Nat → Prop} {h : Heap} {x' x : PV} {v : Value} (e : unP x' x) (hx : PR P S h x v) : PR P S h x' v := by
  unfold unP at e
  split at e
  · subst e
    rw [hx.scal]
    exact .nil
  · subst e; exact hx
theorem rowsW_len {rows rows' : List (List PV)} (e : rowsW rows rows') : rows.length = rows'.length := by
  rcases e with rfl | e
  · rfl
  · exact e.length
theorem rowsW_all {rows rows' : List (List PV)} (e : rowsW rows rows') {z : Nat} (h : ∀ r ∈ rows, r.length = z) : ∀ r ∈ rows', r.length = z := by
  rcases e with rfl | e
  · exact h
  · intro r hr
    obtain ⟨i, hi, rfl⟩ := List.getElem_of_mem hr
    obtain ⟨r', h1, h2⟩ := e.get' (List.getElem?_eq_getElem hi)
    rw [← h2.length]
    exact h _ (List.mem_of_getElem? h1)
theorem rowsW_all' {rows rows' : List (List PV)} (e : rowsW rows rows') {z : Nat} (h : ∀ r ∈ rows', r.length = z) : ∀ r ∈ rows, r.length = z := by
  rcases e with rfl | e
  · exact h
  · intro r hr
    obtain ⟨i, hi, rfl⟩ := List.getElem_of_mem hr
    obtain ⟨r', h1, h2⟩ := e.get (List.getElem?_eq_getElem hi)
    rw [h2.length]
    exact h _ (List.mem_of_getElem? h1)
theorem rowsW_at {rows rows' : List (List PV)} (e : rowsW rows rows') {i j : Nat} {r : List PV} {x : PV} (h1 : rows[i]? = some r) (h2 : r[j]? = some x) : ∃ r' x', rows'[i]? = some r' ∧ r'[j]? = some x' ∧ unP x x' := by
  rcases e with rfl | e
  · exact ⟨r, x, h1, h2, by cases x <;> rfl⟩
  · obtain ⟨r', a1, a2⟩ := e.get h1
    obtain ⟨x', b1, b2⟩ := a2.get h2
    exact ⟨r', x', a1, b1, b2⟩
theorem Rows.of_w {P : Program} {S : Nat → Prop} {h : Heap} {b q : Nat} {te : TypeId} {rows rows' : List (List PV)} (e : rowsW rows rows') (hr : Rows P S h b q te rows') : Rows P S h b q te rows := by
  obtain ⟨cs, z, a1, a2, a3, a4, a5, a6, a7⟩ := hr
  have hl := rowsW_len e
  refine ⟨cs, z, a1, a2, a3, by rw [hl]; exact a4, by rw [hl]; exact a5, rowsW_all' e a6, fun i r j x u b1 b2 b3 => ?_⟩
  obtain ⟨r', x', c1, c2, c3⟩ := rowsW_at e b1 b2
  exact unP_pr c3 (a7 i r' j x' u c1 c2 b3)
theorem rowsW_nil {rows rows' : List (List PV)} (e : rowsW rows rows') (h : rows' = []) : rows = [] := by
  have := rowsW_len e
  subst h
  exact List.length_eq_zero_iff.1 this
/-- The new object and the old one. -/
def unO (sel : Sel) : Obj → Obj → Prop
  | .st cells, .st cells' => All2 (unX sel) cells cells'
  | .li e rows, .li e' rows' => e = e' ∧ rowsW rows rows'
  | .fz e rows, .li e' rows' => e = e' ∧ rowsW rows rows'
  | .fz e rows, .fz e' rows' => e = e' ∧ rowsW rows rows'
  | .dead, .li _ _ => True
  | .dead, .fz _ _ => True
  | .dead, .dead => True
  | _, _ => False
theorem unO_owns {sel : Sel} {o' o : Obj} (h : unO sel o' o) (hd : o'.owns = true) : o.owns = true := by
  cases o' with
  | st c => cases o <;> first | exact h.elim | rfl
  | li e r => cases o with
    | li e' r' => obtain ⟨rfl, -⟩ := h; cases e <;> exact hd
    | _ => exact h.elim
  | fz e r => cases hd
  | dead => cases hd
structure SelOk (L : List Obj) (sel : Sel) (L' : List Obj) : Prop where
  len : sel.length = L'.length
  inj : ∀ (i j k : Nat), sel[i]? = some (some k) → sel[j]? = some (some k) → i = j
  old : ∀ (i k : Nat) (o' : Obj), sel[i]? = some (some k) → L'[i]? = some o' → ∃ o, L[k]? = some o ∧ unO sel o' o
  fresh : ∀ (i : Nat) (o' : Obj), sel[i]? = some none → L'[i]? = some o' → o' = .li none []
def selPl (γ : Pl) (sel : Sel) : Pl := fun i => match sel[i]? with
  | some (some k) => γ k
  | _ => none
section
variable {P : Program} {γ : Pl} {L L' : List Obj} {h : Heap} {h0 : Heap} {W0 : Ent} {sel : Sel}

theorem selPl_at {i k : Nat} (e : sel[i]? = some (some k)) : selPl γ sel i = γ k := by unfold selPl; rw [e]
theorem selPl_no {i : Nat} (e : sel[i]? = some none) : selPl γ sel i = none := by unfold selPl; rw [e]
theorem SelOk.at (ok : SelOk L sel L') {i : Nat} {o' : Obj} (hi : L'[i]? = some o') : ∃ s, sel[i]? = some s := by
  have : i < L'.length := (List.getElem?_eq_some_iff.1 hi).1
  rw [← ok.len] at this
  exact ⟨_, List.getElem?_eq_getElem this⟩
theorem SelOk.owns (ok : SelOk L sel L') {i : Nat} {o' : Obj} (hi : L'[i]? = some o') (hd : o'.owns = true) : ∃ k o, sel[i]? = some (some k) ∧ L[k]? = some o ∧ o.owns = true := by
  obtain ⟨s, hs⟩ := ok.at hi
  cases s with
  | none => rw [ok.fresh i o' hs hi] at hd; cases hd
  | some k =>
    obtain ⟨o, h1, h2⟩ := ok.old i k o' hs hi
    refine ⟨k, o, hs, h1, ?_⟩
    exact unO_owns h2 hd
theorem sel_free (ok : SelOk L sel L') {b : Nat} (hb : Free W0 γ L h b) : Free W0 (selPl γ sel) L' h b := by
  refine ⟨hb.1, hb.2.1, fun i o' x hi hd hg => ?_⟩
  obtain ⟨k, o, e1, e2, e3⟩ := ok.owns hi hd
  rw [selPl_at e1] at hg
  exact hb.2.2 k o x e2 e3 hg
theorem sel_pr (ok : SelOk L sel L') {x : PV} {v : Value} (hx : PR P (Free W0 γ L h) h x v) : PR P (Free W0 (selPl γ sel) L' h) h x v := hx.mono fun _ hb => ⟨sel_free ok hb, rfl⟩
theorem sel_list (ok : SelOk L sel L') {i k : Nat} {o' : Obj} {rows : List (List PV)} (e : sel[i]? = some (some k)) (hi : L'[i]? = some o') (hl : o'.isList rows) : ∃ o rows', L[k]? = some o ∧ o.isList rows' ∧ rowsW rows rows' := by
  obtain ⟨o, h1, h2⟩ := ok.old i k o' e hi
  refine ⟨o, ?_⟩
  cases o' <;> cases o <;> first | exact h2.elim | exact hl.elim | (obtain ⟨rfl, h3⟩ := h2; cases hl; exact ⟨_, h1, rfl, h3⟩)
theorem sel_st (ok : SelOk L sel L') {id k : Nat} {c : List DV} (hs : sel[id]? = some (some k)) (h2 : L[k]? = some (.st c)) : ∃ c', L'[id]? = some (.st c') := by
  have hlt : id < L'.length := by rw [← ok.len]; exact (List.getElem?_eq_some_iff.1 hs).1
  obtain ⟨o, g1, g2⟩ := ok.old id k _ hs (List.getElem?_eq_getElem hlt)
  rw [h2] at g1; cases g1
  rw [List.getElem?_eq_getElem hlt]
  cases ho : L'[id] <;> rw [ho] at g2 <;> first | exact ⟨_, rfl⟩ | exact g2.elim
theorem sel_db (H : Hp P h0 W0 γ L h) (ok : SelOk L sel L') {d' d : DV} {v : Value} (e : unB sel d' = some d) (hd : DB P (Free W0 γ L h) γ L h d v) : DB P (Free W0 (selPl γ sel) L' h) (selPl γ sel) L' h d' v := by
  cases d' with
  | p x => cases e; exact sel_pr ok hd
  | dp row off =>
    cases e
    obtain ⟨b, o, cs, te, rw, h1, h2, h3, h4, h5⟩ := hd
    exact ⟨b, o, cs, te, rw, sel_free ok h1, h2, h3, h4, fun j x u a c => sel_pr ok (h5 j x u a c)⟩
  | ptr id off =>
    unfold unB at e
    cases hs : sel[id]? with
    | none => simp only [hs] at e; cases e
    | some s =>
      cases s with
      | none => simp only [hs] at e; cases e
      | some k =>
        simp only [hs] at e; cases e
        obtain ⟨b, h1, ⟨c, h2⟩, h3⟩ := hd
        exact ⟨b, (selPl_at hs).trans h1, sel_st ok hs h2, h3⟩
  | aref id off n =>
    unfold unB at e
    cases hs : sel[id]? with
    | none => simp only [hs] at e; cases e
    | some s =>
      cases s with
      | none => simp only [hs] at e; cases e
      | some k =>
        simp only [hs] at e; cases e
        obtain ⟨b, h1, ⟨c, h2⟩, h3⟩ := hd
        exact ⟨b, (selPl_at hs).trans h1, sel_st ok hs h2, h3⟩
  | ep id i off tot =>
    unfold unB at e
    cases hs : sel[id]? with
    | none => simp only [hs] at e; cases e
    | some s =>
      cases s with
      | none => simp only [hs] at e; cases e
      | some k =>
        simp only [hs] at e; cases e
        have hlt : id < L'.length := by rw [← ok.len]; exact (List.getElem?_eq_some_iff.1 hs).1
        obtain ⟨k1, k2, k3⟩ := hd
        refine ⟨hlt, k2, fun o' rows e1 e2 => ?_⟩
        obtain ⟨o, rows', g1, g2, g3⟩ := sel_list ok hs e1 e2
        rw [selPl_at hs]
        obtain ⟨m1, m2⟩ := k3 o rows' g1 g2
        have hl := rowsW_len g3
        refine ⟨by rw [hl]; exact m1, fun hq => ?_⟩
        obtain ⟨m3, m4⟩ := m2 (by rw [← hl]; exact hq)
        exact ⟨m3, fun z hz => m4 z (rowsW_all g3 hz)⟩
  | ref id lo n tot =>
    unfold unB at e
    cases hs : sel[id]? with
    | none => simp only [hs] at e; cases e
    | some s =>
      have hlt : id < L'.length := by rw [← ok.len]; exact (List.getElem?_eq_some_iff.1 hs).1
      cases s with
      | none =>
        simp only [hs] at e
        split at e
        · rename_i hc
          obtain ⟨rfl, rfl, rfl⟩ := hc
          cases e
          have : v = .slice none 0 0 := PR.scal (P := P) (S := Free W0 γ L h) (h := h) hd
          subst this
          refine ⟨hlt, rfl, fun o' rows e1 e2 => ?_⟩
          have := ok.fresh id o' hs e1
          subst this
          cases e2
          exact ⟨Nat.le_refl _, fun _ => ⟨by omega, fun z _ => .inl ⟨rfl, rfl, selPl_no hs⟩⟩⟩
        · cases e
      | some k =>
        simp only [hs] at e; cases e
        obtain ⟨k1, k2, k3⟩ := hd
        refine ⟨hlt, k2, fun o' rows e1 e2 => ?_⟩
        obtain ⟨o, rows', g1, g2, g3⟩ := sel_list ok hs e1 e2
        unfold RefV
        rw [selPl_at hs]
        obtain ⟨m1, m2⟩ := k3 o rows' g1 g2
        have hl := rowsW_len g3
        refine ⟨by rw [hl]; exact m1, fun hq => ?_⟩
        obtain ⟨m3, m4⟩ := m2 (by rw [← hl]; exact hq)
        exact ⟨m3, fun z hz => m4 z (rowsW_all g3 hz)⟩
  | fn => cases e
  | agg => cases e
  | tup => cases e
theorem sel_dbs (H : Hp P h0 W0 γ L h) (ok : SelOk L sel L') : ∀ {ds' ds : List DV} {vs : List Value}, unBs sel ds' = some ds → All2 (DB P (Free W0 γ L h) γ L h) ds vs → All2 (DB P (Free W0 (selPl γ sel) L' h) (selPl γ sel) L' h) ds' vs
  | [], _, _, e, hd => by cases e; cases hd; exact .nil
  | d' :: ds', _, _, e, hd => by
    unfold unBs at e
    cases h1 : unB sel d' with
    | none => simp only [h1] at e; cases e
    | some d =>
      cases h2 : unBs sel ds' with
      | none => simp only [h1, h2] at e; cases e
      | some ds =>
        simp only [h1, h2] at e; cases e
        cases hd with
        | cons a b => exact .cons (sel_db H ok h1 a) (sel_dbs H ok h2 b)
theorem sel_dc (H : Hp P h0 W0 γ L h) (ok : SelOk L sel L') {d' d : DV} {v : Value} (e : unC sel d' = some d) (hd : DC P (Free W0 γ L h) γ L h d v) : DC P (Free W0 (selPl γ sel) L' h) (selPl γ sel) L' h d' v := by
  have key : ∀ d', (∀ f a b, d' ≠ .fn f a b) → unB sel d' = some d → DC P (Free W0 (selPl γ sel) L' h) (selPl γ sel) L' h d' v := by
    intro d' hn e
    have hb : DB P (Free W0 γ L h) γ L h d v := by
      cases d with
      | fn f a b =>
        cases d' <;> (unfold unB at e) <;> (try split at e) <;> (try split at e) <;> (try split at e) <;> cases e
      | p => exact hd
      | ptr => exact hd
      | ep => exact hd
      | dp => exact hd
      | ref => exact hd
      | aref => exact hd
      | agg => exact hd.elim
      | tup => exact hd.elim
    have := sel_db H ok e hb
    cases d' <;> first | exact this | exact absurd rfl (hn _ _ _)
  cases d' with
  | fn f pre cap =>
    unfold unC at e
    cases h1 : unBs sel pre with
    | none => simp only [h1] at e; cases e
    | some p =>
      cases h2 : unBs sel cap with
      | none => simp only [h1, h2] at e; cases e
      | some c =>
        simp only [h1, h2] at e; cases e
        obtain ⟨as, bs, rfl, a1, a2⟩ := hd
        exact ⟨as, bs, rfl, sel_dbs H ok h1 a1, sel_dbs H ok h2 a2⟩
  | _ => exact key _ (by intro f a b e; cases e) e
theorem sel_dx (H : Hp P h0 W0 γ L h) (ok : SelOk L sel L') {d' d : DV} {v : Value} (e : unX sel d' d) (hd : DC P (Free W0 γ L h) γ L h d v) : DC P (Free W0 (selPl γ sel) L' h) (selPl γ sel) L' h d' v := by
  unfold unX at e
  split at e
  · subst e
    have : v = .slice none 0 0 := PR.scal (P := P) (S := Free W0 γ L h) (h := h) hd
    subst this
    exact PR.nil
  · exact sel_dc H ok e hd
theorem sel_dxs (H : Hp P h0 W0 γ L h) (ok : SelOk L sel L') : ∀ {ds' ds : List DV} {vs : List Value}, All2 (unX sel) ds' ds → All2 (DC P (Free W0 γ L h) γ L h) ds vs → All2 (DC P (Free W0 (selPl γ sel) L' h) (selPl γ sel) L' h) ds' vs
  | _, _, _, .nil, .nil => .nil
  | _, _, _, .cons e t, .cons hd t' => .cons (sel_dx H ok e hd) (sel_dxs H ok t t')
theorem Hp.allowed (H : Hp P h0 W0 γ L h) {id b x : Nat} {o : Obj} (hi : L[id]? = some o) (hd : o.owns = true) (hg : γ id = some (b, x)) : W0.start ≤ b ∨ W0.A b := by
  rw [H.start]
  exact (H.new id o b x hi hd hg).imp_right (W0.sub b)
theorem Hp.select (H : Hp P h0 W0 γ L h) (ok : SelOk L sel L') (hpin : ∀ id b, W0.pin id b → sel[id]? = some (some id)) : Hp P h0 W0 (selPl γ sel) L' h := by
  refine ⟨H.start, fun id b e => (let ⟨a, c, b'⟩ := H.pin id b e; ⟨(selPl_at (hpin id b e)).trans a, sel_st ok (hpin id b e) b'⟩), fun i o' hi => ?_, fun i j o1 o2 b x x' e1 e2 d1 d2 g1 g2 => ?_, fun i x e => ?_, fun i o' b x hi hd hg => ?_, H.next, H.frame⟩
  · obtain ⟨s, hs⟩ := ok.at hi
    cases s with
    | none =>
      have := ok.fresh i o' hs hi
      subst this
      exact ⟨rfl, selPl_no hs⟩
    | some k =>
      obtain ⟨o, h1, h2⟩ := ok.old i k o' hs hi
      have ho := H.obj k o h1
      have rr : ∀ {b q te rows}, Rows P (Free W0 γ L h) h b q te rows → Rows P (Free W0 (selPl γ sel) L' h) h b q te rows := by
        rintro b q te rows ⟨cs, z, a1, a2, a3, a4, a5, a6, a7⟩
        exact ⟨cs, z, a1, a2, a3, a4, a5, a6, fun i r j x u b1 b2 b3 => sel_pr ok (a7 i r j x u b1 b2 b3)⟩
      cases o' with
      | dead => trivial
      | st cells =>
        cases o with
        | st cells' =>
          obtain ⟨b, te, vs, g1, g2, g3⟩ := ho
          exact ⟨b, te, vs, (selPl_at hs).trans g1, g2, sel_dxs H ok h2 g3⟩
        | _ => exact h2.elim
      | li te rows =>
        cases o with
        | li te' rows' =>
          obtain ⟨rfl, hw⟩ := h2
          cases te with
          | none => exact ⟨rowsW_nil hw ho.1, (selPl_at hs).trans ho.2⟩
          | some te =>
            obtain ⟨b, q, g1, g2⟩ := ho
            exact ⟨b, q, (selPl_at hs).trans g1, rr (g2.of_w hw)⟩
        | _ => exact h2.elim
      | fz te rows =>
        cases o with
        | fz te' rows' =>
          obtain ⟨rfl, hw⟩ := h2
          cases te with
          | none => exact ⟨rowsW_nil hw ho.1, (selPl_at hs).trans ho.2⟩
          | some te =>
            obtain ⟨b, q, g1, g2, g3⟩ := ho
            exact ⟨b, q, (selPl_at hs).trans g1, sel_free ok g2, rr (g3.of_w hw)⟩
        | li te' rows' =>
          obtain ⟨rfl, hw⟩ := h2
          cases te with
          | none => exact ⟨rowsW_nil hw ho.1, (selPl_at hs).trans ho.2⟩
          | some te =>
            obtain ⟨b, q, g1, g2⟩ := ho
            refine ⟨b, q, (selPl_at hs).trans g1, ⟨?_, H.allowed h1 rfl g1, fun j oj x hj hd hg => ?_⟩, rr (g2.of_w hw)⟩
            · obtain ⟨cs, z, a1, _⟩ := g2
              exact h.wf _ _ a1
            · obtain ⟨kj, ok', f1, f2, f3⟩ := ok.owns hj hd
              rw [selPl_at f1] at hg
              have hkk := H.inj k kj _ ok' b q x h1 f2 rfl f3 g1 hg
              subst hkk
              have hij := ok.inj i j k hs f1
              subst hij
              rw [hi] at hj
              cases hj
              cases hd
        | _ => exact h2.elim
  · obtain ⟨k1, q1, a1, a2, a3⟩ := ok.owns e1 d1
    obtain ⟨k2, q2, b1, b2, b3⟩ := ok.owns e2 d2
    rw [selPl_at a1] at g1
    rw [selPl_at b1] at g2
    have := H.inj k1 k2 q1 q2 b x x' a2 b2 a3 b3 g1 g2
    subst this
    exact ok.inj i j k1 a1 b1
  · unfold selPl at e
    split at e
    · rename_i k hs
      rw [← ok.len]; exact (List.getElem?_eq_some_iff.1 hs).1
    · cases e
  · obtain ⟨k1, q1, a1, a2, a3⟩ := ok.owns hi hd
    rw [selPl_at a1] at hg
    exact H.new k1 q1 b x a2 a3 hg

/-- The new value and the old one: objects have other numbers; a slice of a list that is dropped tells its contents. -/
def wkC (P : Program) (L : List Obj) (sel : Sel) : DV → DV → Prop
  | .p (.sl z rows), .ref id lo n tot => some id ∉ sel ∧ ∃ rs, rowsOf L id tot = some rs ∧ rows = (rs.drop lo).take n ∧ ∀ te, L[id]?.bind listTy = some te → szT P te = some z
  | d', d => unX sel d' d
def wk1 (P : Program) (L : List Obj) (sel : Sel) : DV → DV → Prop
  | .agg xs, .agg ys => All2 (wkC P L sel) xs ys
  | d', d => wkC P L sel d' d
def wkD (P : Program) (L : List Obj) (sel : Sel) : DV → DV → Prop
  | .tup xs, .tup ys => All2 (wk1 P L sel) xs ys
  | d', d => wk1 P L sel d' d
/-- A list's slice, when nobody writes the list. -/
theorem ref_pr (H : Hp P h0 W0 γ L h) {S : Nat → Prop} {id lo n tot z : Nat} {v : Value} {rs : List (List PV)} (hd : DB P (Free W0 γ L h) γ L h (.ref id lo n tot) v) (hr : rowsOf L id tot = some rs)
    (hz : ∀ te, L[id]?.bind listTy = some te → szT P te = some z) (hS : ∀ b x, γ id = some (b, x) → b < h.next → S b) (hF : ∀ b, Free W0 γ L h b → S b) : ∃ u, VW v u ∧ PR P S h (.sl z ((rs.drop lo).take n)) u := by
  obtain ⟨q, q1, q2, q3⟩ := rowsOf_some hr
  obtain ⟨k1, k2, k3⟩ := hd
  obtain ⟨k4, k5⟩ := k3 q rs q1 q2
  obtain ⟨k6, k7⟩ := k5 q3
  obtain ⟨z0, hz0⟩ := H.width q1 q2
  have hlen : ((rs.drop lo).take n).length = n := by simp; omega
  have hun : unk > maxLen := by decide
  have hno : noapp > maxLen := by decide
  rcases k7 z0 hz0 with ⟨rfl, h1, h2⟩ | ⟨b, o, c, rfl, h1, h2⟩ | ⟨b, o, c, g, rfl, d1, d2, d3⟩
  · have : (rs.drop lo).take n = [] := List.length_eq_zero_iff.1 (by rw [hlen]; omega)
    rw [this]
    exact ⟨_, .refl _, .nil⟩
  · have : (rs.drop lo).take n = [] := List.length_eq_zero_iff.1 (by rw [hlen]; exact h1)
    rw [this]
    exact ⟨_, .empty b o c, .dud⟩
  · obtain ⟨te', cs, z', r1, r2, r3, r4, r5, r6, r7⟩ := H.rows q1 q2 g
    have hte : L[id]?.bind listTy = some te' := by
      rw [q1]
      have ho := H.obj id q q1
      cases q with
      | li tq rs' =>
        cases tq with
        | none => rw [ho.2] at g; cases g
        | some tq =>
          obtain ⟨b', o', g', cs', zz, s1, s2, _⟩ := ho
          rw [g] at g'; cases g'
          rw [r1] at s1; cases s1; rfl
      | fz tq rs' =>
        cases tq with
        | none => rw [ho.2] at g; cases g
        | some tq =>
          obtain ⟨b', o', g', _, cs', zz, s1, s2, _⟩ := ho
          rw [g] at g'; cases g'
          rw [r1] at s1; cases s1; rfl
      | st => exact q2.elim
      | dead => exact q2.elim
    have hzz : z' = z := by have := hz te' hte; rw [r2] at this; cases this; rfl
    subst hzz
    by_cases hn : n = 0
    · subst hn
      rw [List.take_zero]
      exact ⟨_, .empty b (o + lo * z0) c, .dud⟩
    · have hne : 0 < rs.length := by omega
      have hz00 : z0 = z' := by rw [← r6 _ (List.getElem_mem hne), hz0 _ (List.getElem_mem hne)]
      subst hz00
      refine ⟨_, .refl _, ?_⟩
      have hmul : (lo + n) * z0 ≤ rs.length * z0 := Nat.mul_le_mul_right _ (by omega)
      rw [Nat.add_mul] at hmul
      have := PR.sl (P := P) (S := S) (h := h) (rows := (rs.drop lo).take n) (b := b) (o := o + lo * z0) (c := c) (z := z0) (hS b o g (h.wf _ _ r1)) r1 r3 (by rw [hlen]; omega)
        (fun i r e1 => by
          rw [List.getElem?_take] at e1
          split at e1
          · rw [List.getElem?_drop] at e1; exact r6 r (List.mem_of_getElem? e1)
          · cases e1)
        (fun i r j x u e1 e2 e3 => by
          rw [List.getElem?_take] at e1
          split at e1
          · rw [List.getElem?_drop] at e1
            exact (r7 (lo + i) r j x u e1 e2 (by rw [← e3]; congr 1; rw [Nat.add_mul]; omega)).mono fun b hb => ⟨hF b hb, rfl⟩
          · cases e1) (by
            rw [hlen]
            refine .inr ⟨rfl, r2, ?_⟩
            exact d3) (by rw [hlen]; omega)
      rw [hlen] at this
      exact this
theorem wkC_sound (H : Hp P h0 W0 γ L h) (ok : SelOk L sel L') {d' d : DV} {v : Value} (e : wkC P L sel d' d) (hd : DC P (Free W0 γ L h) γ L h d v) : ∃ u, VW v u ∧ DC P (Free W0 (selPl γ sel) L' h) (selPl γ sel) L' h d' u := by
  unfold wkC at e
  split at e
  · rename_i z rows id lo n tot
    obtain ⟨e1, rs, e2, rfl, e3⟩ := e
    refine ref_pr H hd e2 e3 (fun b x hg hlt => ?_) (fun b hb => sel_free ok hb)
    obtain ⟨q, q1, q2, q3⟩ := rowsOf_some e2
    by_cases hq : q.owns = true
    case neg =>
      have ho := H.obj id q q1
      cases q with
      | li te rs' =>
        cases te with
        | none => rw [ho.2] at hg; cases hg
        | some te => exact absurd rfl hq
      | fz te rs' =>
        cases te with
        | none => rw [ho.2] at hg; cases hg
        | some te =>
          obtain ⟨b', o'', g', hS, _⟩ := ho
          rw [hg] at g'; cases g'
          exact sel_free ok hS
      | st => exact q2.elim
      | dead => exact q2.elim
    refine ⟨hlt, H.allowed q1 hq hg, fun i o' y hi hd' hg' => ?_⟩
    obtain ⟨k, o, f1, f2, f3⟩ := ok.owns hi hd'
    rw [selPl_at f1] at hg'
    have := H.inj id k q o b x y q1 f2 hq f3 hg hg'
    subst this
    exact e1 (List.mem_of_getElem? f1)
  · exact ⟨v, .refl v, sel_dx H ok e hd⟩
theorem wkCs_sound (H : Hp P h0 W0 γ L h) (ok : SelOk L sel L') : ∀ {ds' ds : List DV} {vs : List Value}, All2 (wkC P L sel) ds' ds → All2 (DC P (Free W0 γ L h) γ L h) ds vs → ∃ us, All2 VW vs us ∧ All2 (DC P (Free W0 (selPl γ sel) L' h) (selPl γ sel) L' h) ds' us
  | _, _, _, .nil, .nil => ⟨[], .nil, .nil⟩
  | _, _, _, .cons e t, .cons hd t' => by
    obtain ⟨u, a1, a2⟩ := wkC_sound H ok e hd
    obtain ⟨us, b1, b2⟩ := wkCs_sound H ok t t'
    exact ⟨u :: us, .cons a1 b1, .cons a2 b2⟩
theorem wk1_sound (H : Hp P h0 W0 γ L h) (ok : SelOk L sel L') {d' d : DV} {v : Value} (e : wk1 P L sel d' d) (hd : D1 P (Free W0 γ L h) γ L h d v) : ∃ u, VW v u ∧ D1 P (Free W0 (selPl γ sel) L' h) (selPl γ sel) L' h d' u := by
  unfold wk1 at e
  split at e
  · rename_i xs ys
    obtain ⟨vs, rfl, h1⟩ := hd
    obtain ⟨us, a1, a2⟩ := wkCs_sound H ok e h1
    refine ⟨.agg us.toArray, .agg ?_ fun i x y e1 e2 => ?_, us.toArray, rfl, by simpa using a2⟩
    · have := a1.length; simpa using this
    · obtain ⟨u, b1, b2⟩ := a1.get (i := i) (a := x) (by simpa using e1)
      have : us[i]? = some y := by simpa using e2
      rw [this] at b1; cases b1
      exact b2
  · rename_i hne
    have hc : DC P (Free W0 γ L h) γ L h d v := by
      refine dc_of_d1 hd fun ys hy => ?_
      subst hy
      cases d' with
      | agg xs => exact hne xs ys rfl rfl
      | p x => cases x <;> (simp [wkC, unX, unC, unB] at e)
      | _ =>
        simp only [wkC, unX, unC, unB] at e
        repeat' split at e
        all_goals cases e
    obtain ⟨u, a1, a2⟩ := wkC_sound H ok e hc
    exact ⟨u, a1, d1_of_dc a2⟩
theorem wk1s_sound (H : Hp P h0 W0 γ L h) (ok : SelOk L sel L') : ∀ {ds' ds : List DV} {vs : List Value}, All2 (wk1 P L sel) ds' ds → All2 (D1 P (Free W0 γ L h) γ L h) ds vs → ∃ us, All2 VW vs us ∧ All2 (D1 P (Free W0 (selPl γ sel) L' h) (selPl γ sel) L' h) ds' us
  | _, _, _, .nil, .nil => ⟨[], .nil, .nil⟩
  | _, _, _, .cons e t, .cons hd t' => by
    obtain ⟨u, a1, a2⟩ := wk1_sound H ok e hd
    obtain ⟨us, b1, b2⟩ := wk1s_sound H ok t t'
    exact ⟨u :: us, .cons a1 b1, .cons a2 b2⟩
theorem wkD_sound (H : Hp P h0 W0 γ L h) (ok : SelOk L sel L') {d' d : DV} {v : Value} (e : wkD P L sel d' d) (hd : DR P (Free W0 γ L h) γ L h d v) : ∃ u, VW v u ∧ DR P (Free W0 (selPl γ sel) L' h) (selPl γ sel) L' h d' u := by
  unfold wkD at e
  split at e
  · rename_i xs ys
    obtain ⟨vs, rfl, h1⟩ := hd
    obtain ⟨us, a1, a2⟩ := wk1s_sound H ok e h1
    refine ⟨.tuple us.toArray, .tuple ?_ fun i x y e1 e2 => ?_, us.toArray, rfl, by simpa using a2⟩
    · have := a1.length; simpa using this
    · obtain ⟨u, b1, b2⟩ := a1.get (i := i) (a := x) (by simpa using e1)
      have : us[i]? = some y := by simpa using e2
      rw [this] at b1; cases b1
      exact b2
  · rename_i hne
    have hc : D1 P (Free W0 γ L h) γ L h d v := by
      refine d1_of_dr hd ?_
      cases d with
      | tup ys =>
        exfalso
        cases d' with
        | tup xs => exact hne xs ys rfl rfl
        | p x => cases x <;> (simp [wk1, wkC, unX, unC, unB] at e)
        | _ =>
          simp only [wk1, wkC, unX, unC, unB] at e
          repeat' split at e
          all_goals cases e
      | _ => rfl
    obtain ⟨u, a1, a2⟩ := wk1_sound H ok e hc
    exact ⟨u, a1, dr_of_d1 a2⟩
end
end Go.Sim

namespace Go.Sim
open Go.RowKit

def dresultV (P : Program) (a : DFrm) (L : List Obj) : ResultVar → Option DV
  | .tmp t => dlook t a.l
  | .cell p t => match dlook p a.l with
    | some d => dloadV P L t d
    | none => none
def dresultsV (P : Program) (a : DFrm) (L : List Obj) : List ResultVar → Option (List DV)
  | [] => some []
  | x :: r => match dresultV P a L x, dresultsV P a L r with
    | some v, some vs => some (v :: vs)
    | _, _ => none
def packD : List DV → Option DV
  | [d] => some d
  | ds => if ds.all is1 then some (.tup ds) else none
def dbodyQ (P : Program) (rs : List ResultVar) (Q : DV → List Obj → Prop) : DQ
  | .normal, a, L => withD (dresultsV P a L rs) fun ds => withD (packD ds) fun d => Q d L
  | .ret, a, L => withD (dresultsV P a L rs) fun ds => withD (packD ds) fun d => Q d L
  | _, _, _ => False
/-- What a function leaves: objects taken anew, as many as there were at their places. -/
def retQ (P : Program) (c : Nat) (Q : DV → List Obj → Prop) (r : DV) (L : List Obj) : Prop :=
  ∃ sel r' A', SelOk L sel A' ∧ (∀ id, id < c → sel[id]? = some (some id)) ∧ wkD P L sel r' r ∧ Q r' A'
def dargSlots : Nat → List DV → List (Nat × DV)
  | _, [] => []
  | k, v :: vs => (k, v) :: dargSlots (k + 1) vs
/-- A function, by what it makes of such arguments and objects. -/
def DCalls (P : Program) (f : FuncId) (ds : List DV) (A : List Obj) (Q : DV → List Obj → Prop) : Prop :=
  ∀ (W0 : Ent) γ h vs, W0.cnt ≤ A.length → Hp P h W0 γ A h → All2 (DR P (Free W0 γ A h) γ A h) ds vs →
    ACalls P f vs h (fun v h' => ∃ γ' r A', Q r A' ∧ Hp P h W0 γ' A' h' ∧ DR P (Free W0 γ' A' h') γ' A' h' r v)
section
variable {P : Program} {W0 : Ent} {γ : Pl} {L : List Obj} {h : Heap} {h0 : Heap} {a : DFrm} {fa : Frm}
theorem dresult_sound (H : Hp P h0 W0 γ L h) (hf : FR P W0 γ L h a fa) {x : ResultVar} {d : DV} (e : dresultV P a L x = some d) : ∃ v, resultV P fa h x = some v ∧ (DR P (Free W0 γ L h) γ L h) d v := by
  cases x with
  | tmp t => exact hf.slots t d e
  | cell p t =>
    unfold dresultV at e
    cases hq : dlook p a.l with
    | none => simp only [hq] at e; cases e
    | some q =>
      simp only [hq] at e
      obtain ⟨v, e1, r1⟩ := hf.slots p q hq
      obtain ⟨u, e2, r2⟩ := dload_sound H r1 e
      exact ⟨u, by simp only [resultV, e1]; exact e2, r2⟩
theorem dresults_sound (H : Hp P h0 W0 γ L h) (hf : FR P W0 γ L h a fa) : ∀ {rs : List ResultVar} {ds : List DV}, dresultsV P a L rs = some ds → ∃ vs, resultsV P fa h rs = some vs ∧ All2 (DR P (Free W0 γ L h) γ L h) ds vs
  | [], ds, e => by cases e; exact ⟨[], rfl, .nil⟩
  | x :: rs, ds, e => by
    unfold dresultsV at e
    cases h1 : dresultV P a L x with
    | none => rw [h1] at e; cases e
    | some d =>
      cases h2 : dresultsV P a L rs with
      | none => rw [h1, h2] at e; cases e
      | some ds' =>
        rw [h1, h2] at e; cases e
        obtain ⟨v, e1, r1⟩ := dresult_sound H hf h1
        obtain ⟨vs, e2, r2⟩ := dresults_sound H hf h2
        exact ⟨v :: vs, by simp only [resultsV, e1, e2], .cons r1 r2⟩
theorem d1_all2 {S : Nat → Prop} : ∀ {ds : List DV} {vs : List Value}, ds.all is1 = true → All2 (DR P S γ L h) ds vs → All2 (D1 P S γ L h) ds vs
  | [], _, _, .nil => .nil
  | d :: ds, _, hb, .cons hd t => by
    simp only [List.all_cons, Bool.and_eq_true] at hb
    exact .cons (d1_of_dr hd hb.1) (d1_all2 hb.2 t)
theorem pack_sound {ds : List DV} {vs : List Value} {d : DV} (hr : All2 (DR P (Free W0 γ L h) γ L h) ds vs) (e : packD ds = some d) : (DR P (Free W0 γ L h) γ L h) d (packV vs) := by
  cases hr with
  | nil =>
    simp [packD] at e
    subst e
    exact ⟨#[], rfl, .nil⟩
  | cons hd t =>
    cases t with
    | nil => simp only [packD] at e; cases e; exact hd
    | cons hd2 t2 =>
      simp only [packD] at e
      split at e
      · rename_i hb
        cases e
        exact ⟨_, rfl, by simpa using d1_all2 hb (.cons hd (.cons hd2 t2))⟩
      · cases e
theorem dargs_sound : ∀ {ds : List DV} {vs : List Value} (k : Nat), All2 (DR P (Free W0 γ L h) γ L h) ds vs → ∀ t d, dlook t (dargSlots k ds) = some d → ∃ v, look t (argSlots k vs) = some v ∧ (DR P (Free W0 γ L h) γ L h) d v
  | [], _, k, .nil, t, d, e => by cases e
  | d0 :: ds, v0 :: vs, k, .cons hd tl, t, d, e => by
    simp only [dargSlots, dlook] at e
    simp only [argSlots, look]
    split at e
    · rename_i hk; cases e; rw [if_pos hk]; exact ⟨v0, rfl, hd⟩
    · rename_i hk; rw [if_neg hk]; exact dargs_sound (k + 1) tl t d e
theorem Hp.grow {h' : Heap} (H : Hp P h0 W0 γ L h) (hn : h.next ≤ h'.next) (hg : ∀ b, b < h.next → h'.get b = h.get b) : Hp P h0 W0 γ L h' ∧ Carry W0 γ L h γ L h' := by
  have c : Carry W0 γ L h γ L h' := ⟨fun b hb => ⟨⟨Nat.lt_of_lt_of_le hb.1 hn, hb.2⟩, hg b hb.1⟩, Nat.le_refl _, fun _ _ e hc => ⟨e, hc⟩, fun id o' rows' _ e hl => ⟨o', rows', e, hl, Nat.le_refl _, fun _ => ⟨rfl, fun _ hz => hz⟩⟩⟩
  have hlt : ∀ id o b x, L[id]? = some o → o.owns = true → γ id = some (b, x) → b < h.next := fun id o b x e e2 e3 => (OR.lt (fun b hb => hb.1) (H.obj id o e) e3 e2).1
  exact ⟨⟨H.start, H.pin, fun id o e => H.others c e rfl fun b x g d => hg b (hlt id o b x e d g), H.inj, H.dom, H.new, Nat.le_trans H.next hn, fun b hb hw => (hg b (Nat.lt_of_lt_of_le hb H.next)).trans (H.frame b hb hw)⟩, c⟩
/-- An argument as the function sees it. -/
def argC (P : Program) (L : List Obj) (any : Bool) : DV → DV → Prop
  | .p (.sl z rows), .ref id lo n tot => (any = true ∨ ∃ e rs, L[id]? = some (.fz e rs)) ∧ ∃ rs, rowsOf L id tot = some rs ∧ rows = (rs.drop lo).take n ∧ ∀ te, L[id]?.bind listTy = some te → szT P te = some z
  | .p (.sl _ rows), .p (.v (.slice none 0 0)) => rows = []
  | d', d => unC [] d' = some d
def arg1 (P : Program) (L : List Obj) (any : Bool) : DV → DV → Prop
  | .agg xs, .agg ys => All2 (argC P L any) xs ys
  | d', d => argC P L any d' d
end
end Go.Sim

namespace Go.Sim
open Go.RowKit
section
variable {P : Program} {W0 : Ent} {γ : Pl} {L : List Obj} {h : Heap} {h0 : Heap} {a : DFrm} {fa : Frm}

def noPl : Pl := fun _ => none
theorem hp_none (W : Ent) (h : Heap) (h1 : W.start = h.next) (h2 : ∀ id b, ¬ W.pin id b) : Hp P h W noPl [] h :=
  ⟨h1, fun id b e => absurd e (h2 id b), fun id o e => by simp at e, fun id id' o o' b x x' e => by simp at e, fun id x e => (by cases e), fun id o b x e => by simp at e, Nat.le_refl _, fun _ _ _ => rfl⟩
theorem unB_nil_sound {S S' : Nat → Prop} {γ' : Pl} {L' : List Obj} {d d' : DV} {v : Value} (hs : ∀ b, S b → S' b) (e : unB [] d' = some d) (hd : DB P S γ L h d v) : DB P S' γ' L' h d' v := by
  cases d' with
  | p x => cases e; exact PR.mono (fun b hb => ⟨hs b hb, rfl⟩) hd
  | dp row off =>
    cases e
    obtain ⟨b, o, cs, te, rw, h1, h2, h3, h4, h5⟩ := hd
    exact ⟨b, o, cs, te, rw, hs b h1, h2, h3, h4, fun j x u e1 e2 => (h5 j x u e1 e2).mono fun b hb => ⟨hs b hb, rfl⟩⟩
  | _ => cases e
theorem unBs_nil_sound {S S' : Nat → Prop} {γ' : Pl} {L' : List Obj} (hs : ∀ b, S b → S' b) : ∀ {ds' ds : List DV} {vs : List Value}, unBs [] ds' = some ds → All2 (DB P S γ L h) ds vs → All2 (DB P S' γ' L' h) ds' vs
  | [], _, _, e, hd => by cases e; cases hd; exact .nil
  | d' :: ds', _, _, e, hd => by
    unfold unBs at e
    cases h1 : unB [] d' with
    | none => simp only [h1] at e; cases e
    | some d =>
      cases h2 : unBs [] ds' with
      | none => simp only [h1, h2] at e; cases e
      | some ds =>
        simp only [h1, h2] at e; cases e
        cases hd with
        | cons a b => exact .cons (unB_nil_sound hs h1 a) (unBs_nil_sound hs h2 b)
theorem unC_nil_sound {S S' : Nat → Prop} {γ' : Pl} {L' : List Obj} {d d' : DV} {v : Value} (hs : ∀ b, S b → S' b) (e : unC [] d' = some d) (hd : DC P S γ L h d v) : DC P S' γ' L' h d' v := by
  cases d' with
  | p x => cases e; exact unB_nil_sound (P := P) (γ := γ) (L := L) (γ' := γ') (L' := L') (d := .p x) (d' := .p x) hs rfl hd
  | dp row off => cases e; exact unB_nil_sound (P := P) (γ := γ) (L := L) (γ' := γ') (L' := L') (d := .dp row off) (d' := .dp row off) hs rfl hd
  | fn f pre cap =>
    unfold unC at e
    cases h1 : unBs [] pre with
    | none => simp only [h1] at e; cases e
    | some p =>
      cases h2 : unBs [] cap with
      | none => simp only [h1, h2] at e; cases e
      | some c =>
        simp only [h1, h2] at e; cases e
        obtain ⟨as, bs, rfl, a1, a2⟩ := hd
        exact ⟨as, bs, rfl, unBs_nil_sound hs h1 a1, unBs_nil_sound hs h2 a2⟩
  | _ => cases e
theorem argC_sound {S' : Nat → Prop} {any : Bool} (H : Hp P h0 W0 γ L h) (hs : ∀ b, Free W0 γ L h b → S' b) (ha : any = true → ∀ b, b < h.next → S' b) {d d' : DV} {v : Value} (e : argC P L any d' d) (hd : DC P (Free W0 γ L h) γ L h d v) : ∃ u, VW v u ∧ DC P S' noPl [] h d' u := by
  unfold argC at e
  split at e
  · rename_i z rows id lo n tot
    obtain ⟨e1, rs, e2, rfl, e3⟩ := e
    refine ref_pr H hd e2 e3 (fun b x hg hlt => ?_) hs
    rcases e1 with e1 | ⟨te, rs', e1⟩
    · exact ha e1 b hlt
    · have ho := H.obj id _ e1
      cases te with
      | none => rw [ho.2] at hg; cases hg
      | some te =>
        obtain ⟨b', o', g', hS, _⟩ := ho
        rw [hg] at g'; cases g'
        exact hs b hS
  · subst e
    have : v = .slice none 0 0 := PR.scal (P := P) (S := Free W0 γ L h) (h := h) hd
    subst this
    exact ⟨_, .refl _, PR.nil⟩
  · exact ⟨v, .refl v, unC_nil_sound hs e hd⟩
theorem argCs_sound {S' : Nat → Prop} {any : Bool} (H : Hp P h0 W0 γ L h) (hs : ∀ b, Free W0 γ L h b → S' b) (ha : any = true → ∀ b, b < h.next → S' b) : ∀ {ds' ds : List DV} {vs : List Value}, All2 (argC P L any) ds' ds → All2 (DC P (Free W0 γ L h) γ L h) ds vs → ∃ us, All2 VW vs us ∧ All2 (DC P S' noPl [] h) ds' us
  | _, _, _, .nil, .nil => ⟨[], .nil, .nil⟩
  | _, _, _, .cons e t, .cons hd t' => by
    obtain ⟨u, a1, a2⟩ := argC_sound H hs ha e hd
    obtain ⟨us, b1, b2⟩ := argCs_sound H hs ha t t'
    exact ⟨u :: us, .cons a1 b1, .cons a2 b2⟩
theorem unC_not {d d' : DV} (e : unC [] d' = some d) : (∀ xs, d ≠ .agg xs) ∧ (∀ xs, d ≠ .tup xs) := by
  cases d' <;> (simp only [unC, unB] at e) <;> (try (repeat' split at e)) <;> cases e <;> exact ⟨fun _ h => (by cases h), fun _ h => (by cases h)⟩
theorem arg1_sound {S' : Nat → Prop} {any : Bool} (H : Hp P h0 W0 γ L h) (hs : ∀ b, Free W0 γ L h b → S' b) (ha : any = true → ∀ b, b < h.next → S' b) {d d' : DV} {v : Value} (e : arg1 P L any d' d) (hd : DR P (Free W0 γ L h) γ L h d v) : ∃ u, VW v u ∧ DR P S' noPl [] h d' u := by
  unfold arg1 at e
  split at e
  · rename_i xs ys
    obtain ⟨vs, rfl, h1⟩ := hd
    obtain ⟨us, a1, a2⟩ := argCs_sound H hs ha e h1
    refine ⟨.agg us.toArray, .agg ?_ fun i x y e1 e2 => ?_, us.toArray, rfl, by simpa using a2⟩
    · have := a1.length; simpa using this
    · obtain ⟨u, b1, b2⟩ := a1.get (i := i) (a := x) (by simpa using e1)
      have : us[i]? = some y := by simpa using e2
      rw [this] at b1; cases b1
      exact b2
  · have hn : (∀ xs, d ≠ .agg xs) ∧ (∀ xs, d ≠ .tup xs) := by
      unfold argC at e
      split at e
      · exact ⟨fun _ h => (by cases h), fun _ h => (by cases h)⟩
      · exact ⟨fun _ h => (by cases h), fun _ h => (by cases h)⟩
      · exact unC_not e
    have h1 : D1 P (Free W0 γ L h) γ L h d v := by
      cases d <;> first | exact hd | exact absurd rfl (hn.2 _)
    obtain ⟨u, a1, a2⟩ := argC_sound H hs ha e (dc_of_d1 h1 hn.1)
    exact ⟨u, a1, dr_of_d1 (d1_of_dc a2)⟩
theorem args_sound {S' : Nat → Prop} {any : Bool} (H : Hp P h0 W0 γ L h) (hs : ∀ b, Free W0 γ L h b → S' b) (ha : any = true → ∀ b, b < h.next → S' b) : ∀ {ds' ds : List DV} {vs : List Value}, All2 (arg1 P L any) ds' ds → All2 (DR P (Free W0 γ L h) γ L h) ds vs → ∃ us, All2 VW vs us ∧ All2 (DR P S' noPl [] h) ds' us
  | _, _, _, .nil, .nil => ⟨[], .nil, .nil⟩
  | _, _, _, .cons e t, .cons hd t' => by
    obtain ⟨u, a1, a2⟩ := arg1_sound H hs ha e hd
    obtain ⟨us, b1, b2⟩ := args_sound H hs ha t t'
    exact ⟨u :: us, .cons a1 b1, .cons a2 b2⟩
/-- Scalars, and structures and tuples of them. -/
def scalC : DV → Bool
  | .p (.v _) => true
  | _ => false
def scal1 : DV → Bool
  | .agg xs => xs.all scalC
  | d => scalC d
def scalD : DV → Bool
  | .tup xs => xs.all scal1
  | d => scal1 d
theorem scalC_free {S S' : Nat → Prop} {γ γ' : Pl} {L L' : List Obj} {h h' : Heap} {d : DV} {v : Value} (hs : scalC d = true) (hd : DC P S γ L h d v) : DC P S' γ' L' h' d v := by
  unfold scalC at hs
  split at hs
  · rename_i x
    cases (show PR P S h (.v x) v from hd) with
    | v hx => exact PR.v hx
  · cases hs
theorem scalCs_free {S S' : Nat → Prop} {γ γ' : Pl} {L L' : List Obj} {h h' : Heap} : ∀ {ds : List DV} {vs : List Value}, ds.all scalC = true → All2 (DC P S γ L h) ds vs → All2 (DC P S' γ' L' h') ds vs
  | [], _, _, .nil => .nil
  | d :: ds, _, hb, .cons hd t => by
    simp only [List.all_cons, Bool.and_eq_true] at hb
    exact .cons (scalC_free hb.1 hd) (scalCs_free hb.2 t)
theorem scal1_free {S S' : Nat → Prop} {γ γ' : Pl} {L L' : List Obj} {h h' : Heap} {d : DV} {v : Value} (hs : scal1 d = true) (hd : D1 P S γ L h d v) : D1 P S' γ' L' h' d v := by
  unfold scal1 at hs
  split at hs
  · obtain ⟨vs, rfl, h1⟩ := hd; exact ⟨vs, rfl, scalCs_free hs h1⟩
  · rename_i hn
    exact d1_of_dc (scalC_free hs (dc_of_d1 hd fun xs e => hn xs e))
theorem scal1s_free {S S' : Nat → Prop} {γ γ' : Pl} {L L' : List Obj} {h h' : Heap} : ∀ {ds : List DV} {vs : List Value}, ds.all scal1 = true → All2 (D1 P S γ L h) ds vs → All2 (D1 P S' γ' L' h') ds vs
  | [], _, _, .nil => .nil
  | d :: ds, _, hb, .cons hd t => by
    simp only [List.all_cons, Bool.and_eq_true] at hb
    exact .cons (scal1_free hb.1 hd) (scal1s_free hb.2 t)
theorem scal_free {S S' : Nat → Prop} {γ γ' : Pl} {L L' : List Obj} {h h' : Heap} {d : DV} {v : Value} (hs : scalD d = true) (hd : DR P S γ L h d v) : DR P S' γ' L' h' d v := by
  unfold scalD at hs
  split at hs
  · obtain ⟨vs, rfl, h1⟩ := hd; exact ⟨vs, rfl, scal1s_free hs h1⟩
  · rename_i hn
    refine dr_of_d1 (scal1_free hs (d1_of_dr hd ?_))
    cases d <;> first | rfl | exact absurd rfl (hn _)
/-- A state that tells less: some slots, objects taken anew. -/
def wkS (P : Program) (a : DFrm) (L : List Obj) (l' : List (Nat × DV)) (L' : List Obj) : Prop :=
  ∃ sel, SelOk L sel L' ∧ (∀ id, id < a.c → sel[id]? = some (some id)) ∧ ∀ p ∈ l', ∃ d, dlook p.1 a.l = some d ∧ wkD P L sel p.2 d
theorem AWp.weaken_vw {c : Code} {Q : Exit → Frm → Heap → Prop} {a a' : Frm} (hn : a'.n = a.n) (hl : ∀ t v, a'.get t = some v → ∃ u, a.get t = some u ∧ VW u v) (hc : AWp P c Q a' h) : AWp P c Q a h :=
  fun ro D β m w ha hr ok => hc ro D β m w ⟨ha.defers, by rw [hn]; exact ha.size, fun t v e => by
    obtain ⟨u, e1, hw⟩ := hl t v e
    obtain ⟨mv, e2, r⟩ := ha.rel t u e1
    exact ⟨mv, e2, r.weak hw⟩⟩ hr ok
theorem wk_slots {L' : List Obj} {sel : Sel} (H : Hp P h0 W0 γ L h) (ok : SelOk L sel L') (hf : FR P W0 γ L h a fa) : ∀ (l' : List (Nat × DV)), (∀ p ∈ l', ∃ d, dlook p.1 a.l = some d ∧ wkD P L sel p.2 d) →
    ∃ fl : List (Nat × Value), (∀ t v, look t fl = some v → ∃ u, fa.get t = some u ∧ VW u v) ∧ ∀ t d, dlook t l' = some d → ∃ v, look t fl = some v ∧ DR P (Free W0 (selPl γ sel) L' h) (selPl γ sel) L' h d v
  | [], _ => ⟨[], fun t v e => (by cases e), fun t d e => (by cases e)⟩
  | (t0, d0) :: l', hl => by
    obtain ⟨fl, f1, f2⟩ := wk_slots H ok hf l' fun p hp => hl p (List.mem_cons_of_mem _ hp)
    obtain ⟨d, e1, e2⟩ := hl (t0, d0) List.mem_cons_self
    obtain ⟨v, e3, r3⟩ := hf.slots t0 d e1
    obtain ⟨u, hw, hd⟩ := wkD_sound H ok e2 r3
    refine ⟨(t0, u) :: fl, fun t w e => ?_, fun t d' e => ?_⟩
    · simp only [look] at e
      split at e
      · rename_i ht; cases e; subst ht; exact ⟨v, e3, hw⟩
      · exact f1 t w e
    · simp only [dlook] at e
      simp only [look]
      split at e
      · rename_i ht; cases e; rw [if_pos ht]; exact ⟨u, rfl, hd⟩
      · rename_i ht; rw [if_neg ht]; exact f2 t d' e
theorem wkS_sound {l' : List (Nat × DV)} {L' : List Obj} {c : Code} {Q : Exit → Frm → Heap → Prop} (H : Hp P h0 W0 γ L h) (hf : FR P W0 γ L h a fa) (hw : wkS P a L l' L') (hk : ∀ γ' fa', Hp P h0 W0 γ' L' h → FR P W0 γ' L' h ⟨a.n, a.c, l'⟩ fa' → AWp P c Q fa' h) : AWp P c Q fa h := by
  obtain ⟨sel, ok, hp, hl⟩ := hw
  obtain ⟨fl, f1, f2⟩ := wk_slots H ok hf l' hl
  exact AWp.weaken_vw (a' := ⟨a.n, fl⟩) hf.n.symm f1 (hk _ ⟨a.n, fl⟩ (H.select ok fun id b e => hp id (by rw [← hf.cnt]; exact W0.few id b e)) ⟨rfl, hf.cnt, f2⟩)

inductive DFx where
  | k (x : X)
  | block (id : Nat)
  | loop (K : DFrm → List Obj → Prop)
  | scope (J : Nat → DFrm → List Obj → Prop)
def dscQ (J : Nat → DFrm → List Obj → Prop) (Q : DQ) : DQ
  | .goto l, a, L => J l a L
  | e, a, L => Q e a L
def dsx (P : Program) : List DFx → DQ → DQ
  | [], Q => Q
  | .k y :: s, Q => dthenQ (dxHold P y (dsx P s Q)) (dsx P s Q)
  | .block id :: s, Q => dblockQ id (dsx P s Q)
  | .loop K :: s, Q => dthenQ K (dsx P s Q)
  | .scope J :: s, Q => dscQ J (dsx P s Q)
theorem DAWp.mono {c : Code} {Q Q' : DQ} {a : DFrm} {L : List Obj} (hc : DAWp P c Q a L) (hq : ∀ e a L, Q e a L → Q' e a L) : DAWp P c Q' a L := fun h0 W0 γ h fa H hf => (hc h0 W0 γ h fa H hf).mono fun e fa h ⟨a, L, γ, hk, H, hf⟩ => ⟨a, L, γ, hq _ _ _ hk, H, hf⟩
end
end Go.Sim

namespace Go.Sim
open Go.RowKit
theorem withD_congr {α : Type} {o o' : Option α} {f : α → Prop} (h : o = o') : withD o f = withD o' f := by rw [h]
def dcHold (P : Program) (l : List C) (K : DFrm → List Obj → Prop) (a : DFrm) (L : List Obj) : Prop := dcWp P l K a L
def ddHold (P : Program) (l : List (C × List C)) (K : DFrm → List Obj → Prop) (a : DFrm) (L : List Obj) : Prop := ddWp P l K a L
theorem withD_fun {α : Type} {o : Option α} {f g : α → Prop} (h : ∀ x, f x = g x) : withD o f = withD o g := by
  cases o
  · rfl
  · exact h _
section
variable (P : Program) (d : Option Tmp) (r : List C) (K : DFrm → List Obj → Prop) (a : DFrm) (L : List Obj)
theorem ds_nil : dcWp P [] K a L = K a L := rfl
theorem ds_guard (op : Op) (t : Option Tmp) (want : Bool) : dcWp P (⟨d, op, some (t, want)⟩ :: r) K a L = guardWp (guardD t want a) (dcHold P (⟨d, op, none⟩ :: r) K a L) (dcHold P r K (a.put d undD) L) := rfl
theorem dguard_true (l : List C) (B : Prop) : guardWp (some true) (dcHold P l K a L) B = dcWp P l K a L := by simp [guardWp, dcHold]
theorem dguard_false (l : List C) (A : Prop) : guardWp (some false) A (dcHold P l K a L) = dcWp P l K a L := by simp [guardWp, dcHold]
theorem ds_move (x : Operand) : dcWp P (⟨d, .move x, none⟩ :: r) K a L = withD (a.ev x) fun v => dcWp P r K (a.put d v) L := rfl
theorem ds_assign (x : Operand) : dcWp P (⟨d, .assign x, none⟩ :: r) K a L = withD (a.ev x) fun v => dcWp P r K (a.put d v) L := rfl
theorem ds_pick (c x y : Operand) : dcWp P (⟨d, .pick c x y, none⟩ :: r) K a L = withD (dpickV (a.ev c) (a.ev x) (a.ev y)) fun v => dcWp P r K (a.put d v) L := rfl
theorem ds_build (t : TypeId) (ps : List (Nat × Operand)) : dcWp P (⟨d, .build t ps.toArray, none⟩ :: r) K a L = withD (allDP a.ev ps) fun ds => withD (dbuildV P t ds) fun v => dcWp P r K (a.put d v) L := by simp only [dcWp, dopWp]
theorem ds_field (t : TypeId) (x : Operand) (f : Nat) : dcWp P (⟨d, .field t x f, none⟩ :: r) K a L = withD (a.ev x) fun x => withD (dfieldV P t x f) fun v => dcWp P r K (a.put d v) L := rfl
theorem ds_fieldAddr (t : TypeId) (x : Operand) (f : Nat) : dcWp P (⟨d, .fieldAddr t x f, none⟩ :: r) K a L = withD (a.ev x) fun x => withD (dfieldAddrV P L t x f) fun v => dcWp P r K (a.put d v) L := rfl
theorem ds_unOp (op : UnOp) (t : TypeId) (x : Operand) : dcWp P (⟨d, .unOp op t x, none⟩ :: r) K a L = withD (a.ev x) fun x => withD (valD x) fun v => withD (scD (unV op v)) fun v => dcWp P r K (a.put d v) L := rfl
theorem ds_binOp (op : BinOp) (t : TypeId) (x y : Operand) (u : TypeId) : dcWp P (⟨d, .binOp op t x y u, none⟩ :: r) K a L = withD (a.ev x) fun x => withD (a.ev y) fun y => withD (dbinV P op t x y) fun v => dcWp P r K (a.put d v) L := rfl
theorem ds_convert (s t : TypeId) (x : Operand) : dcWp P (⟨d, .convert s t x, none⟩ :: r) K a L = withD (a.ev x) fun x => withD (dconvV P L s t x) fun p => dcWp P r K (a.put d p.1) p.2 := rfl
theorem ds_makeFunc (f : Fn) (xs ys : List Operand) : dcWp P (⟨d, .makeFunc f xs.toArray ys.toArray, none⟩ :: r) K a L = withD (dfuncV f (allD a.ev xs) (allD a.ev ys)) fun v => dcWp P r K (a.put d v) L := by simp only [dcWp, dopWp]
theorem ds_indexAddr (t : TypeId) (x i : Operand) : dcWp P (⟨d, .indexAddr t x i, none⟩ :: r) K a L = withD (a.ev x) fun x => withD (a.ev i) fun i => withD (dindexAddrV P L t x i) fun v => dcWp P r K (a.put d v) L := rfl
theorem ds_index (t : TypeId) (x i : Operand) : dcWp P (⟨d, .index t x i, none⟩ :: r) K a L = withD (a.ev x) fun x => withD (a.ev i) fun i => withD (dindexV P t x i) fun v => dcWp P r K (a.put d v) L := rfl
theorem ds_extract (x : Operand) (i : Nat) : dcWp P (⟨d, .extract x i, none⟩ :: r) K a L = withD (a.ev x) fun x => withD (dextractV x i) fun v => dcWp P r K (a.put d v) L := rfl
theorem ds_nilCheck (x : Operand) : dcWp P (⟨d, .nilCheck x, none⟩ :: r) K a L = withD (a.ev x) fun x => withD (onD L 0 x) fun v => dcWp P r K (a.put d v) L := rfl
theorem ds_load (t : TypeId) (x : Operand) : dcWp P (⟨d, .load t x, none⟩ :: r) K a L = withD (a.ev x) fun x => withD (dloadV P L t x) fun v => dcWp P r K (a.put d v) L := rfl
theorem ds_store (t : TypeId) (x y : Operand) : dcWp P (⟨d, .store t x y, none⟩ :: r) K a L = withD (a.ev x) fun x => withD (a.ev y) fun y => withD (dstoreV P L t x y) fun L' => dcWp P r K (a.put d undD) L' := rfl
theorem ds_slice (t : TypeId) (x : Operand) (lo hi mx : Option Operand) : dcWp P (⟨d, .slice t x lo hi mx, none⟩ :: r) K a L = withD (a.ev x) fun x => withD (optD a.ev lo) fun lo => withD (optD a.ev hi) fun hi => withD (optD a.ev mx) fun mx => withD (dsliceV P L t x lo hi mx) fun v => dcWp P r K (a.put d v) L := rfl
theorem ds_box (t : TypeId) (x : Operand) : dcWp P (⟨d, .box t x, none⟩ :: r) K a L = withD (a.ev x) fun x => withD (if is1 x = true ∧ szT P t = some (cellsD x).length then some (cellsD x) else none) fun cs => dcWp P r K (a.put d (.ptr L.length 0)) (L ++ [.st cs]) := by
  simp only [dcWp, dopWp]
  refine withD_fun fun x => ?_
  split
  · rename_i h; simp [withD, h]
  · rename_i h; simp only [withD]; exact propext ⟨fun q => h ⟨q.1, q.2.1⟩, fun q => q.elim⟩
theorem ds_alloc (t : TypeId) : dcWp P (⟨d, .alloc t, none⟩ :: r) K a L = withD (zeroD P t) fun z => dcWp P r K (a.put d (.ptr L.length 0)) (L ++ [.st z]) := rfl
theorem ds_buildSlice (t : TypeId) (n : Nat) (ps : List (Nat × Operand)) : dcWp P (⟨d, .buildSlice t n ps.toArray, none⟩ :: r) K a L = withD (allDP a.ev ps) fun ds => withD (dbuildSliceV P L t n ds) fun p => dcWp P r K (a.put d p.1) p.2 := by simp only [dcWp, dopWp]
def dcallW (P : Program) (f : DV) (ds : List DV) (L : List Obj) (K : DV → List Obj → Prop) : Prop := match f with
  | .fn k pre cap => DCallW P k (pre ++ ds ++ cap) L K
  | _ => False
theorem dcall_fn (k : FuncId) (pre ds cap : List DV) (K : DV → List Obj → Prop) : dcallW P (.fn k pre cap) ds L K = DCallW P k (pre ++ ds ++ cap) L K := rfl
theorem ds_call (f : Operand) (xs : List Operand) (ts : Array TypeId) : dcWp P (⟨d, .call ⟨.value f, xs.toArray, ts⟩, none⟩ :: r) K a L = withD (a.ev f) fun f => withD (allD a.ev xs) fun ds => dcallW P f ds L fun v L' => dcHold P r K (a.put d v) L' := by
  simp only [dcWp, dopWp]
  refine withD_fun fun f => ?_
  refine withD_fun fun ds => ?_
  cases f <;> rfl
theorem ds_append (x y : Operand) (ts : List TypeId) : dcWp P (⟨d, .call ⟨.builtin .append, #[x, y], ts.toArray⟩, none⟩ :: r) K a L = withD (a.ev x) fun x => withD (a.ev y) fun y => withD (dappendV P ts L x y) fun p => dcWp P r K (a.put d p.1) p.2 := by
  simp only [dcWp, dopWp, allD, withD]
  cases a.ev x <;> cases a.ev y <;> rfl
theorem ds_len (x : Operand) (t : TypeId) : dcWp P (⟨d, .call ⟨.builtin .len, #[x], #[t]⟩, none⟩ :: r) K a L = withD (a.ev x) fun x => withD (dlenV P L t x) fun v => dcWp P r K (a.put d v) L := by
  simp only [dcWp, dopWp, allD, withD]
  cases a.ev x <;> rfl
theorem ds_min (xs : List Operand) (ts : Array TypeId) : dcWp P (⟨d, .call ⟨.builtin .min, xs.toArray, ts⟩, none⟩ :: r) K a L = withD (allD a.ev xs) fun ds => withD (valsOf ds) fun vs => withD (scD (minV vs)) fun v => dcWp P r K (a.put d v) L := by simp only [dcWp, dopWp]
theorem ds_max (xs : List Operand) (ts : Array TypeId) : dcWp P (⟨d, .call ⟨.builtin .max, xs.toArray, ts⟩, none⟩ :: r) K a L = withD (allD a.ev xs) fun ds => withD (valsOf ds) fun vs => withD (scD (maxV vs)) fun v => dcWp P r K (a.put d v) L := by simp only [dcWp, dopWp]
-- drawn regions
theorem dd_nil : ddWp P [] K a L = K a L := rfl
theorem dd_plain (c : C) (r : List (C × List C)) : ddWp P ((c, []) :: r) K a L = dcWp P [c] (ddWp P r K) a L := by simp only [ddWp, dchkAll, true_and]
theorem dd_chk (c k : C) (ks : List C) (r : List (C × List C)) : ddWp P ((c, k :: ks) :: r) K a L = dcWp P [c] (fun a L => dAnd (dchkAll P a L (k :: ks)) (ddHold P r K a L)) a L := rfl
theorem dchk_nil : dchkAll P a L [] = True := rfl
theorem dchk_cons (c : C) (r : List C) : dchkAll P a L (c :: r) = (dchk P c a L ∧ dchkAll P a L r) := rfl
theorem dchk_plain (d : Option Tmp) (o : Op) : dchk P ⟨d, o, none⟩ a L = withD (dreadV P o a.ev L) fun u => withD (valD u) fun x => withD (slotD a d) fun d' => withD (valD d') fun y => x = y := rfl
theorem dchk_guard (d : Option Tmp) (o : Op) (t : Option Tmp) (want : Bool) : dchk P ⟨d, o, some (t, want)⟩ a L = guardWp (guardD t want a) (withD (dreadV P o a.ev L) fun u => withD (valD u) fun x => withD (slotD a d) fun d' => withD (valD d') fun y => x = y) True := rfl
theorem dread_load (t : TypeId) (x : Operand) : dreadV P (.load t x) a.ev L = (a.ev x).bind (dloadV P L t) := by
  simp only [dreadV]; cases a.ev x <;> rfl
theorem dslot_some (n c : Nat) (l : List (Nat × DV)) (t : Tmp) : slotD ⟨n, c, l⟩ (some t) = dlook t l := rfl
end
/-- What of the slots is kept. -/
def keepL (l : List (Nat × DV)) : List Nat → List (Nat × DV)
  | [] => []
  | t :: ts => match dlook t l with
    | some d => (t, d) :: keepL l ts
    | none => keepL l ts
def keep1 (t : Nat) (o : Option DV) (r : List (Nat × DV)) : List (Nat × DV) := match o with
  | some d => (t, d) :: r
  | none => r
theorem keepL_nil (l : List (Nat × DV)) : keepL l [] = [] := rfl
theorem keepL_cons (l : List (Nat × DV)) (t : Nat) (ts : List Nat) : keepL l (t :: ts) = keep1 t (dlook t l) (keepL l ts) := by
  unfold keep1; rw [keepL]
theorem keep1_some (t : Nat) (d : DV) (r : List (Nat × DV)) : keep1 t (some d) r = (t, d) :: r := rfl
theorem keep1_none (t : Nat) (r : List (Nat × DV)) : keep1 t none r = r := rfl
-- code
section
variable (P : Program) (s : List DFx) (Q : DQ) (a : DFrm) (L : List Obj)
theorem dsx_nil (e : Exit) : dsx P [] Q e a L = Q e a L := rfl
theorem dsx_k (y : X) : dsx P (.k y :: s) Q .normal a L = dxHold P y (dsx P s Q) a L := rfl
theorem dsx_k_exit (y : X) (id : Nat) : dsx P (.k y :: s) Q (.exit id) a L = dsx P s Q (.exit id) a L := rfl
theorem dsx_k_goto (y : X) (l : Nat) : dsx P (.k y :: s) Q (.goto l) a L = dsx P s Q (.goto l) a L := rfl
theorem dsx_block (id : Nat) : dsx P (.block id :: s) Q .normal a L = dsx P s Q .normal a L := rfl
theorem dsx_block_exit (id id' : Nat) : dsx P (.block id :: s) Q (.exit id') a L = if id' = id then dsx P s Q .normal a L else dsx P s Q (.exit id') a L := rfl
theorem dsx_block_goto (id l : Nat) : dsx P (.block id :: s) Q (.goto l) a L = dsx P s Q (.goto l) a L := rfl
theorem dsx_loop (K : DFrm → List Obj → Prop) : dsx P (.loop K :: s) Q .normal a L = K a L := rfl
theorem dsx_loop_exit (K : DFrm → List Obj → Prop) (id : Nat) : dsx P (.loop K :: s) Q (.exit id) a L = dsx P s Q (.exit id) a L := rfl
theorem dsx_loop_goto (K : DFrm → List Obj → Prop) (l : Nat) : dsx P (.loop K :: s) Q (.goto l) a L = dsx P s Q (.goto l) a L := rfl
theorem dsx_ret : ∀ s, dsx P s Q .ret a L = Q .ret a L
  | [] => rfl
  | .k _ :: s => dsx_ret s
  | .block _ :: s => dsx_ret s
  | .loop _ :: s => dsx_ret s
  | .scope _ :: s => dsx_ret s
theorem dsx_scope (J : Nat → DFrm → List Obj → Prop) : dsx P (.scope J :: s) Q .normal a L = dsx P s Q .normal a L := rfl
theorem dsx_scope_exit (J : Nat → DFrm → List Obj → Prop) (id : Nat) : dsx P (.scope J :: s) Q (.exit id) a L = dsx P s Q (.exit id) a L := rfl
theorem dsx_scope_goto (J : Nat → DFrm → List Obj → Prop) (l : Nat) : dsx P (.scope J :: s) Q (.goto l) a L = J l a L := rfl
theorem dx_nil : dxWp P .nil (dsx P s Q) a L = dsx P s Q .normal a L := rfl
theorem dx_ret : dxWp P .ret (dsx P s Q) a L = dsx P s Q .ret a L := rfl
theorem dx_exit (id : Nat) : dxWp P (.exit id) (dsx P s Q) a L = dsx P s Q (.exit id) a L := rfl
theorem dx_goto (l : Nat) : dxWp P (.goto l) (dsx P s Q) a L = dsx P s Q (.goto l) a L := rfl
theorem dx_reg (l : List C) (k : X) : dxWp P (.reg l k) (dsx P s Q) a L = dcWp P l (dsx P (.k k :: s) Q .normal) a L := rfl
theorem dx_draw (l : List (C × List C)) (k : X) : dxWp P (.draw l k) (dsx P s Q) a L = ddWp P l (dsx P (.k k :: s) Q .normal) a L := rfl
theorem dx_cond (c : Operand) (x y k : X) : dxWp P (.cond c x y k) (dsx P s Q) a L = condD (a.ev c) (dxHold P x (dsx P (.k k :: s) Q) a L) (dxHold P y (dsx P (.k k :: s) Q) a L) := rfl
theorem dx_block (id : Nat) (x k : X) : dxWp P (.block id x k) (dsx P s Q) a L = dxWp P x (dsx P (.block id :: .k k :: s) Q) a L := rfl
theorem dx_loop (x k : X) : dxWp P (.loop x k) (dsx P s Q) a L = dloopW P x (dsx P (.k k :: s) Q) a L := rfl
theorem dx_scope (x labs k : X) : dxWp P (.scope x labs k) (dsx P s Q) a L = dscopeW P x labs (dsx P (.k k :: s) Q) a L := rfl
theorem dx_label (l : Nat) (k : X) : dxWp P (.label l k) (dsx P s Q) a L = dxWp P k (dsx P s Q) a L := rfl
theorem dcond_true (x : X) (R : DQ) (B : Prop) : condD (some (.p (.v (.bool true)))) (dxHold P x R a L) B = dxHold P x R a L := by simp [condD]
theorem dcond_false (x : X) (R : DQ) (A : Prop) : condD (some (.p (.v (.bool false)))) A (dxHold P x R a L) = dxHold P x R a L := by simp [condD]
end
theorem condD_congr {o o' : Option DV} {A B : Prop} (h : o = o') : condD o A B = condD o' A B := by rw [h]
/-- What a function is to leave, as it is met. -/
theorem dbody_ret (P : Program) (rs : List ResultVar) (Q : DV → List Obj → Prop) (a : DFrm) (L : List Obj) : dbodyQ P rs Q .ret a L = withD (dresultsV P a L rs) fun ds => withD (packD ds) fun d => Q d L := rfl
theorem dbody_normal (P : Program) (rs : List ResultVar) (Q : DV → List Obj → Prop) (a : DFrm) (L : List Obj) : dbodyQ P rs Q .normal a L = withD (dresultsV P a L rs) fun ds => withD (packD ds) fun d => Q d L := rfl
-- values
theorem dput_some (n c : Nat) (l : List (Nat × DV)) (t : Nat) (v : DV) : DFrm.put ⟨n, c, l⟩ (some t) v = if t < n then ⟨n, c, (t, v) :: l⟩ else ⟨n, c, l⟩ := rfl
theorem dput_none (a : DFrm) (v : DV) : DFrm.put a none v = a := rfl
theorem dev_tmp (n c : Nat) (l : List (Nat × DV)) (t : Nat) : DFrm.ev ⟨n, c, l⟩ (.tmp t) = dlook t l := rfl
theorem dev_func (a : DFrm) (f : FuncId) : a.ev (.func f) = some (.fn f [] []) := rfl
theorem dev_int (a : DFrm) (k : IntKind) (n : Int) : a.ev (.const (.int k n)) = some (.p (.v (.int k n))) := rfl
theorem dev_bool (a : DFrm) (b : Bool) : a.ev (.const (.bool b)) = some (.p (.v (.bool b))) := rfl
theorem dev_string (a : DFrm) (s : ByteArray) : a.ev (.const (.string s)) = some (.p (.v (.string s))) := rfl
theorem dev_nilptr (a : DFrm) : a.ev (.const (.pointer none)) = some (.p (.v (.pointer none))) := rfl
theorem dev_nilslice (a : DFrm) : a.ev (.const (.slice none 0 0)) = some (.p (.v (.slice none 0 0))) := rfl
theorem dev_nilmap (a : DFrm) : a.ev (.const (.map none)) = some (.p (.v (.map none))) := rfl
theorem dev_nilfunc (a : DFrm) : a.ev (.const .nilFunc) = some (.p (.v .nilFunc)) := rfl
theorem dlook_cons (t t' : Nat) (v : DV) (r : List (Nat × DV)) : dlook t ((t', v) :: r) = if t' = t then some v else dlook t r := rfl
theorem dlook_nil (t : Nat) : dlook t [] = none := rfl
theorem dargs_nil (k : Nat) : dargSlots k [] = [] := rfl
theorem dargs_cons (k : Nat) (v : DV) (l : List DV) : dargSlots k (v :: l) = (k, v) :: dargSlots (k + 1) l := rfl
theorem allD_nil (ρ : DRho) : allD ρ [] = some [] := rfl
theorem allD_cons (ρ : DRho) (x : Operand) (l : List Operand) : allD ρ (x :: l) = match ρ x, allD ρ l with | some v, some vs => some (v :: vs) | _, _ => none := rfl
theorem allDP_nil (ρ : DRho) : allDP ρ [] = some [] := rfl
theorem allDP_cons (ρ : DRho) (i : Nat) (x : Operand) (l : List (Nat × Operand)) : allDP ρ ((i, x) :: l) = match ρ x, allDP ρ l with | some v, some vs => some ((i, v) :: vs) | _, _ => none := rfl
theorem optD_none (ρ : DRho) : optD ρ none = some none := rfl
theorem optD_some (ρ : DRho) (x : Operand) : optD ρ (some x) = match ρ x with | some d => (valD d).map some | none => none := rfl
theorem dress_nil (P : Program) (a : DFrm) (L : List Obj) : dresultsV P a L [] = some [] := rfl
theorem dress_cons (P : Program) (a : DFrm) (L : List Obj) (x : ResultVar) (r : List ResultVar) : dresultsV P a L (x :: r) = match dresultV P a L x, dresultsV P a L r with | some v, some vs => some (v :: vs) | _, _ => none := rfl
theorem dres_tmp (P : Program) (n c : Nat) (l : List (Nat × DV)) (L : List Obj) (t : Nat) : dresultV P ⟨n, c, l⟩ L (.tmp t) = dlook t l := rfl
theorem dres_cell (P : Program) (n c : Nat) (l : List (Nat × DV)) (L : List Obj) (p : Nat) (t : TypeId) : dresultV P ⟨n, c, l⟩ L (.cell p t) = match dlook p l with | some d => dloadV P L t d | none => none := rfl
theorem packD_one (d : DV) : packD [d] = some d := rfl
theorem packD_nil : packD [] = some (.tup []) := rfl
theorem packD_two (d e : DV) (l : List DV) : packD (d :: e :: l) = if (d :: e :: l).all is1 then some (.tup (d :: e :: l)) else none := rfl
theorem dguard_at (n c : Nat) (l : List (Nat × DV)) (t : Tmp) (want : Bool) : guardD (some t) want ⟨n, c, l⟩ = match dlook t l with | some (.p (.v (.bool b))) => some (if want then b else !b) | some (.tup _) => some false | _ => none := rfl
theorem dpick_true (x y : Option DV) : dpickV (some (.p (.v (.bool true)))) x y = x := rfl
theorem dpick_false (x y : Option DV) : dpickV (some (.p (.v (.bool false)))) x y = y := rfl
theorem dpick_bool (b u v : Bool) : dpickV (some (.p (.v (.bool b)))) (some (.p (.v (.bool u)))) (some (.p (.v (.bool v)))) = some (.p (.v (.bool (if b then u else v)))) := by cases b <;> rfl
theorem valD_v (x : Value) : valD (.p (.v x)) = some x := rfl
theorem valD_agg (xs : List DV) : valD (.agg xs) = (valsD xs).map fun l => .agg l.toArray := rfl
theorem valsD_nil : valsD [] = some [] := rfl
theorem valsD_cons (x : Value) (l : List DV) : valsD (.p (.v x) :: l) = (valsD l).map (x :: ·) := rfl
theorem valsOf_nil : valsOf [] = some [] := rfl
theorem valsOf_cons (d : DV) (l : List DV) : valsOf (d :: l) = match valD d, valsOf l with | some v, some vs => some (v :: vs) | _, _ => none := rfl
theorem sc_int (k : IntKind) (n : Int) : scD (some (.int k n)) = some (.p (.v (.int k n))) := rfl
theorem sc_bool (b : Bool) : scD (some (.bool b)) = some (.p (.v (.bool b))) := rfl
theorem sc_string (s : ByteArray) : scD (some (.string s)) = some (.p (.v (.string s))) := rfl
theorem is1_p (x : PV) : is1 (.p x) = true := rfl
theorem is1_ptr (i o : Nat) : is1 (.ptr i o) = true := rfl
theorem is1_ep (i o t q : Nat) : is1 (.ep i o t q) = true := rfl
theorem is1_dp (r : List PV) (o : Nat) : is1 (.dp r o) = true := rfl
theorem is1_ref (i o t q : Nat) : is1 (.ref i o t q) = true := rfl
theorem is1_aref (i o t : Nat) : is1 (.aref i o t) = true := rfl
theorem is1_fn (f : FuncId) (x y : List DV) : is1 (.fn f x y) = true := rfl
theorem is1_agg (xs : List DV) : is1 (.agg xs) = true := rfl
theorem cellsD_p (x : PV) : cellsD (.p x) = [.p x] := rfl
theorem cellsD_ptr (i o : Nat) : cellsD (.ptr i o) = [.ptr i o] := rfl
theorem cellsD_ep (i o t q : Nat) : cellsD (.ep i o t q) = [.ep i o t q] := rfl
theorem cellsD_dp (r : List PV) (o : Nat) : cellsD (.dp r o) = [.dp r o] := rfl
theorem cellsD_ref (i o t q : Nat) : cellsD (.ref i o t q) = [.ref i o t q] := rfl
theorem cellsD_aref (i o t : Nat) : cellsD (.aref i o t) = [.aref i o t] := rfl
theorem cellsD_fn (f : FuncId) (x y : List DV) : cellsD (.fn f x y) = [.fn f x y] := rfl
theorem cellsD_agg (xs : List DV) : cellsD (.agg xs) = xs := rfl
theorem setManyD_nil (cs : List DV) (i : Nat) : setManyD cs i [] = cs := rfl
theorem setManyD_cons (cs : List DV) (i : Nat) (v : DV) (r : List DV) : setManyD cs i (v :: r) = setManyD (cs.set i v) (i + 1) r := rfl
theorem setManyP_nil (cs : List PV) (i : Nat) : setManyP cs i [] = cs := rfl
theorem setManyP_cons (cs : List PV) (i : Nat) (v : PV) (r : List PV) : setManyP cs i (v :: r) = setManyP (cs.set i v) (i + 1) r := rfl
theorem pvs_nil : pvs [] = some [] := rfl
theorem pvs_cons (x : PV) (l : List DV) : pvs (.p x :: l) = (pvs l).map (x :: ·) := rfl
theorem dbin_vv (P : Program) (op : BinOp) (t : TypeId) (x y : Value) : dbinV P op t (.p (.v x)) (.p (.v y)) = scD (binV P op t x y) := rfl
theorem dbin_ptr (P : Program) (op : BinOp) (t : TypeId) (i o : Nat) : dbinV P op t (.ptr i o) (.p (.v (.pointer none))) = scD (binV P op t (.pointer (some ⟨0, 0, none⟩)) (.pointer none)) := rfl
theorem dbin_dp (P : Program) (op : BinOp) (t : TypeId) (r : List PV) (o : Nat) : dbinV P op t (.dp r o) (.p (.v (.pointer none))) = scD (binV P op t (.pointer (some ⟨0, 0, none⟩)) (.pointer none)) := rfl
theorem dbin_sl (P : Program) (op : BinOp) (t : TypeId) (z : Nat) (r : List PV) (l : List (List PV)) : dbinV P op t (.p (.sl z (r :: l))) (.p (.v (.slice none 0 0))) = scD (binV P op t (.slice (some ⟨0, 0, none⟩) 1 0) (.slice none 0 0)) := rfl
theorem dbin_agg (P : Program) (op : BinOp) (t : TypeId) (xs ys : List DV) : dbinV P op t (.agg xs) (.agg ys) = match (valsD xs).map (fun l => Value.agg l.toArray), (valsD ys).map (fun l => Value.agg l.toArray) with
  | some x, some y => scD (binV P op t x y)
  | none, some y => none
  | some x, none => none
  | none, none => none := by
  unfold dbinV
  simp only [valD, shadow]
  cases (valsD xs).map (fun l => Value.agg l.toArray) <;> cases hy : (valsD ys).map (fun l => Value.agg l.toArray) <;> simp only <;> split <;> rfl
theorem dload_ptr (P : Program) (L : List Obj) (t : TypeId) (id off : Nat) : dloadV P L t (.ptr id off) = match L[id]? with | some (.st cells) => dpartV P t cells off | _ => none := rfl
theorem dload_ep (P : Program) (L : List Obj) (t : TypeId) (id i off tot : Nat) : dloadV P L t (.ep id i off tot) = match rowsOf L id tot with | some rows => (match rows[i]? with | some row => dpartV P t (row.map .p) off | none => none) | none => none := rfl
theorem dload_dp (P : Program) (L : List Obj) (t : TypeId) (row : List PV) (off : Nat) : dloadV P L t (.dp row off) = dpartV P t (row.map .p) off := rfl
theorem dstore_ptr (P : Program) (L : List Obj) (t : TypeId) (id off : Nat) (x : DV) : dstoreV P L t (.ptr id off) x = match L[id]? with
    | some (.st cells) => if is1 x = true ∧ szT P t = some (cellsD x).length ∧ off + (cellsD x).length ≤ cells.length then some (L.set id (.st (setManyD cells off (cellsD x)))) else none
    | _ => none := rfl
theorem on_ptr (L : List Obj) (k id off : Nat) : onD L k (.ptr id off) = some (.ptr id (off + k)) := rfl
theorem on_dp (L : List Obj) (k : Nat) (row : List PV) (off : Nat) : onD L k (.dp row off) = some (.dp row (off + k)) := rfl
theorem on_ep (L : List Obj) (k id i off tot : Nat) : onD L k (.ep id i off tot) = match rowsOf L id tot with | some _ => some (.ep id i (off + k) tot) | none => none := rfl
theorem rows_of (L : List Obj) (id tot : Nat) : rowsOf L id tot = match L[id]? with | some (.li _ rows) => if rows.length = tot then some rows else none | some (.fz _ rows) => if rows.length = tot then some rows else none | _ => none := rfl
theorem dext_tup (xs : List DV) (i : Nat) : dextractV (.tup xs) i = xs[i]? := rfl
theorem dfunc_some (k : FuncId) (a b : List DV) : dfuncV (.func k) (some a) (some b) = if a.all baseD && b.all baseD then some (.fn k a b) else none := rfl
theorem base_p (x : PV) : baseD (.p x) = true := rfl
theorem base_ptr (i o : Nat) : baseD (.ptr i o) = true := rfl
theorem base_ref (i o t q : Nat) : baseD (.ref i o t q) = true := rfl
end Go.Sim

namespace Go.Sim
open Go.RowKit
section
variable {P : Program}
theorem fillD_nil (pl : Nat → Option (Nat × Nat)) (cs : List DV) : fillD pl cs [] = some cs := rfl
theorem fillD_cons (pl : Nat → Option (Nat × Nat)) (cs : List DV) (i : Nat) (v : DV) (r : List (Nat × DV)) : fillD pl cs ((i, v) :: r) = match pl i with
    | none => none
    | some (off, sz) => if is1 v = true ∧ (cellsD v).length = sz ∧ off + sz ≤ cs.length then fillD pl (setManyD cs off (cellsD v)) r else none := rfl
def dappN (L : List Obj) (e : TypeId) (b : Nat) (o : Option (List (List PV))) : Option (DV × List Obj) := match o with
  | some ys => if ys.length ≤ 9223372036854775807 ∧ ys.length * b ≤ 140737488355328 then some (.ref L.length 0 ys.length ys.length, L ++ [.li (if ys.length = 0 then none else some e) ys]) else none
  | none => none
def dappR (L : List Obj) (e : TypeId) (b id lo n tot : Nat) (q : Option Obj) (o : Option (List (List PV))) : Option (DV × List Obj) := match o, q with
  | some ys, some (.li te rows) => if lo = 0 ∧ rows.length = tot ∧ n = tot ∧ (te = none ∨ te = some e) ∧ n + ys.length ≤ 9223372036854775807 ∧ (n + ys.length) * b ≤ 140737488355328 then some (.ref id 0 (n + ys.length) (n + ys.length), L.set id (.li (if ys.length = 0 then te else some e) (rows ++ ys))) else none
  | _, _ => none
theorem dappN_some (L : List Obj) (e : TypeId) (b : Nat) (ys : List (List PV)) : dappN L e b (some ys) = if ys.length ≤ 9223372036854775807 ∧ ys.length * b ≤ 140737488355328 then some (.ref L.length 0 ys.length ys.length, L ++ [.li (if ys.length = 0 then none else some e) ys]) else none := rfl
theorem dappR_some (L : List Obj) (e : TypeId) (b id lo n tot : Nat) (te : Option TypeId) (rows ys : List (List PV)) : dappR L e b id lo n tot (some (.li te rows)) (some ys) = if lo = 0 ∧ rows.length = tot ∧ n = tot ∧ (te = none ∨ te = some e) ∧ n + ys.length ≤ 9223372036854775807 ∧ (n + ys.length) * b ≤ 140737488355328 then some (.ref id 0 (n + ys.length) (n + ys.length), L.set id (.li (if ys.length = 0 then te else some e) (rows ++ ys))) else none := rfl
def slP (s : Nat) (rows : List (List PV)) : Nat × Nat × Option Nat → Option DV
  | (l, r, none) => some (.p (.sl s ((rows.drop l).take (r - l))))
  | _ => none
def slR (id a tot : Nat) : Nat × Nat × Option Nat → Option DV
  | (l, r, _) => some (.ref id (a + l) (r - l) tot)
def slA (id off n s : Nat) : Nat × Nat × Option Nat → Option DV
  | (l, r, none) => if l < n then some (.aref id (off + l * s) (r - l)) else none
  | _ => none
def slAr (id off n s : Nat) : Nat × Nat × Option Nat → Option DV
  | (l, r, none) => if l < n ∧ n ≤ maxLen then some (.aref id (off + l * s) (r - l)) else none
  | _ => none
theorem slP_some (s : Nat) (rows : List (List PV)) (l r : Nat) : slP s rows (l, r, none) = some (.p (.sl s ((rows.drop l).take (r - l)))) := rfl
theorem slR_some (id a tot l r : Nat) (m : Option Nat) : slR id a tot (l, r, m) = some (.ref id (a + l) (r - l) tot) := rfl
theorem slA_some (id off n s l r : Nat) : slA id off n s (l, r, none) = if l < n then some (.aref id (off + l * s) (r - l)) else none := rfl
theorem slAr_some (id off n s l r : Nat) : slAr id off n s (l, r, none) = if l < n ∧ n ≤ maxLen then some (.aref id (off + l * s) (r - l)) else none := rfl
theorem bind_if {α β : Type} {c : Prop} {dc : Decidable c} (x : α) (f : α → Option β) : (if c then some x else none).bind f = if c then f x else none := by split <;> rfl
theorem bind_one {α β : Type} (x : α) (f : α → Option β) : (some x).bind f = f x := rfl
theorem bnd_lo (n c : Nat) (k : IntKind) (l : Int) : boundsV n c (some (.int k l)) none none = if 0 ≤ l ∧ l ≤ n then some (l.toNat, n, none) else none := by
  unfold boundsV
  simp only [idxV]
  by_cases h : 0 ≤ l
  · simp only [h, if_true, true_and]
    by_cases h2 : l ≤ n
    · rw [if_pos h2, if_pos (by omega)]
    · rw [if_neg h2, if_neg (by omega)]
  · simp [h]
theorem bnd_hi (n c : Nat) (k : IntKind) (r : Int) : boundsV n c none (some (.int k r)) none = if 0 ≤ r ∧ r ≤ c then some (0, r.toNat, none) else none := by
  unfold boundsV
  simp only [idxV]
  by_cases h : 0 ≤ r
  · simp only [h, if_true, true_and]
    by_cases h2 : r ≤ c
    · rw [if_pos h2, if_pos (by omega)]
    · rw [if_neg h2, if_neg (by omega)]
  · simp [h]
theorem bnd_both (n c : Nat) (k k' : IntKind) (l r : Int) : boundsV n c (some (.int k l)) (some (.int k' r)) none = if 0 ≤ l ∧ l ≤ r ∧ r ≤ c then some (l.toNat, r.toNat, none) else none := by
  unfold boundsV
  simp only [idxV]
  by_cases h : 0 ≤ r
  · simp only [h, if_true]
    by_cases h2 : r ≤ c
    · rw [if_pos (show r.toNat ≤ c by omega)]
      by_cases h3 : 0 ≤ l
      · simp only [h3, if_true, true_and]
        by_cases h4 : l ≤ r
        · rw [if_pos (by omega), if_pos ⟨h4, h2⟩]
        · rw [if_neg (by omega), if_neg (by omega)]
      · simp [h3]
    · rw [if_neg (by omega), if_neg (by omega)]
  · rw [if_neg (by omega)]; simp [h]; omega
theorem bnd_no (n c : Nat) : boundsV n c none none none = some (0, n, none) := rfl
theorem fillRows_nil (z : Nat) (rows : List (List PV)) : fillRows z rows [] = some rows := rfl
theorem fillRows_cons (z : Nat) (rows : List (List PV)) (i : Nat) (d : DV) (r : List (Nat × DV)) : fillRows z rows ((i, d) :: r) = if is1 d = true ∧ i < rows.length then match pvs (cellsD d) with
      | some ps => if ps.length = z then fillRows z (rows.set i ps) r else none
      | none => none
    else none := rfl
end
theorem guard_tt (A : Prop) : guardWp (some true) A True = A := by simp [guardWp]
theorem guard_ff (A : Prop) : guardWp (some false) A True = True := by simp [guardWp]
attribute [congr] withD_congr condD_congr
attribute [go_sem ↓] keepL_nil keepL_cons keep1_some keep1_none withD_some ds_nil ds_guard dguard_true dguard_false ds_move ds_assign ds_pick ds_build ds_field ds_fieldAddr ds_unOp ds_binOp ds_convert ds_makeFunc ds_indexAddr ds_index ds_extract ds_nilCheck ds_load ds_store ds_slice ds_box ds_alloc ds_buildSlice ds_call dcall_fn ds_append ds_len ds_min ds_max
  dd_nil dd_plain dd_chk dchk_nil dchk_cons dchk_plain dchk_guard
  dsx_nil dsx_k dsx_k_exit dsx_k_goto dsx_block dsx_block_exit dsx_block_goto dsx_loop dsx_loop_exit dsx_loop_goto dsx_scope dsx_scope_exit dsx_scope_goto dsx_ret
  dx_nil dx_ret dx_exit dx_goto dx_reg dx_draw dx_cond dx_block dx_loop dx_scope dx_label dcond_true dcond_false dbody_ret dbody_normal
attribute [push_cast] dread_load dslot_some guard_tt guard_ff dput_some dput_none dev_tmp dev_func dev_int dev_bool dev_string dev_nilptr dev_nilslice dev_nilmap dev_nilfunc dlook_cons dlook_nil dargs_nil dargs_cons allD_nil allD_cons allDP_nil allDP_cons optD_none optD_some dress_nil dress_cons dres_tmp dres_cell packD_one packD_nil packD_two dguard_at
  dpick_true dpick_false dpick_bool valD_v valD_agg valsD_nil valsD_cons valsOf_nil valsOf_cons sc_int sc_bool sc_string is1_p is1_ptr is1_ep is1_dp is1_ref is1_aref is1_fn is1_agg cellsD_p cellsD_ptr cellsD_ep cellsD_dp cellsD_ref cellsD_aref cellsD_fn cellsD_agg setManyD_nil setManyD_cons setManyP_nil setManyP_cons pvs_nil pvs_cons
  dbin_vv dbin_ptr dbin_dp dbin_sl dbin_agg dload_ptr dload_ep dload_dp dstore_ptr on_ptr on_dp on_ep rows_of dext_tup dfunc_some base_p base_ptr base_ref fillD_nil fillD_cons dappN_some dappR_some slP_some slR_some slA_some slAr_some bind_if bind_one bnd_lo bnd_hi bnd_both bnd_no fillRows_nil fillRows_cons
  List.getElem?_cons_zero List.getElem?_cons_succ List.getElem?_nil List.length_cons List.length_nil List.map_cons List.map_nil List.set_cons_zero List.set_cons_succ List.all_cons List.all_nil List.nil_append List.cons_append List.append_nil List.length_append List.length_set Option.map_some Option.map_none Option.bind_some Option.bind_none List.length_replicate List.replicate_succ List.replicate_zero Nat.zero_le
end Go.Sim

namespace Go.Sim
open Go.RowKit
def selR (L : List Obj) (sel : Sel) : Option Nat → Obj → Prop
  | none, o' => o' = .li none []
  | some k, o' => match L[k]? with
    | some o => unO sel o' o
    | none => False
theorem SelOk.of {L L' : List Obj} {sel : Sel} (h : All2 (selR L sel) sel L') (hn : (sel.filterMap id).Nodup) : SelOk L sel L' := by
  refine ⟨h.length, fun i j k e1 e2 => ?_, fun i k o' e1 e2 => ?_, fun i o' e1 e2 => ?_⟩
  · clear h
    induction sel generalizing i j with
    | nil => simp at e1
    | cons s sel ih =>
      have hmem : ∀ (m : Nat), sel[m]? = some (some k) → k ∈ sel.filterMap id := fun m e => List.mem_filterMap.2 ⟨some k, List.mem_of_getElem? e, rfl⟩
      have hn' : (sel.filterMap id).Nodup := by
        cases s with
        | none => simpa using hn
        | some q => rw [List.filterMap_cons_some (by rfl)] at hn; exact (List.nodup_cons.1 hn).2
      have hno : ∀ m, s = some k → sel[m]? = some (some k) → False := fun m e e' => by
        subst e
        rw [List.filterMap_cons_some (by rfl)] at hn
        exact (List.nodup_cons.1 hn).1 (hmem m e')
      cases i with
      | zero =>
        cases j with
        | zero => rfl
        | succ j => exact (hno j (by simpa using e1) (by simpa using e2)).elim
      | succ i =>
        cases j with
        | zero => exact (hno i (by simpa using e2) (by simpa using e1)).elim
        | succ j => rw [ih hn' i j (by simpa using e1) (by simpa using e2)]
  · obtain ⟨o2, e3, r⟩ := h.get e1
    rw [e2] at e3; cases e3
    unfold selR at r
    simp only at r
    split at r
    · rename_i o ho; exact ⟨o, ho, r⟩
    · exact r.elim
  · obtain ⟨o2, e3, r⟩ := h.get e1
    rw [e2] at e3; cases e3
    exact r
def wkL (P : Program) (L : List Obj) (sel : Sel) (l : List (Nat × DV)) : List (Nat × DV) → Prop
  | [] => True
  | (t, d') :: r => (match dlook t l with | some d => wkD P L sel d' d | none => False) ∧ wkL P L sel l r
def fixes (c : Nat) (sel : Sel) : Bool := (List.range c).all fun id => sel[id]? == some (some id)
theorem wkS_intro {P : Program} {n c : Nat} {l l' : List (Nat × DV)} {L L' : List Obj} (sel : Sel) (h1 : All2 (selR L sel) sel L') (h2 : (sel.filterMap id).Nodup) (h3 : fixes c sel = true) (h4 : wkL P L sel l l') : wkS P ⟨n, c, l⟩ L l' L' := by
  refine ⟨sel, SelOk.of h1 h2, fun id hid => ?_, ?_⟩
  · have := List.all_eq_true.1 h3 id (List.mem_range.2 hid)
    simpa using this
  · clear h1 h2 h3
    induction l' with
    | nil => intro p hp; simp at hp
    | cons q r ih =>
      obtain ⟨t, d'⟩ := q
      obtain ⟨h5, h6⟩ := h4
      intro p hp
      rcases List.mem_cons.1 hp with rfl | hp
      · simp only
        cases hd : dlook t l with
        | none => rw [hd] at h5; exact h5.elim
        | some d => rw [hd] at h5; exact ⟨d, rfl, h5⟩
      · exact ih h6 p hp
theorem ret_sel {P : Program} {c : Nat} {Q : DV → List Obj → Prop} {r : DV} {L : List Obj} (sel : Sel) (r' : DV) (A' : List Obj) (h1 : All2 (selR L sel) sel A') (h2 : (sel.filterMap id).Nodup) (h3 : fixes c sel = true) (h : wkD P L sel r' r) (hq : Q r' A') : retQ P c Q r L :=
  ⟨sel, r', A', SelOk.of h1 h2, fun id hid => by
    have := List.all_eq_true.1 h3 id (List.mem_range.2 hid)
    simpa using this, h, hq⟩
section
variable (P : Program) (L : List Obj) (sel : Sel)
theorem wkC_ref (z : Nat) (rows : List (List PV)) (id lo n tot : Nat) : wkC P L sel (.p (.sl z rows)) (.ref id lo n tot) = (some id ∉ sel ∧ ∃ rs, rowsOf L id tot = some rs ∧ rows = (rs.drop lo).take n ∧ ∀ te, L[id]?.bind listTy = some te → szT P te = some z) := rfl
theorem wkC_ss (z z' : Nat) (r r' : List (List PV)) : wkC P L sel (.p (.sl z r)) (.p (.sl z' r')) = (z = z' ∧ r = r') := by
  unfold wkC unX; simp [unC, unB]
theorem unX_ss (z z' : Nat) (r r' : List (List PV)) : unX sel (.p (.sl z r)) (.p (.sl z' r')) = (z = z' ∧ r = r') := by
  unfold unX; simp [unC, unB]
end
theorem unO_li (sel : Sel) (e e' : Option TypeId) (r r' : List (List PV)) : unO sel (.li e r) (.li e' r') = (e = e' ∧ rowsW r r') := rfl
theorem unO_st (sel : Sel) (c c' : List DV) : unO sel (.st c) (.st c') = All2 (unX sel) c c' := rfl
end Go.Sim

namespace Go.Sim
open Go.RowKit
section
variable {P : Program} {γ γ' : Pl} {L L' : List Obj} {h : Heap} {S S' : Nat → Prop} {sel : Sel}
structure Ren (γ : Pl) (L : List Obj) (sel : Sel) (γ' : Pl) (L' : List Obj) : Prop where
  at' : ∀ (i k : Nat), sel[i]? = some (some k) → γ' i = γ k
  lt : ∀ (i k : Nat), sel[i]? = some (some k) → i < L'.length
  st : ∀ (i k : Nat) (c : List DV), sel[i]? = some (some k) → L[k]? = some (.st c) → ∃ c', L'[i]? = some (.st c')
  li : ∀ (i k : Nat) (o' : Obj) (rows : List (List PV)), sel[i]? = some (some k) → L'[i]? = some o' → o'.isList rows → ∃ o, L[k]? = some o ∧ o.isList rows
/-- No list that lies nowhere is made. -/
def unBx (sel : Sel) (d' : DV) : Option DV := match d' with
  | .ref id lo n tot => match sel[id]? with
    | some (some k) => some (.ref k lo n tot)
    | _ => none
  | d => unB sel d
def unBxs (sel : Sel) : List DV → Option (List DV)
  | [] => some []
  | d :: l => match unBx sel d, unBxs sel l with
    | some d, some l => some (d :: l)
    | _, _ => none
def unCx (sel : Sel) : DV → Option DV
  | .fn f pre cap => match unBxs sel pre, unBxs sel cap with
    | some a, some b => some (.fn f a b)
    | _, _ => none
  | d => unBx sel d
def unCxs (sel : Sel) : List DV → Option (List DV)
  | [] => some []
  | d :: l => match unCx sel d, unCxs sel l with
    | some d, some l => some (d :: l)
    | _, _ => none
def un1x (sel : Sel) : DV → Option DV
  | .agg xs => (unCxs sel xs).map .agg
  | d => unCx sel d
def un1xs (sel : Sel) : List DV → Option (List DV)
  | [] => some []
  | d :: l => match un1x sel d, un1xs sel l with
    | some d, some l => some (d :: l)
    | _, _ => none
def unDx (sel : Sel) : DV → Option DV
  | .tup xs => (un1xs sel xs).map .tup
  | d => un1x sel d
theorem ren_pr (hs : ∀ b, S b → S' b) {x : PV} {v : Value} (hx : PR P S h x v) : PR P S' h x v := hx.mono fun _ hb => ⟨hs _ hb, rfl⟩
theorem ren_db (hs : ∀ b, S b → S' b) (R : Ren γ L sel γ' L') {d' d : DV} {v : Value} (e : unBx sel d' = some d) (hd : DB P S γ L h d v) : DB P S' γ' L' h d' v := by
  cases d' with
  | p x => cases e; exact ren_pr hs hd
  | dp row off =>
    cases e
    obtain ⟨b, o, cs, te, rw, h1, h2, h3, h4, h5⟩ := hd
    exact ⟨b, o, cs, te, rw, hs b h1, h2, h3, h4, fun j x u a c => ren_pr hs (h5 j x u a c)⟩
  | ptr id off =>
    unfold unBx unB at e
    cases hx : sel[id]? with
    | none => simp only [hx] at e; cases e
    | some s =>
      cases s with
      | none => simp only [hx] at e; cases e
      | some k =>
        simp only [hx] at e; cases e
        obtain ⟨b, h1, ⟨c, h2⟩, h3⟩ := hd
        exact ⟨b, (R.at' _ _ hx).trans h1, R.st _ _ _ hx h2, h3⟩
  | aref id off n =>
    unfold unBx unB at e
    cases hx : sel[id]? with
    | none => simp only [hx] at e; cases e
    | some s =>
      cases s with
      | none => simp only [hx] at e; cases e
      | some k =>
        simp only [hx] at e; cases e
        obtain ⟨b, h1, ⟨c, h2⟩, h3⟩ := hd
        exact ⟨b, (R.at' _ _ hx).trans h1, R.st _ _ _ hx h2, h3⟩
  | ep id i off tot =>
    unfold unBx unB at e
    cases hx : sel[id]? with
    | none => simp only [hx] at e; cases e
    | some s =>
      cases s with
      | none => simp only [hx] at e; cases e
      | some k =>
        simp only [hx] at e; cases e
        obtain ⟨k1, k2, k3⟩ := hd
        refine ⟨R.lt _ _ hx, k2, fun o' rows e1 e2 => ?_⟩
        obtain ⟨o, g1, g2⟩ := R.li _ _ _ _ hx e1 e2
        rw [R.at' _ _ hx]
        exact k3 o rows g1 g2
  | ref id lo n tot =>
    unfold unBx at e
    cases hx : sel[id]? with
    | none => simp only [hx] at e; cases e
    | some s =>
      cases s with
      | none => simp only [hx] at e; cases e
      | some k =>
        simp only [hx] at e; cases e
        obtain ⟨k1, k2, k3⟩ := hd
        refine ⟨R.lt _ _ hx, k2, fun o' rows e1 e2 => ?_⟩
        obtain ⟨o, g1, g2⟩ := R.li _ _ _ _ hx e1 e2
        unfold RefV
        rw [R.at' _ _ hx]
        exact k3 o rows g1 g2
  | fn => cases e
  | agg => cases e
  | tup => cases e
theorem ren_dbs (hs : ∀ b, S b → S' b) (R : Ren γ L sel γ' L') : ∀ {ds' ds : List DV} {vs : List Value}, unBxs sel ds' = some ds → All2 (DB P S γ L h) ds vs → All2 (DB P S' γ' L' h) ds' vs
  | [], _, _, e, hd => by cases e; cases hd; exact .nil
  | d' :: ds', _, _, e, hd => by
    unfold unBxs at e
    cases h1 : unBx sel d' with
    | none => simp only [h1] at e; cases e
    | some d =>
      cases h2 : unBxs sel ds' with
      | none => simp only [h1, h2] at e; cases e
      | some ds =>
        simp only [h1, h2] at e; cases e
        cases hd with
        | cons a b => exact .cons (ren_db hs R h1 a) (ren_dbs hs R h2 b)
theorem unBx_base {d d' : DV} (e : unBx sel d' = some d) : (∀ f a b, d ≠ .fn f a b) ∧ (∀ xs, d ≠ .agg xs) ∧ ∀ xs, d ≠ .tup xs := by
  cases d' <;> (simp only [unBx, unB] at e) <;> (try (repeat' split at e)) <;> cases e <;> exact ⟨fun _ _ _ h => (by cases h), fun _ h => (by cases h), fun _ h => (by cases h)⟩
theorem ren_dc (hs : ∀ b, S b → S' b) (R : Ren γ L sel γ' L') {d' d : DV} {v : Value} (e : unCx sel d' = some d) (hd : DC P S γ L h d v) : DC P S' γ' L' h d' v := by
  have key : ∀ d', (∀ f a b, d' ≠ .fn f a b) → unBx sel d' = some d → DC P S' γ' L' h d' v := by
    intro d' hn e
    have hb : DB P S γ L h d v := by
      have := unBx_base e
      cases d <;> first | exact hd | exact absurd rfl (this.1 _ _ _) | exact hd.elim
    have := ren_db hs R e hb
    cases d' <;> first | exact this | exact absurd rfl (hn _ _ _)
  cases d' with
  | fn f pre cap =>
    unfold unCx at e
    cases h1 : unBxs sel pre with
    | none => simp only [h1] at e; cases e
    | some p =>
      cases h2 : unBxs sel cap with
      | none => simp only [h1, h2] at e; cases e
      | some c =>
        simp only [h1, h2] at e; cases e
        obtain ⟨as, bs, rfl, a1, a2⟩ := hd
        exact ⟨as, bs, rfl, ren_dbs hs R h1 a1, ren_dbs hs R h2 a2⟩
  | _ => exact key _ (by intro f a b e; cases e) e
theorem ren_dcs (hs : ∀ b, S b → S' b) (R : Ren γ L sel γ' L') : ∀ {ds' ds : List DV} {vs : List Value}, unCxs sel ds' = some ds → All2 (DC P S γ L h) ds vs → All2 (DC P S' γ' L' h) ds' vs
  | [], _, _, e, hd => by cases e; cases hd; exact .nil
  | d' :: ds', _, _, e, hd => by
    unfold unCxs at e
    cases h1 : unCx sel d' with
    | none => simp only [h1] at e; cases e
    | some d =>
      cases h2 : unCxs sel ds' with
      | none => simp only [h1, h2] at e; cases e
      | some ds =>
        simp only [h1, h2] at e; cases e
        cases hd with
        | cons a b => exact .cons (ren_dc hs R h1 a) (ren_dcs hs R h2 b)
theorem unCx_cell {d d' : DV} (e : unCx sel d' = some d) : (∀ xs, d ≠ .agg xs) ∧ ∀ xs, d ≠ .tup xs := by
  cases d' with
  | fn f pre cap =>
    simp only [unCx] at e
    split at e
    · cases e; exact ⟨fun _ h => (by cases h), fun _ h => (by cases h)⟩
    · cases e
  | agg xs => cases e
  | tup xs => cases e
  | p x => exact (unBx_base (sel := sel) (d' := .p x) e).2
  | ptr x y => exact (unBx_base (sel := sel) (d' := .ptr x y) e).2
  | ep x y z w => exact (unBx_base (sel := sel) (d' := .ep x y z w) e).2
  | dp x y => exact (unBx_base (sel := sel) (d' := .dp x y) e).2
  | ref x y z w => exact (unBx_base (sel := sel) (d' := .ref x y z w) e).2
  | aref x y z => exact (unBx_base (sel := sel) (d' := .aref x y z) e).2
theorem ren_d1 (hs : ∀ b, S b → S' b) (R : Ren γ L sel γ' L') {d' d : DV} {v : Value} (e : un1x sel d' = some d) (hd : D1 P S γ L h d v) : D1 P S' γ' L' h d' v := by
  have key : ∀ d', (∀ xs, d' ≠ .agg xs) → unCx sel d' = some d → D1 P S' γ' L' h d' v := by
    intro d' hn e
    exact d1_of_dc (ren_dc hs R e (dc_of_d1 hd (unCx_cell e).1))
  cases d' with
  | agg xs =>
    simp only [un1x] at e
    cases h1 : unCxs sel xs with
    | none => rw [h1] at e; cases e
    | some ys =>
      rw [h1] at e; cases e
      obtain ⟨vs, rfl, a1⟩ := hd
      exact ⟨vs, rfl, ren_dcs hs R h1 a1⟩
  | _ => exact key _ (by intro xs e; cases e) e
theorem ren_d1s (hs : ∀ b, S b → S' b) (R : Ren γ L sel γ' L') : ∀ {ds' ds : List DV} {vs : List Value}, un1xs sel ds' = some ds → All2 (D1 P S γ L h) ds vs → All2 (D1 P S' γ' L' h) ds' vs
  | [], _, _, e, hd => by cases e; cases hd; exact .nil
  | d' :: ds', _, _, e, hd => by
    unfold un1xs at e
    cases h1 : un1x sel d' with
    | none => simp only [h1] at e; cases e
    | some d =>
      cases h2 : un1xs sel ds' with
      | none => simp only [h1, h2] at e; cases e
      | some ds =>
        simp only [h1, h2] at e; cases e
        cases hd with
        | cons a b => exact .cons (ren_d1 hs R h1 a) (ren_d1s hs R h2 b)
theorem un1x_d1 {d d' : DV} (e : un1x sel d' = some d) : ∀ xs, d ≠ .tup xs := by
  cases d' with
  | agg xs =>
    simp only [un1x] at e
    cases h1 : unCxs sel xs with
    | none => rw [h1] at e; cases e
    | some ys => rw [h1] at e; cases e; exact fun _ h => (by cases h)
  | tup xs => cases e
  | p x => exact (unCx_cell (sel := sel) (d' := .p x) e).2
  | ptr x y => exact (unCx_cell (sel := sel) (d' := .ptr x y) e).2
  | ep x y z w => exact (unCx_cell (sel := sel) (d' := .ep x y z w) e).2
  | dp x y => exact (unCx_cell (sel := sel) (d' := .dp x y) e).2
  | ref x y z w => exact (unCx_cell (sel := sel) (d' := .ref x y z w) e).2
  | aref x y z => exact (unCx_cell (sel := sel) (d' := .aref x y z) e).2
  | fn x y z => exact (unCx_cell (sel := sel) (d' := .fn x y z) e).2
theorem ren_dr (hs : ∀ b, S b → S' b) (R : Ren γ L sel γ' L') {d' d : DV} {v : Value} (e : unDx sel d' = some d) (hd : DR P S γ L h d v) : DR P S' γ' L' h d' v := by
  have key : ∀ d', (∀ xs, d' ≠ .tup xs) → un1x sel d' = some d → DR P S' γ' L' h d' v := by
    intro d' hn e
    have h1 : D1 P S γ L h d v := by
      have := un1x_d1 e
      cases d <;> first | exact hd | exact absurd rfl (this _)
    exact dr_of_d1 (ren_d1 hs R e h1)
  cases d' with
  | tup xs =>
    simp only [unDx] at e
    cases h1 : un1xs sel xs with
    | none => rw [h1] at e; cases e
    | some ys =>
      rw [h1] at e; cases e
      obtain ⟨vs, rfl, a1⟩ := hd
      exact ⟨vs, rfl, ren_d1s hs R h1 a1⟩
  | _ => exact key _ (by intro xs e; cases e) e

/-- An object under other numbers. -/
def unOx (sel : Sel) : Obj → Obj → Prop
  | .st cells, .st cells' => unCxs sel cells = some cells'
  | .li e rows, .li e' rows' => e = e' ∧ rows = rows'
  | .fz e rows, .fz e' rows' => e = e' ∧ rows = rows'
  | .dead, .dead => True
  | _, _ => False
theorem unOx_owns {o' o : Obj} (e : unOx sel o' o) : o'.owns = o.owns := by
  cases o' <;> cases o <;> first | exact e.elim | rfl | (obtain ⟨rfl, rfl⟩ := e; rfl)
theorem unOx_list {o' o : Obj} {rows : List (List PV)} (e : unOx sel o' o) (hl : o'.isList rows) : o.isList rows := by
  cases o' <;> cases o <;> first | exact e.elim | exact hl.elim | (obtain ⟨rfl, rfl⟩ := e; exact hl)
theorem rows_mono (hs : ∀ b, S b → S' b) {b q : Nat} {te : TypeId} {rows : List (List PV)} (hr : Rows P S h b q te rows) : Rows P S' h b q te rows := by
  obtain ⟨cs, z, a1, a2, a3, a4, a5, a6, a7⟩ := hr
  exact ⟨cs, z, a1, a2, a3, a4, a5, a6, fun i r j x u b1 b2 b3 => ren_pr hs (a7 i r j x u b1 b2 b3)⟩
theorem ren_or (hs : ∀ b, S b → S' b) (R : Ren γ L sel γ' L') {i k : Nat} {o' o : Obj} (hi : sel[i]? = some (some k)) (e : unOx sel o' o) (ho : OR P S γ L h k o) : OR P S' γ' L' h i o' := by
  cases o' with
  | st cells =>
    cases o with
    | st cells' =>
      obtain ⟨b, te, vs, g1, g2, g3⟩ := ho
      exact ⟨b, te, vs, (R.at' _ _ hi).trans g1, g2, ren_dcs hs R e g3⟩
    | _ => exact e.elim
  | li te rows =>
    cases o with
    | li te' rows' =>
      obtain ⟨rfl, rfl⟩ := e
      cases te with
      | none => exact ⟨ho.1, (R.at' _ _ hi).trans ho.2⟩
      | some te =>
        obtain ⟨b, q, g1, g2⟩ := ho
        exact ⟨b, q, (R.at' _ _ hi).trans g1, rows_mono hs g2⟩
    | _ => exact e.elim
  | fz te rows =>
    cases o with
    | fz te' rows' =>
      obtain ⟨rfl, rfl⟩ := e
      cases te with
      | none => exact ⟨ho.1, (R.at' _ _ hi).trans ho.2⟩
      | some te =>
        obtain ⟨b, q, g1, g2, g3⟩ := ho
        exact ⟨b, q, (R.at' _ _ hi).trans g1, hs b g2, rows_mono hs g3⟩
    | _ => exact e.elim
  | dead => trivial
end

/-- What becomes of the caller's objects: some were given away, under numbers of their own, and came back. -/
structure Merge (L : List Obj) (sel : List Nat) (A A' : List Obj) (back : Sel) (L2 : List Obj) : Prop where
  len : back.length = L2.length
  le : L.length ≤ L2.length
  kept : ∀ i, i < L.length → i ∉ sel → back[i]? = some none ∧ L2[i]? = L[i]?
  st : ∀ (k i : Nat) (c : List DV), sel[k]? = some i → A[k]? = some (.st c) → back[i]? = some (some k)
  gone : ∀ (k i : Nat), sel[k]? = some i → (∀ c, A[k]? ≠ some (.st c)) → L2[i]? = some .dead ∧ back[i]? = some none
  old : ∀ (i k : Nat), back[i]? = some (some k) → (i ∈ sel ∨ L.length ≤ i) ∧ ∃ o o', A'[k]? = some o ∧ L2[i]? = some o' ∧ unOx back o' o
  new : ∀ i, L.length ≤ i → i < L2.length → ∃ k, back[i]? = some (some k)
  inj : ∀ (i j k : Nat), back[i]? = some (some k) → back[j]? = some (some k) → i = j
section
variable {P : Program} {γ : Pl} {L : List Obj} {h : Heap} {h0 : Heap} {W0 : Ent}
/-- An argument: under its own numbers; a slice of a list that was given up. -/
def argS (P : Program) (L : List Obj) (sel : Sel) : DV → DV → Prop
  | .p (.sl z rows), .ref id lo n tot => (∃ e rs, L[id]? = some (.fz e rs)) ∧ ∃ rs, rowsOf L id tot = some rs ∧ rows = (rs.drop lo).take n ∧ ∀ te, L[id]?.bind listTy = some te → szT P te = some z
  | .p (.sl _ rows), .p (.v (.slice none 0 0)) => rows = []
  | d', d => unDx sel d' = some d
theorem argS_sound {S' : Nat → Prop} {γ' : Pl} {A : List Obj} {sel : Sel} (H : Hp P h0 W0 γ L h) (hs : ∀ b, Free W0 γ L h b → S' b) (R : Ren γ L sel γ' A) {d d' : DV} {v : Value} (e : argS P L sel d' d) (hd : DR P (Free W0 γ L h) γ L h d v) : ∃ u, VW v u ∧ DR P S' γ' A h d' u := by
  unfold argS at e
  split at e
  · rename_i z rows id lo n tot
    obtain ⟨⟨te, rs', e1⟩, rs, e2, rfl, e3⟩ := e
    refine ref_pr H hd e2 e3 (fun b x hg hlt => ?_) hs
    have ho := H.obj id _ e1
    cases te with
    | none => rw [ho.2] at hg; cases hg
    | some te =>
      obtain ⟨b', o', g', hS, _⟩ := ho
      rw [hg] at g'; cases g'
      exact hs b hS
  · subst e
    have : v = .slice none 0 0 := PR.scal (P := P) (S := Free W0 γ L h) (h := h) hd
    subst this
    exact ⟨_, .refl _, PR.nil⟩
  · exact ⟨v, .refl v, ren_dr hs R e hd⟩
theorem argSs_sound {S' : Nat → Prop} {γ' : Pl} {A : List Obj} {sel : Sel} (H : Hp P h0 W0 γ L h) (hs : ∀ b, Free W0 γ L h b → S' b) (R : Ren γ L sel γ' A) : ∀ {ds' ds : List DV} {vs : List Value}, All2 (argS P L sel) ds' ds → All2 (DR P (Free W0 γ L h) γ L h) ds vs → ∃ us, All2 VW vs us ∧ All2 (DR P S' γ' A h) ds' us
  | _, _, _, .nil, .nil => ⟨[], .nil, .nil⟩
  | _, _, _, .cons e t, .cons hd t' => by
    obtain ⟨u, a1, a2⟩ := argS_sound H hs R e hd
    obtain ⟨us, b1, b2⟩ := argSs_sound H hs R t t'
    exact ⟨u :: us, .cons a1 b1, .cons a2 b2⟩
theorem nodup_get : ∀ {l : List Nat}, l.Nodup → ∀ {i j k : Nat}, l[i]? = some k → l[j]? = some k → i = j
  | [], _, i, j, k, e1, _ => by simp at e1
  | a :: l, hn, i, j, k, e1, e2 => by
    obtain ⟨h1, h2⟩ := List.nodup_cons.1 hn
    cases i with
    | zero =>
      cases j with
      | zero => rfl
      | succ j => simp at e1 e2; subst e1; exact absurd (List.mem_of_getElem? e2) h1
    | succ i =>
      cases j with
      | zero => simp at e1 e2; subst e2; exact absurd (List.mem_of_getElem? e1) h1
      | succ j => exact congrArg (· + 1) (nodup_get (k := k) h2 (by simpa using e1) (by simpa using e2))
/-- A call, and what it leaves as it was. -/
def DCallWF (P : Program) (f : FuncId) (ds : List DV) (L : List Obj) (wr : List Nat) (K : DV → List Obj → Prop) : Prop :=
  ∀ h0 W0 γ h vs, Hp P h0 W0 γ L h → All2 (DR P (Free W0 γ L h) γ L h) ds vs → ADoes P f vs h (fun v h' => Aft P h0 W0 γ L h K v h' ∧ ∀ b, b < h.next → (∀ i ∈ wr, ∀ x, γ i ≠ some (b, x)) → h'.get b = h.get b)
theorem DCallWF.weak {f : FuncId} {ds : List DV} {wr : List Nat} {K : DV → List Obj → Prop} (h : DCallWF P f ds L wr K) : DCallW P f ds L K := fun h0 W0 γ hh vs H hr => (h h0 W0 γ hh vs H hr).mono fun _ _ q => q.1
theorem dcall_objF {f : FuncId} {ds ds' : List DV} {A : List Obj} {K : DV → List Obj → Prop} {Q : DV → List Obj → Prop} (sel : List Nat) (hc : DCalls P f ds' A Q) (hnd : sel.Nodup) (hA : All2 (fun o' (i : Nat) => ∃ o, L[i]? = some o ∧ unOx (sel.map some) o' o) A sel) (ha : All2 (argS P L (sel.map some)) ds' ds)
    (hq : ∀ r A', Q r A' → ∃ back L2 r', Merge L sel A A' back L2 ∧ unDx back r' = some r ∧ K r' L2) : DCallWF P f ds L sel K := by
  intro h0 W0 γ h vs H hr
  have hlen : A.length = sel.length := hA.length
  let γA : Pl := fun i => (sel[i]?).bind γ
  have hat : ∀ (i k : Nat), (sel.map some)[i]? = some (some k) ↔ sel[i]? = some k := fun i k => by
    rw [List.getElem?_map]
    cases sel[i]? <;> simp
  have hobj : ∀ {i : Nat} {o' : Obj}, A[i]? = some o' → ∃ k o, sel[i]? = some k ∧ L[k]? = some o ∧ unOx (sel.map some) o' o := fun {i o'} e => by
    obtain ⟨k, e1, o, e2, e3⟩ := hA.get e
    exact ⟨k, o, e1, e2, e3⟩
  have hγA : ∀ {i k : Nat}, sel[i]? = some k → γA i = γ k := fun {i k} e => by show (sel[i]?).bind γ = γ k; rw [e]; rfl
  have hinj : ∀ {i j k : Nat}, sel[i]? = some k → sel[j]? = some k → i = j := fun {i j k} e1 e2 => by
    have hi := (List.getElem?_eq_some_iff.1 e1).1
    have hj := (List.getElem?_eq_some_iff.1 e2).1
    exact nodup_get hnd e1 e2
  have R : Ren γ L (sel.map some) γA A := by
    refine ⟨fun i k e => hγA ((hat i k).1 e), fun i k e => by have := (List.getElem?_eq_some_iff.1 e).1; rw [List.length_map] at this; omega, fun i k c e e2 => ?_, fun i k o' rows e e2 e3 => ?_⟩
    · have e' := (hat i k).1 e
      have hi : i < A.length := by have := (List.getElem?_eq_some_iff.1 e').1; omega
      obtain ⟨k', o, e3, e4, e5⟩ := hobj (List.getElem?_eq_getElem hi)
      rw [e'] at e3; cases e3
      rw [e2] at e4; cases e4
      rw [List.getElem?_eq_getElem hi]
      cases hA' : A[i] <;> rw [hA'] at e5 <;> first | exact ⟨_, rfl⟩ | exact e5.elim
    · have e' := (hat i k).1 e
      obtain ⟨k', o, e4, e5, e6⟩ := hobj e2
      rw [e'] at e4; cases e4
      exact ⟨o, e5, unOx_list e6 e3⟩
  let Wn : Nat → Prop := fun b => ∃ i o x, A[i]? = some o ∧ o.owns = true ∧ γA i = some (b, x)
  let W1 : Ent := { start := h.next, W := Wn, A := fun b => Free W0 γ L h b ∨ Wn b, pin := fun i b => γA i = some (b, 0) ∧ ∃ c, A[i]? = some (.st c), cnt := A.length, few := fun i b e => (by
      obtain ⟨_, c, hc⟩ := e
      exact (List.getElem?_eq_some_iff.1 hc).1), sub := fun b e => .inr e }
  have hWn : ∀ {b}, Wn b → ∃ k o x i, sel[i]? = some k ∧ L[k]? = some o ∧ o.owns = true ∧ γ k = some (b, x) ∧ (∃ o', A[i]? = some o') := fun {b} ⟨i, o', x, e1, e2, e3⟩ => by
    obtain ⟨k, o, e4, e5, e6⟩ := hobj e1
    exact ⟨k, o, x, i, e4, e5, by rw [← unOx_owns e6]; exact e2, by rw [← hγA e4]; exact e3, o', e1⟩
  have hS : ∀ b, Free W0 γ L h b → Free W1 γA A h b := fun b hb => by
    refine ⟨hb.1, .inr (.inl hb), fun i o' x e1 e2 e3 => ?_⟩
    obtain ⟨k, o, e4, e5, e6⟩ := hobj e1
    rw [hγA e4] at e3
    exact hb.2.2 k o x e5 (by rw [← unOx_owns e6]; exact e2) e3
  have hlt : ∀ {k : Nat} {o : Obj} {b x : Nat}, L[k]? = some o → o.owns = true → γ k = some (b, x) → b < h.next := fun {k o b x} e e2 e3 => (OR.lt (fun b hb => hb.1) (H.obj k o e) e3 e2).1
  have HA : Hp P h W1 γA A h := by
    refine ⟨rfl, fun i b e => e, fun i o' e => ?_, fun i j o1 o2 b x x' e1 e2 d1 d2 g1 g2 => ?_, fun i x e => ?_, fun i o' b x e d g => .inr ⟨i, o', x, e, d, g⟩, Nat.le_refl _, fun _ _ _ => rfl⟩
    · obtain ⟨k, o, e4, e5, e6⟩ := hobj e
      exact ren_or hS R ((hat i k).2 e4) e6 (H.obj k o e5)
    · obtain ⟨k1, q1, a1, a2, a3⟩ := hobj e1
      obtain ⟨k2, q2, b1, b2, b3⟩ := hobj e2
      rw [hγA a1] at g1
      rw [hγA b1] at g2
      have := H.inj k1 k2 q1 q2 b x x' a2 b2 (by rw [← unOx_owns a3]; exact d1) (by rw [← unOx_owns b3]; exact d2) g1 g2
      subst this
      exact hinj a1 b1
    · have e' : (sel[i]?).bind γ = some x := e
      cases hi : sel[i]? with
      | none => rw [hi] at e'; cases e'
      | some k => have := (List.getElem?_eq_some_iff.1 hi).1; omega
  obtain ⟨us, hw, hu⟩ := argSs_sound (S' := Free W1 γA A h) H hS R ha hr
  refine ADoes.of (ACalls.args hw ((hc W1 γA h us (Nat.le_refl _) HA hu).mono ?_))
  rintro v h' ⟨γ2, r, A', q, H2, hd⟩
  obtain ⟨back, L2, r', M, hr', hK⟩ := hq r A' q
  let γ3 : Pl := fun i => match back[i]? with
    | some (some k) => γ2 k
    | _ => if i ∈ sel then none else γ i
  have h3b : ∀ {i k : Nat}, back[i]? = some (some k) → γ3 i = γ2 k := fun {i k} e => by show (match back[i]? with | some (some k) => γ2 k | _ => _) = _; rw [e]
  have h3k : ∀ {i : Nat}, i < L.length → i ∉ sel → γ3 i = γ i := fun {i} h1 h2 => by show (match back[i]? with | some (some k) => γ2 k | _ => _) = _; rw [(M.kept i h1 h2).1]; simp [h2]
  have hn : h.next ≤ h'.next := H2.next
  have hfr : ∀ b, b < h.next → ¬ Wn b → h'.get b = h.get b := fun b hb hw => H2.frame b hb hw
  -- what the caller's own objects own is not what was given away
  have hown : ∀ {i : Nat} {o : Obj} {b x : Nat}, L[i]? = some o → i ∉ sel → o.owns = true → γ i = some (b, x) → b < h.next ∧ ¬ Wn b := fun {i o b x} e1 e2 e3 e4 => by
    refine ⟨hlt e1 e3 e4, fun hw => ?_⟩
    obtain ⟨k, o', x', j, f1, f2, f3, f4, _⟩ := hWn hw
    have := H.inj i k o o' b x x' e1 f2 e3 f3 e4 f4
    subst this
    exact e2 (List.mem_of_getElem? f1)
  -- what came back owns
  have hback : ∀ {i : Nat} {o' : Obj} {k : Nat}, L2[i]? = some o' → back[i]? = some (some k) → o'.owns = true → ∃ o : Obj, A'[k]? = some o ∧ o.owns = true := fun {i o' k} e1 e2 e3 => by
    obtain ⟨_, o, o2, f1, f2, f3⟩ := M.old i k e2
    rw [e1] at f2; cases f2
    exact ⟨o, f1, by rw [← unOx_owns f3]; exact e3⟩
  -- every object of the new list
  have hcase : ∀ {i : Nat} {o' : Obj}, L2[i]? = some o' → (i < L.length ∧ i ∉ sel ∧ L[i]? = some o') ∨ (∃ k, back[i]? = some (some k)) ∨ o' = .dead := fun {i o'} e => by
    by_cases h1 : i < L.length
    · by_cases h2 : i ∈ sel
      · obtain ⟨k, hk⟩ := List.mem_iff_getElem?.1 h2
        have hkA : k < A.length := by rw [hlen]; exact (List.getElem?_eq_some_iff.1 hk).1
        by_cases h3 : ∃ c, A[k]? = some (.st c)
        · obtain ⟨c, h3⟩ := h3
          exact .inr (.inl ⟨k, M.st k i c hk h3⟩)
        · have := (M.gone k i hk fun c hc => h3 ⟨c, hc⟩).1
          rw [e] at this; cases this
          exact .inr (.inr rfl)
      · exact .inl ⟨h1, h2, by rw [← (M.kept i h1 h2).2]; exact e⟩
    · exact .inr (.inl (M.new i (by omega) (List.getElem?_eq_some_iff.1 e).1))
  have hSf : ∀ b, Free W1 γ2 A' h' b → Free W0 γ3 L2 h' b := fun b hb => by
    obtain ⟨c1, c2, c3⟩ := hb
    refine ⟨c1, ?_, fun i o' x e1 e2 e3 => ?_⟩
    · rcases c2 with c2 | c2 | c2
      · have c2' : h.next ≤ b := c2
        exact .inl (by rw [H.start]; exact Nat.le_trans H.next c2')
      · exact c2.2.1
      · obtain ⟨k, o, x, i, f1, f2, f3, f4, _⟩ := hWn c2
        exact H.allowed f2 f3 f4
    · rcases hcase e1 with ⟨g1, g2, g3⟩ | ⟨k, g⟩ | rfl
      · rw [h3k g1 g2] at e3
        have := hown g3 g2 e2 e3
        rcases c2 with c2 | c2 | c2
        · have c2' : h.next ≤ b := c2
          omega
        · exact c2.2.2 i o' x g3 e2 e3
        · exact this.2 c2
      · obtain ⟨o, f1, f2⟩ := hback e1 g e2
        rw [h3b g] at e3
        exact c3 k o x f1 f2 e3
      · cases e2
  have c : Carry W0 γ L h γ3 L2 h' := by
    refine ⟨fun b hb => ?_, M.le, fun i b e ⟨c, hc⟩ => ?_, fun i o' rows' hi e hl => ?_⟩
    · have hnw : ¬ Wn b := fun hw => by
        obtain ⟨k, o, x, i, f1, f2, f3, f4, _⟩ := hWn hw
        exact hb.2.2 k o x f2 f3 f4
      refine ⟨⟨Nat.lt_of_lt_of_le hb.1 hn, hb.2.1, fun i o' x e1 e2 e3 => ?_⟩, hfr b hb.1 hnw⟩
      rcases hcase e1 with ⟨g1, g2, g3⟩ | ⟨k, g⟩ | rfl
      · rw [h3k g1 g2] at e3
        exact hb.2.2 i o' x g3 e2 e3
      · obtain ⟨o, f1, f2⟩ := hback e1 g e2
        rw [h3b g] at e3
        rcases H2.new k o b x f1 f2 e3 with q | q
        · have := hb.1; omega
        · exact hnw q
      · cases e2
    · have hiL : i < L.length := (List.getElem?_eq_some_iff.1 hc).1
      by_cases h2 : i ∈ sel
      · obtain ⟨k, hk⟩ := List.mem_iff_getElem?.1 h2
        have hkA : k < A.length := by rw [hlen]; exact (List.getElem?_eq_some_iff.1 hk).1
        obtain ⟨k', o, f1, f2, f3⟩ := hobj (List.getElem?_eq_getElem hkA)
        rw [hk] at f1; cases f1
        rw [hc] at f2; cases f2
        have hst : ∃ c', A[k]? = some (.st c') := by
          rw [List.getElem?_eq_getElem hkA]
          cases hA' : A[k] <;> rw [hA'] at f3 <;> first | exact ⟨_, rfl⟩ | exact f3.elim
        obtain ⟨c', hc'⟩ := hst
        have hb := M.st k i c' hk hc'
        have hp := H2.pin k b ⟨by rw [hγA hk]; exact e, c', hc'⟩
        refine ⟨(h3b hb).trans hp.1, ?_⟩
        obtain ⟨c2, hc2⟩ := hp.2
        obtain ⟨_, o, o2, g1, g2, g3⟩ := M.old i k hb
        rw [hc2] at g1; cases g1
        rw [g2]
        cases o2 <;> first | exact ⟨_, rfl⟩ | exact g3.elim
      · exact ⟨(h3k hiL h2).trans e, c, by rw [(M.kept i hiL h2).2]; exact hc⟩
    · rcases hcase e with ⟨g1, g2, g3⟩ | ⟨k, g⟩ | rfl
      · exact ⟨o', rows', g3, hl, Nat.le_refl _, fun _ => ⟨h3k g1 g2, fun _ hz => hz⟩⟩
      · exfalso
        have h2 : i ∈ sel := by
          rcases (M.old i k g).1 with q | q
          · exact q
          · omega
        obtain ⟨k2, hk2⟩ := List.mem_iff_getElem?.1 h2
        have hkA : k2 < A.length := by rw [hlen]; exact (List.getElem?_eq_some_iff.1 hk2).1
        by_cases h3 : ∃ c, A[k2]? = some (.st c)
        · obtain ⟨c, h3⟩ := h3
          have hb := M.st k2 i c hk2 h3
          rw [g] at hb; cases hb
          -- a struct stays a struct
          obtain ⟨k', o, f1, f2, f3⟩ := hobj h3
          rw [hk2] at f1; cases f1
          cases o with
          | st c0 =>
            have ho := H.obj i _ f2
            obtain ⟨b, te, vs, p1, _⟩ := ho
            have hp := H2.pin k b ⟨by rw [hγA hk2]; exact p1, c, h3⟩
            obtain ⟨c2, hc2⟩ := hp.2
            obtain ⟨_, o3, o4, m1, m2, m3⟩ := M.old i k g
            rw [hc2] at m1; cases m1
            rw [e] at m2; cases m2
            cases o' <;> first | exact m3.elim | exact hl.elim
          | _ => exact f3.elim
        · have := (M.gone k2 i hk2 fun c hc => h3 ⟨c, hc⟩).2
          rw [g] at this; cases this
      · exact hl.elim
  have R2 : Ren γ2 A' back γ3 L2 := by
    refine ⟨fun i k e => h3b e, fun i k e => by rw [← M.len]; exact (List.getElem?_eq_some_iff.1 e).1, fun i k c e e2 => ?_, fun i k o' rows e e2 e3 => ?_⟩
    · obtain ⟨_, o, o2, f1, f2, f3⟩ := M.old i k e
      rw [e2] at f1; cases f1
      rw [f2]
      cases o2 <;> first | exact ⟨_, rfl⟩ | exact f3.elim
    · obtain ⟨_, o, o2, f1, f2, f3⟩ := M.old i k e
      rw [e2] at f2; cases f2
      exact ⟨o, f1, unOx_list f3 e3⟩
  refine ⟨⟨γ3, r', L2, hK, ?_, c, ren_dr hSf R2 hr' hd⟩, fun b hb hne => hfr b hb fun ⟨i, o, x, e1, e2, e3⟩ => by
    have e3' : (sel[i]?).bind γ = some (b, x) := e3
    cases hi : sel[i]? with
    | none => rw [hi] at e3'; cases e3'
    | some k => rw [hi] at e3'; exact hne k (List.mem_of_getElem? hi) x e3'⟩
  refine ⟨H.start, fun i b e => ?_, fun i o' e => ?_, fun i j o1 o2 b x x' e1 e2 d1 d2 g1 g2 => ?_, fun i x e => ?_, fun i o' b x e d g => ?_, Nat.le_trans H.next hn, fun b hb hw => ?_⟩
  · obtain ⟨p1, p2⟩ := H.pin i b e
    exact c.st i b p1 p2
  · rcases hcase e with ⟨g1, g2, g3⟩ | ⟨k, g⟩ | rfl
    · exact H.others c g3 (h3k g1 g2) fun b x hg hd => by
        obtain ⟨q1, q2⟩ := hown g3 g2 hd hg
        exact hfr b q1 q2
    · obtain ⟨_, o, o2, f1, f2, f3⟩ := M.old i k g
      rw [e] at f2; cases f2
      exact ren_or hSf R2 g f3 (H2.obj k o f1)
    · trivial
  · have side : ∀ {i j : Nat} {o1 o2 : Obj} {b x x' k : Nat}, L2[i]? = some o1 → L2[j]? = some o2 → o1.owns = true → o2.owns = true → γ3 i = some (b, x) → γ3 j = some (b, x') → (i < L.length ∧ i ∉ sel ∧ L[i]? = some o1) → back[j]? = some (some k) → False := by
      intro i j o1 o2 b x x' k e1 e2 d1 d2 g1 g2 hi hj
      obtain ⟨i1, i2, i3⟩ := hi
      rw [h3k i1 i2] at g1
      obtain ⟨q1, q2⟩ := hown i3 i2 d1 g1
      obtain ⟨o, f1, f2⟩ := hback e2 hj d2
      rw [h3b hj] at g2
      rcases H2.new k o b x' f1 f2 g2 with q | q
      · omega
      · exact q2 q
    rcases hcase e1 with c1 | ⟨k1, c1⟩ | rfl <;> rcases hcase e2 with c2 | ⟨k2, c2⟩ | rfl
    · obtain ⟨i1, i2, i3⟩ := c1
      obtain ⟨j1, j2, j3⟩ := c2
      rw [h3k i1 i2] at g1
      rw [h3k j1 j2] at g2
      exact H.inj i j o1 o2 b x x' i3 j3 d1 d2 g1 g2
    · exact (side e1 e2 d1 d2 g1 g2 c1 c2).elim
    · cases d2
    · exact (side e2 e1 d2 d1 g2 g1 c2 c1).elim
    · obtain ⟨q1, f1, f2⟩ := hback e1 c1 d1
      obtain ⟨q2, m1, m2⟩ := hback e2 c2 d2
      rw [h3b c1] at g1
      rw [h3b c2] at g2
      have := H2.inj k1 k2 q1 q2 b x x' f1 m1 f2 m2 g1 g2
      subst this
      exact M.inj i j k1 c1 c2
    · cases d2
    · cases d1
    · cases d1
    · cases d1
  · rw [← M.len]
    have e' : (match back[i]? with | some (some k) => γ2 k | _ => if i ∈ sel then none else γ i) = some x := e
    split at e'
    · rename_i k hk; exact (List.getElem?_eq_some_iff.1 hk).1
    · split at e'
      · cases e'
      · have := H.dom i x e'
        rw [M.len]; exact Nat.lt_of_lt_of_le this M.le
  · rcases hcase e with ⟨g1, g2, g3⟩ | ⟨k, g'⟩ | rfl
    · rw [h3k g1 g2] at g
      exact H.new i o' b x g3 d g
    · obtain ⟨o, f1, f2⟩ := hback e g' d
      rw [h3b g'] at g
      rcases H2.new k o b x f1 f2 g with q | q
      · exact .inl (Nat.le_trans H.next q)
      · obtain ⟨k, o, x, j, f1, f2, f3, f4, _⟩ := hWn q
        exact H.new k o b x f2 f3 f4
    · cases d
  · by_cases hwn : Wn b
    · obtain ⟨k, o, x, j, f1, f2, f3, f4, _⟩ := hWn hwn
      rcases H.new k o b x f2 f3 f4 with q | q
      · omega
      · exact absurd q hw
    · rw [hfr b (Nat.lt_of_lt_of_le hb H.next) hwn]; exact H.frame b hb hw
/-- One that answers scalars changes nothing. -/
theorem dcall_scalF {f : FuncId} {ds ds' : List DV} {K : DV → List Obj → Prop} {Q : DV → List Obj → Prop} (hc : DCalls P f ds' [] Q) (ha : All2 (arg1 P L true) ds' ds) (hq : ∀ r A', Q r A' → A' = [] ∧ scalD r = true ∧ K r L) : DCallWF P f ds L [] K := by
  intro h0 W0 γ h vs H hr
  let W1 : Ent := { start := h.next, W := fun _ => False, A := fun _ => True, pin := fun _ _ => False, cnt := 0, few := fun _ _ e => e.elim, sub := fun _ e => e.elim }
  have hS : ∀ b, b < h.next → Free W1 noPl [] h b := fun b hb => ⟨hb, .inr trivial, fun id o x e => by simp at e⟩
  obtain ⟨us, hw, hu⟩ := args_sound (S' := Free W1 noPl [] h) H (fun b hb => hS b hb.1) (fun _ => hS) ha hr
  refine ADoes.of (ACalls.args hw ((hc W1 noPl h us (Nat.le_refl _) (hp_none W1 h rfl fun _ _ e => e) hu).mono ?_))
  rintro v h' ⟨γ', r, A', q, H', hd⟩
  obtain ⟨rfl, hsc, hK⟩ := hq r A' q
  have hg : ∀ b, b < h.next → h'.get b = h.get b := fun b hb => H'.frame b hb (fun e => e)
  obtain ⟨H2, c⟩ := H.grow H'.next hg
  exact ⟨⟨γ, r, L, hK, H2, c, scal_free hsc hd⟩, fun b hb _ => hg b hb⟩
end
end Go.Sim

namespace Go.Sim
open Go.RowKit
theorem freeB {s : Sel} {d d' : DV} (e : unBx [] d = some d') : d' = d ∧ unBx s d = some d := by
  cases d <;> (simp only [unBx, unB, List.getElem?_nil] at e) <;> (try cases e) <;> exact ⟨rfl, rfl⟩
theorem freeBs {s : Sel} : ∀ {ds ds' : List DV}, unBxs [] ds = some ds' → ds' = ds ∧ unBxs s ds = some ds
  | [], _, e => by cases e; exact ⟨rfl, rfl⟩
  | d :: ds, _, e => by
    unfold unBxs at e
    cases h1 : unBx [] d with
    | none => simp only [h1] at e; cases e
    | some x =>
      cases h2 : unBxs [] ds with
      | none => simp only [h1, h2] at e; cases e
      | some y =>
        simp only [h1, h2] at e; cases e
        obtain ⟨rfl, a1⟩ := freeB (s := s) h1
        obtain ⟨rfl, a2⟩ := freeBs (s := s) h2
        exact ⟨rfl, by simp only [unBxs, a1, a2]⟩
theorem freeC {s : Sel} {d d' : DV} (e : unCx [] d = some d') : d' = d ∧ unCx s d = some d := by
  cases d with
  | fn f a b =>
    simp only [unCx] at e
    cases h1 : unBxs [] a with
    | none => simp only [h1] at e; cases e
    | some x =>
      cases h2 : unBxs [] b with
      | none => simp only [h1, h2] at e; cases e
      | some y =>
        simp only [h1, h2] at e; cases e
        obtain ⟨rfl, a1⟩ := freeBs (s := s) h1
        obtain ⟨rfl, a2⟩ := freeBs (s := s) h2
        exact ⟨rfl, by simp only [unCx, a1, a2]⟩
  | p x => exact freeB (s := s) (d := .p x) e
  | ptr x y => exact freeB (s := s) (d := .ptr x y) e
  | ep x y z w => exact freeB (s := s) (d := .ep x y z w) e
  | dp x y => exact freeB (s := s) (d := .dp x y) e
  | ref x y z w => exact freeB (s := s) (d := .ref x y z w) e
  | aref x y z => exact freeB (s := s) (d := .aref x y z) e
  | agg xs => cases e
  | tup xs => cases e
section
variable {P : Program} {L : List Obj}
/-- A call that is handed nothing but scalars and slices, and answers just one thing. -/
theorem DCalls.mono {f : FuncId} {ds : List DV} {A : List Obj} {Q Q' : DV → List Obj → Prop} (hc : DCalls P f ds A Q) (hq : ∀ r A', Q r A' → Q' r A') : DCalls P f ds A Q' := fun W0 γ h vs h1 H hr => (hc W0 γ h vs h1 H hr).mono fun v h' ⟨γ', r, A', q, x, y⟩ => ⟨γ', r, A', hq _ _ q, x, y⟩
end
def mrgO (L : List Obj) (sel : List Nat) (A' : List Obj) (back : Sel) (i : Nat) (o' : Obj) : Prop := match back[i]? with
  | some (some k) => (sel.contains i = true ∨ L.length ≤ i) ∧ match A'[k]? with
    | some o => unOx back o' o
    | none => False
  | some none => i < L.length ∧ if sel.contains i = true then o' = .dead else L[i]? = some o'
  | none => False
def mrgL (L : List Obj) (sel : List Nat) (A' : List Obj) (back : Sel) : Nat → List Obj → Prop
  | _, [] => True
  | i, o' :: r => mrgO L sel A' back i o' ∧ mrgL L sel A' back (i + 1) r
def mrgS (back : Sel) : Nat → List Obj → List Nat → Prop
  | k, .st _ :: A, i :: sel => back[i]? = some (some k) ∧ mrgS back (k + 1) A sel
  | k, _ :: A, i :: sel => back[i]? = some none ∧ mrgS back (k + 1) A sel
  | _, _, _ => True
theorem mrgL_get {L : List Obj} {sel : List Nat} {A' : List Obj} {back : Sel} : ∀ {n : Nat} {l : List Obj}, mrgL L sel A' back n l → ∀ {i : Nat} {o' : Obj}, l[i]? = some o' → mrgO L sel A' back (n + i) o'
  | n, [], _, i, o', e => by simp at e
  | n, o :: l, h, i, o', e => by
    cases i with
    | zero => simp at e; subst e; exact h.1
    | succ i => have := mrgL_get h.2 (i := i) (by simpa using e); rwa [show n + 1 + i = n + (i + 1) by omega] at this
theorem mrgS_get {back : Sel} : ∀ {n : Nat} {A : List Obj} {sel : List Nat}, mrgS back n A sel → ∀ {k i : Nat} {o : Obj}, sel[k]? = some i → A[k]? = some o → back[i]? = some (match o with | .st _ => some (n + k) | _ => none)
  | n, [], _, _, k, i, o, _, e => by simp at e
  | n, a :: A, [], _, k, i, o, e, _ => by simp at e
  | n, a :: A, s :: sel, h, k, i, o, e1, e2 => by
    have hs : (∀ (o : Obj), o = a → back[s]? = some (match o with | .st _ => some n | _ => none)) ∧ mrgS back (n + 1) A sel := by
      refine ⟨fun o e => ?_, ?_⟩
      · subst e; cases o <;> exact h.1
      · cases a <;> exact h.2
    cases k with
    | zero => simp at e1 e2; subst e1; subst e2; rw [Nat.add_zero]; exact hs.1 _ rfl
    | succ k => rw [mrgS_get hs.2 (k := k) (i := i) (o := o) (by simpa using e1) (by simpa using e2), show n + 1 + k = n + (k + 1) by omega]
theorem sel_inj {sel : Sel} (hn : (sel.filterMap id).Nodup) : ∀ (i j k : Nat), sel[i]? = some (some k) → sel[j]? = some (some k) → i = j := by
  intro i j k e1 e2
  induction sel generalizing i j with
  | nil => simp at e1
  | cons s sel ih =>
    have hmem : ∀ (m : Nat), sel[m]? = some (some k) → k ∈ sel.filterMap id := fun m e => List.mem_filterMap.2 ⟨some k, List.mem_of_getElem? e, rfl⟩
    have hn' : (sel.filterMap id).Nodup := by
      cases s with
      | none => simpa using hn
      | some q => rw [List.filterMap_cons_some (by rfl)] at hn; exact (List.nodup_cons.1 hn).2
    have hno : ∀ m, s = some k → sel[m]? = some (some k) → False := fun m e e' => by
      subst e
      rw [List.filterMap_cons_some (by rfl)] at hn
      exact (List.nodup_cons.1 hn).1 (hmem m e')
    cases i with
    | zero =>
      cases j with
      | zero => rfl
      | succ j => exact (hno j (by simpa using e1) (by simpa using e2)).elim
    | succ i =>
      cases j with
      | zero => exact (hno i (by simpa using e2) (by simpa using e1)).elim
      | succ j => exact congrArg (· + 1) (ih hn' i j (by simpa using e1) (by simpa using e2))
theorem Merge.of {L : List Obj} {sel : List Nat} {A A' : List Obj} {back : Sel} {L2 : List Obj} (h1 : back.length = L2.length) (h2 : L.length ≤ L2.length) (h3 : mrgL L sel A' back 0 L2) (h4 : mrgS back 0 A sel) (h5 : (back.filterMap id).Nodup) (h6 : A.length = sel.length) : Merge L sel A A' back L2 := by
  have at' : ∀ {i : Nat}, i < L2.length → ∃ o', L2[i]? = some o' ∧ mrgO L sel A' back i o' := fun {i} hi => ⟨_, List.getElem?_eq_getElem hi, by have := mrgL_get h3 (List.getElem?_eq_getElem hi); rwa [Nat.zero_add] at this⟩
  refine ⟨h1, h2, fun i hi hn => ?_, fun k i c e1 e2 => ?_, fun k i e1 e2 => ?_, fun i k e => ?_, fun i hi hi2 => ?_, sel_inj h5⟩
  · obtain ⟨o', e, hm⟩ := at' (show i < L2.length by omega)
    have hc : sel.contains i = false := by simpa using hn
    unfold mrgO at hm
    split at hm
    · rename_i k hk
      rcases hm.1 with q | q
      · rw [hc] at q; cases q
      · omega
    · rename_i hk
      rw [if_neg (by rw [hc]; simp)] at hm
      exact ⟨hk, e.trans hm.2.symm⟩
    · exact hm.elim
  · have := mrgS_get h4 e1 e2
    rw [Nat.zero_add] at this
    exact this
  · have hk : k < A.length := by rw [h6]; exact (List.getElem?_eq_some_iff.1 e1).1
    have hb := mrgS_get h4 e1 (List.getElem?_eq_getElem hk)
    have hb' : back[i]? = some none := by
      cases ho : A[k] with
      | st c => exact absurd (by rw [List.getElem?_eq_getElem hk, ho]) (e2 c)
      | li => rw [ho] at hb; exact hb
      | fz => rw [ho] at hb; exact hb
      | dead => rw [ho] at hb; exact hb
    have hi : i < L2.length := by rw [← h1]; exact (List.getElem?_eq_some_iff.1 hb').1
    obtain ⟨o', e, hm⟩ := at' hi
    unfold mrgO at hm
    rw [hb'] at hm
    have hc : sel.contains i = true := by simpa using List.mem_of_getElem? e1
    rw [if_pos hc] at hm
    exact ⟨by rw [e, hm.2], hb'⟩
  · have hi : i < L2.length := by rw [← h1]; exact (List.getElem?_eq_some_iff.1 e).1
    obtain ⟨o', e', hm⟩ := at' hi
    unfold mrgO at hm
    rw [e] at hm
    obtain ⟨m1, m2⟩ := hm
    refine ⟨m1.imp_left (by simp), ?_⟩
    split at m2
    · rename_i o ho; exact ⟨o, o', ho, e', m2⟩
    · exact m2.elim
  · obtain ⟨o', e', hm⟩ := at' hi2
    unfold mrgO at hm
    split at hm
    · rename_i k hk; exact ⟨k, hk⟩
    · omega
    · exact hm.elim
end Go.Sim

set_option maxRecDepth 100000
namespace Go.Sim
theorem ite_dec_and (p q : Prop) {dp : Decidable p} {dq : Decidable q} : (if @decide p dp = true then @decide q dq else false) = decide (p ∧ q) := by
  by_cases hp : p <;> simp [hp]
theorem ite_dec_or (p q : Prop) {dp : Decidable p} {dq : Decidable q} : (if @decide p dp = true then true else @decide q dq) = decide (p ∨ q) := by
  by_cases hp : p <;> simp [hp]
theorem ite_dec_nand (p q : Prop) {dp : Decidable p} {dq : Decidable q} : (if @decide p dp = true then false else @decide q dq) = decide (¬ p ∧ q) := by
  by_cases hp : p <;> simp [hp]
theorem ite_dec_id (p : Prop) {dp : Decidable p} : (if @decide p dp = true then true else false) = decide p := by
  by_cases hp : p <;> simp [hp]
attribute [push_cast] Classical.not_not ite_dec_and ite_dec_or ite_dec_nand ite_dec_id
end Go.Sim

namespace Go.Sim
open Go.RowKit

/-- The type of a row of cells. -/
inductive CT where
  | int (k : IntKind)
  | bool
  | str
  | sl (r : CT)
  | pair (a b : CT)
def CT.T : CT → Type
  | .int _ => Int
  | .bool => Bool
  | .str => ByteArray
  | .sl r => List (CT.T r)
  | .pair a b => CT.T a × CT.T b
def CT.size : CT → Nat
  | .pair a b => a.size + b.size
  | _ => 1
def CT.eqb : CT → CT → Bool
  | .int k, .int k' => decide (k = k')
  | .bool, .bool => true
  | .str, .str => true
  | .sl a, .sl b => CT.eqb a b
  | .pair a b, .pair a' b' => CT.eqb a a' && CT.eqb b b'
  | _, _ => false
theorem CT.of_eqb : ∀ {a b : CT}, CT.eqb a b = true → a = b
  | .int k, .int k', h => by simp [CT.eqb] at h; rw [h]
  | .bool, .bool, _ => rfl
  | .str, .str, _ => rfl
  | .sl a, .sl b, h => by rw [CT.of_eqb (a := a) (b := b) h]
  | .pair a b, .pair a' b', h => by
    simp only [CT.eqb, Bool.and_eq_true] at h
    rw [CT.of_eqb h.1, CT.of_eqb h.2]
  | .int _, .bool, h => by cases h
  | .int _, .str, h => by cases h
  | .int _, .sl _, h => by cases h
  | .int _, .pair _ _, h => by cases h
  | .bool, .int _, h => by cases h
  | .bool, .str, h => by cases h
  | .bool, .sl _, h => by cases h
  | .bool, .pair _ _, h => by cases h
  | .str, .int _, h => by cases h
  | .str, .bool, h => by cases h
  | .str, .sl _, h => by cases h
  | .str, .pair _ _, h => by cases h
  | .sl _, .int _, h => by cases h
  | .sl _, .bool, h => by cases h
  | .sl _, .str, h => by cases h
  | .sl _, .pair _ _, h => by cases h
  | .pair _ _, .int _, h => by cases h
  | .pair _ _, .bool, h => by cases h
  | .pair _ _, .str, h => by cases h
  | .pair _ _, .sl _, h => by cases h
theorem CT.size_pos : ∀ c : CT, 0 < c.size
  | .int _ => Nat.one_pos
  | .bool => Nat.one_pos
  | .str => Nat.one_pos
  | .sl _ => Nat.one_pos
  | .pair a _ => Nat.lt_of_lt_of_le (CT.size_pos a) (Nat.le_add_right _ _)
/-- The cells of a typed row. -/
def encC : (c : CT) → c.T → List PV
  | .int k, n => [.v (.int k n)]
  | .bool, b => [.v (.bool b)]
  | .str, s => [.v (.string s)]
  | .sl r, xs => [.sl r.size (List.map (encC r) xs)]
  | .pair a b, x => encC a x.1 ++ encC b x.2
theorem encC_len : ∀ (c : CT) (x : c.T), (encC c x).length = c.size
  | .int _, _ => rfl
  | .bool, _ => rfl
  | .str, _ => rfl
  | .sl _, _ => rfl
  | .pair a b, x => by simp only [encC, CT.size, List.length_append, encC_len a, encC_len b]

inductive TV where
  | v (x : Value)
  | sl (c : CT) (xs : List c.T)
  | ptr (id off : Nat)
  | ep (id i off tot : Nat)
  | dp (c : CT) (x : c.T) (off : Nat)
  | ref (id tot : Nat)
  | part (id lo n tot : Nat)
  | aref (id off n : Nat)
  | fn (f : FuncId) (pre cap : List TV)
  | agg (xs : List TV)
  | tup (xs : List TV)
/-- One that holds no other. -/
def encB : TV → DV
  | .v x => .p (.v x)
  | .sl c xs => .p (.sl c.size (xs.map (encC c)))
  | .ptr id off => .ptr id off
  | .ep id i off tot => .ep id i off tot
  | .dp c x off => .dp (encC c x) off
  | .ref id tot => .ref id 0 tot tot
  | .part id lo n tot => .ref id lo n tot
  | .aref id off n => .aref id off n
  | .fn f _ _ => .fn f [] []
  | .agg _ => .agg []
  | .tup _ => .tup []
def encK : TV → DV
  | .fn f pre cap => .fn f (pre.map encB) (cap.map encB)
  | d => encB d
def enc1 : TV → DV
  | .agg xs => .agg (xs.map encK)
  | d => encK d
def enc : TV → DV
  | .tup xs => .tup (xs.map enc1)
  | d => enc1 d
inductive TO where
  | st (cells : List TV)
  | li (c : CT) (e : TypeId) (loc : Bool) (xs : List c.T)
  | fz (c : CT) (e : TypeId) (loc : Bool) (xs : List c.T)
  | dead
def eo (loc : Bool) (e : TypeId) (n : Nat) : Option TypeId := if loc then some e else if n = 0 then none else some e
def encO : TO → Obj
  | .st cells => .st (cells.map encK)
  | .li c e loc xs => .li (eo loc e xs.length) (xs.map (encC c))
  | .fz c e loc xs => .fz (eo loc e xs.length) (xs.map (encC c))
  | .dead => .dead

def tvC : (c : CT) → c.T → List TV
  | .int k, n => [.v (.int k n)]
  | .bool, b => [.v (.bool b)]
  | .str, s => [.v (.string s)]
  | .sl r, xs => [.sl r xs]
  | .pair a b, x => tvC a x.1 ++ tvC b x.2
theorem tvC_enc : ∀ (c : CT) (x : c.T), (tvC c x).map encK = (encC c x).map .p
  | .int _, _ => rfl
  | .bool, _ => rfl
  | .str, _ => rfl
  | .sl _, _ => rfl
  | .pair a b, x => by simp only [tvC, encC, List.map_append, tvC_enc a, tvC_enc b]
def castS {a b : CT} (h : a = b) (xs : List a.T) : List b.T := h ▸ xs
theorem castS_rfl {a : CT} (h : a = a) (xs : List a.T) : castS h xs = xs := rfl
def packC : (c : CT) → List TV → Option (c.T × List TV)
  | .int k, l => match l with
    | .v (.int k' n) :: r => if k = k' then some (n, r) else none
    | _ => none
  | .bool, l => match l with
    | .v (.bool b) :: r => some (b, r)
    | _ => none
  | .str, l => match l with
    | .v (.string s) :: r => some (s, r)
    | _ => none
  | .sl c, l => match l with
    | .sl c' xs :: r => if h : c'.eqb c = true then some (castS (CT.of_eqb h) xs, r) else none
    | .v (.slice none 0 0) :: r => some ([], r)
    | _ => none
  | .pair a b, l => match packC a l with
    | some (x, l') => match packC b l' with
      | some (y, l'') => some ((x, y), l'')
      | none => none
    | none => none
def pack (c : CT) (l : List TV) : Option c.T := match packC c l with
  | some (x, []) => some x
  | _ => none
/-- A cell that may stand in a row. -/
def rowC : TV → PV → Prop
  | .v x, p => p = .v x
  | .sl c xs, p => p = .sl c.size (xs.map (encC c))
  | _, _ => False
theorem All2.refl_of {α : Type} {R : α → α → Prop} (h : ∀ a, R a a) : ∀ l : List α, All2 R l l
  | [] => .nil
  | a :: l => .cons (h a) (All2.refl_of h l)
theorem unP_refl (x : PV) : unP x x := by cases x <;> exact rfl
theorem packC_row : ∀ (c : CT) (l : List TV) (x : c.T) (r : List TV), packC c l = some (x, r) → ∃ l0 ps, l = l0 ++ r ∧ All2 rowC l0 ps ∧ All2 unP (encC c x) ps
  | .int k, l, x, r, e => by
    simp only [packC] at e
    split at e
    · split at e
      · rename_i hk; cases e; subst hk; exact ⟨[_], [_], rfl, .cons rfl .nil, .cons rfl .nil⟩
      · cases e
    · cases e
  | .bool, l, x, r, e => by
    simp only [packC] at e
    split at e
    · cases e; exact ⟨[_], [_], rfl, .cons rfl .nil, .cons rfl .nil⟩
    · cases e
  | .str, l, x, r, e => by
    simp only [packC] at e
    split at e
    · cases e; exact ⟨[_], [_], rfl, .cons rfl .nil, .cons rfl .nil⟩
    · cases e
  | .sl c, l, x, r, e => by
    simp only [packC] at e
    split at e
    · rename_i c' xs r'
      split at e
      · rename_i h
        cases e
        have := CT.of_eqb h
        subst this
        exact ⟨[_], [_], rfl, .cons rfl .nil, .cons (unP_refl _) .nil⟩
      · cases e
    · cases e; exact ⟨[_], [_], rfl, .cons rfl .nil, .cons rfl .nil⟩
    · cases e
  | .pair a b, l, x, r, e => by
    simp only [packC] at e
    split at e
    · rename_i y l' h1
      split at e
      · rename_i z l'' h2
        cases e
        obtain ⟨m1, p1, rfl, a2, a3⟩ := packC_row a _ _ _ h1
        obtain ⟨m2, p2, rfl, b2, b3⟩ := packC_row b _ _ _ h2
        exact ⟨m1 ++ m2, p1 ++ p2, by simp, a2.append b2, a3.append b3⟩
      · cases e
    · cases e
theorem pack_row {c : CT} {l : List TV} {x : c.T} (e : pack c l = some x) : ∃ ps, All2 rowC l ps ∧ All2 unP (encC c x) ps := by
  unfold pack at e
  split at e
  · rename_i y h
    cases e
    obtain ⟨l0, ps, rfl, h2, h3⟩ := packC_row _ _ _ _ h
    exact ⟨ps, by simpa using h2, h3⟩
  · cases e
theorem rowC_pvs : ∀ {l : List TV} {ps : List PV}, All2 rowC l ps → l.map encK = ps.map .p
  | _, _, .nil => rfl
  | _, _, .cons (a := a) (b := b) h t => by
    have := rowC_pvs t
    simp only [List.map_cons, this]
    congr 1
    cases a <;> first | (cases h; rfl) | exact h.elim
end Go.Sim

