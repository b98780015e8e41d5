/- Part 8 of the claim TapeTells: T19, T20, R1, R2, R3, R4, S2 -/
import Derived.Test.YtmcboobmnipjlaaProg
import Derived.Test.YtmcboobmnipjlaaW7
import Derived.Test.YtmcboobmnipjlaaW6
set_option linter.unusedSimpArgs false
set_option linter.unusedVariables false
set_option linter.defProp false
set_option linter.unusedVariables false
namespace Go.Sim
open Go.RowKit
/-- Ahead of a call: nil slices are empty ones, lists that are handed over are given up. -/
def pre1 (P : Program) (x : TV) (c : CT) (L : List TO) : TV × List TO × List (Nat × Nat) := match x with
  | .v (.slice none 0 0) => (.sl c [], L, [])
  | .part id lo n tot => match L[id]? with
    | some (.li c e loc xs) => (x, L.set id (.fz c e loc xs), [])
    | _ => (x, L, [])
  | x => frzC P L x
def preC (P : Program) : VS → List TV → List TO → List TV × List TV × List TO × List (Nat × Nat)
  | .sl c, l, L => match l with
    | [] => ([], [], L, [])
    | x :: r => match pre1 P x c L with
      | (x', L', q) => ([x'], r, L', q)
  | .nil, l, L => ([], l, L, [])
  | .cons a b, l, L => match preC P a l L with
    | (l1, r, L1, q1) => match preC P b r L1 with
      | (l2, r2, L2, q2) => (l1 ++ l2, r2, L2, q1 ++ q2)
  | _, l, L => match l with
    | [] => ([], [], L, [])
    | x :: r => ([x], r, L, [])
def preA (P : Program) : VS → List TV → List TO → List TV × List TV × List TO × List (Nat × Nat)
  | .agg s, l, L => match l with
    | .agg xs :: r => match preC P s xs L with
      | (l1, r1, L1, q) => ([.agg (l1 ++ r1)], r, L1, q)
    | [] => ([], [], L, [])
    | x :: r => ([x], r, L, [])
  | .sl c, l, L => match l with
    | [] => ([], [], L, [])
    | x :: r => if isC x then (match pre1 P x c L with
      | (x', L', q) => ([x'], r, L', q)) else ([x], r, L, [])
  | .nil, l, L => ([], l, L, [])
  | .cons a b, l, L => match preA P a l L with
    | (l1, r, L1, q1) => match preA P b r L1 with
      | (l2, r2, L2, q2) => (l1 ++ l2, r2, L2, q1 ++ q2)
  | _, l, L => match l with
    | [] => ([], [], L, [])
    | x :: r => ([x], r, L, [])
section
variable {P : Program} {γ : Pl} {h : Heap} {h0 : Heap} {W0 : Ent}
theorem FrzOk.refl {L : List TO} (H : Hp P h0 W0 γ (eL L) h) : FrzOk P h0 W0 γ L h L := ⟨H, Carry.refl _ _ _⟩
theorem FrzOk.trans {L L1 L2 : List TO} (a : FrzOk P h0 W0 γ L h L1) (b : FrzOk P h0 W0 γ L1 h L2) : FrzOk P h0 W0 γ L h L2 := ⟨b.1, a.2.trans' b.2⟩
theorem pre1_sound {L : List TO} (H : Hp P h0 W0 γ (eL L) h) {x x' : TV} {c : CT} {v : Value} {L' : List TO} {q : List (Nat × Nat)} (hd : DC P (Free W0 γ (eL L) h) γ (eL L) h (encK x) v) (e : pre1 P x c L = (x', L', q)) (hq : ∀ p ∈ q, p.1 = p.2) :
    FrzOk P h0 W0 γ L h L' ∧ DC P (Free W0 γ (eL L') h) γ (eL L') h (encK x') v := by
  unfold pre1 at e
  split at e
  · cases e
    refine ⟨.refl H, ?_⟩
    have : v = .slice none 0 0 := PR.scal (P := P) (S := Free W0 γ (eL L) h) (h := h) hd
    subst this
    exact PR.nil
  · rename_i id lo n tot
    split at e
    · rename_i c' te loc xs hL
      cases e
      have hi : (eL L)[id]? = some (.li (eo loc te xs.length) (xs.map (encC c'))) := eL_get hL
      obtain ⟨H', cc⟩ := hp_freeze H hi
      rw [show (eL L).set id (.fz (eo loc te xs.length) (xs.map (encC c'))) = eL (L.set id (.fz c' te loc xs)) from (eL_set L id (.fz c' te loc xs)).symm] at H' cc
      exact ⟨⟨H', cc⟩, cc.dc hd⟩
    · cases e; exact ⟨.refl H, hd⟩
  · exact frzC_sound H hd e hq
theorem preC_sound : ∀ (s : VS) {L : List TO} {l l1 r : List TV} {vs : List Value} {L' : List TO} {q : List (Nat × Nat)}, Hp P h0 W0 γ (eL L) h → All2 (DC P (Free W0 γ (eL L) h) γ (eL L) h) (l.map encK) vs → preC P s l L = (l1, r, L', q) → (∀ p ∈ q, p.1 = p.2) →
    FrzOk P h0 W0 γ L h L' ∧ All2 (DC P (Free W0 γ (eL L') h) γ (eL L') h) ((l1 ++ r).map encK) vs := by
  intro s
  have other : ∀ {L : List TO} {l l1 r : List TV} {vs : List Value} {L' : List TO} {q : List (Nat × Nat)}, Hp P h0 W0 γ (eL L) h → All2 (DC P (Free W0 γ (eL L) h) γ (eL L) h) (l.map encK) vs → (match l with | [] => ([], [], L, []) | x :: r => ([x], r, L, []) : List TV × List TV × List TO × List (Nat × Nat)) = (l1, r, L', q) →
      FrzOk P h0 W0 γ L h L' ∧ All2 (DC P (Free W0 γ (eL L') h) γ (eL L') h) ((l1 ++ r).map encK) vs := by
    intro L l l1 r vs L' q H hd e
    cases l with
    | nil => cases e; exact ⟨.refl H, hd⟩
    | cons x l => cases e; exact ⟨.refl H, hd⟩
  induction s with
  | sl c =>
    intro L l l1 r vs L' q H hd e hq
    simp only [preC] at e
    cases l with
    | nil => cases e; exact ⟨.refl H, hd⟩
    | cons x l =>
      cases h1 : pre1 P x c L with
      | mk x1 rest =>
        obtain ⟨L1, q1⟩ := rest
        simp only [h1] at e
        cases e
        cases hd with
        | cons hx ht =>
          obtain ⟨a, b⟩ := pre1_sound H hx h1 hq
          exact ⟨a, .cons b (ht.mono fun _ _ => a.2.dc)⟩
  | nil =>
    intro L l l1 r vs L' q H hd e hq
    simp only [preC] at e
    cases e
    exact ⟨.refl H, hd⟩
  | cons a b iha ihb =>
    intro L l l1 r vs L' q H hd e hq
    simp only [preC] at e
    cases h1 : preC P a l L with
    | mk m1 rest1 =>
      obtain ⟨r1, L1, q1⟩ := rest1
      cases h2 : preC P b r1 L1 with
      | mk m2 rest2 =>
        obtain ⟨r2, L2, q2⟩ := rest2
        simp only [h1, h2] at e
        cases e
        obtain ⟨a1, a2⟩ := iha H hd h1 fun p hp => hq p (by simp [hp])
        rw [List.map_append] at a2
        obtain ⟨vs1, vs2, hv, c1, c2⟩ : ∃ vs1 vs2, vs = vs1 ++ vs2 ∧ All2 (DC P (Free W0 γ (eL L1) h) γ (eL L1) h) (m1.map encK) vs1 ∧ All2 (DC P (Free W0 γ (eL L1) h) γ (eL L1) h) (r1.map encK) vs2 := by
          refine ⟨vs.take (m1.map encK).length, vs.drop (m1.map encK).length, (List.take_append_drop _ _).symm, ?_, ?_⟩
          · have := a2.take (m1.map encK).length
            simpa using this
          · have := a2.drop (m1.map encK).length
            simpa using this
        subst hv
        obtain ⟨b1, b2⟩ := ihb a1.1 c2 h2 fun p hp => hq p (by simp [hp])
        refine ⟨a1.trans b1, ?_⟩
        rw [List.append_assoc, List.map_append]
        exact (c1.mono fun _ _ => b1.2.dc).append b2
  | _ => intro L l l1 r vs L' q H hd e hq; exact other H hd e
theorem dr_cell {S : Nat → Prop} {L : List Obj} {x : TV} {v : Value} (hc : isC x = true) : DR P S γ L h (enc x) v ↔ DC P S γ L h (encK x) v := by
  rw [isC_enc hc]
  cases x <;> first | exact Iff.rfl | cases hc
theorem pre1_cell {x x' : TV} {c : CT} {L L' : List TO} {q : List (Nat × Nat)} (hc : isC x = true) (e : pre1 P x c L = (x', L', q)) : isC x' = true := by
  unfold pre1 at e
  split at e
  · cases e; rfl
  · split at e <;> (cases e; rfl)
  · unfold frzC at e
    split at e
    · split at e
      · split at e <;> (cases e; rfl)
      · split at e <;> (cases e; rfl)
      · cases e; rfl
    · cases e; exact hc
theorem preA_sound : ∀ (s : VS) {L : List TO} {l l1 r : List TV} {vs : List Value} {L' : List TO} {q : List (Nat × Nat)}, Hp P h0 W0 γ (eL L) h → All2 (DR P (Free W0 γ (eL L) h) γ (eL L) h) (l.map enc) vs → preA P s l L = (l1, r, L', q) → (∀ p ∈ q, p.1 = p.2) →
    FrzOk P h0 W0 γ L h L' ∧ All2 (DR P (Free W0 γ (eL L') h) γ (eL L') h) ((l1 ++ r).map enc) vs := by
  intro s
  have other : ∀ {L : List TO} {l l1 r : List TV} {vs : List Value} {L' : List TO} {q : List (Nat × Nat)}, Hp P h0 W0 γ (eL L) h → All2 (DR P (Free W0 γ (eL L) h) γ (eL L) h) (l.map enc) vs → (match l with | [] => ([], [], L, []) | x :: r => ([x], r, L, []) : List TV × List TV × List TO × List (Nat × Nat)) = (l1, r, L', q) →
      FrzOk P h0 W0 γ L h L' ∧ All2 (DR P (Free W0 γ (eL L') h) γ (eL L') h) ((l1 ++ r).map enc) vs := by
    intro L l l1 r vs L' q H hd e
    cases l with
    | nil => cases e; exact ⟨.refl H, hd⟩
    | cons x l => cases e; exact ⟨.refl H, hd⟩
  induction s with
  | agg s _ =>
    intro L l l1 r vs L' q H hd e hq
    simp only [preA] at e
    split at e
    · rename_i xs r'
      cases h1 : preC P s xs L with
      | mk m1 rest =>
        obtain ⟨r1, L1, q1⟩ := rest
        simp only [h1] at e
        cases e
        cases hd with
        | cons hx ht =>
          obtain ⟨us, rfl, hu⟩ := hx
          obtain ⟨a, b⟩ := preC_sound s H hu h1 hq
          exact ⟨a, .cons ⟨us, rfl, b⟩ (ht.mono fun _ _ => a.2.dr)⟩
    · cases e; exact ⟨.refl H, hd⟩
    · cases e; exact ⟨.refl H, hd⟩
  | sl c =>
    intro L l l1 r vs L' q H hd e hq
    simp only [preA] at e
    cases l with
    | nil => cases e; exact ⟨.refl H, hd⟩
    | cons x l =>
      simp only at e
      split at e
      · rename_i hc
        cases h1 : pre1 P x c L with
        | mk x1 rest =>
          obtain ⟨L1, q1⟩ := rest
          simp only [h1] at e
          cases e
          cases hd with
          | cons hx ht =>
            obtain ⟨a, b⟩ := pre1_sound H ((dr_cell hc).1 hx) h1 hq
            exact ⟨a, .cons ((dr_cell (pre1_cell hc h1)).2 b) (ht.mono fun _ _ => a.2.dr)⟩
      · cases e; exact ⟨.refl H, hd⟩
  | nil =>
    intro L l l1 r vs L' q H hd e hq
    simp only [preA] at e
    cases e
    exact ⟨.refl H, hd⟩
  | cons a b iha ihb =>
    intro L l l1 r vs L' q H hd e hq
    simp only [preA] at e
    cases h1 : preA P a l L with
    | mk m1 rest1 =>
      obtain ⟨r1, L1, q1⟩ := rest1
      cases h2 : preA P b r1 L1 with
      | mk m2 rest2 =>
        obtain ⟨r2, L2, q2⟩ := rest2
        simp only [h1, h2] at e
        cases e
        obtain ⟨a1, a2⟩ := iha H hd h1 fun p hp => hq p (by simp [hp])
        rw [List.map_append] at a2
        obtain ⟨vs1, vs2, hv, c1, c2⟩ : ∃ vs1 vs2, vs = vs1 ++ vs2 ∧ All2 (DR P (Free W0 γ (eL L1) h) γ (eL L1) h) (m1.map enc) vs1 ∧ All2 (DR P (Free W0 γ (eL L1) h) γ (eL L1) h) (r1.map enc) vs2 := by
          refine ⟨vs.take (m1.map enc).length, vs.drop (m1.map enc).length, (List.take_append_drop _ _).symm, ?_, ?_⟩
          · have := a2.take (m1.map enc).length
            simpa using this
          · have := a2.drop (m1.map enc).length
            simpa using this
        subst hv
        obtain ⟨b1, b2⟩ := ihb a1.1 c2 h2 fun p hp => hq p (by simp [hp])
        refine ⟨a1.trans b1, ?_⟩
        rw [List.append_assoc, List.map_append]
        exact (c1.mono fun _ _ => b1.2.dr).append b2
  | _ => intro L l l1 r vs L' q H hd e hq; exact other H hd e
end
/-- Arguments: exactly so, or a slice of a list that was given up. -/
def decG (P : Program) (L : List TO) : (s : VS) → List TV → Bd → Option (s.T × List TV × Bd)
  | .sl c, l, B => match l with
    | .part id lo n tot :: r => match L[id]? with
      | some (.fz c' e _ xs) => if szT P e = some c.size then (if h : c'.eqb c = true then some ((List.drop lo (castS (CT.of_eqb h) xs)).take n, r, ⟨B.b, (xs.length, tot) :: B.eqs, B.used⟩) else none) else none
      | _ => none
    | l => decC P L 0 (.sl c) l B
  | .agg s, l, B => match l with
    | .agg xs :: r => match decC P L 0 s xs B with
      | some (x, [], B') => some (x, r, B')
      | _ => none
    | _ => none
  | .cons a b, l, B => match decG P L a l B with
    | some (x, l', B') => match decG P L b l' B' with
      | some (y, l'', B'') => some (SP.mk x y, l'', B'')
      | none => none
    | none => none
  | s, l, B => decC P L 0 s l B
section
variable {P : Program} {L : List TO} {sel : Sel} {len : Nat → Nat}
theorem argS_cell {d' d : TV} (h : rC P L sel 0 d' d) : argS P (eL L) sel (enc d') (enc d) := by
  have h3 : unCx sel (encK d') = some (encK d) := h.2.2
  rw [isC_enc h.1, isC_enc h.2.1]
  have hu : unDx sel (encK d') = some (encK d) := by
    have := encK_agg h.1
    unfold unDx
    split
    · rename_i q; exact absurd q (this.2 _)
    · unfold un1x
      split
      · rename_i q; exact absurd q (this.1 _)
      · exact h3
  unfold argS
  split
  · rename_i h1 h2
    rw [h1] at h3
    have h4 : some (DV.p (.sl _ _)) = some (encK d) := h3
    rw [h2] at h4
    cases h4
  · rename_i h1 h2
    rw [h1, h2] at h3
    cases h3
  · exact hu
theorem decG_sound (s : VS) : ∀ {l r : List TV} {B B' : Bd} {p : s.T}, decG P L s l B = some (p, r, B') → B.le B' ∧ (WellB L sel len B' → ∃ l0, l = l0 ++ r ∧ All2 (fun d' d => argS P (eL L) sel (enc d') (enc d)) (s.ins id len p) l0) := by
  have base : ∀ (s : VS) {l r : List TV} {B B' : Bd} {p : s.T}, decC P L 0 s l B = some (p, r, B') → B.le B' ∧ (WellB L sel len B' → ∃ l0, l = l0 ++ r ∧ All2 (fun d' d => argS P (eL L) sel (enc d') (enc d)) (s.ins id len p) l0) := by
    intro s l r B B' p h
    obtain ⟨h1, h2⟩ := decC_sound (sel := sel) (len := len) 0 s h
    refine ⟨h1, fun g => ?_⟩
    obtain ⟨l0, e, q⟩ := h2 g
    exact ⟨l0, e, q.mono fun _ _ => argS_cell⟩
  induction s with
  | sl c =>
    intro l r B B' p h
    simp only [decG] at h
    split at h
    · rename_i id lo n tot r'
      split at h
      · rename_i c' te loc xs hL
        split at h
        · rename_i hz
          split at h
          · rename_i hc
            have := CT.of_eqb hc
            subst this
            cases h
            refine ⟨⟨fun _ _ e => e, fun _ e => List.mem_cons_of_mem _ e, fun _ e => e, rfl⟩, fun g => ?_⟩
            have ht : xs.length = tot := g.eqs _ List.mem_cons_self
            refine ⟨[_], rfl, .cons ?_ .nil⟩
            show argS P (eL L) sel (.p (.sl _ _)) (.ref id lo n tot)
            refine ⟨⟨_, _, eL_get hL⟩, _, rows_fz hL ht, by rw [castS_rfl, List.map_take, List.map_drop], by rw [eL_get hL]; exact eo_sz hz⟩
          · cases h
        · cases h
      · cases h
    · exact base _ h
  | agg s _ =>
    intro l r B B' p h
    simp only [decG] at h
    split at h
    · rename_i xs r'
      split at h
      · rename_i x B1 h1
        cases h
        obtain ⟨a1, a2⟩ := decC_sound (sel := sel) (len := len) 0 s h1
        refine ⟨a1, fun g => ?_⟩
        obtain ⟨l0, e, q⟩ := a2 g
        rw [List.append_nil] at e
        subst e
        have hu : unCxs sel ((s.ins id len p).map encK) = some (xs.map encK) := rC_un (m := 0) (.inl rfl) q
        refine ⟨[_], rfl, .cons ?_ .nil⟩
        show unDx sel (.agg ((s.ins id len p).map encK)) = some (.agg (xs.map encK))
        show (unCxs sel ((s.ins id len p).map encK)).map DV.agg = _
        rw [hu]; rfl
      · cases h
    · cases h
  | cons a b iha ihb =>
    intro l r B B' p h
    simp only [decG] at h
    split at h
    · rename_i x l' B1 h1
      split at h
      · rename_i y l'' B2 h2
        cases h
        obtain ⟨a1, a2⟩ := iha h1
        obtain ⟨b1, b2⟩ := ihb h2
        refine ⟨Bd.le_trans a1 b1, fun g => ?_⟩
        obtain ⟨m1, rfl, q1⟩ := a2 (g.le b1)
        obtain ⟨m2, rfl, q2⟩ := b2 g
        refine ⟨m1 ++ m2, by simp, ?_⟩
        show All2 _ (a.ins id len (SP.fst a.dfl (SP.mk x y)) ++ b.ins id len (SP.snd b.dfl (SP.mk x y))) _
        rw [SP.fst_mk fun q => VS.triv_dfl a q x, SP.snd_mk fun q => VS.triv_dfl b q y]
        exact q1.append q2
      · cases h
    · cases h
  | _ => intro l r B B' p h; exact base _ h
end
end Go.Sim

set_option linter.unusedVariables false
namespace Go.Sim
open Go.RowKit
def natsOf : List (Option (Option Nat)) → Option (List Nat)
  | [] => some []
  | x :: r => match x, natsOf r with
    | some (some y), some ys => some (y :: ys)
    | _, _ => none
theorem natsOf_sel : ∀ {b : List (Option (Option Nat))} {l : List Nat}, natsOf b = some l → selOf b = some (l.map some)
  | [], l, h => by cases h; rfl
  | x :: r, l, h => by
    unfold natsOf at h
    split at h
    · rename_i y ys h1
      cases h
      unfold selOf
      rw [natsOf_sel h1]
      rfl
    · cases h
theorem inss_st (f g : Nat → Nat) : ∀ (os : List OS) (y : OS.Ts os) (k : Nat), stK os k = true ↔ ∃ c, (eL (OS.inss f g os y))[k]? = some (.st c)
  | [], y, k => by simp [stK, OS.inss, eL]
  | o :: r, y, k => by
    cases k with
    | zero => cases o <;> simp [stK, OS.inss, eL, OS.ins, encO]
    | succ k =>
      have := inss_st f g r (SP.snd (OS.dfls r) y) k
      simp only [stK, List.getElem?_cons_succ] at this ⊢
      simpa [OS.inss, eL] using this
theorem All2.unmap {α β γ : Type} {R : α → β → Prop} {f : γ → α} : ∀ {l : List γ} {m : List β}, All2 R (l.map f) m → All2 (fun a b => R (f a) b) l m
  | [], _, .nil => .nil
  | x :: l, _, .cons h t => .cons h (All2.unmap t)
theorem All2.swap {α β : Type} {R : α → β → Prop} : ∀ {l : List α} {m : List β}, All2 R l m → All2 (fun b a => R a b) m l
  | _, _, .nil => .nil
  | _, _, .cons h t => .cons h t.swap
theorem All2.mapl {α β γ : Type} {R : α → β → Prop} {f : γ → α} : ∀ {l : List γ} {m : List β}, All2 (fun a b => R (f a) b) l m → All2 R (l.map f) m
  | _, _, .nil => .nil
  | _, _, .cons h t => .cons h t.mapl
def OS.live : OS → Bool
  | .dead => false
  | _ => true
theorem live_enc (f g : Nat → Nat) : ∀ (os : List OS) (y : OS.Ts os), os.all OS.live = true → ∀ o' ∈ eL (OS.inss f g os y), o' ≠ .dead
  | [], y, _, o', h => by simp [OS.inss, eL] at h
  | o :: r, y, hl, o', h => by
    simp only [List.all_cons, Bool.and_eq_true] at hl
    have h' : o' = encO (o.ins f g (SP.fst o.dfl y)) ∨ o' ∈ eL (OS.inss f g r (SP.snd (OS.dfls r) y)) := by
      simpa [OS.inss, eL] using h
    rcases h' with rfl | h'
    · cases o with
      | dead => cases hl.1
      | st s => intro q; cases q
      | li c e loc => intro q; cases q
    · exact live_enc f g r _ hl.2 o' h'
/-- One call. -/
def tcallG (P : Program) (e : TEnt) {R : Type} (ds : List TV) (L : List TO) (K : TV → List TO → Tree R) : Tree R :=
  match preA P e.av ds L with
  | (l1, r1, L1, q1) => match decG P L1 e.av (l1 ++ r1) (bd0 0 e.os.length) with
    | some (x, [], B) => match decO P L1 0 e.os 0 B with
      | some (y, B') => match natsOf B'.b, B'.used with
        | some sel, [] => if nodupB sel = true ∧ e.os.all OS.live = true then chk (q1 ++ B'.eqs) (sbind (e.m (ShT.mk x y)) fun r => caseR e.rs r fun ρ w =>
            if ρ.1.fitT ρ.2.length = true ∧ ρ.2.all (OS.fit ρ.2.length) = true ∧ sel.length ≤ ρ.2.length then
              (match ρ.1.ins (numK e.os sel L1.length ρ.2.length) (OS.lens ρ.2 w.o) w.v with
              | [v] => K v (mergeL e.os sel (OS.inss (numK e.os sel L1.length ρ.2.length) (OS.lens ρ.2 w.o) ρ.2 w.o) L1)
              | _ => .fail) else .fail) else .fail
        | _, _ => .fail
      | none => .fail
    | _ => .fail
/-- The objects that a call is given. -/
def wrG (P : Program) (e : TEnt) (ds : List TV) (L : List TO) : List Nat :=
  match preA P e.av ds L with
  | (l1, r1, L1, _) => match decG P L1 e.av (l1 ++ r1) (bd0 0 e.os.length) with
    | some (_, [], B) => match decO P L1 0 e.os 0 B with
      | some (_, B') => (natsOf B'.b).getD []
      | none => []
    | _ => []
theorem tcallG_sound {P : Program} {e : TEnt} (he : EntT P e) {R : Type} {ds : List TV} {L : List TO} {K : TV → List TO → Tree R} {z : R} (hz : (tcallG P e ds L K).run = some z) {h0 : Heap} {W0 : Ent} {γ : Pl} {h : Heap} {vs : List Value} (H : Hp P h0 W0 γ (eL L) h) (hr : All2 (DR P (Free W0 γ (eL L) h) γ (eL L) h) (ds.map enc) vs) :
    ADoes P e.f vs h (fun v h' => Aft P h0 W0 γ (eL L) h (KT K z) v h' ∧ VKept γ L h h' (wrG P e ds L)) := by
  obtain ⟨f, av, os, rs, m⟩ := e
  unfold tcallG at hz
  cases hp : preA P av ds L with
  | mk l1 rest =>
    obtain ⟨r1, L1, q1⟩ := rest
    simp only [hp] at hz
    split at hz
    · rename_i x B h1
      split at hz
      · rename_i y B' h2
        split at hz
        · rename_i sel hsel hu
          split at hz
          · rename_i hnd
            replace hz := chk_some hz; obtain ⟨hq, hz⟩ := hz
            replace hz := sbind_some hz; obtain ⟨r, h3, hz⟩ := hz
            replace hz := caseR_some hz; obtain ⟨ρ, w, h4, h5⟩ := hz
            obtain ⟨⟨H1, c1⟩, hr1⟩ := preA_sound av H hr hp fun p hp => hq p (by simp [hp])
            have hnd' := nodupB_sound hnd.1
            have hwr : wrG P ⟨f, av, os, rs, m⟩ ds L = sel := by
              unfold wrG
              simp only [hp, h1, h2, hsel]
              rfl
            rw [hwr]
            -- the numbers
            have s1 := natsOf_sel hsel
            obtain ⟨s5, s6⟩ := selOf_get s1
            obtain ⟨a1, a2⟩ := decG_sound (P := P) (L := L1) (sel := sel.map some) (len := OS.lens os y) av h1
            obtain ⟨b1, b2, b3⟩ := decO_sound (sel := sel.map some) (.inl rfl) os h2
            have hlen : B'.b.length = os.length := by rw [b1.2.2.2, a1.2.2.2, bd0_len]
            have hsl : sel.length = os.length := by rw [← hlen, ← s5, List.length_map]
            have ok : WellB L1 (sel.map some) (OS.lens os y) B' := by
              refine ⟨fun k x e => (s6 k x).1 e, fun p hp => hq p (by simp [hp]), fun i hi => (by rw [hu] at hi; simp at hi), fun k id n e ht => ?_, fun k e => ?_⟩
              · have hk : k < os.length := by rw [← hlen, ← s5]; exact (List.getElem?_eq_some_iff.1 e).1
                obtain ⟨x, c1, c2, c3⟩ := b2 k hk
                rw [Nat.zero_add] at c1
                have := (s6 k x).1 c1
                rw [e] at this; cases this
                exact c2 id n rfl ht
              · have hk : k < os.length := by rw [← hlen, ← s5]; exact (List.getElem?_eq_some_iff.1 e).1
                obtain ⟨x, c1, c2, c3⟩ := b2 k hk
                rw [Nat.zero_add] at c1
                have := (s6 k x).1 c1
                rw [e] at this; cases this
                exact c3 rfl
            obtain ⟨l0, e0, hargs⟩ := a2 (ok.le b1)
            rw [List.append_nil] at e0
            have hvals : ShT.vals (ShT.mk x y : ShT av os) = av.ins id (OS.lens os y) x := by unfold ShT.vals; rw [ShT.v_mk, ShT.o_mk]
            have hobjs : ShT.objs (ShT.mk x y : ShT av os) = OS.inss id (OS.lens os y) os y := by unfold ShT.objs; rw [ShT.o_mk]
            have hoo : All2 (oOk L1 (sel.map some) 0) (sel.map some) (OS.inss id (OS.lens os y) os y) := by
              refine All2.of_get (by rw [inss_len, List.length_map, hsl]) fun i s o' e1 e2 => ?_
              obtain ⟨s', c1, c2⟩ := b3 _ ok i o' e2
              rw [Nat.zero_add, e1] at c1
              cases c1
              exact c2
            have hA : All2 (fun o' (i : Nat) => ∃ o, (eL L1)[i]? = some o ∧ unOx (sel.map some) o' o) (eL (OS.inss id (OS.lens os y) os y)) sel := by
              refine All2.mapl (All2.swap ((All2.unmap hoo).mono fun i o' h => ?_))
              obtain ⟨o, e1, e2⟩ := h
              exact ⟨encO o, eL_get e1, e2⟩
            have hlt : ∀ i ∈ sel, i < L1.length := fun i hi => by
              obtain ⟨k, hk⟩ := List.mem_iff_getElem?.1 hi
              obtain ⟨o', _, o, e1, _⟩ := hA.get' hk
              have := (List.getElem?_eq_some_iff.1 e1).1
              rwa [eL_len] at this
            have hst : ∀ k, stK os k = true → k < sel.length := fun k q => by
              rw [hsl]
              unfold stK at q
              split at q
              · rename_i h6; exact (List.getElem?_eq_some_iff.1 h6).1
              · cases q
            have hd := he (ShT.mk x y) r h3
            simp only at hd
            rw [hvals, hobjs] at hd
            subst e0
            have hW : DCallWF P f ((l1 ++ r1).map enc) (eL L1) sel (KT K z) := by
              refine dcall_objF sel hd hnd' hA (All2.maps (f := enc) (g := enc) (R' := argS P (eL L1) (sel.map some)) (fun _ _ q => q) hargs) fun d A' hq' => ?_
              obtain ⟨v, b4, rfl, rfl⟩ := h5 d A' hq'
              split at h4
              · rename_i hfit
                obtain ⟨f1, f2, f3⟩ := hfit
                have hb : ∀ k, k < ρ.2.length → (mergeB os sel ρ.2.length L1)[numK os sel L1.length ρ.2.length k]? = some (some k) := fun k hk => num_back hnd' rfl hlt hst hk
                have hnl : (OS.inss (numK os sel L1.length ρ.2.length) (OS.lens ρ.2 w.o) ρ.2 w.o).length = ρ.2.length := inss_len _ _ _ _
                have hex := insT_ex (len := OS.lens ρ.2 w.o) hb ρ.1 w.v f1
                have hob := inss_ex (len := OS.lens ρ.2 w.o) hb ρ.2 w.o f2
                have M := merge_ok (P := P) (L := L1) (os := os) (sel := sel) (new := OS.inss (numK os sel L1.length ρ.2.length) (OS.lens ρ.2 w.o) ρ.2 w.o) (A := eL (OS.inss id (OS.lens os y) os y)) (A' := eL (ShT.objs w)) (old := ShT.objs w) hnd' hlt hst (inss_st _ _ _ _) (by rw [hnl]; exact f3) rfl (by rw [hnl]; exact hob)
                rw [hnl] at M
                split at h4
                · rename_i v' hv'
                  rw [hv'] at hex
                  have b4' : ρ.1.ins id (OS.lens ρ.2 w.o) w.v = [v] := b4
                  rw [b4'] at hex
                  cases hex with
                  | cons hx t =>
                    exact ⟨_, _, _, M, hx, _, _, rfl, rfl, h4⟩
                · cases h4
              · cases h4
            refine (hW h0 W0 γ h vs H1 hr1).mono ?_
            rintro v h' ⟨⟨γ', d, L', hK, H2, c2, hd2⟩, hfr⟩
            refine ⟨⟨γ', d, L', hK, H2, c1.trans' c2, hd2⟩, fun id b hg hst' hid => ?_⟩
            obtain ⟨g1, c0, s1⟩ := c1.st id b hg hst'
            refine hfr b (OR.lt (fun b hb => hb.1) (H1.obj id _ s1) g1 rfl).1 fun i hi x hgi => ?_
            have hne : i ≠ id := fun q => hid (q ▸ hi)
            obtain ⟨k, hk⟩ := List.mem_iff_getElem?.1 hi
            obtain ⟨o', ho', o, e1, e2⟩ := hA.get' hk
            have hdead := live_enc _ _ os y hnd.2 o' (List.mem_of_getElem? ho')
            cases o with
            | st c => exact hne (H1.inj i id _ _ b x 0 e1 s1 rfl rfl hgi g1)
            | li te rows =>
              cases te with
              | none => have := (H1.obj i _ e1).2; rw [hgi] at this; cases this
              | some te => exact hne (H1.inj i id _ _ b x 0 e1 s1 rfl rfl hgi g1)
            | fz te rows =>
              cases te with
              | none => have := (H1.obj i _ e1).2; rw [hgi] at this; cases this
              | some te =>
                obtain ⟨b', o2, g2, f2, _⟩ := H1.obj i _ e1
                rw [hgi] at g2; cases g2
                exact f2.2.2 id _ 0 s1 rfl g1
            | dead =>
              cases o' with
              | dead => exact hdead rfl
              | st c => exact e2.elim
              | li te rows => exact e2.elim
              | fz te rows => exact e2.elim
          · cases hz
        · cases hz
      · cases hz
    · cases hz
/-- The table's call: the first entry that fits. -/
def fits (P : Program) (e : TEnt) (k : FuncId) (ds : List TV) (L : List TO) : Bool := e.f == k && (if e.os.isEmpty && scalR e.rs then (match decA P L 2 e.av ds (bd0 0 e.os.length) with
    | some (_, [], _) => true
    | _ => false) else (match preA P e.av ds L with
    | (l1, r1, L1, _) => match decG P L1 e.av (l1 ++ r1) (bd0 0 e.os.length) with
      | some (_, [], B) => (match decO P L1 0 e.os 0 B with
        | some _ => true
        | none => false)
      | _ => false))
def tcalls (P : Program) : List TEnt → (R : Type) → TCall R
  | [], _ => fun _ _ _ _ => .fail
  | e :: r, R => fun k ds L K => match fits P e k ds L with
    | true => if e.os.isEmpty && scalR e.rs then tcallS P e ds L K else tcallG P e ds L K
    | false => tcalls P r R k ds L K
def wrs (P : Program) : List TEnt → FuncId → List TV → List TO → List Nat
  | [], _, _, _ => []
  | e :: r, k, ds, L => match fits P e k ds L with
    | true => if e.os.isEmpty && scalR e.rs then [] else wrG P e ds L
    | false => wrs P r k ds L
theorem tcalls_ok {P : Program} : ∀ {tab : List TEnt}, (∀ e ∈ tab, EntT P e) → ∀ R : Type, TCallOk P (tcalls P tab R) (wrs P tab)
  | [], _, R => fun k ds L K z h => by cases h
  | e :: r, ht, R => fun k ds L K z h h0 W0 γ hh vs H hr => by
    unfold tcalls at h
    unfold wrs
    split at h
    · rename_i hf
      have hk : e.f = k := by
        unfold fits at hf
        simp only [Bool.and_eq_true, beq_iff_eq] at hf
        exact hf.1
      subst hk
      try simp only [hf]
      split at h
      · rename_i hc
        rw [if_pos hc]
        simp only [Bool.and_eq_true, List.isEmpty_iff] at hc
        refine (tcallS_sound (ht e List.mem_cons_self) hc.1 h h0 W0 γ hh vs H hr).mono fun v h' q => ⟨q.1, fun id b hg hs _ => q.2 b (st_lt H hg hs) fun i hi => by simp at hi⟩
      · rename_i hc
        rw [if_neg hc]
        exact tcallG_sound (ht e List.mem_cons_self) h H hr
    · rename_i hf
      try simp only [hf]
      exact tcalls_ok (fun e he => ht e (List.mem_cons_of_mem _ he)) R k ds L K z h h0 W0 γ hh vs H hr
/-- The loops of a function: places, and the shapes there. -/
def loopsOf (P : Program) (c : Nat) : List (Nat × List Nat × VS × List OS) → Nat → Option Shp
  | [], _ => none
  | (p, keys, vs, os) :: r, q => if p = q then some (shpOf P c keys vs os) else loopsOf P c r q
theorem loopsOf_ok {P : Program} {c : Nat} : ∀ {l : List (Nat × List Nat × VS × List OS)} {q : Nat} {S : Shp}, loopsOf P c l q = some S → ShpOk P S
  | [], q, S, h => by cases h
  | (p, keys, vs, os) :: r, q, S, h => by
    unfold loopsOf at h
    split at h
    · cases h; exact shpOf_ok _ _ _ _ _
    · exact loopsOf_ok h
def joinsOf (P : Program) (c : Nat) : List (Nat × List Nat × VS × List OS) → Nat → Option Shp
  | [], _ => none
  | (p, keys, vs, os) :: r, q => if p = q then some (shpJ P c keys vs os) else joinsOf P c r q
theorem joinsOf_ok {P : Program} {c : Nat} : ∀ {l : List (Nat × List Nat × VS × List OS)} {q : Nat} {S : Shp}, joinsOf P c l q = some S → ShpJ P S
  | [], q, S, h => by cases h
  | (p, keys, vs, os) :: r, q, S, h => by
    unfold joinsOf at h
    split at h
    · cases h; exact shpJ_ok _ _ _ _ _
    · exact joinsOf_ok h
abbrev Shs := List (Nat × List Nat × VS × List OS)
def envOf (P : Program) (tab : List TEnt) (c : Nat) (loops joins : Shs) : TEnv := ⟨P, ctOf P 12, tcalls P tab, wrs P tab, loopsOf P c loops, joinsOf P c joins⟩
theorem env_ok {P : Program} {tab : List TEnt} {c : Nat} {loops joins : Shs} (ht : ∀ e ∈ tab, EntT P e) : EnvOk (envOf P tab c loops joins) := ⟨fun _ _ h => joinsOf_ok h, tcalls_ok ht, fun _ _ h => loopsOf_ok h⟩
theorem ent_of {P : Program} {tab : List TEnt} {loops joins : Shs} {f : FuncId} {av : VS} {os : List OS} {rs : List RSh} (m : ShT av os → Option (RT rs)) (ht : ∀ e ∈ tab, EntT P e) (hm : ∀ p, tmodel (envOf P tab os.length loops joins) f av os rs p = m p) (hf : fnOk P f (av.ins id (fun _ => 0) av.dfl).length = true) : EntT P ⟨f, av, os, rs, m⟩ :=
  ent_ok (env_ok ht) m hm hf
end Go.Sim

set_option maxRecDepth 100000
set_option maxHeartbeats 0
set_option linter.unusedVariables false
namespace Go.Sim
open Go.Proofs
noncomputable def m_r01_Bytes_l1_step (x1 : Int) (x2 : (List Int)) : Option ((Int × (List Int)) ⊕ (List Int)) :=
  bif decide ((128 : Int) ≤ x1) then
    bif decide ((1 : Nat) = (1 : Nat)) then
      bif decide (x2.length = x2.length ∧ x2.length + (1 : Nat) ≤ (140737488355328 : Nat)) then
        bif decide (x2.length + (1 : Nat) = (x2 ++ [Go.IntKind.u8.wrap (Go.IntKind.u64.wrap ((128 : Int) + Int.tmod x1 (128 : Int)))]).length) then
          some (Sum.inl ((Go.IntKind.u64.wrap (Int.tdiv x1 (128 : Int))), (x2 ++ [Go.IntKind.u8.wrap (Go.IntKind.u64.wrap ((128 : Int) + Int.tmod x1 (128 : Int)))])))
        else none
      else none
    else none
  else bif decide ((1 : Nat) = (1 : Nat)) then
      bif decide (x2.length = x2.length ∧ x2.length + (1 : Nat) ≤ (140737488355328 : Nat)) then
        bif decide ((x2 ++ [Go.IntKind.u8.wrap x1]).length = x2.length + (1 : Nat)) then
          some (Sum.inr (x2 ++ [Go.IntKind.u8.wrap x1]))
        else none
      else none
    else none
noncomputable def m_r01_Bytes_l1 : (Int × (List Int)) → Option (List Int) := loopM fun s => m_r01_Bytes_l1_step s.1 s.2
noncomputable def m_r01_Bytes (x0 : Int) : Option (List Int) :=
  Option.bind (m_r01_Bytes_l1 (x0, [])) fun (x1 : (List Int)) =>
    some x1
noncomputable def e_r01_Bytes : TEnt := ⟨61, .int .u64, [], [(.sl (.int .u8), [])], fun s => m_r01_Bytes s⟩
theorem e_r01_Bytes_ok : EntT Try.prog e_r01_Bytes := ent_of (tab := []) (loops := [(586, [0, 3], (.cons (.int .u64) (.own 0)), [.li (.int .u8) 5 false])]) (joins := []) _ (by intro e he; simp at he) (fun s => by kernel_rfl) (by kernel_rfl)
noncomputable def m_r01_All_l1_step (x1 : ((List Int) × Int)) (x2 : (List Int)) : Option ((((List Int) × Int) × (List Int)) ⊕ (List Int)) :=
  bif decide (x1.2 < (↑x1.1.length : Int)) then
    bif decide ((0 : Int) ≤ x1.2) then
      Option.bind (x1.1[x1.2.toNat]?) fun (x3 : Int) =>
        Option.bind (m_r01_Bytes x3) fun (x4 : (List Int)) =>
          bif decide (x2.length = x2.length ∧ x2.length + List.length x4 ≤ (140737488355328 : Nat)) then
            bif decide (x2.length + List.length x4 = (x2 ++ x4).length) then
              some (Sum.inl ((x1.1, (Go.IntKind.i64.wrap (x1.2 + (1 : Int)))), (x2 ++ x4)))
            else none
          else none
    else none
  else bif decide (x2.length = x2.length) then
      some (Sum.inr x2)
    else none
noncomputable def m_r01_All_l1 : (((List Int) × Int) × (List Int)) → Option (List Int) := loopM fun s => m_r01_All_l1_step s.1 s.2
noncomputable def m_r01_All (x0 : (List Int)) : Option (List Int) :=
  Option.bind (m_r01_All_l1 ((x0, ((0 : Int))), [])) fun (x1 : (List Int)) =>
    some x1
noncomputable def e_r01_All : TEnt := ⟨60, .sl (.int .u64), [], [(.sl (.int .u8), [])], fun s => m_r01_All s⟩
theorem e_r01_All_ok : EntT Try.prog e_r01_All := ent_of (tab := [e_r01_Bytes]) (loops := [(4682, [0, 3, 4], (.cons (.sl (.int .u64)) (.cons (.own 0) (.int .i64))), [.li (.int .u8) 5 false])]) (joins := []) _ (by
    intro e he
    simp only [List.mem_cons, List.not_mem_nil, or_false] at he
    rcases he with rfl
    · exact e_r01_Bytes_ok) (fun s => by kernel_rfl) (by kernel_rfl)
noncomputable def m_r01_Read_l1_step (x1 : (List Int)) (x2 : Int) (x3 : Int) (x4 : Int) : Option (((List Int) × (Int × (Int × Int))) ⊕ (Int × (Int × Int))) :=
  bif decide (x4 < (↑(List.length x1) : Int)) then
    bif decide ((0 : Int) ≤ x4) then
      Option.bind (x1[x4.toNat]?) fun (x5 : Int) =>
        bif x4 == (9 : Int) then
          bif decide ((1 : Int) < Go.IntKind.u64.wrap x5) then
            some (Sum.inr (((0 : Int)), (((0 : Int)), ((3 : Int)))))
          else bif decide ((0 : Int) < x4) then
              bif Go.IntKind.u64.wrap x5 == (0 : Int) then
                some (Sum.inr (((0 : Int)), (((0 : Int)), ((3 : Int)))))
              else bif decide (Go.IntKind.u64.wrap x5 < (128 : Int)) then
                  some (Sum.inr ((Go.IntKind.u64.wrap (x2 + Go.IntKind.u64.wrap ((Go.IntKind.u64.wrap x5).tmod (128 : Int) * x3))), ((Go.IntKind.i64.wrap (x4 + (1 : Int))), ((0 : Int)))))
                else some (Sum.inl (x1, ((Go.IntKind.u64.wrap (x2 + Go.IntKind.u64.wrap ((Go.IntKind.u64.wrap x5).tmod (128 : Int) * x3))), ((Go.IntKind.u64.wrap (x3 * (128 : Int))), (Go.IntKind.i64.wrap (x4 + (1 : Int)))))))
            else bif decide (Go.IntKind.u64.wrap x5 < (128 : Int)) then
                some (Sum.inr ((Go.IntKind.u64.wrap (x2 + Go.IntKind.u64.wrap ((Go.IntKind.u64.wrap x5).tmod (128 : Int) * x3))), ((Go.IntKind.i64.wrap (x4 + (1 : Int))), ((0 : Int)))))
              else some (Sum.inl (x1, ((Go.IntKind.u64.wrap (x2 + Go.IntKind.u64.wrap ((Go.IntKind.u64.wrap x5).tmod (128 : Int) * x3))), ((Go.IntKind.u64.wrap (x3 * (128 : Int))), (Go.IntKind.i64.wrap (x4 + (1 : Int)))))))
        else bif decide ((0 : Int) < x4) then
            bif Go.IntKind.u64.wrap x5 == (0 : Int) then
              some (Sum.inr (((0 : Int)), (((0 : Int)), ((3 : Int)))))
            else bif decide (Go.IntKind.u64.wrap x5 < (128 : Int)) then
                some (Sum.inr ((Go.IntKind.u64.wrap (x2 + Go.IntKind.u64.wrap ((Go.IntKind.u64.wrap x5).tmod (128 : Int) * x3))), ((Go.IntKind.i64.wrap (x4 + (1 : Int))), ((0 : Int)))))
              else some (Sum.inl (x1, ((Go.IntKind.u64.wrap (x2 + Go.IntKind.u64.wrap ((Go.IntKind.u64.wrap x5).tmod (128 : Int) * x3))), ((Go.IntKind.u64.wrap (x3 * (128 : Int))), (Go.IntKind.i64.wrap (x4 + (1 : Int)))))))
          else bif decide (Go.IntKind.u64.wrap x5 < (128 : Int)) then
              some (Sum.inr ((Go.IntKind.u64.wrap (x2 + Go.IntKind.u64.wrap ((Go.IntKind.u64.wrap x5).tmod (128 : Int) * x3))), ((Go.IntKind.i64.wrap (x4 + (1 : Int))), ((0 : Int)))))
            else some (Sum.inl (x1, ((Go.IntKind.u64.wrap (x2 + Go.IntKind.u64.wrap ((Go.IntKind.u64.wrap x5).tmod (128 : Int) * x3))), ((Go.IntKind.u64.wrap (x3 * (128 : Int))), (Go.IntKind.i64.wrap (x4 + (1 : Int)))))))
    else none
  else some (Sum.inr (((0 : Int)), (((0 : Int)), ((4 : Int)))))
noncomputable def m_r01_Read_l1 : ((List Int) × (Int × (Int × Int))) → Option (Int × (Int × Int)) := loopM fun s => m_r01_Read_l1_step s.1 s.2.1 s.2.2.1 s.2.2.2
noncomputable def m_r01_Read (x0 : (List Int)) : Option (Int × (Int × Int)) :=
  Option.bind (m_r01_Read_l1 (x0, (((0 : Int)), (((1 : Int)), ((0 : Int)))))) fun (x1 : (Int × (Int × Int))) =>
    some x1
noncomputable def m_r01_Number (x0 : (List Int)) (x1 : Int) (x2 : Int) : Option (((List Int) × (Int × Int)) × Int) :=
  bif x2 != (0 : Int) then
    some ((x0, (x1, x2)), ((0 : Int)))
  else bif decide ((0 : Int) ≤ x1 ∧ Int.toNat x1 ≤ List.length x0) then
      Option.bind (m_r01_Read (List.drop (Int.toNat x1) x0)) fun (x3 : (Int × (Int × Int))) =>
        some ((x0, ((Go.IntKind.i64.wrap (x1 + x3.2.1)), x3.2.2)), x3.1)
    else none
noncomputable def m_r01_Up (x0 : ((List Int) × (Int × Int))) (x1 : Int) (x2 : Int) : Option (((List Int) × (Int × Int)) × Int) :=
  Option.bind (m_r01_Number x0.1 x0.2.1 x0.2.2) fun (x3 : (((List Int) × (Int × Int)) × Int)) =>
    bif x3.1.2.2 == (0 : Int) then
      bif decide (x1 < (0 : Int)) then
        some ((x0.1, (x0.2.1, x2)), ((0 : Int)))
      else bif decide (Go.IntKind.u64.wrap x1 < x3.2) then
          some ((x0.1, (x0.2.1, x2)), ((0 : Int)))
        else some ((x3.1.1, (x3.1.2.1, x3.1.2.2)), (Go.IntKind.i64.wrap x3.2))
    else some ((x3.1.1, (x3.1.2.1, x3.1.2.2)), (Go.IntKind.i64.wrap x3.2))
noncomputable def m_r01_Take (x0 : ((List Int) × (Int × Int))) (x1 : Int) : Option (((List Int) × (Int × Int)) × (List Int)) :=
  bif x0.2.2 == (0 : Int) then
    bif decide (x1 < (0 : Int)) then
      some ((x0.1, (x0.2.1, ((4 : Int)))), [])
    else bif decide (Go.IntKind.i64.wrap ((↑x0.1.length : Int) - x0.2.1) < x1) then
        some ((x0.1, (x0.2.1, ((4 : Int)))), [])
      else bif x0.2.2 != (0 : Int) then
          some ((x0.1, (x0.2.1, x0.2.2)), [])
        else bif decide ((0 : Int) ≤ x0.2.1 ∧ x0.2.1 ≤ Go.IntKind.i64.wrap (x0.2.1 + x1) ∧ (Go.IntKind.i64.wrap (x0.2.1 + x1)).toNat ≤ x0.1.length) then
            bif decide ((0 : Nat) = (0 : Nat) ∧ (0 : Nat) + (List.take ((Go.IntKind.i64.wrap (x0.2.1 + x1)).toNat - x0.2.1.toNat) (List.drop x0.2.1.toNat x0.1)).length ≤ (140737488355328 : Nat)) then
              bif decide (([] ++ List.take ((Go.IntKind.i64.wrap (x0.2.1 + x1)).toNat - x0.2.1.toNat) (List.drop x0.2.1.toNat x0.1)).length = (0 : Nat) + (List.take ((Go.IntKind.i64.wrap (x0.2.1 + x1)).toNat - x0.2.1.toNat) (List.drop x0.2.1.toNat x0.1)).length) then
                some ((x0.1, ((Go.IntKind.i64.wrap (x0.2.1 + x1)), x0.2.2)), ([] ++ List.take ((Go.IntKind.i64.wrap (x0.2.1 + x1)).toNat - x0.2.1.toNat) (List.drop x0.2.1.toNat x0.1)))
              else none
            else none
          else none
  else bif x0.2.2 != (0 : Int) then
      some ((x0.1, (x0.2.1, x0.2.2)), [])
    else bif decide ((0 : Int) ≤ x0.2.1 ∧ x0.2.1 ≤ Go.IntKind.i64.wrap (x0.2.1 + x1) ∧ (Go.IntKind.i64.wrap (x0.2.1 + x1)).toNat ≤ x0.1.length) then
        bif decide ((0 : Nat) = (0 : Nat) ∧ (0 : Nat) + (List.take ((Go.IntKind.i64.wrap (x0.2.1 + x1)).toNat - x0.2.1.toNat) (List.drop x0.2.1.toNat x0.1)).length ≤ (140737488355328 : Nat)) then
          bif decide (([] ++ List.take ((Go.IntKind.i64.wrap (x0.2.1 + x1)).toNat - x0.2.1.toNat) (List.drop x0.2.1.toNat x0.1)).length = (0 : Nat) + (List.take ((Go.IntKind.i64.wrap (x0.2.1 + x1)).toNat - x0.2.1.toNat) (List.drop x0.2.1.toNat x0.1)).length) then
            some ((x0.1, ((Go.IntKind.i64.wrap (x0.2.1 + x1)), x0.2.2)), ([] ++ List.take ((Go.IntKind.i64.wrap (x0.2.1 + x1)).toNat - x0.2.1.toNat) (List.drop x0.2.1.toNat x0.1)))
          else none
        else none
      else none
noncomputable def m_r01_Same (x0 : (List Int)) (x1 : (List Int)) : Option Bool :=
  some ((Go.strOfNums x0).toList == (Go.strOfNums x1).toList)
noncomputable def e_r01_Same : TEnt := ⟨29, .cons (.sl (.int .u8)) (.sl (.int .u8)), [], [(.bool, [])], fun s => m_r01_Same s.1 s.2⟩
theorem e_r01_Same_ok : EntT Try.prog e_r01_Same := ent_of (tab := []) (loops := []) (joins := []) _ (by intro e he; simp at he) (fun s => by kernel_rfl) (by kernel_rfl)
noncomputable def m_r07_Size (x0 : Int) (x1 : Int) : Option Bool :=
  bif decide ((1 : Int) ≤ x0) then
    bif decide (x0 ≤ (512 : Int)) then
      bif decide ((1 : Int) ≤ x1) then
        some (decide (x1 ≤ (512 : Int)))
      else some Bool.false
    else some Bool.false
  else some Bool.false
noncomputable def e_r07_Size : TEnt := ⟨59, .cons (.int .i64) (.int .i64), [], [(.bool, [])], fun s => m_r07_Size s.1 s.2⟩
theorem e_r07_Size_ok : EntT Try.prog e_r07_Size := ent_of (tab := []) (loops := []) (joins := []) _ (by intro e he; simp at he) (fun s => by kernel_rfl) (by kernel_rfl)
noncomputable def m_num_Read_l1_step (x2 : (List Int)) (x3 : Int) (x4 : Int) : Option (((List Int) × (Int × Int)) ⊕ (Int × (Int × Int))) :=
  bif x4 == (↑(List.length x2) : Int) then
    some (Sum.inr (((0 : Int)), (((0 : Int)), ((4 : Int)))))
  else bif decide ((0 : Int) ≤ x4) then
      Option.bind (x2[x4.toNat]?) fun (x5 : Int) =>
        bif x4 == (9 : Int) then
          bif decide ((1 : Int) < Go.IntKind.u64.wrap x5) then
            some (Sum.inr (((0 : Int)), (((0 : Int)), ((3 : Int)))))
          else bif decide ((0 : Int) < x4) then
              bif Go.IntKind.u64.wrap x5 == (0 : Int) then
                some (Sum.inr (((0 : Int)), (((0 : Int)), ((3 : Int)))))
              else bif decide ((0 : Int) ≤ Go.IntKind.i64.wrap ((7 : Int) * x4)) then
                  bif Go.bits Go.BinOp.and Go.IntKind.u64 (Go.IntKind.u64.wrap x5) (128 : Int) != (0 : Int) then
                    some (Sum.inl (x2, ((Go.bits Go.BinOp.or Go.IntKind.u64 x3 (Go.IntKind.u64.wrap (Go.bits Go.BinOp.and Go.IntKind.u64 (Go.IntKind.u64.wrap x5) (127 : Int) * (2 : Int) ^ Min.min (Go.IntKind.i64.wrap ((7 : Int) * x4)).toNat (64 : Nat)))), (Go.IntKind.i64.wrap (x4 + (1 : Int))))))
                  else some (Sum.inr ((Go.bits Go.BinOp.or Go.IntKind.u64 x3 (Go.IntKind.u64.wrap (Go.bits Go.BinOp.and Go.IntKind.u64 (Go.IntKind.u64.wrap x5) (127 : Int) * (2 : Int) ^ Min.min (Go.IntKind.i64.wrap ((7 : Int) * x4)).toNat (64 : Nat)))), ((Go.IntKind.i64.wrap (x4 + (1 : Int))), ((0 : Int)))))
                else none
            else bif decide ((0 : Int) ≤ Go.IntKind.i64.wrap ((7 : Int) * x4)) then
                bif Go.bits Go.BinOp.and Go.IntKind.u64 (Go.IntKind.u64.wrap x5) (128 : Int) != (0 : Int) then
                  some (Sum.inl (x2, ((Go.bits Go.BinOp.or Go.IntKind.u64 x3 (Go.IntKind.u64.wrap (Go.bits Go.BinOp.and Go.IntKind.u64 (Go.IntKind.u64.wrap x5) (127 : Int) * (2 : Int) ^ Min.min (Go.IntKind.i64.wrap ((7 : Int) * x4)).toNat (64 : Nat)))), (Go.IntKind.i64.wrap (x4 + (1 : Int))))))
                else some (Sum.inr ((Go.bits Go.BinOp.or Go.IntKind.u64 x3 (Go.IntKind.u64.wrap (Go.bits Go.BinOp.and Go.IntKind.u64 (Go.IntKind.u64.wrap x5) (127 : Int) * (2 : Int) ^ Min.min (Go.IntKind.i64.wrap ((7 : Int) * x4)).toNat (64 : Nat)))), ((Go.IntKind.i64.wrap (x4 + (1 : Int))), ((0 : Int)))))
              else none
        else bif decide ((0 : Int) < x4) then
            bif Go.IntKind.u64.wrap x5 == (0 : Int) then
              some (Sum.inr (((0 : Int)), (((0 : Int)), ((3 : Int)))))
            else bif decide ((0 : Int) ≤ Go.IntKind.i64.wrap ((7 : Int) * x4)) then
                bif Go.bits Go.BinOp.and Go.IntKind.u64 (Go.IntKind.u64.wrap x5) (128 : Int) != (0 : Int) then
                  some (Sum.inl (x2, ((Go.bits Go.BinOp.or Go.IntKind.u64 x3 (Go.IntKind.u64.wrap (Go.bits Go.BinOp.and Go.IntKind.u64 (Go.IntKind.u64.wrap x5) (127 : Int) * (2 : Int) ^ Min.min (Go.IntKind.i64.wrap ((7 : Int) * x4)).toNat (64 : Nat)))), (Go.IntKind.i64.wrap (x4 + (1 : Int))))))
                else some (Sum.inr ((Go.bits Go.BinOp.or Go.IntKind.u64 x3 (Go.IntKind.u64.wrap (Go.bits Go.BinOp.and Go.IntKind.u64 (Go.IntKind.u64.wrap x5) (127 : Int) * (2 : Int) ^ Min.min (Go.IntKind.i64.wrap ((7 : Int) * x4)).toNat (64 : Nat)))), ((Go.IntKind.i64.wrap (x4 + (1 : Int))), ((0 : Int)))))
              else none
          else bif decide ((0 : Int) ≤ Go.IntKind.i64.wrap ((7 : Int) * x4)) then
              bif Go.bits Go.BinOp.and Go.IntKind.u64 (Go.IntKind.u64.wrap x5) (128 : Int) != (0 : Int) then
                some (Sum.inl (x2, ((Go.bits Go.BinOp.or Go.IntKind.u64 x3 (Go.IntKind.u64.wrap (Go.bits Go.BinOp.and Go.IntKind.u64 (Go.IntKind.u64.wrap x5) (127 : Int) * (2 : Int) ^ Min.min (Go.IntKind.i64.wrap ((7 : Int) * x4)).toNat (64 : Nat)))), (Go.IntKind.i64.wrap (x4 + (1 : Int))))))
              else some (Sum.inr ((Go.bits Go.BinOp.or Go.IntKind.u64 x3 (Go.IntKind.u64.wrap (Go.bits Go.BinOp.and Go.IntKind.u64 (Go.IntKind.u64.wrap x5) (127 : Int) * (2 : Int) ^ Min.min (Go.IntKind.i64.wrap ((7 : Int) * x4)).toNat (64 : Nat)))), ((Go.IntKind.i64.wrap (x4 + (1 : Int))), ((0 : Int)))))
            else none
    else none
noncomputable def m_num_Read_l1 : ((List Int) × (Int × Int)) → Option (Int × (Int × Int)) := loopM fun s => m_num_Read_l1_step s.1 s.2.1 s.2.2
noncomputable def m_num_Read (x0 : (List Int)) : Option (Int × (Int × Int)) :=
  bif (0 : Int) == (↑x0.length : Int) then
    some (((0 : Int)), (((0 : Int)), ((4 : Int))))
  else Option.bind (x0[(0 : Nat)]?) fun (x1 : Int) =>
      bif Go.bits Go.BinOp.and Go.IntKind.u64 (Go.IntKind.u64.wrap x1) (128 : Int) != (0 : Int) then
        Option.bind (m_num_Read_l1 (x0, ((Go.bits Go.BinOp.or Go.IntKind.u64 (0 : Int) (Go.IntKind.u64.wrap (Go.bits Go.BinOp.and Go.IntKind.u64 (Go.IntKind.u64.wrap x1) (127 : Int) * (1 : Int)))), ((1 : Int))))) fun (x2 : (Int × (Int × Int))) =>
          some x2
      else some ((Go.bits Go.BinOp.or Go.IntKind.u64 (0 : Int) (Go.IntKind.u64.wrap (Go.bits Go.BinOp.and Go.IntKind.u64 (Go.IntKind.u64.wrap x1) (127 : Int) * (1 : Int)))), (((1 : Int)), ((0 : Int))))
noncomputable def e_num_Read : TEnt := ⟨72, .sl (.int .u8), [], [(.tup (.cons (.int .u64) (.cons (.int .i64) (.int .i64))), [])], fun s => m_num_Read s⟩
theorem e_num_Read_ok : EntT Try.prog e_num_Read := ent_of (tab := []) (loops := [(608, [0, 5, 6], (.cons (.sl (.int .u8)) (.cons (.int .u64) (.int .i64))), [])]) (joins := []) _ (by intro e he; simp at he) (fun s => by kernel_rfl) (by kernel_rfl)
noncomputable def m_num_Bytes_l1_step (x4 : (Int × ((List Int) × (Int × Int)))) (x5 : (List Int)) : Option (((Int × ((List Int) × (Int × Int))) × (List Int)) ⊕ ((((List Int) × (Int × Int)) × (List Int)) ⊕ (List Int))) :=
  bif decide ((127 : Int) < x4.1) then
    bif decide ((1 : Nat) = (1 : Nat)) then
      bif decide (x5.length = x5.length ∧ x5.length + (1 : Nat) ≤ (140737488355328 : Nat)) then
        bif decide (x5.length + (1 : Nat) = (x5 ++ [Go.IntKind.u8.wrap (Go.bits Go.BinOp.or Go.IntKind.u64 (Go.bits Go.BinOp.and Go.IntKind.u64 x4.1 (127 : Int)) (128 : Int))]).length) then
          some (Sum.inl (((x4.1.fdiv (128 : Int)), (x4.2.1, (x4.2.2.1, x4.2.2.2))), (x5 ++ [Go.IntKind.u8.wrap (Go.bits Go.BinOp.or Go.IntKind.u64 (Go.bits Go.BinOp.and Go.IntKind.u64 x4.1 (127 : Int)) (128 : Int))])))
        else none
      else none
    else none
  else bif decide ((1 : Nat) = (1 : Nat)) then
      bif decide (x5.length = x5.length ∧ x5.length + (1 : Nat) ≤ (140737488355328 : Nat)) then
        bif decide (x5.length + (1 : Nat) = (x5 ++ [Go.IntKind.u8.wrap x4.1]).length) then
          some (Sum.inr (Sum.inl ((x4.2.1, (x4.2.2.1, (Go.IntKind.i64.wrap (x4.2.2.2 + (1 : Int))))), (x5 ++ [Go.IntKind.u8.wrap x4.1]))))
        else none
      else none
    else none
noncomputable def m_num_Bytes_l1 : ((Int × ((List Int) × (Int × Int))) × (List Int)) → Option ((((List Int) × (Int × Int)) × (List Int)) ⊕ (List Int)) := loopM fun s => m_num_Bytes_l1_step s.1 s.2
noncomputable def m_num_Bytes_l2_step (x1 : ((List Int) × (Int × Int))) (x2 : (List Int)) : Option ((((List Int) × (Int × Int)) × (List Int)) ⊕ (List Int)) :=
  bif decide (x1.2.2 < x1.2.1) then
    bif decide ((0 : Int) ≤ x1.2.2) then
      Option.bind (x1.1[x1.2.2.toNat]?) fun (x3 : Int) =>
        bif decide (x2.length = x2.length) then
          Option.bind (m_num_Bytes_l1 ((x3, (x1.1, (x1.2.1, x1.2.2))), x2)) fun (x4 : ((((List Int) × (Int × Int)) × (List Int)) ⊕ (List Int))) =>
            some x4
        else none
    else none
  else bif decide (x2.length = x2.length) then
      some (Sum.inr x2)
    else none
noncomputable def m_num_Bytes_l2 : (((List Int) × (Int × Int)) × (List Int)) → Option (List Int) := loopM fun s => m_num_Bytes_l2_step s.1 s.2
noncomputable def m_num_Bytes (x0 : (List Int)) : Option (List Int) :=
  Option.bind (m_num_Bytes_l2 ((x0, (((↑x0.length : Int)), ((0 : Int)))), [])) fun (x1 : (List Int)) =>
    some x1
noncomputable def e_num_Bytes : TEnt := ⟨56, .sl (.int .u64), [], [(.sl (.int .u8), [])], fun s => m_num_Bytes s⟩
theorem e_num_Bytes_ok : EntT Try.prog e_num_Bytes := ent_of (tab := []) (loops := [(4682, [3, 6, 7, 8], (.cons (.own 0) (.cons (.sl (.int .u64)) (.cons (.int .i64) (.int .i64)))), [.li (.int .u8) 5 false]), (1227428490, [3, 5, 6, 7, 8], (.cons (.own 0) (.cons (.int .u64) (.cons (.sl (.int .u64)) (.cons (.int .i64) (.int .i64))))), [.li (.int .u8) 5 false])]) (joins := []) _ (by intro e he; simp at he) (fun s => by kernel_rfl) (by kernel_rfl)
end Go.Sim

set_option maxRecDepth 100000
set_option maxHeartbeats 0
set_option linter.unusedVariables false
namespace Go.Sim
open Go.Proofs
noncomputable def m_num_New (x0 : (List Int)) : Option (Unit ⊕ ((List Int) × (Int × Int))) :=
  some (Sum.inr (x0, (((0 : Int)), ((0 : Int)))))
noncomputable def e_num_New : TEnt := ⟨45, .sl (.int .u8), [], [(.cst (.pointer none), []), (.ptr 0 0, [.st (.cons (.sl (.int .u8)) (.cons (.int .i64) (.int .i64)))])], fun s => m_num_New s⟩
theorem e_num_New_ok : EntT Try.prog e_num_New := ent_of (tab := []) (loops := []) (joins := []) _ (by intro e he; simp at he) (fun s => by kernel_rfl) (by kernel_rfl)
noncomputable def m_num_Err (x0 : (List Int)) (x1 : Int) (x2 : Int) : Option (Int × ((List Int) × (Int × Int))) :=
  some (x2, (x0, (x1, x2)))
noncomputable def e_num_Err : TEnt := ⟨47, .ptr 0 0, [.st (.cons (.sl (.int .u8)) (.cons (.int .i64) (.int .i64)))], [(.int .i64, [.st (.cons (.sl (.int .u8)) (.cons (.int .i64) (.int .i64)))])], fun s => m_num_Err s.1 s.2.1 s.2.2⟩
theorem e_num_Err_ok : EntT Try.prog e_num_Err := ent_of (tab := []) (loops := []) (joins := []) _ (by intro e he; simp at he) (fun s => by kernel_rfl) (by kernel_rfl)
noncomputable def m_num_Fail (x0 : Int) (x1 : (List Int)) (x2 : Int) (x3 : Int) : Option ((List Int) × (Int × Int)) :=
  bif x3 == (0 : Int) then
    some (x1, (x2, x0))
  else some (x1, (x2, x3))
noncomputable def e_num_Fail : TEnt := ⟨48, .cons (.ptr 0 0) (.int .i64), [.st (.cons (.sl (.int .u8)) (.cons (.int .i64) (.int .i64)))], [(.tup .nil, [.st (.cons (.sl (.int .u8)) (.cons (.int .i64) (.int .i64)))])], fun s => m_num_Fail s.1 s.2.1 s.2.2.1 s.2.2.2⟩
theorem e_num_Fail_ok : EntT Try.prog e_num_Fail := ent_of (tab := []) (loops := []) (joins := []) _ (by intro e he; simp at he) (fun s => by kernel_rfl) (by kernel_rfl)
noncomputable def m_num_At (x0 : (List Int)) (x1 : Int) (x2 : Int) : Option (Int × ((List Int) × (Int × Int))) :=
  some (x1, (x0, (x1, x2)))
noncomputable def e_num_At : TEnt := ⟨49, .ptr 0 0, [.st (.cons (.sl (.int .u8)) (.cons (.int .i64) (.int .i64)))], [(.int .i64, [.st (.cons (.sl (.int .u8)) (.cons (.int .i64) (.int .i64)))])], fun s => m_num_At s.1 s.2.1 s.2.2⟩
theorem e_num_At_ok : EntT Try.prog e_num_At := ent_of (tab := []) (loops := []) (joins := []) _ (by intro e he; simp at he) (fun s => by kernel_rfl) (by kernel_rfl)
noncomputable def m_num_drop (x0 : Int) (x1 : (List Int)) (x2 : Int) (x3 : Int) : Option ((List Int) × ((List Int) × (Int × Int))) :=
  bif decide ((0 : Int) ≤ x0 ∧ Int.toNat x0 ≤ List.length x1) then
    bif decide ((0 : Int) ≤ x0 ∧ Int.toNat x0 ≤ List.length x1) then
      some ((List.take (Int.toNat x0) x1), ((List.drop (Int.toNat x0) x1), ((Go.IntKind.i64.wrap (x2 + x0)), x3)))
    else none
  else none
noncomputable def e_num_drop : TEnt := ⟨73, .cons (.ptr 0 0) (.int .i64), [.st (.cons (.sl (.int .u8)) (.cons (.int .i64) (.int .i64)))], [(.sl (.int .u8), [.st (.cons (.sl (.int .u8)) (.cons (.int .i64) (.int .i64)))])], fun s => m_num_drop s.1 s.2.1 s.2.2.1 s.2.2.2⟩
theorem e_num_drop_ok : EntT Try.prog e_num_drop := ent_of (tab := []) (loops := []) (joins := []) _ (by intro e he; simp at he) (fun s => by kernel_rfl) (by kernel_rfl)
noncomputable def m_num_Number (x0 : (List Int)) (x1 : Int) (x2 : Int) : Option (Int × ((List Int) × (Int × Int))) :=
  bif x2 != (0 : Int) then
    some (((0 : Int)), (x0, (x1, x2)))
  else Option.bind (m_num_Read x0) fun (x3 : (Int × (Int × Int))) =>
      bif x3.2.2 != (0 : Int) then
        some (((0 : Int)), (x0, (x1, x3.2.2)))
      else Option.bind (m_num_drop x3.2.1 x0 x1 x2) fun (x4 : ((List Int) × ((List Int) × (Int × Int)))) =>
          some (x3.1, (x4.2.1, (x4.2.2.1, x4.2.2.2)))
noncomputable def e_num_Number : TEnt := ⟨68, .ptr 0 0, [.st (.cons (.sl (.int .u8)) (.cons (.int .i64) (.int .i64)))], [(.int .u64, [.st (.cons (.sl (.int .u8)) (.cons (.int .i64) (.int .i64)))])], fun s => m_num_Number s.1 s.2.1 s.2.2⟩
theorem e_num_Number_ok : EntT Try.prog e_num_Number := ent_of (tab := [e_num_Read, e_num_drop]) (loops := []) (joins := []) _ (by
    intro e he
    simp only [List.mem_cons, List.not_mem_nil, or_false] at he
    rcases he with rfl | rfl
    · exact e_num_Read_ok
    · exact e_num_drop_ok) (fun s => by kernel_rfl) (by kernel_rfl)
noncomputable def m_num_under_1 (x0 : Int) (x1 : Int) : Option (Bool × Int) :=
  bif decide ((0 : Int) ≤ x1) then
    some ((decide (x0 ≤ Go.IntKind.u64.wrap x1)), x1)
  else some (Bool.false, x1)
noncomputable def e_num_under_1 : TEnt := ⟨71, .cons (.int .u64) (.ptr 0 0), [.st (.int .i64)], [(.bool, [.st (.int .i64)])], fun s => m_num_under_1 s.1 s.2⟩
theorem e_num_under_1_ok : EntT Try.prog e_num_under_1 := ent_of (tab := []) (loops := []) (joins := []) _ (by intro e he; simp at he) (fun s => by kernel_rfl) (by kernel_rfl)
noncomputable def m_num_under (x0 : Int) : Option Int :=
  some x0
noncomputable def e_num_under : TEnt := ⟨67, .int .i64, [], [(.fn 71 .nil (.ptr 0 0), [.st (.int .i64)])], fun s => m_num_under s⟩
theorem e_num_under_ok : EntT Try.prog e_num_under := ent_of (tab := [e_num_under_1]) (loops := []) (joins := []) _ (by
    intro e he
    simp only [List.mem_cons, List.not_mem_nil, or_false] at he
    rcases he with rfl
    · exact e_num_under_1_ok) (fun s => by kernel_rfl) (by kernel_rfl)
end Go.Sim

set_option maxRecDepth 100000
set_option maxHeartbeats 0
set_option linter.unusedVariables false
namespace Go.Sim
open Go.Proofs
noncomputable def m_num_bounded (x0 : Int) (x1 : ((List Int) × (Int × Int))) (x2 : Int) : Option (Int × (((List Int) × (Int × Int)) × Int)) :=
  bif x1.2.2 != (0 : Int) then
    some (((0 : Int)), ((x1.1, (x1.2.1, x1.2.2)), x2))
  else Option.bind (m_num_Number x1.1 x1.2.1 x1.2.2) fun (x3 : (Int × ((List Int) × (Int × Int)))) =>
      bif x3.2.2.2 == (0 : Int) then
        Option.bind (m_num_under_1 x3.1 x2) fun (x4 : (Bool × Int)) =>
          bif !x4.1 then
            some (((0 : Int)), ((x1.1, (x1.2.1, x0)), x4.2))
          else some ((Go.IntKind.i64.wrap x3.1), ((x3.2.1, (x3.2.2.1, x3.2.2.2)), x4.2))
      else some ((Go.IntKind.i64.wrap x3.1), ((x3.2.1, (x3.2.2.1, x3.2.2.2)), x2))
noncomputable def e_num_bounded : TEnt := ⟨66, .cons (.ptr 0 0) (.cons (.fn 71 .nil (.ptr 1 0)) (.int .i64)), [.st (.cons (.sl (.int .u8)) (.cons (.int .i64) (.int .i64))), .st (.int .i64)], [(.int .i64, [.st (.cons (.sl (.int .u8)) (.cons (.int .i64) (.int .i64))), .st (.int .i64)])], fun s => m_num_bounded s.1 s.2.1 s.2.2⟩
theorem e_num_bounded_ok : EntT Try.prog e_num_bounded := ent_of (tab := [e_num_Number, e_num_under_1]) (loops := []) (joins := []) _ (by
    intro e he
    simp only [List.mem_cons, List.not_mem_nil, or_false] at he
    rcases he with rfl | rfl
    · exact e_num_Number_ok
    · exact e_num_under_1_ok) (fun s => by kernel_rfl) (by kernel_rfl)
noncomputable def m_num_Upto (x0 : Int) (x1 : (List Int)) (x2 : Int) (x3 : Int) : Option (Int × ((List Int) × (Int × Int))) :=
  Option.bind (m_num_under x0) fun (x4 : Int) =>
    Option.bind (m_num_bounded (5 : Int) (x1, x2, x3) x4) fun (x5 : (Int × (((List Int) × (Int × Int)) × Int))) =>
      some (x5.1, (x5.2.1.1, (x5.2.1.2.1, x5.2.1.2.2)))
noncomputable def e_num_Upto : TEnt := ⟨46, .cons (.ptr 0 0) (.int .i64), [.st (.cons (.sl (.int .u8)) (.cons (.int .i64) (.int .i64)))], [(.int .i64, [.st (.cons (.sl (.int .u8)) (.cons (.int .i64) (.int .i64)))])], fun s => m_num_Upto s.1 s.2.1 s.2.2.1 s.2.2.2⟩
theorem e_num_Upto_ok : EntT Try.prog e_num_Upto := ent_of (tab := [e_num_under, e_num_bounded]) (loops := []) (joins := []) _ (by
    intro e he
    simp only [List.mem_cons, List.not_mem_nil, or_false] at he
    rcases he with rfl | rfl
    · exact e_num_under_ok
    · exact e_num_bounded_ok) (fun s => by kernel_rfl) (by kernel_rfl)
noncomputable def m_slices_Clone8 (x0 : (List Int)) : Option (List Int) :=
  bif decide (x0.length = (0 : Nat)) then
    Go.Sim.bothM (
      some []) (
      bif decide ((0 : Nat) = (0 : Nat) ∧ (0 : Nat) + x0.length ≤ (140737488355328 : Nat)) then
        bif decide (([] ++ x0).length = (0 : Nat) + x0.length) then
          some ([] ++ x0)
        else none
      else none)
  else bif decide ((0 : Nat) = (0 : Nat) ∧ (0 : Nat) + x0.length ≤ (140737488355328 : Nat)) then
      bif decide (([] ++ x0).length = (0 : Nat) + x0.length) then
        some ([] ++ x0)
      else none
    else none
noncomputable def e_slices_Clone8 : TEnt := ⟨74, .sl (.int .u8), [], [(.sl (.int .u8), [])], fun s => m_slices_Clone8 s⟩
theorem e_slices_Clone8_ok : EntT Try.prog e_slices_Clone8 := ent_of (tab := []) (loops := []) (joins := []) _ (by intro e he; simp at he) (fun s => by kernel_rfl) (by kernel_rfl)
noncomputable def m_num_Take (x0 : Int) (x1 : (List Int)) (x2 : Int) (x3 : Int) : Option ((List Int) × ((List Int) × (Int × Int))) :=
  bif x3 != (0 : Int) then
    some ([], (x1, (x2, x3)))
  else bif decide (x0 < (0 : Int)) then
      some ([], (x1, (x2, ((4 : Int)))))
    else bif decide ((↑(List.length x1) : Int) < x0) then
        some ([], (x1, (x2, ((4 : Int)))))
      else Option.bind (m_num_drop x0 x1 x2 x3) fun (x4 : ((List Int) × ((List Int) × (Int × Int)))) =>
          Option.bind (m_slices_Clone8 x4.1) fun (x5 : (List Int)) =>
            some (x5, (x4.2.1, (x4.2.2.1, x4.2.2.2)))
noncomputable def e_num_Take : TEnt := ⟨69, .cons (.ptr 0 0) (.int .i64), [.st (.cons (.sl (.int .u8)) (.cons (.int .i64) (.int .i64)))], [(.sl (.int .u8), [.st (.cons (.sl (.int .u8)) (.cons (.int .i64) (.int .i64)))])], fun s => m_num_Take s.1 s.2.1 s.2.2.1 s.2.2.2⟩
theorem e_num_Take_ok : EntT Try.prog e_num_Take := ent_of (tab := [e_num_drop, e_slices_Clone8]) (loops := []) (joins := []) _ (by
    intro e he
    simp only [List.mem_cons, List.not_mem_nil, or_false] at he
    rcases he with rfl | rfl
    · exact e_num_drop_ok
    · exact e_slices_Clone8_ok) (fun s => by kernel_rfl) (by kernel_rfl)
noncomputable def m_tape_one (x0 : (List Int)) (x1 : Int) (x2 : Int) : Option ((Int × ((List Int) × (Int × (Int × Int)))) × ((List Int) × (Int × Int))) :=
  Option.bind (m_num_Number x0 x1 x2) fun (x3 : (Int × ((List Int) × (Int × Int)))) =>
    Option.bind (
      Option.bind (m_num_Err x3.2.1 x3.2.2.1 x3.2.2.2) fun (x4 : (Int × ((List Int) × (Int × Int)))) =>
        bif x4.1 == (0 : Int) then
          bif decide (x3.1 < (1 : Int)) then
            some (Sum.inl ((x3.1, Bool.true), ((x4.2.1, (x4.2.2.1, x4.2.2.2)), ((((0 : Int)), (((0 : Int)), (((0 : Int)), ((0 : Int))))), (((0 : Int)), (((0 : Int)), (((0 : Int)), ((0 : Int)))))))))
          else some (Sum.inl ((x3.1, (decide ((5 : Int) < x3.1))), ((x4.2.1, (x4.2.2.1, x4.2.2.2)), ((((0 : Int)), (((0 : Int)), (((0 : Int)), ((0 : Int))))), (((0 : Int)), (((0 : Int)), (((0 : Int)), ((0 : Int)))))))))
        else some (Sum.inl ((x3.1, Bool.false), ((x4.2.1, (x4.2.2.1, x4.2.2.2)), ((((0 : Int)), (((0 : Int)), (((0 : Int)), ((0 : Int))))), (((0 : Int)), (((0 : Int)), (((0 : Int)), ((0 : Int)))))))))) fun (x4 : (((Int × Bool) × (((List Int) × (Int × Int)) × ((Int × (Int × (Int × Int))) × (Int × (Int × (Int × Int)))))) ⊕ ((Int × ((List Int) × (Int × (Int × Int)))) × ((List Int) × (Int × Int))))) =>
      match x4 with
      | Sum.inl x5 =>
          Option.bind (
            bif x5.1.2 then
              Option.bind (m_num_Fail (9 : Int) x5.2.1.1 x5.2.1.2.1 x5.2.1.2.2) fun (x6 : ((List Int) × (Int × Int))) =>
                some (Sum.inl (x5.1.1, ((x6.1, (x6.2.1, x6.2.2)), ((x5.2.2.1.1, (x5.2.2.1.2.1, (x5.2.2.1.2.2.1, x5.2.2.1.2.2.2))), (x5.2.2.2.1, (x5.2.2.2.2.1, (x5.2.2.2.2.2.1, x5.2.2.2.2.2.2)))))))
            else some (Sum.inl (x5.1.1, ((x5.2.1.1, (x5.2.1.2.1, x5.2.1.2.2)), ((x5.2.2.1.1, (x5.2.2.1.2.1, (x5.2.2.1.2.2.1, x5.2.2.1.2.2.2))), (x5.2.2.2.1, (x5.2.2.2.2.1, (x5.2.2.2.2.2.1, x5.2.2.2.2.2.2)))))))) fun (x6 : ((Int × (((List Int) × (Int × Int)) × ((Int × (Int × (Int × Int))) × (Int × (Int × (Int × Int)))))) ⊕ ((Int × ((List Int) × (Int × (Int × Int)))) × ((List Int) × (Int × Int))))) =>
            match x6 with
            | Sum.inl x7 =>
                Option.bind (m_num_Err x7.2.1.1 x7.2.1.2.1 x7.2.1.2.2) fun (x8 : (Int × ((List Int) × (Int × Int)))) =>
                  bif x8.1 != (0 : Int) then
                    some ((x7.2.2.2.1, ([], (x7.2.2.2.2.1, (x7.2.2.2.2.2.1, x7.2.2.2.2.2.2)))), (x8.2.1, (x8.2.2.1, x8.2.2.2)))
                  else Option.bind (
                      bif Go.IntKind.i64.wrap x7.1 == (1 : Int) then
                        some (Sum.inl (((Go.IntKind.i64.wrap x7.1), Bool.true), ((x8.2.1, (x8.2.2.1, x8.2.2.2)), ((x7.2.2.1.1, (x7.2.2.1.2.1, (x7.2.2.1.2.2.1, x7.2.2.1.2.2.2))), ((Go.IntKind.i64.wrap x7.1), (x7.2.2.2.2.1, (x7.2.2.2.2.2.1, x7.2.2.2.2.2.2)))))))
                      else some (Sum.inl (((Go.IntKind.i64.wrap x7.1), (Go.IntKind.i64.wrap x7.1 == (2 : Int))), ((x8.2.1, (x8.2.2.1, x8.2.2.2)), ((x7.2.2.1.1, (x7.2.2.1.2.1, (x7.2.2.1.2.2.1, x7.2.2.1.2.2.2))), ((Go.IntKind.i64.wrap x7.1), (x7.2.2.2.2.1, (x7.2.2.2.2.2.1, x7.2.2.2.2.2.2)))))))) fun (x9 : (((Int × Bool) × (((List Int) × (Int × Int)) × ((Int × (Int × (Int × Int))) × (Int × (Int × (Int × Int)))))) ⊕ ((Int × ((List Int) × (Int × (Int × Int)))) × ((List Int) × (Int × Int))))) =>
                      match x9 with
                      | Sum.inl x10 =>
                          bif x10.1.2 then
                            Option.bind (m_num_Upto (4096 : Int) x10.2.1.1 x10.2.1.2.1 x10.2.1.2.2) fun (x11 : (Int × ((List Int) × (Int × Int)))) =>
                              Option.bind (m_num_Take x11.1 x11.2.1 x11.2.2.1 x11.2.2.2) fun (x12 : ((List Int) × ((List Int) × (Int × Int)))) =>
                                some ((x10.2.2.2.1, (x12.1, (x10.2.2.2.2.1, (x10.2.2.2.2.2.1, x10.2.2.2.2.2.2)))), (x12.2.1, (x12.2.2.1, x12.2.2.2)))
                          else bif x10.1.1 == (4 : Int) then
                              Option.bind (m_num_Upto (1048576 : Int) x10.2.1.1 x10.2.1.2.1 x10.2.1.2.2) fun (x11 : (Int × ((List Int) × (Int × Int)))) =>
                                Option.bind (m_num_Upto (1048576 : Int) x11.2.1 x11.2.2.1 x11.2.2.2) fun (x12 : (Int × ((List Int) × (Int × Int)))) =>
                                  some ((x10.2.2.2.1, ([], (x10.2.2.2.2.1, (x11.1, x12.1)))), (x12.2.1, (x12.2.2.1, x12.2.2.2)))
                            else Option.bind (m_num_Number x10.2.1.1 x10.2.1.2.1 x10.2.1.2.2) fun (x11 : (Int × ((List Int) × (Int × Int)))) =>
                                some ((x10.2.2.2.1, ([], (x11.1, (x10.2.2.2.2.2.1, x10.2.2.2.2.2.2)))), (x11.2.1, (x11.2.2.1, x11.2.2.2)))
                      | Sum.inr x10 =>
                          some x10
            | Sum.inr x7 =>
                some x7
      | Sum.inr x5 =>
          some x5
noncomputable def e_tape_one : TEnt := ⟨50, .ptr 0 0, [.st (.cons (.sl (.int .u8)) (.cons (.int .i64) (.int .i64)))], [(.agg (.cons (.int .i64) (.cons (.sl (.int .u8)) (.cons (.int .u64) (.cons (.int .i64) (.int .i64))))), [.st (.cons (.sl (.int .u8)) (.cons (.int .i64) (.int .i64)))])], fun s => m_tape_one s.1 s.2.1 s.2.2⟩
theorem e_tape_one_ok : EntT Try.prog e_tape_one := ent_of (tab := [e_num_Err, e_num_Fail, e_num_Number, e_num_Upto, e_num_Take]) (loops := []) (joins := [(585, [0, 2, 3, 4, 17], (.cons (.ptr 0 0) (.cons (.ptr 1 0) (.cons (.ptr 2 0) (.cons (.int .u64) .bool)))), [.st (.cons (.sl (.int .u8)) (.cons (.int .i64) (.int .i64))), .st (.cons (.int .i64) (.cons (.cst (.slice none 0 0)) (.cons (.int .u64) (.cons (.int .i64) (.int .i64))))), .st (.cons (.int .i64) (.cons (.cst (.slice none 0 0)) (.cons (.int .u64) (.cons (.int .i64) (.int .i64)))))]), (4681, [0, 2, 3, 4], (.cons (.ptr 0 0) (.cons (.ptr 1 0) (.cons (.ptr 2 0) (.int .u64)))), [.st (.cons (.sl (.int .u8)) (.cons (.int .i64) (.int .i64))), .st (.cons (.int .i64) (.cons (.cst (.slice none 0 0)) (.cons (.int .u64) (.cons (.int .i64) (.int .i64))))), .st (.cons (.int .i64) (.cons (.cst (.slice none 0 0)) (.cons (.int .u64) (.cons (.int .i64) (.int .i64)))))]), (9817068113, [0, 2, 3, 28, 32], (.cons (.ptr 0 0) (.cons (.ptr 1 0) (.cons (.ptr 2 0) (.cons (.int .i64) .bool)))), [.st (.cons (.sl (.int .u8)) (.cons (.int .i64) (.int .i64))), .st (.cons (.int .i64) (.cons (.cst (.slice none 0 0)) (.cons (.int .u64) (.cons (.int .i64) (.int .i64))))), .st (.cons (.int .i64) (.cons (.cst (.slice none 0 0)) (.cons (.int .u64) (.cons (.int .i64) (.int .i64)))))])]) _ (by
    intro e he
    simp only [List.mem_cons, List.not_mem_nil, or_false] at he
    rcases he with rfl | rfl | rfl | rfl | rfl
    · exact e_num_Err_ok
    · exact e_num_Fail_ok
    · exact e_num_Number_ok
    · exact e_num_Upto_ok
    · exact e_num_Take_ok) (fun s => by kernel_rfl) (by kernel_rfl)
noncomputable def m_tape_Parse_l1_step (x10 : ((List Int) × (Int × Int))) (x11 : ((List Int) × (Int × Int))) (x12 : (List (Int × ((List Int) × (Int × (Int × Int)))))) : Option ((((List Int) × (Int × Int)) × (((List Int) × (Int × Int)) × (List (Int × ((List Int) × (Int × (Int × Int))))))) ⊕ (Int × (Int × ((List (Int × ((List Int) × (Int × (Int × Int))))) × Int)))) :=
  Option.bind (m_num_Err x11.1 x11.2.1 x11.2.2) fun (x13 : (Int × ((List Int) × (Int × Int)))) =>
    bif x13.1 == (0 : Int) then
      Option.bind (m_num_At x13.2.1 x13.2.2.1 x13.2.2.2) fun (x14 : (Int × ((List Int) × (Int × Int)))) =>
        bif decide (x14.1 < Go.IntKind.i64.wrap ((↑x10.1.length : Int) - (1 : Int))) then
          Option.bind (m_tape_one x14.2.1 x14.2.2.1 x14.2.2.2) fun (x15 : ((Int × ((List Int) × (Int × (Int × Int)))) × ((List Int) × (Int × Int)))) =>
            bif decide ((1 : Nat) = (1 : Nat)) then
              bif decide (x12.length = x12.length ∧ x12.length + (1 : Nat) ≤ (2513169434916 : Nat)) then
                bif decide (x12.length + (1 : Nat) = (x12 ++ [(x15.1.1, x15.1.2.1, x15.1.2.2.1, x15.1.2.2.2.1, x15.1.2.2.2.2)]).length) then
                  some (Sum.inl ((x10.1, (x10.2.1, x10.2.2)), ((x15.2.1, (x15.2.2.1, x15.2.2.2)), (x12 ++ [(x15.1.1, x15.1.2.1, x15.1.2.2.1, x15.1.2.2.2.1, x15.1.2.2.2.2)]))))
                else none
              else none
            else none
        else Option.bind (m_num_Err x14.2.1 x14.2.2.1 x14.2.2.2) fun (x15 : (Int × ((List Int) × (Int × Int)))) =>
            bif x15.1 != (0 : Int) then
              some (Sum.inr (((0 : Int)), (((0 : Int)), ([], x15.1))))
            else bif decide (x12.length = x12.length) then
                some (Sum.inr (x10.2.1, (x10.2.2, (x12, ((0 : Int))))))
              else none
    else Option.bind (m_num_Err x13.2.1 x13.2.2.1 x13.2.2.2) fun (x14 : (Int × ((List Int) × (Int × Int)))) =>
        bif x14.1 != (0 : Int) then
          some (Sum.inr (((0 : Int)), (((0 : Int)), ([], x14.1))))
        else bif decide (x12.length = x12.length) then
            some (Sum.inr (x10.2.1, (x10.2.2, (x12, ((0 : Int))))))
          else none
noncomputable def m_tape_Parse_l1 : (((List Int) × (Int × Int)) × (((List Int) × (Int × Int)) × (List (Int × ((List Int) × (Int × (Int × Int))))))) → Option (Int × (Int × ((List (Int × ((List Int) × (Int × (Int × Int))))) × Int))) := loopM fun s => m_tape_Parse_l1_step s.1 s.2.1 s.2.2
noncomputable def m_tape_Parse (x0 : (List Int)) : Option (Int × (Int × ((List (Int × ((List Int) × (Int × (Int × Int))))) × Int))) :=
  Option.bind (
    bif (↑x0.length : Int) == (0 : Int) then
      some (Sum.inl ((x0, (((12 : Int)), Bool.true)), []))
    else Option.bind (x0[(0 : Nat)]?) fun (x1 : Int) =>
        some (Sum.inl ((x0, (((12 : Int)), (x1 != (84 : Int)))), []))) fun (x1 : ((((List Int) × (Int × Bool)) × (List (Int × ((List Int) × (Int × (Int × Int)))))) ⊕ (Int × (Int × ((List (Int × ((List Int) × (Int × (Int × Int))))) × Int))))) =>
    match x1 with
    | Sum.inl x2 =>
        bif x2.1.2.2 then
          some (((0 : Int)), (((0 : Int)), ([], x2.1.2.1)))
        else bif decide ((0 : Int) ≤ (1 : Int) ∧ (1 : Nat) ≤ x2.1.1.length) then
            Option.bind (m_num_New (List.drop (1 : Nat) x2.1.1)) fun (x3 : (Unit ⊕ ((List Int) × (Int × Int)))) =>
              match x3 with
              | Sum.inl x4 =>
                  none
              | Sum.inr x4 =>
                  Option.bind (m_num_Upto (512 : Int) x4.1 x4.2.1 x4.2.2) fun (x5 : (Int × ((List Int) × (Int × Int)))) =>
                    Option.bind (m_num_Upto (512 : Int) x5.2.1 x5.2.2.1 x5.2.2.2) fun (x6 : (Int × ((List Int) × (Int × Int)))) =>
                      Option.bind (m_num_Err x6.2.1 x6.2.2.1 x6.2.2.2) fun (x7 : (Int × ((List Int) × (Int × Int)))) =>
                        bif x7.1 == (0 : Int) then
                          bif x5.1 == (0 : Int) then
                            Option.bind (
                              Option.bind (m_num_Fail (11 : Int) x7.2.1 x7.2.2.1 x7.2.2.2) fun (x8 : ((List Int) × (Int × Int))) =>
                                bif decide (x2.2.length = x2.2.length) then
                                  some (Sum.inl ((x2.1.1, (x5.1, x6.1)), ((x8.1, (x8.2.1, x8.2.2)), x2.2)))
                                else none) fun (x8 : ((((List Int) × (Int × Int)) × (((List Int) × (Int × Int)) × (List (Int × ((List Int) × (Int × (Int × Int))))))) ⊕ (Int × (Int × ((List (Int × ((List Int) × (Int × (Int × Int))))) × Int))))) =>
                              match x8 with
                              | Sum.inl x9 =>
                                  bif decide (x9.2.2.length = x9.2.2.length) then
                                    Option.bind (m_tape_Parse_l1 ((x9.1.1, (x9.1.2.1, x9.1.2.2)), ((x9.2.1.1, (x9.2.1.2.1, x9.2.1.2.2)), x9.2.2))) fun (x10 : (Int × (Int × ((List (Int × ((List Int) × (Int × (Int × Int))))) × Int)))) =>
                                      some x10
                                  else none
                              | Sum.inr x9 =>
                                  some x9
                          else Option.bind (
                              bif x6.1 == (0 : Int) then
                                Option.bind (m_num_Fail (11 : Int) x7.2.1 x7.2.2.1 x7.2.2.2) fun (x8 : ((List Int) × (Int × Int))) =>
                                  bif decide (x2.2.length = x2.2.length) then
                                    some (Sum.inl ((x2.1.1, (x5.1, x6.1)), ((x8.1, (x8.2.1, x8.2.2)), x2.2)))
                                  else none
                              else bif decide (x2.2.length = x2.2.length) then
                                  some (Sum.inl ((x2.1.1, (x5.1, x6.1)), ((x7.2.1, (x7.2.2.1, x7.2.2.2)), x2.2)))
                                else none) fun (x8 : ((((List Int) × (Int × Int)) × (((List Int) × (Int × Int)) × (List (Int × ((List Int) × (Int × (Int × Int))))))) ⊕ (Int × (Int × ((List (Int × ((List Int) × (Int × (Int × Int))))) × Int))))) =>
                              match x8 with
                              | Sum.inl x9 =>
                                  bif decide (x9.2.2.length = x9.2.2.length) then
                                    Option.bind (m_tape_Parse_l1 ((x9.1.1, (x9.1.2.1, x9.1.2.2)), ((x9.2.1.1, (x9.2.1.2.1, x9.2.1.2.2)), x9.2.2))) fun (x10 : (Int × (Int × ((List (Int × ((List Int) × (Int × (Int × Int))))) × Int)))) =>
                                      some x10
                                  else none
                              | Sum.inr x9 =>
                                  some x9
                        else Option.bind (
                            bif decide (x2.2.length = x2.2.length) then
                              some (Sum.inl ((x2.1.1, (x5.1, x6.1)), ((x7.2.1, (x7.2.2.1, x7.2.2.2)), x2.2)))
                            else none) fun (x8 : ((((List Int) × (Int × Int)) × (((List Int) × (Int × Int)) × (List (Int × ((List Int) × (Int × (Int × Int))))))) ⊕ (Int × (Int × ((List (Int × ((List Int) × (Int × (Int × Int))))) × Int))))) =>
                            match x8 with
                            | Sum.inl x9 =>
                                bif decide (x9.2.2.length = x9.2.2.length) then
                                  Option.bind (m_tape_Parse_l1 ((x9.1.1, (x9.1.2.1, x9.1.2.2)), ((x9.2.1.1, (x9.2.1.2.1, x9.2.1.2.2)), x9.2.2))) fun (x10 : (Int × (Int × ((List (Int × ((List Int) × (Int × (Int × Int))))) × Int)))) =>
                                    some x10
                                else none
                            | Sum.inr x9 =>
                                some x9
          else none
    | Sum.inr x2 =>
        some x2
noncomputable def e_tape_Parse : TEnt := ⟨23, .sl (.int .u8), [], [(.tup (.cons (.int .i64) (.cons (.int .i64) (.cons (.sl (.pair (.int .i64) (.pair (.sl (.int .u8)) (.pair (.int .u64) (.pair (.int .i64) (.int .i64)))))) (.int .i64)))), [])], fun s => m_tape_Parse s⟩
theorem e_tape_Parse_ok : EntT Try.prog e_tape_Parse := ent_of (tab := [e_num_New, e_num_Err, e_num_Fail, e_num_At, e_num_Upto, e_tape_one]) (loops := [(636882293322, [0, 6, 7, 8, 9], (.cons (.sl (.int .u8)) (.cons (.ptr 0 0) (.cons (.int .i64) (.cons (.int .i64) (.own 1))))), [.st (.cons (.sl (.int .u8)) (.cons (.int .i64) (.int .i64))), .li (.pair (.int .i64) (.pair (.sl (.int .u8)) (.pair (.int .u64) (.pair (.int .i64) (.int .i64))))) 64 false])]) (joins := [(303689, [0, 9, 10, 19], (.cons (.sl (.int .u8)) (.cons (.own 0) (.cons (.int .i64) .bool))), [.li (.pair (.int .i64) (.pair (.sl (.int .u8)) (.pair (.int .u64) (.pair (.int .i64) (.int .i64))))) 64 false]), (9951285833, [0, 6, 7, 8, 9], (.cons (.sl (.int .u8)) (.cons (.ptr 0 0) (.cons (.int .i64) (.cons (.int .i64) (.own 1))))), [.st (.cons (.sl (.int .u8)) (.cons (.int .i64) (.int .i64))), .li (.pair (.int .i64) (.pair (.sl (.int .u8)) (.pair (.int .u64) (.pair (.int .i64) (.int .i64))))) 64 false])]) _ (by
    intro e he
    simp only [List.mem_cons, List.not_mem_nil, or_false] at he
    rcases he with rfl | rfl | rfl | rfl | rfl | rfl
    · exact e_num_New_ok
    · exact e_num_Err_ok
    · exact e_num_Fail_ok
    · exact e_num_At_ok
    · exact e_num_Upto_ok
    · exact e_tape_one_ok) (fun s => by kernel_rfl) (by kernel_rfl)
noncomputable def m_tape_side (x0 : Int) : Option Bool :=
  bif decide ((1 : Int) ≤ x0) then
    some (decide (x0 ≤ (512 : Int)))
  else some Bool.false
noncomputable def e_tape_side : TEnt := ⟨54, .int .i64, [], [(.bool, [])], fun s => m_tape_side s⟩
theorem e_tape_side_ok : EntT Try.prog e_tape_side := ent_of (tab := []) (loops := []) (joins := []) _ (by intro e he; simp at he) (fun s => by kernel_rfl) (by kernel_rfl)
noncomputable def m_tape_Check_1 (x0 : Int) : Option Bool :=
  bif decide ((0 : Int) ≤ x0) then
    some (decide (x0 ≤ (1048576 : Int)))
  else some Bool.false
noncomputable def e_tape_Check_1 : TEnt := ⟨57, .int .i64, [], [(.bool, [])], fun s => m_tape_Check_1 s⟩
theorem e_tape_Check_1_ok : EntT Try.prog e_tape_Check_1 := ent_of (tab := []) (loops := []) (joins := []) _ (by intro e he; simp at he) (fun s => by kernel_rfl) (by kernel_rfl)
noncomputable def m_tape_Check (x0 : Int) (x1 : (List Int)) (x2 : Int) (x3 : Int) (x4 : Int) : Option Int :=
  Option.bind (
    bif decide (x0 < (1 : Int)) then
      some (Sum.inl (Bool.true, (x0, (x1, (x2, (x3, x4))))))
    else some (Sum.inl ((decide ((5 : Int) < x0)), (x0, (x1, (x2, (x3, x4))))))) fun (x5 : ((Bool × (Int × ((List Int) × (Int × (Int × Int))))) ⊕ Int)) =>
    match x5 with
    | Sum.inl x6 =>
        bif x6.1 then
          some ((9 : Int))
        else bif decide ((4096 : Int) < (↑x6.2.2.1.length : Int)) then
            some ((2 : Int))
          else Option.bind (m_tape_Check_1 x6.2.2.2.2.1) fun (x7 : Bool) =>
              bif !x7 then
                some ((5 : Int))
              else Option.bind (m_tape_Check_1 x6.2.2.2.2.2) fun (x8 : Bool) =>
                  bif !x8 then
                    some ((5 : Int))
                  else some ((0 : Int))
    | Sum.inr x6 =>
        some x6
noncomputable def e_tape_Check : TEnt := ⟨31, .agg (.cons (.int .i64) (.cons (.sl (.int .u8)) (.cons (.int .u64) (.cons (.int .i64) (.int .i64))))), [], [(.int .i64, [])], fun s => m_tape_Check s.1 s.2.1 s.2.2.1 s.2.2.2.1 s.2.2.2.2⟩
theorem e_tape_Check_ok : EntT Try.prog e_tape_Check := ent_of (tab := [e_tape_Check_1]) (loops := []) (joins := [(586, [1, 3, 4], (.cons (.ptr 0 0) (.cons (.fn 57 .nil .nil) .bool)), [.st (.cons (.int .i64) (.cons (.sl (.int .u8)) (.cons (.int .u64) (.cons (.int .i64) (.int .i64)))))])]) _ (by
    intro e he
    simp only [List.mem_cons, List.not_mem_nil, or_false] at he
    rcases he with rfl
    · exact e_tape_Check_1_ok) (fun s => by kernel_rfl) (by kernel_rfl)
noncomputable def m_bytes_Clone (x0 : (List Int)) : Option (List Int) :=
  bif decide (x0.length = (0 : Nat)) then
    Go.Sim.bothM (
      some []) (
      bif decide ((0 : Nat) = (0 : Nat) ∧ (0 : Nat) + x0.length ≤ (140737488355328 : Nat)) then
        bif decide (([] ++ x0).length = (0 : Nat) + x0.length) then
          some ([] ++ x0)
        else none
      else none)
  else bif decide ((0 : Nat) = (0 : Nat) ∧ (0 : Nat) + x0.length ≤ (140737488355328 : Nat)) then
      bif decide (([] ++ x0).length = (0 : Nat) + x0.length) then
        some ([] ++ x0)
      else none
    else none
noncomputable def e_bytes_Clone : TEnt := ⟨58, .sl (.int .u8), [], [(.sl (.int .u8), [])], fun s => m_bytes_Clone s⟩
theorem e_bytes_Clone_ok : EntT Try.prog e_bytes_Clone := ent_of (tab := []) (loops := []) (joins := []) _ (by intro e he; simp at he) (fun s => by kernel_rfl) (by kernel_rfl)
noncomputable def m_tape_Plain (x0 : Int) (x1 : (List Int)) (x2 : Int) (x3 : Int) (x4 : Int) : Option (Int × ((List Int) × (Int × (Int × Int)))) :=
  Option.bind (
    bif x0 == (1 : Int) then
      some (Sum.inl ((x0, Bool.true), ((x0, (x1, (x2, (x3, x4)))), ((((0 : Int)), (((0 : Int)), (((0 : Int)), ((0 : Int))))), (x0, (((0 : Int)), (((0 : Int)), ((0 : Int)))))))))
    else some (Sum.inl ((x0, (x0 == (2 : Int))), ((x0, (x1, (x2, (x3, x4)))), ((((0 : Int)), (((0 : Int)), (((0 : Int)), ((0 : Int))))), (x0, (((0 : Int)), (((0 : Int)), ((0 : Int)))))))))) fun (x5 : (((Int × Bool) × ((Int × ((List Int) × (Int × (Int × Int)))) × ((Int × (Int × (Int × Int))) × (Int × (Int × (Int × Int)))))) ⊕ (Int × ((List Int) × (Int × (Int × Int)))))) =>
    match x5 with
    | Sum.inl x6 =>
        bif x6.1.2 then
          Option.bind (m_bytes_Clone x6.2.1.2.1) fun (x7 : (List Int)) =>
            some (x6.2.2.2.1, (x7, (x6.2.2.2.2.1, (x6.2.2.2.2.2.1, x6.2.2.2.2.2.2))))
        else bif x6.1.1 == (4 : Int) then
            some (x6.2.2.2.1, ([], (x6.2.2.2.2.1, (x6.2.1.2.2.2.1, x6.2.1.2.2.2.2))))
          else bif x6.1.1 == (3 : Int) then
              some (x6.2.2.2.1, ([], (x6.2.1.2.2.1, (x6.2.2.2.2.2.1, x6.2.2.2.2.2.2))))
            else bif x6.1.1 == (5 : Int) then
                some (x6.2.2.2.1, ([], (x6.2.1.2.2.1, (x6.2.2.2.2.2.1, x6.2.2.2.2.2.2))))
              else some (x6.2.2.2.1, ([], (x6.2.2.2.2.1, (x6.2.2.2.2.2.1, x6.2.2.2.2.2.2))))
    | Sum.inr x6 =>
        some x6
noncomputable def e_tape_Plain : TEnt := ⟨34, .agg (.cons (.int .i64) (.cons (.sl (.int .u8)) (.cons (.int .u64) (.cons (.int .i64) (.int .i64))))), [], [(.agg (.cons (.int .i64) (.cons (.sl (.int .u8)) (.cons (.int .u64) (.cons (.int .i64) (.int .i64))))), [])], fun s => m_tape_Plain s.1 s.2.1 s.2.2.1 s.2.2.2.1 s.2.2.2.2⟩
theorem e_tape_Plain_ok : EntT Try.prog e_tape_Plain := ent_of (tab := [e_bytes_Clone]) (loops := []) (joins := [(153429137, [1, 2, 3, 8, 9], (.cons (.ptr 0 0) (.cons (.ptr 1 0) (.cons (.ptr 2 0) (.cons (.int .i64) .bool)))), [.st (.cons (.int .i64) (.cons (.sl (.int .u8)) (.cons (.int .u64) (.cons (.int .i64) (.int .i64))))), .st (.cons (.int .i64) (.cons (.cst (.slice none 0 0)) (.cons (.int .u64) (.cons (.int .i64) (.int .i64))))), .st (.cons (.int .i64) (.cons (.cst (.slice none 0 0)) (.cons (.int .u64) (.cons (.int .i64) (.int .i64)))))])]) _ (by
    intro e he
    simp only [List.mem_cons, List.not_mem_nil, or_false] at he
    rcases he with rfl
    · exact e_bytes_Clone_ok) (fun s => by kernel_rfl) (by kernel_rfl)
end Go.Sim

set_option maxRecDepth 100000
set_option maxHeartbeats 0
set_option linter.unusedVariables false
namespace Go.Sim
open Go.Proofs
noncomputable def m_tape_Bytes_1_l1_step (x2 : ((List Int) × (Int × Int))) (x3 : (List Int)) : Option ((((List Int) × (Int × Int)) × (List Int)) ⊕ (List Int)) :=
  bif decide (x2.2.2 < x2.2.1) then
    bif decide ((0 : Int) ≤ x2.2.2) then
      Option.bind (x2.1[x2.2.2.toNat]?) fun (x4 : Int) =>
        bif decide ((1 : Nat) = (1 : Nat)) then
          Option.bind (m_num_Bytes [Go.IntKind.u64.wrap x4]) fun (x5 : (List Int)) =>
            bif decide (x3.length = x3.length ∧ x3.length + List.length x5 ≤ (140737488355328 : Nat)) then
              bif decide (x3.length + List.length x5 = (x3 ++ x5).length) then
                some (Sum.inl ((x2.1, (x2.2.1, (Go.IntKind.i64.wrap (x2.2.2 + (1 : Int))))), (x3 ++ x5)))
              else none
            else none
        else none
    else none
  else bif decide (x3.length = x3.length) then
      some (Sum.inr x3)
    else none
noncomputable def m_tape_Bytes_1_l1 : (((List Int) × (Int × Int)) × (List Int)) → Option (List Int) := loopM fun s => m_tape_Bytes_1_l1_step s.1 s.2
noncomputable def m_tape_Bytes_1 (x0 : (List Int)) (x1 : (List Int)) : Option (List Int) :=
  bif decide (x1.length = x1.length) then
    Option.bind (m_tape_Bytes_1_l1 ((x0, (((↑(List.length x0) : Int)), ((0 : Int)))), x1)) fun (x2 : (List Int)) =>
      some x2
  else none
noncomputable def e_tape_Bytes_1 : TEnt := ⟨55, .cons (.sl (.int .i64)) (.ptr 0 0), [.st (.own 1), .li (.int .u8) 5 false], [(.tup .nil, [.st (.own 1), .li (.int .u8) 5 false])], fun s => m_tape_Bytes_1 s.1 s.2⟩
theorem e_tape_Bytes_1_ok : EntT Try.prog e_tape_Bytes_1 := ent_of (tab := [e_num_Bytes]) (loops := [(74, [1, 5, 6, 7], (.cons (.ptr 0 0) (.cons (.sl (.int .i64)) (.cons (.int .i64) (.int .i64)))), [.st (.own 1), .li (.int .u8) 5 false])]) (joins := []) _ (by
    intro e he
    simp only [List.mem_cons, List.not_mem_nil, or_false] at he
    rcases he with rfl
    · exact e_num_Bytes_ok) (fun s => by kernel_rfl) (by kernel_rfl)
noncomputable def m_tape_Bytes_1l_l1_step (x2 : ((List Int) × (Int × Int))) (x3 : (List Int)) : Option ((((List Int) × (Int × Int)) × (List Int)) ⊕ (List Int)) :=
  bif decide (x2.2.2 < x2.2.1) then
    bif decide ((0 : Int) ≤ x2.2.2) then
      Option.bind (x2.1[x2.2.2.toNat]?) fun (x4 : Int) =>
        bif decide ((1 : Nat) = (1 : Nat)) then
          Option.bind (m_num_Bytes [Go.IntKind.u64.wrap x4]) fun (x5 : (List Int)) =>
            bif decide (x3.length = x3.length ∧ x3.length + List.length x5 ≤ (140737488355328 : Nat)) then
              bif decide (x3.length + List.length x5 = (x3 ++ x5).length) then
                some (Sum.inl ((x2.1, (x2.2.1, (Go.IntKind.i64.wrap (x2.2.2 + (1 : Int))))), (x3 ++ x5)))
              else none
            else none
        else none
    else none
  else bif decide (x3.length = x3.length) then
      some (Sum.inr x3)
    else none
noncomputable def m_tape_Bytes_1l_l1 : (((List Int) × (Int × Int)) × (List Int)) → Option (List Int) := loopM fun s => m_tape_Bytes_1l_l1_step s.1 s.2
noncomputable def m_tape_Bytes_1l (x0 : (List Int)) (x1 : (List Int)) : Option (List Int) :=
  bif decide (x1.length = x1.length) then
    Option.bind (m_tape_Bytes_1l_l1 ((x0, (((↑(List.length x0) : Int)), ((0 : Int)))), x1)) fun (x2 : (List Int)) =>
      some x2
  else none
noncomputable def e_tape_Bytes_1l : TEnt := ⟨55, .cons (.sl (.int .i64)) (.ptr 0 0), [.st (.own 1), .li (.int .u8) 5 true], [(.tup .nil, [.st (.own 1), .li (.int .u8) 5 true])], fun s => m_tape_Bytes_1l s.1 s.2⟩
theorem e_tape_Bytes_1l_ok : EntT Try.prog e_tape_Bytes_1l := ent_of (tab := [e_num_Bytes]) (loops := [(74, [1, 5, 6, 7], (.cons (.ptr 0 0) (.cons (.sl (.int .i64)) (.cons (.int .i64) (.int .i64)))), [.st (.own 1), .li (.int .u8) 5 true])]) (joins := []) _ (by
    intro e he
    simp only [List.mem_cons, List.not_mem_nil, or_false] at he
    rcases he with rfl
    · exact e_num_Bytes_ok) (fun s => by kernel_rfl) (by kernel_rfl)
noncomputable def m_tape_Bytes_l1_step (x6 : ((List (Int × ((List Int) × (Int × (Int × Int))))) × (Int × Int))) (x7 : (List Int)) : Option ((((List (Int × ((List Int) × (Int × (Int × Int))))) × (Int × Int)) × (List Int)) ⊕ ((List Int) × Int)) :=
  bif decide (x6.2.2 < x6.2.1) then
    bif decide ((0 : Int) ≤ x6.2.2) then
      Option.bind (x6.1[x6.2.2.toNat]?) fun (x8 : (Int × ((List Int) × (Int × (Int × Int))))) =>
        Option.bind (m_tape_Check x8.1 x8.2.1 x8.2.2.1 x8.2.2.2.1 x8.2.2.2.2) fun (x9 : Int) =>
          bif x9 != (0 : Int) then
            some (Sum.inr ([], x9))
          else bif decide ((1 : Nat) = (1 : Nat)) then
              bif decide (x7.length = x7.length) then
                Option.bind (m_tape_Bytes_1l [x8.1] x7) fun (x10 : (List Int)) =>
                  Option.bind (
                    bif x8.1 == (1 : Int) then
                      bif decide (List.length x10 = List.length x10) then
                        some (Sum.inl ((x6.1, (x6.2.1, (x6.2.2, (x8.1, Bool.true)))), ((x8.1, (x8.2.1, (x8.2.2.1, (x8.2.2.2.1, x8.2.2.2.2)))), x10)))
                      else none
                    else bif decide (List.length x10 = List.length x10) then
                        some (Sum.inl ((x6.1, (x6.2.1, (x6.2.2, (x8.1, (x8.1 == (2 : Int)))))), ((x8.1, (x8.2.1, (x8.2.2.1, (x8.2.2.2.1, x8.2.2.2.2)))), x10)))
                      else none) fun (x11 : ((((List (Int × ((List Int) × (Int × (Int × Int))))) × (Int × (Int × (Int × Bool)))) × ((Int × ((List Int) × (Int × (Int × Int)))) × (List Int))) ⊕ ((((List (Int × ((List Int) × (Int × (Int × Int))))) × (Int × Int)) × (List Int)) ⊕ ((List Int) × Int)))) =>
                    match x11 with
                    | Sum.inl x12 =>
                        bif x12.1.2.2.2.2 then
                          bif decide ((1 : Nat) = (1 : Nat)) then
                            bif decide (x12.2.2.length = x12.2.2.length) then
                              Option.bind (m_tape_Bytes_1l [(↑x12.2.1.2.1.length : Int)] x12.2.2) fun (x13 : (List Int)) =>
                                bif decide (List.length x13 = List.length x13 ∧ List.length x13 + x12.2.1.2.1.length ≤ (140737488355328 : Nat)) then
                                  bif decide (List.length x13 + x12.2.1.2.1.length = (x13 ++ x12.2.1.2.1).length) then
                                    some (Sum.inl ((x12.1.1, (x12.1.2.1, (Go.IntKind.i64.wrap (x12.1.2.2.1 + (1 : Int))))), (x13 ++ x12.2.1.2.1)))
                                  else none
                                else none
                            else none
                          else none
                        else bif x12.1.2.2.2.1 == (4 : Int) then
                            bif decide ((2 : Nat) = (2 : Nat)) then
                              bif decide (x12.2.2.length = x12.2.2.length) then
                                Option.bind (m_tape_Bytes_1l [x12.2.1.2.2.2.1, x12.2.1.2.2.2.2] x12.2.2) fun (x13 : (List Int)) =>
                                  bif decide (List.length x13 = List.length x13) then
                                    some (Sum.inl ((x12.1.1, (x12.1.2.1, (Go.IntKind.i64.wrap (x12.1.2.2.1 + (1 : Int))))), x13))
                                  else none
                              else none
                            else none
                          else bif decide ((1 : Nat) = (1 : Nat)) then
                              Option.bind (m_num_Bytes [x12.2.1.2.2.1]) fun (x13 : (List Int)) =>
                                bif decide (x12.2.2.length = x12.2.2.length ∧ x12.2.2.length + List.length x13 ≤ (140737488355328 : Nat)) then
                                  bif decide (x12.2.2.length + List.length x13 = (x12.2.2 ++ x13).length) then
                                    some (Sum.inl ((x12.1.1, (x12.1.2.1, (Go.IntKind.i64.wrap (x12.1.2.2.1 + (1 : Int))))), (x12.2.2 ++ x13)))
                                  else none
                                else none
                            else none
                    | Sum.inr x12 =>
                        some x12
              else none
            else none
    else none
  else bif decide (x7.length = x7.length) then
      some (Sum.inr (x7, ((0 : Int))))
    else none
noncomputable def m_tape_Bytes_l1 : (((List (Int × ((List Int) × (Int × (Int × Int))))) × (Int × Int)) × (List Int)) → Option ((List Int) × Int) := loopM fun s => m_tape_Bytes_l1_step s.1 s.2
noncomputable def m_tape_Bytes (x0 : Int) (x1 : Int) (x2 : (List (Int × ((List Int) × (Int × (Int × Int)))))) : Option ((List Int) × Int) :=
  Option.bind (m_tape_side x0) fun (x3 : Bool) =>
    bif !x3 then
      some ([], ((11 : Int)))
    else Option.bind (m_tape_side x1) fun (x4 : Bool) =>
        bif !x4 then
          some ([], ((11 : Int)))
        else bif decide ((2 : Nat) = (2 : Nat)) then
            Option.bind (m_tape_Bytes_1l [x0, x1] [(84 : Int)]) fun (x5 : (List Int)) =>
              bif decide (List.length x5 = List.length x5) then
                Option.bind (m_tape_Bytes_l1 ((x2, (((↑x2.length : Int)), ((0 : Int)))), x5)) fun (x6 : ((List Int) × Int)) =>
                  some x6
              else none
          else none
noncomputable def e_tape_Bytes : TEnt := ⟨28, .cons (.int .i64) (.cons (.int .i64) (.sl (.pair (.int .i64) (.pair (.sl (.int .u8)) (.pair (.int .u64) (.pair (.int .i64) (.int .i64))))))), [], [(.tup (.cons (.sl (.int .u8)) (.int .i64)), [])], fun s => m_tape_Bytes s.1 s.2.1 s.2.2⟩
theorem e_tape_Bytes_ok : EntT Try.prog e_tape_Bytes := ent_of (tab := [e_num_Bytes, e_tape_side, e_tape_Check, e_tape_Bytes_1, e_tape_Bytes_1l]) (loops := [(19173962, [8, 9, 28, 29, 30], (.cons (.ptr 0 0) (.cons (.fn 55 .nil (.ptr 0 0)) (.cons (.sl (.pair (.int .i64) (.pair (.sl (.int .u8)) (.pair (.int .u64) (.pair (.int .i64) (.int .i64)))))) (.cons (.int .i64) (.int .i64))))), [.st (.own 1), .li (.int .u8) 5 true])]) (joins := [(1317624654019727953, [8, 9, 11, 28, 29, 30, 45, 52], (.cons (.ptr 0 0) (.cons (.fn 55 .nil (.ptr 0 0)) (.cons (.ptr 1 0) (.cons (.sl (.pair (.int .i64) (.pair (.sl (.int .u8)) (.pair (.int .u64) (.pair (.int .i64) (.int .i64)))))) (.cons (.int .i64) (.cons (.int .i64) (.cons (.int .i64) .bool))))))), [.st (.own 2), .st (.cons (.int .i64) (.cons (.sl (.int .u8)) (.cons (.int .u64) (.cons (.int .i64) (.int .i64))))), .li (.int .u8) 5 true])]) _ (by
    intro e he
    simp only [List.mem_cons, List.not_mem_nil, or_false] at he
    rcases he with rfl | rfl | rfl | rfl | rfl
    · exact e_num_Bytes_ok
    · exact e_tape_side_ok
    · exact e_tape_Check_ok
    · exact e_tape_Bytes_1_ok
    · exact e_tape_Bytes_1l_ok) (fun s => by kernel_rfl) (by kernel_rfl)
noncomputable def m_bytes_Equal (x0 : (List Int)) (x1 : (List Int)) : Option Bool :=
  some ((Go.strOfNums x0).toList == (Go.strOfNums x1).toList)
noncomputable def e_bytes_Equal : TEnt := ⟨64, .cons (.sl (.int .u8)) (.sl (.int .u8)), [], [(.bool, [])], fun s => m_bytes_Equal s.1 s.2⟩
theorem e_bytes_Equal_ok : EntT Try.prog e_bytes_Equal := ent_of (tab := []) (loops := []) (joins := []) _ (by intro e he; simp at he) (fun s => by kernel_rfl) (by kernel_rfl)
noncomputable def m_tape_Same_1 (x0 : (Int × ((List Int) × (Int × (Int × Int))))) (x1 : Int) (x2 : (List Int)) (x3 : Int) (x4 : Int) (x5 : Int) : Option Bool :=
  bif x0.1 == x1 then
    bif x0.2.2.1 == x3 then
      bif x0.2.2.2.1 == x4 then
        bif x0.2.2.2.2 == x5 then
          Option.bind (m_bytes_Equal x0.2.1 x2) fun (x6 : Bool) =>
            some x6
        else some Bool.false
      else some Bool.false
    else some Bool.false
  else some Bool.false
noncomputable def e_tape_Same_1 : TEnt := ⟨63, .cons (.agg (.cons (.int .i64) (.cons (.sl (.int .u8)) (.cons (.int .u64) (.cons (.int .i64) (.int .i64)))))) (.agg (.cons (.int .i64) (.cons (.sl (.int .u8)) (.cons (.int .u64) (.cons (.int .i64) (.int .i64)))))), [], [(.bool, [])], fun s => m_tape_Same_1 s.1 s.2.1 s.2.2.1 s.2.2.2.1 s.2.2.2.2.1 s.2.2.2.2.2⟩
theorem e_tape_Same_1_ok : EntT Try.prog e_tape_Same_1 := ent_of (tab := [e_bytes_Equal]) (loops := []) (joins := []) _ (by
    intro e he
    simp only [List.mem_cons, List.not_mem_nil, or_false] at he
    rcases he with rfl
    · exact e_bytes_Equal_ok) (fun s => by kernel_rfl) (by kernel_rfl)
noncomputable def m_EqualFunc_ev_l1_step (x2 : (List (Int × ((List Int) × (Int × (Int × Int)))))) (x3 : (List (Int × ((List Int) × (Int × (Int × Int)))))) (x4 : Int) (x5 : Int) : Option (((List (Int × ((List Int) × (Int × (Int × Int))))) × ((List (Int × ((List Int) × (Int × (Int × Int))))) × (Int × Int))) ⊕ Bool) :=
  bif decide (x5 < x4) then
    bif decide ((0 : Int) ≤ x5) then
      Option.bind (x3[x5.toNat]?) fun (x6 : (Int × ((List Int) × (Int × (Int × Int))))) =>
        bif decide ((0 : Int) ≤ x5) then
          Option.bind (x2[x5.toNat]?) fun (x7 : (Int × ((List Int) × (Int × (Int × Int))))) =>
            Option.bind (m_tape_Same_1 (x6.1, x6.2.1, x6.2.2.1, x6.2.2.2.1, x6.2.2.2.2) x7.1 x7.2.1 x7.2.2.1 x7.2.2.2.1 x7.2.2.2.2) fun (x8 : Bool) =>
              bif !x8 then
                some (Sum.inr Bool.false)
              else some (Sum.inl (x2, (x3, (x4, (Go.IntKind.i64.wrap (x5 + (1 : Int)))))))
        else none
    else none
  else some (Sum.inr Bool.true)
noncomputable def m_EqualFunc_ev_l1 : ((List (Int × ((List Int) × (Int × (Int × Int))))) × ((List (Int × ((List Int) × (Int × (Int × Int))))) × (Int × Int))) → Option Bool := loopM fun s => m_EqualFunc_ev_l1_step s.1 s.2.1 s.2.2.1 s.2.2.2
noncomputable def m_EqualFunc_ev (x0 : (List (Int × ((List Int) × (Int × (Int × Int)))))) (x1 : (List (Int × ((List Int) × (Int × (Int × Int)))))) : Option Bool :=
  bif (↑(List.length x0) : Int) != (↑x1.length : Int) then
    some Bool.false
  else Option.bind (m_EqualFunc_ev_l1 (x1, (x0, (((↑(List.length x0) : Int)), ((0 : Int)))))) fun (x2 : Bool) =>
      some x2
noncomputable def e_EqualFunc_ev : TEnt := ⟨62, .cons (.sl (.pair (.int .i64) (.pair (.sl (.int .u8)) (.pair (.int .u64) (.pair (.int .i64) (.int .i64)))))) (.cons (.sl (.pair (.int .i64) (.pair (.sl (.int .u8)) (.pair (.int .u64) (.pair (.int .i64) (.int .i64)))))) (.fn 63 .nil .nil)), [], [(.bool, [])], fun s => m_EqualFunc_ev s.1 s.2⟩
theorem e_EqualFunc_ev_ok : EntT Try.prog e_EqualFunc_ev := ent_of (tab := [e_tape_Same_1]) (loops := [(37450, [1, 2, 15, 16, 17], (.cons (.sl (.pair (.int .i64) (.pair (.sl (.int .u8)) (.pair (.int .u64) (.pair (.int .i64) (.int .i64)))))) (.cons (.fn 63 .nil .nil) (.cons (.sl (.pair (.int .i64) (.pair (.sl (.int .u8)) (.pair (.int .u64) (.pair (.int .i64) (.int .i64)))))) (.cons (.int .i64) (.int .i64))))), [])]) (joins := []) _ (by
    intro e he
    simp only [List.mem_cons, List.not_mem_nil, or_false] at he
    rcases he with rfl
    · exact e_tape_Same_1_ok) (fun s => by kernel_rfl) (by kernel_rfl)
noncomputable def m_tape_Same (x0 : (List (Int × ((List Int) × (Int × (Int × Int)))))) (x1 : (List (Int × ((List Int) × (Int × (Int × Int)))))) : Option Bool :=
  Option.bind (m_EqualFunc_ev x0 x1) fun (x2 : Bool) =>
    some x2
noncomputable def e_tape_Same : TEnt := ⟨37, .cons (.sl (.pair (.int .i64) (.pair (.sl (.int .u8)) (.pair (.int .u64) (.pair (.int .i64) (.int .i64)))))) (.sl (.pair (.int .i64) (.pair (.sl (.int .u8)) (.pair (.int .u64) (.pair (.int .i64) (.int .i64)))))), [], [(.bool, [])], fun s => m_tape_Same s.1 s.2⟩
theorem e_tape_Same_ok : EntT Try.prog e_tape_Same := ent_of (tab := [e_tape_Same_1, e_EqualFunc_ev]) (loops := []) (joins := []) _ (by
    intro e he
    simp only [List.mem_cons, List.not_mem_nil, or_false] at he
    rcases he with rfl | rfl
    · exact e_tape_Same_1_ok
    · exact e_EqualFunc_ev_ok) (fun s => by kernel_rfl) (by kernel_rfl)
noncomputable def m_r34_Check (x0 : Int) (x1 : (List Int)) (x2 : Int) (x3 : Int) (x4 : Int) : Option Int :=
  Option.bind (
    bif decide (x0 < (1 : Int)) then
      some (Sum.inl (Bool.true, (x0, (x1, (x2, (x3, x4))))))
    else some (Sum.inl ((decide ((5 : Int) < x0)), (x0, (x1, (x2, (x3, x4))))))) fun (x5 : ((Bool × (Int × ((List Int) × (Int × (Int × Int))))) ⊕ Int)) =>
    match x5 with
    | Sum.inl x6 =>
        bif x6.1 then
          some ((9 : Int))
        else bif decide ((4096 : Int) < (↑x6.2.2.1.length : Int)) then
            some ((2 : Int))
          else bif decide (x6.2.2.2.2.1 < (0 : Int)) then
              some ((5 : Int))
            else bif decide ((1048576 : Int) < x6.2.2.2.2.1) then
                some ((5 : Int))
              else bif decide (x6.2.2.2.2.2 < (0 : Int)) then
                  some ((5 : Int))
                else bif decide ((1048576 : Int) < x6.2.2.2.2.2) then
                    some ((5 : Int))
                  else some ((0 : Int))
    | Sum.inr x6 =>
        some x6
noncomputable def e_r34_Check : TEnt := ⟨32, .agg (.cons (.int .i64) (.cons (.sl (.int .u8)) (.cons (.int .u64) (.cons (.int .i64) (.int .i64))))), [], [(.int .i64, [])], fun s => m_r34_Check s.1 s.2.1 s.2.2.1 s.2.2.2.1 s.2.2.2.2⟩
theorem e_r34_Check_ok : EntT Try.prog e_r34_Check := ent_of (tab := []) (loops := []) (joins := [(9, [1, 10], (.cons (.ptr 0 0) .bool), [.st (.cons (.int .i64) (.cons (.sl (.int .u8)) (.cons (.int .u64) (.cons (.int .i64) (.int .i64)))))])]) _ (by intro e he; simp at he) (fun s => by kernel_rfl) (by kernel_rfl)
noncomputable def m_r34_Plain (x0 : Int) (x1 : (List Int)) (x2 : Int) (x3 : Int) (x4 : Int) : Option (Int × ((List Int) × (Int × (Int × Int)))) :=
  Option.bind (
    bif x0 == (1 : Int) then
      some (Sum.inl (Bool.true, ((x0, (x1, (x2, (x3, x4)))), ((((0 : Int)), (((0 : Int)), (((0 : Int)), ((0 : Int))))), (x0, (((0 : Int)), (((0 : Int)), ((0 : Int)))))))))
    else some (Sum.inl ((x0 == (2 : Int)), ((x0, (x1, (x2, (x3, x4)))), ((((0 : Int)), (((0 : Int)), (((0 : Int)), ((0 : Int))))), (x0, (((0 : Int)), (((0 : Int)), ((0 : Int)))))))))) fun (x5 : ((Bool × ((Int × ((List Int) × (Int × (Int × Int)))) × ((Int × (Int × (Int × Int))) × (Int × (Int × (Int × Int)))))) ⊕ (Int × ((List Int) × (Int × (Int × Int)))))) =>
    match x5 with
    | Sum.inl x6 =>
        bif x6.1 then
          bif decide ((0 : Nat) = (0 : Nat) ∧ (0 : Nat) + x6.2.1.2.1.length ≤ (140737488355328 : Nat)) then
            bif x6.2.1.1 == (3 : Int) then
              bif x6.2.1.1 == (4 : Int) then
                bif decide (([] ++ x6.2.1.2.1).length = (0 : Nat) + x6.2.1.2.1.length) then
                  some (x6.2.2.2.1, (([] ++ x6.2.1.2.1), (x6.2.1.2.2.1, (x6.2.1.2.2.2.1, x6.2.1.2.2.2.2))))
                else none
              else bif decide (([] ++ x6.2.1.2.1).length = (0 : Nat) + x6.2.1.2.1.length) then
                  some (x6.2.2.2.1, (([] ++ x6.2.1.2.1), (x6.2.1.2.2.1, (x6.2.2.2.2.2.1, x6.2.2.2.2.2.2))))
                else none
            else bif x6.2.1.1 == (5 : Int) then
                bif x6.2.1.1 == (4 : Int) then
                  bif decide (([] ++ x6.2.1.2.1).length = (0 : Nat) + x6.2.1.2.1.length) then
                    some (x6.2.2.2.1, (([] ++ x6.2.1.2.1), (x6.2.1.2.2.1, (x6.2.1.2.2.2.1, x6.2.1.2.2.2.2))))
                  else none
                else bif decide (([] ++ x6.2.1.2.1).length = (0 : Nat) + x6.2.1.2.1.length) then
                    some (x6.2.2.2.1, (([] ++ x6.2.1.2.1), (x6.2.1.2.2.1, (x6.2.2.2.2.2.1, x6.2.2.2.2.2.2))))
                  else none
              else bif x6.2.1.1 == (4 : Int) then
                  bif decide (([] ++ x6.2.1.2.1).length = (0 : Nat) + x6.2.1.2.1.length) then
                    some (x6.2.2.2.1, (([] ++ x6.2.1.2.1), (x6.2.2.2.2.1, (x6.2.1.2.2.2.1, x6.2.1.2.2.2.2))))
                  else none
                else bif decide (([] ++ x6.2.1.2.1).length = (0 : Nat) + x6.2.1.2.1.length) then
                    some (x6.2.2.2.1, (([] ++ x6.2.1.2.1), (x6.2.2.2.2.1, (x6.2.2.2.2.2.1, x6.2.2.2.2.2.2))))
                  else none
          else none
        else bif x6.2.1.1 == (3 : Int) then
            bif x6.2.1.1 == (4 : Int) then
              some (x6.2.2.2.1, ([], (x6.2.1.2.2.1, (x6.2.1.2.2.2.1, x6.2.1.2.2.2.2))))
            else some (x6.2.2.2.1, ([], (x6.2.1.2.2.1, (x6.2.2.2.2.2.1, x6.2.2.2.2.2.2))))
          else bif x6.2.1.1 == (5 : Int) then
              bif x6.2.1.1 == (4 : Int) then
                some (x6.2.2.2.1, ([], (x6.2.1.2.2.1, (x6.2.1.2.2.2.1, x6.2.1.2.2.2.2))))
              else some (x6.2.2.2.1, ([], (x6.2.1.2.2.1, (x6.2.2.2.2.2.1, x6.2.2.2.2.2.2))))
            else bif x6.2.1.1 == (4 : Int) then
                some (x6.2.2.2.1, ([], (x6.2.2.2.2.1, (x6.2.1.2.2.2.1, x6.2.1.2.2.2.2))))
              else some (x6.2.2.2.1, ([], (x6.2.2.2.2.1, (x6.2.2.2.2.2.1, x6.2.2.2.2.2.2))))
    | Sum.inr x6 =>
        some x6
noncomputable def e_r34_Plain : TEnt := ⟨35, .agg (.cons (.int .i64) (.cons (.sl (.int .u8)) (.cons (.int .u64) (.cons (.int .i64) (.int .i64))))), [], [(.agg (.cons (.int .i64) (.cons (.sl (.int .u8)) (.cons (.int .u64) (.cons (.int .i64) (.int .i64))))), [])], fun s => m_r34_Plain s.1 s.2.1 s.2.2.1 s.2.2.2.1 s.2.2.2.2⟩
theorem e_r34_Plain_ok : EntT Try.prog e_r34_Plain := ent_of (tab := []) (loops := []) (joins := [(73, [1, 2, 3, 14], (.cons (.ptr 0 0) (.cons (.ptr 1 0) (.cons (.ptr 2 0) .bool))), [.st (.cons (.int .i64) (.cons (.sl (.int .u8)) (.cons (.int .u64) (.cons (.int .i64) (.int .i64))))), .st (.cons (.int .i64) (.cons (.cst (.slice none 0 0)) (.cons (.int .u64) (.cons (.int .i64) (.int .i64))))), .st (.cons (.int .i64) (.cons (.cst (.slice none 0 0)) (.cons (.int .u64) (.cons (.int .i64) (.int .i64)))))])]) _ (by intro e he; simp at he) (fun s => by kernel_rfl) (by kernel_rfl)
noncomputable def m_r34_Bytes_l1_step (x5 : ((List (Int × ((List Int) × (Int × (Int × Int))))) × Int)) (x6 : (List Int)) : Option ((((List (Int × ((List Int) × (Int × (Int × Int))))) × Int) × (List Int)) ⊕ ((List Int) × Int)) :=
  bif decide (x5.2 < (↑x5.1.length : Int)) then
    bif decide ((0 : Int) ≤ x5.2) then
      Option.bind (x5.1[x5.2.toNat]?) fun (x7 : (Int × ((List Int) × (Int × (Int × Int))))) =>
        Option.bind (m_r34_Check x7.1 x7.2.1 x7.2.2.1 x7.2.2.2.1 x7.2.2.2.2) fun (x8 : Int) =>
          bif x8 != (0 : Int) then
            bif decide ((0 : Int) ≤ x5.2) then
              Option.bind (x5.1[x5.2.toNat]?) fun (x9 : (Int × ((List Int) × (Int × (Int × Int))))) =>
                Option.bind (m_r34_Check x9.1 x9.2.1 x9.2.2.1 x9.2.2.2.1 x9.2.2.2.2) fun (x10 : Int) =>
                  some (Sum.inr ([], x10))
            else none
          else bif decide ((0 : Int) ≤ x5.2) then
              Option.bind (x5.1[x5.2.toNat]?) fun (x9 : (Int × ((List Int) × (Int × (Int × Int))))) =>
                bif decide ((1 : Nat) = (1 : Nat)) then
                  bif decide (x6.length = x6.length ∧ x6.length + (1 : Nat) ≤ (140737488355328 : Nat)) then
                    bif decide ((0 : Int) ≤ x5.2) then
                      Option.bind (x5.1[x5.2.toNat]?) fun (x10 : (Int × ((List Int) × (Int × (Int × Int))))) =>
                        bif decide (x10.1 < (3 : Int)) then
                          bif decide ((0 : Int) ≤ x5.2) then
                            Option.bind (x5.1[x5.2.toNat]?) fun (x11 : (Int × ((List Int) × (Int × (Int × Int))))) =>
                              Option.bind (m_r01_Bytes (Go.IntKind.u64.wrap (↑x11.2.1.length : Int))) fun (x12 : (List Int)) =>
                                bif decide ((x6 ++ [Go.IntKind.u8.wrap x9.1]).length = x6.length + (1 : Nat) ∧ x6.length + (1 : Nat) + List.length x12 ≤ (140737488355328 : Nat)) then
                                  bif decide ((0 : Int) ≤ x5.2) then
                                    Option.bind (x5.1[x5.2.toNat]?) fun (x13 : (Int × ((List Int) × (Int × (Int × Int))))) =>
                                      bif decide ((x6 ++ [Go.IntKind.u8.wrap x9.1] ++ x12).length = x6.length + (1 : Nat) + List.length x12 ∧ x6.length + (1 : Nat) + List.length x12 + x13.2.1.length ≤ (140737488355328 : Nat)) then
                                        bif decide (x6.length + (1 : Nat) + List.length x12 + x13.2.1.length = (x6 ++ [Go.IntKind.u8.wrap x9.1] ++ x12 ++ x13.2.1).length) then
                                          some (Sum.inl ((x5.1, (Go.IntKind.i64.wrap (x5.2 + (1 : Int)))), (x6 ++ [Go.IntKind.u8.wrap x9.1] ++ x12 ++ x13.2.1)))
                                        else none
                                      else none
                                  else none
                                else none
                          else none
                        else bif decide ((0 : Int) ≤ x5.2) then
                            Option.bind (x5.1[x5.2.toNat]?) fun (x11 : (Int × ((List Int) × (Int × (Int × Int))))) =>
                              bif x11.1 == (4 : Int) then
                                bif decide ((0 : Int) ≤ x5.2) then
                                  Option.bind (x5.1[x5.2.toNat]?) fun (x12 : (Int × ((List Int) × (Int × (Int × Int))))) =>
                                    bif decide ((0 : Int) ≤ x5.2) then
                                      Option.bind (x5.1[x5.2.toNat]?) fun (x13 : (Int × ((List Int) × (Int × (Int × Int))))) =>
                                        bif decide ((2 : Nat) = (2 : Nat)) then
                                          Option.bind (m_r01_All [Go.IntKind.u64.wrap x12.2.2.2.1, Go.IntKind.u64.wrap x13.2.2.2.2]) fun (x14 : (List Int)) =>
                                            bif decide ((x6 ++ [Go.IntKind.u8.wrap x9.1]).length = x6.length + (1 : Nat) ∧ x6.length + (1 : Nat) + List.length x14 ≤ (140737488355328 : Nat)) then
                                              bif decide (x6.length + (1 : Nat) + List.length x14 = (x6 ++ [Go.IntKind.u8.wrap x9.1] ++ x14).length) then
                                                some (Sum.inl ((x5.1, (Go.IntKind.i64.wrap (x5.2 + (1 : Int)))), (x6 ++ [Go.IntKind.u8.wrap x9.1] ++ x14)))
                                              else none
                                            else none
                                        else none
                                    else none
                                else none
                              else bif decide ((0 : Int) ≤ x5.2) then
                                  Option.bind (x5.1[x5.2.toNat]?) fun (x12 : (Int × ((List Int) × (Int × (Int × Int))))) =>
                                    Option.bind (m_r01_Bytes x12.2.2.1) fun (x13 : (List Int)) =>
                                      bif decide ((x6 ++ [Go.IntKind.u8.wrap x9.1]).length = x6.length + (1 : Nat) ∧ x6.length + (1 : Nat) + List.length x13 ≤ (140737488355328 : Nat)) then
                                        bif decide (x6.length + (1 : Nat) + List.length x13 = (x6 ++ [Go.IntKind.u8.wrap x9.1] ++ x13).length) then
                                          some (Sum.inl ((x5.1, (Go.IntKind.i64.wrap (x5.2 + (1 : Int)))), (x6 ++ [Go.IntKind.u8.wrap x9.1] ++ x13)))
                                        else none
                                      else none
                                else none
                          else none
                    else none
                  else none
                else none
            else none
    else none
  else bif decide (x6.length = x6.length) then
      some (Sum.inr (x6, ((0 : Int))))
    else none
noncomputable def m_r34_Bytes_l1 : (((List (Int × ((List Int) × (Int × (Int × Int))))) × Int) × (List Int)) → Option ((List Int) × Int) := loopM fun s => m_r34_Bytes_l1_step s.1 s.2
noncomputable def m_r34_Bytes (x0 : Int) (x1 : Int) (x2 : (List (Int × ((List Int) × (Int × (Int × Int)))))) : Option ((List Int) × Int) :=
  Option.bind (m_r07_Size x0 x1) fun (x3 : Bool) =>
    bif !x3 then
      some ([], ((11 : Int)))
    else bif decide ((2 : Nat) = (2 : Nat)) then
        Option.bind (m_r01_All [Go.IntKind.u64.wrap x0, Go.IntKind.u64.wrap x1]) fun (x4 : (List Int)) =>
          bif decide ((1 : Nat) = (1 : Nat) ∧ (1 : Nat) + List.length x4 ≤ (140737488355328 : Nat)) then
            bif decide ((1 : Nat) + List.length x4 = ([(84 : Int)] ++ x4).length) then
              Option.bind (m_r34_Bytes_l1 ((x2, ((0 : Int))), ([(84 : Int)] ++ x4))) fun (x5 : ((List Int) × Int)) =>
                some x5
            else none
          else none
      else none
noncomputable def e_r34_Bytes : TEnt := ⟨36, .cons (.int .i64) (.cons (.int .i64) (.sl (.pair (.int .i64) (.pair (.sl (.int .u8)) (.pair (.int .u64) (.pair (.int .i64) (.int .i64))))))), [], [(.tup (.cons (.sl (.int .u8)) (.int .i64)), [])], fun s => m_r34_Bytes s.1 s.2.1 s.2.2⟩
theorem e_r34_Bytes_ok : EntT Try.prog e_r34_Bytes := ent_of (tab := [e_r01_Bytes, e_r01_All, e_r07_Size, e_r34_Check]) (loops := [(299594, [2, 8, 9], (.cons (.sl (.pair (.int .i64) (.pair (.sl (.int .u8)) (.pair (.int .u64) (.pair (.int .i64) (.int .i64)))))) (.cons (.own 0) (.int .i64))), [.li (.int .u8) 5 true])]) (joins := []) _ (by
    intro e he
    simp only [List.mem_cons, List.not_mem_nil, or_false] at he
    rcases he with rfl | rfl | rfl | rfl
    · exact e_r01_Bytes_ok
    · exact e_r01_All_ok
    · exact e_r07_Size_ok
    · exact e_r34_Check_ok) (fun s => by kernel_rfl) (by kernel_rfl)
noncomputable def m_r34_Parse_l1_step (x7 : ((List Int) × (Int × Int))) (x8 : ((List Int) × (Int × Int))) (x9 : (List (Int × ((List Int) × (Int × (Int × Int)))))) : Option ((((List Int) × (Int × Int)) × (((List Int) × (Int × Int)) × (List (Int × ((List Int) × (Int × (Int × Int))))))) ⊕ (Int × (Int × ((List (Int × ((List Int) × (Int × (Int × Int))))) × Int)))) :=
  Option.bind (
    bif x8.2.2 == (0 : Int) then
      bif decide (x9.length = x9.length) then
        some (Sum.inl ((x7.1, (x7.2.1, (x7.2.2, (decide (x8.2.1 < (↑x7.1.length : Int)))))), ((x8.1, (x8.2.1, x8.2.2)), x9)))
      else none
    else bif decide (x9.length = x9.length) then
        some (Sum.inl ((x7.1, (x7.2.1, (x7.2.2, Bool.false))), ((x8.1, (x8.2.1, x8.2.2)), x9)))
      else none) fun (x10 : ((((List Int) × (Int × (Int × Bool))) × (((List Int) × (Int × Int)) × (List (Int × ((List Int) × (Int × (Int × Int))))))) ⊕ ((((List Int) × (Int × Int)) × (((List Int) × (Int × Int)) × (List (Int × ((List Int) × (Int × (Int × Int))))))) ⊕ (Int × (Int × ((List (Int × ((List Int) × (Int × (Int × Int))))) × Int)))))) =>
    match x10 with
    | Sum.inl x11 =>
        bif x11.1.2.2.2 then
          Option.bind (m_r01_Number x11.2.1.1 x11.2.1.2.1 x11.2.1.2.2) fun (x12 : (((List Int) × (Int × Int)) × Int)) =>
            Option.bind (
              bif x12.1.2.2 == (0 : Int) then
                bif decide (x12.2 < (1 : Int)) then
                  bif decide (x11.2.2.length = x11.2.2.length) then
                    some (Sum.inl ((x11.1.1, (x11.1.2.1, (x11.1.2.2.1, (x12.2, Bool.true)))), ((x12.1.1, (x12.1.2.1, x12.1.2.2)), (x11.2.2, (((0 : Int)), (((0 : Int)), (((0 : Int)), ((0 : Int)))))))))
                  else none
                else bif decide (x11.2.2.length = x11.2.2.length) then
                    some (Sum.inl ((x11.1.1, (x11.1.2.1, (x11.1.2.2.1, (x12.2, (decide ((5 : Int) < x12.2)))))), ((x12.1.1, (x12.1.2.1, x12.1.2.2)), (x11.2.2, (((0 : Int)), (((0 : Int)), (((0 : Int)), ((0 : Int)))))))))
                  else none
              else bif decide (x11.2.2.length = x11.2.2.length) then
                  some (Sum.inl ((x11.1.1, (x11.1.2.1, (x11.1.2.2.1, (x12.2, Bool.false)))), ((x12.1.1, (x12.1.2.1, x12.1.2.2)), (x11.2.2, (((0 : Int)), (((0 : Int)), (((0 : Int)), ((0 : Int)))))))))
                else none) fun (x13 : ((((List Int) × (Int × (Int × (Int × Bool)))) × (((List Int) × (Int × Int)) × ((List (Int × ((List Int) × (Int × (Int × Int))))) × (Int × (Int × (Int × Int)))))) ⊕ ((((List Int) × (Int × Int)) × (((List Int) × (Int × Int)) × (List (Int × ((List Int) × (Int × (Int × Int))))))) ⊕ (Int × (Int × ((List (Int × ((List Int) × (Int × (Int × Int))))) × Int)))))) =>
              match x13 with
              | Sum.inl x14 =>
                  Option.bind (
                    bif x14.1.2.2.2.2 then
                      bif decide (x14.2.2.1.length = x14.2.2.1.length) then
                        some (Sum.inl ((x14.1.1, (x14.1.2.1, (x14.1.2.2.1, x14.1.2.2.2.1))), ((x14.2.1.1, (x14.2.1.2.1, ((9 : Int)))), (x14.2.2.1, (x14.2.2.2.1, (x14.2.2.2.2.1, (x14.2.2.2.2.2.1, x14.2.2.2.2.2.2)))))))
                      else none
                    else bif decide (x14.2.2.1.length = x14.2.2.1.length) then
                        some (Sum.inl ((x14.1.1, (x14.1.2.1, (x14.1.2.2.1, x14.1.2.2.2.1))), ((x14.2.1.1, (x14.2.1.2.1, x14.2.1.2.2)), (x14.2.2.1, (x14.2.2.2.1, (x14.2.2.2.2.1, (x14.2.2.2.2.2.1, x14.2.2.2.2.2.2)))))))
                      else none) fun (x15 : ((((List Int) × (Int × (Int × Int))) × (((List Int) × (Int × Int)) × ((List (Int × ((List Int) × (Int × (Int × Int))))) × (Int × (Int × (Int × Int)))))) ⊕ ((((List Int) × (Int × Int)) × (((List Int) × (Int × Int)) × (List (Int × ((List Int) × (Int × (Int × Int))))))) ⊕ (Int × (Int × ((List (Int × ((List Int) × (Int × (Int × Int))))) × Int)))))) =>
                    match x15 with
                    | Sum.inl x16 =>
                        Option.bind (
                          bif x16.1.2.2.2 == (1 : Int) then
                            bif decide (x16.2.2.1.length = x16.2.2.1.length) then
                              some (Sum.inl ((x16.1.1, (x16.1.2.1, (x16.1.2.2.1, (x16.1.2.2.2, Bool.true)))), ((x16.2.1.1, (x16.2.1.2.1, x16.2.1.2.2)), (x16.2.2.1, ((Go.IntKind.i64.wrap x16.1.2.2.2), (x16.2.2.2.2.1, (x16.2.2.2.2.2.1, x16.2.2.2.2.2.2)))))))
                            else none
                          else bif decide (x16.2.2.1.length = x16.2.2.1.length) then
                              some (Sum.inl ((x16.1.1, (x16.1.2.1, (x16.1.2.2.1, (x16.1.2.2.2, (x16.1.2.2.2 == (2 : Int)))))), ((x16.2.1.1, (x16.2.1.2.1, x16.2.1.2.2)), (x16.2.2.1, ((Go.IntKind.i64.wrap x16.1.2.2.2), (x16.2.2.2.2.1, (x16.2.2.2.2.2.1, x16.2.2.2.2.2.2)))))))
                            else none) fun (x17 : ((((List Int) × (Int × (Int × (Int × Bool)))) × (((List Int) × (Int × Int)) × ((List (Int × ((List Int) × (Int × (Int × Int))))) × (Int × (Int × (Int × Int)))))) ⊕ ((((List Int) × (Int × Int)) × (((List Int) × (Int × Int)) × (List (Int × ((List Int) × (Int × (Int × Int))))))) ⊕ (Int × (Int × ((List (Int × ((List Int) × (Int × (Int × Int))))) × Int)))))) =>
                          match x17 with
                          | Sum.inl x18 =>
                              bif x18.1.2.2.2.2 then
                                Option.bind (m_r01_Up (x18.2.1.1, x18.2.1.2.1, x18.2.1.2.2) (4096 : Int) (5 : Int)) fun (x19 : (((List Int) × (Int × Int)) × Int)) =>
                                  Option.bind (m_r01_Take (x19.1.1, x19.1.2.1, x19.1.2.2) x19.2) fun (x20 : (((List Int) × (Int × Int)) × (List Int))) =>
                                    bif decide ((1 : Nat) = (1 : Nat)) then
                                      bif decide (x18.2.2.1.length = x18.2.2.1.length ∧ x18.2.2.1.length + (1 : Nat) ≤ (2513169434916 : Nat)) then
                                        bif decide (x18.2.2.1.length + (1 : Nat) = (x18.2.2.1 ++ [(x18.2.2.2.1, x20.2, x18.2.2.2.2.1, x18.2.2.2.2.2.1, x18.2.2.2.2.2.2)]).length) then
                                          some (Sum.inl ((x18.1.1, (x18.1.2.1, x18.1.2.2.1)), ((x20.1.1, (x20.1.2.1, x20.1.2.2)), (x18.2.2.1 ++ [(x18.2.2.2.1, x20.2, x18.2.2.2.2.1, x18.2.2.2.2.2.1, x18.2.2.2.2.2.2)]))))
                                        else none
                                      else none
                                    else none
                              else Option.bind (
                                  bif x18.1.2.2.2.1 == (3 : Int) then
                                    bif decide (x18.2.2.1.length = x18.2.2.1.length) then
                                      some (Sum.inl ((x18.1.1, (x18.1.2.1, (x18.1.2.2.1, (x18.1.2.2.2.1, Bool.true)))), ((x18.2.1.1, (x18.2.1.2.1, x18.2.1.2.2)), (x18.2.2.1, (x18.2.2.2.1, (x18.2.2.2.2.1, (x18.2.2.2.2.2.1, x18.2.2.2.2.2.2)))))))
                                    else none
                                  else bif decide (x18.2.2.1.length = x18.2.2.1.length) then
                                      some (Sum.inl ((x18.1.1, (x18.1.2.1, (x18.1.2.2.1, (x18.1.2.2.2.1, (x18.1.2.2.2.1 == (5 : Int)))))), ((x18.2.1.1, (x18.2.1.2.1, x18.2.1.2.2)), (x18.2.2.1, (x18.2.2.2.1, (x18.2.2.2.2.1, (x18.2.2.2.2.2.1, x18.2.2.2.2.2.2)))))))
                                    else none) fun (x19 : ((((List Int) × (Int × (Int × (Int × Bool)))) × (((List Int) × (Int × Int)) × ((List (Int × ((List Int) × (Int × (Int × Int))))) × (Int × (Int × (Int × Int)))))) ⊕ ((((List Int) × (Int × Int)) × (((List Int) × (Int × Int)) × (List (Int × ((List Int) × (Int × (Int × Int))))))) ⊕ (Int × (Int × ((List (Int × ((List Int) × (Int × (Int × Int))))) × Int)))))) =>
                                  match x19 with
                                  | Sum.inl x20 =>
                                      bif x20.1.2.2.2.2 then
                                        Option.bind (m_r01_Number x20.2.1.1 x20.2.1.2.1 x20.2.1.2.2) fun (x21 : (((List Int) × (Int × Int)) × Int)) =>
                                          bif decide ((1 : Nat) = (1 : Nat)) then
                                            bif decide (x20.2.2.1.length = x20.2.2.1.length ∧ x20.2.2.1.length + (1 : Nat) ≤ (2513169434916 : Nat)) then
                                              bif decide (x20.2.2.1.length + (1 : Nat) = (x20.2.2.1 ++ [(x20.2.2.2.1, [], x21.2, x20.2.2.2.2.2.1, x20.2.2.2.2.2.2)]).length) then
                                                some (Sum.inl ((x20.1.1, (x20.1.2.1, x20.1.2.2.1)), ((x21.1.1, (x21.1.2.1, x21.1.2.2)), (x20.2.2.1 ++ [(x20.2.2.2.1, [], x21.2, x20.2.2.2.2.2.1, x20.2.2.2.2.2.2)]))))
                                              else none
                                            else none
                                          else none
                                      else bif x20.1.2.2.2.1 == (4 : Int) then
                                          Option.bind (m_r01_Up (x20.2.1.1, x20.2.1.2.1, x20.2.1.2.2) (1048576 : Int) (5 : Int)) fun (x21 : (((List Int) × (Int × Int)) × Int)) =>
                                            Option.bind (m_r01_Up (x21.1.1, x21.1.2.1, x21.1.2.2) (1048576 : Int) (5 : Int)) fun (x22 : (((List Int) × (Int × Int)) × Int)) =>
                                              bif decide ((1 : Nat) = (1 : Nat)) then
                                                bif decide (x20.2.2.1.length = x20.2.2.1.length ∧ x20.2.2.1.length + (1 : Nat) ≤ (2513169434916 : Nat)) then
                                                  bif decide (x20.2.2.1.length + (1 : Nat) = (x20.2.2.1 ++ [(x20.2.2.2.1, [], x20.2.2.2.2.1, x21.2, x22.2)]).length) then
                                                    some (Sum.inl ((x20.1.1, (x20.1.2.1, x20.1.2.2.1)), ((x22.1.1, (x22.1.2.1, x22.1.2.2)), (x20.2.2.1 ++ [(x20.2.2.2.1, [], x20.2.2.2.2.1, x21.2, x22.2)]))))
                                                  else none
                                                else none
                                              else none
                                        else bif decide ((1 : Nat) = (1 : Nat)) then
                                            bif decide (x20.2.2.1.length = x20.2.2.1.length ∧ x20.2.2.1.length + (1 : Nat) ≤ (2513169434916 : Nat)) then
                                              bif decide (x20.2.2.1.length + (1 : Nat) = (x20.2.2.1 ++ [(x20.2.2.2.1, [], x20.2.2.2.2.1, x20.2.2.2.2.2.1, x20.2.2.2.2.2.2)]).length) then
                                                some (Sum.inl ((x20.1.1, (x20.1.2.1, x20.1.2.2.1)), ((x20.2.1.1, (x20.2.1.2.1, x20.2.1.2.2)), (x20.2.2.1 ++ [(x20.2.2.2.1, [], x20.2.2.2.2.1, x20.2.2.2.2.2.1, x20.2.2.2.2.2.2)]))))
                                              else none
                                            else none
                                          else none
                                  | Sum.inr x20 =>
                                      some x20
                          | Sum.inr x18 =>
                              some x18
                    | Sum.inr x16 =>
                        some x16
              | Sum.inr x14 =>
                  some x14
        else bif x11.2.1.2.2 != (0 : Int) then
            some (Sum.inr (((0 : Int)), (((0 : Int)), ([], x11.2.1.2.2))))
          else bif decide (x11.2.2.length = x11.2.2.length) then
              some (Sum.inr (x11.1.2.1, (x11.1.2.2.1, (x11.2.2, ((0 : Int))))))
            else none
    | Sum.inr x11 =>
        some x11
noncomputable def m_r34_Parse_l1 : (((List Int) × (Int × Int)) × (((List Int) × (Int × Int)) × (List (Int × ((List Int) × (Int × (Int × Int))))))) → Option (Int × (Int × ((List (Int × ((List Int) × (Int × (Int × Int))))) × Int))) := loopM fun s => m_r34_Parse_l1_step s.1 s.2.1 s.2.2
noncomputable def m_r34_Parse (x0 : (List Int)) : Option (Int × (Int × ((List (Int × ((List Int) × (Int × (Int × Int))))) × Int))) :=
  Option.bind (
    bif (↑x0.length : Int) == (0 : Int) then
      some (Sum.inl (x0, Bool.true))
    else Option.bind (x0[(0 : Nat)]?) fun (x1 : Int) =>
        some (Sum.inl (x0, (x1 != (84 : Int))))) fun (x1 : (((List Int) × Bool) ⊕ (Int × (Int × ((List (Int × ((List Int) × (Int × (Int × Int))))) × Int))))) =>
    match x1 with
    | Sum.inl x2 =>
        bif x2.2 then
          some (((0 : Int)), (((0 : Int)), ([], ((12 : Int)))))
        else Option.bind (m_r01_Up (x2.1, (1 : Int), (0 : Int)) (512 : Int) (5 : Int)) fun (x3 : (((List Int) × (Int × Int)) × Int)) =>
            Option.bind (m_r01_Up (x3.1.1, x3.1.2.1, x3.1.2.2) (512 : Int) (5 : Int)) fun (x4 : (((List Int) × (Int × Int)) × Int)) =>
              bif x4.1.2.2 == (0 : Int) then
                bif x3.2 == (0 : Int) then
                  Option.bind (
                    some (Sum.inl ((x2.1, (x3.2, x4.2)), (x4.1.1, (x4.1.2.1, ((11 : Int))))))) fun (x5 : ((((List Int) × (Int × Int)) × ((List Int) × (Int × Int))) ⊕ (Int × (Int × ((List (Int × ((List Int) × (Int × (Int × Int))))) × Int))))) =>
                    match x5 with
                    | Sum.inl x6 =>
                        Option.bind (m_r34_Parse_l1 ((x6.1.1, (x6.1.2.1, x6.1.2.2)), ((x6.2.1, (x6.2.2.1, x6.2.2.2)), []))) fun (x7 : (Int × (Int × ((List (Int × ((List Int) × (Int × (Int × Int))))) × Int)))) =>
                          some x7
                    | Sum.inr x6 =>
                        some x6
                else Option.bind (
                    bif x4.2 == (0 : Int) then
                      some (Sum.inl ((x2.1, (x3.2, x4.2)), (x4.1.1, (x4.1.2.1, ((11 : Int))))))
                    else some (Sum.inl ((x2.1, (x3.2, x4.2)), (x4.1.1, (x4.1.2.1, x4.1.2.2))))) fun (x5 : ((((List Int) × (Int × Int)) × ((List Int) × (Int × Int))) ⊕ (Int × (Int × ((List (Int × ((List Int) × (Int × (Int × Int))))) × Int))))) =>
                    match x5 with
                    | Sum.inl x6 =>
                        Option.bind (m_r34_Parse_l1 ((x6.1.1, (x6.1.2.1, x6.1.2.2)), ((x6.2.1, (x6.2.2.1, x6.2.2.2)), []))) fun (x7 : (Int × (Int × ((List (Int × ((List Int) × (Int × (Int × Int))))) × Int)))) =>
                          some x7
                    | Sum.inr x6 =>
                        some x6
              else Option.bind (
                  some (Sum.inl ((x2.1, (x3.2, x4.2)), (x4.1.1, (x4.1.2.1, x4.1.2.2))))) fun (x5 : ((((List Int) × (Int × Int)) × ((List Int) × (Int × Int))) ⊕ (Int × (Int × ((List (Int × ((List Int) × (Int × (Int × Int))))) × Int))))) =>
                  match x5 with
                  | Sum.inl x6 =>
                      Option.bind (m_r34_Parse_l1 ((x6.1.1, (x6.1.2.1, x6.1.2.2)), ((x6.2.1, (x6.2.2.1, x6.2.2.2)), []))) fun (x7 : (Int × (Int × ((List (Int × ((List Int) × (Int × (Int × Int))))) × Int)))) =>
                        some x7
                  | Sum.inr x6 =>
                      some x6
    | Sum.inr x2 =>
        some x2
noncomputable def m_r34_Same_l1_step (x2 : (List (Int × ((List Int) × (Int × (Int × Int)))))) (x3 : (List (Int × ((List Int) × (Int × (Int × Int)))))) (x4 : Int) : Option (((List (Int × ((List Int) × (Int × (Int × Int))))) × ((List (Int × ((List Int) × (Int × (Int × Int))))) × Int)) ⊕ Bool) :=
  bif decide (x4 < (↑(List.length x2) : Int)) then
    bif decide ((0 : Int) ≤ x4) then
      Option.bind (x2[x4.toNat]?) fun (x5 : (Int × ((List Int) × (Int × (Int × Int))))) =>
        bif decide ((0 : Int) ≤ x4) then
          Option.bind (x3[x4.toNat]?) fun (x6 : (Int × ((List Int) × (Int × (Int × Int))))) =>
            bif x5.1 != x6.1 then
              some (Sum.inr Bool.false)
            else bif decide ((0 : Int) ≤ x4) then
                Option.bind (x2[x4.toNat]?) fun (x7 : (Int × ((List Int) × (Int × (Int × Int))))) =>
                  bif decide ((0 : Int) ≤ x4) then
                    Option.bind (x3[x4.toNat]?) fun (x8 : (Int × ((List Int) × (Int × (Int × Int))))) =>
                      bif x7.2.2.1 != x8.2.2.1 then
                        some (Sum.inr Bool.false)
                      else bif decide ((0 : Int) ≤ x4) then
                          Option.bind (x2[x4.toNat]?) fun (x9 : (Int × ((List Int) × (Int × (Int × Int))))) =>
                            bif decide ((0 : Int) ≤ x4) then
                              Option.bind (x3[x4.toNat]?) fun (x10 : (Int × ((List Int) × (Int × (Int × Int))))) =>
                                bif x9.2.2.2.1 != x10.2.2.2.1 then
                                  some (Sum.inr Bool.false)
                                else bif decide ((0 : Int) ≤ x4) then
                                    Option.bind (x2[x4.toNat]?) fun (x11 : (Int × ((List Int) × (Int × (Int × Int))))) =>
                                      bif decide ((0 : Int) ≤ x4) then
                                        Option.bind (x3[x4.toNat]?) fun (x12 : (Int × ((List Int) × (Int × (Int × Int))))) =>
                                          bif x11.2.2.2.2 != x12.2.2.2.2 then
                                            some (Sum.inr Bool.false)
                                          else bif decide ((0 : Int) ≤ x4) then
                                              Option.bind (x2[x4.toNat]?) fun (x13 : (Int × ((List Int) × (Int × (Int × Int))))) =>
                                                bif decide ((0 : Int) ≤ x4) then
                                                  Option.bind (x3[x4.toNat]?) fun (x14 : (Int × ((List Int) × (Int × (Int × Int))))) =>
                                                    bif !(Go.strOfNums x13.2.1).toList == (Go.strOfNums x14.2.1).toList then
                                                      some (Sum.inr Bool.false)
                                                    else some (Sum.inl (x2, (x3, (Go.IntKind.i64.wrap (x4 + (1 : Int))))))
                                                else none
                                            else none
                                      else none
                                  else none
                            else none
                        else none
                  else none
              else none
        else none
    else none
  else some (Sum.inr Bool.true)
noncomputable def m_r34_Same_l1 : ((List (Int × ((List Int) × (Int × (Int × Int))))) × ((List (Int × ((List Int) × (Int × (Int × Int))))) × Int)) → Option Bool := loopM fun s => m_r34_Same_l1_step s.1 s.2.1 s.2.2
noncomputable def m_r34_Same (x0 : (List (Int × ((List Int) × (Int × (Int × Int)))))) (x1 : (List (Int × ((List Int) × (Int × (Int × Int)))))) : Option Bool :=
  bif (↑(List.length x0) : Int) != (↑x1.length : Int) then
    some Bool.false
  else Option.bind (m_r34_Same_l1 (x0, (x1, ((0 : Int))))) fun (x2 : Bool) =>
      some x2
noncomputable def e_r34_Same : TEnt := ⟨25, .cons (.sl (.pair (.int .i64) (.pair (.sl (.int .u8)) (.pair (.int .u64) (.pair (.int .i64) (.int .i64)))))) (.sl (.pair (.int .i64) (.pair (.sl (.int .u8)) (.pair (.int .u64) (.pair (.int .i64) (.int .i64)))))), [], [(.bool, [])], fun s => m_r34_Same s.1 s.2⟩
theorem e_r34_Same_ok : EntT Try.prog e_r34_Same := ent_of (tab := []) (loops := [(37450, [0, 1, 5], (.cons (.sl (.pair (.int .i64) (.pair (.sl (.int .u8)) (.pair (.int .u64) (.pair (.int .i64) (.int .i64)))))) (.cons (.sl (.pair (.int .i64) (.pair (.sl (.int .u8)) (.pair (.int .u64) (.pair (.int .i64) (.int .i64)))))) (.int .i64))), [])]) (joins := []) _ (by intro e he; simp at he) (fun s => by kernel_rfl) (by kernel_rfl)
noncomputable def m_L29_Of (x0 : Int) (x1 : (List Int)) (x2 : Int) (x3 : Int) (x4 : Int) : Option (Int × ((List Int) × (Int × (Int × Int)))) :=
  some (x0, (x1, (x2, (x3, x4))))
noncomputable def e_L29_Of : TEnt := ⟨33, .agg (.cons (.int .i64) (.cons (.sl (.int .u8)) (.cons (.int .u64) (.cons (.int .i64) (.int .i64))))), [], [(.agg (.cons (.int .i64) (.cons (.sl (.int .u8)) (.cons (.int .u64) (.cons (.int .i64) (.int .i64))))), [])], fun s => m_L29_Of s.1 s.2.1 s.2.2.1 s.2.2.2.1 s.2.2.2.2⟩
theorem e_L29_Of_ok : EntT Try.prog e_L29_Of := ent_of (tab := []) (loops := []) (joins := []) _ (by intro e he; simp at he) (fun s => by kernel_rfl) (by kernel_rfl)
noncomputable def m_L34_ofs_l1_step (x1 : ((List (Int × ((List Int) × (Int × (Int × Int))))) × Int)) (x2 : (List (Int × ((List Int) × (Int × (Int × Int)))))) : Option ((((List (Int × ((List Int) × (Int × (Int × Int))))) × Int) × (List (Int × ((List Int) × (Int × (Int × Int)))))) ⊕ (List (Int × ((List Int) × (Int × (Int × Int)))))) :=
  bif decide (x1.2 < (↑x1.1.length : Int)) then
    bif decide ((0 : Int) ≤ x1.2) then
      Option.bind (x1.1[x1.2.toNat]?) fun (x3 : (Int × ((List Int) × (Int × (Int × Int))))) =>
        Option.bind (m_L29_Of x3.1 x3.2.1 x3.2.2.1 x3.2.2.2.1 x3.2.2.2.2) fun (x4 : (Int × ((List Int) × (Int × (Int × Int))))) =>
          bif decide ((1 : Nat) = (1 : Nat)) then
            bif decide (x2.length = x2.length ∧ x2.length + (1 : Nat) ≤ (2513169434916 : Nat)) then
              bif decide (x2.length + (1 : Nat) = (x2 ++ [(x4.1, x4.2.1, x4.2.2.1, x4.2.2.2.1, x4.2.2.2.2)]).length) then
                some (Sum.inl ((x1.1, (Go.IntKind.i64.wrap (x1.2 + (1 : Int)))), (x2 ++ [(x4.1, x4.2.1, x4.2.2.1, x4.2.2.2.1, x4.2.2.2.2)])))
              else none
            else none
          else none
    else none
  else bif decide (x2.length = x2.length) then
      some (Sum.inr x2)
    else none
noncomputable def m_L34_ofs_l1 : (((List (Int × ((List Int) × (Int × (Int × Int))))) × Int) × (List (Int × ((List Int) × (Int × (Int × Int)))))) → Option (List (Int × ((List Int) × (Int × (Int × Int))))) := loopM fun s => m_L34_ofs_l1_step s.1 s.2
noncomputable def m_L34_ofs (x0 : (List (Int × ((List Int) × (Int × (Int × Int)))))) : Option (List (Int × ((List Int) × (Int × (Int × Int))))) :=
  Option.bind (m_L34_ofs_l1 ((x0, ((0 : Int))), [])) fun (x1 : (List (Int × ((List Int) × (Int × (Int × Int)))))) =>
    some x1
noncomputable def e_L34_ofs : TEnt := ⟨26, .sl (.pair (.int .i64) (.pair (.sl (.int .u8)) (.pair (.int .u64) (.pair (.int .i64) (.int .i64))))), [], [(.sl (.pair (.int .i64) (.pair (.sl (.int .u8)) (.pair (.int .u64) (.pair (.int .i64) (.int .i64))))), [])], fun s => m_L34_ofs s⟩
theorem e_L34_ofs_ok : EntT Try.prog e_L34_ofs := ent_of (tab := [e_L29_Of]) (loops := [(4682, [0, 3, 4], (.cons (.sl (.pair (.int .i64) (.pair (.sl (.int .u8)) (.pair (.int .u64) (.pair (.int .i64) (.int .i64)))))) (.cons (.own 0) (.int .i64))), [.li (.pair (.int .i64) (.pair (.sl (.int .u8)) (.pair (.int .u64) (.pair (.int .i64) (.int .i64))))) 66 false])]) (joins := []) _ (by
    intro e he
    simp only [List.mem_cons, List.not_mem_nil, or_false] at he
    rcases he with rfl
    · exact e_L29_Of_ok) (fun s => by kernel_rfl) (by kernel_rfl)
noncomputable def m_L34_cut_l1_step (x1 : ((List (Int × ((List Int) × (Int × (Int × Int))))) × Int)) (x2 : (List (Int × ((List Int) × (Int × (Int × Int)))))) : Option ((((List (Int × ((List Int) × (Int × (Int × Int))))) × Int) × (List (Int × ((List Int) × (Int × (Int × Int)))))) ⊕ (List (Int × ((List Int) × (Int × (Int × Int)))))) :=
  bif decide (x1.2 < (↑x1.1.length : Int)) then
    bif decide (x1.2 < (30 : Int)) then
      bif decide ((0 : Int) ≤ x1.2) then
        Option.bind (x1.1[x1.2.toNat]?) fun (x3 : (Int × ((List Int) × (Int × (Int × Int))))) =>
          bif decide (((0 : Int) ≤ if (400 : Int) < (↑x3.2.1.length : Int) then (400 : Int) else (↑x3.2.1.length : Int)) ∧ (if (400 : Int) < (↑x3.2.1.length : Int) then (400 : Int) else (↑x3.2.1.length : Int)).toNat ≤ x3.2.1.length) then
            bif decide ((1 : Nat) = (1 : Nat)) then
              bif decide (x2.length = x2.length ∧ x2.length + (1 : Nat) ≤ (2513169434916 : Nat)) then
                bif decide (x2.length + (1 : Nat) = (x2 ++ [(x3.1, List.take (if (400 : Int) < (↑x3.2.1.length : Int) then (400 : Int) else (↑x3.2.1.length : Int)).toNat x3.2.1, x3.2.2.1, x3.2.2.2.1, x3.2.2.2.2)]).length) then
                  some (Sum.inl ((x1.1, (Go.IntKind.i64.wrap (x1.2 + (1 : Int)))), (x2 ++ [(x3.1, List.take (if (400 : Int) < (↑x3.2.1.length : Int) then (400 : Int) else (↑x3.2.1.length : Int)).toNat x3.2.1, x3.2.2.1, x3.2.2.2.1, x3.2.2.2.2)])))
                else none
              else none
            else none
          else none
      else none
    else bif decide (x2.length = x2.length) then
        some (Sum.inr x2)
      else none
  else bif decide (x2.length = x2.length) then
      some (Sum.inr x2)
    else none
noncomputable def m_L34_cut_l1 : (((List (Int × ((List Int) × (Int × (Int × Int))))) × Int) × (List (Int × ((List Int) × (Int × (Int × Int)))))) → Option (List (Int × ((List Int) × (Int × (Int × Int))))) := loopM fun s => m_L34_cut_l1_step s.1 s.2
noncomputable def m_L34_cut (x0 : (List (Int × ((List Int) × (Int × (Int × Int)))))) : Option (List (Int × ((List Int) × (Int × (Int × Int))))) :=
  Option.bind (m_L34_cut_l1 ((x0, ((0 : Int))), [])) fun (x1 : (List (Int × ((List Int) × (Int × (Int × Int)))))) =>
    some x1
noncomputable def e_L34_cut : TEnt := ⟨30, .sl (.pair (.int .i64) (.pair (.sl (.int .u8)) (.pair (.int .u64) (.pair (.int .i64) (.int .i64))))), [], [(.sl (.pair (.int .i64) (.pair (.sl (.int .u8)) (.pair (.int .u64) (.pair (.int .i64) (.int .i64))))), [])], fun s => m_L34_cut s⟩
theorem e_L34_cut_ok : EntT Try.prog e_L34_cut := ent_of (tab := []) (loops := [(4682, [0, 3, 4], (.cons (.sl (.pair (.int .i64) (.pair (.sl (.int .u8)) (.pair (.int .u64) (.pair (.int .i64) (.int .i64)))))) (.cons (.own 0) (.int .i64))), [.li (.pair (.int .i64) (.pair (.sl (.int .u8)) (.pair (.int .u64) (.pair (.int .i64) (.int .i64))))) 64 false])]) (joins := []) _ (by intro e he; simp at he) (fun s => by kernel_rfl) (by kernel_rfl)
noncomputable def m_L34_known : Option Bool :=
  Option.bind (m_tape_Bytes (1 : Int) (5 : Int) [((1 : Int), [(97 : Int)], (0 : Int), (0 : Int), (0 : Int)), ((3 : Int), [], (300 : Int), (0 : Int), (0 : Int))]) fun (x1 : ((List Int) × Int)) =>
    bif x1.2 == (0 : Int) then
      Option.bind (m_r01_Same x1.1 [(84 : Int), (1 : Int), (5 : Int), (1 : Int), (1 : Int), (97 : Int), (3 : Int), (172 : Int), (2 : Int)]) fun (x2 : Bool) =>
        some x2
    else some Bool.false
noncomputable def e_L34_known : TEnt := ⟨27, .nil, [], [(.bool, [])], fun s => m_L34_known⟩
theorem e_L34_known_ok : EntT Try.prog e_L34_known := ent_of (tab := [e_r01_Same, e_tape_Bytes]) (loops := []) (joins := []) _ (by
    intro e he
    simp only [List.mem_cons, List.not_mem_nil, or_false] at he
    rcases he with rfl | rfl
    · exact e_r01_Same_ok
    · exact e_tape_Bytes_ok) (fun s => by kernel_rfl) (by kernel_rfl)
end Go.Sim

set_option maxRecDepth 100000
set_option maxHeartbeats 4000000
set_option linter.unusedVariables false
namespace Go.Sim
theorem loopM_l {σ T : Type} {step : σ → Option (σ ⊕ T)} {s s' : σ} (h : step s = some (.inl s')) : loopM step s = loopM step s' := by rw [loopM_eq, h]
theorem loopM_r {σ T : Type} {step : σ → Option (σ ⊕ T)} {s : σ} {t : T} (h : step s = some (.inr t)) : loopM step s = some t := by rw [loopM_eq, h]
def I3 (x : Nat × Nat × Nat) : Int × Int × Int := (x.1, x.2.1, x.2.2)
def unr {σ T : Type} (x : Option (σ ⊕ T)) (f : σ → Option T) : Option T := match x with
  | some (.inl s) => f s
  | some (.inr t) => some t
  | none => none
@[simp] theorem unr_l {σ T : Type} (s : σ) (f : σ → Option T) : unr (some (.inl s)) f = f s := rfl
@[simp] theorem unr_r {σ T : Type} (t : T) (f : σ → Option T) : unr (some (.inr t)) f = some t := rfl
theorem loopM_unr {σ T : Type} (step : σ → Option (σ ⊕ T)) (s : σ) : loopM step s = unr (step s) (loopM step) := by rw [loopM_eq]; rfl
theorem r01_Read_l1_eq (a : List Int) (b c d : Int) : m_r01_Read_l1 (a, b, c, d) = unr (m_r01_Read_l1_step a b c d) m_r01_Read_l1 := loopM_unr _ _
theorem num_Read_l1_eq (a : List Int) (b c : Int) : m_num_Read_l1 (a, b, c) = unr (m_num_Read_l1_step a b c) m_num_Read_l1 := loopM_unr _ _
theorem read_ref_loop (bs : List Int) (hB : ∀ c ∈ bs, Byt c) (hl : bs.length ≤ 1000000) : ∀ (k i acc : Nat), k = bs.length - i → i ≤ bs.length → i ≤ 9 → acc < un i →
    m_r01_Read_l1 (bs, (acc : Int), (un i : Int), (i : Int)) = some (I3 (readM (bs.drop i) i acc)) := by
  intro k
  induction k with
  | zero =>
    intro i acc hk hi hi9 ha
    refine loopM_r ?_
    simp only [m_r01_Read_l1_step]
    rw [decide_eq_false (by omega), cond_false, List.drop_eq_nil_of_le (by omega)]
    rfl
  | succ k ih =>
    intro i acc hk hi hi9 ha
    have hlt : i < bs.length := by omega
    obtain ⟨x, hxi⟩ : ∃ x, bs[i]? = some x := ⟨_, List.getElem?_eq_getElem hlt⟩
    have hd : bs.drop i = x :: bs.drop (i + 1) := by rw [List.drop_eq_getElem_cons hlt]; rw [List.getElem?_eq_getElem hlt] at hxi; cases hxi; rfl
    obtain ⟨m, rfl, hm⟩ := (hB x (List.mem_of_getElem? hxi)).nat
    have wm : IntKind.u64.wrap (m : Int) = m := wrap_u64 (by omega) (by omega)
    have wi : IntKind.i64.wrap ((i : Int) + 1) = (i + 1 : Nat) := by rw [wrap_i64n (by omega) (by omega)]; omega
    obtain ⟨q, hq⟩ : ∃ q : Nat, m % 128 * un i = q := ⟨_, rfl⟩
    have hs : (i = 9 → m ≤ 1) → acc + q < un (i + 1) ∧ acc + q < 18446744073709551616 := fun h9 => hq ▸ read_step hm hi9 h9 ha
    have wq : (m : Int).tmod 128 * (un i : Int) = q := by rw [Int.tmod_eq_emod_of_nonneg (by omega), ← hq]; push_cast; rfl
    have wA : (i = 9 → m ≤ 1) → IntKind.u64.wrap ((acc : Int) + IntKind.u64.wrap q) = (acc + q : Nat) := by
      intro h9
      have h := hs h9
      rw [wrap_u64 (n := (q : Int)) (by omega) (by omega), wrap_u64 (by omega) (by omega)]; omega
    rw [hd, readM, Int.toNat_natCast, hq]
    rw [r01_Read_l1_eq]
    simp only [m_r01_Read_l1_step, Bool.cond_eq_ite, decide_eq_true_eq, beq_iff_eq, Int.toNat_natCast, hxi, Option.bind_some, wm, wq]
    rw [if_pos (by omega), if_pos (by omega)]
    by_cases h1 : (i = 9 ∧ 1 < (m : Int)) ∨ (0 < i ∧ (m : Int) = 0)
    · rw [if_pos h1]
      by_cases h9 : i = 9
      · rw [if_pos (by omega)]
        by_cases h2 : 1 < (m : Int)
        · rw [if_pos h2]; rfl
        · rw [if_neg h2, if_pos (by omega), if_pos (by omega)]; rfl
      · rw [if_neg (by omega), if_pos (by omega), if_pos (by omega)]; rfl
    · rw [if_neg h1]
      have wA := wA (by omega)
      have hs := hs (by omega)
      have e1 : ∀ {α : Type} (a b c d : α), (if (i : Int) = 9 then (if 1 < (m : Int) then a else if 0 < (i : Int) then (if (m : Int) = 0 then b else c) else d) else (if 0 < (i : Int) then (if (m : Int) = 0 then b else c) else d)) = if 0 < (i : Int) then c else d := by
        intro α a b c d
        by_cases h9 : i = 9
        · rw [if_pos (by omega), if_neg (by omega)]
          by_cases h0 : 0 < (i : Int)
          · rw [if_pos h0, if_neg (by omega), if_pos h0]
          · rw [if_neg h0, if_neg h0]
        · rw [if_neg (by omega)]
          by_cases h0 : 0 < (i : Int)
          · rw [if_pos h0, if_neg (by omega), if_pos h0]
          · rw [if_neg h0, if_neg h0]
      rw [e1, ite_self, wA, wi]
      by_cases h3 : (m : Int) < 128
      · rw [if_pos h3, if_pos h3]; rfl
      · have wU : IntKind.u64.wrap ((un i : Int) * 128) = (un (i + 1) : Nat) := by
          have := un_le (i := i + 1) (by omega)
          rw [un_succ] at this ⊢
          rw [wrap_u64 (by omega) (by omega)]; omega
        rw [if_neg h3, if_neg h3, wU]
        exact ih (i + 1) (acc + q) (by omega) (by omega) (by omega) hs.1
theorem read_ref (bs : List Int) (hB : ∀ c ∈ bs, Byt c) (hl : bs.length ≤ 1000000) : m_r01_Read bs = some (I3 (readM bs 0 0)) := by
  have := read_ref_loop bs hB hl _ 0 0 rfl (Nat.zero_le _) (by decide) (by decide)
  rw [List.drop_zero] at this
  unfold m_r01_Read
  rw [show ((0 : Int)) = ((0 : Nat) : Int) from rfl, show ((1 : Int)) = (un 0 : Int) from rfl, this]
  rfl
theorem read_num_loop (bs : List Int) (hB : ∀ c ∈ bs, Byt c) (hl : bs.length ≤ 1000000) : ∀ (k i acc : Nat), k = bs.length - i → i ≤ bs.length → i ≤ 9 → acc < un i →
    m_num_Read_l1 (bs, (acc : Int), (i : Int)) = some (I3 (readM (bs.drop i) i acc)) := by
  intro k
  induction k with
  | zero =>
    intro i acc hk hi hi9 ha
    refine loopM_r ?_
    simp only [m_num_Read_l1_step]
    rw [beq_iff_eq.2 (by omega : (i : Int) = (bs.length : Int)), cond_true, List.drop_eq_nil_of_le (by omega)]
    rfl
  | succ k ih =>
    intro i acc hk hi hi9 ha
    have hlt : i < bs.length := by omega
    obtain ⟨x, hxi⟩ : ∃ x, bs[i]? = some x := ⟨_, List.getElem?_eq_getElem hlt⟩
    have hd : bs.drop i = x :: bs.drop (i + 1) := by rw [List.drop_eq_getElem_cons hlt]; rw [List.getElem?_eq_getElem hlt] at hxi; cases hxi; rfl
    have hx := hB x (List.mem_of_getElem? hxi)
    have h128 := and_128 hx
    have hacc := fun h9 => acc_eq (acc := acc) (i := i) hx hi9 h9 ha
    unfold numAcc at hacc
    obtain ⟨m, rfl, hm⟩ := hx.nat
    have wm : IntKind.u64.wrap (m : Int) = m := wrap_u64 (by omega) (by omega)
    have wi : IntKind.i64.wrap ((i : Int) + 1) = (i + 1 : Nat) := by rw [wrap_i64n (by omega) (by omega)]; omega
    have w7 : IntKind.i64.wrap (7 * (i : Int)) = 7 * (i : Int) := wrap_i64n (by omega) (by omega)
    obtain ⟨q, hq⟩ : ∃ q : Nat, m % 128 * un i = q := ⟨_, rfl⟩
    have hs : (i = 9 → m ≤ 1) → acc + q < un (i + 1) ∧ acc + q < 18446744073709551616 := fun h9 => hq ▸ read_step hm hi9 h9 ha
    rw [hd, readM, Int.toNat_natCast, hq]
    rw [num_Read_l1_eq]
    simp only [m_num_Read_l1_step, Bool.cond_eq_ite, decide_eq_true_eq, beq_iff_eq, bne_iff_ne, Int.toNat_natCast, hxi, Option.bind_some, w7]
    rw [wm] at h128 hacc
    simp only [wm]
    rw [if_neg (by omega), if_pos (by omega)]
    by_cases h1 : (i = 9 ∧ 1 < (m : Int)) ∨ (0 < i ∧ (m : Int) = 0)
    · rw [if_pos h1]
      by_cases h9 : i = 9
      · rw [if_pos (by omega)]
        by_cases h2 : 1 < (m : Int)
        · rw [if_pos h2]; rfl
        · rw [if_neg h2, if_pos (by omega), if_pos (by omega)]; rfl
      · rw [if_neg (by omega), if_pos (by omega), if_pos (by omega)]; rfl
    · rw [if_neg h1]
      have hs := hs (by omega)
      have hA := (hacc (by omega)).1
      rw [show ((acc : Int) + (m : Int) % 128 * 2 ^ (7 * i)) = ((acc + q : Nat) : Int) by rw [← hq]; unfold un; push_cast; rfl] at hA
      have e1 : ∀ {α : Type} (a b c d : α), (if (i : Int) = 9 then (if 1 < (m : Int) then a else if 0 < (i : Int) then (if (m : Int) = 0 then b else c) else d) else (if 0 < (i : Int) then (if (m : Int) = 0 then b else c) else d)) = if 0 < (i : Int) then c else d := by
        intro α a b c d
        by_cases h9 : i = 9
        · rw [if_pos (by omega), if_neg (by omega)]
          by_cases h0 : 0 < (i : Int)
          · rw [if_pos h0, if_neg (by omega), if_pos h0]
          · rw [if_neg h0, if_neg h0]
        · rw [if_neg (by omega)]
          by_cases h0 : 0 < (i : Int)
          · rw [if_pos h0, if_neg (by omega), if_pos h0]
          · rw [if_neg h0, if_neg h0]
      rw [e1, ite_self, if_pos (by omega), hA, wi]
      by_cases h3 : (m : Int) < 128
      · rw [if_pos h3, if_neg (by rw [h128.2 h3]; simp)]; rfl
      · rw [if_neg h3, if_pos (fun e => h3 (h128.1 e))]
        exact ih (i + 1) (acc + q) (by omega) (by omega) (by omega) hs.1
theorem read_num (bs : List Int) (hB : ∀ c ∈ bs, Byt c) (hl : bs.length ≤ 1000000) : m_num_Read bs = some (I3 (readM bs 0 0)) := by
  have h0 := read_num_loop bs hB hl _ 0 0 rfl (Nat.zero_le _) (by decide) (by decide)
  rw [List.drop_zero] at h0
  rw [num_Read_l1_eq] at h0
  rw [← h0]
  unfold m_num_Read
  cases bs with
  | nil => simp [m_num_Read_l1_step]
  | cons c r =>
    have hx := hB c List.mem_cons_self
    obtain ⟨m, rfl, hm⟩ := hx.nat
    have wm : IntKind.u64.wrap (m : Int) = m := wrap_u64 (by omega) (by omega)
    simp only [m_num_Read_l1_step, Bool.cond_eq_ite, decide_eq_true_eq, beq_iff_eq, bne_iff_ne, wm, List.length_cons, List.getElem?_cons_zero, Option.bind_some, Int.toNat_zero, Int.natCast_zero]
    have e0 : IntKind.i64.wrap 0 = 0 := by decide +kernel
    have e1 : IntKind.i64.wrap 1 = 1 := by decide +kernel
    simp only [Int.mul_zero, Int.zero_add, e0, e1, Int.toNat_zero, Nat.zero_min, Int.pow_zero, Int.mul_one]
    simp [e0, e1]
    by_cases h1 : bits .and .u64 (m : Int) 128 = 0
    · rw [if_pos h1, if_pos h1, if_neg (by omega), if_neg (by omega)]; rfl
    · rw [if_neg h1, if_neg h1, if_neg (by omega), if_neg (by omega)]; rfl
end Go.Sim

