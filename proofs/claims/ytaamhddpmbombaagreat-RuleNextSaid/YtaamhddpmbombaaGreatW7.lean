/- Part 7 of the claim RuleNext: T11, T12, T13, T14, T15, T16, T17, T18, T19, T20, V0 -/
import Derived.Test.YtaamhddpmbombaaGreatW6
set_option linter.unusedSimpArgs false
set_option linter.unusedVariables false
set_option linter.defProp false
namespace Go.Sim
open Go.RowKit
def a9f (l : List (Nat × TV)) : List (Nat × DV) := l.map fun p => (p.1, enc p.2)
def a1J (P : Program) (S : Shp) : Prop := ∀ a L s q, S.dec a L = some (s, q) → (∀ p ∈ q, p.1 = p.2) → wkS P (zO a) (eL L) (a9f (S.F s)) (eL (S.G s))
def afJ (P : Program) (S : Shp) : Prop := ∀ a L s q, S.dec a L = some (s, q) → (∀ p ∈ q, p.1 = p.2) → ∀ (h0 : Heap) (W0 : Ent) (γ : Pl) (h : Heap) (fa : Frm), Hp P h0 W0 γ (eL L) h → FR P W0 γ (eL L) h (zO a) fa →
 ∃ γ', Hp P h0 W0 γ' (eL (S.G s)) h ∧ FR P W0 γ' (eL (S.G s)) h (zO ⟨a.n, a.c, S.F s⟩) fa
def ajp (E : TEnv) : Prop := (∀ p, E.loops p = none) ∧ ∀ p, E.joins p = none
structure EnvOk (E : TEnv) : Prop where
 joins : ∀ p S, E.joins p = some S → afJ E.P S
 call : ∀ R : Type, TCallOk E.P (E.call R) E.wr
 loops : ∀ p S, E.loops p = some S → a1J E.P S
section
variable {h0 : Heap} {W0 : Ent} {B : Base}
theorem map_some {R S : Type} {t : Tree R} {z : S ⊕ R} (h : (t.map Sum.inr).run = some z) : ∃ r, t.run = some r ∧ z = Sum.inr r := by
 rw [Tree.run_map _ fun a b e => by cases e; rfl] at h
 cases hr : t.run with
 | none => rw [hr] at h; cases h
 | some r => rw [hr] at h; cases h; exact ⟨r, rfl, rfl⟩
theorem a2c {R : Type} {S : Shp} {n c : Nat} {a : TFrm} {L : List TO} {z1 : S.σ ⊕ R} (h : (if a.n = n ∧ a.c = c then ql (S.dec a L) fun p => chk p.2 (Tree.ret (Sum.inl p.1) : Tree (S.σ ⊕ R)) else .fail).run = some z1) :
  ∃ s q, S.dec a L = some (s, q) ∧ (∀ p ∈ q, p.1 = p.2) ∧ z1 = .inl s ∧ a.n = n ∧ a.c = c := by
 split at h
 ·rename_i hc
  obtain ⟨⟨s, q⟩, h1, h2⟩ := q8 h
  obtain ⟨h3, h4⟩ := zK h2
  cases h4
  exact ⟨s, q, h1, h3, rfl, hc⟩
 ·cases h
theorem Xj {R : Type} {S : Shp} {n c : Nat} {K : TK R} {e : Exit} {a : TFrm} {L : List TO} {z1 : S.σ ⊕ R} (h : (Je S n c K e a L).run = some z1) :
  (e = .normal ∧ ∃ s q, S.dec a L = some (s, q) ∧ (∀ p ∈ q, p.1 = p.2) ∧ z1 = .inl s ∧ a.n = n ∧ a.c = c) ∨ (e ≠ .normal ∧ ∃ r, (K e a L).run = some r ∧ z1 = .inr r) := by
 cases e with
 | normal => exact .inl ⟨rfl, a2c h⟩
 | exit id => exact .inr ⟨(fun q => by cases q), map_some h⟩
 | goto l => exact .inr ⟨(fun q => by cases q), map_some h⟩
 | ret => exact .inr ⟨(fun q => by cases q), map_some h⟩
 | panic c => exact .inr ⟨(fun q => by cases q), map_some h⟩
 | outgrown => exact .inr ⟨(fun q => by cases q), map_some h⟩
theorem acY {R : Type} {S : Shp} {n c : Nat} {K : TK R} {e : Exit} {a : TFrm} {L : List TO} {z1 : S.σ ⊕ R} (h : (tgo S n c K e a L).run = some z1) :
  ((∃ l, e = .goto l) ∧ ∃ s q, S.dec a L = some (s, q) ∧ (∀ p ∈ q, p.1 = p.2) ∧ z1 = .inl s ∧ a.n = n ∧ a.c = c) ∨ ((∀ l, e ≠ .goto l) ∧ ∃ r, (K e a L).run = some r ∧ z1 = .inr r) := by
 cases e with
 | goto l => exact .inl ⟨⟨l, rfl⟩, a2c h⟩
 | exit id => exact .inr ⟨(fun _ q => by cases q), map_some h⟩
 | normal => exact .inr ⟨(fun _ q => by cases q), map_some h⟩
 | ret => exact .inr ⟨(fun _ q => by cases q), map_some h⟩
 | panic c => exact .inr ⟨(fun _ q => by cases q), map_some h⟩
 | outgrown => exact .inr ⟨(fun _ q => by cases q), map_some h⟩
theorem Uh {R : Type} {S : Shp} {body : TFrm → List TO → Tree (S.σ ⊕ R)} {a : TFrm} {L : List TO} {z : R} (h : (a1I S body a L).run = some z) :
  ∃ s q n, S.dec a L = some (s, q) ∧ (∀ p ∈ q, p.1 = p.2) ∧ ya (fun s => (body ⟨a.n, a.c, S.F s⟩ (S.G s)).run) n s = some z := by
 unfold a1I at h
 obtain ⟨⟨s, q⟩, h1, h2⟩ := q8 h
 obtain ⟨h3, h4⟩ := zK h2
 obtain ⟨t, h5, h6⟩ := ke h4
 cases h6
 obtain ⟨n, hn⟩ := YS.1 h5
 exact ⟨s, q, n, h1, h3, hn⟩
theorem a2p {σ T : Type} {step : σ → Option (σ ⊕ T)} {n : Nat} {s : σ} {t : T} (h : ya step n s = some t) : ∃ m z1, n = m + 1 ∧ step s = some z1 ∧ ((∃ s', z1 = .inl s' ∧ ya step m s' = some t) ∨ z1 = .inr t) := by
 cases n with
 | zero => cases h
 | succ m =>
  unfold ya at h
  cases hs : step s with
  | none => simp only [hs] at h; cases h
  | some z1 =>
   cases z1 with
   | inl s' => simp only [hs] at h; exact ⟨m, _, rfl, rfl, .inl ⟨s', rfl, h⟩⟩
   | inr t' => simp only [hs] at h; cases h; exact ⟨m, _, rfl, rfl, .inr rfl⟩
def ab1 (E : TEnv) (h0 : Heap) (W0 : Ent) (B : Base) (x : X) : Prop := ∀ {p : Nat} {R : Type} {K : TK R} {z : R} {Q : Exit → Frm → Heap → Prop} {γ : Pl} {L : List TO} {h : Heap} {a : TFrm} {fa : Frm}, (∀ e fa h, Wm E.P h0 W0 B (fun a L => (K e a L).run = some z) fa h → Q e fa h) →
  HB E.P h0 W0 B γ (eL L) h → FR E.P W0 γ (eL L) h (zO a) fa → (tx E x none p R K a L).run = some z → xWp E.P x Q fa h
theorem a9U {P : Program} {S : Shp} (hS : a1J P S) {γ : Pl} {L : List TO} {h : Heap} {a : TFrm} {fa : Frm} {c : Code} {Q : Exit → Frm → Heap → Prop} (H : Hp P h0 W0 γ (eL L) h) (hf : FR P W0 γ (eL L) h (zO a) fa) {s : S.σ} {q : List (Nat × Nat)} (h1 : S.dec a L = some (s, q)) (h2 : ∀ p ∈ q, p.1 = p.2)
  (hk : ∀ γ' fa', Hp P h0 W0 γ' (eL (S.G s)) h → FR P W0 γ' (eL (S.G s)) h (zO ⟨a.n, a.c, S.F s⟩) fa' → AWp P c Q fa' h) : AWp P c Q fa h :=
 abp H hf (hS a L s q h1 h2) hk
theorem a52 {E : TEnv} (hE : EnvOk E) (hn : ¬ B.pl) {x : X} (ih : ab1 E h0 W0 B x) {p : Nat} {S : Shp} (hS : a1J E.P S) {R : Type} {K : TK R} {z : R} {Q : Exit → Frm → Heap → Prop} {γ : Pl} {L : List TO} {h : Heap} {a : TFrm} {fa : Frm} (hQ : ∀ e fa h, e ≠ .normal → Wm E.P h0 W0 B (fun a L => (K e a L).run = some z) fa h → Q e fa h)
  (H : HB E.P h0 W0 B γ (eL L) h) (hf : FR E.P W0 γ (eL L) h (zO a) fa) (e : (a1I S (fun a' L => tx E x none p (S.σ ⊕ R) (Je S a.n a.c K) a' L) a L).run = some z) : aam E.P x Q fa h := by
 rintro c rfl
 obtain ⟨s, q, n, h1, h2, h3⟩ := Uh e
 generalize hst : (fun s => ((fun a' L => tx E (xOf E.P c .nil) none p (S.σ ⊕ R) (Je S a.n a.c K) a' L) ⟨a.n, a.c, S.F s⟩ (S.G s)).run) = step at h3
 have hst' : ∀ s, step s = (tx E (xOf E.P c .nil) none p (S.σ ⊕ R) (Je S a.n a.c K) ⟨a.n, a.c, S.F s⟩ (S.G s)).run := fun s => by rw [← hst]
 let I : S.σ × Nat → Frm → Heap → Prop := fun y fa h => ∃ γ' a' L' q', Hp E.P h0 W0 γ' (eL L') h ∧ FR E.P W0 γ' (eL L') h (zO a') fa ∧ S.dec a' L' = some (y.1, q') ∧ (∀ p ∈ q', p.1 = p.2) ∧ a'.n = a.n ∧ a'.c = a.c ∧ ya step y.2 y.1 = some z
 refine Xr (σ := S.σ × Nat) I (fun y => y.2) (s, n) ⟨γ, a, L, q, H.hp, hf, h1, h2, rfl, rfl, h3⟩ ?_
 rintro ⟨s, n⟩ fa h ⟨γ', a', L', q', H', hf', d1, d2, e1, e2, hi⟩
 obtain ⟨m, z1, rfl, hs, hz⟩ := a2p hi
 refine a9U hS H' hf' d1 d2 fun γ2 fa2 H2 hf2 => ?_
 rw [e1, e2] at hf2
 rw [hst'] at hs
 refine (Ji (ih (Q := jt (fun fa h => ∃ y : S.σ × Nat, I y fa h ∧ y.2 < m + 1) Q) ?_ ⟨H2, fun q => absurd q hn⟩ hf2 hs))
 rintro e fa3 h3 ⟨a3, L3, γ3, hk, H3, hf3⟩
 rcases Xj hk with ⟨rfl, s', q2, k1, k2, rfl, k3, k4⟩ | ⟨hnn, r, k1, rfl⟩
 ·rcases hz with ⟨s2, hz1, hz2⟩ | hz
  ·cases hz1
   exact ⟨(s', m), ⟨γ3, a3, L3, q2, H3.hp, hf3, k1, k2, k3, k4, hz2⟩, Nat.lt_succ_self m⟩
  ·cases hz
 ·rcases hz with ⟨s2, hz1, hz2⟩ | hz
  ·cases hz1
  ·cases hz
   have := hQ e fa3 h3 hnn ⟨a3, L3, γ3, k1, H3, hf3⟩
   cases e <;> first | exact absurd rfl hnn | exact this
theorem aat {E : TEnv} {x : X} (ih : ab1 E h0 W0 B x) {p : Nat} {R : Type} {K : TK R} {z : R} {Q : Exit → Frm → Heap → Prop} {γ : Pl} {L : List TO} {h : Heap} {a : TFrm} {fa : Frm} {n : Nat} (hQ : ∀ e fa h, e ≠ .normal → Wm E.P h0 W0 B (fun a L => (K e a L).run = some z) fa h → Q e fa h)
  (H : HB E.P h0 W0 B γ (eL L) h) (hf : FR E.P W0 γ (eL L) h (zO a) fa) (e : (tun (fun K' a L => tx E x none p R K' a L) K n a L).run = some z) : aam E.P x Q fa h := by
 rintro c rfl
 let I : Nat → Frm → Heap → Prop := fun m fa h => Wm E.P h0 W0 B (fun a L => (tun (fun K' a L => tx E (xOf E.P c .nil) none p R K' a L) K m a L).run = some z) fa h
 refine Xr (σ := Nat) I (fun m => m) n ⟨a, L, γ, e, H, hf⟩ ?_
 rintro m fa h ⟨a', L', γ', hi, H', hf'⟩
 cases m with
 | zero => cases hi
 | succ m =>
  refine (Ji (ih (Q := jt (fun fa h => ∃ y : Nat, I y fa h ∧ y < m + 1) Q) ?_ H' hf' hi))
  rintro e fa3 h3 ⟨a3, L3, γ3, hk, H3, hf3⟩
  cases e with
  | normal => exact ⟨m, ⟨a3, L3, γ3, hk, H3, hf3⟩, Nat.lt_succ_self m⟩
  | exit id => exact hQ _ fa3 h3 (by intro q; cases q) ⟨a3, L3, γ3, hk, H3, hf3⟩
  | goto l => exact hQ _ fa3 h3 (by intro q; cases q) ⟨a3, L3, γ3, hk, H3, hf3⟩
  | ret => exact hQ _ fa3 h3 (by intro q; cases q) ⟨a3, L3, γ3, hk, H3, hf3⟩
  | panic c => exact hQ _ fa3 h3 (by intro q; cases q) ⟨a3, L3, γ3, hk, H3, hf3⟩
  | outgrown => exact hQ _ fa3 h3 (by intro q; cases q) ⟨a3, L3, γ3, hk, H3, hf3⟩
def ahv (E : TEnv) (h0 : Heap) (W0 : Ent) (B : Base) (x : X) : Prop := ∀ {l p : Nat} {R : Type} {K : TK R} {z : R} {Q : Exit → Frm → Heap → Prop} {γ : Pl} {L : List TO} {h : Heap} {a : TFrm} {fa : Frm}, (∀ e fa h, Wm E.P h0 W0 B (fun a L => (K e a L).run = some z) fa h → Q e fa h) →
  HB E.P h0 W0 B γ (eL L) h → FR E.P W0 γ (eL L) h (zO a) fa → (tx E x (some l) p R K a L).run = some z → ∃ y, a4w l x = some y ∧ xWp E.P y Q fa h
theorem a5O {E : TEnv} (hE : EnvOk E) {labs : X} (ih : ahv E h0 W0 B labs) {p : Nat} {shp : Nat → Option Shp} (hshp : ∀ l S, shp l = some S → a1J E.P S ∧ ¬ B.pl) {c : Code} (hl : Z8 E.P c .nil .nil = labs) :
  ∀ (f : Nat) {cur : Option Nat} {R : Type} {K : TK R} {z : R} {Q : Exit → Frm → Heap → Prop}, (∀ e fa h, (∀ l, e = .goto l → cur = some l) → Wm E.P h0 W0 B (fun a L => (K e a L).run = some z) fa h → Q e fa h) →
   (∀ l rest fa h, findLabel c l = some rest → AWp E.P rest Q fa h → Q (.goto l) fa h) →
   ∀ e fa h, Wm E.P h0 W0 B (fun a L => (Vb shp (fun R K l a L => tx E labs (some l) p R K a L) f cur R K e a L).run = some z) fa h → Q e fa h := by
 have find : ∀ l y, a4w l labs = some y → ∃ rest, findLabel c l = some rest ∧ y = xOf E.P rest .nil := by
  subst hl
  intro l y hy
  cases hf : findLabel c l with
  | none =>
   rw [(WV E.P l c .nil .nil).2 hf] at hy
   cases hy
  | some rest =>
   rw [(WV E.P l c .nil .nil).1 rest hf] at hy
   cases hy
   exact ⟨rest, rfl, rfl⟩
 intro f
 induction f with
 | zero =>
  intro cur R K z Q hQ hgo e fa h ⟨a, L, γ, hk, H, hf⟩
  cases e with
  | goto l => cases hk
  | exit id => exact hQ _ fa h (fun l q => by cases q) ⟨a, L, γ, hk, H, hf⟩
  | normal => exact hQ _ fa h (fun l q => by cases q) ⟨a, L, γ, hk, H, hf⟩
  | ret => exact hQ _ fa h (fun l q => by cases q) ⟨a, L, γ, hk, H, hf⟩
  | panic c => exact hQ _ fa h (fun l q => by cases q) ⟨a, L, γ, hk, H, hf⟩
  | outgrown => exact hQ _ fa h (fun l q => by cases q) ⟨a, L, γ, hk, H, hf⟩
 | succ f ihf =>
  intro cur R K z Q hQ hgo e fa h ⟨a, L, γ, hk, H, hf⟩
  cases e with
  | goto l =>
   have hk' : (if cur = some l then K (.goto l) a L else match shp l with
    | none => tx E labs (some l) p R (Vb shp (fun R K l a L => tx E labs (some l) p R K a L) f cur R K) a L
    | some S => a1I S (fun a' L => tx E labs (some l) p (S.σ ⊕ R) (Vb shp (fun R K l a L => tx E labs (some l) p R K a L) f (some l) (S.σ ⊕ R) (tgo S a.n a.c K)) a' L) a L).run = some z := hk
   split at hk'
   ·rename_i hc
    exact hQ _ fa h (fun l' q => by cases q; exact hc) ⟨a, L, γ, hk', H, hf⟩
   ·rename_i hc
    split at hk'
    ·obtain ⟨y, hy, hw⟩ := ih (Q := Q) (fun e fa h hs => ihf hQ hgo e fa h hs) H hf hk'
     obtain ⟨rest, hr, rfl⟩ := find l y hy
     exact hgo l rest fa h hr (Ji hw)
    ·rename_i S hS
     have hnb := (hshp l S hS).2
     obtain ⟨s, q, n, h1, h2, h3⟩ := Uh hk'
     generalize hst : (fun s => ((fun a' L => tx E labs (some l) p (S.σ ⊕ R) (Vb shp (fun R K l a L => tx E labs (some l) p R K a L) f (some l) (S.σ ⊕ R) (tgo S a.n a.c K)) a' L) ⟨a.n, a.c, S.F s⟩ (S.G s)).run) = step at h3
     have hst' : ∀ s, step s = (tx E labs (some l) p (S.σ ⊕ R) (Vb shp (fun R K l a L => tx E labs (some l) p R K a L) f (some l) (S.σ ⊕ R) (tgo S a.n a.c K)) ⟨a.n, a.c, S.F s⟩ (S.G s)).run := fun s => by rw [← hst]
     have key : ∀ (n : Nat) (s : S.σ) (fa : Frm) (h : Heap) (γ' : Pl) (a' : TFrm) (L' : List TO) (q' : List (Nat × Nat)), Hp E.P h0 W0 γ' (eL L') h → FR E.P W0 γ' (eL L') h (zO a') fa → S.dec a' L' = some (s, q') → (∀ p ∈ q', p.1 = p.2) → a'.n = a.n → a'.c = a.c → ya step n s = some z → Q (.goto l) fa h := by
      intro n
      induction n with
      | zero => intro s fa h γ' a' L' q' _ _ _ _ _ _ hi; cases hi
      | succ m ihm =>
       intro s fa h γ' a' L' q' H' hf' d1 d2 e1 e2 hi
       obtain ⟨m', z1, hm, hs, hz⟩ := a2p hi
       cases hm
       rw [hst'] at hs
       have e1' : (⟨a'.n, a'.c, S.F s⟩ : TFrm) = ⟨a.n, a.c, S.F s⟩ := by rw [e1, e2]
       obtain ⟨rest, hr⟩ : ∃ rest, findLabel c l = some rest := by
        obtain ⟨sel, ok, hp, hll⟩ := (hshp l S hS).1 a' L' s q' d1 d2
        obtain ⟨fl, f1, f2⟩ := UL H' ok hf' (a9f (S.F s)) hll
        obtain ⟨y, hy, _⟩ := ih (Q := fun _ _ _ => True) (fun _ _ _ _ => trivial) ⟨H'.select ok fun id b e => hp id (by rw [← hf'.cnt]; exact W0.few id b e) (H'.pin id b e).2, fun q => absurd q hnb⟩ (a := ⟨a'.n, a'.c, S.F s⟩) (fa := ⟨a'.n, fl⟩) ⟨rfl, hf'.cnt, f2⟩ (by rw [e1']; exact hs)
        obtain ⟨rest, hr, _⟩ := find l y hy
        exact ⟨rest, hr⟩
       refine hgo l rest fa h hr ?_
       refine a9U (hshp l S hS).1 H' hf' d1 d2 fun γ2 fa2 H2 hf2 => ?_
       rw [e1'] at hf2
       have hside : ∀ e fa h, Wm E.P h0 W0 B (fun a' L' => (Vb shp (fun R K l a L => tx E labs (some l) p R K a L) f (some l) (S.σ ⊕ R) (tgo S a.n a.c K) e a' L').run = some z1) fa h → Q e fa h := by
        intro e fa h hs'
        refine ihf (cur := some l) (K := tgo S a.n a.c K) (z := z1) (Q := Q) ?_ hgo e fa h hs'
        ·rintro e fa3 h3 hcur ⟨a3, L3, γ3, hk3, H3, hf3⟩
         rcases acY hk3 with ⟨⟨l', rfl⟩, s', q2, k1, k2, rfl, k3, k4⟩ | ⟨hn, r, k1, rfl⟩
         ·have := hcur l' rfl
          cases this
          rcases hz with ⟨s2, hz1, hz2⟩ | hz
          ·cases hz1
           exact ihm s' fa3 h3 γ3 a3 L3 q2 H3.hp hf3 k1 k2 k3 k4 hz2
          ·cases hz
         ·rcases hz with ⟨s2, hz1, hz2⟩ | hz
          ·cases hz1
          ·cases hz
           exact hQ e fa3 h3 (fun l' q => absurd q (hn l')) ⟨a3, L3, γ3, k1, H3, hf3⟩
       obtain ⟨y, hy, hw⟩ := ih (Q := Q) hside ⟨H2, fun q => absurd q hnb⟩ hf2 hs
       obtain ⟨rest', hr', rfl⟩ := find l y hy
       rw [hr] at hr'; cases hr'
       exact Ji hw
     exact key n s fa h γ a L q H.hp hf h1 h2 rfl rfl h3
  | exit id => exact hQ _ fa h (fun l q => by cases q) ⟨a, L, γ, hk, H, hf⟩
  | normal => exact hQ _ fa h (fun l q => by cases q) ⟨a, L, γ, hk, H, hf⟩
  | ret => exact hQ _ fa h (fun l q => by cases q) ⟨a, L, γ, hk, H, hf⟩
  | panic c => exact hQ _ fa h (fun l q => by cases q) ⟨a, L, γ, hk, H, hf⟩
  | outgrown => exact hQ _ fa h (fun l q => by cases q) ⟨a, L, γ, hk, H, hf⟩
theorem WT {R : Type} {P : Program} {k : TFrm → List TO → Tree R} {K : TK R} {z : R} {A : Frm → Heap → Prop} {Q : Exit → Frm → Heap → Prop} (hk : ∀ fa h, Wm P h0 W0 B (fun a L => (k a L).run = some z) fa h → A fa h) (hK : ∀ e fa h, Wm P h0 W0 B (fun a L => (K e a L).run = some z) fa h → Q e fa h) :
  ∀ e fa h, Wm P h0 W0 B (fun a L => (xU k K e a L).run = some z) fa h → jt A Q e fa h := by
 intro e fa h hs
 cases e with
 | normal => exact hk fa h hs
 | exit id => exact hK _ fa h hs
 | goto l => exact hK _ fa h hs
 | ret => exact hK _ fa h hs
 | panic c => exact hK _ fa h hs
 | outgrown => exact hK _ fa h hs
theorem J9 {R : Type} {S : Shp} {body : TK (S.σ ⊕ R) → TFrm → List TO → Tree (S.σ ⊕ R)} {k : TFrm → List TO → Tree R} {K : TK R} {a : TFrm} {L : List TO} {z : R} (h : (a5w S body k K a L).run = some z) :
  ∃ s1, (body (Je S a.n a.c K) a L).run = some s1 ∧ ((∃ s, s1 = .inl s ∧ (k ⟨a.n, a.c, S.F s⟩ (S.G s)).run = some z) ∨ s1 = .inr z) := by
 have h' : (Wx (body (Je S a.n a.c K) a L).run fun s => Tree.case S.σ R s (fun s => k ⟨a.n, a.c, S.F s⟩ (S.G s)) .ret).run = some z := h
 obtain ⟨s1, h1, h2⟩ := ke h'
 refine ⟨s1, h1, ?_⟩
 cases s1 with
 | inl s => exact .inl ⟨s, rfl, h2⟩
 | inr r => cases h2; exact .inr rfl
theorem WX {E : TEnv} (hE : EnvOk E) (hnb : ¬ B.pl) {R : Type} {S : Shp} (hS : afJ E.P S) {n c : Nat} {k : X} {p : Nat} (ih : ab1 E h0 W0 B k) {K : TK R} {z : R} {Q : Exit → Frm → Heap → Prop} {s1 : S.σ ⊕ R} (hz : (∃ s, s1 = .inl s ∧ (tx E k none p R K ⟨n, c, S.F s⟩ (S.G s)).run = some z) ∨ s1 = .inr z)
  (hQ : ∀ e fa h, Wm E.P h0 W0 B (fun a L => (K e a L).run = some z) fa h → Q e fa h) : ∀ e fa h, Wm E.P h0 W0 B (fun a L => (Je S n c K e a L).run = some s1) fa h → jt (fun fa h => xWp E.P k Q fa h) Q e fa h := by
 rintro e fa h ⟨a, L, γ, hk, H, hf⟩
 rcases Xj hk with ⟨rfl, s, q, k1, k2, rfl, k3, k4⟩ | ⟨hn, r, k1, rfl⟩
 ·rcases hz with ⟨s', hs', hr⟩ | hz
  ·cases hs'
   obtain ⟨γ', H', hf'⟩ := hS a L s q k1 k2 h0 W0 γ h fa H.hp hf
   rw [k3, k4] at hf'
   exact ih hQ ⟨H', fun q => absurd q hnb⟩ hf' hr
  ·cases hz
 ·rcases hz with ⟨s', hs', hr⟩ | hz
  ·cases hs'
  ·cases hz
   have := hQ e fa h ⟨a, L, γ, k1, H, hf⟩
   cases e <;> first | exact absurd rfl hn | exact this
theorem z7 {E : TEnv} (hE : EnvOk E) (hpl : B.pl → ajp E) : ∀ x : X, ab1 E h0 W0 B x ∧ ahv E h0 W0 B x
 | .nil => ⟨fun hQ H hf e => hQ _ _ _ ⟨_, _, _, e, H, hf⟩, fun hQ H hf e => (by cases e)⟩
 | .ret => ⟨fun hQ H hf e => hQ _ _ _ ⟨_, _, _, e, H, hf⟩, fun hQ H hf e => (by cases e)⟩
 | .exit id => ⟨fun hQ H hf e => hQ _ _ _ ⟨_, _, _, e, H, hf⟩, fun hQ H hf e => (by cases e)⟩
 | .goto l => ⟨fun hQ H hf e => hQ _ _ _ ⟨_, _, _, e, H, hf⟩, fun hQ H hf e => (by cases e)⟩
 | .bad => ⟨fun hQ H hf e => (by cases e), fun hQ H hf e => (by cases e)⟩
 | .range _ _ _ _ _ => ⟨fun hQ H hf e => (by cases e), fun hQ H hf e => (by cases e)⟩
 | .reg l k => ⟨fun {p R K z Q γ L h a fa} hQ H hf e => (by
   unfold tx at e
   split at e
   ·exact Ya (hE.call R) l (fun fa h ⟨a, L, γ, e, H, hf⟩ => (z7 hE hpl k).1 hQ H hf e) H hf e
   ·rename_i S hS
    obtain ⟨s1, h1, hz⟩ := J9 e
    exact Ya (hE.call (S.σ ⊕ R)) l (fun fa h hs => WX hE (fun q => by rw [(hpl q).2] at hS; cases hS) (hE.joins _ _ hS) (z7 hE hpl k).1 hz hQ .normal fa h hs) H hf h1), fun hQ H hf e => (by cases e)⟩
 | .draw l k => ⟨fun {p R K z Q γ L h a fa} hQ H hf e => (by
   unfold tx at e
   split at e
   ·exact xb (hE.call R) l (fun fa h ⟨a, L, γ, e, H, hf⟩ => (z7 hE hpl k).1 hQ H hf e) H hf (fun q hq => by simp at hq) (fun q hq => by simp at hq) e
   ·rename_i S hS
    obtain ⟨s1, h1, hz⟩ := J9 e
    exact xb (hE.call (S.σ ⊕ R)) l (fun fa h hs => WX hE (fun q => by rw [(hpl q).2] at hS; cases hS) (hE.joins _ _ hS) (z7 hE hpl k).1 hz hQ .normal fa h hs) H hf (fun q hq => by simp at hq) (fun q hq => by simp at hq) h1), fun hQ H hf e => (by cases e)⟩
 | .label l k => ⟨fun hQ H hf e => (z7 hE hpl k).1 hQ H hf e, fun hQ H hf e => (by cases e)⟩
 | .cond c x y k => ⟨fun {p R K z Q γ L h a fa} hQ H hf e => (by
   have hT := WT (h0 := h0) (W0 := W0) (B := B) (P := E.P) (A := fun fa h => xWp E.P k Q fa h) (fun fa h ⟨a, L, γ, e, H, hf⟩ => (z7 hE hpl k).1 (p := 8 * p + 1) hQ H hf e) hQ
   unfold tx at e
   unfold xWp
   split at e
   ·rename_i b hb
    have hv : fa.ev c = some (.bool b) := by
     obtain ⟨v, e1, r⟩ := (W8 hf) c (enc (.v (.bool b))) (qH hb)
     have : v = .bool b := PR.scal (P := E.P) (S := qd W0 γ (eL L) h) (h := h) r
     subst this
     exact e1
    rw [hv]
    split at e
    ·rename_i S hS
     obtain ⟨s1, h1, hz⟩ := J9 e
     have hJ := WX hE (fun q => by rw [(hpl q).2] at hS; cases hS) (hE.joins _ _ hS) (z7 hE hpl k).1 hz hQ
     have hk := a4a hf hb
     cases b
     ·exact ⟨fun q => (by cases q), fun _ => (z7 hE hpl y).1 hJ H hk h1⟩
     ·exact ⟨fun _ => (z7 hE hpl x).1 hJ H hk h1, fun q => (by cases q)⟩
    ·have hk := a4a hf hb
     cases b
     ·exact ⟨fun q => (by cases q), fun _ => (z7 hE hpl y).1 hT H hk e⟩
     ·exact ⟨fun _ => (z7 hE hpl x).1 hT H hk e, fun q => (by cases q)⟩
   ·cases e), fun hQ H hf e => (by cases e)⟩
 | .block id x k => ⟨fun {p R K z Q γ L h a fa} hQ H hf e => (by
   have hblk : ∀ {R' : Type} {K' : TK R'} {z' : R'} {Q' : Exit → Frm → Heap → Prop}, (∀ e fa h, Wm E.P h0 W0 B (fun a L => (K' e a L).run = some z') fa h → Q' e fa h) → ∀ e fa h, Wm E.P h0 W0 B (fun a L => (a7r id K' e a L).run = some z') fa h → Qb id Q' e fa h := by
    intro R' K' z' Q' hT e fa h ⟨a, L, γ, hk, H, hf⟩
    cases e with
    | exit id' =>
     have hk' : ((if id' = id then K' .normal a L else K' (.exit id') a L)).run = some z' := hk
     unfold Qb
     simp only
     split at hk'
     ·rename_i hc; rw [if_pos hc]; exact hT _ _ _ ⟨a, L, γ, hk', H, hf⟩
     ·rename_i hc; rw [if_neg hc]; exact hT _ _ _ ⟨a, L, γ, hk', H, hf⟩
    | normal => exact hT .normal _ _ ⟨a, L, γ, hk, H, hf⟩
    | goto l => exact hT (.goto l) _ _ ⟨a, L, γ, hk, H, hf⟩
    | ret => exact hT .ret _ _ ⟨a, L, γ, hk, H, hf⟩
    | panic c => exact hT (.panic c) _ _ ⟨a, L, γ, hk, H, hf⟩
    | outgrown => exact hT .outgrown _ _ ⟨a, L, γ, hk, H, hf⟩
   unfold tx at e
   split at e
   ·have hT := WT (h0 := h0) (W0 := W0) (B := B) (P := E.P) (A := fun fa h => xWp E.P k Q fa h) (fun fa h ⟨a, L, γ, e, H, hf⟩ => (z7 hE hpl k).1 (p := 8 * p + 1) hQ H hf e) hQ
    exact (z7 hE hpl x).1 (hblk hT) H hf e
   ·rename_i S hS
    obtain ⟨s1, h1, hz⟩ := J9 e
    have hJ := WX hE (fun q => by rw [(hpl q).2] at hS; cases hS) (hE.joins _ _ hS) (z7 hE hpl k).1 hz hQ
    exact (z7 hE hpl x).1 (hblk hJ) H hf h1), fun hQ H hf e => (by cases e)⟩
 | .loop x k => ⟨fun {p R K z Q γ L h a fa} hQ H hf e => (by
   have hT := WT (h0 := h0) (W0 := W0) (B := B) (P := E.P) (A := fun fa h => xWp E.P k Q fa h) (fun fa h ⟨a, L, γ, e, H, hf⟩ => (z7 hE hpl k).1 (p := 8 * p + 1) hQ H hf e) hQ
   unfold tx at e
   unfold xWp
   split at e
   ·rename_i S hS
    exact a52 hE (fun q => by rw [(hpl q).1] at hS; cases hS) (z7 hE hpl x).1 (hE.loops _ _ hS) (fun e fa h _ hs => hT e fa h hs) H hf e
   ·exact aat (z7 hE hpl x).1 (fun e fa h _ hs => hT e fa h hs) H hf e), fun hQ H hf e => (by cases e)⟩
 | .scope x labs k => ⟨fun {p R K z Q γ L h a fa} hQ H hf e => (by
   have hT := WT (h0 := h0) (W0 := W0) (B := B) (P := E.P) (A := fun fa h => xWp E.P k Q fa h) (fun fa h ⟨a, L, γ, e, H, hf⟩ => (z7 hE hpl k).1 (p := 8 * p + 1) hQ H hf e) hQ
   unfold xWp
   rintro c rfl hl
   unfold tx at e
   have hJ := a5O (h0 := h0) (W0 := W0) (B := B) (K := xU (fun a L => tx E k none (8 * p + 1) R K a L) K) (z := z) hE (z7 hE hpl labs).2 (p := 8 * p + 3) (shp := fun l => E.loops (8 * (8 * p + 4) + l)) (fun l S hS => ⟨hE.loops _ _ hS, fun q => by rw [(hpl q).1] at hS; cases hS⟩) (c := c) hl 20 (cur := none) (Q := goQ E.P c (jt (fun fa h => xWp E.P k Q fa h) Q)) (fun e fa h hc hs => by
    have := hT e fa h hs
    cases e with
    | goto l => exact absurd (hc l rfl) (fun q => by cases q)
    | exit id => exact this
    | normal => exact this
    | ret => exact this
    | panic c => exact this
    | outgrown => exact this) (fun l rest fa h hr hw => ⟨rest, hr, a1w hw⟩)
   exact ac2 (a1w (Ji ((z7 hE hpl (xOf E.P c .nil)).1 hJ H hf e)))), fun hQ H hf e => (by cases e)⟩
 | .lcons l' y r => ⟨fun hQ H hf e => (by cases e), fun {l p R K z Q γ L h a fa} hQ H hf e => (by
   unfold tx at e
   unfold a4w
   split at e
   ·rename_i hc; rw [if_pos hc.symm]; exact ⟨y, rfl, (z7 hE hpl y).1 hQ H hf e⟩
   ·rename_i hc; rw [if_neg fun q => hc q.symm]; exact (z7 hE hpl r).2 hQ H hf e)⟩
end
end Go.Sim
namespace Go.Sim
open Go.RowKit
section
variable {R : Type} {P : Program}
theorem vT {a : TFrm} {L : List TO} {z : R} : ∀ {rs : List ResultVar} {K : List TV → Tree R}, (a45 P a L rs K).run = some z → ∃ ds, zH P (zO a) (eL L) rs = some (ds.map enc) ∧ (K ds).run = some z
 | [], K, e => ⟨[], rfl, e⟩
 | .tmp t :: r, K, e => by
  unfold a45 at e
  replace e := q8 e; obtain ⟨d, h1, e⟩ := e
  obtain ⟨ds, h2, e⟩ := vT e
  refine ⟨d :: ds, ?_, e⟩
  have : y5 P (zO a) (eL L) (.tmp t) = some (enc d) := by
   show qQ t (a.l.map fun p => (p.1, enc p.2)) = _
   rw [jj, h1]; rfl
  unfold zH
  rw [this, h2]; rfl
 | .cell p t :: r, K, e => by
  unfold a45 at e
  replace e := q8 e; obtain ⟨x, h1, e⟩ := e
  obtain ⟨d, h3, e⟩ := Yb e
  obtain ⟨ds, h2, e⟩ := vT e
  refine ⟨d :: ds, ?_, e⟩
  have : y5 P (zO a) (eL L) (.cell p t) = some (enc d) := by
   have hx : qQ p (zO a).l = some (enc x) := by show qQ p (a.l.map fun p => (p.1, enc p.2)) = _; rw [jj, h1]; rfl
   show (match qQ p (zO a).l with
    | some d => jE P (eL L) t d
    | none => none) = _
   rw [hx]
   exact h3
  unfold zH
  rw [this, h2]; rfl
theorem Kx {d : TV} (h : ZQ d = true) : enc d = qP d := by cases d <;> first | rfl | cases h
theorem a69 : ∀ {ds : List TV}, ds.all ZQ = true → ds.map enc = ds.map qP ∧ (ds.map enc).all is1 = true
 | [], _ => ⟨rfl, rfl⟩
 | d :: l, h => by
  simp only [List.all_cons, Bool.and_eq_true] at h
  obtain ⟨h1, h2⟩ := a69 h.2
  refine ⟨?_, ?_⟩
  ·rw [List.map_cons, List.map_cons, h1, Kx h.1]
  ·rw [List.map_cons, List.all_cons, h2, Kw, h.1]; rfl
theorem a28 {ds : List TV} {d : TV} (h : a1R ds = some d) : Jp (ds.map enc) = some (enc d) := by
 unfold a1R at h
 split at h
 ·cases h; rfl
 ·rename_i hn
  split at h
  ·rename_i ha
   cases h
   obtain ⟨h1, h2⟩ := a69 ha
   cases ds with
   | nil => rfl
   | cons x l =>
    cases l with
    | nil => exact absurd rfl (hn x)
    | cons y m =>
     show (if ((x :: y :: m).map enc).all is1 then some (DV.tup ((x :: y :: m).map enc)) else none) = _
     rw [if_pos h2, h1]; rfl
  ·cases h
theorem uP : ∀ (k : Nat) (ds : List TV), (QC k ds).map (fun p => (p.1, enc p.2)) = wC k (ds.map enc)
 | k, [] => rfl
 | k, d :: l => by simp only [QC, List.map_cons, wC, uP (k + 1) l]
def abo (P : Program) (f : FuncId) (n : Nat) : Bool := match P.funcs[f]? with
 | some fn => fn.body.isSome && !(fn.name == "runtime.NumGoroutine") && decide (n ≤ fn.ntmps)
 | none => false
theorem a82 {E : TEnv} (hE : EnvOk E) {f : FuncId} {ds : List TV} {A : List TO} {K : TV → List TO → Tree R} {z : R} {Q : DV → List Obj → Prop} (hfn : abo E.P f ds.length = true) (e : (af8 E f ds A K).run = some z)
  (hK : ∀ d L, (K d L).run = some z → aaw E.P A.length Q (enc d) (eL L)) : DCalls E.P f (ds.map enc) (eL A) Q := by
 unfold af8 at e
 replace e := q8 e; obtain ⟨fn, hf, e⟩ := e
 unfold abo at hfn
 rw [hf] at hfn
 simp only [Bool.and_eq_true, Bool.not_eq_true', decide_eq_true_eq] at hfn
 obtain ⟨⟨h1, h3⟩, h4⟩ := hfn
 intro W0 γ h vs hcnt H hr
 rw [zA] at hcnt
 let W1 : Ent := { W0 with cnt := A.length, few := fun id b e => Nat.lt_of_lt_of_le (W0.few id b e) hcnt }
 have H1 : Hp E.P h W1 γ (eL A) h := ⟨H.start, H.pin, H.obj, H.inj, H.dom, H.new, H.next, H.frame⟩
 cases hbd : fn.body with
 | none => rw [hbd] at h1; cases h1
 | some c =>
  have hb : UG fn = c := by simp [UG, hbd]
  rw [hb] at e
  have hlen : vs.length ≤ fn.ntmps := by rw [← hr.length]; simpa using h4
  refine ACalls.vw (Q := fun v h' => ∃ γ' r L', aaw E.P A.length Q r L' ∧ Hp E.P h W1 γ' L' h' ∧ DR E.P (qd W1 γ' L' h') γ' L' h' r v) (Vy hf hbd rfl rfl h3 hlen (Ji ?_)) ?_
  ·have hx : ab1 E h W1 ⟨False, γ, [], h⟩ (xOf E.P c .nil) := (z7 (B := ⟨False, γ, [], h⟩) hE (fun q => False.elim q) _).1
   have hF : FR E.P W1 γ (eL A) h (zO ⟨fn.ntmps, A.length, QC 0 ds⟩) ⟨fn.ntmps, kN 0 vs⟩ := ⟨rfl, rfl, fun t d e => JJ 0 hr t d (by rw [← uP]; exact e)⟩
   refine hx (z := z) ?_ ⟨H1, fun q => False.elim q⟩ hF e
   rintro e fa h' ⟨a, L', γ', hq, ⟨H', _⟩, hf'⟩
   have fin : (a45 E.P a L' fn.results.toList fun ds => ql (a1R ds) fun d => K d L').run = some z → ∃ vs, za E.P fa h' fn.results.toList = some vs ∧ ∃ γ' r L', aaw E.P A.length Q r L' ∧ Hp E.P h W1 γ' L' h' ∧ DR E.P (qd W1 γ' L' h') γ' L' h' r (yd vs) := by
    intro hq
    obtain ⟨ds', e1, hq⟩ := vT hq
    replace hq := q8 hq; obtain ⟨d, e2, hq⟩ := hq
    obtain ⟨vs', e3, r3⟩ := QO H' hf' e1
    exact ⟨vs', e3, γ', _, _, hK d L' hq, H', a0f r3 (a28 e2)⟩
   cases e with
   | normal => exact fin hq
   | ret => exact fin hq
   | exit id => cases hq
   | goto l => cases hq
   | panic c => cases hq
   | outgrown => cases hq
  ·rintro v h' ⟨γ', r, L', ⟨sel, r', A', ok, hp, hw, hq⟩, H', hd⟩
   have hpin : ∀ id b, W1.pin id b → sel[id]? = some (some id) := fun id b e => hp id (W1.few id b e) (H'.pin id b e).2
   obtain ⟨u, hu, hd'⟩ := a1E H' ok hw hd
   have H2 := H'.select ok hpin
   exact ⟨u, hu, _, r', A', hq, ⟨H2.start, H2.pin, H2.obj, H2.inj, H2.dom, H2.new, H2.next, H2.frame⟩, hd'⟩
end
end Go.Sim
namespace Go.Sim
open Go.RowKit
inductive VS where
 | int (k : IntKind)
 | bool
 | str
 | cst (x : Value)
 | sl (c : CT)
 | ptr (k off : Nat)
 | own (k : Nat)
 | part (k : Nat)
 | mp (k : Nat)
 | nil
 | cons (a b : VS)
 | fn (f : FuncId) (pre cap : VS)
 | agg (l : VS)
 | tup (l : VS)
inductive OS where
 | st (cells : VS)
 | li (c : CT) (e : TypeId) (loc : Bool)
 | mp (es : List (Value × FuncId))
 | dead
def SP (ta tb : Bool) (A B : Type) : Type := match ta with
 | true => B
 | false => match tb with
  | true => A
  | false => A × B
def SP.fst {ta tb : Bool} {A B : Type} (d : A) (p : SP ta tb A B) : A := match ta, tb, p with
 | true, _, _ => d
 | false, true, p => p
 | false, false, p => p.1
def SP.snd {ta tb : Bool} {A B : Type} (d : B) (p : SP ta tb A B) : B := match ta, tb, p with
 | true, _, p => p
 | false, true, _ => d
 | false, false, p => p.2
def SP.mk {ta tb : Bool} {A B : Type} (x : A) (y : B) : SP ta tb A B := match ta, tb with
 | true, _ => y
 | false, true => x
 | false, false => (x, y)
theorem SP.fst_mk {ta tb : Bool} {A B : Type} {d x : A} {y : B} (h : ta = true → x = d) : SP.fst d (SP.mk (ta := ta) (tb := tb) x y) = x := by
 cases ta
 ·cases tb <;> rfl
 ·exact (h rfl).symm
theorem SP.snd_mk {ta tb : Bool} {A B : Type} {d y : B} {x : A} (h : tb = true → y = d) : SP.snd d (SP.mk (ta := ta) (tb := tb) x y) = y := by
 cases ta
 ·cases tb
  ·rfl
  ·exact (h rfl).symm
 ·rfl
def VS.triv : VS → Bool
 | .int _ => false
 | .bool => false
 | .str => false
 | .sl _ => false
 | .cst _ => true
 | .ptr _ _ => true
 | .own _ => true
 | .part _ => false
 | .mp _ => true
 | .nil => true
 | .cons a b => a.triv && b.triv
 | .fn _ a b => a.triv && b.triv
 | .agg l => l.triv
 | .tup l => l.triv
def VS.T : VS → Type
 | .int _ => Int
 | .bool => Bool
 | .str => ByteArray
 | .sl c => List c.T
 | .cst _ => Unit
 | .ptr _ _ => Unit
 | .own _ => Unit
 | .part _ => Nat × Nat
 | .mp _ => Unit
 | .nil => Unit
 | .cons a b => SP a.triv b.triv a.T b.T
 | .fn _ a b => SP a.triv b.triv a.T b.T
 | .agg l => l.T
 | .tup l => l.T
def VS.dfl : (s : VS) → s.T
 | .int _ => (0 : Int)
 | .bool => false
 | .str => ByteArray.empty
 | .sl _ => []
 | .cst _ => ()
 | .ptr _ _ => ()
 | .own _ => ()
 | .part _ => (0, 0)
 | .mp _ => ()
 | .nil => ()
 | .cons a b => SP.mk a.dfl b.dfl
 | .fn _ a b => SP.mk a.dfl b.dfl
 | .agg l => l.dfl
 | .tup l => l.dfl
theorem a39 {ta tb : Bool} {A B : Type} {da : A} {db : B} (ha : ta = true → ∀ x : A, x = da) (hb : tb = true → ∀ x : B, x = db) (h : (ta && tb) = true) (p : SP ta tb A B) : p = SP.mk da db := by
 cases ta
 ·cases h
 ·cases tb
  ·cases h
  ·exact hb rfl p
theorem VS.triv_dfl : ∀ (s : VS), s.triv = true → ∀ x : s.T, x = s.dfl
 | .int _, h => (by cases h)
 | .bool, h => (by cases h)
 | .str, h => (by cases h)
 | .sl _, h => (by cases h)
 | .cst _, _ => fun x => rfl
 | .ptr _ _, _ => fun x => rfl
 | .own _, _ => fun x => rfl
 | .part _, h => (by cases h)
 | .mp _, _ => fun x => rfl
 | .nil, _ => fun x => rfl
 | .cons a b, h => fun x => a39 (VS.triv_dfl a) (VS.triv_dfl b) h x
 | .fn _ a b, h => fun x => a39 (VS.triv_dfl a) (VS.triv_dfl b) h x
 | .agg l, h => VS.triv_dfl l h
 | .tup l, h => VS.triv_dfl l h
def VS.ins (f len : Nat → Nat) : (s : VS) → s.T → List TV
 | .int k, n => [.v (.int k n)]
 | .bool, b => [.v (.bool b)]
 | .str, s => [.v (.string s)]
 | .sl c, xs => [.sl c xs]
 | .cst x, _ => [.v x]
 | .ptr k off, _ => [.ptr (f k) off]
 | .own k, _ => [.ref (f k) (len k)]
 | .part k, p => [.part (f k) p.1 p.2 (len k)]
 | .mp k, _ => [.mref (f k)]
 | .nil, _ => []
 | .cons a b, p => a.ins f len (SP.fst a.dfl p) ++ b.ins f len (SP.snd b.dfl p)
 | .fn g a b, p => [.fn g (a.ins f len (SP.fst a.dfl p)) (b.ins f len (SP.snd b.dfl p))]
 | .agg l, p => [.agg (l.ins f len p)]
 | .tup l, p => [.tup (l.ins f len p)]
def mpO (es : List (Value × FuncId)) : TO := .mp (es.map fun x => (x.1, .fn x.2 [] []))
def JD : List (Value × FuncId) → List (Value × TV) → Bool
 | [], [] => true
 | x :: r, (v, .fn f [] []) :: r' => jr x.1 v && decide (x.2 = f) && JD r r'
 | _, _ => false
def OS.triv : OS → Bool
 | .st l => l.triv
 | .li _ _ _ => false
 | .mp _ => true
 | .dead => true
def OS.T : OS → Type
 | .st l => l.T
 | .li c _ _ => List c.T
 | .mp _ => Unit
 | .dead => Unit
def OS.dfl : (o : OS) → o.T
 | .st l => l.dfl
 | .li _ _ _ => []
 | .mp _ => ()
 | .dead => ()
def OS.ins (f len : Nat → Nat) : (o : OS) → o.T → TO
 | .st l, p => .st (l.ins f len p)
 | .li c e loc, xs => .li c e loc xs
 | .mp es, _ => mpO es
 | .dead, _ => .dead
def OS.trivs : List OS → Bool
 | [] => true
 | o :: r => o.triv && OS.trivs r
def OS.Ts : List OS → Type
 | [] => Unit
 | o :: r => SP o.triv (OS.trivs r) o.T (OS.Ts r)
def OS.dfls : (os : List OS) → OS.Ts os
 | [] => ()
 | o :: r => SP.mk o.dfl (OS.dfls r)
def OS.inss (f len : Nat → Nat) : (os : List OS) → OS.Ts os → List TO
 | [], _ => []
 | o :: r, p => o.ins f len (SP.fst o.dfl p) :: OS.inss f len r (SP.snd (OS.dfls r) p)
theorem OS.triv_dfl : ∀ (o : OS), o.triv = true → ∀ x : o.T, x = o.dfl
 | .st l, h => VS.triv_dfl l h
 | .li _ _ _, h => (by cases h)
 | .mp _, _ => fun x => rfl
 | .dead, _ => fun x => rfl
theorem OS.trivs_dfl : ∀ (os : List OS), OS.trivs os = true → ∀ x : OS.Ts os, x = OS.dfls os
 | [], _ => fun x => rfl
 | o :: r, h => fun x => a39 (OS.triv_dfl o) (OS.trivs_dfl r) h x
def ad9 : (o : OS) → o.T → Nat
 | .li _ _ _, xs => List.length xs
 | _, _ => 0
def OS.lens : (os : List OS) → OS.Ts os → Nat → Nat
 | [], _, _ => 0
 | o :: r, p, k => match k with
  | 0 => ad9 o (SP.fst o.dfl p)
  | k + 1 => OS.lens r (SP.snd (OS.dfls r) p) k
structure Bd where
 b : List (Option (Option Nat))
 eqs : List (Nat × Nat)
 used : List Nat
def a0j (B : Bd) (k : Nat) (x : Option Nat) : Option Bd := match B.b[k]? with
 | some none => some ⟨B.b.set k (some x), B.eqs, B.used⟩
 | some (some y) => if y = x then some B else none
 | none => none
def aeW (P : Program) (L : List TO) (c : CT) (x : TV) (B : Bd) (m : Nat) : Option (List c.T × Bd) := match x with
 | .sl c' xs => if h : c'.eqb c = true then some (wz (CT.of_eqb h) xs, B) else none
 | .v (.slice none 0 0) => if m = 0 then none else some ([], B)
 | .slx c' xs => if 2 ≤ m then (if h : c'.eqb c = true then some (wz (CT.of_eqb h) xs, B) else none) else none
 | .ref id tot => if 2 ≤ m then (match L[id]? with
  | some (.li c' e _ xs) => if szT P e = some c.size then (if h : c'.eqb c = true then some (wz (CT.of_eqb h) xs, ⟨B.b, (xs.length, tot) :: B.eqs, id :: B.used⟩) else none) else none
  | some (.fz c' e _ xs) => if szT P e = some c.size then (if h : c'.eqb c = true then some (wz (CT.of_eqb h) xs, ⟨B.b, (xs.length, tot) :: B.eqs, id :: B.used⟩) else none) else none
  | _ => none) else none
 | .part id lo n tot => if 2 ≤ m then (match L[id]? with
  | some (.li c' e _ xs) => if szT P e = some c.size then (if h : c'.eqb c = true then some ((List.drop lo (wz (CT.of_eqb h) xs)).take n, ⟨B.b, (xs.length, tot) :: B.eqs, id :: B.used⟩) else none) else none
  | some (.fz c' e _ xs) => if szT P e = some c.size then (if h : c'.eqb c = true then some ((List.drop lo (wz (CT.of_eqb h) xs)).take n, ⟨B.b, (xs.length, tot) :: B.eqs, id :: B.used⟩) else none) else none
  | _ => none) else none
 | _ => none
def yh (P : Program) (L : List TO) (m : Nat) : (s : VS) → List TV → Bd → Option (s.T × List TV × Bd)
 | .int k, l, B => match l with
  | .v (.int k' n) :: r => if k = k' then some (n, r, B) else none
  | _ => none
 | .bool, l, B => match l with
  | .v (.bool b) :: r => some (b, r, B)
  | _ => none
 | .str, l, B => match l with
  | .v (.string s) :: r => some (s, r, B)
  | _ => none
 | .cst x, l, B => match l with
  | .v y :: r => if jr x y = true then some ((), r, B) else none
  | _ => none
 | .sl c, l, B => match l with
  | x :: r => match aeW P L c x B m with
   | some (xs, B') => some (xs, r, B')
   | none => none
  | _ => none
 | .ptr k off, l, B => match l with
  | .ptr id off' :: r => if off = off' then (match a0j B k (some id) with
   | some B' => some ((), r, B')
   | none => none) else none
  | _ => none
 | .own k, l, B => match l with
  | .ref id tot :: r => match xh L id, a0j B k (some id) with
   | some n, some B' => some ((), r, ⟨B'.b, (tot, n) :: B'.eqs, B'.used⟩)
   | _, _ => none
  | .v (.slice none 0 0) :: r => if m = 0 then none else (match a0j B k none with
   | some B' => some ((), r, B')
   | none => none)
  | _ => none
 | .part k, l, B => match l with
  | .part id lo n tot :: r => match xh L id, a0j B k (some id) with
   | some q, some B' => some ((lo, n), r, ⟨B'.b, (tot, q) :: B'.eqs, B'.used⟩)
   | _, _ => none
  | _ => none
 | .mp k, l, B => match l with
  | .mref id :: r => if m = 0 then none else (match a0j B k (some id) with
   | some B' => some ((), r, B')
   | none => none)
  | _ => none
 | .nil, l, B => some ((), l, B)
 | .cons a b, l, B => match yh P L m a l B with
  | some (x, l', B') => match yh P L m b l' B' with
   | some (y, l'', B'') => some (SP.mk x y, l'', B'')
   | none => none
  | none => none
 | .fn g a b, l, B => match l with
  | .fn g' pre cap :: r => if g = g' ∧ pre.all V3 = true ∧ cap.all V3 = true then (match yh P L 0 a pre B with
   | some (x, [], B') => match yh P L 0 b cap B' with
    | some (y, [], B'') => some (SP.mk x y, r, B'')
    | _ => none
   | _ => none) else none
  | _ => none
 | .agg _, _, _ => none
 | .tup _, _, _ => none
def a1g (P : Program) (L : List TO) (m : Nat) : (s : VS) → List TV → Bd → Option (s.T × List TV × Bd)
 | .agg s, l, B => match l with
  | .agg xs :: r => match yh P L m s xs B with
   | some (x, [], B') => some (x, r, B')
   | _ => none
  | _ => none
 | .cons a b, l, B => match a1g P L m a l B with
  | some (x, l', B') => match a1g P L m b l' B' with
   | some (y, l'', B'') => some (SP.mk x y, l'', B'')
   | none => none
  | none => none
 | s, l, B => yh P L m s l B
def a94 (P : Program) (L : List TO) (m : Nat) : (s : VS) → List TV → Bd → Option (s.T × List TV × Bd)
 | .tup s, l, B => match l with
  | .tup xs :: r => match a1g P L m s xs B with
   | some (x, [], B') => some (x, r, B')
   | _ => none
  | _ => none
 | .cons a b, l, B => match a94 P L m a l B with
  | some (x, l', B') => match a94 P L m b l' B' with
   | some (y, l'', B'') => some (SP.mk x y, l'', B'')
   | none => none
  | none => none
 | s, l, B => a1g P L m s l B
def a6G (P : Program) (L : List TO) (m : Nat) : (o : OS) → Option (Option (Option Nat)) → Bd → Option (o.T × Bd)
 | .st s, x, B => match x with
  | some (some (some id)) => match L[id]? with
   | some (.st cells) => match yh P L m s cells B with
    | some (x, [], B') => some (x, B')
    | _ => none
   | _ => none
  | _ => none
 | .li c e loc, x, B => match x with
  | some (some (some id)) => match L[id]? with
   | some (.li c' e' loc' xs) => if e' = e ∧ loc' = loc then (if h : c'.eqb c = true then some (wz (CT.of_eqb h) xs, B) else none) else none
   | _ => none
  | some (some none) => if loc = false ∧ m ≠ 0 then some (([] : List c.T), B) else none
  | _ => none
 | .mp es, x, B => match x with
  | some (some (some id)) => match L[id]? with
   | some (.mp es') => if m ≠ 0 ∧ JD es es' = true then some ((), B) else none
   | _ => none
  | _ => none
 | .dead, _, _ => none
def a1p (P : Program) (L : List TO) (m : Nat) : (os : List OS) → Nat → Bd → Option (OS.Ts os × Bd)
 | [], _, B => some ((), B)
 | o :: r, k, B => match a6G P L m o B.b[k]? B with
  | some (x, B') => match a1p P L m r (k + 1) B' with
   | some (y, B'') => some (SP.mk x y, B'')
   | none => none
  | none => none
def ug : List (Option (Option Nat)) → Option Sel
 | [] => some []
 | x :: r => match x, ug r with
  | some y, some ys => some (y :: ys)
  | _, _ => none
def a0o : List Nat → Bool
 | [] => true
 | x :: r => !(r.contains x) && a0o r
def aeA : Option TO → Bool
 | some (.st _) => true
 | _ => false
def a4p (c : Nat) (L : List TO) (sel : Sel) : Bool := (List.range c).all fun id => !aeA L[id]? || sel[id]? == some (some id)
def agT (c : Nat) (L : List TO) (B : Bd) : Option Sel := match ug B.b with
 | some sel => if a0o (sel.filterMap id) && B.used.all (fun i => !(sel.contains (some i))) && a4p c L sel then some sel else none
 | none => none
def bd0 (c n : Nat) : Bd := ⟨(List.range n).map fun k => if k < c then some (some k) else none, [], []⟩
def bd1 (c : Nat) (L : List TO) (n : Nat) : Bd := ⟨(List.range n).map fun k => if k < c ∧ aeA L[k]? = true then some (some k) else none, [], []⟩
end Go.Sim
namespace Go.Sim
open Go.RowKit
def Bd.le (B B' : Bd) : Prop := (∀ (k : Nat) (x : Option Nat), B.b[k]? = some (some x) → B'.b[k]? = some (some x)) ∧ (∀ p ∈ B.eqs, p ∈ B'.eqs) ∧ (∀ i ∈ B.used, i ∈ B'.used) ∧ B'.b.length = B.b.length
theorem Bd.le_refl (B : Bd) : B.le B := ⟨fun _ _ h => h, fun _ h => h, fun _ h => h, rfl⟩
theorem Bd.le_trans {B B' B'' : Bd} (h : B.le B') (h' : B'.le B'') : B.le B'' := ⟨fun k x e => h'.1 k x (h.1 k x e), fun p e => h'.2.1 p (h.2.1 p e), fun i e => h'.2.2.1 i (h.2.2.1 i e), h'.2.2.2.trans h.2.2.2⟩
structure WellB (L : List TO) (sel : Sel) (len : Nat → Nat) (B : Bd) : Prop where
 at' : ∀ (k : Nat) (x : Option Nat), B.b[k]? = some (some x) → sel[k]? = some x
 eqs : ∀ p ∈ B.eqs, p.1 = p.2
 used : ∀ i ∈ B.used, some i ∉ sel
 ln : ∀ k id n, sel[k]? = some (some id) → xh L id = some n → len k = n
 no : ∀ k, sel[k]? = some none → len k = 0
theorem WellB.le {L : List TO} {sel : Sel} {len : Nat → Nat} {B B' : Bd} (h : B.le B') (g : WellB L sel len B') : WellB L sel len B := ⟨fun k x e => g.at' k x (h.1 k x e), fun p e => g.eqs p (h.2.1 p e), fun i e => g.used i (h.2.2.1 i e), g.ln, g.no⟩
theorem JV {B B' : Bd} {k : Nat} {x : Option Nat} (h : a0j B k x = some B') : B.le B' ∧ B'.b[k]? = some (some x) ∧ B'.eqs = B.eqs ∧ B'.used = B.used := by
 unfold a0j at h
 split at h
 ·rename_i hk
  cases h
  have hlt : k < B.b.length := (List.getElem?_eq_some_iff.1 hk).1
  refine ⟨⟨fun j y e => ?_, fun _ e => e, fun _ e => e, by simp⟩, List.getElem?_set_self hlt, rfl, rfl⟩
  have hne : k ≠ j := fun q => by rw [← q, hk] at e; cases e
  show (B.b.set k (some x))[j]? = _
  rw [List.getElem?_set_ne hne]; exact e
 ·rename_i y hk
  split at h
  ·rename_i hy
   cases h
   subst hy
   exact ⟨Bd.le_refl _, hk, rfl, rfl⟩
  ·cases h
 ·cases h
def rC (P : Program) (L : List TO) (sel : Sel) (m : Nat) (d' d : TV) : Prop := isC d' = true ∧ isC d = true ∧ match m with
 | 0 => Z3 sel (qp d') = some (qp d)
 | 1 => unX sel (qp d') (qp d)
 | _ => wkC P (eL L) sel (qp d') (qp d)
section
variable {P : Program} {L : List TO} {sel : Sel} {len : Nat → Nat} {m : Nat}
theorem Jb {d' d : DV} (e : j8 sel d' = some d) : unB sel d' = some d := by
 cases d' with
 | ref id lo n tot =>
  unfold j8 at e
  unfold unB
  simp only at e ⊢
  split at e
  ·rename_i k hk; simp only [hk]; exact e
  ·cases e
 | cx => cases e
 | mref => cases e
 | _ => exact e
theorem a3f : ∀ {ds' ds : List DV}, kK sel ds' = some ds → Wi sel ds' = some ds
 | [], _, e => e
 | d :: l, _, e => by
  unfold kK at e
  cases h1 : j8 sel d with
  | none => simp only [h1] at e; cases e
  | some x =>
   cases h2 : kK sel l with
   | none => simp only [h1, h2] at e; cases e
   | some y =>
    simp only [h1, h2] at e
    unfold Wi
    rw [Jb h1, a3f h2]
    exact e
theorem ahZ {d' d : DV} (e : Z3 sel d' = some d) : unC sel d' = some d := by
 cases d' with
 | fn f a b =>
  unfold Z3 at e
  unfold unC
  cases h1 : kK sel a with
  | none => simp only [h1] at e; cases e
  | some x =>
   cases h2 : kK sel b with
   | none => simp only [h1, h2] at e; cases e
   | some y =>
    simp only [h1, h2] at e
    simp only [a3f h1, a3f h2]
    exact e
 | p x => exact Jb (sel := sel) (d' := .p x) e
 | ptr x y => exact Jb (sel := sel) (d' := .ptr x y) e
 | ep x y z w => exact Jb (sel := sel) (d' := .ep x y z w) e
 | dp x y => exact Jb (sel := sel) (d' := .dp x y) e
 | ref x y z w => exact Jb (sel := sel) (d' := .ref x y z w) e
 | aref x y z => exact Jb (sel := sel) (d' := .aref x y z) e
 | cx x y => cases e
 | mref x => cases e
 | agg x => exact Jb (sel := sel) (d' := .agg x) e
 | tup x => exact Jb (sel := sel) (d' := .tup x) e
theorem a6q {d' d : TV} (h1 : isC d' = true) (h2 : isC d = true) (hs : ∀ c xs, d' ≠ .sl c xs) (e : Z3 sel (qp d') = some (qp d)) : rC P L sel m d' d := by
 refine ⟨h1, h2, ?_⟩
 have hx : unX sel (qp d') (qp d) := by
  unfold unX
  split
  ·rename_i z rows h3 h4
   cases d' <;> first | (cases h3; done) | exact absurd rfl (hs _ _) | cases h1
  ·exact ahZ e
 have hw : wkC P (eL L) sel (qp d') (qp d) := by
  unfold wkC
  split
  ·rename_i z rows id lo n tot h3 h4
   cases d' <;> first | (cases h3; done) | exact absurd rfl (hs _ _) | cases h1
  ·rename_i h3 h4
   cases d' <;> first | (cases h3; done) | exact absurd rfl (hs _ _) | cases h1
  ·exact hx
 split
 ·exact e
 ·exact hx
 ·exact hw
theorem agm (x : Value) : rC P L sel m (.v x) (.v x) := a6q rfl rfl (fun _ _ h => by cases h) rfl
theorem aiX (c : CT) (xs : List c.T) : rC P L sel m (.sl c xs) (.sl c xs) := by
 refine ⟨rfl, rfl, ?_⟩
 split
 ·rfl
 ·show unX sel (.p (.sl _ _)) (.p (.sl _ _))
  rw [aiD]; exact ⟨rfl, rfl⟩
 ·show wkC P (eL L) sel (.p (.sl _ _)) (.p (.sl _ _))
  rw [ahK]; exact ⟨rfl, rfl⟩
theorem aiI (c : CT) (h : m ≠ 0) : rC P L sel m (.sl c []) (.v (.slice none 0 0)) := by
 refine ⟨rfl, rfl, ?_⟩
 split
 ·exact absurd rfl h
 ·exact (rfl : _ = _)
 ·exact (rfl : _ = _)
theorem afh {c : CT} {id lo n tot : Nat} {xs : List c.T} {e : TypeId} {loc : Bool} {o : TO} {d : TV} (hd : qp d = .ref id lo n tot) (hc : isC d = true) (hm : 2 ≤ m) (hL : L[id]? = some o) (ho : o = .li c e loc xs ∨ o = .fz c e loc xs) (hz : szT P e = some c.size) (ht : xs.length = tot) (hn : some id ∉ sel) :
  rC P L sel m (.sl c ((xs.drop lo).take n)) d := by
 refine ⟨rfl, hc, ?_⟩
 have hw : wkC P (eL L) sel (qp (.sl c ((xs.drop lo).take n))) (qp d) := by
  rw [hd]
  show wkC P (eL L) sel (.p (.sl _ _)) (.ref id lo n tot)
  rw [ah3]
  refine ⟨hn, ?_⟩
  rcases ho with rfl | rfl
  ·exact ⟨_, Zv hL ht, by rw [List.map_take, List.map_drop], by rw [qX hL]; exact U1 hz⟩
  ·exact ⟨_, Qq hL ht, by rw [List.map_take, List.map_drop], by rw [qX hL]; exact U1 hz⟩
 split
 ·omega
 ·omega
 ·exact hw
theorem a6Q {c : CT} {x : TV} {B B' : Bd} {xs : List c.T} (h : aeW P L c x B m = some (xs, B')) : B.le B' ∧ (WellB L sel len B' → rC P L sel m (.sl c xs) x) := by
 unfold aeW at h
 split at h
 ·rename_i c' ys
  split at h
  ·rename_i hc
   have := CT.of_eqb hc
   subst this
   cases h
   exact ⟨Bd.le_refl _, fun _ => aiX _ _⟩
  ·cases h
 ·split at h
  ·cases h
  ·rename_i hm; cases h; exact ⟨Bd.le_refl _, fun _ => aiI _ hm⟩
 ·rename_i c' ys
  split at h
  ·rename_i hm
   split at h
   ·rename_i hc
    have := CT.of_eqb hc
    subst this
    cases h
    refine ⟨Bd.le_refl _, fun _ => ⟨rfl, rfl, ?_⟩⟩
    split
    ·omega
    ·omega
    ·exact ⟨rfl, rfl⟩
   ·cases h
  ·cases h
 ·rename_i id tot
  have fin : ∀ {c' : CT} {e : TypeId} {loc : Bool} {ys : List c'.T} {o : TO}, L[id]? = some o → (o = .li c' e loc ys ∨ o = .fz c' e loc ys) → 2 ≤ m →
    (if szT P e = some c.size then (if h : c'.eqb c = true then some (wz (CT.of_eqb h) ys, (⟨B.b, (ys.length, tot) :: B.eqs, id :: B.used⟩ : Bd)) else none) else none) = some (xs, B') → B.le B' ∧ (WellB L sel len B' → rC P L sel m (.sl c xs) (.ref id tot)) := by
   intro c' e loc ys o hL ho hm h
   split at h
   ·rename_i hz
    split at h
    ·rename_i hc
     have := CT.of_eqb hc
     subst this
     cases h
     refine ⟨⟨fun _ _ e => e, fun _ e => List.mem_cons_of_mem _ e, fun _ e => List.mem_cons_of_mem _ e, rfl⟩, fun g => ?_⟩
     have ht := g.eqs _ List.mem_cons_self
     have hn := g.used _ List.mem_cons_self
     have := afh (sel := sel) (m := m) (d := .ref id tot) (lo := 0) (n := tot) rfl rfl hm hL ho hz ht hn
     rw [List.drop_zero, List.take_of_length_le (Nat.le_of_eq ht)] at this
     exact this
    ·cases h
   ·cases h
  split at h
  ·rename_i hm
   split at h
   ·rename_i hL; exact fin hL (.inl rfl) hm h
   ·rename_i hL; exact fin hL (.inr rfl) hm h
   ·cases h
  ·cases h
 ·rename_i id lo n tot
  have fin : ∀ {c' : CT} {e : TypeId} {loc : Bool} {ys : List c'.T} {o : TO}, L[id]? = some o → (o = .li c' e loc ys ∨ o = .fz c' e loc ys) → 2 ≤ m →
    (if szT P e = some c.size then (if h : c'.eqb c = true then some ((List.drop lo (wz (CT.of_eqb h) ys)).take n, (⟨B.b, (ys.length, tot) :: B.eqs, id :: B.used⟩ : Bd)) else none) else none) = some (xs, B') → B.le B' ∧ (WellB L sel len B' → rC P L sel m (.sl c xs) (.part id lo n tot)) := by
   intro c' e loc ys o hL ho hm h
   split at h
   ·rename_i hz
    split at h
    ·rename_i hc
     have := CT.of_eqb hc
     subst this
     cases h
     refine ⟨⟨fun _ _ e => e, fun _ e => List.mem_cons_of_mem _ e, fun _ e => List.mem_cons_of_mem _ e, rfl⟩, fun g => ?_⟩
     have ht := g.eqs _ List.mem_cons_self
     have hn := g.used _ List.mem_cons_self
     exact afh (sel := sel) (m := m) (d := .part id lo n tot) (lo := lo) (n := n) rfl rfl hm hL ho hz ht hn
    ·cases h
   ·cases h
  split at h
  ·rename_i hm
   split at h
   ·rename_i hL; exact fin hL (.inl rfl) hm h
   ·rename_i hL; exact fin hL (.inr rfl) hm h
   ·cases h
  ·cases h
 ·cases h
theorem U0 : ∀ {l' l : List TV}, l.all V3 = true → All2 (rC P L sel 0) l' l → kK sel (l'.map zm) = some (l.map zm)
 | [], _, _, .nil => rfl
 | d' :: l', d :: l, hb, .cons h t => by
  simp only [List.all_cons, Bool.and_eq_true] at hb
  have ht := U0 hb.2 t
  have hk : qp d = zm d := by cases d <;> first | rfl | cases hb.1
  have h3 : Z3 sel (qp d') = some (zm d) := by rw [← hk]; exact h.2.2
  have hx : j8 sel (zm d') = some (zm d) := by
   cases d' with
   | fn g a b =>
    exfalso
    have h4 : (match kK sel (a.map zm), kK sel (b.map zm) with
     | some a, some b => some (DV.fn g a b)
     | _, _ => none) = some (zm d) := h3
    split at h4
    ·cases d <;> first | (cases h4; done) | cases hb.1
    ·cases h4
   | agg xs => cases h.1
   | tup xs => cases h.1
   | v x => exact h3
   | sl c xs => exact h3
   | ptr x y => exact h3
   | ep x y z w => exact h3
   | dp c x y => exact h3
   | ref x y => exact h3
   | part x y z w => exact h3
   | aref x y z => exact h3
   | slx x y => exact h3
   | mref x => exact h3
  simp only [List.map_cons, kK, hx, ht]
theorem kJ : ∀ (m : Nat) (s : VS) {l r : List TV} {B B' : Bd} {p : s.T}, yh P L m s l B = some (p, r, B') → B.le B' ∧ (WellB L sel len B' → ∃ l0, l = l0 ++ r ∧ All2 (rC P L sel m) (s.ins id len p) l0)
 | m, .int k, l, r, B, B', p, h => by
  simp only [yh] at h
  split at h
  ·split at h
   ·rename_i hk; cases h; subst hk; exact ⟨Bd.le_refl _, fun _ => ⟨[_], rfl, .cons (agm _) .nil⟩⟩
   ·cases h
  ·cases h
 | m, .bool, l, r, B, B', p, h => by
  simp only [yh] at h
  split at h
  ·cases h; exact ⟨Bd.le_refl _, fun _ => ⟨[_], rfl, .cons (agm _) .nil⟩⟩
  ·cases h
 | m, .str, l, r, B, B', p, h => by
  simp only [yh] at h
  split at h
  ·cases h; exact ⟨Bd.le_refl _, fun _ => ⟨[_], rfl, .cons (agm _) .nil⟩⟩
  ·cases h
 | m, .cst x, l, r, B, B', p, h => by
  simp only [yh] at h
  split at h
  ·split at h
   ·rename_i hv
    cases h
    have := yX _ _ hv
    subst this
    exact ⟨Bd.le_refl _, fun _ => ⟨[_], rfl, .cons (agm _) .nil⟩⟩
   ·cases h
  ·cases h
 | m, .sl c, l, r, B, B', p, h => by
  simp only [yh] at h
  split at h
  ·split at h
   ·rename_i hd
    cases h
    obtain ⟨h1, h2⟩ := a6Q (sel := sel) (len := len) hd
    exact ⟨h1, fun g => ⟨[_], rfl, .cons (h2 g) .nil⟩⟩
   ·cases h
  ·cases h
 | m, .ptr k off, l, r, B, B', p, h => by
  simp only [yh] at h
  split at h
  ·split at h
   ·rename_i ho
    split at h
    ·rename_i hb
     cases h
     subst ho
     obtain ⟨h1, h2, _, _⟩ := JV hb
     refine ⟨h1, fun g => ⟨[_], rfl, .cons (a6q rfl rfl (fun _ _ q => by cases q) ?_) .nil⟩⟩
     have hs := g.at' _ _ h2
     show j8 sel (.ptr k off) = _
     unfold j8 unB
     simp only [hs]
     rfl
    ·cases h
   ·cases h
  ·cases h
 | m, .own k, l, r, B, B', p, h => by
  simp only [yh] at h
  split at h
  ·split at h
   ·rename_i n B1 hn hb
    cases h
    obtain ⟨h1, h2, h3, h4⟩ := JV hb
    refine ⟨⟨h1.1, fun p hp => List.mem_cons_of_mem _ (h1.2.1 p hp), h1.2.2.1, h1.2.2.2⟩, fun g => ⟨[_], rfl, .cons (a6q rfl rfl (fun _ _ q => by cases q) ?_) .nil⟩⟩
    have hs := g.at' _ _ h2
    have ht := g.eqs _ List.mem_cons_self
    have hl := g.ln _ _ _ hs hn
    simp only at ht
    show j8 sel (.ref k 0 (len k) (len k)) = some (.ref _ 0 _ _)
    unfold j8
    simp only [hs, hl, ht]
   ·cases h
  ·split at h
   ·cases h
   ·rename_i hm
    split at h
    ·rename_i hb
     cases h
     obtain ⟨h1, h2, _, _⟩ := JV hb
     refine ⟨h1, fun g => ⟨[_], rfl, .cons ⟨rfl, rfl, ?_⟩ .nil⟩⟩
     have hs := g.at' _ _ h2
     have hl := g.no _ hs
     have hu : unC sel (.ref k 0 (len k) (len k)) = some (.p (.v (.slice none 0 0))) := by
      show unB sel (.ref k 0 (len k) (len k)) = _
      unfold unB
      simp only [hs, hl, and_self, if_true]
     split
     ·exact absurd rfl hm
     ·exact hu
     ·exact hu
    ·cases h
  ·cases h
 | m, .part k, l, r, B, B', p, h => by
  simp only [yh] at h
  split at h
  ·split at h
   ·rename_i n B1 hn hb
    cases h
    obtain ⟨h1, h2, h3, h4⟩ := JV hb
    refine ⟨⟨h1.1, fun p hp => List.mem_cons_of_mem _ (h1.2.1 p hp), h1.2.2.1, h1.2.2.2⟩, fun g => ⟨[_], rfl, .cons (a6q rfl rfl (fun _ _ q => by cases q) ?_) .nil⟩⟩
    have hs := g.at' _ _ h2
    have ht := g.eqs _ List.mem_cons_self
    have hl := g.ln _ _ _ hs hn
    simp only at ht
    show j8 sel (.ref k _ _ (len k)) = some (.ref _ _ _ _)
    unfold j8
    simp only [hs, hl, ht]
   ·cases h
  ·cases h
 | m, .mp k, l, r, B, B', p, h => by
  simp only [yh] at h
  split at h
  ·rename_i i0 r0
   split at h
   ·cases h
   ·rename_i hm
    split at h
    ·rename_i hb
     cases h
     obtain ⟨h1, h2, _, _⟩ := JV hb
     refine ⟨h1, fun g => ⟨[_], rfl, .cons ⟨rfl, rfl, ?_⟩ .nil⟩⟩
     have hs := g.at' _ _ h2
     have hu : unC sel (.mref k) = some (.mref i0) := by
      show unB sel (.mref k) = _
      unfold unB
      simp only [hs]
     split
     ·exact absurd rfl hm
     ·exact hu
     ·exact hu
    ·cases h
  ·cases h
 | m, .nil, l, r, B, B', p, h => by
  simp only [yh] at h
  cases h
  exact ⟨Bd.le_refl _, fun _ => ⟨[], rfl, .nil⟩⟩
 | m, .cons a b, l, r, B, B', p, h => by
  simp only [yh] at h
  split at h
  ·rename_i x l' B1 h1
   split at h
   ·rename_i y l'' B2 h2
    cases h
    obtain ⟨a1, a2⟩ := kJ m a h1
    obtain ⟨b1, b2⟩ := kJ m b h2
    refine ⟨Bd.le_trans a1 b1, fun g => ?_⟩
    obtain ⟨m1, rfl, q1⟩ := a2 (g.le b1)
    obtain ⟨m2, rfl, q2⟩ := b2 g
    refine ⟨m1 ++ m2, by simp, ?_⟩
    show All2 _ (a.ins id len (SP.fst a.dfl (SP.mk x y)) ++ b.ins id len (SP.snd b.dfl (SP.mk x y))) _
    rw [SP.fst_mk fun q => VS.triv_dfl a q x, SP.snd_mk fun q => VS.triv_dfl b q y]
    exact q1.append q2
   ·cases h
  ·cases h
 | m, .fn g a b, l, r, B, B', p, h => by
  simp only [yh] at h
  split at h
  ·rename_i g' pre cap r'
   split at h
   ·rename_i hc
    split at h
    ·rename_i x B1 h1
     split at h
     ·rename_i y B2 h2
      cases h
      obtain ⟨rfl, hp, hq⟩ := hc
      obtain ⟨a1, a2⟩ := kJ 0 a h1
      obtain ⟨b1, b2⟩ := kJ 0 b h2
      refine ⟨Bd.le_trans a1 b1, fun gd => ?_⟩
      obtain ⟨m1, hm1, q1⟩ := a2 (gd.le b1)
      obtain ⟨m2, hm2, q2⟩ := b2 gd
      rw [List.append_nil] at hm1 hm2
      subst hm1 hm2
      refine ⟨[_], rfl, .cons (a6q rfl rfl (fun _ _ q => by cases q) ?_) .nil⟩
      show Z3 sel (.fn g ((a.ins id len (SP.fst a.dfl (SP.mk x y))).map zm) ((b.ins id len (SP.snd b.dfl (SP.mk x y))).map zm)) = _
      rw [SP.fst_mk fun q => VS.triv_dfl a q x, SP.snd_mk fun q => VS.triv_dfl b q y]
      unfold Z3
      simp only [U0 hp q1, U0 hq q2]
      rfl
     ·cases h
    ·cases h
   ·cases h
  ·cases h
 | m, .agg _, l, r, B, B', p, h => by simp only [yh] at h; cases h
 | m, .tup _, l, r, B, B', p, h => by simp only [yh] at h; cases h
end
end Go.Sim
namespace Go.Sim
open Go.RowKit
section
variable {P : Program} {L : List TO} {sel : Sel} {len : Nat → Nat}
def r1 (P : Program) (L : List TO) (sel : Sel) (m : Nat) (d' d : TV) : Prop := rC P L sel m d' d ∨ ∃ xs' xs, d' = .agg xs' ∧ d = .agg xs ∧ All2 (rC P L sel m) xs' xs
def rD (P : Program) (L : List TO) (sel : Sel) (m : Nat) (d' d : TV) : Prop := r1 P L sel m d' d ∨ ∃ xs' xs, d' = .tup xs' ∧ d = .tup xs ∧ All2 (r1 P L sel m) xs' xs
theorem v9 : ∀ (m : Nat) (s : VS) {l r : List TV} {B B' : Bd} {p : s.T}, a1g P L m s l B = some (p, r, B') → B.le B' ∧ (WellB L sel len B' → ∃ l0, l = l0 ++ r ∧ All2 (r1 P L sel m) (s.ins id len p) l0) := by
 intro m s
 have base : ∀ (s : VS) {l r : List TV} {B B' : Bd} {p : s.T}, yh P L m s l B = some (p, r, B') → B.le B' ∧ (WellB L sel len B' → ∃ l0, l = l0 ++ r ∧ All2 (r1 P L sel m) (s.ins id len p) l0) := by
  intro s l r B B' p h
  obtain ⟨h1, h2⟩ := kJ (sel := sel) (len := len) m s h
  refine ⟨h1, fun g => ?_⟩
  obtain ⟨l0, e, q⟩ := h2 g
  exact ⟨l0, e, q.mono fun _ _ => .inl⟩
 induction s with
 | agg s _ =>
  intro l r B B' p h
  simp only [a1g] at h
  split at h
  ·rename_i xs r'
   split at h
   ·rename_i x B1 h1
    cases h
    obtain ⟨a1, a2⟩ := kJ (sel := sel) (len := len) m s h1
    refine ⟨a1, fun g => ?_⟩
    obtain ⟨l0, e, q⟩ := a2 g
    rw [List.append_nil] at e
    subst e
    exact ⟨[_], rfl, .cons (.inr ⟨_, _, rfl, rfl, q⟩) .nil⟩
   ·cases h
  ·cases h
 | cons a b iha ihb =>
  intro l r B B' p h
  simp only [a1g] at h
  split at h
  ·rename_i x l' B1 h1
   split at h
   ·rename_i y l'' B2 h2
    cases h
    obtain ⟨a1, a2⟩ := iha h1
    obtain ⟨b1, b2⟩ := ihb h2
    refine ⟨Bd.le_trans a1 b1, fun g => ?_⟩
    obtain ⟨m1, rfl, q1⟩ := a2 (g.le b1)
    obtain ⟨m2, rfl, q2⟩ := b2 g
    refine ⟨m1 ++ m2, by simp, ?_⟩
    show All2 _ (a.ins id len (SP.fst a.dfl (SP.mk x y)) ++ b.ins id len (SP.snd b.dfl (SP.mk x y))) _
    rw [SP.fst_mk fun q => VS.triv_dfl a q x, SP.snd_mk fun q => VS.triv_dfl b q y]
    exact q1.append q2
   ·cases h
  ·cases h
 | _ => intro l r B B' p h; exact base _ h
theorem a7K : ∀ (m : Nat) (s : VS) {l r : List TV} {B B' : Bd} {p : s.T}, a94 P L m s l B = some (p, r, B') → B.le B' ∧ (WellB L sel len B' → ∃ l0, l = l0 ++ r ∧ All2 (rD P L sel m) (s.ins id len p) l0) := by
 intro m s
 have base : ∀ (s : VS) {l r : List TV} {B B' : Bd} {p : s.T}, a1g P L m s l B = some (p, r, B') → B.le B' ∧ (WellB L sel len B' → ∃ l0, l = l0 ++ r ∧ All2 (rD P L sel m) (s.ins id len p) l0) := by
  intro s l r B B' p h
  obtain ⟨h1, h2⟩ := v9 (sel := sel) (len := len) m s h
  refine ⟨h1, fun g => ?_⟩
  obtain ⟨l0, e, q⟩ := h2 g
  exact ⟨l0, e, q.mono fun _ _ => .inl⟩
 induction s with
 | tup s _ =>
  intro l r B B' p h
  simp only [a94] at h
  split at h
  ·rename_i xs r'
   split at h
   ·rename_i x B1 h1
    cases h
    obtain ⟨a1, a2⟩ := v9 (sel := sel) (len := len) m s h1
    refine ⟨a1, fun g => ?_⟩
    obtain ⟨l0, e, q⟩ := a2 g
    rw [List.append_nil] at e
    subst e
    exact ⟨[_], rfl, .cons (.inr ⟨_, _, rfl, rfl, q⟩) .nil⟩
   ·cases h
  ·cases h
 | cons a b iha ihb =>
  intro l r B B' p h
  simp only [a94] at h
  split at h
  ·rename_i x l' B1 h1
   split at h
   ·rename_i y l'' B2 h2
    cases h
    obtain ⟨a1, a2⟩ := iha h1
    obtain ⟨b1, b2⟩ := ihb h2
    refine ⟨Bd.le_trans a1 b1, fun g => ?_⟩
    obtain ⟨m1, rfl, q1⟩ := a2 (g.le b1)
    obtain ⟨m2, rfl, q2⟩ := b2 g
    refine ⟨m1 ++ m2, by simp, ?_⟩
    show All2 _ (a.ins id len (SP.fst a.dfl (SP.mk x y)) ++ b.ins id len (SP.snd b.dfl (SP.mk x y))) _
    rw [SP.fst_mk fun q => VS.triv_dfl a q x, SP.snd_mk fun q => VS.triv_dfl b q y]
    exact q1.append q2
   ·cases h
  ·cases h
 | _ => intro l r B B' p h; exact base _ h
theorem ud (sel : Sel) : ∀ {es : List (Value × FuncId)} {es' : List (Value × TV)}, JD es es' = true → All2 (fun a b => a.1 = b.1 ∧ un1 sel a.2 = some b.2) ((es.map fun x => ((x.1, .fn x.2 [] []) : Value × TV)).map fun x => (x.1, qP x.2)) (es'.map fun x => (x.1, qP x.2))
 | [], [], _ => .nil
 | x :: r, (v, .fn f [] []) :: r', h => by
  simp only [JD, Bool.and_eq_true, decide_eq_true_eq] at h
  obtain ⟨⟨h1, h2⟩, h3⟩ := h
  have := yX _ _ h1
  subst this h2
  exact .cons ⟨rfl, rfl⟩ (ud sel h3)
 | x :: r, [], h => by cases h
 | [], y :: r', h => by cases h
 | x :: r, (v, .fn f (_ :: _) _) :: r', h => by simp [JD] at h
 | x :: r, (v, .fn f [] (_ :: _)) :: r', h => by simp [JD] at h
 | x :: r, (v, .v _) :: r', h => by simp [JD] at h
 | x :: r, (v, .sl _ _) :: r', h => by simp [JD] at h
 | x :: r, (v, .ptr _ _) :: r', h => by simp [JD] at h
 | x :: r, (v, .ep _ _ _ _) :: r', h => by simp [JD] at h
 | x :: r, (v, .dp _ _ _) :: r', h => by simp [JD] at h
 | x :: r, (v, .ref _ _) :: r', h => by simp [JD] at h
 | x :: r, (v, .part _ _ _ _) :: r', h => by simp [JD] at h
 | x :: r, (v, .aref _ _ _) :: r', h => by simp [JD] at h
 | x :: r, (v, .slx _ _) :: r', h => by simp [JD] at h
 | x :: r, (v, .mref _) :: r', h => by simp [JD] at h
 | x :: r, (v, .agg _) :: r', h => by simp [JD] at h
 | x :: r, (v, .tup _) :: r', h => by simp [JD] at h
def oOk (L : List TO) (sel : Sel) (m : Nat) (s : Option Nat) (o' : TO) : Prop := match s with
 | some id => ∃ o, L[id]? = some o ∧ match m with
  | 0 => YU sel (ko o') (ko o)
  | _ => unO sel (ko o') (ko o)
 | none => m ≠ 0 ∧ ko o' = .li none []
theorem adZ {m : Nat} (hm : m = 0 ∨ m = 1) : ∀ {l' l : List TV}, All2 (rC P L sel m) l' l → match m with
  | 0 => QY sel (l'.map qp) = some (l.map qp)
  | _ => All2 (unX sel) (l'.map qp) (l.map qp)
 | [], _, .nil => by rcases hm with rfl | rfl; exact rfl; exact .nil
 | d' :: l', d :: l, .cons h t => by
  have ht := adZ hm t
  rcases hm with rfl | rfl
  ·simp only at ht ⊢
   simp only [List.map_cons, QY, ht, show Z3 sel (qp d') = some (qp d) from h.2.2]
  ·exact .cons h.2.2 ht
theorem YV {m : Nat} (hm : m = 0 ∨ m = 1) : ∀ (os : List OS) {k : Nat} {B B' : Bd} {y : OS.Ts os}, a1p P L m os k B = some (y, B') → B.le B' ∧
  (∀ (i : Nat), i < os.length → ∃ x, B'.b[k + i]? = some (some x) ∧ (∀ id n, x = some id → xh L id = some n → OS.lens os y i = n) ∧ (x = none → OS.lens os y i = 0)) ∧
  (∀ (f : Nat → Nat), WellB L sel f B' → ∀ (i : Nat) (o' : TO), (OS.inss id f os y)[i]? = some o' → ∃ s, sel[k + i]? = some s ∧ oOk L sel m s o')
 | [], k, B, B', y, h => by
  simp only [a1p] at h
  cases h
  exact ⟨Bd.le_refl _, fun i hi => (by simp at hi), fun f g i o' e => (by simp [OS.inss] at e)⟩
 | o :: r, k, B, B', y, h => by
  simp only [a1p] at h
  split at h
  ·rename_i x B1 h1
   split at h
   ·rename_i y' B2 h2
    cases h
    obtain ⟨b1, b2, b3⟩ := YV hm r h2
    have hfst : SP.fst o.dfl (SP.mk (ta := o.triv) (tb := OS.trivs r) x y') = x := SP.fst_mk fun q => OS.triv_dfl o q x
    have hsnd : SP.snd (OS.dfls r) (SP.mk (ta := o.triv) (tb := OS.trivs r) x y') = y' := SP.snd_mk fun q => OS.trivs_dfl r q y'
    have key : B.le B1 ∧ (∃ s, B1.b[k]? = some (some s) ∧ (∀ id n, s = some id → xh L id = some n → ad9 o x = n) ∧ (s = none → ad9 o x = 0)) ∧ (∀ (f : Nat → Nat), WellB L sel f B1 → ∃ s, sel[k]? = some s ∧ oOk L sel m s (o.ins id f x)) := by
     cases o with
     | st s =>
      simp only [a6G] at h1
      split at h1
      ·rename_i id0 hb
       split at h1
       ·rename_i cells hL
        split at h1
        ·rename_i x0 B0 hd
         cases h1
         obtain ⟨a1, a2⟩ := kJ (sel := sel) m s (len := fun _ => 0) hd
         refine ⟨a1, ⟨some id0, a1.1 _ _ hb, fun id n e ht => ?_, fun e => by cases e⟩, fun f g => ?_⟩
         ·cases e
          unfold xh at ht
          rw [hL] at ht
          cases ht
         ·obtain ⟨a3, a4⟩ := kJ (sel := sel) m s (len := f) hd
          obtain ⟨l0, e, q⟩ := a4 g
          rw [List.append_nil] at e
          subst e
          refine ⟨some id0, g.at' _ _ (a1.1 _ _ hb), _, hL, ?_⟩
          have hu := adZ hm q
          rcases hm with rfl | rfl
          ·exact hu
          ·show unO sel (.st _) (.st _)
           rw [aiF]; exact hu
        ·cases h1
       ·cases h1
      ·cases h1
     | li c e loc =>
      simp only [a6G] at h1
      split at h1
      ·rename_i id0 hb
       split at h1
       ·rename_i c' e' loc' xs hL
        split at h1
        ·rename_i hc
         split at h1
         ·rename_i hcc
          cases h1
          obtain ⟨rfl, rfl⟩ := hc
          have := CT.of_eqb hcc
          subst this
          refine ⟨Bd.le_refl _, ⟨some id0, hb, fun id n e ht => ?_, fun e => by cases e⟩, fun f g => ⟨some id0, g.at' _ _ hb, _, hL, ?_⟩⟩
          ·cases e
           unfold xh at ht
           rw [hL] at ht
           cases ht
           rfl
          ·rcases hm with rfl | rfl
           ·exact ⟨rfl, rfl⟩
           ·show unO sel (.li _ _) (.li _ _)
            rw [ahE]; exact ⟨rfl, .inl rfl⟩
         ·cases h1
        ·cases h1
       ·cases h1
      ·rename_i hb
       split at h1
       ·rename_i hc
        cases h1
        obtain ⟨rfl, hm0⟩ := hc
        exact ⟨Bd.le_refl _, ⟨none, hb, fun id n e => (by cases e), fun _ => rfl⟩, fun f g => ⟨none, g.at' _ _ hb, hm0, rfl⟩⟩
       ·cases h1
      ·cases h1
     | mp es =>
      simp only [a6G] at h1
      split at h1
      ·rename_i id0 hb
       split at h1
       ·rename_i es' hL
        split at h1
        ·rename_i hc
         cases h1
         refine ⟨Bd.le_refl _, ⟨some id0, hb, fun id n e ht => ?_, fun e => by cases e⟩, fun f g => ⟨some id0, g.at' _ _ hb, _, hL, ?_⟩⟩
         ·cases e
          unfold xh at ht
          rw [hL] at ht
          cases ht
         ·rcases hm with rfl | rfl
          ·exact absurd rfl hc.1
          ·exact ud sel hc.2
        ·cases h1
       ·cases h1
      ·cases h1
     | dead =>
      simp only [a6G] at h1
      cases h1
    obtain ⟨k1, ⟨s, k2, k3, k4⟩, k5⟩ := key
    refine ⟨Bd.le_trans k1 b1, fun i hi => ?_, fun f g i o' e => ?_⟩
    ·cases i with
     | zero =>
      refine ⟨s, b1.1 _ _ k2, ?_, ?_⟩
      ·intro id n e ht
       show ad9 o (SP.fst o.dfl (SP.mk x y')) = n
       rw [hfst]; exact k3 id n e ht
      ·intro e
       show ad9 o (SP.fst o.dfl (SP.mk x y')) = 0
       rw [hfst]; exact k4 e
     | succ i =>
      obtain ⟨s', c1, c2, c3⟩ := b2 i (by simpa using hi)
      refine ⟨s', by rw [show k + (i + 1) = k + 1 + i by omega]; exact c1, fun id n e ht => ?_, fun e => ?_⟩
      ·show OS.lens r (SP.snd (OS.dfls r) (SP.mk x y')) i = n
       rw [hsnd]; exact c2 id n e ht
      ·show OS.lens r (SP.snd (OS.dfls r) (SP.mk x y')) i = 0
       rw [hsnd]; exact c3 e
    ·have e' : (o.ins id f (SP.fst o.dfl (SP.mk x y')) :: OS.inss id f r (SP.snd (OS.dfls r) (SP.mk x y')))[i]? = some o' := e
     rw [hfst, hsnd] at e'
     cases i with
     | zero =>
      rw [List.getElem?_cons_zero] at e'
      cases e'
      exact k5 f (g.le b1)
     | succ i =>
      rw [List.getElem?_cons_succ] at e'
      obtain ⟨s', c1, c2⟩ := b3 f g i o' e'
      exact ⟨s', by rw [show k + (i + 1) = k + 1 + i by omega]; exact c1, c2⟩
   ·cases h
  ·cases h
theorem VZ : ∀ {b : List (Option (Option Nat))} {sel : Sel}, ug b = some sel → sel.length = b.length ∧ ∀ (k : Nat) (x : Option Nat), b[k]? = some (some x) ↔ sel[k]? = some x
 | [], sel, h => by cases h; exact ⟨rfl, fun k x => by simp⟩
 | y :: b, sel, h => by
  unfold ug at h
  split at h
  ·rename_i z zs h1
   cases h
   obtain ⟨a1, a2⟩ := VZ h1
   refine ⟨by simp [a1], fun k x => ?_⟩
   cases k with
   | zero => simp
   | succ k => simpa using a2 k x
  ·cases h
theorem KC : ∀ {l : List Nat}, a0o l = true → l.Nodup
 | [], _ => List.nodup_nil
 | x :: r, h => by
  simp only [a0o, Bool.and_eq_true, Bool.not_eq_true'] at h
  exact List.nodup_cons.2 ⟨by simpa using h.1, KC h.2⟩
theorem ac8 {c : Nat} {L : List TO} {B : Bd} {sel : Sel} (h : agT c L B = some sel) : ug B.b = some sel ∧ (sel.filterMap id).Nodup ∧ (∀ i ∈ B.used, some i ∉ sel) ∧ a4p c L sel = true := by
 unfold agT at h
 split at h
 ·rename_i s hs
  split at h
  ·rename_i hc
   cases h
   simp only [Bool.and_eq_true, List.all_eq_true, Bool.not_eq_true'] at hc
   exact ⟨hs, KC hc.1.1, fun i hi => by simpa using hc.1.2 i hi, hc.2⟩
  ·cases h
 ·cases h
theorem a9N (c n : Nat) : (bd0 c n).b.length = n := by simp [bd0]
theorem afQ (c : Nat) (L : List TO) (n : Nat) : (bd1 c L n).b.length = n := by simp [bd1]
theorem adB (L : List TO) (id : Nat) : aiw (eL L)[id]? = aeA L[id]? := by
 cases h : L[id]? with
 | none => rw [show (eL L)[id]? = none by simp [eL, h]]; rfl
 | some o => rw [qX h]; cases o <;> rfl
theorem a8p {c : Nat} {L : List TO} {sel : Sel} (h : a4p c L sel = true) : X8 c (eL L) sel = true := by
 unfold X8
 unfold a4p at h
 simp only [adB]
 exact h
theorem QM (f g : Nat → Nat) : ∀ (os : List OS) (y : OS.Ts os), (OS.inss f g os y).length = os.length
 | [], _ => rfl
 | o :: r, y => by simp only [OS.inss, List.length_cons, QM f g r]
theorem found {c m m' : Nat} (hm : m = 0 ∨ m = 1) {vs : VS} {os : List OS} {vals : List TV} {p : vs.T} {y : OS.Ts os} {B0 B B' : Bd} (h0 : B0.b.length = os.length) (h1 : a94 P L m' vs vals B0 = some (p, [], B)) (h2 : a1p P L m os 0 B = some (y, B')) (h3 : agT c L B' = some sel) (h4 : ∀ q ∈ B'.eqs, q.1 = q.2) :
  All2 (rD P L sel m') (vs.ins id (OS.lens os y) p) vals ∧ All2 (oOk L sel m) sel (OS.inss id (OS.lens os y) os y) ∧ (sel.filterMap id).Nodup ∧ X8 c (eL L) sel = true := by
 obtain ⟨s1, s2, s3, s4⟩ := ac8 h3
 obtain ⟨s5, s6⟩ := VZ s1
 obtain ⟨a1, a2⟩ := a7K (sel := sel) (len := OS.lens os y) m' vs h1
 obtain ⟨b1, b2, b3⟩ := YV (sel := sel) hm os h2
 have hlen : B'.b.length = os.length := by rw [b1.2.2.2, a1.2.2.2, h0]
 have ok : WellB L sel (OS.lens os y) B' := by
  refine ⟨fun k x e => (s6 k x).1 e, h4, s3, fun k id n e ht => ?_, fun k e => ?_⟩
  ·have hk : k < os.length := by rw [← hlen, ← s5]; exact (List.getElem?_eq_some_iff.1 e).1
   obtain ⟨x, c1, c2, c3⟩ := b2 k hk
   rw [Nat.zero_add] at c1
   have := (s6 k x).1 c1
   rw [e] at this; cases this
   exact c2 id n rfl ht
  ·have hk : k < os.length := by rw [← hlen, ← s5]; exact (List.getElem?_eq_some_iff.1 e).1
   obtain ⟨x, c1, c2, c3⟩ := b2 k hk
   rw [Nat.zero_add] at c1
   have := (s6 k x).1 c1
   rw [e] at this; cases this
   exact c3 rfl
 refine ⟨?_, ?_, s2, a8p s4⟩
 ·obtain ⟨l0, e, q⟩ := a2 (ok.le b1)
  rw [List.append_nil] at e
  subst e
  exact q
 ·refine All2.of_get (by rw [QM, s5, hlen]) fun i s o' e1 e2 => ?_
  obtain ⟨s', c1, c2⟩ := b3 _ ok i o' e2
  rw [Nat.zero_add, e1] at c1
  cases c1
  exact c2
theorem ad6 : ∀ {l' l : List TV}, All2 (rC P L sel 2) l' l → All2 (wkC P (eL L) sel) (l'.map qp) (l.map qp)
 | _, _, .nil => .nil
 | _, _, .cons h t => .cons h.2.2 (ad6 t)
theorem JN {xs : List TV} : isC (.agg xs) ≠ true ∧ isC (.tup xs) ≠ true := ⟨fun h => (by cases h), fun h => (by cases h)⟩
theorem a2a {d : TV} (h : isC d = true) : ZQ d = true := by
 cases d <;> first | rfl | exact absurd h JN.1 | exact absurd h JN.2
theorem Ka {d : TV} (h : isC d = true) : qP d = qp d := by
 cases d <;> first | rfl | exact absurd h JN.1 | exact absurd h JN.2
theorem adM {d' d : DV} (hn : ∀ xs, d' ≠ .agg xs) (h : wkC P (eL L) sel d' d) : wk1 P (eL L) sel d' d := by
 unfold wk1
 split
 ·exact absurd rfl (hn _)
 ·exact h
theorem vN {d : TV} (h : isC d = true) : (∀ xs, qp d ≠ .agg xs) ∧ (∀ xs, qp d ≠ .tup xs) := by
 cases d <;> first | exact absurd h JN.1 | exact absurd h JN.2 | exact ⟨fun _ q => (by cases q), fun _ q => (by cases q)⟩
theorem ahq {d' d : TV} (h : r1 P L sel 2 d' d) : wk1 P (eL L) sel (qP d') (qP d) := by
 rcases h with h | ⟨xs', xs, rfl, rfl, h⟩
 ·rw [Ka h.1, Ka h.2.1]
  exact adM (vN h.1).1 h.2.2
 ·exact ad6 h
theorem ade : ∀ {l' l : List TV}, All2 (r1 P L sel 2) l' l → All2 (wk1 P (eL L) sel) (l'.map qP) (l.map qP)
 | _, _, .nil => .nil
 | _, _, .cons h t => .cons (ahq h) (ade t)
theorem aht {d' d : TV} (h : rD P L sel 2 d' d) : wkD P (eL L) sel (enc d') (enc d) := by
 rcases h with h | ⟨xs', xs, rfl, rfl, h⟩
 ·have hk := ahq h
  have h1 : ZQ d' = true ∧ ZQ d = true := by
   rcases h with h | ⟨xs', xs, rfl, rfl, _⟩
   ·exact ⟨a2a h.1, a2a h.2.1⟩
   ·exact ⟨rfl, rfl⟩
  rw [Kx h1.1, Kx h1.2]
  unfold wkD
  split
  ·rename_i q1 q2 q3
   cases d' <;> first | (cases q2; done) | cases h1.1 | (rename_i q4; cases q4)
  ·exact hk
 ·exact ade h
end
end Go.Sim
namespace Go.Sim
open Go.RowKit
def Qo (a : TFrm) : List Nat → Option (List TV)
 | [] => some []
 | k :: r => match Zr k a.l, Qo a r with
  | some d, some ds => some (d :: ds)
  | _, _ => none
def ShT (vs : VS) (os : List OS) : Type := SP vs.triv (OS.trivs os) vs.T (OS.Ts os)
def ShT.v {vs : VS} {os : List OS} (s : ShT vs os) : vs.T := SP.fst vs.dfl s
def ShT.o {vs : VS} {os : List OS} (s : ShT vs os) : OS.Ts os := SP.snd (OS.dfls os) s
def ShT.mk {vs : VS} {os : List OS} (x : vs.T) (y : OS.Ts os) : ShT vs os := SP.mk x y
theorem ShT.v_mk {vs : VS} {os : List OS} (x : vs.T) (y : OS.Ts os) : (ShT.mk x y : ShT vs os).v = x := SP.fst_mk fun q => VS.triv_dfl vs q x
theorem ShT.o_mk {vs : VS} {os : List OS} (x : vs.T) (y : OS.Ts os) : (ShT.mk x y : ShT vs os).o = y := SP.snd_mk fun q => OS.trivs_dfl os q y
def ShT.vals {vs : VS} {os : List OS} (s : ShT vs os) : List TV := vs.ins id (OS.lens os s.o) s.v
def ShT.objs {vs : VS} {os : List OS} (s : ShT vs os) : List TO := OS.inss id (OS.lens os s.o) os s.o
def a4f (P : Program) (c m m' : Nat) (vs : VS) (os : List OS) (vals : List TV) (L : List TO) (B0 : Bd) : Option (ShT vs os × List (Nat × Nat)) :=
 match a94 P L m' vs vals B0 with
 | some (x, [], B) => match a1p P L m os 0 B with
  | some (y, B') => match agT c L B' with
   | some _ => some (ShT.mk x y, B'.eqs)
   | none => none
  | none => none
 | _ => none
def vF (P : Program) (c m m' : Nat) (vs : VS) (os : List OS) (vals : List TV) (L : List TO) : Option (ShT vs os × List (Nat × Nat)) :=
 match a4f P c m m' vs os vals L (bd0 c os.length) with
 | some r => some r
 | none => a4f P c m m' vs os vals L (bd1 c L os.length)
def ahz (P : Program) (c : Nat) (keys : List Nat) (vs : VS) (os : List OS) : Shp where
 σ := ShT vs os
 F s := keys.zip s.vals
 G s := s.objs
 dec a L := if a.c = c then (match Qo a keys with
  | some vals => vF P c 1 2 vs os vals L
  | none => none) else none
theorem a2t {P : Program} {c m m' : Nat} (hm : m = 0 ∨ m = 1) {vs : VS} {os : List OS} {vals : List TV} {L : List TO} {s : ShT vs os} {q : List (Nat × Nat)} {B0 : Bd} (h0 : B0.b.length = os.length) (h : a4f P c m m' vs os vals L B0 = some (s, q)) (hq : ∀ p ∈ q, p.1 = p.2) :
  ∃ sel, All2 (rD P L sel m') s.vals vals ∧ All2 (oOk L sel m) sel s.objs ∧ (sel.filterMap id).Nodup ∧ X8 c (eL L) sel = true := by
 unfold a4f at h
 split at h
 ·rename_i x B h1
  split at h
  ·rename_i y B' h2
   split at h
   ·rename_i sel h3
    cases h
    obtain ⟨a, b, c', d⟩ := found hm h0 h1 h2 h3 hq
    refine ⟨sel, ?_, ?_, c', d⟩
    ·unfold ShT.vals; rw [ShT.v_mk, ShT.o_mk]; exact a
    ·unfold ShT.objs; rw [ShT.o_mk]; exact b
   ·cases h
  ·cases h
 ·cases h
theorem uc {P : Program} {c m m' : Nat} (hm : m = 0 ∨ m = 1) {vs : VS} {os : List OS} {vals : List TV} {L : List TO} {s : ShT vs os} {q : List (Nat × Nat)} (h : vF P c m m' vs os vals L = some (s, q)) (hq : ∀ p ∈ q, p.1 = p.2) :
  ∃ sel, All2 (rD P L sel m') s.vals vals ∧ All2 (oOk L sel m) sel s.objs ∧ (sel.filterMap id).Nodup ∧ X8 c (eL L) sel = true := by
 unfold vF at h
 split at h
 ·rename_i r hr
  cases h
  exact a2t hm (a9N _ _) hr hq
 ·exact a2t hm (afQ _ _ _) h hq
theorem XQ {L : List TO} {sel : Sel} : ∀ {sl : List (Option Nat)} {os : List TO}, All2 (oOk L sel 1) sl os → All2 (acy (eL L) sel) sl (eL os)
 | _, _, .nil => .nil
 | _, _, .cons (a := s) h t => by
  refine .cons ?_ (XQ t)
  cases s with
  | none => exact h.2
  | some id =>
   obtain ⟨o, h1, h2⟩ := h
   unfold acy
   simp only [qX h1]
   exact h2
theorem adO {P : Program} {L : List TO} {sel : Sel} {a : TFrm} : ∀ {keys : List Nat} {vals l' : List TV}, Qo a keys = some vals → All2 (rD P L sel 2) l' vals → wkL P (eL L) sel (zO a).l (a9f (keys.zip l'))
 | [], _, _, h, ha => by simp [a9f, wkL]
 | k :: r, vals, l', h, ha => by
  unfold Qo at h
  split at h
  ·rename_i d ds h1 h2
   cases h
   cases ha with
   | cons hd t =>
    rename_i d' l'
    have hk : qQ k (zO a).l = some (enc d) := by
     show qQ k (a.l.map fun p => (p.1, enc p.2)) = _
     rw [jj, h1]; rfl
    refine ⟨?_, adO h2 t⟩
    simp only [hk]
    exact aht hd
  ·cases h
theorem adW (P : Program) (c : Nat) (keys : List Nat) (vs : VS) (os : List OS) : a1J P (ahz P c keys vs os) := by
 intro a L s q h hq
 have h' : (if a.c = c then (match Qo a keys with
  | some vals => vF P c 1 2 vs os vals L
  | none => none) else none) = some (s, q) := h
 split at h'
 ·rename_i hc
  split at h'
  ·rename_i vals hv
   obtain ⟨sel, h1, h2, h3, h4⟩ := uc (.inr rfl) h' hq
   exact abY (n := a.n) (c := a.c) (l := (zO a).l) sel (XQ h2) h3 (by rw [hc]; exact h4) (adO hv h1)
  ·cases h'
 ·cases h'
def ajl (P : Program) (c : Nat) (keys : List Nat) (vs : VS) (os : List OS) : Shp where
 σ := ShT vs os
 F s := keys.zip s.vals
 G s := s.objs
 dec a L := if a.c = c then (match Qo a keys with
  | some vals => vF P c 1 1 vs os vals L
  | none => none) else none
section
variable {P : Program} {L : List TO} {sel : Sel} {γ : Pl} {h : Heap} {h0 : Heap} {W0 : Ent} {L' : List TO}
theorem adu (H : Hp P h0 W0 γ (eL L) h) (ok : SelOk (eL L) sel (eL L')) {d' d : TV} {v : Value} (e : rC P L sel 1 d' d) (hd : DC P (qd W0 γ (eL L) h) γ (eL L) h (qp d) v) : DC P (qd W0 (qK γ sel) (eL L') h) (qK γ sel) (eL L') h (qp d') v := a7i H ok e.2.2 hd
theorem aaf (H : Hp P h0 W0 γ (eL L) h) (ok : SelOk (eL L) sel (eL L')) : ∀ {l' l : List TV} {vs : List Value}, All2 (rC P L sel 1) l' l → All2 (DC P (qd W0 γ (eL L) h) γ (eL L) h) (l.map qp) vs → All2 (DC P (qd W0 (qK γ sel) (eL L') h) (qK γ sel) (eL L') h) (l'.map qp) vs
 | _, _, _, .nil, .nil => .nil
 | _, _, _, .cons e t, .cons hd t' => .cons (adu H ok e hd) (aaf H ok t t')
theorem ahy {S : Nat → Prop} {M : List Obj} {x : TV} {v : Value} (hc : isC x = true) : D1 P S γ M h (qP x) v ↔ DC P S γ M h (qp x) v := by
 rw [Ka hc]
 cases x <;> first | exact Iff.rfl | exact absurd hc JN.1 | exact absurd hc JN.2
theorem acC (H : Hp P h0 W0 γ (eL L) h) (ok : SelOk (eL L) sel (eL L')) {d' d : TV} {v : Value} (e : r1 P L sel 1 d' d) (hd : D1 P (qd W0 γ (eL L) h) γ (eL L) h (qP d) v) : D1 P (qd W0 (qK γ sel) (eL L') h) (qK γ sel) (eL L') h (qP d') v := by
 rcases e with e | ⟨xs', xs, rfl, rfl, e⟩
 ·exact (ahy e.1).2 (adu H ok e ((ahy e.2.1).1 hd))
 ·obtain ⟨vs, rfl, hv⟩ := hd
  exact ⟨vs, rfl, aaf H ok e hv⟩
theorem aak (H : Hp P h0 W0 γ (eL L) h) (ok : SelOk (eL L) sel (eL L')) : ∀ {l' l : List TV} {vs : List Value}, All2 (r1 P L sel 1) l' l → All2 (D1 P (qd W0 γ (eL L) h) γ (eL L) h) (l.map qP) vs → All2 (D1 P (qd W0 (qK γ sel) (eL L') h) (qK γ sel) (eL L') h) (l'.map qP) vs
 | _, _, _, .nil, .nil => .nil
 | _, _, _, .cons e t, .cons hd t' => .cons (acC H ok e hd) (aak H ok t t')
theorem ahm {S : Nat → Prop} {M : List Obj} {x : TV} {v : Value} (hc : ZQ x = true) : DR P S γ M h (enc x) v ↔ D1 P S γ M h (qP x) v := by
 rw [Kx hc]
 have h1 := Kw x
 rw [hc, Kx hc] at h1
 exact ⟨fun q => wL q h1, fun q => jH q⟩
theorem aj1 {m : Nat} {d' d : TV} (e : r1 P L sel m d' d) : ZQ d' = true ∧ ZQ d = true := by
 rcases e with e | ⟨xs', xs, rfl, rfl, _⟩
 ·exact ⟨a2a e.1, a2a e.2.1⟩
 ·exact ⟨rfl, rfl⟩
theorem air (H : Hp P h0 W0 γ (eL L) h) (ok : SelOk (eL L) sel (eL L')) {d' d : TV} {v : Value} (e : rD P L sel 1 d' d) (hd : DR P (qd W0 γ (eL L) h) γ (eL L) h (enc d) v) : DR P (qd W0 (qK γ sel) (eL L') h) (qK γ sel) (eL L') h (enc d') v := by
 rcases e with e | ⟨xs', xs, rfl, rfl, e⟩
 ·obtain ⟨i1, i2⟩ := aj1 e
  exact (ahm i1).2 (acC H ok e ((ahm i2).1 hd))
 ·obtain ⟨vs, rfl, hv⟩ := hd
  exact ⟨vs, rfl, aak H ok e hv⟩
theorem a4C (H : Hp P h0 W0 γ (eL L) h) (ok : SelOk (eL L) sel (eL L')) {a : TFrm} {fa : Frm} (hf : FR P W0 γ (eL L) h (zO a) fa) : ∀ {keys : List Nat} {vals l' : List TV}, Qo a keys = some vals → All2 (rD P L sel 1) l' vals →
  ∀ t d, qQ t (a9f (keys.zip l')) = some d → ∃ v, fa.get t = some v ∧ DR P (qd W0 (qK γ sel) (eL L') h) (qK γ sel) (eL L') h d v
 | [], _, _, _, _, t, d, e => by simp [a9f, qQ] at e
 | k :: r, vals, l', hg, ha, t, d, e => by
  unfold Qo at hg
  split at hg
  ·rename_i d0 ds h1 h2
   cases hg
   cases ha with
   | cons hd tl =>
    rename_i d' l'
    have e' : (if k = t then some (enc d') else qQ t (a9f (r.zip l'))) = some d := e
    split at e'
    ·rename_i hk
     cases e'
     subst hk
     obtain ⟨v, e1, r1⟩ := hf.slots k (enc d0) (by show qQ k (a.l.map fun p => (p.1, enc p.2)) = _; rw [jj, h1]; rfl)
     exact ⟨v, e1, air H ok hd r1⟩
    ·exact a4C H ok hf h2 tl t d e'
  ·cases hg
end
theorem agx (P : Program) (c : Nat) (keys : List Nat) (vs : VS) (os : List OS) : afJ P (ajl P c keys vs os) := by
 intro a L s q h hq h0 W0 γ hh fa H hf
 have h' : (if a.c = c then (match Qo a keys with
  | some vals => vF P c 1 1 vs os vals L
  | none => none) else none) = some (s, q) := h
 split at h'
 ·rename_i hc
  split at h'
  ·rename_i vals hv
   obtain ⟨sel, h1, h2, h3, h4⟩ := uc (.inr rfl) h' hq
   have ok : SelOk (eL L) sel (eL s.objs) := SelOk.of (XQ h2) h3
   refine ⟨qK γ sel, H.select ok fun id b e => ?_, hf.n, hf.cnt, a4C H ok hf hv h1⟩
   have hid : id < c := by have := W0.few id b e; rw [hf.cnt] at this; rw [← hc]; exact this
   exact U7 h4 id hid (H.pin id b e).2
  ·cases h'
 ·cases h'
abbrev RSh := VS × List OS
def RSh.T (r : RSh) : Type := ShT r.1 r.2
def RT : List RSh → Type
 | [] => Empty
 | r :: rs => match rs with
  | [] => r.T
  | _ :: _ => r.T ⊕ RT rs
def RQ1 (r : RSh) (x : r.T) (d : DV) (A : List Obj) : Prop := ∃ v, ShT.vals x = [v] ∧ d = enc v ∧ A = eL (ShT.objs x)
def RQ : (rs : List RSh) → RT rs → DV → List Obj → Prop
 | [], _ => fun _ _ => False
 | [r], x => RQ1 r x
 | r :: s :: t, x => match x with
  | .inl y => RQ1 r y
  | .inr y => RQ (s :: t) y
def afG (P : Program) (c : Nat) (d : TV) (L : List TO) : (rs : List RSh) → Option (RT rs × List (Nat × Nat))
 | [] => none
 | [r] => vF P c 1 2 r.1 r.2 [d] L
 | r :: s :: t => match vF P c 1 2 r.1 r.2 [d] L with
  | some (x, q) => some (.inl x, q)
  | none => match afG P c d L (s :: t) with
   | some (y, q) => some (.inr y, q)
   | none => none
theorem a9R {P : Program} {c : Nat} {d : TV} {L : List TO} {r : RSh} {x : ShT r.1 r.2} {q : List (Nat × Nat)} (h : vF P c 1 2 r.1 r.2 [d] L = some (x, q)) (hq : ∀ p ∈ q, p.1 = p.2) : aaw P c (RQ1 r x) (enc d) (eL L) := by
 obtain ⟨sel, h1, h2, h3, h4⟩ := uc (.inr rfl) h hq
 generalize hv : ShT.vals x = vals at h1
 cases h1 with
 | cons hd t =>
  cases t
  rename_i v
  exact agi sel (enc v) (eL (ShT.objs x)) (XQ h2) h3 h4 (aht hd) ⟨v, hv, rfl, rfl⟩
theorem Ub {P : Program} {c : Nat} {d : TV} {L : List TO} : ∀ {rs : List RSh} {x : RT rs} {q : List (Nat × Nat)}, afG P c d L rs = some (x, q) → (∀ p ∈ q, p.1 = p.2) → aaw P c (RQ rs x) (enc d) (eL L)
 | [], x, q, h, hq => by cases h
 | [r], x, q, h, hq => a9R h hq
 | r :: s :: t, x, q, h, hq => by
  unfold afG at h
  split at h
  ·rename_i y q' h1
   cases h
   exact a9R h1 hq
  ·split at h
   ·rename_i y q' h1
    cases h
    exact Ub (rs := s :: t) h1 hq
   ·cases h
def ajr (P : Program) (c : Nat) (rs : List RSh) : TV → List TO → Tree (RT rs) := fun d L => ql (afG P c d L rs) fun p => chk p.2 (.ret p.1)
structure TEnt where
 f : FuncId
 av : VS
 os : List OS
 rs : List RSh
 m : ShT av os → Option (RT rs)
def qu (P : Program) (e : TEnt) : Prop := ∀ p x, e.m p = some x → DCalls P e.f (p.vals.map enc) (eL p.objs) (RQ e.rs x)
noncomputable def a33 (E : TEnv) (f : FuncId) (av : VS) (os : List OS) (rs : List RSh) (p : ShT av os) : Option (RT rs) := (af8 E f p.vals p.objs (ajr E.P os.length rs)).run
theorem UQ (f len f' len' : Nat → Nat) : ∀ (s : VS) (x y : s.T), (s.ins f len x).length = (s.ins f' len' y).length
 | .int _, _, _ => rfl
 | .bool, _, _ => rfl
 | .str, _, _ => rfl
 | .sl _, _, _ => rfl
 | .cst _, _, _ => rfl
 | .ptr _ _, _, _ => rfl
 | .own _, _, _ => rfl
 | .part _, _, _ => rfl
 | .mp _, _, _ => rfl
 | .nil, _, _ => rfl
 | .cons a b, x, y => by simp only [VS.ins, List.length_append, UQ f len f' len' a _ (SP.fst a.dfl y), UQ f len f' len' b _ (SP.snd b.dfl y)]
 | .fn _ _ _, _, _ => rfl
 | .agg _, _, _ => rfl
 | .tup _, _, _ => rfl
theorem ahO {E : TEnv} (hE : EnvOk E) {f : FuncId} {av : VS} {os : List OS} {rs : List RSh} (m : ShT av os → Option (RT rs)) (hm : ∀ p, a33 E f av os rs p = m p) (hf : abo E.P f (av.ins id (fun _ => 0) av.dfl).length = true) : qu E.P ⟨f, av, os, rs, m⟩ := by
 intro p x hx
 have hx' : a33 E f av os rs p = some x := (hm p).trans hx
 have hl : p.objs.length = os.length := QM _ _ _ _
 unfold a33 at hx'
 refine a82 hE (K := ajr E.P os.length rs) (z := x) (by rw [show p.vals.length = (av.ins id (fun _ => 0) av.dfl).length from UQ _ _ _ _ _ _ _]; exact hf) hx' fun d L h => ?_
 obtain ⟨⟨y, q⟩, h1, h2⟩ := q8 h
 obtain ⟨h3, h4⟩ := zK h2
 cases h4
 rw [hl]
 exact Ub h1 h3
end Go.Sim
namespace Go.Sim
open Go.RowKit
def a3M : TV → Bool
 | .v _ => true
 | _ => false
def a3u : TV → Bool
 | .agg xs => xs.all a3M
 | d => a3M d
def af6 : TV → Bool
 | .tup xs => xs.all a3u
 | d => a3u d
theorem abT {d : TV} (h : a3M d = true) : UY (qp d) = true ∧ qP d = qp d ∧ enc d = qp d := by cases d <;> first | exact ⟨rfl, rfl, rfl⟩ | cases h
theorem YR : ∀ {l : List TV}, l.all a3M = true → (l.map qp).all UY = true
 | [], _ => rfl
 | d :: l, h => by
  simp only [List.all_cons, Bool.and_eq_true] at h
  rw [List.map_cons, List.all_cons, (abT h.1).1, YR h.2]; rfl
theorem abq {d : TV} (h : a3u d = true) : uF (qP d) = true ∧ enc d = qP d := by
 cases d <;> first | exact ⟨YR h, rfl⟩ | exact ⟨rfl, rfl⟩ | cases h
theorem uJ : ∀ {l : List TV}, l.all a3u = true → (l.map qP).all uF = true
 | [], _ => rfl
 | d :: l, h => by
  simp only [List.all_cons, Bool.and_eq_true] at h
  rw [List.map_cons, List.all_cons, (abq h.1).1, uJ h.2]; rfl
theorem ac0 {d : TV} (h : af6 d = true) : aa8 (enc d) = true := by
 cases d <;> first | exact uJ h | exact YR h | rfl | cases h
def a6D {R : Type} : (rs : List RSh) → RT rs → (∀ r : RSh, r.T → Tree R) → Tree R
 | [], _, _ => .fail
 | [r], x, k => k r x
 | r :: s :: t, x, k => .case r.T (RT (s :: t)) x (k r) (fun y => a6D (s :: t) y k)
theorem YX {R : Type} {z : R} : ∀ {rs : List RSh} {x : RT rs} {k : ∀ r : RSh, r.T → Tree R}, (a6D rs x k).run = some z → ∃ (r : RSh) (y : r.T), (k r y).run = some z ∧ ∀ d A, RQ rs x d A → RQ1 r y d A
 | [], x, k, h => by cases h
 | [r], x, k, h => ⟨r, x, h, fun d A q => q⟩
 | r :: s :: t, x, k, h => by
  unfold a6D at h
  cases x with
  | inl y => exact ⟨r, y, h, fun d A q => q⟩
  | inr y =>
   obtain ⟨r', y', h1, h2⟩ := YX (rs := s :: t) h
   exact ⟨r', y', h1, fun d A q => h2 d A q⟩
def VS.scal : VS → Bool
 | .int _ => true
 | .bool => true
 | .str => true
 | .cst _ => true
 | .nil => true
 | .cons a b => a.scal && b.scal
 | .agg l => l.scal
 | .tup l => l.scal
 | _ => false
def adD (rs : List RSh) : Bool := rs.all fun r => r.1.scal && r.2.isEmpty
def a8F (P : Program) (e : TEnt) {R : Type} (ds : List TV) (L : List TO) (K : TV → List TO → Tree R) : Tree R :=
 match a1g P L 2 e.av ds (bd0 0 e.os.length) with
 | some (x, [], B) => match a1p P L 0 e.os 0 B with
  | some (y, B') => chk B'.eqs (Wx (e.m (ShT.mk x y)) fun r => a6D e.rs r fun r y => match ShT.vals y, r.2 with
   | [v], [] => if af6 v then K v L else .fail
   | _, _ => .fail)
  | none => .fail
 | _ => .fail
theorem All2.maps {α β α' β' : Type} {R : α → β → Prop} {R' : α' → β' → Prop} {f : α → α'} {g : β → β'} (hr : ∀ a b, R a b → R' (f a) (g b)) : ∀ {l : List α} {m : List β}, All2 R l m → All2 R' (l.map f) (m.map g)
 | _, _, .nil => .nil
 | _, _, .cons h t => .cons (hr _ _ h) (All2.maps hr t)
section
variable {P : Program} {L : List TO}
theorem ait {d' d : TV} (h : r1 P L [] 2 d' d) : a7P P (eL L) true (enc d') (enc d) := by
 have cell : ∀ {d' d : TV}, rC P L [] 2 d' d → a2Q P (eL L) true (qp d') (qp d) := by
  intro d' d h
  have hw : wkC P (eL L) [] (qp d') (qp d) := h.2.2
  unfold a2Q
  unfold wkC at hw
  split at hw
  ·rename_i z rows id lo n tot h1 h2
   rw [h1, h2]
   exact ⟨.inl rfl, hw.2⟩
  ·rename_i h1 h2
   rw [h1, h2]
   exact hw
  ·rename_i h1 h1x
   unfold unX at hw
   split at hw
   ·rename_i z rows h2 h3
    rw [h2, h3]
    exact hw
   ·rename_i h2
    split
    ·rename_i z rows id lo n tot h3 h4; exact absurd h4 (h1 _ _ _ _ _ _ h3)
    ·rename_i z rows h3 h4; exact absurd h4 (h2 _ _ h3)
    ·rename_i z rows z' rows' h3 h4; exact absurd h4 (h1x _ _ _ _ h3)
    ·exact hw
 rcases h with h | ⟨xs', xs, rfl, rfl, h⟩
 ·rw [Zs h.1, Zs h.2.1]
  have := cell h
  unfold a7P
  split
  ·rename_i h3 h4; exact absurd h3 ((vN h.1).1 _)
  ·exact this
 ·show All2 (a2Q P (eL L) true) (xs'.map qp) (xs.map qp)
  exact All2.maps (fun _ _ q => cell q) h
theorem aa9 : ∀ {l' l : List TV}, All2 (r1 P L [] 2) l' l → All2 (a7P P (eL L) true) (l'.map enc) (l.map enc)
 | _, _, .nil => .nil
 | _, _, .cons h t => .cons (ait h) (aa9 t)
theorem a3q {R : Type} {e : TEnt} (he : qu P e) (hos : e.os = []) {ds : List TV} {K : TV → List TO → Tree R} {z : R} (h : (a8F P e ds L K).run = some z) : DCallWF P e.f (ds.map enc) (eL L) [] (KT K z) := by
 obtain ⟨f, av, os, rs, m⟩ := e
 simp only at hos
 subst hos
 unfold a8F at h
 split at h
 ·rename_i x B h1
  split at h
  ·rename_i y B' h2
   replace h := zK h; obtain ⟨hq, h⟩ := h
   replace h := ke h; obtain ⟨r, h3, h⟩ := h
   obtain ⟨rr, yy, h4, h5⟩ := YX h
   have hy : B' = B := by
    have h2' : some ((() : OS.Ts []), B) = some (y, B') := h2
    cases h2'; rfl
   subst hy
   obtain ⟨a1, a2⟩ := v9 (L := L) (P := P) (sel := []) (len := OS.lens [] y) 2 av h1
   have hb : B'.b = [] := List.length_eq_zero_iff.1 (by rw [a1.2.2.2]; rfl)
   obtain ⟨l0, e, q⟩ := a2 ⟨fun k x e => (by rw [hb] at e; simp at e), hq, fun i _ => (by simp), fun k id n e => (by simp at e), fun k e => (by simp at e)⟩
   rw [List.append_nil] at e
   subst e
   have hd := he (ShT.mk x y) r h3
   have hv : ShT.vals (ShT.mk x y : ShT av []) = av.ins id (OS.lens [] y) x := by unfold ShT.vals; rw [ShT.v_mk, ShT.o_mk]
   rw [hv] at hd
   refine a6P hd (aa9 q) fun d A' hr => ?_
   obtain ⟨v, b1, rfl, rfl⟩ := h5 d A' hr
   split at h4
   ·rename_i v' e1 e2
    rw [b1] at e1
    cases e1
    split at h4
    ·rename_i hs
     refine ⟨?_, ac0 hs, _, _, rfl, rfl, h4⟩
     have : (ShT.objs yy).length = 0 := by unfold ShT.objs; rw [QM, e2]; rfl
     rw [List.length_eq_zero_iff.1 this]; rfl
    ·cases h4
   ·cases h4
  ·cases h
 ·cases h
end
end Go.Sim
namespace Go.Sim
open Go.RowKit
def VS.fitB (m : Nat) : VS → Bool
 | .ptr k _ => decide (k < m)
 | .own k => decide (k < m)
 | .part k => decide (k < m)
 | .mp _ => false
 | .cons a b => a.fitB m && b.fitB m
 | .fn _ _ _ => false
 | .agg _ => false
 | .tup _ => false
 | _ => true
def VS.fitC (m : Nat) : VS → Bool
 | .ptr k _ => decide (k < m)
 | .own k => decide (k < m)
 | .part k => decide (k < m)
 | .mp _ => false
 | .cons a b => a.fitC m && b.fitC m
 | .fn _ a b => a.fitB m && b.fitB m
 | .agg _ => false
 | .tup _ => false
 | _ => true
def VS.fitA (m : Nat) : VS → Bool
 | .agg s => s.fitC m
 | .cons a b => a.fitA m && b.fitA m
 | s => s.fitC m
def VS.fitT (m : Nat) : VS → Bool
 | .tup s => s.fitA m
 | .cons a b => a.fitT m && b.fitT m
 | s => s.fitA m
def exC (back : Sel) (d' d : TV) : Prop := isC d' = true ∧ isC d = true ∧ Z3 back (qp d') = some (qp d)
def exB (back : Sel) (d' d : TV) : Prop := j8 back (zm d') = some (zm d)
section
variable {back : Sel} {m : Nat} {f len : Nat → Nat}
theorem XZ (hb : ∀ k, k < m → back[f k]? = some (some k)) : ∀ (s : VS) (x : s.T), s.fitB m = true → All2 (exB back) (s.ins f len x) (s.ins id len x)
 | .int k, x, _ => .cons rfl .nil
 | .bool, x, _ => .cons rfl .nil
 | .str, x, _ => .cons rfl .nil
 | .cst _, x, _ => .cons rfl .nil
 | .sl c, x, _ => .cons rfl .nil
 | .ptr k off, x, h => by
  have hk := hb k (by simpa [VS.fitB] using h)
  refine .cons ?_ .nil
  show j8 back (.ptr (f k) off) = some (.ptr k off)
  unfold j8 unB
  simp only [hk]
 | .own k, x, h => by
  have hk := hb k (by simpa [VS.fitB] using h)
  refine .cons ?_ .nil
  show j8 back (.ref (f k) 0 (len k) (len k)) = some (.ref k 0 (len k) (len k))
  unfold j8
  simp only [hk]
 | .part k, x, h => by
  have hk := hb k (by simpa [VS.fitB] using h)
  refine .cons ?_ .nil
  show j8 back (.ref (f k) x.1 x.2 (len k)) = some (.ref k x.1 x.2 (len k))
  unfold j8
  simp only [hk]
 | .mp _, x, h => by cases h
 | .nil, x, _ => .nil
 | .cons a b, x, h => by
  simp only [VS.fitB, Bool.and_eq_true] at h
  exact (XZ hb a _ h.1).append (XZ hb b _ h.2)
 | .fn _ _ _, x, h => by cases h
 | .agg _, x, h => by cases h
 | .tup _, x, h => by cases h
theorem uE : ∀ {l' l : List TV}, All2 (exB back) l' l → kK back (l'.map zm) = some (l.map zm)
 | _, _, .nil => rfl
 | _, _, .cons h t => by simp only [List.map_cons, kK, show j8 back _ = some _ from h, uE t]
theorem V5 (hb : ∀ k, k < m → back[f k]? = some (some k)) : ∀ (s : VS) (x : s.T), s.fitC m = true → All2 (exC back) (s.ins f len x) (s.ins id len x)
 | .int k, x, _ => .cons ⟨rfl, rfl, rfl⟩ .nil
 | .bool, x, _ => .cons ⟨rfl, rfl, rfl⟩ .nil
 | .str, x, _ => .cons ⟨rfl, rfl, rfl⟩ .nil
 | .cst _, x, _ => .cons ⟨rfl, rfl, rfl⟩ .nil
 | .sl c, x, _ => .cons ⟨rfl, rfl, rfl⟩ .nil
 | .ptr k off, x, h => by
  have hk := hb k (by simpa [VS.fitC] using h)
  refine .cons ⟨rfl, rfl, ?_⟩ .nil
  show j8 back (.ptr (f k) off) = some (.ptr k off)
  unfold j8 unB
  simp only [hk]
 | .own k, x, h => by
  have hk := hb k (by simpa [VS.fitC] using h)
  refine .cons ⟨rfl, rfl, ?_⟩ .nil
  show j8 back (.ref (f k) 0 (len k) (len k)) = some (.ref k 0 (len k) (len k))
  unfold j8
  simp only [hk]
 | .part k, x, h => by
  have hk := hb k (by simpa [VS.fitC] using h)
  refine .cons ⟨rfl, rfl, ?_⟩ .nil
  show j8 back (.ref (f k) x.1 x.2 (len k)) = some (.ref k x.1 x.2 (len k))
  unfold j8
  simp only [hk]
 | .mp _, x, h => by cases h
 | .nil, x, _ => .nil
 | .cons a b, x, h => by
  simp only [VS.fitC, Bool.and_eq_true] at h
  exact (V5 hb a _ h.1).append (V5 hb b _ h.2)
 | .fn g a b, x, h => by
  simp only [VS.fitC, Bool.and_eq_true] at h
  refine .cons ⟨rfl, rfl, ?_⟩ .nil
  have h1 := uE (XZ (len := len) hb a (SP.fst a.dfl x) h.1)
  have h2 := uE (XZ (len := len) hb b (SP.snd b.dfl x) h.2)
  show (match kK back ((a.ins f len (SP.fst a.dfl x)).map zm), kK back ((b.ins f len (SP.snd b.dfl x)).map zm) with
   | some a, some b => some (DV.fn g a b)
   | _, _ => none) = _
  rw [h1, h2]; rfl
 | .agg _, x, h => by cases h
 | .tup _, x, h => by cases h
theorem uN : ∀ {l' l : List TV}, All2 (exC back) l' l → QY back (l'.map qp) = some (l.map qp)
 | _, _, .nil => rfl
 | _, _, .cons h t => by simp only [List.map_cons, QY, show Z3 back _ = some _ from h.2.2, uN t]
def ex1 (back : Sel) (d' d : TV) : Prop := ZQ d' = true ∧ ZQ d = true ∧ XL back (qP d') = some (qP d)
theorem ab6 {d' d : TV} (h : exC back d' d) : ex1 back d' d := by
 refine ⟨a2a h.1, a2a h.2.1, ?_⟩
 rw [Ka h.1, Ka h.2.1]
 have := vN h.1
 unfold XL
 split
 ·rename_i q; exact absurd q (this.1 _)
 ·exact h.2.2
theorem a9V (hb : ∀ k, k < m → back[f k]? = some (some k)) (s : VS) : ∀ (x : s.T), s.fitA m = true → All2 (ex1 back) (s.ins f len x) (s.ins id len x) := by
 have base : ∀ (s : VS) (x : s.T), s.fitC m = true → All2 (ex1 back) (s.ins f len x) (s.ins id len x) := fun s x h => (V5 hb s x h).mono fun _ _ => ab6
 induction s with
 | agg s _ =>
  intro x h
  refine .cons ⟨rfl, rfl, ?_⟩ .nil
  have h1 := uN (V5 (len := len) hb s x h)
  show (QY back ((s.ins f len x).map qp)).map DV.agg = _
  rw [h1]; rfl
 | cons a b iha ihb =>
  intro x h
  simp only [VS.fitA, Bool.and_eq_true] at h
  exact (iha _ h.1).append (ihb _ h.2)
 | _ => intro x h; exact base _ x h
theorem a4E : ∀ {l' l : List TV}, All2 (ex1 back) l' l → vU back (l'.map qP) = some (l.map qP)
 | _, _, .nil => rfl
 | _, _, .cons h t => by simp only [List.map_cons, vU, show XL back _ = some _ from h.2.2, a4E t]
def exD (back : Sel) (d' d : TV) : Prop := a3l back (enc d') = some (enc d)
theorem aeH {d' d : TV} (h : ex1 back d' d) : exD back d' d := by
 unfold exD
 rw [Kx h.1, Kx h.2.1]
 unfold a3l
 split
 ·rename_i q
  have := h.1
  cases d' <;> first | (cases q; done) | cases this
 ·exact h.2.2
theorem afU (hb : ∀ k, k < m → back[f k]? = some (some k)) (s : VS) : ∀ (x : s.T), s.fitT m = true → All2 (exD back) (s.ins f len x) (s.ins id len x) := by
 have base : ∀ (s : VS) (x : s.T), s.fitA m = true → All2 (exD back) (s.ins f len x) (s.ins id len x) := fun s x h => (a9V hb s x h).mono fun _ _ => aeH
 induction s with
 | tup s _ =>
  intro x h
  refine .cons ?_ .nil
  have h1 := a4E (a9V (len := len) hb s x h)
  show (vU back ((s.ins f len x).map qP)).map DV.tup = _
  rw [h1]; rfl
 | cons a b iha ihb =>
  intro x h
  simp only [VS.fitT, Bool.and_eq_true] at h
  exact (iha _ h.1).append (ihb _ h.2)
 | _ => intro x h; exact base _ x h
def OS.fit (m : Nat) : OS → Bool
 | .st s => s.fitC m
 | .li _ _ _ => true
 | .mp _ => false
 | .dead => true
theorem ago (hb : ∀ k, k < m → back[f k]? = some (some k)) : ∀ (o : OS) (x : o.T), o.fit m = true → YU back (ko (o.ins f len x)) (ko (o.ins id len x))
 | .st s, x, h => uN (V5 hb s x h)
 | .li _ _ _, x, _ => ⟨rfl, rfl⟩
 | .mp _, x, h => by cases h
 | .dead, x, _ => by
  show YU back .dead .dead
  unfold YU; trivial
theorem a9Y (hb : ∀ k, k < m → back[f k]? = some (some k)) : ∀ (os : List OS) (y : OS.Ts os), os.all (OS.fit m) = true → All2 (fun o' o => YU back (ko o') (ko o)) (OS.inss f len os y) (OS.inss id len os y)
 | [], _, _ => .nil
 | o :: r, y, h => by
  simp only [List.all_cons, Bool.and_eq_true] at h
  exact .cons (ago hb o _ h.1) (a9Y hb r _ h.2)
end
def JE (i : Nat) : List Nat → Nat → Option Nat
 | [], _ => none
 | x :: r, k => if x = i then some k else JE i r (k + 1)
theorem Yj {i : Nat} : ∀ {l : List Nat} {k j : Nat}, JE i l k = some j → k ≤ j ∧ l[j - k]? = some i
 | [], k, j, h => by cases h
 | x :: r, k, j, h => by
  unfold JE at h
  split at h
  ·rename_i hx; cases h; subst hx; exact ⟨Nat.le_refl _, by simp⟩
  ·obtain ⟨h1, h2⟩ := Yj h
   refine ⟨by omega, ?_⟩
   rw [show j - k = (j - (k + 1)) + 1 by omega]
   simpa using h2
theorem a25 {i : Nat} : ∀ {l : List Nat} {k : Nat}, JE i l k = none → i ∉ l
 | [], k, h => by simp
 | x :: r, k, h => by
  unfold JE at h
  split at h
  ·cases h
  ·rename_i hx
   intro hm
   rcases List.mem_cons.1 hm with rfl | hm
   ·exact hx rfl
   ·exact a25 h hm
theorem WY {l : List Nat} (hn : l.Nodup) {i k : Nat} (h : l[k]? = some i) : JE i l 0 = some k := by
 cases hx : JE i l 0 with
 | none => exact absurd (List.mem_of_getElem? h) (a25 hx)
 | some j =>
  have := (Yj hx).2
  rw [Nat.sub_zero] at this
  rw [WR hn this h]
def stK (os : List OS) (k : Nat) : Bool := match os[k]? with
 | some (.st _) => true
 | _ => false
def xD (os : List OS) (m : Nat) : List Nat := (List.range m).filter fun k => !stK os k
def a84 (os : List OS) (sel : List Nat) (n m k : Nat) : Nat := if stK os k then (sel[k]?).getD 0 else n + (JE k (xD os m) 0).getD 0
def a1U (os : List OS) (sel : List Nat) (new : List TO) : List TO → Nat → List TO
 | [], _ => []
 | o :: r, i => (match JE i sel 0 with
  | some k => if stK os k then (new[k]?).getD .dead else .dead
  | none => o) :: a1U os sel new r (i + 1)
def a1G (os : List OS) (sel : List Nat) : List TO → Nat → Sel
 | [], _ => []
 | o :: r, i => (match JE i sel 0 with
  | some k => if stK os k then some k else none
  | none => none) :: a1G os sel r (i + 1)
def J2 (os : List OS) (sel : List Nat) (new : List TO) (L : List TO) : List TO := a1U os sel new L 0 ++ (xD os new.length).map fun k => (new[k]?).getD .dead
def Q7 (os : List OS) (sel : List Nat) (m : Nat) (L : List TO) : Sel := a1G os sel L 0 ++ (xD os m).map some
section
variable {os : List OS} {sel : List Nat} {new : List TO}
theorem yo : ∀ (L : List TO) (i : Nat), (a1U os sel new L i).length = L.length
 | [], _ => rfl
 | o :: r, i => by simp [a1U, yo r]
theorem wx : ∀ (L : List TO) (i : Nat), (a1G os sel L i).length = L.length
 | [], _ => rfl
 | o :: r, i => by simp [a1G, wx r]
theorem a20 : ∀ (L : List TO) (i j : Nat) (o : TO), L[j]? = some o → (a1U os sel new L i)[j]? = some (match JE (i + j) sel 0 with
  | some k => if stK os k then (new[k]?).getD .dead else .dead
  | none => o)
 | [], i, j, o, h => by simp at h
 | x :: r, i, j, o, h => by
  cases j with
  | zero => simp at h; subst h; rfl
  | succ j =>
   simp only [a1U, List.getElem?_cons_succ]
   rw [a20 r (i + 1) j o (by simpa using h), show i + 1 + j = i + (j + 1) by omega]
theorem VJ : ∀ (L : List TO) (i j : Nat), j < L.length → (a1G os sel L i)[j]? = some (match JE (i + j) sel 0 with
  | some k => if stK os k then some k else none
  | none => none)
 | [], i, j, h => by simp at h
 | x :: r, i, j, h => by
  cases j with
  | zero => rfl
  | succ j =>
   simp only [a1G, List.getElem?_cons_succ]
   rw [VJ r (i + 1) j (by simpa using h), show i + 1 + j = i + (j + 1) by omega]
theorem Um (os : List OS) (m : Nat) : (xD os m).Nodup := List.nodup_range.filter _
theorem vX {m k : Nat} : k ∈ xD os m ↔ k < m ∧ stK os k = false := by simp [xD]
theorem adL {n m k : Nat} {L : List TO} (hn : sel.Nodup) (hl : L.length = n) (hlt : ∀ i ∈ sel, i < n) (hs : ∀ k, stK os k = true → k < sel.length) (hk : k < m) : (Q7 os sel m L)[a84 os sel n m k]? = some (some k) := by
 unfold a84 Q7
 cases hst : stK os k with
 | true =>
  have hks := hs k hst
  have h1 : sel[k]? = some sel[k] := List.getElem?_eq_getElem hks
  have h2 : sel[k] < n := hlt _ (List.getElem_mem hks)
  simp only [if_true, h1, Option.getD_some]
  rw [List.getElem?_append_left (by rw [wx, hl]; exact h2), VJ _ _ _ (by rw [hl]; exact h2), Nat.zero_add, WY hn h1]
  simp [hst]
 | false =>
  have hm : k ∈ xD os m := vX.2 ⟨hk, hst⟩
  obtain ⟨j, hj⟩ := List.mem_iff_getElem?.1 hm
  have hx := WY (Um os m) hj
  simp only [Bool.false_eq_true, if_false, hx, Option.getD_some]
  rw [List.getElem?_append_right (by rw [wx, hl]; omega), wx, hl, Nat.add_sub_cancel_left, List.getElem?_map, hj]
  rfl
theorem aeF {P : Program} {L : List TO} {A A' : List Obj} {old : List TO} (hn : sel.Nodup) (hlt : ∀ i ∈ sel, i < L.length) (hs : ∀ k, stK os k = true → k < sel.length) (hA : ∀ k, stK os k = true ↔ ∃ c, A[k]? = some (.st c)) (hm : sel.length ≤ new.length)
  (hA' : A' = eL old) (hr : All2 (fun o' o => YU (Q7 os sel new.length L) (ko o') (ko o)) new old) : Merge (eL L) sel A A' (Q7 os sel new.length L) (eL (J2 os sel new L)) := by
 have hlen : new.length = old.length := hr.length
 have gl : ∀ {i : Nat}, i < L.length → (Q7 os sel new.length L)[i]? = some (match JE i sel 0 with
   | some k => if stK os k then some k else none
   | none => none) := fun {i} h => by
  unfold Q7
  rw [List.getElem?_append_left (by rw [wx]; exact h), VJ _ _ _ h, Nat.zero_add]
 have gr : ∀ {j : Nat}, (Q7 os sel new.length L)[L.length + j]? = ((xD os new.length)[j]?).map some := fun {j} => by
  unfold Q7
  rw [List.getElem?_append_right (by rw [wx]; omega), wx, Nat.add_sub_cancel_left, List.getElem?_map]
 have ol : ∀ {i : Nat} {o : TO}, L[i]? = some o → (J2 os sel new L)[i]? = some (match JE i sel 0 with
   | some k => if stK os k then (new[k]?).getD .dead else .dead
   | none => o) := fun {i o} h => by
  unfold J2
  rw [List.getElem?_append_left (by rw [yo]; exact (List.getElem?_eq_some_iff.1 h).1), a20 _ _ _ _ h, Nat.zero_add]
 have or' : ∀ {j : Nat}, (J2 os sel new L)[L.length + j]? = ((xD os new.length)[j]?).map fun k => (new[k]?).getD .dead := fun {j} => by
  unfold J2
  rw [List.getElem?_append_right (by rw [yo]; omega), yo, Nat.add_sub_cancel_left, List.getElem?_map]
 have back : ∀ {i k : Nat}, (Q7 os sel new.length L)[i]? = some (some k) → (i < L.length ∧ sel[k]? = some i ∧ stK os k = true) ∨ (L.length ≤ i ∧ (xD os new.length)[i - L.length]? = some k) := by
  intro i k h
  by_cases hi : i < L.length
  ·rw [gl hi] at h
   cases hx : JE i sel 0 with
   | none => rw [hx] at h; cases h
   | some k' =>
    rw [hx] at h
    simp only at h
    split at h
    ·rename_i hst
     cases h
     have := (Yj hx).2
     rw [Nat.sub_zero] at this
     exact .inl ⟨hi, this, hst⟩
    ·cases h
  ·have hj : i = L.length + (i - L.length) := by omega
   rw [hj, gr] at h
   cases hx : (xD os new.length)[i - L.length]? with
   | none => rw [hx] at h; cases h
   | some k' => rw [hx] at h; cases h; exact .inr ⟨by omega, by first | exact hx | rfl⟩
 have geteL : ∀ {l : List TO} {i : Nat}, (eL l)[i]? = (l[i]?).map ko := fun {l i} => by unfold eL; rw [List.getElem?_map]
 have hnew : ∀ {k : Nat}, k < new.length → ∃ o' o, new[k]? = some o' ∧ old[k]? = some o ∧ YU (Q7 os sel new.length L) (ko o') (ko o) := fun {k} h => by
  obtain ⟨o, h1, h2⟩ := hr.get (List.getElem?_eq_getElem h)
  exact ⟨_, o, List.getElem?_eq_getElem h, h1, h2⟩
 have hdom : ∀ {i : Nat}, i < L.length → ∃ o, L[i]? = some o := fun {i} h => ⟨_, List.getElem?_eq_getElem h⟩
 refine ⟨?_, ?_, fun i hi hn' => ?_, fun k i c h1 h2 => ?_, fun k i h1 h2 => ?_, fun i k h => ?_, fun i h1 h2 => ?_, fun i j k h1 h2 => ?_⟩
 ·simp [Q7, J2, zA, wx, yo]
 ·simp [J2, zA, yo]
 ·rw [zA] at hi
  have hx : JE i sel 0 = none := by
   cases hx : JE i sel 0 with
   | none => rfl
   | some k => exact absurd (List.mem_of_getElem? (Yj hx).2) hn'
  obtain ⟨o, ho⟩ := hdom hi
  refine ⟨by rw [gl hi, hx], ?_⟩
  rw [geteL, geteL, ol ho, hx, ho]
 ·have hi := hlt i (List.mem_of_getElem? h1)
  rw [gl hi, WY hn h1]
  simp only
  rw [if_pos ((hA k).2 ⟨c, h2⟩)]
 ·have hi := hlt i (List.mem_of_getElem? h1)
  have hst : ¬ stK os k = true := fun q => by obtain ⟨c, hc⟩ := (hA k).1 q; exact h2 c hc
  obtain ⟨o, ho⟩ := hdom hi
  refine ⟨?_, ?_⟩
  ·rw [geteL, ol ho, WY hn h1]
   simp only
   rw [if_neg hst]; rfl
  ·rw [gl hi, WY hn h1]
   simp only
   rw [if_neg hst]
 ·subst hA'
  rcases back h with ⟨h1, h2, h3⟩ | ⟨h1, h2⟩
  ·have hk : k < new.length := by have := (List.getElem?_eq_some_iff.1 h2).1; omega
   obtain ⟨o', o, e1, e2, e3⟩ := hnew hk
   obtain ⟨x, hx⟩ := hdom h1
   refine ⟨.inl (List.mem_of_getElem? h2), ko o, ko o', by rw [geteL, e2]; rfl, ?_, e3⟩
   rw [geteL, ol hx, WY hn h2]
   simp only
   rw [if_pos h3, e1]; rfl
  ·have hk : k < new.length := (vX.1 (List.mem_of_getElem? h2)).1
   obtain ⟨o', o, e1, e2, e3⟩ := hnew hk
   refine ⟨.inr (by rw [zA]; exact h1), ko o, ko o', by rw [geteL, e2]; rfl, ?_, e3⟩
   rw [geteL, show i = L.length + (i - L.length) by omega, or', h2]
   simp only [Option.map_some, e1, Option.getD_some]
 ·rw [zA] at h1
  have h2' : i - L.length < (xD os new.length).length := by
   simp only [J2, zA, List.length_append, yo, List.length_map] at h2
   omega
  obtain ⟨k, hk⟩ : ∃ k, (xD os new.length)[i - L.length]? = some k := ⟨_, List.getElem?_eq_getElem h2'⟩
  refine ⟨k, ?_⟩
  rw [show i = L.length + (i - L.length) by omega, gr, hk]
  rfl
 ·rcases back h1 with ⟨a1, a2, a3⟩ | ⟨a1, a2⟩ <;> rcases back h2 with ⟨b1, b2, b3⟩ | ⟨b1, b2⟩
  ·rw [a2] at b2; cases b2; rfl
  ·have := (vX.1 (List.mem_of_getElem? b2)).2
   rw [a3] at this; cases this
  ·have := (vX.1 (List.mem_of_getElem? a2)).2
   rw [b3] at this; cases this
  ·have := WR (Um os new.length) a2 b2
   omega
end
end Go.Sim
namespace Go.Sim
open Go.RowKit
def a5S (P : Program) (x : TV) (c : CT) (L : List TO) : TV × List TO × List (Nat × Nat) := match x with
 | .v (.slice none 0 0) => (.sl c [], L, [])
 | .part id lo n tot => match L[id]? with
  | some (.li c e loc xs) => (x, L.set id (.fz c e loc xs), [])
  | _ => (x, L, [])
 | x => a61 P L x
def a0Z (P : Program) : VS → List TV → List TO → List TV × List TV × List TO × List (Nat × Nat)
 | .sl c, l, L => match l with
  | [] => ([], [], L, [])
  | x :: r => match a5S P x c L with
   | (x', L', q) => ([x'], r, L', q)
 | .nil, l, L => ([], l, L, [])
 | .cons a b, l, L => match a0Z P a l L with
  | (l1, r, L1, q1) => match a0Z P b r L1 with
   | (l2, r2, L2, q2) => (l1 ++ l2, r2, L2, q1 ++ q2)
 | _, l, L => match l with
  | [] => ([], [], L, [])
  | x :: r => ([x], r, L, [])
def VG (P : Program) : VS → List TV → List TO → List TV × List TV × List TO × List (Nat × Nat)
 | .agg s, l, L => match l with
  | .agg xs :: r => match a0Z P s xs L with
   | (l1, r1, L1, q) => ([.agg (l1 ++ r1)], r, L1, q)
  | [] => ([], [], L, [])
  | x :: r => ([x], r, L, [])
 | .sl c, l, L => match l with
  | [] => ([], [], L, [])
  | x :: r => if isC x then (match a5S P x c L with
   | (x', L', q) => ([x'], r, L', q)) else ([x], r, L, [])
 | .nil, l, L => ([], l, L, [])
 | .cons a b, l, L => match VG P a l L with
  | (l1, r, L1, q1) => match VG P b r L1 with
   | (l2, r2, L2, q2) => (l1 ++ l2, r2, L2, q1 ++ q2)
 | _, l, L => match l with
  | [] => ([], [], L, [])
  | x :: r => ([x], r, L, [])
section
variable {P : Program} {γ : Pl} {h : Heap} {h0 : Heap} {W0 : Ent}
theorem FrzOk.refl {L : List TO} (H : Hp P h0 W0 γ (eL L) h) : FrzOk P h0 W0 γ L h L := ⟨H, Carry.refl _ _ _⟩
theorem FrzOk.trans {L L1 L2 : List TO} (a : FrzOk P h0 W0 γ L h L1) (b : FrzOk P h0 W0 γ L1 h L2) : FrzOk P h0 W0 γ L h L2 := ⟨b.1, a.2.trans' b.2⟩
theorem Uq {L : List TO} (H : Hp P h0 W0 γ (eL L) h) {x x' : TV} {c : CT} {v : Value} {L' : List TO} {q : List (Nat × Nat)} (hd : DC P (qd W0 γ (eL L) h) γ (eL L) h (qp x) v) (e : a5S P x c L = (x', L', q)) (hq : ∀ p ∈ q, p.1 = p.2) :
  FrzOk P h0 W0 γ L h L' ∧ DC P (qd W0 γ (eL L') h) γ (eL L') h (qp x') v := by
 unfold a5S at e
 split at e
 ·cases e
  refine ⟨.refl H, ?_⟩
  have : v = .slice none 0 0 := PR.scal (P := P) (S := qd W0 γ (eL L) h) (h := h) hd
  subst this
  exact PR.nil
 ·rename_i id lo n tot
  split at e
  ·rename_i c' te loc xs hL
   cases e
   have hi : (eL L)[id]? = some (.li (eo loc te xs.length) (xs.map (qF c'))) := qX hL
   obtain ⟨H', cc⟩ := VQ H hi
   rw [show (eL L).set id (.fz (eo loc te xs.length) (xs.map (qF c'))) = eL (L.set id (.fz c' te loc xs)) from (Z7 L id (.fz c' te loc xs)).symm] at H' cc
   exact ⟨⟨H', cc⟩, cc.dc hd⟩
  ·cases e; exact ⟨.refl H, hd⟩
 ·exact vi H hd e hq
theorem a7W : ∀ (s : VS) {L : List TO} {l l1 r : List TV} {vs : List Value} {L' : List TO} {q : List (Nat × Nat)}, Hp P h0 W0 γ (eL L) h → All2 (DC P (qd W0 γ (eL L) h) γ (eL L) h) (l.map qp) vs → a0Z P s l L = (l1, r, L', q) → (∀ p ∈ q, p.1 = p.2) →
  FrzOk P h0 W0 γ L h L' ∧ All2 (DC P (qd W0 γ (eL L') h) γ (eL L') h) ((l1 ++ r).map qp) vs := by
 intro s
 have other : ∀ {L : List TO} {l l1 r : List TV} {vs : List Value} {L' : List TO} {q : List (Nat × Nat)}, Hp P h0 W0 γ (eL L) h → All2 (DC P (qd W0 γ (eL L) h) γ (eL L) h) (l.map qp) vs → (match l with | [] => ([], [], L, []) | x :: r => ([x], r, L, []) : List TV × List TV × List TO × List (Nat × Nat)) = (l1, r, L', q) →
   FrzOk P h0 W0 γ L h L' ∧ All2 (DC P (qd W0 γ (eL L') h) γ (eL L') h) ((l1 ++ r).map qp) vs := by
  intro L l l1 r vs L' q H hd e
  cases l with
  | nil => cases e; exact ⟨.refl H, hd⟩
  | cons x l => cases e; exact ⟨.refl H, hd⟩
 induction s with
 | sl c =>
  intro L l l1 r vs L' q H hd e hq
  simp only [a0Z] at e
  cases l with
  | nil => cases e; exact ⟨.refl H, hd⟩
  | cons x l =>
   cases h1 : a5S P x c L with
   | mk x1 rest =>
    obtain ⟨L1, q1⟩ := rest
    simp only [h1] at e
    cases e
    cases hd with
    | cons hx ht =>
     obtain ⟨a, b⟩ := Uq H hx h1 hq
     exact ⟨a, .cons b (ht.mono fun _ _ => a.2.dc)⟩
 | nil =>
  intro L l l1 r vs L' q H hd e hq
  simp only [a0Z] at e
  cases e
  exact ⟨.refl H, hd⟩
 | cons a b iha ihb =>
  intro L l l1 r vs L' q H hd e hq
  simp only [a0Z] at e
  cases h1 : a0Z P a l L with
  | mk m1 rest1 =>
   obtain ⟨r1, L1, q1⟩ := rest1
   cases h2 : a0Z P b r1 L1 with
   | mk m2 rest2 =>
    obtain ⟨r2, L2, q2⟩ := rest2
    simp only [h1, h2] at e
    cases e
    obtain ⟨a1, a2⟩ := iha H hd h1 fun p hp => hq p (by simp [hp])
    rw [List.map_append] at a2
    obtain ⟨vs1, vs2, hv, c1, c2⟩ : ∃ vs1 vs2, vs = vs1 ++ vs2 ∧ All2 (DC P (qd W0 γ (eL L1) h) γ (eL L1) h) (m1.map qp) vs1 ∧ All2 (DC P (qd W0 γ (eL L1) h) γ (eL L1) h) (r1.map qp) vs2 := by
     refine ⟨vs.take (m1.map qp).length, vs.drop (m1.map qp).length, (List.take_append_drop _ _).symm, ?_, ?_⟩
     ·have := a2.take (m1.map qp).length
      simpa using this
     ·have := a2.drop (m1.map qp).length
      simpa using this
    subst hv
    obtain ⟨b1, b2⟩ := ihb a1.1 c2 h2 fun p hp => hq p (by simp [hp])
    refine ⟨a1.trans b1, ?_⟩
    rw [List.append_assoc, List.map_append]
    exact (c1.mono fun _ _ => b1.2.dc).append b2
 | _ => intro L l l1 r vs L' q H hd e hq; exact other H hd e
theorem a2v {S : Nat → Prop} {L : List Obj} {x : TV} {v : Value} (hc : isC x = true) : DR P S γ L h (enc x) v ↔ DC P S γ L h (qp x) v := by
 rw [Zs hc]
 cases x <;> first | exact Iff.rfl | cases hc
theorem ab4 {x x' : TV} {c : CT} {L L' : List TO} {q : List (Nat × Nat)} (hc : isC x = true) (e : a5S P x c L = (x', L', q)) : isC x' = true := by
 unfold a5S at e
 split at e
 ·cases e; rfl
 ·split at e <;> (cases e; rfl)
 ·unfold a61 at e
  split at e
  ·split at e
   ·split at e <;> (cases e; rfl)
   ·split at e <;> (cases e; rfl)
   ·cases e; rfl
  ·cases e; exact hc
theorem a7o : ∀ (s : VS) {L : List TO} {l l1 r : List TV} {vs : List Value} {L' : List TO} {q : List (Nat × Nat)}, Hp P h0 W0 γ (eL L) h → All2 (DR P (qd W0 γ (eL L) h) γ (eL L) h) (l.map enc) vs → VG P s l L = (l1, r, L', q) → (∀ p ∈ q, p.1 = p.2) →
  FrzOk P h0 W0 γ L h L' ∧ All2 (DR P (qd W0 γ (eL L') h) γ (eL L') h) ((l1 ++ r).map enc) vs := by
 intro s
 have other : ∀ {L : List TO} {l l1 r : List TV} {vs : List Value} {L' : List TO} {q : List (Nat × Nat)}, Hp P h0 W0 γ (eL L) h → All2 (DR P (qd W0 γ (eL L) h) γ (eL L) h) (l.map enc) vs → (match l with | [] => ([], [], L, []) | x :: r => ([x], r, L, []) : List TV × List TV × List TO × List (Nat × Nat)) = (l1, r, L', q) →
   FrzOk P h0 W0 γ L h L' ∧ All2 (DR P (qd W0 γ (eL L') h) γ (eL L') h) ((l1 ++ r).map enc) vs := by
  intro L l l1 r vs L' q H hd e
  cases l with
  | nil => cases e; exact ⟨.refl H, hd⟩
  | cons x l => cases e; exact ⟨.refl H, hd⟩
 induction s with
 | agg s _ =>
  intro L l l1 r vs L' q H hd e hq
  simp only [VG] at e
  split at e
  ·rename_i xs r'
   cases h1 : a0Z P s xs L with
   | mk m1 rest =>
    obtain ⟨r1, L1, q1⟩ := rest
    simp only [h1] at e
    cases e
    cases hd with
    | cons hx ht =>
     obtain ⟨us, rfl, hu⟩ := hx
     obtain ⟨a, b⟩ := a7W s H hu h1 hq
     exact ⟨a, .cons ⟨us, rfl, b⟩ (ht.mono fun _ _ => a.2.dr)⟩
  ·cases e; exact ⟨.refl H, hd⟩
  ·cases e; exact ⟨.refl H, hd⟩
 | sl c =>
  intro L l l1 r vs L' q H hd e hq
  simp only [VG] at e
  cases l with
  | nil => cases e; exact ⟨.refl H, hd⟩
  | cons x l =>
   simp only at e
   split at e
   ·rename_i hc
    cases h1 : a5S P x c L with
    | mk x1 rest =>
     obtain ⟨L1, q1⟩ := rest
     simp only [h1] at e
     cases e
     cases hd with
     | cons hx ht =>
      obtain ⟨a, b⟩ := Uq H ((a2v hc).1 hx) h1 hq
      exact ⟨a, .cons ((a2v (ab4 hc h1)).2 b) (ht.mono fun _ _ => a.2.dr)⟩
   ·cases e; exact ⟨.refl H, hd⟩
 | nil =>
  intro L l l1 r vs L' q H hd e hq
  simp only [VG] at e
  cases e
  exact ⟨.refl H, hd⟩
 | cons a b iha ihb =>
  intro L l l1 r vs L' q H hd e hq
  simp only [VG] at e
  cases h1 : VG P a l L with
  | mk m1 rest1 =>
   obtain ⟨r1, L1, q1⟩ := rest1
   cases h2 : VG P b r1 L1 with
   | mk m2 rest2 =>
    obtain ⟨r2, L2, q2⟩ := rest2
    simp only [h1, h2] at e
    cases e
    obtain ⟨a1, a2⟩ := iha H hd h1 fun p hp => hq p (by simp [hp])
    rw [List.map_append] at a2
    obtain ⟨vs1, vs2, hv, c1, c2⟩ : ∃ vs1 vs2, vs = vs1 ++ vs2 ∧ All2 (DR P (qd W0 γ (eL L1) h) γ (eL L1) h) (m1.map enc) vs1 ∧ All2 (DR P (qd W0 γ (eL L1) h) γ (eL L1) h) (r1.map enc) vs2 := by
     refine ⟨vs.take (m1.map enc).length, vs.drop (m1.map enc).length, (List.take_append_drop _ _).symm, ?_, ?_⟩
     ·have := a2.take (m1.map enc).length
      simpa using this
     ·have := a2.drop (m1.map enc).length
      simpa using this
    subst hv
    obtain ⟨b1, b2⟩ := ihb a1.1 c2 h2 fun p hp => hq p (by simp [hp])
    refine ⟨a1.trans b1, ?_⟩
    rw [List.append_assoc, List.map_append]
    exact (c1.mono fun _ _ => b1.2.dr).append b2
 | _ => intro L l l1 r vs L' q H hd e hq; exact other H hd e
end
def a2O (P : Program) (L : List TO) : (s : VS) → List TV → Bd → Option (s.T × List TV × Bd)
 | .sl c, l, B => match l with
  | .part id lo n tot :: r => match L[id]? with
   | some (.fz c' e _ xs) => if szT P e = some c.size then (if h : c'.eqb c = true then some ((List.drop lo (wz (CT.of_eqb h) xs)).take n, r, ⟨B.b, (xs.length, tot) :: B.eqs, B.used⟩) else none) else none
   | _ => none
  | .slx c' xs :: r => if h : c'.eqb c = true then some (wz (CT.of_eqb h) xs, r, B) else none
  | l => yh P L 0 (.sl c) l B
 | .agg s, l, B => match l with
  | .agg xs :: r => match yh P L 0 s xs B with
   | some (x, [], B') => some (x, r, B')
   | _ => none
  | _ => none
 | .cons a b, l, B => match a2O P L a l B with
  | some (x, l', B') => match a2O P L b l' B' with
   | some (y, l'', B'') => some (SP.mk x y, l'', B'')
   | none => none
  | none => none
 | s, l, B => yh P L 0 s l B
section
variable {P : Program} {L : List TO} {sel : Sel} {len : Nat → Nat}
theorem aaS {d' d : TV} (h : rC P L sel 0 d' d) : uL P (eL L) sel (enc d') (enc d) := by
 have h3 : Z3 sel (qp d') = some (qp d) := h.2.2
 rw [Zs h.1, Zs h.2.1]
 have hu : a3l sel (qp d') = some (qp d) := by
  have := vN h.1
  unfold a3l
  split
  ·rename_i q; exact absurd q (this.2 _)
  ·unfold XL
   split
   ·rename_i q; exact absurd q (this.1 _)
   ·exact h3
 unfold uL
 split
 ·rename_i h1 h2
  rw [h1] at h3
  have h4 : some (DV.p (.sl _ _)) = some (qp d) := h3
  rw [h2] at h4
  cases h4
 ·rename_i h1 h2
  rw [h1, h2] at h3
  cases h3
 ·rename_i h1 h2
  rw [h1, h2] at h3
  cases h3
 ·exact hu
theorem a7F (s : VS) : ∀ {l r : List TV} {B B' : Bd} {p : s.T}, a2O P L s l B = some (p, r, B') → B.le B' ∧ (WellB L sel len B' → ∃ l0, l = l0 ++ r ∧ All2 (fun d' d => uL P (eL L) sel (enc d') (enc d)) (s.ins id len p) l0) := by
 have base : ∀ (s : VS) {l r : List TV} {B B' : Bd} {p : s.T}, yh P L 0 s l B = some (p, r, B') → B.le B' ∧ (WellB L sel len B' → ∃ l0, l = l0 ++ r ∧ All2 (fun d' d => uL P (eL L) sel (enc d') (enc d)) (s.ins id len p) l0) := by
  intro s l r B B' p h
  obtain ⟨h1, h2⟩ := kJ (sel := sel) (len := len) 0 s h
  refine ⟨h1, fun g => ?_⟩
  obtain ⟨l0, e, q⟩ := h2 g
  exact ⟨l0, e, q.mono fun _ _ => aaS⟩
 induction s with
 | sl c =>
  intro l r B B' p h
  simp only [a2O] at h
  split at h
  ·rename_i id lo n tot r'
   split at h
   ·rename_i c' te loc xs hL
    split at h
    ·rename_i hz
     split at h
     ·rename_i hc
      have := CT.of_eqb hc
      subst this
      cases h
      refine ⟨⟨fun _ _ e => e, fun _ e => List.mem_cons_of_mem _ e, fun _ e => e, rfl⟩, fun g => ?_⟩
      have ht : xs.length = tot := g.eqs _ List.mem_cons_self
      refine ⟨[_], rfl, .cons ?_ .nil⟩
      show uL P (eL L) sel (.p (.sl _ _)) (.ref id lo n tot)
      refine ⟨⟨_, _, qX hL⟩, _, Qq hL ht, by rw [a2m, List.map_take, List.map_drop], by rw [qX hL]; exact U1 hz⟩
     ·cases h
    ·cases h
   ·cases h
  ·rename_i c' xs r'
   split at h
   ·rename_i hc
    have := CT.of_eqb hc
    subst this
    cases h
    exact ⟨Bd.le_refl _, fun g => ⟨[_], rfl, .cons (show uL P (eL L) sel (.p (.sl _ _)) (.cx _ _) from ⟨rfl, rfl⟩) .nil⟩⟩
   ·cases h
  ·exact base _ h
 | agg s _ =>
  intro l r B B' p h
  simp only [a2O] at h
  split at h
  ·rename_i xs r'
   split at h
   ·rename_i x B1 h1
    cases h
    obtain ⟨a1, a2⟩ := kJ (sel := sel) (len := len) 0 s h1
    refine ⟨a1, fun g => ?_⟩
    obtain ⟨l0, e, q⟩ := a2 g
    rw [List.append_nil] at e
    subst e
    have hu : QY sel ((s.ins id len p).map qp) = some (xs.map qp) := adZ (m := 0) (.inl rfl) q
    refine ⟨[_], rfl, .cons ?_ .nil⟩
    show a3l sel (.agg ((s.ins id len p).map qp)) = some (.agg (xs.map qp))
    show (QY sel ((s.ins id len p).map qp)).map DV.agg = _
    rw [hu]; rfl
   ·cases h
  ·cases h
 | cons a b iha ihb =>
  intro l r B B' p h
  simp only [a2O] at h
  split at h
  ·rename_i x l' B1 h1
   split at h
   ·rename_i y l'' B2 h2
    cases h
    obtain ⟨a1, a2⟩ := iha h1
    obtain ⟨b1, b2⟩ := ihb h2
    refine ⟨Bd.le_trans a1 b1, fun g => ?_⟩
    obtain ⟨m1, rfl, q1⟩ := a2 (g.le b1)
    obtain ⟨m2, rfl, q2⟩ := b2 g
    refine ⟨m1 ++ m2, by simp, ?_⟩
    show All2 _ (a.ins id len (SP.fst a.dfl (SP.mk x y)) ++ b.ins id len (SP.snd b.dfl (SP.mk x y))) _
    rw [SP.fst_mk fun q => VS.triv_dfl a q x, SP.snd_mk fun q => VS.triv_dfl b q y]
    exact q1.append q2
   ·cases h
  ·cases h
 | _ => intro l r B B' p h; exact base _ h
end
end Go.Sim
namespace Go.Sim
abbrev Y0_ : Type := List (Int × ((Int × Int) × (Int × (Int × (Int × Int)))))
abbrev Y1_ : CT := .pair (.int .i32) (.pair (.pair (.int .i32) (.int .i32)) (.pair (.int .u8) (.pair (.int .u8) (.pair (.int .u8) (.int .u8)))))
abbrev Y2_ : CT := .pair (.int .i64) (.pair (.pair (.int .i64) (.int .i64)) (.pair (.int .u8) (.pair (.int .u8) (.pair (.int .u8) (.int .u8)))))
abbrev Y3_ : Type := Int × (Int × Int)
abbrev Y4_ : VS := .cons (.int .i64) (.cons (.int .i64) (.cons (.own 1) (.int .i64)))
abbrev Y5_ : VS := .cons .bool (.cons .bool (.cons .bool (.cons (.int .i64) (.cons (.int .i64) (.cons (.int .i32) (.cons (.int .i32) (.cons (.int .i32) (.cons (.int .u8) (.cons (.int .u8) (.cons (.int .u8) (.cons (.int .u8) (.cons (.int .i32) (.cons (.int .i32) (.cons (.int .i32) (.cons (.int .u8) (.cons (.int .u8) (.cons (.int .u8) (.cons (.int .u8) (.cons (.int .i64) (.int .i64))))))))))))))))))))
abbrev Y6_ : Type := Bool × (Bool × (Bool × (Int × (Int × (Int × (Int × (Int × (Int × (Int × (Int × (Int × (Int × (Int × (Int × (Int × (Int × (Int × Y3_)))))))))))))))))
abbrev Y7_ : VS := .cons (.int .i64) (.int .i64)
abbrev Y8_ : VS := .cons (.int .u8) (.cons (.int .u8) (.int .u8))
abbrev Y9_ : Type := (List Y0_) × (Int × Int)
abbrev abV : VS := .cons .bool (.cons .bool (.cons .bool (.cons (.int .i64) (.cons (.int .i64) (.cons (.int .i64) (.cons (.int .i64) (.cons (.int .i64) (.cons (.int .u8) (.cons (.int .u8) (.cons (.int .u8) (.cons (.int .u8) (.cons (.int .i64) (.cons (.int .i64) (.cons (.int .i64) (.cons (.int .u8) (.cons (.int .u8) (.cons (.int .u8) (.cons (.int .u8) Y7_))))))))))))))))))
abbrev kL : VS := .cons (.sl (.sl Y2_)) Y7_
abbrev xA : VS := .cons (.int .i64) (.cons (.int .i64) (.cons (.int .i64) (.cons (.int .u8) Y8_)))
abbrev XC : VS := .cons (.int .i32) (.cons (.int .i32) (.cons (.int .i32) (.cons (.int .u8) Y8_)))
abbrev jm : Type := Y3_ × (List Y0_)
abbrev U3 : VS := .cons (.int .i64) (.cons (.int .i64) (.cons (.own 3) (.int .i64)))
abbrev Jd : Type := Int × (Int × (Int × (Int × Y3_)))
abbrev aaE : Type := List (Int × (Int × (Int × (Int × ((Int × ((Int × Int) × (Int × Y3_))) × (Int × (Y3_ × Y0_)))))))
abbrev Kh : Type := Y3_ × ((List Y0_) × jm)
abbrev aia : CT := .pair (.int .i64) (.pair (.int .i64) (.pair (.int .i64) (.pair (.int .i64) (.pair Y1_ (.pair (.int .i32) (.pair (.pair (.int .u8) (.pair (.int .u8) (.int .u8))) (.sl Y1_)))))))
abbrev a5U : Type := (Int × Int) × (List Y0_)
abbrev a6V : VS := .cons (.cst (.slice none 0 0)) Y7_
abbrev a2N : Type := List (Int × Int)
abbrev VX : Type := Y0_ × (Int × Int)
abbrev afq : Type := (a2N × Y3_) × (Y3_ × (Y9_ × (Y3_ × (Y9_ × ((List Y0_) × (List Y0_))))))
abbrev a5e : CT := .pair (.int .i64) (.int .i32)
abbrev a7M : VS := .cons (.int .i64) (.int .i32)
abbrev agl : VS := .cons (.int .i64) (.cons (.int .i64) (.agg Y8_))
abbrev ahR : VS := .cons (.ptr 0 0) (.cons (.ptr 1 0) (.cons (.ptr 2 0) (.int .i64)))
abbrev a6O : Type := (Int × Int) × a5U
abbrev acU : Type := Int × (a2N × (Int × Int))
abbrev acj : VS := .cons (.agg kL) .bool
abbrev aik : VS := .cons (.ptr 0 0) (.cons (.ptr 1 0) (.int .i64))
open Go.RowKit
def a0w : List (Option (Option Nat)) → Option (List Nat)
 | [] => some []
 | x :: r => match x, a0w r with
  | some (some y), some ys => some (y :: ys)
  | _, _ => none
theorem uO : ∀ {b : List (Option (Option Nat))} {l : List Nat}, a0w b = some l → ug b = some (l.map some)
 | [], l, h => by cases h; rfl
 | x :: r, l, h => by
  unfold a0w at h
  split at h
  ·rename_i y ys h1
   cases h
   unfold ug
   rw [uO h1]
   rfl
  ·cases h
theorem a9L (f g : Nat → Nat) : ∀ (os : List OS) (y : OS.Ts os) (k : Nat), stK os k = true ↔ ∃ c, (eL (OS.inss f g os y))[k]? = some (.st c)
 | [], y, k => by simp [stK, OS.inss, eL]
 | o :: r, y, k => by
  cases k with
  | zero => cases o <;> simp [stK, OS.inss, eL, OS.ins, ko, mpO]
  | succ k =>
   have := a9L f g r (SP.snd (OS.dfls r) y) k
   simp only [stK, List.getElem?_cons_succ] at this ⊢
   simpa [OS.inss, eL] using this
theorem All2.unmap {α β γ : Type} {R : α → β → Prop} {f : γ → α} : ∀ {l : List γ} {m : List β}, All2 R (l.map f) m → All2 (fun a b => R (f a) b) l m
 | [], _, .nil => .nil
 | x :: l, _, .cons h t => .cons h (All2.unmap t)
theorem All2.swap {α β : Type} {R : α → β → Prop} : ∀ {l : List α} {m : List β}, All2 R l m → All2 (fun b a => R a b) m l
 | _, _, .nil => .nil
 | _, _, .cons h t => .cons h t.swap
theorem All2.mapl {α β γ : Type} {R : α → β → Prop} {f : γ → α} : ∀ {l : List γ} {m : List β}, All2 (fun a b => R (f a) b) l m → All2 R (l.map f) m
 | _, _, .nil => .nil
 | _, _, .cons h t => .cons h t.mapl
def OS.live : OS → Bool
 | .dead => false
 | _ => true
theorem a6z (f g : Nat → Nat) : ∀ (os : List OS) (y : OS.Ts os), os.all OS.live = true → ∀ o' ∈ eL (OS.inss f g os y), o' ≠ .dead
 | [], y, _, o', h => by simp [OS.inss, eL] at h
 | o :: r, y, hl, o', h => by
  simp only [List.all_cons, Bool.and_eq_true] at hl
  have h' : o' = ko (o.ins f g (SP.fst o.dfl y)) ∨ o' ∈ eL (OS.inss f g r (SP.snd (OS.dfls r) y)) := by
   simpa [OS.inss, eL] using h
  rcases h' with rfl | h'
  ·cases o with
   | dead => cases hl.1
   | st s => intro q; cases q
   | li c e loc => intro q; cases q
   | mp es => intro q; cases q
  ·exact a6z f g r _ hl.2 o' h'
def a7y (P : Program) (e : TEnt) {R : Type} (ds : List TV) (L : List TO) (K : TV → List TO → Tree R) : Tree R :=
 match VG P e.av ds L with
 | (l1, r1, L1, q1) => match a2O P L1 e.av (l1 ++ r1) (bd0 0 e.os.length) with
  | some (x, [], B) => match a1p P L1 0 e.os 0 B with
   | some (y, B') => match a0w B'.b, B'.used with
    | some sel, [] => if a0o sel = true ∧ e.os.all OS.live = true then chk (q1 ++ B'.eqs) (Wx (e.m (ShT.mk x y)) fun r => a6D e.rs r fun ρ w =>
      if ρ.1.fitT ρ.2.length = true ∧ ρ.2.all (OS.fit ρ.2.length) = true ∧ sel.length ≤ ρ.2.length then
       (match ρ.1.ins (a84 e.os sel L1.length ρ.2.length) (OS.lens ρ.2 w.o) w.v with
       | [v] => K v (J2 e.os sel (OS.inss (a84 e.os sel L1.length ρ.2.length) (OS.lens ρ.2 w.o) ρ.2 w.o) L1)
       | _ => .fail) else .fail) else .fail
    | _, _ => .fail
   | none => .fail
  | _ => .fail
def wrG (P : Program) (e : TEnt) (ds : List TV) (L : List TO) : List Nat :=
 match VG P e.av ds L with
 | (l1, r1, L1, _) => match a2O P L1 e.av (l1 ++ r1) (bd0 0 e.os.length) with
  | some (_, [], B) => match a1p P L1 0 e.os 0 B with
   | some (_, B') => (a0w B'.b).getD []
   | none => []
  | _ => []
theorem a3B {P : Program} {e : TEnt} (he : qu P e) {R : Type} {ds : List TV} {L : List TO} {K : TV → List TO → Tree R} {z : R} (hz : (a7y P e ds L K).run = some z) {h0 : Heap} {W0 : Ent} {γ : Pl} {h : Heap} {vs : List Value} (H : Hp P h0 W0 γ (eL L) h) (hr : All2 (DR P (qd W0 γ (eL L) h) γ (eL L) h) (ds.map enc) vs) :
  ADoes P e.f vs h (fun v h' => Aft P h0 W0 γ (eL L) h (KT K z) v h' ∧ VKept γ L h h' (wrG P e ds L)) := by
 obtain ⟨f, av, os, rs, m⟩ := e
 unfold a7y at hz
 cases hp : VG P av ds L with
 | mk l1 rest =>
  obtain ⟨r1, L1, q1⟩ := rest
  simp only [hp] at hz
  split at hz
  ·rename_i x B h1
   split at hz
   ·rename_i y B' h2
    split at hz
    ·rename_i sel hsel hu
     split at hz
     ·rename_i hnd
      replace hz := zK hz; obtain ⟨hq, hz⟩ := hz
      replace hz := ke hz; obtain ⟨r, h3, hz⟩ := hz
      replace hz := YX hz; obtain ⟨ρ, w, h4, h5⟩ := hz
      obtain ⟨⟨H1, c1⟩, hr1⟩ := a7o av H hr hp fun p hp => hq p (by simp [hp])
      have hnd' := KC hnd.1
      have hwr : wrG P ⟨f, av, os, rs, m⟩ ds L = sel := by
       unfold wrG
       simp only [hp, h1, h2, hsel]
       rfl
      rw [hwr]
      have s1 := uO hsel
      obtain ⟨s5, s6⟩ := VZ s1
      obtain ⟨a1, a2⟩ := a7F (P := P) (L := L1) (sel := sel.map some) (len := OS.lens os y) av h1
      obtain ⟨b1, b2, b3⟩ := YV (sel := sel.map some) (.inl rfl) os h2
      have hlen : B'.b.length = os.length := by rw [b1.2.2.2, a1.2.2.2, a9N]
      have hsl : sel.length = os.length := by rw [← hlen, ← s5, List.length_map]
      have ok : WellB L1 (sel.map some) (OS.lens os y) B' := by
       refine ⟨fun k x e => (s6 k x).1 e, fun p hp => hq p (by simp [hp]), fun i hi => (by rw [hu] at hi; simp at hi), fun k id n e ht => ?_, fun k e => ?_⟩
       ·have hk : k < os.length := by rw [← hlen, ← s5]; exact (List.getElem?_eq_some_iff.1 e).1
        obtain ⟨x, c1, c2, c3⟩ := b2 k hk
        rw [Nat.zero_add] at c1
        have := (s6 k x).1 c1
        rw [e] at this; cases this
        exact c2 id n rfl ht
       ·have hk : k < os.length := by rw [← hlen, ← s5]; exact (List.getElem?_eq_some_iff.1 e).1
        obtain ⟨x, c1, c2, c3⟩ := b2 k hk
        rw [Nat.zero_add] at c1
        have := (s6 k x).1 c1
        rw [e] at this; cases this
        exact c3 rfl
      obtain ⟨l0, e0, hargs⟩ := a2 (ok.le b1)
      rw [List.append_nil] at e0
      have hvals : ShT.vals (ShT.mk x y : ShT av os) = av.ins id (OS.lens os y) x := by unfold ShT.vals; rw [ShT.v_mk, ShT.o_mk]
      have hobjs : ShT.objs (ShT.mk x y : ShT av os) = OS.inss id (OS.lens os y) os y := by unfold ShT.objs; rw [ShT.o_mk]
      have hoo : All2 (oOk L1 (sel.map some) 0) (sel.map some) (OS.inss id (OS.lens os y) os y) := by
       refine All2.of_get (by rw [QM, List.length_map, hsl]) fun i s o' e1 e2 => ?_
       obtain ⟨s', c1, c2⟩ := b3 _ ok i o' e2
       rw [Nat.zero_add, e1] at c1
       cases c1
       exact c2
      have hA : All2 (fun o' (i : Nat) => ∃ o, (eL L1)[i]? = some o ∧ YU (sel.map some) o' o) (eL (OS.inss id (OS.lens os y) os y)) sel := by
       refine All2.mapl (All2.swap ((All2.unmap hoo).mono fun i o' h => ?_))
       obtain ⟨o, e1, e2⟩ := h
       exact ⟨ko o, qX e1, e2⟩
      have hlt : ∀ i ∈ sel, i < L1.length := fun i hi => by
       obtain ⟨k, hk⟩ := List.mem_iff_getElem?.1 hi
       obtain ⟨o', _, o, e1, _⟩ := hA.get' hk
       have := (List.getElem?_eq_some_iff.1 e1).1
       rwa [zA] at this
      have hst : ∀ k, stK os k = true → k < sel.length := fun k q => by
       rw [hsl]
       unfold stK at q
       split at q
       ·rename_i h6; exact (List.getElem?_eq_some_iff.1 h6).1
       ·cases q
      have hd := he (ShT.mk x y) r h3
      simp only at hd
      rw [hvals, hobjs] at hd
      subst e0
      have hW : DCallWF P f ((l1 ++ r1).map enc) (eL L1) sel (KT K z) := by
       refine a7O sel hd hnd' hA (All2.maps (f := enc) (g := enc) (R' := uL P (eL L1) (sel.map some)) (fun _ _ q => q) hargs) fun d A' hq' => ?_
       obtain ⟨v, b4, rfl, rfl⟩ := h5 d A' hq'
       split at h4
       ·rename_i hfit
        obtain ⟨f1, f2, f3⟩ := hfit
        have hb : ∀ k, k < ρ.2.length → (Q7 os sel ρ.2.length L1)[a84 os sel L1.length ρ.2.length k]? = some (some k) := fun k hk => adL hnd' rfl hlt hst hk
        have hnl : (OS.inss (a84 os sel L1.length ρ.2.length) (OS.lens ρ.2 w.o) ρ.2 w.o).length = ρ.2.length := QM _ _ _ _
        have hex := afU (len := OS.lens ρ.2 w.o) hb ρ.1 w.v f1
        have hob := a9Y (len := OS.lens ρ.2 w.o) hb ρ.2 w.o f2
        have M := aeF (P := P) (L := L1) (os := os) (sel := sel) (new := OS.inss (a84 os sel L1.length ρ.2.length) (OS.lens ρ.2 w.o) ρ.2 w.o) (A := eL (OS.inss id (OS.lens os y) os y)) (A' := eL (ShT.objs w)) (old := ShT.objs w) hnd' hlt hst (a9L _ _ _ _) (by rw [hnl]; exact f3) rfl (by rw [hnl]; exact hob)
        rw [hnl] at M
        split at h4
        ·rename_i v' hv'
         rw [hv'] at hex
         have b4' : ρ.1.ins id (OS.lens ρ.2 w.o) w.v = [v] := b4
         rw [b4'] at hex
         cases hex with
         | cons hx t =>
          exact ⟨_, _, _, M, hx, _, _, rfl, rfl, h4⟩
        ·cases h4
       ·cases h4
      refine (hW h0 W0 γ h vs H1 hr1).mono ?_
      rintro v h' ⟨⟨γ', d, L', hK, H2, c2, hd2⟩, hfr⟩
      refine ⟨⟨γ', d, L', hK, H2, c1.trans' c2, hd2⟩, fun id b hg hst' hid => ?_⟩
      obtain ⟨g1, c0, s1⟩ := c1.st id b hg hst'
      refine hfr b (OR.lt (fun b hb => hb.1) (H1.obj id _ s1) g1 rfl).1 fun i hi x hgi => ?_
      have hne : i ≠ id := fun q => hid (q ▸ hi)
      obtain ⟨k, hk⟩ := List.mem_iff_getElem?.1 hi
      obtain ⟨o', ho', o, e1, e2⟩ := hA.get' hk
      have hdead := a6z _ _ os y hnd.2 o' (List.mem_of_getElem? ho')
      cases o with
      | st c => exact hne (H1.inj i id _ _ b x 0 e1 s1 rfl rfl hgi g1)
      | li te rows =>
       cases te with
       | none => have := (H1.obj i _ e1).2; rw [hgi] at this; cases this
       | some te => exact hne (H1.inj i id _ _ b x 0 e1 s1 rfl rfl hgi g1)
      | fz te rows =>
       cases te with
       | none => have := (H1.obj i _ e1).2; rw [hgi] at this; cases this
       | some te =>
        obtain ⟨b', o2, g2, f2, _⟩ := H1.obj i _ e1
        rw [hgi] at g2; cases g2
        exact f2.2.2 id _ 0 s1 rfl g1
      | mp es => cases o' <;> exact e2.elim
      | dead =>
       cases o' with
       | dead => exact hdead rfl
       | st c => exact e2.elim
       | li te rows => exact e2.elim
       | fz te rows => exact e2.elim
       | mp es => exact e2.elim
     ·cases hz
    ·cases hz
   ·cases hz
  ·cases hz
def ahg (P : Program) (e : TEnt) (k : FuncId) (ds : List TV) (L : List TO) : Bool := e.f == k && (if e.os.isEmpty && adD e.rs then (match a1g P L 2 e.av ds (bd0 0 e.os.length) with
  | some (_, [], _) => true
  | _ => false) else (match VG P e.av ds L with
  | (l1, r1, L1, _) => match a2O P L1 e.av (l1 ++ r1) (bd0 0 e.os.length) with
   | some (_, [], B) => (match a1p P L1 0 e.os 0 B with
    | some _ => true
    | none => false)
   | _ => false))
def a3D (P : Program) : List TEnt → (R : Type) → yc R
 | [], _ => fun _ _ _ _ => .fail
 | e :: r, R => fun k ds L K => match ahg P e k ds L with
  | true => if e.os.isEmpty && adD e.rs then a8F P e ds L K else a7y P e ds L K
  | false => a3D P r R k ds L K
def wrs (P : Program) : List TEnt → FuncId → List TV → List TO → List Nat
 | [], _, _, _ => []
 | e :: r, k, ds, L => match ahg P e k ds L with
  | true => if e.os.isEmpty && adD e.rs then [] else wrG P e ds L
  | false => wrs P r k ds L
theorem a1L {P : Program} : ∀ {tab : List TEnt}, (∀ e ∈ tab, qu P e) → ∀ R : Type, TCallOk P (a3D P tab R) (wrs P tab)
 | [], _, R => fun k ds L K z h => by cases h
 | e :: r, ht, R => fun k ds L K z h h0 W0 γ hh vs H hr => by
  unfold a3D at h
  unfold wrs
  split at h
  ·rename_i hf
   have hk : e.f = k := by
    unfold ahg at hf
    simp only [Bool.and_eq_true, beq_iff_eq] at hf
    exact hf.1
   subst hk
   try simp only [hf]
   split at h
   ·rename_i hc
    rw [if_pos hc]
    simp only [Bool.and_eq_true, List.isEmpty_iff] at hc
    refine (a3q (ht e List.mem_cons_self) hc.1 h h0 W0 γ hh vs H hr).mono fun v h' q => ⟨q.1, fun id b hg hs _ => q.2 b (af9 H hg hs) fun i hi => by simp at hi⟩
   ·rename_i hc
    rw [if_neg hc]
    exact a3B (ht e List.mem_cons_self) h H hr
  ·rename_i hf
   try simp only [hf]
   exact a1L (fun e he => ht e (List.mem_cons_of_mem _ he)) R k ds L K z h h0 W0 γ hh vs H hr
noncomputable def a91 (P : Program) (R : Type) (call : ∀ R : Type, yc R) (wr : FuncId → List TV → List TO → List Nat) (k : FuncId) (ds : List TV) (L : List TO) (K : TV → List TO → Tree R) : Tree R :=
 match abo P k ds.length with
 | true => af8 ⟨P, a7c P 12, call, wr, fun _ => none, fun _ => none, fun _ => 70⟩ k ds L K
 | false => .fail
theorem a2B {P : Program} {R : Type} {call : ∀ R : Type, yc R} {wr : FuncId → List TV → List TO → List Nat} (hcall : ∀ R : Type, TCallOk P (call R) wr) {k : FuncId} {ds : List TV} {L : List TO} {K : TV → List TO → Tree R} {z : R} (e : (a91 P R call wr k ds L K).run = some z) :
  ∀ h0 W0 γ h vs, Hp P h0 W0 γ (eL L) h → All2 (DR P (qd W0 γ (eL L) h) γ (eL L) h) (ds.map enc) vs → ADoes P k vs h (Aft P h0 W0 γ (eL L) h (KT K z)) := by
 intro h0 W0 γ h vs H hr
 unfold a91 at e
 split at e
 case h_2 => cases e
 rename_i hfn
 unfold af8 at e
 replace e := q8 e; obtain ⟨fn, hf, e⟩ := e
 simp only at hf e
 unfold abo at hfn
 rw [hf] at hfn
 simp only [Bool.and_eq_true, Bool.not_eq_true', decide_eq_true_eq] at hfn
 obtain ⟨⟨h1, h3⟩, h4⟩ := hfn
 let W1 : Ent := { W0 with cnt := L.length, few := fun id b e => by have := H.dom id _ (H.pin id b e).1; rwa [zA] at this }
 have H1 : Hp P h0 W1 γ (eL L) h := ⟨H.start, H.pin, H.obj, H.inj, H.dom, H.new, H.next, H.frame⟩
 cases hbd : fn.body with
 | none => rw [hbd] at h1; cases h1
 | some c =>
  have hb : UG fn = c := by simp [UG, hbd]
  rw [hb] at e
  have hlen : vs.length ≤ fn.ntmps := by rw [← hr.length]; simpa using h4
  refine ADoes.of (Vy (Q := Aft P h0 W0 γ (eL L) h (KT K z)) hf hbd rfl rfl h3 hlen (Ji ?_))
  have hE : EnvOk ⟨P, a7c P 12, call, wr, fun _ => none, fun _ => none, fun _ => 70⟩ := ⟨fun p S q => (by cases q), hcall, fun p S q => (by cases q)⟩
  have hx : ab1 ⟨P, a7c P 12, call, wr, fun _ => none, fun _ => none, fun _ => 70⟩ h0 W1 ⟨True, γ, eL L, h⟩ (xOf P c .nil) := (z7 (B := ⟨True, γ, eL L, h⟩) hE (fun _ => ⟨fun _ => rfl, fun _ => rfl⟩) _).1
  have hF : FR P W1 γ (eL L) h (zO ⟨fn.ntmps, L.length, QC 0 ds⟩) ⟨fn.ntmps, kN 0 vs⟩ := ⟨rfl, rfl, fun t d e => JJ 0 hr t d (by rw [← uP]; exact e)⟩
  refine hx (z := z) ?_ ⟨H1, fun _ => Carry.refl _ _ _⟩ hF e
  rintro e fa h' ⟨a, L', γ', hq, ⟨H', cc⟩, hf'⟩
  have fin : (a45 P a L' fn.results.toList fun ds => ql (a1R ds) fun d => K d L').run = some z → ∃ vs, za P fa h' fn.results.toList = some vs ∧ Aft P h0 W0 γ (eL L) h (KT K z) (yd vs) h' := by
   intro hq
   obtain ⟨ds', e1, hq⟩ := vT hq
   replace hq := q8 hq; obtain ⟨d, e2, hq⟩ := hq
   obtain ⟨vs', e3, r3⟩ := QO H' hf' e1
   have c := cc trivial
   exact ⟨vs', e3, γ', enc d, eL L', ⟨d, L', rfl, rfl, hq⟩, ⟨H'.start, H'.pin, H'.obj, H'.inj, H'.dom, H'.new, H'.next, H'.frame⟩, ⟨c.free, c.len, c.st, c.mp, c.li⟩, a0f r3 (a28 e2)⟩
  cases e with
  | normal => exact fin hq
  | ret => exact fin hq
  | exit id => cases hq
  | goto l => cases hq
  | panic c => cases hq
  | outgrown => cases hq
def a2T (P : Program) (tab : List TEnt) (k : FuncId) (ds : List TV) (L : List TO) : Bool := tab.any fun e => ahg P e k ds L
def ah5 (P : Program) (tab : List TEnt) (k : FuncId) (ds : List TV) (L : List TO) : List Nat := match a2T P tab k ds L with
 | true => wrs P tab k ds L
 | false => List.range L.length
noncomputable def XS (P : Program) (tab : List TEnt) : Nat → (R : Type) → yc R
 | 0, _ => fun _ _ _ _ => .fail
 | n + 1, R => fun k ds L K => match a2T P tab k ds L with
  | true => a3D P tab R k ds L K
  | false => a91 P R (XS P tab n) (ah5 P tab) k ds L K
theorem UZ {P : Program} {tab : List TEnt} (ht : ∀ e ∈ tab, qu P e) : ∀ (n : Nat) (R : Type), TCallOk P (XS P tab n R) (ah5 P tab)
 | 0, R => fun k ds L K z e => by cases e
 | n + 1, R => fun k ds L K z e h0 W0 γ h vs H hr => by
  unfold XS at e
  unfold ah5
  cases hf : a2T P tab k ds L with
  | true =>
   simp only [hf] at e ⊢
   exact a1L ht R k ds L K z e h0 W0 γ h vs H hr
  | false =>
   simp only [hf] at e ⊢
   refine (a2B (fun R => UZ ht n R) e h0 W0 γ h vs H hr).mono fun v h' q => ⟨q, fun id b hg hs hid => absurd ?_ hid⟩
   obtain ⟨c, hc⟩ := hs
   have := (List.getElem?_eq_some_iff.1 hc).1
   rw [zA] at this
   exact List.mem_range.2 this
def XT (P : Program) (c : Nat) : List (Nat × List Nat × VS × List OS) → Nat → Option Shp
 | [], _ => none
 | (p, keys, vs, os) :: r, q => if p = q then some (ahz P c keys vs os) else XT P c r q
theorem a03 {P : Program} {c : Nat} : ∀ {l : List (Nat × List Nat × VS × List OS)} {q : Nat} {S : Shp}, XT P c l q = some S → a1J P S
 | [], q, S, h => by cases h
 | (p, keys, vs, os) :: r, q, S, h => by
  unfold XT at h
  split at h
  ·cases h; exact adW _ _ _ _ _
  ·exact a03 h
def u0 (P : Program) (c : Nat) : List (Nat × List Nat × VS × List OS) → Nat → Option Shp
 | [], _ => none
 | (p, keys, vs, os) :: r, q => if p = q then some (ajl P c keys vs os) else u0 P c r q
theorem Uf {P : Program} {c : Nat} : ∀ {l : List (Nat × List Nat × VS × List OS)} {q : Nat} {S : Shp}, u0 P c l q = some S → afJ P S
 | [], q, S, h => by cases h
 | (p, keys, vs, os) :: r, q, S, h => by
  unfold u0 at h
  split at h
  ·cases h; exact agx _ _ _ _ _
  ·exact Uf h
abbrev Shs := List (Nat × List Nat × VS × List OS)
def aju (un : List Nat) (p : Nat) : Nat := if un.contains p then 70 else 0
noncomputable def ahn (P : Program) (tab : List TEnt) (c : Nat) (loops joins : Shs) (un : List Nat) : TEnv := ⟨P, a7c P 12, XS P tab 8, ah5 P tab, XT P c loops, u0 P c joins, aju un⟩
theorem aiE {P : Program} {tab : List TEnt} {c : Nat} {loops joins : Shs} {un : List Nat} (ht : ∀ e ∈ tab, qu P e) : EnvOk (ahn P tab c loops joins un) := ⟨fun _ _ h => Uf h, UZ ht 8, fun _ _ h => a03 h⟩
theorem qh {P : Program} {tab : List TEnt} {loops joins : Shs} {un : List Nat} {f : FuncId} {av : VS} {os : List OS} {rs : List RSh} (m : ShT av os → Option (RT rs)) (ht : ∀ e ∈ tab, qu P e) (hm : ∀ p, a33 (ahn P tab os.length loops joins un) f av os rs p = m p) (hf : abo P f (av.ins id (fun _ => 0) av.dfl).length = true) : qu P ⟨f, av, os, rs, m⟩ :=
 ahO (aiE ht) m hm hf
end Go.Sim
set_option maxRecDepth 100000
namespace Go.Sim
theorem ahj {n : Int} (h1 : 0 ≤ n) (h2 : n < 256) : IntKind.u8.wrap n = n := by
 unfold IntKind.wrap
 simp only [IntKind.bits, IntKind.signed, Bool.false_and]
 simp
 omega
theorem ag3 {σ T : Type} {step : σ → Option (σ ⊕ T)} {s s' : σ} (h : step s = some (.inl s')) : qT step s = qT step s' := by rw [uI, h]
theorem agb {σ T : Type} {step : σ → Option (σ ⊕ T)} {s : σ} {t : T} (h : step s = some (.inr t)) : qT step s = some t := by rw [uI, h]
def unr {σ T : Type} (x : Option (σ ⊕ T)) (f : σ → Option T) : Option T := match x with
 | some (.inl s) => f s
 | some (.inr t) => some t
 | none => none
@[simp] theorem z6 {σ T : Type} (s : σ) (f : σ → Option T) : unr (some (.inl s)) f = f s := rfl
@[simp] theorem zC {σ T : Type} (t : T) (f : σ → Option T) : unr (some (.inr t)) f = some t := rfl
theorem jW {σ T : Type} (step : σ → Option (σ ⊕ T)) (s : σ) : qT step s = unr (step s) (qT step) := by rw [uI]; rfl
theorem zk {σ T : Type} {step : σ → Option (σ ⊕ T)} (st : Nat → σ) {n : Nat} {t : T} (h : ∀ i, i < n → step (st i) = some (.inl (st (i + 1)))) (he : step (st n) = some (.inr t)) : ∀ i, i ≤ n → qT step (st i) = some t := by
 intro i hi
 obtain ⟨k, hk⟩ : ∃ k, k = n - i := ⟨_, rfl⟩
 induction k generalizing i with
 | zero => rw [show i = n by omega]; exact agb he
 | succ k ih => rw [ag3 (h i (by omega))]; exact ih (i + 1) (by omega) (by omega)
theorem q9 {n : Int} (h1 : -9223372036854775808 ≤ n) (h2 : n < 9223372036854775808) : IntKind.i64.wrap n = n := by
 unfold IntKind.wrap
 simp only [IntKind.bits, IntKind.signed, Bool.true_and]
 by_cases h : 0 ≤ n
 ·have : n % 2 ^ 64 = n := by omega
  simp [this]
  omega
 ·have : n % 2 ^ 64 = n + 18446744073709551616 := by omega
  simp [this]
  omega
theorem a9Q {n : Int} (h1 : 0 ≤ n) (h2 : n < 256) : IntKind.u8.wrap n = n := ahj h1 h2
theorem qe {p : Prop} {i : Decidable p} (h : p) : @decide p i = true := decide_eq_true h
theorem qk {p : Prop} {i : Decidable p} (h : ¬ p) : @decide p i = false := decide_eq_false h
theorem ze {a b : Int} (h : a = b) : (a == b) = true := beq_iff_eq.2 h
theorem qL {a b : Int} (h : a ≠ b) : (a == b) = false := beq_eq_false_iff_ne.2 h
theorem aaq {a b : Int} (h : a ≠ b) : (a != b) = true := bne_iff_ne.2 h
theorem uR {a b : Int} (h : a = b) : (a != b) = false := by rw [h]; exact bne_self_eq_false _
theorem XN {α : Type} {l : List α} {i : Nat} {x : α} (h : l[i]? = some x) : l.drop i = x :: l.drop (i + 1) := by
 obtain ⟨hlt, rfl⟩ := List.getElem?_eq_some_iff.1 h
 rw [List.drop_eq_getElem_cons hlt]
theorem kn {α : Type} {l : List α} {i : Nat} {x : α} (h : l[i]? = some x) : l.take (i + 1) = l.take i ++ [x] := by rw [List.take_add_one, h]; rfl
theorem qm {α : Type} {l : List α} {i : Nat} (h : i < l.length) : ∃ x, l[i]? = some x := ⟨_, List.getElem?_eq_getElem h⟩
end Go.Sim
