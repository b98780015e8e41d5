/- Scopes with jumps. -/
import Derived.Test.YtonejeaomblpiaaGreatA19
import Derived.Scope
set_option linter.unusedSimpArgs false
set_option linter.unusedVariables false
set_option linter.defProp false
namespace Go.Sim
open Go.RowKit

theorem stepR_scope {P : Program} {b : Frame} {a : Act} {k : List Item} {cs : List Frame} {w : World} {c : Code} : step P (lone (b.atR a (.code (.scope c) :: k)) cs w) = .next (lone (b.atR a (.code c :: .inScope c :: k)) cs w) :=
  step_lone_go (by simp [stepG, stepG.exec, Frame.atR])
theorem stepR_inScope {P : Program} {b : Frame} {a : Act} {k : List Item} {cs : List Frame} {w : World} {c : Code} : step P (lone (b.atR a (.inScope c :: k)) cs w) = .next (lone (b.atR a k) cs w) :=
  step_lone_go (by simp [stepG, stepG.exec, Frame.atR])
/-- From a place in a scope. -/
def SWp (P : Program) (c r : Code) (Q : Exit → Frm → Heap → Prop) (a : Frm) (h : Heap) : Prop := Runs P [.code r, .inScope c] Q a h
def goQ (P : Program) (c : Code) (Q : Exit → Frm → Heap → Prop) : Exit → Frm → Heap → Prop
  | .goto l, a, h => ∃ rest, findLabel c l = some rest ∧ SWp P c rest Q a h
  | e, a, h => Q e a h
theorem swp_round {P : Program} {c r : Code} {Q : Exit → Frm → Heap → Prop} {a : Frm} {h : Heap} (hc : AWp P r (goQ P c Q) a h) : SWp P c r Q a h := by
  intro ro D β m w ha hr ok b k cs hb
  obtain ⟨e, m1, w1, ⟨a1, h1, β1, D1, ra, rr, st, q⟩, harr⟩ := hc ro D β m w ha hr ok b (.inScope c :: k) cs hb trivial (room_wd _ _)
  cases e with
  | normal => exact ⟨.normal, m1, w1, ⟨a1, h1, β1, D1, ra, rr, st, q⟩, StepsIn.trans harr (.one (fenced_wd _ _ _) stepR_inScope)⟩
  | exit id => exact ⟨.exit id, m1, w1, ⟨a1, h1, β1, D1, ra, rr, st, q⟩, fun k' hk => harr.1 k' (by simp [exitTo, hk]), fun hr hk => harr.2 hr (by simp [exitTo, hk])⟩
  | goto l =>
    obtain ⟨rest, hf, q⟩ := q
    have hg : gotoIn l (.inScope c :: k) = some (.code rest :: .inScope c :: k) := by simp [gotoIn, hf]
    obtain ⟨e2, m2, w2, x2, harr2⟩ := q ro D1 β1 m1 w1 ra rr (ok.step st.st) b k cs hb
    exact ⟨e2, m2, w2, x2.trans hr rr st, .of_steps (harr.1 _ hg) harr2⟩
  | ret => exact ⟨_, m1, w1, ⟨a1, h1, β1, D1, ra, rr, st, q⟩, harr⟩
  | panic ch => exact ⟨_, m1, w1, ⟨a1, h1, β1, D1, ra, rr, st, q⟩, harr⟩
  | outgrown => exact ⟨_, m1, w1, ⟨a1, h1, β1, D1, ra, rr, st, q⟩, harr⟩
theorem swp_scope {P : Program} {c : Code} {Q : Exit → Frm → Heap → Prop} {a : Frm} {h : Heap} (hc : SWp P c c Q a h) : AWp P (.scope c) Q a h := by
  intro ro D β m w ha hr ok b k cs hb _ _
  obtain ⟨e, m', w', hq, harr⟩ := hc ro D β m w ha hr ok b k cs hb
  exact ⟨e, m', w', hq, .of_steps (.one (fenced_wd _ _ _) stepR_scope) harr⟩

/-- States at the labels: for each label its slots and what holds; a measure that every jump lowers. -/
theorem scope_x {P : Program} {Q : Exit → Frm → Heap → Prop} {h : Heap} {x labs : X} {σ : Type} {n : Nat} {s : List Fx} {a : Frm} (F : σ → List (Nat × Value)) (I : Nat → σ → Heap → Prop) (μ : Nat → σ → Nat)
    (first : xHold P x (sx P (.scope (fun l a h => ∃ y, Has n (F y) a ∧ I l y h) :: s) Q) a h)
    (pass : ∀ l y h, I l y h → ∃ z, labX l labs = some z ∧ xHold P z (sx P (.scope (fun l' a' h' => ∃ y', (Has n (F y') a' ∧ I l' y' h') ∧ μ l' y' < μ l y) :: s) Q) ⟨n, F y⟩ h) : scopeW P x labs (sx P s Q) a h := by
  intro c hx hl
  subst hx hl
  have find : ∀ l y, labX l (xLab P c .nil .nil) = some y → ∃ rest, findLabel c l = some rest ∧ y = xOf P rest .nil := by
    intro l y hy
    cases hf : findLabel c l with
    | none =>
      rw [(xLab_find P l c .nil .nil).2 hf] at hy
      cases hy
    | some rest =>
      rw [(xLab_find P l c .nil .nil).1 rest hf] at hy
      cases hy
      exact ⟨rest, rfl, rfl⟩
  have key : ∀ m l y a h, μ l y = m → Has n (F y) a → I l y h → ∃ rest, findLabel c l = some rest ∧ SWp P c rest (sx P s Q) a h := by
    intro m
    induction m using Nat.strongRecOn with
    | _ m ih =>
      intro l y a h hm hF hI
      obtain ⟨z, hz, hp⟩ := pass l y h hI
      obtain ⟨rest, hf, rfl⟩ := find l z hz
      refine ⟨rest, hf, swp_round ?_⟩
      refine AWp.weaken (a' := ⟨n, F y⟩) hF.1.symm (fun t v e => hF.2 (t, v) (look_mem _ t v e)) ((xOf_nil hp).mono fun e a' h' q => ?_)
      cases e <;> first
        | (obtain ⟨y', ⟨k1, k2⟩, k3⟩ := q; exact ih _ (hm ▸ k3) _ _ _ _ rfl k1 k2)
        | exact q
  refine swp_scope (swp_round ((xOf_nil first).mono fun e a' h' q => ?_))
  cases e <;> first
    | (obtain ⟨y', k1, k2⟩ := q; exact key _ _ _ _ _ rfl k1 k2)
    | exact q
theorem guardOf_undef (w : Bool) : guardOf (some undef) w = some false := rfl
attribute [push_cast] guardOf_undef
end Go.Sim
