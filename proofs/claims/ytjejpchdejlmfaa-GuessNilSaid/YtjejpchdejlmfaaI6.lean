/- Code, reckoned: regions that draw, jobs, functions. -/
import Derived.Test.YtjejpchdejlmfaaI5
import Derived.Scope
set_option linter.unusedSimpArgs false
set_option linter.unusedVariables false
set_option linter.defProp false
namespace Go.Sim
open Go.RowKit

/-! ### Regions that draw -/
def eqOV : Option Value → Option Value → Bool
  | some a, some b => valEq a b
  | _, _ => false
theorem eqOV_sound {x y : Option Value} (h : eqOV x y = true) : y.isSome = true ∧ x = y := by
  unfold eqOV at h
  split at h
  · rw [valEq_sound _ _ h]; exact ⟨rfl, rfl⟩
  · cases h
def chkB (P : Program) (c : C) (a : Frm) (h : Heap) : Bool :=
  match c.g with
  | none => eqOV (readV P c.op a.ev h) (slotV a c.d)
  | some (t, want) => match guardV t want a with
    | some false => true
    | _ => eqOV (readV P c.op a.ev h) (slotV a c.d)
theorem chkB_sound {P : Program} {c : C} {a : Frm} {h : Heap} (q : chkB P c a h = true) : chkF P c a h := by
  unfold chkB at q
  unfold chkF
  split at q
  · rename_i hg; rw [hg]; exact eqOV_sound q
  · rename_i t want hg
    rw [hg]
    simp only
    split at q
    · rename_i hv; exact .inl hv
    · exact .inr (eqOV_sound q)
def chksB (P : Program) (a : Frm) (h : Heap) : List C → Bool
  | [] => true
  | c :: r => chkB P c a h && chksB P a h r
theorem chksB_sound {P : Program} {a : Frm} {h : Heap} : ∀ {l : List C}, chksB P a h l = true → chkAll P a h l
  | [], _ => trivial
  | _ :: _, q => by
    simp only [chksB, Bool.and_eq_true] at q
    exact ⟨chkB_sound q.1, chksB_sound q.2⟩
def runD (P : Program) (call : CallX) : List (C × List C) → FX → FX
  | [], K, a, p => K a p
  | (c, ks) :: r, K, a, p => runC P call [c] (fun a p => chksB P a p.heap ks && runD P call r K a p) a p
theorem runD_sound {P : Program} {call : CallX} (hc : CallOk P call) : ∀ (l : List (C × List C)) {K : FX} {K' : Frm → Heap → Prop} {a : Frm} {p : PH}, (∀ a p, K a p = true → K' a p.heap) → runD P call l K a p = true → dWp P l K' a p.heap
  | [], K, K', a, p, hk, h => hk a p h
  | (c, ks) :: r, K, K', a, p, hk, h => runC_sound hc [c] (fun a p q => by
      rw [Bool.and_eq_true] at q
      exact ⟨chksB_sound q.1, runD_sound hc r hk q.2⟩) h

/-! ### Rules of the logic: a loop's round, a scope -/
def LWp (P : Program) (c : Code) (Q : Exit → Frm → Heap → Prop) (a : Frm) (h : Heap) : Prop :=
  ∀ β m w, ARel β a m → Rel P β h w → ∀ b k cs, ∃ e m' w', (∃ a' h' β', ARel β' a' m' ∧ Rel P β' h' w' ∧ Step β h w β' h' w' ∧ Q e a' h') ∧ Arrives P (lone (b.at m (.code c :: .inLoop c :: k)) cs w) b k cs e m' w'
theorem lwp_round {P : Program} {c : Code} {Q : Exit → Frm → Heap → Prop} {a : Frm} {h : Heap} (hc : AWp P c (thenQ (fun a h => LWp P c Q a h) Q) a h) : LWp P c Q a h := by
  intro β m w ha hr b k cs
  obtain ⟨e, m1, w1, ⟨a1, h1, β1, ra, rr, st, q⟩, harr⟩ := hc β m w ha hr b (.inLoop c :: k) cs
  cases e with
  | normal =>
    obtain ⟨e2, m2, w2, ⟨a2, h2, β2, ra2, rr2, st2, q2⟩, harr2⟩ := q β1 m1 w1 ra rr b k cs
    exact ⟨e2, m2, w2, ⟨a2, h2, β2, ra2, rr2, st.trans hr st2, q2⟩, .of_steps (Steps.trans harr (.one step_inLoop)) harr2⟩
  | exit id => exact ⟨_, m1, w1, ⟨a1, h1, β1, ra, rr, st, q⟩, .pass (x := .inLoop c) rfl (fun _ _ => .inl (by simp)) harr⟩
  | goto l => exact ⟨_, m1, w1, ⟨a1, h1, β1, ra, rr, st, q⟩, .pass (x := .inLoop c) rfl (fun _ _ => .inl (by simp)) harr⟩
  | ret => exact ⟨_, m1, w1, ⟨a1, h1, β1, ra, rr, st, q⟩, .pass (x := .inLoop c) rfl (fun _ _ => .inl (by simp)) harr⟩
  | panic ch => exact ⟨_, m1, w1, ⟨a1, h1, β1, ra, rr, st, q⟩, .pass (x := .inLoop c) rfl (fun _ _ => .inl (by simp)) harr⟩
  | outgrown => exact ⟨_, m1, w1, ⟨a1, h1, β1, ra, rr, st, q⟩, .pass (x := .inLoop c) rfl (fun _ _ => .inl (by simp)) harr⟩
theorem lwp_loop {P : Program} {c : Code} {Q : Exit → Frm → Heap → Prop} {a : Frm} {h : Heap} (hc : LWp P c Q a h) : AWp P (.loop c) Q a h := by
  intro β m w ha hr b k cs
  obtain ⟨e, m', w', hq, harr⟩ := hc β m w ha hr b k cs
  exact ⟨e, m', w', hq, .of_steps (.one step_loop) harr⟩
def nogo (Q : Exit → Frm → Heap → Prop) : Exit → Frm → Heap → Prop
  | .goto _, _, _ => False
  | e, a, h => Q e a h
theorem awp_scope {P : Program} {c : Code} {Q : Exit → Frm → Heap → Prop} {a : Frm} {h : Heap} (hc : AWp P c (nogo Q) a h) : AWp P (.scope c) Q a h := by
  intro β m w ha hr
  refine wp_scope_straight (Code.wp_mono (fun e m' w' => ?_) (hc β m w ha hr))
  rintro ⟨a', h', β', ra, rr, st, q⟩
  cases e <;> first
    | exact q.elim
    | exact ⟨a', h', β', ra, rr, st, q⟩

/-! ### Jobs -/
inductive Jb where
  | k (x : X)
  | block (id : Nat)
  | loop (x : X)
  | scope
def fq (P : Program) : List Jb → (Exit → Frm → Heap → Prop) → Exit → Frm → Heap → Prop
  | [], Q => Q
  | .k y :: s, Q => thenQ (fun a h => xWp P y (fq P s Q) a h) (fq P s Q)
  | .block id :: s, Q => blockQ id (fq P s Q)
  | .loop x :: s, Q => thenQ (fun a h => ∀ c, xOf P c .nil = x → LWp P c (fq P s Q) a h) (fq P s Q)
  | .scope :: s, Q => nogo (fq P s Q)
def popTo (id : Nat) : List Jb → Option (List Jb)
  | [] => none
  | .block id' :: s => if id = id' then some s else popTo id s
  | .k _ :: s => popTo id s
  | .loop _ :: s => popTo id s
  | .scope :: s => popTo id s
theorem popTo_sound {P : Program} {id : Nat} {Q : Exit → Frm → Heap → Prop} {a : Frm} {h : Heap} : ∀ {s s' : List Jb}, popTo id s = some s' → fq P s' Q .normal a h → fq P s Q (.exit id) a h
  | [], _, e, _ => by cases e
  | .block id' :: s, s', e, q => by
    simp only [popTo] at e
    simp only [fq, blockQ]
    by_cases hi : id = id'
    · rw [if_pos hi] at e ⊢; cases e; exact q
    · rw [if_neg hi] at e ⊢; exact popTo_sound e q
  | .k _ :: s, s', e, q => by simp only [popTo] at e; exact popTo_sound (s := s) e q
  | .loop _ :: s, s', e, q => by simp only [popTo] at e; exact popTo_sound (s := s) e q
  | .scope :: s, s', e, q => by simp only [popTo] at e; exact popTo_sound (s := s) e q
theorem fq_ret {P : Program} {Q : Exit → Frm → Heap → Prop} {a : Frm} {h : Heap} (q : Q .ret a h) : ∀ (s : List Jb), fq P s Q .ret a h
  | [] => q
  | .block _ :: s => fq_ret q s
  | .k _ :: s => fq_ret q s
  | .loop _ :: s => fq_ret q s
  | .scope :: s => fq_ret q s

abbrev EX := X → List Jb → Frm → PH → FX → Bool
def callX (P : Program) (ih : EX) : CallX := fun f args p K =>
  match P.funcs[f]? with
  | some fn => match fn.body with
    | some c => !(fn.name == "runtime.NumGoroutine") && decide (args.length ≤ fn.ntmps) && ih (xOf P c .nil) [] ⟨fn.ntmps, argSlots 0 args⟩ p (fun a p => match resultsV P a p.heap fn.results.toList with
      | some vs => K (packV vs) p
      | none => false)
    | none => false
  | none => false
def stepX (P : Program) (call : CallX) (ih : EX) : EX
  | .nil, s, a, p, K => match s with
    | [] => K a p
    | .k y :: s => ih y s a p K
    | .block _ :: s => ih .nil s a p K
    | .loop x :: s => ih x (.loop x :: s) a p K
    | .scope :: s => ih .nil s a p K
  | .ret, _, a, p, K => K a p
  | .exit id, s, a, p, K => match popTo id s with
    | some s => ih .nil s a p K
    | none => false
  | .goto _, _, _, _, _ => false
  | .bad, _, _, _, _ => false
  | .reg L k, s, a, p, K => runC P call L (fun a p => ih k s a p K) a p
  | .draw L k, s, a, p, K => runD P call L (fun a p => ih k s a p K) a p
  | .cond c x y k, s, a, p, K => match a.ev c with
    | some (.bool true) => ih x (.k k :: s) a p K
    | some (.bool false) => ih y (.k k :: s) a p K
    | _ => false
  | .block id x k, s, a, p, K => ih x (.block id :: .k k :: s) a p K
  | .loop x k, s, a, p, K => ih x (.loop x :: .k k :: s) a p K
  | .scope x k, s, a, p, K => ih x (.scope :: .k k :: s) a p K
  | .label _ k, s, a, p, K => ih k s a p K
  | .range _ _ _ _ _, _, _, _, _ => false
def execX (P : Program) : Nat → EX
  | 0 => fun _ _ _ _ _ => false
  | n + 1 => fun x s a p K => stepX P (callX P (execX P n)) (execX P n) x s a p K

def ExOk (P : Program) (ih : EX) : Prop := ∀ {x s a p K} {Q : Exit → Frm → Heap → Prop}, (∀ a p, K a p = true → Q .normal a p.heap ∧ Q .ret a p.heap) → ih x s a p K = true → xWp P x (fq P s Q) a p.heap
theorem callX_sound {P : Program} {ih : EX} (hi : ExOk P ih) : CallOk P (callX P ih) := by
  intro f args p K h
  unfold callX at h
  split at h
  · rename_i fn hf
    split at h
    · rename_i c hb
      simp only [Bool.and_eq_true, Bool.not_eq_true', decide_eq_true_eq] at h
      obtain ⟨⟨h1, h2⟩, h3⟩ := h
      refine acalls_intro hf hb rfl rfl h1 h2 (xOf_nil (hi (s := []) (fun a p q => ?_) h3))
      split at q
      · rename_i vs hv
        exact ⟨⟨vs, hv, p, rfl, q⟩, ⟨vs, hv, p, rfl, q⟩⟩
      · cases q
    · cases h
  · cases h
theorem stepX_sound {P : Program} {call : CallX} {ih : EX} (hc : CallOk P call) (hi : ExOk P ih) : ExOk P (stepX P call ih) := by
  intro x s a p K Q hk h
  cases x with
  | nil =>
    simp only [stepX] at h
    show fq P s Q .normal a p.heap
    split at h
    · exact (hk _ _ h).1
    · exact hi hk h
    · exact hi (s := _) hk h
    · rename_i x s
      intro c hx
      subst hx
      refine lwp_round ((xOf_nil (hi hk h)).mono fun e a h q => ?_)
      cases e <;> first
        | exact q c rfl
        | exact q
    · exact hi (s := _) hk h
  | ret => exact fq_ret (hk _ _ h).2 s
  | exit id =>
    simp only [stepX] at h
    split at h
    · rename_i s' hs
      exact popTo_sound hs (hi (s := s') hk h)
    · cases h
  | goto l => cases h
  | bad => cases h
  | reg L k => exact runC_sound hc L (fun a p q => hi hk q) h
  | draw L k => exact runD_sound hc L (fun a p q => hi hk q) h
  | cond c x y k =>
    simp only [stepX] at h
    show condWp _ _ _
    split at h
    · rename_i hv; rw [hv]; exact ⟨fun _ => hi (s := .k k :: s) hk h, fun e => (by cases e)⟩
    · rename_i hv; rw [hv]; exact ⟨fun e => (by cases e), fun _ => hi (s := .k k :: s) hk h⟩
    · cases h
  | block id x k => exact hi (s := .block id :: .k k :: s) hk h
  | loop x k =>
    intro c hx
    subst hx
    have q := hi (s := .loop _ :: .k k :: s) hk h
    refine lwp_loop (lwp_round ((xOf_nil q).mono fun e a h q => ?_))
    cases e <;> first
      | exact q c rfl
      | exact q
  | scope x k =>
    intro c hx
    have q := hi (s := .scope :: .k k :: s) hk h
    exact awp_scope (xOf_nil (hx ▸ q))
  | label l k => exact hi (x := k) hk h
  | range _ _ _ _ _ => cases h
theorem execX_sound {P : Program} : ∀ n, ExOk P (execX P n)
  | 0 => fun _ h => by cases h
  | n + 1 => fun hk h => stepX_sound (callX_sound (execX_sound n)) (execX_sound n) hk h

theorem reckon {P : Program} {n : Nat} {f : FuncId} {args : List Value} {p : PH} {K : KX} (h : callX P (execX P n) f args p K = true) : ACalls P f args p.heap (up K) := callX_sound (execX_sound n) f args p K h
end Go.Sim
