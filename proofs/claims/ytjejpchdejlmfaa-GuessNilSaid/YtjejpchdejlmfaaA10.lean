/- Code: the rules of the abstract logic. -/
import Derived.Test.YtjejpchdejlmfaaA9
set_option linter.unusedSimpArgs false
set_option linter.unusedVariables false
set_option linter.defProp false
namespace Go.Sim
open Go.RowKit

def AWp (P : Program) (c : Code) (Q : Exit → Frm → Heap → Prop) (a : Frm) (h : Heap) : Prop :=
  ∀ β m w, ARel β a m → Rel P β h w → c.wp P (fun e m' w' => ∃ a' h' β', ARel β' a' m' ∧ Rel P β' h' w' ∧ Step β h w β' h' w' ∧ Q e a' h') m w

section
variable {P : Program} {Q Q' : Exit → Frm → Heap → Prop} {a : Frm} {h : Heap}

theorem AWp.mono {c : Code} (hc : AWp P c Q a h) (hq : ∀ e a h, Q e a h → Q' e a h) : AWp P c Q' a h :=
  fun β m w ha hr => Code.wp_mono (fun e m' w' ⟨a', h', β', x, y, z, q⟩ => ⟨a', h', β', x, y, z, hq _ _ _ q⟩) (hc β m w ha hr)
theorem AWp.weaken {c : Code} {a' : Frm} (hn : a'.n = a.n) (hl : ∀ t v, a'.get t = some v → a.get t = some v) (hc : AWp P c Q a' h) : AWp P c Q a h :=
  fun β m w ha hr => hc β m w (ha.weaken hn hl) hr

/-- What holds behind the first part. -/
def thenQ (K : Frm → Heap → Prop) (Q : Exit → Frm → Heap → Prop) : Exit → Frm → Heap → Prop
  | .normal, a, h => K a h
  | e, a, h => Q e a h
def blockQ (id : Nat) (Q : Exit → Frm → Heap → Prop) : Exit → Frm → Heap → Prop
  | .exit id', a, h => if id' = id then Q .normal a h else Q (.exit id') a h
  | e, a, h => Q e a h

theorem awp_skip (hq : Q .normal a h) : AWp P .skip Q a h := fun β m w ha hr => wp_skip ⟨a, h, β, ha, hr, Step.refl _ _ _, hq⟩
theorem awp_label {l : Nat} (hq : Q .normal a h) : AWp P (.label l) Q a h := fun β m w ha hr => wp_label ⟨a, h, β, ha, hr, Step.refl _ _ _, hq⟩
theorem awp_exit {id : Nat} (hq : Q (.exit id) a h) : AWp P (.exit id) Q a h := fun β m w ha hr => wp_exit ⟨a, h, β, ha, hr, Step.refl _ _ _, hq⟩
theorem awp_goto {l : Nat} (hq : Q (.goto l) a h) : AWp P (.goto l) Q a h := fun β m w ha hr => wp_goto ⟨a, h, β, ha, hr, Step.refl _ _ _, hq⟩
theorem awp_ret (hq : Q .ret a h) : AWp P .ret Q a h := fun β m w ha hr => wp_ret ⟨a, h, β, ha, hr, Step.refl _ _ _, hq⟩

theorem awp_seq {x y : Code} (hx : AWp P x (thenQ (fun a h => AWp P y Q a h) Q) a h) : AWp P (.seq x y) Q a h := by
  intro β m w ha hr
  refine wp_seq (Code.wp_mono (fun e m' w' => ?_) (hx β m w ha hr))
  rintro ⟨a', h', β', ra, rr, st, q⟩
  cases e <;> first
    | exact Code.wp_mono (fun e2 m2 w2 ⟨a2, h2, β2, ra2, rr2, st2, q2⟩ => ⟨a2, h2, β2, ra2, rr2, st.trans hr st2, q2⟩) (q β' m' w' ra rr)
    | exact ⟨a', h', β', ra, rr, st, q⟩
theorem awp_seq_k {x y : Code} (hx : ∀ K : Frm → Heap → Prop, (∀ a h, AWp P y Q a h → K a h) → AWp P x (thenQ K Q) a h) : AWp P (.seq x y) Q a h :=
  awp_seq (hx _ fun _ _ q => q)

theorem awp_cond {c : Operand} {x y : Code} {t : Bool} (hc : a.ev c = some (.bool t)) (ht : t = true → AWp P x Q a h) (hf : t = false → AWp P y Q a h) : AWp P (.cond c x y) Q a h := by
  intro β m w ha hr
  have := ha.rho c _ hc
  generalize hm : m.eval c = mv at this
  cases this
  cases t
  · exact wp_cond hm (hf rfl β m w ha hr)
  · exact wp_cond hm (ht rfl β m w ha hr)

theorem awp_block {id : Nat} {c : Code} (hc : AWp P c (blockQ id Q) a h) : AWp P (.block id c) Q a h := by
  intro β m w ha hr
  refine wp_block (Code.wp_mono (fun e m' w' => ?_) (hc β m w ha hr))
  rintro ⟨a', h', β', ra, rr, st, q⟩
  cases e with
  | exit id' =>
    simp only [Exit.inBlock]
    simp only [blockQ] at q
    split at q
    · rename_i hi; rw [if_pos hi]; exact ⟨a', h', β', ra, rr, st, q⟩
    · rename_i hi; rw [if_neg hi]; exact ⟨a', h', β', ra, rr, st, q⟩
  | _ => exact ⟨a', h', β', ra, rr, st, q⟩

theorem awp_loop {c : Code} (I : Frm → Heap → Prop) (μ : Frm → Heap → Nat) (h0 : I a h)
    (round : ∀ a h, I a h → AWp P c (thenQ (fun a' h' => I a' h' ∧ μ a' h' < μ a h) Q) a h) : AWp P (.loop c) Q a h := by
  intro β m w ha hr b k cs
  have key : ∀ n a h β m w, μ a h = n → I a h → ARel β a m → Rel P β h w →
      ∃ e m' w', (∃ a' h' β', ARel β' a' m' ∧ Rel P β' h' w' ∧ Step β h w β' h' w' ∧ Q e a' h') ∧ Arrives P (lone (b.at m (.code c :: .inLoop c :: k)) cs w) b k cs e m' w' := by
    intro n
    induction n using Nat.strongRecOn with
    | _ n ih =>
      intro a h β m w hn hI ha hr
      obtain ⟨e, m1, w1, ⟨a1, h1, β1, ra, rr, st, q⟩, harr⟩ := round a h hI β m w ha hr b (.inLoop c :: k) cs
      cases e with
      | normal =>
        obtain ⟨hI1, hlt⟩ := q
        obtain ⟨e2, m2, w2, ⟨a2, h2, β2, ra2, rr2, st2, q2⟩, harr2⟩ := ih (μ a1 h1) (hn ▸ hlt) a1 h1 β1 m1 w1 rfl hI1 ra rr
        exact ⟨e2, m2, w2, ⟨a2, h2, β2, ra2, rr2, st.trans hr st2, q2⟩, .of_steps (Steps.trans harr (.one step_inLoop)) harr2⟩
      | exit id => exact ⟨_, m1, w1, ⟨a1, h1, β1, ra, rr, st, q⟩, .pass (x := .inLoop c) rfl (fun _ _ => .inl (by simp)) harr⟩
      | goto l => exact ⟨_, m1, w1, ⟨a1, h1, β1, ra, rr, st, q⟩, .pass (x := .inLoop c) rfl (fun _ _ => .inl (by simp)) harr⟩
      | ret => exact ⟨_, m1, w1, ⟨a1, h1, β1, ra, rr, st, q⟩, .pass (x := .inLoop c) rfl (fun _ _ => .inl (by simp)) harr⟩
      | panic ch => exact ⟨_, m1, w1, ⟨a1, h1, β1, ra, rr, st, q⟩, .pass (x := .inLoop c) rfl (fun _ _ => .inl (by simp)) harr⟩
      | outgrown => exact ⟨_, m1, w1, ⟨a1, h1, β1, ra, rr, st, q⟩, .pass (x := .inLoop c) rfl (fun _ _ => .inl (by simp)) harr⟩
  obtain ⟨e, m', w', hq, harr⟩ := key _ a h β m w rfl h0 ha hr
  exact ⟨e, m', w', hq, .of_steps (.one step_loop) harr⟩

/-! ### Regions in the text's order -/
/-- Is an operation to be done? none: that isn't known. -/
def wantedV (ops : Array Oper) (o : Oper) (a : Frm) : Option Bool :=
  match o.guard with
  | none => some true
  | some (g, want) =>
    match (ops[g]?).bind (·.dst) with
    | some t => match a.get t with
      | some (.bool b) => some (b == want)
      | _ => none
    | none => none

theorem wantedV_sound {β : Place} {ops : Array Oper} {o : Oper} {m : Act} {b : Bool} (ha : ARel β a m) (hw : wantedV ops o a = some b) : Region.wanted o (yielded ops m.tmps) = b := by
  unfold wantedV at hw
  unfold Region.wanted
  split at hw
  · rename_i hg; cases hw; simp [hg]
  · rename_i g want hg
    simp only [hg]
    split at hw
    · rename_i t ht
      split at hw
      · rename_i c hc
        cases hw
        obtain ⟨mv, e, r⟩ := ha.rel t _ hc
        cases r
        simp [yielded, ht, e]
      · cases hw
    · cases hw

def listWp (P : Program) (ops : Array Oper) : List Oper → (Frm → Heap → Prop) → Frm → Heap → Prop
  | [], K, a, h => K a h
  | o :: r, K, a, h =>
    match wantedV ops o a with
    | some true => opWp P o.op a.ev h (fun v h' => listWp P ops r K (a.put o.dst v) h')
    | some false => listWp P ops r K (a.put o.dst undef) h
    | none => False

theorem listWp_sound {ops : Array Oper} {K : Frm → Heap → Prop} {R : Exit → Act → World → Prop} : ∀ (l : List Oper) {a : Frm} {h : Heap} {β : Place} {m : Act} {w : World}, ARel β a m → Rel P β h w → listWp P ops l K a h →
    (∀ a' h' β' m' w', K a' h' → ARel β' a' m' → Rel P β' h' w' → Step β h w β' h' w' → R .normal m' w') → wpList P ops R l m w
  | [], a, h, β, m, w, ha, hr, hl, hR => hR a h β m w hl ha hr (Step.refl _ _ _)
  | o :: r, a, h, β, m, w, ha, hr, hl, hR => by
    unfold listWp at hl
    unfold wpList
    split at hl
    · rename_i hw
      rw [if_pos (wantedV_sound ha hw)]
      refine .inl (opWp_sound ha.rho hr hl ?_)
      intro v h' β' mv w' hK hv hr' st
      exact listWp_sound r ((ha.mono st.place).put hv o.dst) hr' hK fun a2 h2 β2 m2 w2 k x y z => hR a2 h2 β2 m2 w2 k x y (st.trans hr z)
    · rename_i hw
      rw [if_neg (by rw [wantedV_sound ha hw]; simp)]
      exact listWp_sound r (ha.put VRel.undef o.dst) hr hl hR
    · cases hl

theorem awp_region {id : Nat} {ops : Array Oper} (hl : listWp P ops ops.toList (fun a h => Q .normal a h) a h) : AWp P (.region id ops false) Q a h :=
  fun β m w ha hr => wp_region_list (listWp_sound ops.toList ha hr hl fun a' h' β' m' w' q x y z => ⟨a', h', β', x, y, z, q⟩)

/-! ### Functions -/
def resultV (P : Program) (a : Frm) (h : Heap) : ResultVar → Option Value
  | .tmp t => a.get t
  | .cell p t => match a.get p with
    | some v => loadV P t h v
    | none => none
def resultsV (P : Program) (a : Frm) (h : Heap) : List ResultVar → Option (List Value)
  | [] => some []
  | x :: r => match resultV P a h x, resultsV P a h r with
    | some v, some vs => some (v :: vs)
    | _, _ => none
def packV : List Value → Value
  | [v] => v
  | vs => .tuple vs.toArray

def resOf (tmps : Array Value) : ResultVar → Sem Value
  | .tmp t => pure (tmps.getD t undef)
  | .cell a t => do loadVar t (← asAddr (tmps.getD a undef))
theorem results_eq (fn : Func) (tmps : Array Value) : results fn tmps = (do let vs ← fn.results.mapM (resOf tmps); pure (if h : vs.size = 1 then vs[0] else .tuple vs)) := by
  unfold results
  congr 1

theorem results_sound {β : Place} {w : World} {m : Act} {fn : Func} {vs : List Value} (ha : ARel β a m) (hr : Rel P β h w) (hv : resultsV P a h fn.results.toList = some vs) :
    ∃ mv, (results fn m.tmps).run P w = .ok mv w ∧ VRel β (packV vs) mv := by
  have one : ∀ (x : ResultVar) (v : Value), resultV P a h x = some v → ∃ mv, (resOf m.tmps x).run P w = .ok mv w ∧ VRel β v mv := by
    intro x v hx
    cases x with
    | tmp t =>
      obtain ⟨mv, e, r⟩ := ha.rel t v hx
      exact ⟨mv, by simp [resOf, e], r⟩
    | cell p t =>
      simp only [resultV] at hx
      split at hx
      · rename_i q hq
        obtain ⟨mq, e, r⟩ := ha.rel p q hq
        obtain ⟨mv, e2, r2⟩ := loadV_sound hr r hx
        refine ⟨mv, ?_, r2⟩
        have : ∃ ad, mq = .pointer (some ad) := by
          unfold loadV at hx
          split at hx
          · obtain ⟨m', s', _, rfl⟩ := r.ptr_inv; exact ⟨_, rfl⟩
          · cases hx
        obtain ⟨ad, rfl⟩ := this
        have e3 : m.tmps.getD p undef = .pointer (some ad) := by simp [e]
        simp only [resOf, e3, asAddr, Sem.run_bind, Sem.run_pure, Result.andThen_ok]
        simpa [Instr.loadAt, Instr.sureAddr] using e2
      · cases hx
  have all : ∀ (l : List ResultVar) (vs : List Value), resultsV P a h l = some vs → ∃ ms, (l.mapM (resOf m.tmps)).run P w = .ok ms w ∧ VRels β vs ms := by
    intro l
    induction l with
    | nil => intro vs e; simp [resultsV] at e; subst e; exact ⟨[], by simp, .nil⟩
    | cons x l ih =>
      intro vs e
      unfold resultsV at e
      split at e
      · rename_i v vs' e1 e2
        cases e
        obtain ⟨mv, r1, q1⟩ := one x v e1
        obtain ⟨ms, r2, q2⟩ := ih vs' e2
        refine ⟨mv :: ms, ?_, .cons q1 q2⟩
        simp only [List.mapM_cons, Sem.run_bind, r1, r2, Result.andThen_ok, Sem.run_pure]
      · cases e
  obtain ⟨ms, e, r⟩ := all _ vs hv
  have e' : (fn.results.mapM (resOf m.tmps)).run P w = .ok ms.toArray w := by
    rw [Array.mapM_eq_mapM_toList, Sem.run_map, e]
    rfl
  refine ⟨_, by rw [results_eq, Sem.run_bind, e']; rfl, ?_⟩
  have hlen := r.length
  cases r with
  | nil => simp [packV]; exact VRel.undef
  | cons h1 t1 =>
    cases t1 with
    | nil => simpa [packV] using h1
    | cons h2 t2 =>
      simp [packV]
      exact VRel.tuple_iff.2 ⟨_, rfl, by simpa using VRels.cons h1 (.cons h2 t2)⟩

/-- What a body is to end in. -/
def bodyQ (P : Program) (rs : List ResultVar) (Q : Value → Heap → Prop) : Exit → Frm → Heap → Prop
  | .normal, a, h => ∃ vs, resultsV P a h rs = some vs ∧ Q (packV vs) h
  | .ret, a, h => ∃ vs, resultsV P a h rs = some vs ∧ Q (packV vs) h
  | _, _, _ => False

/-- Arguments as slots. -/
def argSlots : Nat → List Value → List (Nat × Value)
  | _, [] => []
  | k, v :: vs => (k, v) :: argSlots (k + 1) vs
theorem look_argSlots : ∀ (vs : List Value) (k t : Nat) (v : Value), look t (argSlots k vs) = some v → k ≤ t ∧ vs[t - k]? = some v
  | [], k, t, v, h => by simp [argSlots, look] at h
  | u :: vs, k, t, v, h => by
    simp only [argSlots, look] at h
    split at h
    · rename_i e; subst e; cases h; exact ⟨Nat.le_refl _, by simp⟩
    · rename_i e
      obtain ⟨h1, h2⟩ := look_argSlots vs (k + 1) t v h
      refine ⟨by omega, ?_⟩
      have : t - k = (t - (k + 1)) + 1 := by omega
      rw [this]
      simpa using h2

theorem acalls_intro {f : FuncId} {fn : Func} {c : Code} {n : Nat} {rs : List ResultVar} {args : List Value} {Q : Value → Heap → Prop} (hf : P.funcs[f]? = some fn) (hb : fn.body = some c) (hn : fn.ntmps = n) (hrs : fn.results.toList = rs)
    (hname : (fn.name == "runtime.NumGoroutine") = false) (hle : args.length ≤ n) (hbody : AWp P c (bodyQ P rs Q) ⟨n, argSlots 0 args⟩ h) : ACalls P f args h Q := by
  refine ⟨⟨fn, hf, by simp [hb], hname⟩, fun β w ms hv hr => calls_of_wp hf hb ?_⟩
  have hlen := hv.length
  have ha : ARel β ⟨n, argSlots 0 args⟩ { tmps := ms.toArray ++ Array.replicate (fn.ntmps - ms.toArray.size) undef, defers := [] } := by
    refine ⟨rfl, by simp [hn]; omega, fun t v e => ?_⟩
    obtain ⟨_, h2⟩ := look_argSlots args 0 t v e
    obtain ⟨mv, e1, r⟩ := hv.get (i := t) (v := v) (by simpa using h2)
    refine ⟨mv, ?_, r⟩
    have hlt : t < ms.length := (List.getElem?_eq_some_iff.1 e1).1
    rw [Array.getElem?_append_left (by simpa using hlt)]
    simpa using e1
  refine Code.wp_mono (fun e m' w' => ?_) (hbody β _ w ha hr)
  rintro ⟨a', h', β', ra, rr, st, q⟩
  cases e with
  | normal =>
    obtain ⟨vs, e1, q⟩ := q
    subst hrs
    obtain ⟨mv, e2, r⟩ := results_sound ra rr e1
    exact ⟨ra.defers, mv, e2, mv, rfl, _, h', β', r, rr, st, q⟩
  | ret =>
    obtain ⟨vs, e1, q⟩ := q
    subst hrs
    obtain ⟨mv, e2, r⟩ := results_sound ra rr e1
    exact ⟨ra.defers, mv, e2, mv, rfl, _, h', β', r, rr, st, q⟩
  | exit id => exact q.elim
  | goto l => exact q.elim
  | panic c => exact q.elim
  | outgrown => exact q.elim
end
end Go.Sim
