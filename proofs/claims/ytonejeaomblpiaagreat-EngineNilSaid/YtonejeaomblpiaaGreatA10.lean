/- Code: the rules of the abstract logic. -/
import Derived.Test.YtonejeaomblpiaaGreatA9
set_option linter.unusedSimpArgs false
set_option linter.unusedVariables false
set_option linter.defProp false
namespace Go.Sim
open Go.RowKit

/-- A round's frame: its loop's record is there. -/
def RoOk (ro : Option Nat) (w : World) : Prop := ∀ l, ro = some l → ∃ r : Loop, w.heap[l]? = some (.loop r)
theorem RoOk.step {ro : Option Nat} {β β' : Place} {h h' : Heap} {w w' : World} (ok : RoOk ro w) (st : Step β h w β' h' w') : RoOk ro w' :=
  fun l e => let ⟨r, e1⟩ := ok l e; st.loops l r e1
/-- A mark among the deferred calls. -/
def markD (x : Nat) : Deferred := ⟨.collected x, #[]⟩
/-- How things have gone on, and which marks have come. -/
structure Gone (D : List Deferred) (β : Place) (h : Heap) (w : World) (D' : List Deferred) (β' : Place) (h' : Heap) (w' : World) : Prop where
  st : Step β h w β' h' w'
  marks : ∃ xs : List Nat, D' = xs.map markD ++ D ∧ xs.Nodup ∧ ∀ x ∈ xs, w.heap.size ≤ x ∧ w'.heap[x]? = some (.deferred (some []))
theorem Gone.of {D : List Deferred} {β : Place} {h : Heap} {w : World} {β' : Place} {h' : Heap} {w' : World} (st : Step β h w β' h' w') : Gone D β h w D β' h' w' :=
  ⟨st, [], rfl, .nil, fun _ q => by cases q⟩
theorem Gone.refl (D : List Deferred) (β : Place) (h : Heap) (w : World) : Gone D β h w D β h w := .of (Step.refl _ _ _)
theorem Gone.trans {P : Program} {D D1 D2 : List Deferred} {β β1 β2 : Place} {h h1 h2 : Heap} {w w1 w2 : World} (hr : Rel P β h w) (rr : Rel P β1 h1 w1) (a : Gone D β h w D1 β1 h1 w1) (c : Gone D1 β1 h1 w1 D2 β2 h2 w2) : Gone D β h w D2 β2 h2 w2 := by
  obtain ⟨st, xs, e, nd, hx⟩ := a
  obtain ⟨st2, ys, e2, nd2, hy⟩ := c
  refine ⟨st.trans hr st2, ys ++ xs, by rw [e2, e]; simp, ?_, fun x q => ?_⟩
  · refine List.nodup_append.2 ⟨nd2, nd, fun x hx1 y hy1 he => ?_⟩
    subst he
    have h1 := (hy x hx1).1
    have h2 := (Array.getElem?_eq_some_iff.1 (hx x hy1).2).1
    omega
  · rcases List.mem_append.1 q with q | q
    · exact ⟨Nat.le_trans st.size (hy x q).1, (hy x q).2⟩
    · exact ⟨(hx x q).1, st2.deferred rr (hx x q).2⟩

/-- Behind a piece of code. -/
def After (P : Program) (D : List Deferred) (β : Place) (h : Heap) (w : World) (Q : Exit → Frm → Heap → Prop) : Exit → Act → World → Prop :=
  fun e m' w' => ∃ a' h' β' D', ARel D' β' a' m' ∧ Rel P β' h' w' ∧ Gone D β h w D' β' h' w' ∧ Q e a' h'
theorem After.trans {P : Program} {D D1 : List Deferred} {β β1 : Place} {h h1 : Heap} {w w1 w' : World} {Q : Exit → Frm → Heap → Prop} {e : Exit} {m' : Act} (x : After P D1 β1 h1 w1 Q e m' w') (hr : Rel P β h w) (rr : Rel P β1 h1 w1) (g : Gone D β h w D1 β1 h1 w1) : After P D β h w Q e m' w' := by
  obtain ⟨a, h', β', D', ra, rr', st, q⟩ := x
  exact ⟨a, h', β', D', ra, rr', g.trans hr rr st, q⟩

def AWp (P : Program) (c : Code) (Q : Exit → Frm → Heap → Prop) (a : Frm) (h : Heap) : Prop :=
  ∀ ro D β m w, ARel D β a m → Rel P β h w → RoOk ro w → c.wpIn (wd ro) 0 P (After P D β h w Q) m w
/-- From a place in a list of things to do. -/
def Runs (P : Program) (its : List Item) (Q : Exit → Frm → Heap → Prop) (a : Frm) (h : Heap) : Prop :=
  ∀ ro D β m w, ARel D β a m → Rel P β h w → RoOk ro w → ∀ (b : Frame) (k : List Item) (cs : List Frame), b.roundOf = ro →
    ∃ e m' w', After P D β h w Q e m' w' ∧ ArrivesIn (Machine.fenced P (wd ro)) P (lone (b.atR m (its ++ k)) cs w) b k cs e m' w'

section
variable {P : Program} {Q Q' : Exit → Frm → Heap → Prop} {a : Frm} {h : Heap}

theorem AWp.mono {c : Code} (hc : AWp P c Q a h) (hq : ∀ e a h, Q e a h → Q' e a h) : AWp P c Q' a h :=
  fun ro D β m w ha hr ok => wpIn_mono (hc ro D β m w ha hr ok) (fun e m' w' ⟨a', h', β', D', x, y, z, q⟩ => ⟨a', h', β', D', x, y, z, hq _ _ _ q⟩)
theorem AWp.weaken {c : Code} {a' : Frm} (hn : a'.n = a.n) (hl : ∀ t v, a'.get t = some v → a.get t = some v) (hc : AWp P c Q a' h) : AWp P c Q a h :=
  fun ro D β m w ha hr ok => hc ro D β m w (ha.weaken hn hl) hr ok

/-- What holds behind the first part. -/
def thenQ (K : Frm → Heap → Prop) (Q : Exit → Frm → Heap → Prop) : Exit → Frm → Heap → Prop
  | .normal, a, h => K a h
  | e, a, h => Q e a h
def blockQ (id : Nat) (Q : Exit → Frm → Heap → Prop) : Exit → Frm → Heap → Prop
  | .exit id', a, h => if id' = id then Q .normal a h else Q (.exit id') a h
  | e, a, h => Q e a h

theorem awp_skip (hq : Q .normal a h) : AWp P .skip Q a h := fun ro D β m w ha hr ok => wpIn_skip ⟨a, h, β, D, ha, hr, Gone.refl _ _ _ _, hq⟩
theorem awp_label {l : Nat} (hq : Q .normal a h) : AWp P (.label l) Q a h := fun ro D β m w ha hr ok => wpIn_label ⟨a, h, β, D, ha, hr, Gone.refl _ _ _ _, hq⟩
theorem awp_exit {id : Nat} (hq : Q (.exit id) a h) : AWp P (.exit id) Q a h := fun ro D β m w ha hr ok => wpIn_exit ⟨a, h, β, D, ha, hr, Gone.refl _ _ _ _, hq⟩
theorem awp_goto {l : Nat} (hq : Q (.goto l) a h) : AWp P (.goto l) Q a h := fun ro D β m w ha hr ok => wpIn_goto ⟨a, h, β, D, ha, hr, Gone.refl _ _ _ _, hq⟩
theorem awp_ret (hq : Q .ret a h) : AWp P .ret Q a h := fun ro D β m w ha hr ok => wpIn_ret ⟨a, h, β, D, ha, hr, Gone.refl _ _ _ _, hq⟩

theorem awp_seq {x y : Code} (hx : AWp P x (thenQ (fun a h => AWp P y Q a h) Q) a h) : AWp P (.seq x y) Q a h := by
  intro ro D β m w ha hr ok
  refine wpIn_seq (wpIn_mono (hx ro D β m w ha hr ok) (fun e m' w' => ?_))
  rintro ⟨a', h', β', D', ra, rr, st, q⟩
  cases e <;> first
    | exact wpIn_mono (q ro D' β' m' w' ra rr (ok.step st.st)) (fun e2 m2 w2 x => x.trans hr rr st)
    | exact ⟨a', h', β', D', ra, rr, st, q⟩
theorem awp_seq_k {x y : Code} (hx : ∀ K : Frm → Heap → Prop, (∀ a h, AWp P y Q a h → K a h) → AWp P x (thenQ K Q) a h) : AWp P (.seq x y) Q a h :=
  awp_seq (hx _ fun _ _ q => q)

theorem awp_cond {c : Operand} {x y : Code} {t : Bool} (hc : a.ev c = some (.bool t)) (ht : t = true → AWp P x Q a h) (hf : t = false → AWp P y Q a h) : AWp P (.cond c x y) Q a h := by
  intro ro D β m w ha hr ok
  have := ha.rho c _ hc
  generalize hm : m.eval c = mv at this
  cases this
  cases t
  · exact wpIn_cond_false hm (hf rfl ro D β m w ha hr ok)
  · exact wpIn_cond_true hm (ht rfl ro D β m w ha hr ok)

theorem awp_block {id : Nat} {c : Code} (hc : AWp P c (blockQ id Q) a h) : AWp P (.block id c) Q a h := by
  intro ro D β m w ha hr ok
  refine wpIn_block (wpIn_mono (hc ro D β m w ha hr ok) (fun e m' w' => ?_))
  rintro ⟨a', h', β', D', ra, rr, st, q⟩
  cases e with
  | exit id' =>
    simp only [Exit.inBlock]
    simp only [blockQ] at q
    split at q
    · rename_i hi; rw [if_pos hi]; exact ⟨a', h', β', D', ra, rr, st, q⟩
    · rename_i hi; rw [if_neg hi]; exact ⟨a', h', β', D', ra, rr, st, q⟩
  | _ => exact ⟨a', h', β', D', ra, rr, st, q⟩

/-! ### Loops -/
def LWp (P : Program) (c : Code) (Q : Exit → Frm → Heap → Prop) (a : Frm) (h : Heap) : Prop := Runs P [.code c, .inLoop c] Q a h
theorem lwp_round {c : Code} (hc : AWp P c (thenQ (fun a h => LWp P c Q a h) Q) a h) : LWp P c Q a h := by
  intro ro D β m w ha hr ok b k cs hb
  obtain ⟨e, m1, w1, ⟨a1, h1, β1, D1, ra, rr, st, q⟩, harr⟩ := hc ro D β m w ha hr ok b (.inLoop c :: k) cs hb trivial (room_wd _ _)
  have pass : (e ≠ .normal) → Q e a1 h1 → ∃ e m' w', After P D β h w Q e m' w' ∧ ArrivesIn (Machine.fenced P (wd ro)) P (lone (b.atR m (.code c :: .inLoop c :: k)) cs w) b k cs e m' w' :=
    fun hne q => ⟨_, m1, w1, ⟨a1, h1, β1, D1, ra, rr, st, q⟩, .pass (x := .inLoop c) rfl (fun _ _ => .inl hne) harr⟩
  cases e with
  | normal =>
    obtain ⟨e2, m2, w2, x2, harr2⟩ := q ro D1 β1 m1 w1 ra rr (ok.step st.st) b k cs hb
    exact ⟨e2, m2, w2, x2.trans hr rr st, .of_steps (StepsIn.trans harr (.one (fenced_wd _ _ _) stepR_inLoop)) harr2⟩
  | exit id => exact pass (by simp) q
  | goto l => exact pass (by simp) q
  | ret => exact pass (by simp) q
  | panic ch => exact pass (by simp) q
  | outgrown => exact pass (by simp) q
theorem lwp_loop {c : Code} (hc : LWp P c Q a h) : AWp P (.loop c) Q a h := by
  intro ro D β m w ha hr ok b k cs hb _ _
  obtain ⟨e, m', w', hq, harr⟩ := hc ro D β m w ha hr ok b k cs hb
  exact ⟨e, m', w', hq, .of_steps (.one (fenced_wd _ _ _) stepR_loop) harr⟩
theorem awp_loop_st {σ : Type} {c : Code} (I : σ → Frm → Heap → Prop) (μ : σ → Nat) (x : σ) (h0 : I x a h)
    (round : ∀ x a h, I x a h → AWp P c (thenQ (fun a' h' => ∃ x', I x' a' h' ∧ μ x' < μ x) Q) a h) : AWp P (.loop c) Q a h := by
  have key : ∀ n x a h, μ x = n → I x a h → LWp P c Q a h := by
    intro n
    induction n using Nat.strongRecOn with
    | _ n ih =>
      intro x a h hn hI
      refine lwp_round ((round x a h hI).mono fun e a1 h1 q => ?_)
      cases e <;> first
        | exact q
        | (obtain ⟨x1, hI1, hlt⟩ := q; exact ih (μ x1) (hn ▸ hlt) x1 a1 h1 rfl hI1)
  exact lwp_loop (key _ x a h rfl h0)
theorem awp_loop {c : Code} (I : Frm → Heap → Prop) (μ : Frm → Heap → Nat) (h0 : I a h)
    (round : ∀ a h, I a h → AWp P c (thenQ (fun a' h' => I a' h' ∧ μ a' h' < μ a h) Q) a h) : AWp P (.loop c) Q a h :=
  awp_loop_st (σ := Frm × Heap) (fun x a h => x = (a, h) ∧ I a h) (fun x => μ x.1 x.2) (a, h) ⟨rfl, h0⟩ fun x a h ⟨e, hI⟩ => by
    subst e
    refine (round a h hI).mono fun e a1 h1 q => ?_
    cases e <;> first
      | exact ⟨(a1, h1), ⟨rfl, q.1⟩, q.2⟩
      | exact q

/-! ### Regions, in the machine -/
/-- What is left of a region is done. -/
def RegS (ro : Option Nat) (P : Program) (ops : Array Oper) (R : Act → World → Prop) (l : List Nat) (m : Act) (w : World) : Prop :=
  ∀ (b : Frame) (k : List Item) (cs : List Frame), b.roundOf = ro → ∃ m' w', R m' w' ∧ Steps P (lone (b.atR m (.inRegion ops l :: k)) cs w) (lone (b.atR m' k) cs w')
/-- The operation at a place is done, or passed over. -/
def ItemS (ro : Option Nat) (P : Program) (ops : Array Oper) (i : Nat) (next : Act → World → Prop) (m : Act) (w : World) : Prop :=
  ∀ (b : Frame) (rest : List Nat) (k : List Item) (cs : List Frame), b.roundOf = ro → ∃ m' w', next m' w' ∧ Steps P (lone (b.atR m (.inRegion ops (i :: rest) :: k)) cs w) (lone (b.atR m' (.inRegion ops rest :: k)) cs w')
section regS
variable {ro : Option Nat} {ops : Array Oper} {R : Act → World → Prop} {next next' : Act → World → Prop} {m : Act} {w : World} {i : Nat} {o : Oper}
theorem itemS_do (ho : ops[i]? = some o) (hw : Region.wanted o (yielded ops m.tmps) = true) (h : OpS ro P o m w next) : ItemS ro P ops i next m w :=
  fun b rest k cs hb => h b ops i rest k cs hb ho hw
theorem itemS_no (ho : ops[i]? = some o) (hw : Region.wanted o (yielded ops m.tmps) = false) (hn : next (m.put o.dst undef) w) : ItemS ro P ops i next m w := by
  intro b rest k cs hb
  have hs := stepR_op_skip (P := P) (b := b) (a := m) (k := k) (cs := cs) (w := w) (ops := ops) (i := i) (rest := rest) (by simp [ho, hw])
  rw [ho] at hs
  exact ⟨_, _, hn, .one hs⟩
theorem ItemS.mono (h : ItemS ro P ops i next m w) (hn : ∀ m w, next m w → next' m w) : ItemS ro P ops i next' m w :=
  fun b rest k cs hb => let ⟨m', w', q, s⟩ := h b rest k cs hb; ⟨m', w', hn _ _ q, s⟩
theorem regS_nil (h : R m w) : RegS ro P ops R [] m w := fun b k cs hb => ⟨m, w, h, .one stepR_region_end⟩
theorem regS_cons {rest : List Nat} (h : ItemS ro P ops i (RegS ro P ops R rest) m w) : RegS ro P ops R (i :: rest) m w := by
  intro b k cs hb
  obtain ⟨m', w', q, s⟩ := h b rest k cs hb
  obtain ⟨m2, w2, q2, s2⟩ := q b k cs hb
  exact ⟨m2, w2, q2, Steps.trans s s2⟩
theorem stepsIn_wd {a b : Machine} (h : Steps P a b) : StepsIn (Machine.fenced P (wd ro)) P a b := stepsIn_wide.2 h
theorem regS_region {id : Nat} {Q : Exit → Act → World → Prop} (h : RegS ro P ops (Q .normal) (List.range ops.size) m w) : (Code.region id ops false).wpIn (wd ro) 0 P Q m w := by
  intro b k cs hb _ _
  obtain ⟨m', w', q, s⟩ := h b k cs hb
  exact ⟨.normal, m', w', q, stepsIn_wd (.head stepR_region s)⟩
def AnyS (ro : Option Nat) (P : Program) (ops : Array Oper) (R : Act → World → Prop) : Nat → Array Bool → Act → World → Prop
  | 0, listed, m, w => Region.ready .any ops listed = [] ∧ R m w
  | fuel + 1, listed, m, w => (Region.ready .any ops listed = [] → R m w) ∧ ∀ i ∈ Region.ready .any ops listed, ItemS ro P ops i (AnyS ro P ops R fuel (listed.setIfInBounds i true)) m w
theorem anyS_sound : ∀ (fuel t : Nat) (listed : Array Bool) (m : Act) (w : World), AnyS ro P ops R fuel listed m w → RegS ro P ops R (Region.linearise.go .any ops fuel t listed []) m w
  | 0, t, listed, m, w, h => by
    simp only [Region.linearise.go, List.reverse_nil]
    exact regS_nil h.2
  | fuel + 1, t, listed, m, w, h => by
    simp only [Region.linearise.go]
    change RegS ro P ops R (match (Region.ready .any ops listed)[t % (Region.ready .any ops listed).length]? with
      | some i => Region.linearise.go .any ops fuel (t / (Region.ready .any ops listed).length) (listed.setIfInBounds i true) [i]
      | none => [].reverse) m w
    cases hi : (Region.ready .any ops listed)[t % (Region.ready .any ops listed).length]? with
    | none =>
      refine regS_nil (h.1 ?_)
      cases hr : Region.ready .any ops listed with
      | nil => rfl
      | cons x xs =>
        rw [hr, List.getElem?_eq_none_iff] at hi
        have := Nat.mod_lt t (show 0 < (x :: xs).length by simp)
        omega
    | some i =>
      simp only []
      rw [linearise_go_acc, List.reverse_singleton, List.singleton_append]
      exact regS_cons ((h.2 i (List.mem_of_getElem? hi)).mono fun m w q => anyS_sound fuel _ _ m w q)
theorem region_any {id : Nat} {Q : Exit → Act → World → Prop} (hm : P.follows .mixedOrders = true) (h : AnyS ro P ops (Q .normal) ops.size (Array.replicate ops.size false) m { w with drawn := w.drawn + 1 }) : (Code.region id ops true).wpIn (wd ro) 0 P Q m w := by
  intro b k cs hb _ _
  have h2 := anyS_sound ops.size (w.tape w.drawn (.order b.fn id)) _ m _ h
  obtain ⟨m', w', q, s⟩ := h2 b k cs hb
  refine ⟨.normal, m', w', q, stepsIn_wd (.head stepR_region_draw ?_)⟩
  simp only [Region.schedule, hm, Bool.true_or, if_true]
  exact s
end regS

/-! ### Functions -/
def resultV (P : Program) (a : Frm) (h : Heap) : ResultVar → Option Value
  | .tmp t => a.get t
  | .cell p t => match a.get p with
    | some v => loadV P t h v
    | none => none
def resultsV (P : Program) (a : Frm) (h : Heap) : List ResultVar → Option (List Value)
  | [] => some []
  | x :: r => match resultV P a h x, resultsV P a h r with
    | some v, some vs => some (v :: vs)
    | _, _ => none
def packV : List Value → Value
  | [v] => v
  | vs => .tuple vs.toArray

def resOf (tmps : Array Value) : ResultVar → Sem Value
  | .tmp t => pure (tmps.getD t undef)
  | .cell a t => do loadVar t (← asAddr (tmps.getD a undef))
theorem results_eq (fn : Func) (tmps : Array Value) : results fn tmps = (do let vs ← fn.results.mapM (resOf tmps); pure (if h : vs.size = 1 then vs[0] else .tuple vs)) := by
  unfold results
  congr 1

theorem results_sound {D : List Deferred} {β : Place} {w : World} {m : Act} {fn : Func} {vs : List Value} (ha : ARel D β a m) (hr : Rel P β h w) (hv : resultsV P a h fn.results.toList = some vs) :
    ∃ mv, (results fn m.tmps).run P w = .ok mv w ∧ VRel β (packV vs) mv := by
  have one : ∀ (x : ResultVar) (v : Value), resultV P a h x = some v → ∃ mv, (resOf m.tmps x).run P w = .ok mv w ∧ VRel β v mv := by
    intro x v hx
    cases x with
    | tmp t =>
      obtain ⟨mv, e, r⟩ := ha.rel t v hx
      exact ⟨mv, by simp [resOf, e], r⟩
    | cell p t =>
      simp only [resultV] at hx
      split at hx
      · rename_i q hq
        obtain ⟨mq, e, r⟩ := ha.rel p q hq
        obtain ⟨mv, e2, r2⟩ := loadV_sound hr r hx
        refine ⟨mv, ?_, r2⟩
        have : ∃ ad, mq = .pointer (some ad) := by
          unfold loadV at hx
          split at hx
          · obtain ⟨m', s', _, rfl⟩ := r.ptr_inv; exact ⟨_, rfl⟩
          · cases hx
        obtain ⟨ad, rfl⟩ := this
        have e3 : m.tmps.getD p undef = .pointer (some ad) := by simp [e]
        simp only [resOf, e3, asAddr, Sem.run_bind, Sem.run_pure, Result.andThen_ok]
        simpa [Instr.loadAt, Instr.sureAddr] using e2
      · cases hx
  have all : ∀ (l : List ResultVar) (vs : List Value), resultsV P a h l = some vs → ∃ ms, (l.mapM (resOf m.tmps)).run P w = .ok ms w ∧ VRels β vs ms := by
    intro l
    induction l with
    | nil => intro vs e; simp [resultsV] at e; subst e; exact ⟨[], by simp, .nil⟩
    | cons x l ih =>
      intro vs e
      unfold resultsV at e
      split at e
      · rename_i v vs' e1 e2
        cases e
        obtain ⟨mv, r1, q1⟩ := one x v e1
        obtain ⟨ms, r2, q2⟩ := ih vs' e2
        refine ⟨mv :: ms, ?_, .cons q1 q2⟩
        simp only [List.mapM_cons, Sem.run_bind, r1, r2, Result.andThen_ok, Sem.run_pure]
      · cases e
  obtain ⟨ms, e, r⟩ := all _ vs hv
  have e' : (fn.results.mapM (resOf m.tmps)).run P w = .ok ms.toArray w := by
    rw [Array.mapM_eq_mapM_toList, Sem.run_map, e]
    rfl
  refine ⟨_, by rw [results_eq, Sem.run_bind, e']; rfl, ?_⟩
  have hlen := r.length
  cases r with
  | nil => simp [packV]; exact VRel.undef
  | cons h1 t1 =>
    cases t1 with
    | nil => simpa [packV] using h1
    | cons h2 t2 =>
      simp [packV]
      exact VRel.tuple_iff.2 ⟨_, rfl, by simpa using VRels.cons h1 (.cons h2 t2)⟩

/-- What a body is to end in. -/
def bodyQ (P : Program) (rs : List ResultVar) (Q : Value → Heap → Prop) : Exit → Frm → Heap → Prop
  | .normal, a, h => ∃ vs, resultsV P a h rs = some vs ∧ Q (packV vs) h
  | .ret, a, h => ∃ vs, resultsV P a h rs = some vs ∧ Q (packV vs) h
  | _, _, _ => False

/-- Arguments as slots. -/
def argSlots : Nat → List Value → List (Nat × Value)
  | _, [] => []
  | k, v :: vs => (k, v) :: argSlots (k + 1) vs
theorem look_argSlots : ∀ (vs : List Value) (k t : Nat) (v : Value), look t (argSlots k vs) = some v → k ≤ t ∧ vs[t - k]? = some v
  | [], k, t, v, h => by simp [argSlots, look] at h
  | u :: vs, k, t, v, h => by
    simp only [argSlots, look] at h
    split at h
    · rename_i e; subst e; cases h; exact ⟨Nat.le_refl _, by simp⟩
    · rename_i e
      obtain ⟨h1, h2⟩ := look_argSlots vs (k + 1) t v h
      refine ⟨by omega, ?_⟩
      have : t - k = (t - (k + 1)) + 1 := by omega
      rw [this]
      simpa using h2

/-! ### A function's end, its marks -/
theorem Rel.put_deferred {β : Place} {w : World} {x : Nat} {q q' : Option (List Deferred)} (hr : Rel P β h w) (e : w.heap[x]? = some (.deferred q)) : Rel P β h (w.putObj x (.deferred q')) := by
  refine ⟨fun b m s hb => by rw [World.putObj_size]; exact hr.dom b m s hb, fun b m s o hb hg => ?_, hr.inj⟩
  have ho := hr.obj b m s o hb hg
  by_cases hm : m = x
  · subst hm
    exfalso
    cases o with
    | cells => obtain ⟨_, _, _, h1, _⟩ := ho; rw [e] at h1; cases h1
    | map => obtain ⟨_, h1, _⟩ := ho; rw [e] at h1; cases h1
    | iter => obtain ⟨_, _, h1, _⟩ := ho; rw [e] at h1; cases h1
    | striter => obtain ⟨_, h1⟩ := ho; rw [e] at h1; cases h1
    | chan => obtain ⟨_, _, _, _, h1, _⟩ := ho; rw [e] at h1; cases h1
    | loop => obtain ⟨_, _, _, _, h1, _⟩ := ho; rw [e] at h1; cases h1
  · exact ho.mono (fun _ _ e => e) (World.putObj_heap_other hm)
theorem Step.put_deferred {β β' : Place} {h h' : Heap} {w w' : World} {x : Nat} {q q' : Option (List Deferred)} (st : Step β h w β' h' w') (hx : w.heap.size ≤ x) (e : w'.heap[x]? = some (.deferred q)) : Step β h w β' h' (w'.putObj x (.deferred q')) := by
  refine ⟨st.place, st.stays, st.next, st.live, st.new, st.os, st.tape, st.output, by rw [World.putObj_size]; exact st.size, fun m hm hn => ?_, fun m r e1 => ?_⟩
  · rw [World.putObj_heap_other (by omega)]; exact st.frame m hm hn
  · obtain ⟨r', e2⟩ := st.loops m r e1
    exact ⟨r', by rw [World.putObj_heap_other (by rintro rfl; rw [e] at e2; cases e2)]; exact e2⟩
theorem leaves_marks {fn : Func} {m : Act} {D : List Deferred} {β β' : Place} {h0 : Heap} {w0 : World} {vs : List Value} {Q : Value → Heap → Prop} (ha : ARel D β' a m) (hv : resultsV P a h fn.results.toList = some vs) (hq : Q (packV vs) h) :
    ∀ (xs : List Nat) (w : World), xs.Nodup → (∀ x ∈ xs, w0.heap.size ≤ x ∧ w.heap[x]? = some (.deferred (some []))) → Rel P β' h w → Step β h0 w0 β' h w →
      LeavesInM Fence.wide 0 P fn m.tmps (fun e w' => ∃ mv, e = .returned mv ∧ ∃ v h' β', VRel β' v mv ∧ Rel P β' h' w' ∧ Step β h0 w0 β' h' w' ∧ Q v h') (xs.map markD) .returning w
  | [], w, _, _, hr, st => by
    obtain ⟨mv, e2, r⟩ := results_sound ha hr hv
    exact ⟨mv, e2, mv, rfl, _, h, β', r, hr, st, hq⟩
  | x :: xs, w, nd, hx, hr, st => by
    obtain ⟨h1, h2⟩ := hx x (by simp)
    obtain ⟨n1, n2⟩ := List.nodup_cons.1 nd
    refine ⟨by simp, .inl ⟨x, w.putObj x (.deferred none), rfl, run_takeDeferred h2, ?_⟩⟩
    refine leaves_marks ha hv hq xs _ n2 (fun y hy => ?_) (hr.put_deferred h2) (st.put_deferred h1 h2)
    obtain ⟨k1, k2⟩ := hx y (by simp [hy])
    exact ⟨k1, by rw [World.putObj_heap_other (by rintro rfl; exact n1 hy)]; exact k2⟩

theorem acalls_intro {f : FuncId} {fn : Func} {c : Code} {n : Nat} {rs : List ResultVar} {args : List Value} {Q : Value → Heap → Prop} (hf : P.funcs[f]? = some fn) (hb : fn.body = some c) (hn : fn.ntmps = n) (hrs : fn.results.toList = rs)
    (hname : (fn.name == "runtime.NumGoroutine") = false) (hle : args.length ≤ n) (hbody : AWp P c (bodyQ P rs Q) ⟨n, argSlots 0 args⟩ h) : ACalls P f args h Q := by
  refine ⟨⟨fn, hf, by simp [hb], hname⟩, fun β w ms hv hr => callsIn_wide.1 (callsIn_of_wp_marks (n := 0) hf hb trivial ?_)⟩
  have hlen := hv.length
  have ha : ARel [] β ⟨n, argSlots 0 args⟩ { tmps := ms.toArray ++ Array.replicate (fn.ntmps - ms.toArray.size) undef, defers := [] } := by
    refine ⟨rfl, by simp [hn]; omega, fun t v e => ?_⟩
    obtain ⟨_, h2⟩ := look_argSlots args 0 t v e
    obtain ⟨mv, e1, r⟩ := hv.get (i := t) (v := v) (by simpa using h2)
    refine ⟨mv, ?_, r⟩
    have hlt : t < ms.length := (List.getElem?_eq_some_iff.1 e1).1
    rw [Array.getElem?_append_left (by simpa using hlt)]
    simpa using e1
  refine wpIn_mono (hbody none [] β _ w ha hr (fun _ e => by cases e)) (fun e m' w' => ?_)
  rintro ⟨a', h', β', D', ra, rr, ⟨st, xs, hD, nd, hx⟩, q⟩
  subst hrs
  rw [List.append_nil] at hD
  have fin : (∃ vs, resultsV P a' h' fn.results.toList = some vs ∧ Q (packV vs) h') → LeavesInM Fence.wide 0 P fn m'.tmps (fun e w' => ∃ mv, e = .returned mv ∧ ∃ v h' β', VRel β' v mv ∧ Rel P β' h' w' ∧ Step β h w β' h' w' ∧ Q v h') m'.defers .returning w' := by
    rintro ⟨vs, e1, q⟩
    rw [ra.defers, hD]
    exact leaves_marks ra e1 q xs w' nd hx rr st
  cases e with
  | normal => exact fin q
  | ret => exact fin q
  | exit id => exact q.elim
  | goto l => exact q.elim
  | panic c => exact q.elim
  | outgrown => exact q.elim
end
end Go.Sim
