/- Regions that draw their order: one order stands for all. -/
import Derived.Test.YtonejeaomblpiaaGreatA13
set_option linter.unusedSimpArgs false
set_option linter.unusedVariables false
set_option linter.defProp false
namespace Go.Sim
open Go.RowKit

/-! ### What floats goes on holding when more is made -/
theorem loadV_push {P : Program} {t : TypeId} {h : Heap} {p v : Value} {q : AObj} (hl : loadV P t h p = some v) : loadV P t (h.push q) p = some v := by
  unfold loadV at *
  split at hl
  · rename_i b o
    unfold loadT at *
    split at hl
    · rename_i cs e rw hg
      simp only [Heap.get_push_of hg]
      exact hl
    · cases hl
  · cases hl
theorem elemSz_push {P : Program} {h : Heap} {q : AObj} {b n : Nat} (he : elemSz P h b = some n) : elemSz P (h.push q) b = some n := by
  unfold elemSz at *
  split at he
  · rename_i cs e rw hg
    simp only [Heap.get_push_of hg]
    exact he
  · cases he
theorem bytesStrV_push {h : Heap} {x v : Value} {q : AObj} (hb : bytesStrV h x = some v) : bytesStrV (h.push q) x = some v := by
  unfold bytesStrV at *
  split at hb
  · exact hb
  · rename_i b o n c
    split at hb
    · rename_i hn; simp only [hn, if_true]; exact hb
    · rename_i hn
      simp only [if_neg hn]
      split at hb
      · rename_i cs e rw hg
        simp only [Heap.get_push_of hg]
        exact hb
      · cases hb
  · cases hb
theorem sliceV_mono {P : Program} {E E' : Nat → Option Nat} (hE : ∀ b n, E b = some n → E' b = some n) {t : TypeId} {x : Value} {lo hi mx : Option Value} {v : Value} (hs : sliceV P E t x lo hi mx = some v) : sliceV P E' t x lo hi mx = some v := by
  unfold sliceV at *
  split at hs
  · exact hs
  · exact hs
  · exact hs
  · rename_i e b o n c hu
    split at hs
    · rename_i s l hh om hz hbd
      by_cases hc : c = dud
      · rw [if_pos hc] at hs ⊢; exact hs
      · rw [if_neg hc] at hs ⊢
        by_cases hn : c ≠ noapp ∧ E b ≠ some s
        · rw [if_pos hn] at hs; cases hs
        · rw [if_neg hn] at hs
          rw [if_neg (fun q => hn ⟨q.1, fun e1 => q.2 (hE _ _ e1)⟩)]
          exact hs
    · cases hs
  · cases hs
theorem entriesV_push {h : Heap} {x : Value} {q : AObj} {es : List MapEntry} (he : entriesV h x = some es) : entriesV (h.push q) x = some es := by
  unfold entriesV at *
  split at he
  · exact he
  · split at he
    · rename_i es' ck hg
      simp only [Heap.get_push_of hg]
      exact he
    · cases he
  · cases he
theorem lenH_push {P : Program} {t : TypeId} {h : Heap} {x v : Value} {q : AObj} (hl : lenH P t h x = some v) : lenH P t (h.push q) x = some v := by
  unfold lenH at *
  split at hl
  · cases hes : entriesV h x with
    | none => simp [hes] at hl
    | some es => rw [entriesV_push hes]; rw [hes] at hl; exact hl
  · split at hl
    · exact hl
    · split at hl
      · rename_i hg
        simp only [Heap.get_push_of hg]
        exact hl
      · cases hl
    · cases hl
  · exact hl
theorem readV_push {P : Program} {o : Op} {ρ : Rho} {h : Heap} {q : AObj} {v : Value} (hv : readV P o ρ h = some v) : readV P o ρ (h.push q) = some v := by
  unfold readV at *
  split at hv
  · split at hv
    · exact loadV_push hv
    · cases hv
  · split at hv
    · exact sliceV_mono (fun b n => elemSz_push) hv
    · cases hv
  · split at hv
    · split at hv
      · rename_i he
        rw [if_pos rfl]
        exact bytesStrV_push hv
      · cases hv
    · exact hv
  · split at hv
    · exact lenH_push hv
    · cases hv
  · exact hv

/-- Does it read memory? -/
def readsMem (P : Program) : Op → Bool
  | .load .. => true
  | .slice .. => true
  | .convert s _ _ => match P.underlying s with
    | some (.slice _) => true
    | _ => false
  | .call { callee := .builtin .len, args := _, argTypes := ts } => ts.toList.any fun t => match P.underlying t with
    | some (.map _ _) => true
    | some (.chan _ _) => true
    | _ => false
  | _ => false
theorem readV_far {P : Program} {o : Op} {ρ : Rho} {h h' : Heap} (ho : readsMem P o = false) : readV P o ρ h = readV P o ρ h' := by
  cases o <;> first
    | (simp [readsMem] at ho; done)
    | rfl
    | skip
  case convert s d x =>
    simp only [readV]
    simp [readsMem] at ho
    split
    · rename_i e v' hs hd hx
      simp [hs] at ho
    · rfl
  case call c =>
    obtain ⟨cal, args, ts⟩ := c
    cases cal with
    | value f => rfl
    | invoke r n => rfl
    | builtin b =>
      cases b <;> first | rfl | skip
      simp only [readV]
      simp only [readsMem] at ho
      split
      · rename_i x t hvs hts
        rw [hts] at ho
        unfold lenH
        split
        · rename_i k e hu
          simp [hu] at ho
        · rename_i k e hu
          simp [hu] at ho
        · rfl
      · rfl

/-- What acts in a region: also what gives a variable its value. -/
def acts : Op → Bool
  | .assign _ => true
  | o => isAct o
theorem acts_of {o : Op} (h : acts o = false) : isAct o = false := by
  cases o <;> first | exact h | simp [acts] at h

/-! ### The condition on an order -/
def preds (o : Oper) : List Nat := o.after.toList.filterMap fun e => if Region.binds .any e then some e.on else none
def opAt (ops : Array Oper) (i : Nat) : Oper := ops.getD i default
def tbl (T : List (List Nat)) (i : Nat) : List Nat := T.getD i []
def okPair (ops : Array Oper) (T : List (List Nat)) (i j : Nat) : Bool :=
  i == j || match (opAt ops i).dst with
  | none => true
  | some d =>
    if acts (opAt ops i).op then (!((opAt ops j).looksAt ops).contains d && (opAt ops j).dst != some d) || (tbl T i).contains j || (tbl T j).contains i
    else (opAt ops j).dst != some d && (!((opAt ops j).looksAt ops).contains d || (tbl T j).contains i)
def okSelf (ops : Array Oper) (i : Nat) : Bool :=
  acts (opAt ops i).op || match (opAt ops i).dst with
  | none => true
  | some d => !((opAt ops i).looksAt ops).contains d
/-- One after the other: what lies before. -/
def okGo (P : Program) (ops : Array Oper) (T : List (List Nat)) : List Nat → List (Nat × List Nat) → Bool
  | _, [] => true
  | pre, (i, ks) :: r =>
    decide (i < ops.size) && !pre.contains i && (preds (opAt ops i)).all pre.contains &&
    (tbl T i).all (fun j => pre.contains j && ((preds (opAt ops i)).contains j || (preds (opAt ops i)).any fun p => (tbl T p).contains j)) &&
    pre.all (fun j => !acts (opAt ops j).op || (tbl T i).contains j) &&
    (!acts (opAt ops i).op || pre.all fun j => acts (opAt ops j).op || !readsMem P (opAt ops j).op || (tbl T i).contains j || ks.contains j) &&
    okGo P ops T (pre ++ [i]) r
def okDraw (P : Program) (ops : Array Oper) (T : List (List Nat)) (E : List (Nat × List Nat)) : Bool :=
  okGo P ops T [] E && (List.range ops.size).all (E.map (·.1)).contains && (List.range ops.size).all (okSelf ops) &&
  (List.range ops.size).all fun i => (List.range ops.size).all (okPair ops T i)

structure OkGo (P : Program) (ops : Array Oper) (T : List (List Nat)) (pre : List Nat) (i : Nat) (ks : List Nat) (r : List (Nat × List Nat)) : Prop where
  lt : i < ops.size
  new : i ∉ pre
  preds : ∀ p ∈ preds (opAt ops i), p ∈ pre
  tpre : ∀ j ∈ tbl T i, j ∈ pre ∧ (j ∈ Sim.preds (opAt ops i) ∨ ∃ p ∈ Sim.preds (opAt ops i), j ∈ tbl T p)
  acts : ∀ j ∈ pre, acts (opAt ops j).op = true → j ∈ tbl T i
  chk : Sim.acts (opAt ops i).op = true → ∀ j ∈ pre, Sim.acts (opAt ops j).op = false → readsMem P (opAt ops j).op = true → j ∈ tbl T i ∨ j ∈ ks
  rest : okGo P ops T (pre ++ [i]) r = true
theorem okGo_spec {P : Program} {ops : Array Oper} {T : List (List Nat)} {pre : List Nat} {i : Nat} {ks : List Nat} {r : List (Nat × List Nat)} (h : okGo P ops T pre ((i, ks) :: r) = true) : OkGo P ops T pre i ks r := by
  simp only [okGo, Bool.and_eq_true, decide_eq_true_eq, Bool.not_eq_true', List.all_eq_true, List.contains_eq_mem, decide_eq_false_iff_not, Bool.or_eq_true, List.any_eq_true] at h
  obtain ⟨⟨⟨⟨⟨⟨h1, h2⟩, h3⟩, h4⟩, h5⟩, h6⟩, h7⟩ := h
  refine ⟨h1, h2, h3, fun j hj => h4 j hj, fun j hj ha => ?_, fun hi j hj ha hm => ?_, h7⟩
  · rcases h5 j hj with h | h
    · rw [ha] at h; cases h
    · exact h
  · rcases h6 with h | h
    · rw [hi] at h; cases h
    · rcases h j hj with ((h | h) | h) | h
      · rw [ha] at h; cases h
      · rw [hm] at h; cases h
      · exact .inl h
      · exact .inr h

/-! ### What is to be shown -/
def slotV (a : Frm) : Option Tmp → Option Value
  | some t => a.get t
  | none => none
def chkF (P : Program) (c : C) (a : Frm) (h : Heap) : Prop :=
  match c.g with
  | none => (slotV a c.d).isSome = true ∧ readV P c.op a.ev h = slotV a c.d
  | some (t, want) => guardV t want a = some false ∨ ((slotV a c.d).isSome = true ∧ readV P c.op a.ev h = slotV a c.d)
def chkAll (P : Program) (a : Frm) (h : Heap) : List C → Prop
  | [] => True
  | c :: r => chkF P c a h ∧ chkAll P a h r
def dWp (P : Program) : List (C × List C) → (Frm → Heap → Prop) → Frm → Heap → Prop
  | [], K, a, h => K a h
  | (c, ks) :: r, K, a, h => cWp P [c] (fun a h => chkAll P a h ks ∧ dWp P r K a h) a h
def elabD (ops : Array Oper) (E : List (Nat × List Nat)) : List (C × List C) := E.map fun e => (stripC ops (opAt ops e.1), e.2.map fun k => stripC ops (opAt ops k))

/-! ### Soundness -/
theorem cWp_one {P : Program} {c : C} {K : Frm → Heap → Prop} {a : Frm} {h : Heap} (hc : cWp P [c] K a h) :
    (c.g = none ∧ opWp P c.op a.ev h (fun v h' => K (a.put c.d v) h')) ∨
    ∃ t want, c.g = some (t, want) ∧ ((guardV t want a = some true ∧ opWp P c.op a.ev h (fun v h' => K (a.put c.d v) h')) ∨ (guardV t want a = some false ∧ K (a.put c.d undef) h)) := by
  unfold cWp at hc
  cases hg : c.g with
  | none => rw [hg] at hc; exact .inl ⟨rfl, by simpa [cWp] using hc⟩
  | some p =>
    obtain ⟨t, want⟩ := p
    simp only [hg] at hc
    refine .inr ⟨t, want, rfl, ?_⟩
    unfold guardWp at hc
    cases hv : guardV t want a with
    | none => rw [hv] at hc; exact hc.elim
    | some b =>
      rw [hv] at hc
      cases b
      · exact .inr ⟨rfl, by simpa [cWp] using hc.2 rfl⟩
      · exact .inl ⟨rfl, by simpa [cWp] using hc.1 rfl⟩

/-- Is an operation wanted, by the frame? -/
def wantF (ops : Array Oper) (o : Oper) (a : Frm) : Option Bool :=
  match o.guard with
  | none => some true
  | some (g, want) => guardV ((ops[g]?).bind (·.dst)) want a

theorem cWp_want {P : Program} {ops : Array Oper} {o : Oper} {K : Frm → Heap → Prop} {a : Frm} {h : Heap} (hc : cWp P [stripC ops o] K a h) :
    (wantF ops o a = some true ∧ opWp P o.op a.ev h (fun v h' => K (a.put o.dst v) h')) ∨ (wantF ops o a = some false ∧ K (a.put o.dst undef) h) := by
  rcases cWp_one hc with ⟨hg, hop⟩ | ⟨t, want, hg, h1 | h1⟩
  · refine .inl ⟨?_, hop⟩
    unfold stripC at hg
    unfold wantF
    cases hq : o.guard <;> simp [hq] at hg ⊢
  all_goals
    unfold stripC at hg
    unfold wantF
    cases hq : o.guard with
    | none => simp [hq] at hg
    | some p =>
      obtain ⟨g, w⟩ := p
      simp [hq] at hg
      obtain ⟨rfl, rfl⟩ := hg
      first | exact .inl h1 | exact .inr h1

/-- The frame, as far as the named slots go. -/
def only (ts : List Tmp) (a : Frm) : Frm := ⟨a.n, a.l.filter fun p => ts.contains p.1⟩
theorem look_filter (ts : List Tmp) (t : Tmp) : ∀ l : List (Nat × Value), look t (l.filter fun p => ts.contains p.1) = if t ∈ ts then look t l else none
  | [] => by simp [look]
  | (t', v) :: l => by
    have ih := look_filter ts t l
    by_cases h : t' ∈ ts
    · rw [List.filter_cons_of_pos (by simpa using h)]
      simp only [look]
      by_cases e : t' = t
      · subst e; simp [h]
      · simp only [e, if_false]; exact ih
    · rw [List.filter_cons_of_neg (by simpa using h), ih]
      by_cases e : t ∈ ts
      · have : t' ≠ t := by rintro rfl; exact h e
        simp [e, look, this]
      · simp [e]
theorem only_get (ts : List Tmp) (a : Frm) (t : Tmp) : (only ts a).get t = if t ∈ ts then a.get t else none := look_filter ts t a.l
theorem only_ev {ts : List Tmp} {a : Frm} {x : Operand} (hx : ∀ t, x = .tmp t → t ∈ ts) : (only ts a).ev x = a.ev x := by
  cases x with
  | tmp t => simp only [Frm.ev, only_get, if_pos (hx t rfl)]
  | _ => rfl
theorem looks_op {ops : Array Oper} {o : Oper} {x : Operand} (hx : x ∈ o.op.operands) : ∀ t, x = .tmp t → t ∈ o.looksAt ops := by
  rintro t rfl
  unfold Oper.looksAt
  exact List.mem_append_left _ (List.mem_filterMap.2 ⟨.tmp t, by simpa using hx, rfl⟩)
theorem want_same {ops : Array Oper} {o : Oper} {a a' : Frm} (h : ∀ t, t ∈ o.looksAt ops → a'.get t = a.get t) : wantF ops o a' = wantF ops o a := by
  unfold wantF
  split
  · rfl
  · rename_i g want hg
    cases hd : (ops[g]?).bind (·.dst) with
    | none => rfl
    | some t =>
      have : t ∈ o.looksAt ops := by
        unfold Oper.looksAt
        refine List.mem_append_right _ ?_
        simp [hg, hd]
      simp only [guardV, h t this]
theorem only_same {ops : Array Oper} {o : Oper} {a : Frm} : ∀ t, t ∈ o.looksAt ops → (only (o.looksAt ops) a).get t = a.get t := fun t ht => by rw [only_get, if_pos ht]
theorem ev_same {ops : Array Oper} {o : Oper} {a a' : Frm} (h : ∀ t, t ∈ o.looksAt ops → a'.get t = a.get t) : ∀ x ∈ o.op.operands, a'.ev x = a.ev x := by
  intro x hx
  cases x with
  | tmp t => exact h t (looks_op hx t rfl)
  | _ => rfl
theorem wantF_sound {D : List Deferred} {β : Place} {ops : Array Oper} {o : Oper} {m : Act} {a : Frm} {b : Bool} (ha : ARel D β a m) (hv : wantF ops o a = some b) : Region.wanted o (yielded ops m.tmps) = b := by
  unfold wantF at hv
  split at hv
  · rename_i hg; cases hv; simp [Region.wanted, hg]
  · rename_i g want hg
    exact guardV_sound ha hg hv
theorem get_put (a : Frm) (d : Option Tmp) (v : Value) (t : Tmp) : (a.put d v).get t = if d = some t ∧ t < a.n then some v else a.get t := by
  unfold Frm.put
  cases d with
  | none => simp
  | some u =>
    by_cases hu : u < a.n
    · simp only [hu, if_true]
      unfold Frm.get
      rw [look_ins]
      by_cases e : t = u
      · subst e; simp [hu]
      · rw [if_neg e, if_neg (by rintro ⟨h1, _⟩; cases h1; exact e rfl)]
    · simp only [hu, if_false]
      rw [if_neg]
      rintro ⟨h1, h2⟩
      cases h1
      exact hu h2
theorem put_n (a : Frm) (d : Option Tmp) (v : Value) : (a.put d v).n = a.n := by
  unfold Frm.put
  cases d with
  | none => rfl
  | some u => by_cases hu : u < a.n <;> simp [hu]

/-- A float that the machine hasn't done yet. -/
inductive PendV (P : Program) (ops : Array Oper) (a : Frm) (h : Heap) (β : Place) (blk : Option Nat) (o : Oper) (v : Value) : Prop
  | no (hw : wantF ops o a = some false) (hv : v = undef)
  | read (hw : wantF ops o a = some true) (hv : readV P o.op a.ev h = some v)
  | new (hw : wantF ops o a = some true) (b : Nat) (q : AObj) (mk : Nat → Value) (hbl : blk = some b) (hn : newV P o.op a.ev = some (q, mk)) (hv : v = mk b) (hg : h.get b = some q) (hb : β b = none)

section
variable {P : Program} {ops : Array Oper} {T : List (List Nat)}
/-- What the table says is so. -/
def Cc (ops : Array Oper) (T : List (List Nat)) (i : Nat) : Prop := ∀ S : Nat → Prop, (∀ i, S i → ∀ p ∈ preds (opAt ops i), S p) → (∀ p ∈ preds (opAt ops i), S p) → ∀ j ∈ tbl T i, S j
theorem okGo_cc : ∀ (E : List (Nat × List Nat)) (pre : List Nat), (∀ i ∈ pre, Cc ops T i) → okGo P ops T pre E = true → ∀ i, i ∈ pre ∨ i ∈ E.map (·.1) → Cc ops T i
  | [], pre, hp, _, i, hi => hp i (by simpa using hi)
  | (k, ks) :: r, pre, hp, ho, i, hi => by
    have hs := okGo_spec ho
    have hk : Cc ops T k := by
      intro S hc hpr j hj
      obtain ⟨_, h1 | ⟨p, h1, h2⟩⟩ := hs.tpre j hj
      · exact hpr j h1
      · exact hp p (hs.preds p h1) S hc (hc p (hpr p h1)) j h2
    refine okGo_cc r (pre ++ [k]) (fun i hi => ?_) hs.rest i ?_
    · rcases List.mem_append.1 hi with h | h
      · exact hp i h
      · rw [List.mem_singleton.1 h]; exact hk
    · simp only [List.map_cons, List.mem_cons, List.mem_append, List.mem_singleton] at hi ⊢
      rcases hi with h | h | h <;> simp [h]
/-- Something is ready unless all is done. -/
theorem okGo_ready {S : Nat → Prop} : ∀ (E : List (Nat × List Nat)) (pre : List Nat), (∀ i ∈ pre, S i) → okGo P ops T pre E = true → (∃ i ∈ E.map (·.1), ¬ S i) → ∃ j, j < ops.size ∧ ¬ S j ∧ ∀ p ∈ preds (opAt ops j), S p
  | [], pre, hp, _, ⟨i, hi, _⟩ => by simp at hi
  | (k, ks) :: r, pre, hp, ho, ⟨i, hi, hn⟩ => by
    have hs := okGo_spec ho
    by_cases hk : S k
    · refine okGo_ready r (pre ++ [k]) (fun j hj => ?_) hs.rest ⟨i, ?_, hn⟩
      · rcases List.mem_append.1 hj with h | h
        · exact hp j h
        · rw [List.mem_singleton.1 h]; exact hk
      · simp only [List.map_cons, List.mem_cons] at hi
        rcases hi with rfl | hi
        · exact absurd hk hn
        · exact hi
    · exact ⟨k, hs.lt, hk, fun p h => hp p (hs.preds p h)⟩

/-- The state of things amid a region. -/
structure Amid (P : Program) (ops : Array Oper) (T : List (List Nat)) (D : List Deferred) (β₀ : Place) (h₀ : Heap) (w₀ : World) (pre : List Nat) (a : Frm) (h : Heap) (pend : List Nat) (blk : Nat → Option Nat) (β : Place) (S : Nat → Prop) (m : Act) (w : World) : Prop where
  done : ∀ i, S i ↔ i ∈ pre ∧ i ∉ pend
  closed : ∀ i, S i → ∀ p ∈ preds (opAt ops i), S p
  sub : ∀ i ∈ pend, i ∈ pre ∧ acts (opAt ops i).op = false
  lt : ∀ i ∈ pre, i < ops.size
  tpre : ∀ i ∈ pre, ∀ j ∈ tbl T i, j ∈ pre
  defers : m.defers = D
  size : m.tmps.size = a.n
  low : ∀ t v, a.get t = some v → t < a.n
  slots : ∀ t v, a.get t = some v → (∀ i ∈ pend, (opAt ops i).dst ≠ some t) → ∃ mv, m.tmps[t]? = some mv ∧ VRel β v mv
  rel : Rel P β h w
  step : Step β₀ h₀ w₀ β h w
  pends : ∀ i ∈ pend, ∃ v, PendV P ops a h β (blk i) (opAt ops i) v ∧ ∀ t, (opAt ops i).dst = some t → t < a.n → a.get t = some v
  apart : ∀ i ∈ pend, ∀ j ∈ pend, ∀ b, blk i = some b → blk j = some b → i = j
  fresh : ∀ i ∈ pend, ∀ b, blk i = some b → h₀.next ≤ b ∧ b < h.next

/-- What the check says of all. -/
structure Glob (P : Program) (ops : Array Oper) (T : List (List Nat)) : Prop where
  cc : ∀ i, i < ops.size → Cc ops T i
  self : ∀ i, i < ops.size → acts (opAt ops i).op = false → ∀ d, (opAt ops i).dst = some d → d ∉ (opAt ops i).looksAt ops
  flt : ∀ i j, i < ops.size → j < ops.size → i ≠ j → acts (opAt ops i).op = false → ∀ d, (opAt ops i).dst = some d → (opAt ops j).dst ≠ some d ∧ (d ∈ (opAt ops j).looksAt ops → i ∈ tbl T j)
  act : ∀ i j, i < ops.size → j < ops.size → i ≠ j → acts (opAt ops i).op = true → ∀ d, (opAt ops i).dst = some d → (d ∉ (opAt ops j).looksAt ops ∧ (opAt ops j).dst ≠ some d) ∨ j ∈ tbl T i ∨ i ∈ tbl T j

theorem Step.push {β₀ : Place} {h₀ : Heap} {w₀ : World} {β : Place} {h : Heap} {w : World} {q : AObj} (st : Step β₀ h₀ w₀ β h w) : Step β₀ h₀ w₀ β (h.push q) w :=
  ⟨st.place, fun b hb e => ⟨(st.stays b hb e).1, by rw [Heap.get_push_ne _ _ (by have := st.next; omega)]; exact (st.stays b hb e).2⟩, by have := st.next; simp; omega,
    fun b o' hb g => st.live b o' hb (by rwa [Heap.get_push_ne _ _ (by have := st.next; omega)] at g), st.new, st.os, st.tape, st.output, st.size, st.frame, st.loops⟩
theorem Step.placed {β₀ : Place} {h₀ : Heap} {w₀ : World} {β : Place} {h : Heap} {w w' : World} {b : Nat} {s : Sh} {mo : Obj} (st : Step β₀ h₀ w₀ β h w) (hb : β b = none) (hge : h₀.next ≤ b)
    (hh : w'.heap = w.heap.push mo) (hos : w'.os = w.os) (htp : w'.tape = w.tape) (hout : w'.output = w.output) : Step β₀ h₀ w₀ (β.add b w.heap.size s) h w' := by
  refine ⟨fun c x e => Place.add_mono _ _ hb _ _ (st.place c x e), fun c hc e => ⟨?_, (st.stays c hc e).2⟩, st.next, st.live, fun c m s' e e' => ?_, hos.trans st.os, htp.trans st.tape, hout.trans st.output, ?_, fun k hk hn => ?_, fun k r e => ?_⟩
  · rw [Place.add_ne _ _ _ (by omega)]; exact (st.stays c hc e).1
  · by_cases hc : c = b
    · subst hc
      rw [Place.add_same] at e'
      cases e'
      exact .inl st.size
    · rw [Place.add_ne _ _ _ hc] at e'
      exact st.new c m s' e e'
  · rw [hh]; simp; have := st.size; omega
  · have := st.size
    rw [hh, Array.getElem?_push, if_neg (by omega)]
    exact st.frame k hk hn
  · obtain ⟨r', e'⟩ := st.loops k r e
    exact ⟨r', by rw [hh, Array.getElem?_push, if_neg (by have := (Array.getElem?_eq_some_iff.1 e').1; omega)]; exact e'⟩

/-- What stays of a float when more slots are filled and more is made. -/
theorem PendV.keep {a a' : Frm} {h h' : Heap} {β β' : Place} {blk : Option Nat} {o : Oper} {v : Value} (hp : PendV P ops a h β blk o v)
    (hl : ∀ t, t ∈ o.looksAt ops → a'.get t = a.get t) (hread : wantF ops o a = some true → readV P o.op a.ev h = some v → readV P o.op a'.ev h' = some v)
    (hb : ∀ b q, blk = some b → h.get b = some q → β b = none → h'.get b = some q ∧ β' b = none) : PendV P ops a' h' β' blk o v := by
  cases hp with
  | no hw hv => exact .no (by rw [want_same hl]; exact hw) hv
  | read hw hv => exact .read (by rw [want_same hl]; exact hw) (hread hw hv)
  | new hw b q mk hbl hn hv hg hb' =>
    obtain ⟨h1, h2⟩ := hb b q hbl hg hb'
    exact .new (by rw [want_same hl]; exact hw) b q mk hbl (by rw [newV_ext (ev_same hl)]; exact hn) hv h1 h2

variable {ro : Option Nat} {D : List Deferred} {β₀ : Place} {h₀ : Heap} {w₀ : World} {pre : List Nat} {a : Frm} {h : Heap} {pend : List Nat} {blk : Nat → Option Nat} {β : Place} {S : Nat → Prop} {m : Act} {w : World}

/-- Who is ready sees what there is to see. -/
theorem Amid.sees (A : Amid P ops T D β₀ h₀ w₀ pre a h pend blk β S m w) (G : Glob P ops T) {i : Nat} (hi : i < ops.size) (hp : ∀ p ∈ preds (opAt ops i), S p) (hf : i ∈ pend ∨ i ∉ pend ∧ i ∉ pre) : ARel D β (only ((opAt ops i).looksAt ops) a) m := by
  refine ⟨A.defers, A.size, fun t v e => ?_⟩
  rw [only_get] at e
  by_cases ht : t ∈ (opAt ops i).looksAt ops
  · rw [if_pos ht] at e
    refine A.slots t v e fun j hj hd => ?_
    obtain ⟨hjp, hja⟩ := A.sub j hj
    by_cases hij : j = i
    · subst hij
      exact G.self j hi hja t hd ht
    · have := (G.flt j i (A.lt j hjp) hi hij hja t hd).2 ht
      have := G.cc i hi S A.closed hp j this
      exact ((A.done j).1 this).2 hj
  · rw [if_neg ht] at e; cases e

theorem opAt_some {i : Nat} (hi : i < ops.size) : ops[i]? = some (opAt ops i) := by
  unfold opAt
  rw [Array.getD_eq_getD_getElem?, Array.getElem?_eq_getElem hi]
  rfl

theorem act_put_tmps (m : Act) (d : Option Tmp) (v : Value) : (m.put d v).tmps = match d with | some t => m.tmps.setIfInBounds t v | none => m.tmps := by
  unfold Act.put
  cases d <;> rfl
theorem act_put_defers (m : Act) (d : Option Tmp) (v : Value) : (m.put d v).defers = m.defers := by
  unfold Act.put
  cases d <;> rfl
theorem act_put_size (m : Act) (d : Option Tmp) (v : Value) : (m.put d v).tmps.size = m.tmps.size := by
  rw [act_put_tmps]
  cases d <;> simp
theorem act_put_get (m : Act) (d : Option Tmp) (v : Value) (t : Nat) : (m.put d v).tmps[t]? = if d = some t ∧ t < m.tmps.size then some v else m.tmps[t]? := by
  rw [act_put_tmps]
  cases d with
  | none => simp
  | some u =>
    by_cases e : u = t
    · subst e
      by_cases hl : u < m.tmps.size
      · simp [hl]
      · simp [hl]
    · simp [e]

/-- The float i has been done by the machine. -/
theorem Amid.caught (A : Amid P ops T D β₀ h₀ w₀ pre a h pend blk β S m w) {i : Nat} (hi : i ∈ pend) (hp : ∀ p ∈ preds (opAt ops i), S p) {v mv : Value} {β' : Place} {w' : World}
    (hslot : ∀ t, (opAt ops i).dst = some t → t < a.n → a.get t = some v)
    (hβ : ∀ b x, β b = some x → β' b = some x) (hv : VRel β' v mv) (hr : Rel P β' h w') (st : Step β₀ h₀ w₀ β' h w') (hb : ∀ j ∈ pend, j ≠ i → ∀ b, blk j = some b → β b = none → β' b = none)
    {S' : Nat → Prop} (hS : ∀ j, S' j ↔ S j ∨ j = i) : Amid P ops T D β₀ h₀ w₀ pre a h (pend.filter (· ≠ i)) blk β' S' (m.put (opAt ops i).dst mv) w' := by
  have hmem : ∀ j, j ∈ pend.filter (· ≠ i) ↔ j ∈ pend ∧ j ≠ i := fun j => by simp
  refine ⟨fun j => ?_, fun j hj p hp' => ?_, fun j hj => A.sub j ((hmem j).1 hj).1, A.lt, A.tpre, by rw [act_put_defers]; exact A.defers, by rw [act_put_size]; exact A.size, A.low, fun t u e hn => ?_, hr, st, fun j hj => ?_,
    fun j hj k hk => A.apart j ((hmem j).1 hj).1 k ((hmem k).1 hk).1, fun j hj => A.fresh j ((hmem j).1 hj).1⟩
  · rw [hS, A.done, hmem]
    constructor
    · rintro (⟨h1, h2⟩ | rfl)
      · exact ⟨h1, fun q => h2 q.1⟩
      · exact ⟨(A.sub j hi).1, fun q => q.2 rfl⟩
    · rintro ⟨h1, h2⟩
      by_cases e : j = i
      · exact .inr e
      · exact .inl ⟨h1, fun q => h2 ⟨q, e⟩⟩
  · rcases (hS j).1 hj with h1 | rfl
    · exact (hS p).2 (.inl (A.closed j h1 p hp'))
    · exact (hS p).2 (.inl (hp p hp'))
  · rw [act_put_get]
    by_cases hd : (opAt ops i).dst = some t
    · have hlt := A.low t u e
      rw [if_pos ⟨hd, by rw [A.size]; exact hlt⟩]
      have := hslot t hd hlt
      rw [e] at this
      cases this
      exact ⟨mv, rfl, hv⟩
    · rw [if_neg (fun q => hd q.1)]
      obtain ⟨mu, e1, r⟩ := A.slots t u e fun j hj hdj => by
        by_cases hji : j = i
        · subst hji; exact hd hdj
        · exact hn j ((hmem j).2 ⟨hj, hji⟩) hdj
      exact ⟨mu, e1, r.mono hβ⟩
  · obtain ⟨h1, h2⟩ := (hmem j).1 hj
    obtain ⟨u, hp1, hs⟩ := A.pends j h1
    exact ⟨u, hp1.keep (fun _ _ => rfl) (fun _ q => q) (fun b q hbl hg hbn => ⟨hg, hb j h1 h2 b hbl hbn⟩), hs⟩

theorem Amid.catch (A : Amid P ops T D β₀ h₀ w₀ pre a h pend blk β S m w) (G : Glob P ops T) {i : Nat} (hi : i ∈ pend) (hp : ∀ p ∈ preds (opAt ops i), S p) {next : Act → World → Prop}
    {S' : Nat → Prop} (hS : ∀ j, S' j ↔ S j ∨ j = i) (hn : ∀ β' m' w', Amid P ops T D β₀ h₀ w₀ pre a h (pend.filter (· ≠ i)) blk β' S' m' w' → next m' w') : ItemS ro P ops i next m w := by
  have hlt := A.lt i (A.sub i hi).1
  have hsee := A.sees G hlt hp (.inl hi)
  obtain ⟨v, hpv, hslot⟩ := A.pends i hi
  cases hpv with
  | no hw hv =>
    subst hv
    have hw' := wantF_sound hsee (by rw [want_same only_same]; exact hw)
    exact itemS_no (opAt_some hlt) hw' (hn _ _ _ (A.caught hi hp hslot (fun _ _ e => e) VRel.undef A.rel A.step (fun _ _ _ _ _ e => e) hS))
  | read hw hv =>
    have hw' := wantF_sound hsee (by rw [want_same only_same]; exact hw)
    obtain ⟨mv, hrun, hvr⟩ := readV_sound hsee.rho A.rel (by rw [readV_ext (ev_same only_same)]; exact hv)
    exact itemS_do (opAt_some hlt) hw' (opS_value (fun c hc => by rw [hc] at hv; simp [readV, pureV] at hv) hrun (hn _ _ _ (A.caught hi hp hslot (fun _ _ e => e) hvr A.rel A.step (fun _ _ _ _ _ e => e) hS)))
  | new hw b q mk hbl hnew hv hg hb =>
    subst hv
    have hw' := wantF_sound hsee (by rw [want_same only_same]; exact hw)
    obtain ⟨mv, w', s, hrun, hN⟩ := newV_sound (P := P) (o := opAt ops i) hsee.rho (by rw [newV_ext (ev_same only_same)]; exact hnew) w
    obtain ⟨mo, hmo⟩ := hN.heap
    have hmono := Place.add_mono w.heap.size s hb
    obtain ⟨hvr, ho⟩ := hN.rel (β.add b w.heap.size s) b hmono (Place.add_same _ _ _ _)
    refine itemS_do (opAt_some hlt) hw' (opS_value (fun c hc => by rw [hc] at hnew; simp [newV] at hnew) hrun ?_)
    refine hn _ _ _ (A.caught hi hp hslot hmono hvr (A.rel.mapped hb (h.wf _ _ hg) hg hmo ho) (A.step.placed hb (A.fresh i hi b hbl).1 hmo hN.os hN.tape hN.output) (fun j hj hne b' hbl' hb' => ?_) hS)
    rw [Place.add_ne _ _ _ (fun e => hne (A.apart j hj i hi b (by rw [← e]; exact hbl') hbl))]
    exact hb'

/-- The canonical run goes on by a float. -/
theorem Amid.float (A : Amid P ops T D β₀ h₀ w₀ pre a h pend blk β S m w) (G : Glob P ops T) {i : Nat} {ks : List Nat} {r : List (Nat × List Nat)} (O : OkGo P ops T pre i ks r) (ha : acts (opAt ops i).op = false)
    {v : Value} {h' : Heap} {bl : Option Nat} (hp : PendV P ops a h' β bl (opAt ops i) v) (hh : (h' = h ∧ bl = none) ∨ ∃ q, h' = h.push q ∧ bl = some h.next) :
    Amid P ops T D β₀ h₀ w₀ (pre ++ [i]) (a.put (opAt ops i).dst v) h' (i :: pend) (fun j => if j = i then bl else blk j) β S m w := by
  have hni : i ∉ pend := fun q => O.new (A.sub i q).1
  have hself := G.self i O.lt ha
  have hkeep : ∀ t, t ∈ (opAt ops i).looksAt ops → (a.put (opAt ops i).dst v).get t = a.get t := fun t ht => by
    rw [get_put, if_neg]
    rintro ⟨h1, _⟩
    exact hself t h1 ht
  have hstep : Step β₀ h₀ w₀ β h' w := by
    rcases hh with ⟨rfl, _⟩ | ⟨q, rfl, _⟩
    · exact A.step
    · exact A.step.push
  have hrel : Rel P β h' w := by
    rcases hh with ⟨rfl, _⟩ | ⟨q, rfl, _⟩
    · exact A.rel
    · exact A.rel.push q
  have hne : ∀ j ∈ pend, j ≠ i := fun j hj e => hni (e ▸ hj)
  refine ⟨fun j => ?_, A.closed, fun j hj => ?_, fun j hj => ?_, fun j hj k hk => ?_, A.defers, by rw [put_n]; exact A.size, fun t u e => ?_, fun t u e hn => ?_, hrel, hstep, fun j hj => ?_, fun j hj k hk b e e' => ?_, fun j hj b e => ?_⟩
  · rw [A.done]
    simp only [List.mem_append, List.mem_cons, List.not_mem_nil, or_false, not_or]
    constructor
    · rintro ⟨h1, h2⟩
      exact ⟨.inl h1, fun e => O.new (e ▸ h1), h2⟩
    · rintro ⟨h1 | h1, h2, h3⟩
      · exact ⟨h1, h3⟩
      · exact absurd h1 h2
  · rcases List.mem_cons.1 hj with rfl | hj
    · exact ⟨by simp, ha⟩
    · exact ⟨by simp [(A.sub j hj).1], (A.sub j hj).2⟩
  · rcases List.mem_append.1 hj with h1 | h1
    · exact A.lt j h1
    · rw [List.mem_singleton.1 h1]; exact O.lt
  · rcases List.mem_append.1 hj with h1 | h1
    · exact List.mem_append_left _ (A.tpre j h1 k hk)
    · rw [List.mem_singleton.1 h1] at hk
      exact List.mem_append_left _ (O.tpre k hk).1
  · rw [put_n]
    rw [get_put] at e
    split at e
    · rename_i q; exact q.2
    · exact A.low t u e
  · rw [get_put, if_neg (fun q => hn i (by simp) q.1)] at e
    exact A.slots t u e fun j hj => hn j (by simp [hj])
  · rcases List.mem_cons.1 hj with rfl | hj
    · rw [if_pos rfl]
      refine ⟨v, ?_, fun t e hlt => ?_⟩
      · refine hp.keep hkeep (fun hw hv => ?_) (fun b q _ hg hb => ⟨hg, hb⟩)
        rw [readV_ext (ev_same hkeep)]; exact hv
      · rw [get_put, if_pos ⟨e, by rwa [put_n] at hlt⟩]
    · obtain ⟨u, hp1, hs⟩ := A.pends j hj
      obtain ⟨hjp, hja⟩ := A.sub j hj
      rw [if_neg (hne j hj)]
      have hkj : ∀ t, t ∈ (opAt ops j).looksAt ops → (a.put (opAt ops i).dst v).get t = a.get t := fun t ht => by
        rw [get_put, if_neg]
        rintro ⟨h1, _⟩
        exact O.new (A.tpre j hjp i ((G.flt i j O.lt (A.lt j hjp) (hne j hj).symm ha t h1).2 ht))
      refine ⟨u, hp1.keep hkj (fun hw hv => ?_) (fun b q _ hg hb => ?_), fun t e hlt => ?_⟩
      · rw [readV_ext (ev_same hkj)]
        rcases hh with ⟨rfl, _⟩ | ⟨q, rfl, _⟩
        · exact hv
        · exact readV_push hv
      · rcases hh with ⟨rfl, _⟩ | ⟨q, rfl, _⟩
        · exact ⟨hg, hb⟩
        · exact ⟨Heap.get_push_of hg, hb⟩
      · rw [put_n] at hlt
        rw [get_put, if_neg]
        · exact hs t e hlt
        · rintro ⟨h1, _⟩
          exact (G.flt i j O.lt (A.lt j hjp) (hne j hj).symm ha t h1).1 e
  · have old : ∀ j ∈ pend, ∀ b, blk j = some b → bl = some b → False := fun j hj b e1 e2 => by
      have := (A.fresh j hj b e1).2
      rcases hh with ⟨_, hbl⟩ | ⟨q, _, hbl⟩
      · rw [hbl] at e2; cases e2
      · rw [hbl] at e2; cases e2; omega
    rcases List.mem_cons.1 hj with rfl | hj1
    · rcases List.mem_cons.1 hk with rfl | hk1
      · rfl
      · rw [if_pos rfl] at e
        rw [if_neg (hne k hk1)] at e'
        exact (old k hk1 b e' e).elim
    · rw [if_neg (hne j hj1)] at e
      rcases List.mem_cons.1 hk with rfl | hk1
      · rw [if_pos rfl] at e'
        exact (old j hj1 b e e').elim
      · rw [if_neg (hne k hk1)] at e'
        exact A.apart j hj1 k hk1 b e e'
  · have hnx : h.next ≤ h'.next := by
      rcases hh with ⟨rfl, _⟩ | ⟨q, rfl, _⟩
      · exact Nat.le_refl _
      · simp
    rcases List.mem_cons.1 hj with rfl | hj1
    · rw [if_pos rfl] at e
      rcases hh with ⟨_, hbl⟩ | ⟨q, rfl, hbl⟩
      · rw [hbl] at e; cases e
      · rw [hbl] at e; cases e
        exact ⟨A.step.next, by simp⟩
    · rw [if_neg (hne j hj1)] at e
      have := A.fresh j hj1 b e
      exact ⟨this.1, Nat.lt_of_lt_of_le this.2 hnx⟩

/-- An actor has been done, by both. -/
theorem Amid.acted (A : Amid P ops T D β₀ h₀ w₀ pre a h pend blk β S m w) (G : Glob P ops T) (hr₀ : Rel P β₀ h₀ w₀) {i : Nat} {ks : List Nat} {r : List (Nat × List Nat)} (O : OkGo P ops T pre i ks r) (ha : acts (opAt ops i).op = true)
    (hp : ∀ p ∈ preds (opAt ops i), S p) {v mv : Value} {h' : Heap} {β' : Place} {w' : World} (hv : VRel β' v mv) (hr : Rel P β' h' w') (st : Step β h w β' h' w')
    (hc : chkAll P (a.put (opAt ops i).dst v) h' (ks.map fun k => stripC ops (opAt ops k)))
    {S' : Nat → Prop} (hS : ∀ j, S' j ↔ S j ∨ j = i) : Amid P ops T D β₀ h₀ w₀ (pre ++ [i]) (a.put (opAt ops i).dst v) h' pend blk β' S' (m.put (opAt ops i).dst mv) w' := by
  have hni : i ∉ pend := fun q => O.new (A.sub i q).1
  have hne : ∀ j ∈ pend, j ≠ i := fun j hj e => hni (e ▸ hj)
  have hcc := G.cc i O.lt S A.closed hp
  have hfar : ∀ j ∈ pend, ∀ d, (opAt ops i).dst = some d → d ∉ (opAt ops j).looksAt ops ∧ (opAt ops j).dst ≠ some d := fun j hj d hd => by
    obtain ⟨hjp, hja⟩ := A.sub j hj
    rcases G.act i j O.lt (A.lt j hjp) (hne j hj).symm ha d hd with h1 | h1 | h1
    · exact h1
    · exact absurd hj ((A.done j).1 (hcc j h1)).2
    · exact absurd (A.tpre j hjp i h1) O.new
  have hck : ∀ k ∈ ks, chkF P (stripC ops (opAt ops k)) (a.put (opAt ops i).dst v) h' := by
    clear O
    induction ks with
    | nil => simp
    | cons k ks ih =>
      intro j hj
      rcases List.mem_cons.1 hj with rfl | hj
      · exact hc.1
      · exact ih hc.2 j hj
  refine ⟨fun j => ?_, fun j hj p hp' => ?_, fun j hj => ?_, fun j hj => ?_, fun j hj k hk => ?_, by rw [act_put_defers]; exact A.defers, by rw [act_put_size, put_n]; exact A.size, fun t u e => ?_, fun t u e hn => ?_, hr, A.step.trans hr₀ st, fun j hj => ?_, A.apart, fun j hj b e => ?_⟩
  · rw [hS, A.done]
    simp only [List.mem_append, List.mem_singleton]
    constructor
    · rintro (⟨h1, h2⟩ | rfl)
      · exact ⟨.inl h1, h2⟩
      · exact ⟨.inr rfl, hni⟩
    · rintro ⟨h1 | h1, h2⟩
      · exact .inl ⟨h1, h2⟩
      · exact .inr h1
  · rcases (hS j).1 hj with h1 | rfl
    · exact (hS p).2 (.inl (A.closed j h1 p hp'))
    · exact (hS p).2 (.inl (hp p hp'))
  · exact ⟨List.mem_append_left _ (A.sub j hj).1, (A.sub j hj).2⟩
  · rcases List.mem_append.1 hj with h1 | h1
    · exact A.lt j h1
    · rw [List.mem_singleton.1 h1]; exact O.lt
  · rcases List.mem_append.1 hj with h1 | h1
    · exact List.mem_append_left _ (A.tpre j h1 k hk)
    · rw [List.mem_singleton.1 h1] at hk
      exact List.mem_append_left _ (O.tpre k hk).1
  · rw [put_n]
    rw [get_put] at e
    split at e
    · rename_i q; exact q.2
    · exact A.low t u e
  · rw [get_put] at e
    rw [act_put_get, A.size]
    by_cases hd : (opAt ops i).dst = some t ∧ t < a.n
    · rw [if_pos hd] at e ⊢
      cases e
      exact ⟨mv, rfl, hv⟩
    · rw [if_neg hd] at e ⊢
      obtain ⟨mu, e1, r1⟩ := A.slots t u e hn
      exact ⟨mu, e1, r1.mono st.place⟩
  · obtain ⟨u, hp1, hs⟩ := A.pends j hj
    obtain ⟨hjp, hja⟩ := A.sub j hj
    have hkj : ∀ t, t ∈ (opAt ops j).looksAt ops → (a.put (opAt ops i).dst v).get t = a.get t := fun t ht => by
      rw [get_put, if_neg]
      rintro ⟨h1, _⟩
      exact (hfar j hj t h1).1 ht
    have hsj : ∀ t, (opAt ops j).dst = some t → (a.put (opAt ops i).dst v).get t = a.get t := fun t ht => by
      rw [get_put, if_neg]
      rintro ⟨h1, _⟩
      exact (hfar j hj t h1).2 ht
    refine ⟨u, hp1.keep hkj (fun hw hv => ?_) (fun b q hbl hg hb => ?_), fun t e hlt => ?_⟩
    · by_cases hm : readsMem P (opAt ops j).op = true
      · rcases O.chk ha j hjp hja hm with h1 | h1
        · exact absurd hj ((A.done j).1 (hcc j h1)).2
        · have hcj := hck j h1
          have hfin : ((slotV (a.put (opAt ops i).dst v) (opAt ops j).dst).isSome = true ∧ readV P (opAt ops j).op (a.put (opAt ops i).dst v).ev h' = slotV (a.put (opAt ops i).dst v) (opAt ops j).dst) → readV P (opAt ops j).op (a.put (opAt ops i).dst v).ev h' = some u := by
            rintro ⟨h2, h3⟩
            rw [h3]
            cases hd : (opAt ops j).dst with
            | none => rw [hd] at h2; simp [slotV] at h2
            | some t =>
              rw [hd] at h2
              simp only [slotV] at h2 ⊢
              rw [hsj t hd] at h2 ⊢
              cases hg : a.get t with
              | none => rw [hg] at h2; cases h2
              | some u' => rw [← hg]; exact hs t hd (A.low t u' hg)
          unfold chkF at hcj
          simp only [stripC] at hcj
          cases hgd : (opAt ops j).guard with
          | none => simp only [hgd, Option.map_none] at hcj; exact hfin hcj
          | some p =>
            obtain ⟨g, want⟩ := p
            simp only [hgd, Option.map_some] at hcj
            rcases hcj with h2 | h2
            · have h3 : wantF ops (opAt ops j) (a.put (opAt ops i).dst v) = some false := by
                unfold wantF
                simp only [hgd]
                exact h2
              rw [want_same hkj, hw] at h3
              cases h3
            · exact hfin h2
      · rw [readV_ext (ev_same hkj), readV_far (h' := h) (by simpa using hm)]
        exact hv
    · obtain ⟨h1, h2⟩ := st.stays b (h.wf _ _ hg) hb
      exact ⟨h2.trans hg, h1⟩
    · rw [put_n] at hlt
      rw [hsj t e]
      exact hs t e hlt
  · have := A.fresh j hj b e
    exact ⟨this.1, Nat.lt_of_lt_of_le this.2 st.next⟩

theorem Amid.act (A : Amid P ops T D β₀ h₀ w₀ pre a h pend blk β S m w) (G : Glob P ops T) (hr₀ : Rel P β₀ h₀ w₀) {i : Nat} {ks : List Nat} {r : List (Nat × List Nat)} (O : OkGo P ops T pre i ks r) (ha : acts (opAt ops i).op = true)
    (hp : ∀ p ∈ preds (opAt ops i), S p) {next : Act → World → Prop} {K : Frm → Heap → Prop} {S' : Nat → Prop} (hS : ∀ j, S' j ↔ S j ∨ j = i)
    (hw : cWp P [stripC ops (opAt ops i)] (fun a h => chkAll P a h (ks.map fun k => stripC ops (opAt ops k)) ∧ K a h) a h)
    (hn : ∀ a' h' β' m' w', K a' h' → Amid P ops T D β₀ h₀ w₀ (pre ++ [i]) a' h' pend blk β' S' m' w' → next m' w') : ItemS ro P ops i next m w := by
  have hni : i ∉ pend := fun q => O.new (A.sub i q).1
  have hsee := A.sees G O.lt hp (.inr ⟨hni, O.new⟩)
  rcases cWp_want hw with ⟨h1, h2⟩ | ⟨h1, h2, h3⟩
  · have hw' := wantF_sound hsee (by rw [want_same only_same]; exact h1)
    refine itemS_do (opAt_some O.lt) hw' (opWp_sound hsee.rho A.rel (by rw [opWp_ext (ev_same only_same)]; exact h2) ?_)
    rintro v h' β' mv w' ⟨hc, hK⟩ hv hr st
    exact hn _ _ _ _ _ hK (A.acted G hr₀ O ha hp hv hr st hc hS)
  · have hw' := wantF_sound hsee (by rw [want_same only_same]; exact h1)
    exact itemS_no (opAt_some O.lt) hw' (hn _ _ _ _ _ h3 (A.acted G hr₀ O ha hp VRel.undef A.rel (Step.refl _ _ _) h2 hS))
end
end Go.Sim
