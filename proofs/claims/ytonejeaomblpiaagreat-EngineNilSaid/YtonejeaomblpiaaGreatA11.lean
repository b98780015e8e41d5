/- The logic as rewriting: codeWp, and an equation for each kind of operation. -/
import Derived.Test.YtonejeaomblpiaaGreatA10
set_option linter.unusedSimpArgs false
set_option linter.unusedVariables false
set_option linter.defProp false
namespace Go.Sim
open Go.RowKit

def withV (o : Option Value) (f : Value → Prop) : Prop := match o with | some v => f v | none => False
theorem withV_some (v : Value) (f : Value → Prop) : withV (some v) f = f v := rfl
theorem withV_congr {o o' : Option Value} {f : Value → Prop} (h : o = o') : withV o f = withV o' f := by rw [h]
def condWp (o : Option Value) (A B : Prop) : Prop := match o with | some (.bool b) => (b = true → A) ∧ (b = false → B) | _ => False
theorem condWp_congr {o o' : Option Value} {A B : Prop} (h : o = o') : condWp o A B = condWp o' A B := by rw [h]
theorem condWp_true (A B : Prop) : condWp (some (.bool true)) A B = A := by simp [condWp]
theorem condWp_false (A B : Prop) : condWp (some (.bool false)) A B = B := by simp [condWp]
theorem cond_split {b : Bool} {A B : Prop} (h1 : b = true → A) (h2 : b = false → B) : condWp (some (.bool b)) A B := ⟨h1, h2⟩
def guardWp (o : Option Bool) (A B : Prop) : Prop := match o with | some b => (b = true → A) ∧ (b = false → B) | none => False
theorem guardWp_congr {o o' : Option Bool} {A B : Prop} (h : o = o') : guardWp o A B = guardWp o' A B := by rw [h]
theorem guardWp_true (A B : Prop) : guardWp (some true) A B = A := by simp [guardWp]
theorem guardWp_false (A B : Prop) : guardWp (some false) A B = B := by simp [guardWp]
theorem guard_split {b : Bool} {A B : Prop} (h1 : b = true → A) (h2 : b = false → B) : guardWp (some b) A B := ⟨h1, h2⟩

/-- An operation without what isn't needed here; its guard is told by the slot. -/
structure C where
  d : Option Tmp
  op : Op
  g : Option (Option Tmp × Bool)
def stripC (ops : Array Oper) (o : Oper) : C := ⟨o.dst, o.op, o.guard.map fun p => ((ops[p.1]?).bind (·.dst), p.2)⟩
/-- A guard's value. -/
def guardV (t : Option Tmp) (want : Bool) (a : Frm) : Option Bool :=
  match t with
  | some t => match a.get t with
    | some (.bool b) => some (if want then b else !b)
    | some (.tuple _) => some false
    | _ => none
  | none => none
def guardOf (o : Option Value) (want : Bool) : Option Bool := match o with | some (.bool b) => some (if want then b else !b) | some (.tuple _) => some false | _ => none
def cWp (P : Program) : List C → (Frm → Heap → Prop) → Frm → Heap → Prop
  | [], K, a, h => K a h
  | c :: r, K, a, h =>
    match c.g with
    | none => opWp P c.op a.ev h (fun v h' => cWp P r K (a.put c.d v) h')
    | some (t, want) => guardWp (guardV t want a) (opWp P c.op a.ev h (fun v h' => cWp P r K (a.put c.d v) h')) (cWp P r K (a.put c.d undef) h)

theorem guardV_sound {D : List Deferred} {β : Place} {ops : Array Oper} {o : Oper} {m : Act} {a : Frm} {g : Nat} {want b : Bool} (ha : ARel D β a m) (hg : o.guard = some (g, want)) (hv : guardV ((ops[g]?).bind (·.dst)) want a = some b) :
    Region.wanted o (yielded ops m.tmps) = b := by
  unfold guardV at hv
  unfold Region.wanted
  simp only [hg]
  split at hv
  · rename_i t ht
    split at hv
    · rename_i c hc
      cases hv
      obtain ⟨mv, e, r⟩ := ha.rel t _ hc
      cases r
      have : yielded ops m.tmps g = some c := by simp [yielded, ht, e]
      rw [this]
      cases c <;> cases want <;> rfl
    · rename_i c hc
      cases hv
      obtain ⟨mv, e, r⟩ := ha.rel t _ hc
      obtain ⟨xs, rfl, _⟩ := VRel.tuple_iff.1 r
      have : yielded ops m.tmps g = none := by simp [yielded, ht, e]
      rw [this]
      rfl
    · cases hv
  · cases hv

theorem cWp_sound {ro : Option Nat} {P : Program} {ops : Array Oper} {K : Frm → Heap → Prop} {R : Act → World → Prop} : ∀ (l : List Oper) (k : Nat) (hk : ∀ j, l[j]? = ops[k + j]?) {D : List Deferred} {a : Frm} {h : Heap} {β : Place} {m : Act} {w : World}, ARel D β a m → Rel P β h w → cWp P (l.map (stripC ops)) K a h →
    (∀ a' h' β' m' w', K a' h' → ARel D β' a' m' → Rel P β' h' w' → Step β h w β' h' w' → R m' w') → RegS ro P ops R (List.range' k l.length) m w
  | [], k, hk, D, a, h, β, m, w, ha, hr, hl, hR => regS_nil (hR a h β m w hl ha hr (Step.refl _ _ _))
  | o :: r, k, hk, D, a, h, β, m, w, ha, hr, hl, hR => by
    have h0 : ops[k]? = some o := by simpa using (hk 0).symm
    have hk' : ∀ j, r[j]? = ops[k + 1 + j]? := fun j => by have := hk (j + 1); simpa [Nat.add_assoc, Nat.add_comm 1 j] using this
    have go : opWp P o.op a.ev h (fun v h' => cWp P (r.map (stripC ops)) K (a.put o.dst v) h') → OpS ro P o m w (RegS ro P ops R (List.range' (k + 1) r.length)) := fun hop => opWp_sound ha.rho hr hop (by
      intro v h' β' mv w' hK hv hr' st
      exact cWp_sound r (k + 1) hk' ((ha.mono st.place).put hv o.dst) hr' hK fun a2 h2 β2 m2 w2 k x y z => hR a2 h2 β2 m2 w2 k x y (st.trans hr z))
    rw [List.length_cons, List.range'_succ]
    simp only [List.map_cons, cWp, stripC] at hl
    cases hg : o.guard with
    | none =>
      simp only [hg, Option.map_none] at hl
      exact regS_cons (itemS_do h0 (by simp [Region.wanted, hg]) (go hl))
    | some p =>
      obtain ⟨g, want⟩ := p
      simp only [hg, Option.map_some] at hl
      cases hv : guardV ((ops[g]?).bind (·.dst)) want a with
      | none => rw [hv] at hl; exact hl.elim
      | some b =>
        rw [hv] at hl
        have hw := guardV_sound ha hg hv
        cases b
        · exact regS_cons (itemS_no h0 hw (cWp_sound r (k + 1) hk' (ha.put VRel.undef o.dst) hr (hl.2 rfl) hR))
        · exact regS_cons (itemS_do h0 hw (go (hl.1 rfl)))
theorem awp_region_c {P : Program} {Q : Exit → Frm → Heap → Prop} {a : Frm} {h : Heap} {id : Nat} {ops : Array Oper} (hl : cWp P (ops.toList.map (stripC ops)) (Q .normal) a h) : AWp P (.region id ops false) Q a h :=
  fun ro D β m w ha hr ok => regS_region (by
    rw [List.range_eq_range', ← Array.length_toList]
    exact cWp_sound ops.toList 0 (fun j => by simp) ha hr hl fun a' h' β' m' w' q x y z => ⟨a', h', β', D, x, y, .of z, q⟩)

/-- The same, not to be rewritten yet. -/
def cHold (P : Program) (l : List C) (K : Frm → Heap → Prop) (a : Frm) (h : Heap) : Prop := cWp P l K a h
theorem list_go {P : Program} {l : List C} {K : Frm → Heap → Prop} {a : Frm} {h : Heap} (q : cWp P l K a h) : cHold P l K a h := q
theorem guard_true_hold (P : Program) (l : List C) (K : Frm → Heap → Prop) (a : Frm) (h : Heap) (B : Prop) : guardWp (some true) (cHold P l K a h) B = cWp P l K a h := by simp [guardWp, cHold]
theorem guard_false_hold (P : Program) (l : List C) (K : Frm → Heap → Prop) (a : Frm) (h : Heap) (A : Prop) : guardWp (some false) A (cHold P l K a h) = cWp P l K a h := by simp [guardWp, cHold]
theorem cWp_nil (P : Program) (K : Frm → Heap → Prop) (a : Frm) (h : Heap) : cWp P [] K a h = K a h := rfl
theorem cWp_guard (P : Program) (d : Option Tmp) (op : Op) (t : Option Tmp) (want : Bool) (r : List C) (K : Frm → Heap → Prop) (a : Frm) (h : Heap) :
    cWp P (⟨d, op, some (t, want)⟩ :: r) K a h = guardWp (guardV t want a) (cHold P (⟨d, op, none⟩ :: r) K a h) (cHold P r K (a.put d undef) h) := rfl

/-- Code, as far as it is straight. -/
def codeWp (P : Program) : Code → (Exit → Frm → Heap → Prop) → Frm → Heap → Prop
  | .skip, Q, a, h => Q .normal a h
  | .region id ops d, Q, a, h => if d then AWp P (.region id ops true) Q a h else cWp P (ops.toList.map (stripC ops)) (Q .normal) a h
  | .seq x y, Q, a, h => codeWp P x (thenQ (codeWp P y Q) Q) a h
  | .cond c x y, Q, a, h => condWp (a.ev c) (codeWp P x Q a h) (codeWp P y Q a h)
  | .block id c, Q, a, h => codeWp P c (blockQ id Q) a h
  | .exit id, Q, a, h => Q (.exit id) a h
  | .ret, Q, a, h => Q .ret a h
  | .label _, Q, a, h => Q .normal a h
  | .goto l, Q, a, h => Q (.goto l) a h
  | .loop c, Q, a, h => AWp P (.loop c) Q a h
  | .rangeFunc f ps x y, Q, a, h => AWp P (.rangeFunc f ps x y) Q a h
  | .scope c, Q, a, h => AWp P (.scope c) Q a h
  | .refuse s, Q, a, h => AWp P (.refuse s) Q a h

def codeHold (P : Program) (c : Code) (Q : Exit → Frm → Heap → Prop) (a : Frm) (h : Heap) : Prop := codeWp P c Q a h
theorem code_go {P : Program} {c : Code} {Q : Exit → Frm → Heap → Prop} {a : Frm} {h : Heap} (q : codeWp P c Q a h) : codeHold P c Q a h := q
theorem cond_true_hold (P : Program) (c : Code) (Q : Exit → Frm → Heap → Prop) (a : Frm) (h : Heap) (B : Prop) : condWp (some (.bool true)) (codeHold P c Q a h) B = codeWp P c Q a h := by simp [condWp, codeHold]
theorem cond_false_hold (P : Program) (c : Code) (Q : Exit → Frm → Heap → Prop) (a : Frm) (h : Heap) (A : Prop) : condWp (some (.bool false)) A (codeHold P c Q a h) = codeWp P c Q a h := by simp [condWp, codeHold]

theorem codeWp_sound {P : Program} : ∀ (c : Code) {Q : Exit → Frm → Heap → Prop} {a : Frm} {h : Heap}, codeWp P c Q a h → AWp P c Q a h
  | .skip, _, _, _, q => awp_skip q
  | .region id ops true, _, _, _, q => by simpa [codeWp] using q
  | .region id ops false, _, _, _, q => awp_region_c (by simpa [codeWp] using q)
  | .seq x y, Q, a, h, q => awp_seq_k fun K hK => (codeWp_sound x q).mono fun e a h r => by
      cases e <;> first | exact hK _ _ (codeWp_sound y r) | exact r
  | .cond c x y, Q, a, h, q => by
    unfold codeWp at q
    cases hc : a.ev c with
    | none => rw [hc] at q; exact q.elim
    | some v =>
      rw [hc] at q
      cases v <;> try (exact q.elim)
      exact awp_cond hc (fun e => codeWp_sound x (q.1 e)) (fun e => codeWp_sound y (q.2 e))
  | .block id c, _, _, _, q => awp_block (codeWp_sound c q)
  | .exit id, _, _, _, q => awp_exit q
  | .ret, _, _, _, q => awp_ret q
  | .label _, _, _, _, q => awp_label q
  | .goto l, _, _, _, q => awp_goto q
  | .loop c, _, _, _, q => q
  | .rangeFunc .., _, _, _, q => q
  | .scope _, _, _, _, q => q
  | .refuse _, _, _, _, q => q

section
variable (P : Program) (Q : Exit → Frm → Heap → Prop) (a : Frm) (h : Heap)
theorem codeWp_skip : codeWp P .skip Q a h = Q .normal a h := rfl
theorem codeWp_draw (id : Nat) (ops : Array Oper) : codeWp P (.region id ops true) Q a h = AWp P (.region id ops true) Q a h := by simp [codeWp]
theorem codeWp_seq (x y : Code) : codeWp P (.seq x y) Q a h = codeWp P x (thenQ (codeWp P y Q) Q) a h := rfl
theorem codeWp_cond (c : Operand) (x y : Code) : codeWp P (.cond c x y) Q a h = condWp (a.ev c) (codeHold P x Q a h) (codeHold P y Q a h) := rfl
theorem codeWp_block (id : Nat) (c : Code) : codeWp P (.block id c) Q a h = codeWp P c (blockQ id Q) a h := rfl
theorem codeWp_exit (id : Nat) : codeWp P (.exit id) Q a h = Q (.exit id) a h := rfl
theorem codeWp_ret : codeWp P .ret Q a h = Q .ret a h := rfl
theorem codeWp_label (l : Nat) : codeWp P (.label l) Q a h = Q .normal a h := rfl
theorem codeWp_goto (l : Nat) : codeWp P (.goto l) Q a h = Q (.goto l) a h := rfl
theorem codeWp_loop (c : Code) : codeWp P (.loop c) Q a h = AWp P (.loop c) Q a h := rfl
theorem codeWp_congr {P : Program} {c : Code} {Q : Exit → Frm → Heap → Prop} {a a' : Frm} {h h' : Heap} (ha : a = a') (hh : h = h') : codeWp P c Q a h = codeWp P c Q a' h' := by rw [ha, hh]
theorem AWp_congr {P : Program} {c : Code} {Q : Exit → Frm → Heap → Prop} {a a' : Frm} {h h' : Heap} (ha : a = a') (hh : h = h') : AWp P c Q a h = AWp P c Q a' h' := by rw [ha, hh]
theorem ADoes_congr {P : Program} {f : FuncId} {Q : Value → Heap → Prop} {as bs : List Value} {h h' : Heap} (ha : as = bs) (hh : h = h') : ADoes P f as h Q = ADoes P f bs h' Q := by rw [ha, hh]
theorem ACalls_congr {P : Program} {f : FuncId} {Q : Value → Heap → Prop} {as bs : List Value} {h h' : Heap} (ha : as = bs) (hh : h = h') : ACalls P f as h Q = ACalls P f bs h' Q := by rw [ha, hh]
variable (K : Frm → Heap → Prop)
theorem thenQ_normal : thenQ K Q .normal a h = K a h := rfl
theorem thenQ_exit (id : Nat) : thenQ K Q (.exit id) a h = Q (.exit id) a h := rfl
theorem thenQ_goto (l : Nat) : thenQ K Q (.goto l) a h = Q (.goto l) a h := rfl
theorem thenQ_ret : thenQ K Q .ret a h = Q .ret a h := rfl
theorem thenQ_congr {Q : Exit → Frm → Heap → Prop} {K : Frm → Heap → Prop} {e : Exit} {a a' : Frm} {h h' : Heap} (ha : a = a') (hh : h = h') : thenQ K Q e a h = thenQ K Q e a' h' := by rw [ha, hh]
theorem blockQ_normal (id : Nat) : blockQ id Q .normal a h = Q .normal a h := rfl
theorem blockQ_exit (id id' : Nat) : blockQ id Q (.exit id') a h = if id' = id then Q .normal a h else Q (.exit id') a h := rfl
theorem blockQ_goto (id l : Nat) : blockQ id Q (.goto l) a h = Q (.goto l) a h := rfl
theorem blockQ_ret (id : Nat) : blockQ id Q .ret a h = Q .ret a h := rfl
theorem blockQ_congr {Q : Exit → Frm → Heap → Prop} {id : Nat} {e : Exit} {a a' : Frm} {h h' : Heap} (ha : a = a') (hh : h = h') : blockQ id Q e a h = blockQ id Q e a' h' := by rw [ha, hh]
def endWp (o : Option (List Value)) (Q : Value → Heap → Prop) (h : Heap) : Prop := match o with | some vs => Q (packV vs) h | none => False
theorem endWp_some (vs : List Value) (R : Value → Heap → Prop) : endWp (some vs) R h = R (packV vs) h := rfl
theorem bodyQ_ret (rs : List ResultVar) (R : Value → Heap → Prop) : bodyQ P rs R .ret a h = endWp (resultsV P a h rs) R h := by
  unfold bodyQ endWp
  cases hq : resultsV P a h rs <;> simp [hq]
theorem bodyQ_normal (rs : List ResultVar) (R : Value → Heap → Prop) : bodyQ P rs R .normal a h = endWp (resultsV P a h rs) R h := by
  unfold bodyQ endWp
  cases hq : resultsV P a h rs <;> simp [hq]
end

section
variable (P : Program) (d : Option Tmp) (r : List C) (K : Frm → Heap → Prop) (a : Frm) (h : Heap)
theorem step_move (x : Operand) : cWp P (⟨d, .move x, none⟩ :: r) K a h = withV (a.ev x) fun v => cWp P r K (a.put d v) h := by
  simp only [cWp, opWp, pureV]; cases a.ev x <;> rfl
theorem step_assign (x : Operand) : cWp P (⟨d, .assign x, none⟩ :: r) K a h = withV (a.ev x) fun v => cWp P r K (a.put d v) h := by
  simp only [cWp, opWp, pureV]; cases a.ev x <;> rfl
def pickV (c x y : Option Value) : Option Value := match c with | some (.bool b) => if b then x else y | _ => none
theorem step_pick (c x y : Operand) : cWp P (⟨d, .pick c x y, none⟩ :: r) K a h = withV (pickV (a.ev c) (a.ev x) (a.ev y)) fun v => cWp P r K (a.put d v) h := by
  simp only [cWp, opWp, pureV]
  unfold pickV
  cases a.ev c with
  | none => rfl
  | some v => cases v <;> rfl
theorem step_binOp (op : BinOp) (t t' : TypeId) (x y : Operand) : cWp P (⟨d, .binOp op t x y t', none⟩ :: r) K a h =
    withV (a.ev x) fun u => withV (a.ev y) fun v => withV (binV P op t u v) fun v => cWp P r K (a.put d v) h := by
  simp only [cWp, opWp, pureV]; cases a.ev x <;> cases a.ev y <;> simp only [withV] <;> (cases binV P op t _ _ <;> rfl)
theorem step_unOp (op : UnOp) (t : TypeId) (x : Operand) : cWp P (⟨d, .unOp op t x, none⟩ :: r) K a h =
    withV (a.ev x) fun u => withV (unV op u) fun v => cWp P r K (a.put d v) h := by
  simp only [cWp, opWp, pureV]; cases a.ev x <;> simp only [withV] <;> (cases unV op _ <;> rfl)
theorem step_load (t : TypeId) (x : Operand) : cWp P (⟨d, .load t x, none⟩ :: r) K a h =
    withV (a.ev x) fun u => withV (loadV P t h u) fun v => cWp P r K (a.put d v) h := by
  simp only [cWp, opWp]; cases a.ev x <;> simp only [withV] <;> (cases loadV P t h _ <;> rfl)
def withH (o : Option Heap) (f : Heap → Prop) : Prop := match o with | some h => f h | none => False
theorem withH_some (h : Heap) (f : Heap → Prop) : withH (some h) f = f h := rfl
theorem withH_congr {o o' : Option Heap} {f : Heap → Prop} (h : o = o') : withH o f = withH o' f := by rw [h]
theorem step_store (t : TypeId) (x y : Operand) : cWp P (⟨d, .store t x y, none⟩ :: r) K a h =
    withV (a.ev x) fun u => withV (a.ev y) fun v => withH (storeV P t h u v) fun h' => cWp P r K (a.put d undef) h' := by
  simp only [cWp, opWp]; cases a.ev x <;> cases a.ev y <;> simp only [withV, withH] <;> (cases storeV P t h _ _ <;> rfl)
theorem step_fieldAddr (t : TypeId) (x : Operand) (f : Nat) : cWp P (⟨d, .fieldAddr t x f, none⟩ :: r) K a h =
    withV (a.ev x) fun u => withV (fieldAddrV P t u f) fun v => cWp P r K (a.put d v) h := by
  simp only [cWp, opWp, pureV]; cases a.ev x <;> simp only [withV] <;> (cases fieldAddrV P t _ f <;> rfl)
theorem step_field (t : TypeId) (x : Operand) (f : Nat) : cWp P (⟨d, .field t x f, none⟩ :: r) K a h =
    withV (a.ev x) fun u => withV (fieldV P t u f) fun v => cWp P r K (a.put d v) h := by
  simp only [cWp, opWp, pureV]; cases a.ev x <;> simp only [withV] <;> (cases fieldV P t _ f <;> rfl)
theorem step_indexAddr (t : TypeId) (x y : Operand) : cWp P (⟨d, .indexAddr t x y, none⟩ :: r) K a h =
    withV (a.ev x) fun u => withV (a.ev y) fun v => withV (indexAddrV P t u v) fun v => cWp P r K (a.put d v) h := by
  simp only [cWp, opWp, pureV]; cases a.ev x <;> cases a.ev y <;> simp only [withV] <;> (cases indexAddrV P t _ _ <;> rfl)
theorem step_index (t : TypeId) (x y : Operand) : cWp P (⟨d, .index t x y, none⟩ :: r) K a h =
    withV (a.ev x) fun u => withV (a.ev y) fun v => withV (indexV P t u v) fun v => cWp P r K (a.put d v) h := by
  simp only [cWp, opWp, pureV]; cases a.ev x <;> cases a.ev y <;> simp only [withV] <;> (cases indexV P t _ _ <;> rfl)
theorem step_extract (x : Operand) (i : Nat) : cWp P (⟨d, .extract x i, none⟩ :: r) K a h =
    withV (a.ev x) fun u => withV (match u with | .tuple vs => vs[i]? | _ => none) fun v => cWp P r K (a.put d v) h := by
  simp only [cWp, opWp, pureV]
  cases a.ev x with
  | none => rfl
  | some u => cases u <;> simp only [withV] <;> (split <;> simp_all)
theorem step_nilCheck (x : Operand) : cWp P (⟨d, .nilCheck x, none⟩ :: r) K a h =
    withV (a.ev x) fun u => withV (match u with | .pointer (some q) => some (.pointer (some q)) | _ => none) fun v => cWp P r K (a.put d v) h := by
  simp only [cWp, opWp, pureV]
  cases a.ev x with
  | none => rfl
  | some u => cases u <;> simp only [withV] <;> (first | rfl | (rename_i q; cases q <;> rfl))
theorem step_convert (s e : TypeId) (x : Operand) : cWp P (⟨d, .convert s e x, none⟩ :: r) K a h =
    withV (a.ev x) fun u => convWp P s e u h (fun v h' => cWp P r K (a.put d v) h') := by
  simp only [cWp, opWp]; cases a.ev x <;> rfl
theorem step_build (t : TypeId) (ps : List (Nat × Operand)) : cWp P (⟨d, .build t ps.toArray, none⟩ :: r) K a h =
    withV (match allP a.ev ps with | some vs => buildV P t vs | none => none) fun v => cWp P r K (a.put d v) h := by
  simp only [cWp, opWp, pureV, withV]; cases allP a.ev ps <;> simp only <;> (first | rfl | (split <;> simp_all))
theorem step_makeFunc (f : FuncId) (xs ys : List Operand) : cWp P (⟨d, .makeFunc (.func f) xs.toArray ys.toArray, none⟩ :: r) K a h =
    withV (match allV a.ev xs, allV a.ev ys with | some u, some v => some (.func (.func f) u.toArray v.toArray) | _, _ => none) fun v => cWp P r K (a.put d v) h := by
  simp only [cWp, opWp, pureV, Fn.plain, if_true, withV]; cases allV a.ev xs <;> cases allV a.ev ys <;> rfl
theorem step_slice (t : TypeId) (x : Operand) (lo hi mx : Option Operand) : cWp P (⟨d, .slice t x lo hi mx, none⟩ :: r) K a h =
    withV (a.ev x) fun u => withV (match optV a.ev lo, optV a.ev hi, optV a.ev mx with | some l, some hh, some m => sliceV P (elemSz P h) t u l hh m | _, _, _ => none) fun v => cWp P r K (a.put d v) h := by
  simp only [cWp, opWp, withV]; cases a.ev x <;> cases optV a.ev lo <;> cases optV a.ev hi <;> cases optV a.ev mx <;> simp only <;> (first | rfl | (split <;> simp_all))
def withN (o : Option Made) (f : AObj → (Nat → Value) → Prop) : Prop := match o with | some (q, mk) => f q mk | none => False
theorem withN_some (q : AObj) (mk : Nat → Value) (f : AObj → (Nat → Value) → Prop) : withN (some (q, mk)) f = f q mk := rfl
theorem withN_congr {o o' : Option Made} {f : AObj → (Nat → Value) → Prop} (h : o = o') : withN o f = withN o' f := by rw [h]
def boxV (P : Program) (t : TypeId) (v : Value) : Option Made := if szT P t = some v.cells.size then some (.cells v.cells.toList t true, ptrOfNew) else none
theorem step_box (t : TypeId) (x : Operand) : cWp P (⟨d, .box t x, none⟩ :: r) K a h =
    withV (a.ev x) fun u => withN (boxV P t u) fun q mk => cWp P r K (a.put d (mk h.next)) (h.push q) := by
  simp only [cWp, opWp, newV, boxV]; cases a.ev x <;> simp only [withV, withN] <;> (first | rfl | (split <;> split <;> simp_all))
def allocV (P : Program) (t : TypeId) : Option Made := match zeroCellsT P t with | some z => some (.cells z t true, ptrOfNew) | none => none
theorem step_alloc (t : TypeId) : cWp P (⟨d, .alloc t, none⟩ :: r) K a h =
    withN (allocV P t) fun q mk => cWp P r K (a.put d (mk h.next)) (h.push q) := by
  simp only [cWp, opWp, newV, allocV, withN]
  rfl
theorem step_buildSlice (t : TypeId) (n : Nat) (ps : List (Nat × Operand)) : cWp P (⟨d, .buildSlice t n ps.toArray, none⟩ :: r) K a h =
    withN (match allP a.ev ps with | some vs => buildSliceV P t n vs | none => none) fun q mk => cWp P r K (a.put d (mk h.next)) (h.push q) := by
  simp only [cWp, opWp, newV, withN]
  rfl
theorem step_makeSlice (t : TypeId) (x y : Operand) : cWp P (⟨d, .makeSlice t x y, none⟩ :: r) K a h =
    withV (a.ev x) fun u => withV (a.ev y) fun v => withN (makeSliceV P t u v) fun q mk => cWp P r K (a.put d (mk h.next)) (h.push q) := by
  simp only [cWp, opWp, newV, withV, withN]; cases a.ev x <;> cases a.ev y <;> rfl
def withL (o : Option (List Value)) (f : List Value → Prop) : Prop := match o with | some v => f v | none => False
theorem withL_some (v : List Value) (f : List Value → Prop) : withL (some v) f = f v := rfl
theorem withL_congr {o o' : Option (List Value)} {f : List Value → Prop} (h : o = o') : withL o f = withL o' f := by rw [h]
theorem callWp_func (k : FuncId) (x y : Array Value) (vs : List Value) (R : Value → Heap → Prop) : callWp P (.func (.func k) x y) vs h R = ADoes P k (x.toList ++ vs ++ y.toList) h R := rfl
theorem callWp_congr {P : Program} {f f' : Value} {vs vs' : List Value} {h h' : Heap} {R : Value → Heap → Prop} (hf : f = f') (hv : vs = vs') (hh : h = h') : callWp P f vs h R = callWp P f' vs' h' R := by rw [hf, hv, hh]
theorem step_call (f : Operand) (xs : List Operand) (ts : Array TypeId) : cWp P (⟨d, .call ⟨.value f, xs.toArray, ts⟩, none⟩ :: r) K a h =
    withV (a.ev f) fun fv => withL (allV a.ev xs) fun vs => callWp P fv vs h fun v h' => cHold P r K (a.put d v) h' := by
  simp only [cWp, opWp, withV, withL]; cases a.ev f <;> cases allV a.ev xs <;> rfl
def withVH (o : Option (Value × Heap)) (f : Value → Heap → Prop) : Prop := match o with | some (v, h) => f v h | none => False
theorem withVH_some (v : Value) (h : Heap) (f : Value → Heap → Prop) : withVH (some (v, h)) f = f v h := rfl
theorem withVH_congr {o o' : Option (Value × Heap)} {f : Value → Heap → Prop} (h : o = o') : withVH o f = withVH o' f := by rw [h]
theorem step_append (x y : Operand) (ts : List TypeId) : cWp P (⟨d, .call ⟨.builtin .append, #[x, y], ts.toArray⟩, none⟩ :: r) K a h =
    withV (a.ev x) fun u => withV (a.ev y) fun v => withVH (appendV P ts h u v) fun v h' => cWp P r K (a.put d v) h' := by
  simp only [cWp, opWp, allV, withV, withVH]; cases a.ev x <;> cases a.ev y <;> simp only <;> (first | rfl | (split <;> simp_all))
theorem step_len (x : Operand) (t : TypeId) : cWp P (⟨d, .call ⟨.builtin .len, #[x], #[t]⟩, none⟩ :: r) K a h =
    withV (a.ev x) fun u => withV (lenH P t h u) fun v => cWp P r K (a.put d v) h := by
  simp only [cWp, opWp, allV, withV]; cases a.ev x <;> simp only <;> (first | rfl | (split <;> simp_all))
theorem step_min (xs : List Operand) (ts : Array TypeId) : cWp P (⟨d, .call ⟨.builtin .min, xs.toArray, ts⟩, none⟩ :: r) K a h =
    withL (allV a.ev xs) fun vs => withV (minV vs) fun v => cWp P r K (a.put d v) h := by
  simp only [cWp, opWp, pureV, pureBuiltin, withV, withL]; cases allV a.ev xs <;> simp only <;> (first | rfl | (split <;> simp_all))
theorem step_max (xs : List Operand) (ts : Array TypeId) : cWp P (⟨d, .call ⟨.builtin .max, xs.toArray, ts⟩, none⟩ :: r) K a h =
    withL (allV a.ev xs) fun vs => withV (maxV vs) fun v => cWp P r K (a.put d v) h := by
  simp only [cWp, opWp, pureV, pureBuiltin, withV, withL]; cases allV a.ev xs <;> simp only <;> (first | rfl | (split <;> simp_all))
end
end Go.Sim
