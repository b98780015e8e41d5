/- Frames, operations, calls: the abstract logic. -/
import Derived.Test.YtmcboobmnipjlaaA8
import Derived.Laws.BytesArg
set_option linter.unusedSimpArgs false
set_option linter.unusedVariables false
set_option linter.defProp false
namespace Go.Sim
open Go.RowKit

/-! ### Frames -/
def look (t : Nat) : List (Nat × Value) → Option Value
  | [] => none
  | (t', v) :: r => if t' = t then some v else look t r
def ins (t : Nat) (v : Value) (l : List (Nat × Value)) : List (Nat × Value) := (t, v) :: l
theorem look_ins (t : Nat) (v : Value) (u : Nat) (l : List (Nat × Value)) : look u (ins t v l) = if u = t then some v else look u l := by
  by_cases h : u = t
  · subst h; simp [ins, look]
  · simp [ins, look, h, Ne.symm h]

structure Frm where
  n : Nat
  l : List (Nat × Value)
def Frm.get (a : Frm) (t : Nat) : Option Value := look t a.l
def Frm.put (a : Frm) (d : Option Nat) (v : Value) : Frm :=
  match d with
  | some t => if t < a.n then ⟨a.n, ins t v a.l⟩ else a
  | none => a
def Frm.ev (a : Frm) : Operand → Option Value
  | .tmp t => a.get t
  | .const v => if constOk v then some v else none
  | .func f => some (.func (.func f) #[] #[])
  | .global _ => none

structure ARel (β : Place) (a : Frm) (m : Act) : Prop where
  defers : m.defers = []
  size : m.tmps.size = a.n
  rel : ∀ t v, a.get t = some v → ∃ mv, m.tmps[t]? = some mv ∧ VRel β v mv

theorem ARel.mono {β β' : Place} (hβ : ∀ b x, β b = some x → β' b = some x) {a : Frm} {m : Act} (h : ARel β a m) : ARel β' a m :=
  ⟨h.defers, h.size, fun t v e => let ⟨mv, e1, r⟩ := h.rel t v e; ⟨mv, e1, r.mono hβ⟩⟩
theorem ARel.put {β : Place} {a : Frm} {m : Act} (h : ARel β a m) {v mv : Value} (hv : VRel β v mv) (d : Option Nat) : ARel β (a.put d v) (m.put d mv) := by
  cases d with
  | none => exact h
  | some t =>
    unfold Frm.put Act.put
    by_cases ht : t < a.n
    · simp only [ht, if_true]
      refine ⟨h.defers, by simpa using h.size, fun u w e => ?_⟩
      unfold Frm.get at e
      rw [look_ins] at e
      by_cases hu : u = t
      · subst hu
        simp at e
        subst e
        exact ⟨mv, by simp [h.size, ht], hv⟩
      · rw [if_neg hu] at e
        obtain ⟨mw, e1, r⟩ := h.rel u w e
        exact ⟨mw, by simp [Array.getElem?_setIfInBounds_ne (Ne.symm hu), e1], r⟩
    · simp only [ht, if_false]
      refine ⟨h.defers, by simpa using h.size, fun u w e => ?_⟩
      obtain ⟨mw, e1, r⟩ := h.rel u w e
      have hlt : u < m.tmps.size := (Array.getElem?_eq_some_iff.1 e1).1
      have hne : t ≠ u := by rintro rfl; rw [h.size] at hlt; exact ht hlt
      exact ⟨mw, by simp [Array.getElem?_setIfInBounds_ne hne, e1], r⟩
theorem ARel.rho {β : Place} {a : Frm} {m : Act} (h : ARel β a m) : RhoRel β a.ev m.eval := by
  intro x v e
  cases x with
  | tmp t =>
    obtain ⟨mv, e1, r⟩ := h.rel t v e
    simp [Act.eval, e1]
    exact r
  | const c =>
    simp only [Frm.ev] at e
    split at e
    · cases e; exact VRel.const (by assumption)
    · cases e
  | func f =>
    cases e
    exact VRel.func_iff.2 ⟨rfl, _, _, rfl, .nil, .nil⟩
  | global g => cases e
/-- Some of what is known is forgotten. -/
theorem ARel.weaken {β : Place} {a a' : Frm} {m : Act} (h : ARel β a m) (hn : a'.n = a.n) (hl : ∀ t v, a'.get t = some v → a.get t = some v) : ARel β a' m :=
  ⟨h.defers, by rw [hn]; exact h.size, fun t v e => h.rel t v (hl t v e)⟩

/-! ### Calls -/
def Callable (P : Program) (f : FuncId) : Prop := ∃ fn, P.funcs[f]? = some fn ∧ fn.body.isNone = false ∧ (fn.name == "runtime.NumGoroutine") = false

def ACalls (P : Program) (f : FuncId) (args : List Value) (h : Heap) (Q : Value → Heap → Prop) : Prop :=
  Callable P f ∧ ∀ (β : Place) (w : World) (ms : List Value), VRels β args ms → Rel P β h w →
    Calls P f ms.toArray w fun e w' => ∃ mv, e = .returned mv ∧ ∃ v h' β', VRel β' v mv ∧ Rel P β' h' w' ∧ Step β h w β' h' w' ∧ Q v h'

theorem ACalls.mono {P : Program} {f : FuncId} {args : List Value} {h : Heap} {Q Q' : Value → Heap → Prop} (hc : ACalls P f args h Q) (hq : ∀ v h', Q v h' → Q' v h') : ACalls P f args h Q' :=
  ⟨hc.1, fun β w ms hv hr => (hc.2 β w ms hv hr).mono fun e w' ⟨mv, e1, v, h', β', a, b, c, d⟩ => ⟨mv, e1, v, h', β', a, b, c, hq _ _ d⟩⟩

/-! ### One operation -/
def numsOf : List Value → Option (List Int)
  | [] => some []
  | .int .u8 n :: r => (numsOf r).map (n :: ·)
  | _ => none
def bytesStrV (h : Heap) (x : Value) : Option Value :=
  match x with
  | .slice none 0 0 => some (.string (strOfNums []))
  | .slice (some ⟨b, o, none⟩) n _ =>
    if n = 0 then some (.string (strOfNums [])) else
    match h.get b with
    | some (.cells cs _ _) => if o + n ≤ cs.length then (numsOf ((cs.drop o).take n)).map fun xs => .string (strOfNums xs) else none
    | _ => none
  | _ => none
def elemSz (P : Program) (h : Heap) (b : Nat) : Option Nat :=
  match h.get b with
  | some (.cells _ e true) => szT P e
  | _ => none

/-- A conversion: of a value; of bytes to a string; of a string to bytes. -/
def convWp (P : Program) (s d : TypeId) (x : Value) (h : Heap) (K : Value → Heap → Prop) : Prop :=
  match P.underlying s, P.underlying d, x with
  | some (.slice e), some .string, x => P.underlying e = some (.int .u8) ∧ match bytesStrV h x with
    | some v => K v h
    | none => False
  | some .string, some (.slice e), .string t => P.underlying e = some (.int .u8) ∧ szT P e = some 1 ∧ t.size ≤ maxLen ∧ K (sliceOfNew t.size unk h.next) (h.push (.cells (bytesOf t) e true))
  | _, _, x => match convV P s d x with
    | some v => K v h
    | none => False

/-- A call of a function value. -/
def callWp (P : Program) (f : Value) (vs : List Value) (h : Heap) (K : Value → Heap → Prop) : Prop :=
  match f with
  | .func (.func k) first cap => ACalls P k (first.toList ++ vs ++ cap.toList) h K
  | _ => False

def opWp (P : Program) (o : Op) (ρ : Rho) (h : Heap) (K : Value → Heap → Prop) : Prop :=
  match o with
  | .load t x => match ρ x with
    | some p => match loadV P t h p with
      | some v => K v h
      | none => False
    | none => False
  | .store t x y => match ρ x, ρ y with
    | some p, some v => match storeV P t h p v with
      | some h' => K undef h'
      | none => False
    | _, _ => False
  | .slice t x lo hi mx => match ρ x, optV ρ lo, optV ρ hi, optV ρ mx with
    | some v, some l, some hh, some m => match sliceV P (elemSz P h) t v l hh m with
      | some v => K v h
      | none => False
    | _, _, _, _ => False
  | .convert s d x => match ρ x with
    | some v => convWp P s d v h K
    | none => False
  | .box t x => match newV P (.box t x) ρ with
    | some (q, mk) => K (mk h.next) (h.push q)
    | none => False
  | .alloc t => match newV P (.alloc t) ρ with
    | some (q, mk) => K (mk h.next) (h.push q)
    | none => False
  | .buildSlice t n ps => match newV P (.buildSlice t n ps) ρ with
    | some (q, mk) => K (mk h.next) (h.push q)
    | none => False
  | .makeSlice t l c => match newV P (.makeSlice t l c) ρ with
    | some (q, mk) => K (mk h.next) (h.push q)
    | none => False
  | .makeMap t r => match newV P (.makeMap t r) ρ with
    | some (q, mk) => K (mk h.next) (h.push q)
    | none => False
  | .call { callee := .value f, args := args, argTypes := _ } => match ρ f, allV ρ args.toList with
    | some fv, some vs => callWp P fv vs h K
    | _, _ => False
  | .call { callee := .builtin .append, args := args, argTypes := ts } => match allV ρ args.toList with
    | some [s, x] => match appendV P ts.toList h s x with
      | some (v, h') => K v h'
      | none => False
    | _ => False
  | o => match pureV P o ρ with
    | some v => K v h
    | none => False

/-- What follows an operation in the machine. -/
def Follows (P : Program) (β : Place) (h : Heap) (w : World) (m : Act) (dst : Option Tmp) (K : Value → Heap → Prop) (next : Act → World → Prop) : Prop :=
  ∀ v h' β' mv w', K v h' → VRel β' v mv → Rel P β' h' w' → Step β h w β' h' w' → next (m.put dst mv) w'

theorem run_bytesStr {P : Program} {β : Place} {h : Heap} {w : World} {x mx v : Value} {s d e : TypeId} (hr : Rel P β h w) (hx : VRel β x mx) (hs : P.underlying s = some (.slice e)) (hd : P.underlying d = some .string) (he : P.underlying e = some (.int .u8)) (hv : bytesStrV h x = some v) :
    (convert s d mx).run P w = .ok v w ∧ constOk v = true := by
  unfold bytesStrV at hv
  split at hv
  · cases hx; cases hv
    refine ⟨?_, rfl⟩
    rw [run_convert_bytes_nil w s e hs he 0 0 d hd]
    rfl
  · rename_i b o n c
    have key : ∀ (m' p c' : Nat) (xs : List Int), xs.length = n → (∀ i, i < n → w.cell? ⟨m', p + i, none⟩ = some (.int .u8 (xs.getD i 0))) → mx = .slice (some ⟨m', p, none⟩) n c' → (convert s d mx).run P w = .ok (.string (strOfNums xs)) w := by
      rintro m' p c' xs hl hc rfl
      exact run_convert_bytes_arg w s e hs he m' p n c' xs hl hc d hd
    split at hv
    · rename_i hn
      cases hv
      subst hn
      refine ⟨?_, rfl⟩
      rcases hx.slice_inv with ⟨m', s', c', hb, rfl, _⟩ | ⟨_, _, a', c', rfl⟩
      · exact key _ _ _ [] rfl (fun i hi => by omega) rfl
      · simp [convert, run_underlying hs, run_underlying hd, run_underlying he, Conv.bytesToString, loadCells, loadCellsFrom]
        rfl
    · rename_i hn
      split at hv
      · rename_i cs e' rw hg
        split at hv
        · rename_i hle
          cases hnums : numsOf ((cs.drop o).take n) with
          | none => simp [hnums] at hv
          | some xs =>
            simp [hnums] at hv
            subst hv
            refine ⟨?_, rfl⟩
            rcases hx.slice_inv with ⟨m', s', c', hb, rfl, _⟩ | ⟨rfl, _⟩
            · have ho := hr.obj b m' s' _ hb hg
              have hnm : ∀ {l : List Value} {xs : List Int}, numsOf l = some xs → l = xs.map (Value.int .u8) := by
                intro l
                induction l with
                | nil => intro xs e; simp [numsOf] at e; subst e; rfl
                | cons v l ih =>
                  intro xs e
                  cases v <;> try (simp [numsOf] at e; done)
                  rename_i k q
                  cases k <;> try (simp [numsOf] at e; done)
                  simp only [numsOf] at e
                  cases hq : numsOf l with
                  | none => simp [hq] at e
                  | some ys => simp [hq] at e; subst e; simp [ih hq]
              have hxs := hnm hnums
              have hlen : xs.length = n := by
                have := congrArg List.length hxs
                simp at this
                omega
              refine key m' (s'.off + o) c' xs hlen (fun i hi => ?_) rfl
              have h1 : cs[o + i]? = some (.int .u8 (xs.getD i 0)) := by
                have h2 := congrArg (fun l => l[i]?) hxs
                simp only [List.getElem?_take, if_pos hi, List.getElem?_drop, List.getElem?_map] at h2
                rw [h2, List.getElem?_eq_getElem (by omega)]
                simp [List.getD_eq_getElem?_getD, List.getElem?_eq_getElem (show i < xs.length by omega)]
              obtain ⟨mv, e1, r⟩ := ho.cell h1
              cases r
              rw [Nat.add_assoc]
              exact e1
            · exact absurd rfl hn
        · cases hv
      · cases hv
  · cases hv

theorem new_follows {P : Program} {β : Place} {h : Heap} {w : World} {m : Act} {o : Oper} {q : AObj} {mk : Nat → Value} {K : Value → Heap → Prop} {next : Act → World → Prop} {Q' : Exit → Act → World → Prop} {ρ : Rho}
    (hρ : RhoRel β ρ m.eval) (hr : Rel P β h w) (hn : newV P o.op ρ = some (q, mk)) (hK : K (mk h.next) (h.push q)) (hf : Follows P β h w m o.dst K next) : o.wp P m w next Q' := by
  obtain ⟨mv, w', s, hrun, hnew⟩ := newV_sound hρ hn w
  obtain ⟨mo, hmo⟩ := hnew.heap
  have hmono := Place.add_mono w.heap.size s hr.noNext
  obtain ⟨hv, ho⟩ := hnew.rel (β.add h.next w.heap.size s) h.next hmono (Place.add_same _ _ _ _)
  obtain ⟨hr', st⟩ := hr.alloc hmo hnew.os hnew.tape hnew.output ho
  unfold Oper.wp
  rw [hrun]
  exact hf _ _ _ mv w' hK hv hr' st

theorem opWp_sound {P : Program} {β : Place} {h : Heap} {w : World} {m : Act} {o : Oper} {K : Value → Heap → Prop} {next : Act → World → Prop} {Q' : Exit → Act → World → Prop} {ρ : Rho}
    (hρ : RhoRel β ρ m.eval) (hr : Rel P β h w) (hop : opWp P o.op ρ h K) (hf : Follows P β h w m o.dst K next) : o.wp P m w next Q' := by
  have val : ∀ v mv, K v h → VRel β v mv → (execOp m.eval o).run P w = .ok (.value mv) w → o.wp P m w next Q' := by
    intro v mv hK hv hrun
    unfold Oper.wp
    rw [hrun]
    exact hf v h β mv w hK hv hr (Step.refl _ _ _)
  unfold opWp at hop
  split at hop
  · rename_i t x he
    split at hop
    · rename_i p hp
      split at hop
      · rename_i v hl
        obtain ⟨mv, e, r⟩ := loadV_sound hr (hρ _ _ hp) hl
        exact val v mv hop r (by unfold execOp; rw [he]; simp [e])
      · cases hop
    · cases hop
  · rename_i t x y he
    split at hop
    · rename_i p v hp hv
      split at hop
      · rename_i h' hs
        obtain ⟨w', e, hr', st⟩ := storeV_sound hr (hρ _ _ hp) (hρ _ _ hv) hs
        unfold Oper.wp
        have hrun : (execOp m.eval o).run P w = .ok .skip w' := by unfold execOp; rw [he]; simp [e]
        rw [hrun]
        exact hf _ _ _ undef w' hop VRel.undef hr' st
      · cases hop
    · cases hop
  · rename_i t x lo hi mx he
    split at hop
    · rename_i a l hh mm ha hl hhh hm
      split at hop
      · rename_i v hs
        obtain ⟨mv, e, r⟩ := sliceV_sound (P := P) (hρ _ _ ha) (optV_rel hρ hl) (optV_rel hρ hhh) (optV_rel hρ hm) (fun b m' s q hb hE => by
          unfold elemSz at hE
          split at hE
          · rename_i cs e hg
            obtain ⟨mc, fr, te, _, _, _, hz⟩ := hr.obj b m' s _ hb hg; obtain ⟨_, _, _, hz⟩ := hz rfl
            unfold szT at hE
            rw [hz] at hE
            simpa using hE
          · cases hE) hs w
        exact val v mv hop r (by unfold execOp; rw [he]; simp [e])
      · cases hop
    · cases hop
  · rename_i s d x he
    split at hop
    · rename_i v hv
      unfold convWp at hop
      split at hop
      · rename_i e hs hd
        obtain ⟨he2, hop⟩ := hop
        split at hop
        · rename_i r hbs
          obtain ⟨e1, hk⟩ := run_bytesStr hr (hρ _ _ hv) hs hd he2 hbs
          exact val _ _ hop (VRel.const hk) (by unfold execOp; rw [he]; simp [e1])
        · cases hop
      · rename_i e t hs hd
        obtain ⟨h1, h2, h3, hop⟩ := hop
        refine new_follows (q := .cells (bytesOf t) e true) (mk := sliceOfNew t.size unk) hρ hr ?_ hop hf
        rw [he]
        simp [newV, hs, hd, hv, h1, h2, h3]
      · split at hop
        · rename_i r hc
          obtain ⟨e1, hk⟩ := convV_sound (P := P) (hρ _ _ hv) hc w
          exact val _ _ hop hk (by unfold execOp; rw [he]; simp [e1])
        · cases hop
    · cases hop
  · rename_i t x he
    split at hop
    · rename_i q mk hn
      exact new_follows hρ hr (by rw [he]; exact hn) hop hf
    · cases hop
  · rename_i t he
    split at hop
    · rename_i q mk hn
      exact new_follows hρ hr (by rw [he]; exact hn) hop hf
    · cases hop
  · rename_i t n ps he
    split at hop
    · rename_i q mk hn
      exact new_follows hρ hr (by rw [he]; exact hn) hop hf
    · cases hop
  · rename_i t l c he
    split at hop
    · rename_i q mk hn
      exact new_follows hρ hr (by rw [he]; exact hn) hop hf
    · cases hop
  · rename_i t r he
    split at hop
    · rename_i q mk hn
      exact new_follows hρ hr (by rw [he]; exact hn) hop hf
    · cases hop
  · rename_i f args ts he
    split at hop
    · rename_i fv vs hfv hvs
      unfold callWp at hop
      split at hop
      · rename_i k first cap
        obtain ⟨⟨fn, hfn, hb, hname⟩, hcall⟩ := hop
        obtain ⟨_, first', cap', hm, r1, r2⟩ := VRel.func_iff.1 (hρ _ _ hfv)
        have hvr := allV_rel hρ hvs
        have hc := hcall β w (first'.toList ++ args.toList.map m.eval ++ cap'.toList) ((r1.append hvr).append r2) hr
        unfold Oper.wp
        have hrun : (execOp m.eval o).run P w = .ok (.enter k (first'.toList ++ args.toList.map m.eval ++ cap'.toList).toArray) w := by
          unfold execOp
          rw [he]
          have harr : (first'.toList ++ args.toList.map m.eval ++ cap'.toList).toArray = first' ++ args.map m.eval ++ cap' := by apply Array.ext'; simp
          rw [harr]
          simp only [resolve, hm, Deferred.ofValue, Sem.run_bind, Sem.run_pure, Result.andThen_ok, invoke, callFunc, run_program, hfn, hname, hb, Bool.false_eq_true, if_false]
        rw [hrun, Oper.upon_enter]
        refine hc.mono ?_
        rintro e w' ⟨mv, rfl, v, h', β', hv', hr', st, hK⟩
        exact hf v h' β' mv w' hK hv' hr' st
      · cases hop
    · cases hop
  · rename_i args ts he
    split at hop
    · rename_i s x hvs
      split at hop
      · rename_i v h' ha
        have hvr := allV_rel hρ hvs
        cases hargs : args.toList with
        | nil => rw [hargs] at hvr; cases hvr
        | cons y ys =>
          rw [hargs] at hvr
          cases hvr with
          | cons h1 t1 =>
            cases ys with
            | nil => cases t1
            | cons z zs =>
              cases t1 with
              | cons h2 t2 =>
                cases zs with
                | cons _ _ => cases t2
                | nil =>
                  obtain ⟨β', mv, w', e, r, hr', st⟩ := appendV_sound (ty := o.type) hr h1 h2 ha
                  have h3 : args = #[y, z] := by apply Array.ext'; simpa using hargs
                  subst h3
                  unfold Oper.wp
                  have hrun : (execOp m.eval o).run P w = .ok (.value mv) w' := by
                    unfold execOp
                    rw [he]
                    simp only [resolve, Sem.run_bind, Sem.run_pure, Result.andThen_ok, invoke, builtin, List.map_toArray, List.map_cons, List.map_nil, e]
                  rw [hrun]
                  exact hf v h' β' mv w' hop r hr' st
      · cases hop
    · cases hop
  · split at hop
    · rename_i v hp
      obtain ⟨mv, e, r⟩ := pureV_sound (P := P) hρ hp w
      exact val v mv hop r e
    · cases hop
end Go.Sim
