/- Frames, operations, calls: the abstract logic. -/
import Derived.Test.YtonejeaomblpiaaGreatM3
import Derived.Laws.BytesArg
import Derived.OrdersIn
import Derived.TacticsIn
import Derived.RangeFuncRecord
import Derived.Conc.LoneSelect
set_option linter.unusedSimpArgs false
set_option linter.unusedVariables false
set_option linter.defProp false
namespace Go.Sim
open Go.RowKit

/-! ### Frames -/
def ins (t : Nat) (v : Value) (l : List (Nat × Value)) : List (Nat × Value) := (t, v) :: l
theorem look_ins (t : Nat) (v : Value) (u : Nat) (l : List (Nat × Value)) : look u (ins t v l) = if u = t then some v else look u l := by
  by_cases h : u = t
  · subst h; simp [ins, look]
  · simp [ins, look, h, Ne.symm h]

structure Frm where
  n : Nat
  l : List (Nat × Value)
def Frm.get (a : Frm) (t : Nat) : Option Value := look t a.l
def Frm.put (a : Frm) (d : Option Nat) (v : Value) : Frm :=
  match d with
  | some t => if t < a.n then ⟨a.n, ins t v a.l⟩ else a
  | none => a
def Frm.ev (a : Frm) : Operand → Option Value
  | .tmp t => a.get t
  | .const v => if constOk v then some v else none
  | .func f => some (.func (.func f) #[] #[])
  | .global _ => none

/-- The fence that lets all in, for frames of a round or of none. -/
abbrev wd (ro : Option Nat) : Fence := { Fence.wide with round := ro }
theorem fenced_wd (ro : Option Nat) (P : Program) (m : Machine) : m.fenced P (wd ro) := fenced_wide P m
theorem room_wd (ro : Option Nat) (n : Nat) : (wd ro).room n := room_wide n

structure ARel (D : List Deferred) (β : Place) (a : Frm) (m : Act) : Prop where
  defers : m.defers = D
  size : m.tmps.size = a.n
  rel : ∀ t v, a.get t = some v → ∃ mv, m.tmps[t]? = some mv ∧ VRel β v mv

theorem ARel.mono {D : List Deferred} {β β' : Place} (hβ : ∀ b x, β b = some x → β' b = some x) {a : Frm} {m : Act} (h : ARel D β a m) : ARel D β' a m :=
  ⟨h.defers, h.size, fun t v e => let ⟨mv, e1, r⟩ := h.rel t v e; ⟨mv, e1, r.mono hβ⟩⟩
theorem ARel.put {D : List Deferred} {β : Place} {a : Frm} {m : Act} (h : ARel D β a m) {v mv : Value} (hv : VRel β v mv) (d : Option Nat) : ARel D β (a.put d v) (m.put d mv) := by
  cases d with
  | none => exact h
  | some t =>
    unfold Frm.put Act.put
    by_cases ht : t < a.n
    · simp only [ht, if_true]
      refine ⟨h.defers, by simpa using h.size, fun u w e => ?_⟩
      unfold Frm.get at e
      rw [look_ins] at e
      by_cases hu : u = t
      · subst hu
        simp at e
        subst e
        exact ⟨mv, by simp [h.size, ht], hv⟩
      · rw [if_neg hu] at e
        obtain ⟨mw, e1, r⟩ := h.rel u w e
        exact ⟨mw, by simp [Array.getElem?_setIfInBounds_ne (Ne.symm hu), e1], r⟩
    · simp only [ht, if_false]
      refine ⟨h.defers, by simpa using h.size, fun u w e => ?_⟩
      obtain ⟨mw, e1, r⟩ := h.rel u w e
      have hlt : u < m.tmps.size := (Array.getElem?_eq_some_iff.1 e1).1
      have hne : t ≠ u := by rintro rfl; rw [h.size] at hlt; exact ht hlt
      exact ⟨mw, by simp [Array.getElem?_setIfInBounds_ne hne, e1], r⟩
theorem ARel.rho {D : List Deferred} {β : Place} {a : Frm} {m : Act} (h : ARel D β a m) : RhoRel β a.ev m.eval := by
  intro x v e
  cases x with
  | tmp t =>
    obtain ⟨mv, e1, r⟩ := h.rel t v e
    simp [Act.eval, e1]
    exact r
  | const c =>
    simp only [Frm.ev] at e
    split at e
    · cases e; exact VRel.const (by assumption)
    · cases e
  | func f =>
    cases e
    exact (VRel.func_iff rfl).2 ⟨_, _, rfl, .nil, .nil⟩
  | global g => cases e
/-- Some of what is known is forgotten. -/
theorem ARel.weaken {D : List Deferred} {β : Place} {a a' : Frm} {m : Act} (h : ARel D β a m) (hn : a'.n = a.n) (hl : ∀ t v, a'.get t = some v → a.get t = some v) : ARel D β a' m :=
  ⟨h.defers, by rw [hn]; exact h.size, fun t v e => h.rel t v (hl t v e)⟩

/-! ### Calls -/
def Callable (P : Program) (f : FuncId) : Prop := ∃ fn, P.funcs[f]? = some fn ∧ fn.body.isNone = false ∧ (fn.name == "runtime.NumGoroutine") = false

def ACalls (P : Program) (f : FuncId) (args : List Value) (h : Heap) (Q : Value → Heap → Prop) : Prop :=
  Callable P f ∧ ∀ (β : Place) (w : World) (ms : List Value), VRels β args ms → Rel P β h w →
    Calls P f ms.toArray w fun e w' => ∃ mv, e = .returned mv ∧ ∃ v h' β', VRel β' v mv ∧ Rel P β' h' w' ∧ Step β h w β' h' w' ∧ Q v h'

theorem ACalls.mono {P : Program} {f : FuncId} {args : List Value} {h : Heap} {Q Q' : Value → Heap → Prop} (hc : ACalls P f args h Q) (hq : ∀ v h', Q v h' → Q' v h') : ACalls P f args h Q' :=
  ⟨hc.1, fun β w ms hv hr => (hc.2 β w ms hv hr).mono fun e w' ⟨mv, e1, v, h', β', a, b, c, d⟩ => ⟨mv, e1, v, h', β', a, b, c, hq _ _ d⟩⟩

/-- A call of maps.clone, which has no body: the model stands in. -/
def AClones (P : Program) (f : FuncId) (args : List Value) (h : Heap) (Q : Value → Heap → Prop) : Prop :=
  ∃ fn t r es ck, P.funcs[f]? = some fn ∧ fn.name = "maps.clone" ∧ fn.origin = "" ∧ fn.body.isNone = true ∧ args = [.iface t (.map (some r))] ∧ h.get r = some (.map es ck) ∧ Q (.iface t (.map (some h.next))) (h.push (.map es ck))
def ADoes (P : Program) (f : FuncId) (args : List Value) (h : Heap) (Q : Value → Heap → Prop) : Prop := ACalls P f args h Q ∨ AClones P f args h Q
theorem ADoes.of {P : Program} {f : FuncId} {args : List Value} {h : Heap} {Q : Value → Heap → Prop} (hc : ACalls P f args h Q) : ADoes P f args h Q := .inl hc
theorem ADoes.mono {P : Program} {f : FuncId} {args : List Value} {h : Heap} {Q Q' : Value → Heap → Prop} (hc : ADoes P f args h Q) (hq : ∀ v h', Q v h' → Q' v h') : ADoes P f args h Q' :=
  Or.imp (·.mono hq) (fun ⟨fn, t, r, es, ck, h1, h2, h3, h4, h5, h6, h7⟩ => ⟨fn, t, r, es, ck, h1, h2, h3, h4, h5, h6, hq _ _ h7⟩) hc
theorem clone_found {fn : Func} (h1 : fn.name = "maps.clone") (h2 : fn.origin = "") : Extern.findNext fn = none ∧ Extern.find fn = some Extern.MapsClone.clone := by
  have e1 : Extern.allNextRows.lookup "maps.clone" = none := by kernel_rfl
  have e2 : Extern.allNextRows.lookup "" = none := by kernel_rfl
  have e3 : Extern.allGenericRows.lookup "maps.clone" = none := by kernel_rfl
  have e4 : Extern.allTypedRows.lookup "maps.clone" = none := by kernel_rfl
  have e5 : Extern.allRows.lookup "maps.clone" = some Extern.MapsClone.clone := by kernel_rfl
  constructor
  · simp only [Extern.findNext, h1, h2, e1, e2, Option.map_none]; rfl
  · simp only [Extern.find, h1, h2, e3, e4, e5, Option.map_none]; rfl

/-- A call of a loop's yield. -/
def AYield (P : Program) (l : Nat) (args : List Value) (h : Heap) (Q : Value → Heap → Prop) : Prop :=
  ∀ (β : Place) (m : Nat) (s : Sh) (w : World) (ms : List Value), β l = some (m, s) → VRels β args ms → Rel P β h w →
    ∃ f tmps x y, (Instr.yield m ms.toArray).run P w = .ok (.round m f tmps x y) w ∧
      RoundIn Fence.wide 0 P m f tmps x y w fun e w' => ∃ mv, e = .returned mv ∧ ∃ v h' β', VRel β' v mv ∧ Rel P β' h' w' ∧ Step β h w β' h' w' ∧ Q v h'
theorem AYield.mono {P : Program} {l : Nat} {args : List Value} {h : Heap} {Q Q' : Value → Heap → Prop} (hc : AYield P l args h Q) (hq : ∀ v h', Q v h' → Q' v h') : AYield P l args h Q' := by
  intro β m s w ms hb hv hr
  obtain ⟨f, tmps, x, y, e, hro⟩ := hc β m s w ms hb hv hr
  exact ⟨f, tmps, x, y, e, hro.mono fun e w' ⟨mv, e1, v, h', β', a, b, c, d⟩ => ⟨mv, e1, v, h', β', a, b, c, hq _ _ d⟩⟩

/-! ### One operation -/
def numsOf : List Value → Option (List Int)
  | [] => some []
  | .int .u8 n :: r => (numsOf r).map (n :: ·)
  | _ => none
def bytesStrV (h : Heap) (x : Value) : Option Value :=
  match x with
  | .slice none 0 0 => some (.string (strOfNums []))
  | .slice (some ⟨b, o, none⟩) n _ =>
    if n = 0 then some (.string (strOfNums [])) else
    match h.get b with
    | some (.cells cs _ _) => if o + n ≤ cs.length then (numsOf ((cs.drop o).take n)).map fun xs => .string (strOfNums xs) else none
    | _ => none
  | _ => none
def elemSz (P : Program) (h : Heap) (b : Nat) : Option Nat :=
  match h.get b with
  | some (.cells _ e true) => szT P e
  | _ => none

/-- A conversion: of a value; of bytes to a string; of a string to bytes. -/
def convWp (P : Program) (s d : TypeId) (x : Value) (h : Heap) (K : Value → Heap → Prop) : Prop :=
  match P.underlying s, P.underlying d, x with
  | some (.slice e), some .string, x => P.underlying e = some (.int .u8) ∧ match bytesStrV h x with
    | some v => K v h
    | none => False
  | some .string, some (.slice e), .string t => P.underlying e = some (.int .u8) ∧ szT P e = some 1 ∧ t.size ≤ maxLen ∧ K (sliceOfNew t.size unk h.next) (h.push (.cells (bytesOf t) e true))
  | some (.slice _), some (.slice e), .slice (some ⟨b, o, none⟩) n c => s = d ∧ c ≠ dud ∧ P.underlying e = some (.int .u8) ∧ match h.get b with
    | some (.cells _ _ true) => K (.slice (some ⟨b, o, none⟩) n c) h
    | _ => False
  | _, _, x => match convV P s d x with
    | some v => K v h
    | none => False

/-- A call of a function value. -/
def callWp (P : Program) (f : Value) (vs : List Value) (h : Heap) (K : Value → Heap → Prop) : Prop :=
  match f with
  | .func (.func k) first cap => ADoes P k (first.toList ++ vs ++ cap.toList) h K
  | .func (.yield l) _ _ => AYield P l vs h K
  | _ => False

/-- len, of maps too. -/
def lenH (P : Program) (t : TypeId) (h : Heap) (x : Value) : Option Value :=
  match P.underlying t with
  | some (.map _ _) => (entriesV h x).map fun es => goInt es.length
  | some (.chan _ _) => match x with
    | .chan none => some (goInt (0 : Nat))
    | .chan (some r) => match h.get r with
      | some (.chan _ buf) => some (goInt buf.length)
      | _ => none
    | _ => none
  | _ => lenV P t x
/-- What a value that was an interface's is. -/
def assertV (P : Program) (x : Value) (asserted : TypeId) (ok : Bool) : Option Value :=
  match P.underlying asserted, x with
  | some (.interface _), _ => none
  | some _, .iface t v => if t = asserted then some (if ok then .tuple #[v, .bool true] else v) else none
  | _, _ => none
def ifaceV (P : Program) (t : TypeId) (x : Value) : Option Value :=
  match P.underlying t with
  | some (.interface _) => none
  | some _ => some (.iface t x)
  | none => none
/-- The room of a channel. -/
def capH (P : Program) (t : TypeId) (h : Heap) (x : Value) : Option Value :=
  match P.underlying t, x with
  | some (.chan _ _), .chan none => some (goInt (0 : Nat))
  | some (.chan _ _), .chan (some r) => match h.get r with
    | some (.chan cap _) => some (goInt cap)
    | _ => none
  | _, _ => none
/-- A choice of one communication, or of none. -/
def selWp (P : Program) (s : SelectCase) (ρ : Rho) (h : Heap) (K : Value → Heap → Prop) : Prop :=
  match (P.info? s.elem).bind (·.zero), ρ s.chan with
  | some z, some (.chan (some r)) => constOk z = true ∧ match h.get r with
    | some (.chan cap buf) => match s.send with
      | some x => match ρ x with
        | some v => if buf.length < cap then K (.tuple #[goInt 0, .bool false]) (h.set r (.chan cap (buf ++ [v]))) else K (.tuple #[goInt (-1), .bool false]) h
        | none => False
      | none => match buf with
        | [] => K (.tuple #[goInt (-1), .bool false, z]) h
        | v :: rest => K (.tuple #[goInt 0, .bool true, v]) (h.set r (.chan cap rest))
    | _ => False
  | _, _ => False
def opWp (P : Program) (o : Op) (ρ : Rho) (h : Heap) (K : Value → Heap → Prop) : Prop :=
  match o with
  | .load t x => match ρ x with
    | some p => match loadV P t h p with
      | some v => K v h
      | none => False
    | none => False
  | .store t x y => match ρ x, ρ y with
    | some p, some v => match storeV P t h p v with
      | some h' => K undef h'
      | none => False
    | _, _ => False
  | .slice t x lo hi mx => match ρ x, optV ρ lo, optV ρ hi, optV ρ mx with
    | some v, some l, some hh, some m => match sliceV P (elemSz P h) t v l hh m with
      | some v => K v h
      | none => False
    | _, _, _, _ => False
  | .convert s d x => match ρ x with
    | some v => convWp P s d v h K
    | none => False
  | .box t x => match newV P (.box t x) ρ with
    | some (q, mk) => K (mk h.next) (h.push q)
    | none => False
  | .alloc t => match newV P (.alloc t) ρ with
    | some (q, mk) => K (mk h.next) (h.push q)
    | none => False
  | .buildSlice t n ps => match newV P (.buildSlice t n ps) ρ with
    | some (q, mk) => K (mk h.next) (h.push q)
    | none => False
  | .makeSlice t l c => match newV P (.makeSlice t l c) ρ with
    | some (q, mk) => K (mk h.next) (h.push q)
    | none => False
  | .makeMap t r => match newV P (.makeMap t r) ρ with
    | some (q, mk) => K (mk h.next) (h.push q)
    | none => False
  | .makeChan t r => match newV P (.makeChan t r) ρ with
    | some (q, mk) => K (mk h.next) (h.push q)
    | none => False
  | .select cases false => match cases.toList with
    | [s] => selWp P s ρ h K
    | _ => False
  | .call { callee := .value f, args := args, argTypes := _ } => match ρ f, allV ρ args.toList with
    | some fv, some vs => callWp P fv vs h K
    | _, _ => False
  | .call { callee := .builtin .append, args := args, argTypes := ts } => match allV ρ args.toList with
    | some [s, x] => match appendV P ts.toList h s x with
      | some (v, h') => K v h'
      | none => False
    | _ => False
  | .call { callee := .builtin .len, args := args, argTypes := ts } => match allV ρ args.toList, ts.toList with
    | some [x], [t] => match lenH P t h x with
      | some v => K v h
      | none => False
    | _, _ => False
  | .call { callee := .builtin .cap, args := args, argTypes := ts } => match allV ρ args.toList, ts.toList with
    | some [x], [t] => match capH P t h x with
      | some v => K v h
      | none => False
    | _, _ => False
  | .call { callee := .builtin .copy, args := args, argTypes := ts } => match allV ρ args.toList with
    | some [d, x] => match copyV P ts.toList h d x with
      | some (v, h') => K v h'
      | none => False
    | _ => False
  | .call { callee := .builtin .delete, args := args, argTypes := ts } => match allV ρ args.toList, ts.toList with
    | some [m, k], t :: _ => match mapDelV P t h m k with
      | some h' => K (.tuple #[]) h'
      | none => False
    | _, _ => False
  | .insert t x y z => match ρ x, ρ y, ρ z with
    | some m, some k, some v => match mapPutV P t h m k v with
      | some h' => K undef h'
      | none => False
    | _, _, _ => False
  | .mapUpdate t x y z => match ρ x, ρ y, ρ z with
    | some m, some k, some v => match mapPutV P t h m k v with
      | some h' => K undef h'
      | none => False
    | _, _, _ => False
  | .lookup t x y ok => match ρ x, ρ y with
    | some m, some k => match lookupV P t h m k ok with
      | some v => K v h
      | none => False
    | _, _ => False
  | .range t x => match ρ x with
    | some v => rangeWp P t v h K
    | none => False
  | .next x s => match ρ x with
    | some v => nextWp P v s h K
    | none => False
  | .entry x => match ρ x with
    | some v => entryWp P v h K
    | none => False
  | .makeInterface t x => match ρ x with
    | some v => match ifaceV P t v with
      | some v' => K v' h
      | none => False
    | none => False
  | .typeAssert x _ t ok => match ρ x with
    | some v => match assertV P v t ok with
      | some v' => K v' h
      | none => False
    | none => False
  | o => match pureV P o ρ with
    | some v => K v h
    | none => False

/-- What follows an operation in the machine. -/
def Follows (P : Program) (β : Place) (h : Heap) (w : World) (m : Act) (dst : Option Tmp) (K : Value → Heap → Prop) (next : Act → World → Prop) : Prop :=
  ∀ v h' β' mv w', K v h' → VRel β' v mv → Rel P β' h' w' → Step β h w β' h' w' → next (m.put dst mv) w'

theorem run_bytesStr {P : Program} {β : Place} {h : Heap} {w : World} {x mx v : Value} {s d e : TypeId} (hr : Rel P β h w) (hx : VRel β x mx) (hs : P.underlying s = some (.slice e)) (hd : P.underlying d = some .string) (he : P.underlying e = some (.int .u8)) (hv : bytesStrV h x = some v) :
    (convert s d mx).run P w = .ok v w ∧ constOk v = true := by
  unfold bytesStrV at hv
  split at hv
  · cases hx; cases hv
    refine ⟨?_, rfl⟩
    rw [run_convert_bytes_nil w s e hs he 0 0 d hd]
    rfl
  · rename_i b o n c
    have key : ∀ (m' p c' : Nat) (xs : List Int), xs.length = n → (∀ i, i < n → w.cell? ⟨m', p + i, none⟩ = some (.int .u8 (xs.getD i 0))) → mx = .slice (some ⟨m', p, none⟩) n c' → (convert s d mx).run P w = .ok (.string (strOfNums xs)) w := by
      rintro m' p c' xs hl hc rfl
      exact run_convert_bytes_arg w s e hs he m' p n c' xs hl hc d hd
    split at hv
    · rename_i hn
      cases hv
      subst hn
      refine ⟨?_, rfl⟩
      rcases hx.slice_inv with ⟨m', s', c', hb, rfl, _⟩ | ⟨_, _, a', c', rfl⟩
      · exact key _ _ _ [] rfl (fun i hi => by omega) rfl
      · simp [convert, run_underlying hs, run_underlying hd, run_underlying he, Conv.bytesToString, loadCells, loadCellsFrom]
        rfl
    · rename_i hn
      split at hv
      · rename_i cs e' rw hg
        split at hv
        · rename_i hle
          cases hnums : numsOf ((cs.drop o).take n) with
          | none => simp [hnums] at hv
          | some xs =>
            simp [hnums] at hv
            subst hv
            refine ⟨?_, rfl⟩
            rcases hx.slice_inv with ⟨m', s', c', hb, rfl, _⟩ | ⟨rfl, _⟩
            · have ho := hr.obj b m' s' _ hb hg
              have hnm : ∀ {l : List Value} {xs : List Int}, numsOf l = some xs → l = xs.map (Value.int .u8) := by
                intro l
                induction l with
                | nil => intro xs e; simp [numsOf] at e; subst e; rfl
                | cons v l ih =>
                  intro xs e
                  cases v <;> try (simp [numsOf] at e; done)
                  rename_i k q
                  cases k <;> try (simp [numsOf] at e; done)
                  simp only [numsOf] at e
                  cases hq : numsOf l with
                  | none => simp [hq] at e
                  | some ys => simp [hq] at e; subst e; simp [ih hq]
              have hxs := hnm hnums
              have hlen : xs.length = n := by
                have := congrArg List.length hxs
                simp at this
                omega
              refine key m' (s'.off + o) c' xs hlen (fun i hi => ?_) rfl
              have h1 : cs[o + i]? = some (.int .u8 (xs.getD i 0)) := by
                have h2 := congrArg (fun l => l[i]?) hxs
                simp only [List.getElem?_take, if_pos hi, List.getElem?_drop, List.getElem?_map] at h2
                rw [h2, List.getElem?_eq_getElem (by omega)]
                simp [List.getD_eq_getElem?_getD, List.getElem?_eq_getElem (show i < xs.length by omega)]
              obtain ⟨mv, e1, r⟩ := ho.cell h1
              cases r
              rw [Nat.add_assoc]
              exact e1
            · exact absurd rfl hn
        · cases hv
      · cases hv
  · cases hv

def sizeAt (w : World) (m : Nat) : Nat := match w.heap[m]? with
  | some (.cells mc _ _) => mc.size
  | _ => 0
theorem freeze_sound {P : Program} {β : Place} {h : Heap} {w : World} {b m : Nat} {s : Sh} {cs : List Value} {e : TypeId} (hr : Rel P β h w) (hb : β b = some (m, s)) (hg : h.get b = some (.cells cs e true)) :
    Rel P β h (w.freeze ⟨m, sizeAt w m, none⟩ 1) ∧ Step β h w β h (w.freeze ⟨m, sizeAt w m, none⟩ 1) ∧ w.shape? m = some (e, sizeAt w m) := by
  obtain ⟨mc, fr, te, h1, h2, h3, h4⟩ := hr.obj b m s _ hb hg
  obtain ⟨⟨hfz, hlh⟩, rfl, hT, hz⟩ := h4 rfl
  have hs : sizeAt w m = mc.size := by simp [sizeAt, h1]
  have hset : h.set b (.cells cs te true) = h := by
    cases h with
    | mk n g l =>
      have : (Heap.set ⟨n, g, l⟩ b (.cells cs te true)).get = g := by
        funext c
        show (if c = b then (g b).map (fun _ => AObj.cells cs te true) else g c) = g c
        by_cases hc : c = b
        · subst hc; simp only [if_true]; have : g c = some (.cells cs te true) := hg; rw [this]; rfl
        · rw [if_neg hc]
      unfold Heap.set at this ⊢
      simp only at this ⊢
      congr
  rw [hs]
  have hm : (w.freeze ⟨m, mc.size, none⟩ 1).heap[m]? = some (.cells mc te (if fr.1 == fr.2 then (mc.size, mc.size + 1) else (min fr.1 mc.size, max fr.2 (mc.size + 1)))) := by
    obtain ⟨f1, f2⟩ := fr
    simp [World.freeze, Array.getElem?_modify, h1]
  have hup := hr.update (w' := w.freeze ⟨m, mc.size, none⟩ 1) (o' := .cells cs te true) hb hg rfl rfl (by simp [World.freeze]) (fun k hk => by simp [World.freeze, Array.getElem?_modify, Ne.symm hk]) rfl rfl rfl
    ⟨mc, _, te, hm, h2, h3, fun _ => ⟨by
      split
      · exact ⟨fun i hi hc => by simp only at hc; omega, by simp⟩
      · rename_i hne
        have hne' : fr.1 ≠ fr.2 := by simpa using hne
        refine ⟨fun i hi hc => ?_, by simp only; omega⟩
        have hge : mc.size ≤ fr.1 := by
          by_cases hlt : fr.1 < mc.size
          · exact absurd ⟨Nat.le_refl _, by omega⟩ (hfz fr.1 hlt)
          · omega
        simp only at hc
        omega, rfl, hT, hz⟩⟩
  rw [hset] at hup
  exact ⟨hup.1, hup.2, by simp [World.shape?, h1]⟩
/-! ### One operation of a region, in the machine -/
/-- The operation is done, and what follows holds. -/
def OpS (ro : Option Nat) (P : Program) (o : Oper) (m : Act) (w : World) (next : Act → World → Prop) : Prop :=
  ∀ (b : Frame) (ops : Array Oper) (i : Nat) (rest : List Nat) (k : List Item) (cs : List Frame), b.roundOf = ro → ops[i]? = some o → Region.wanted o (yielded ops m.tmps) = true →
    ∃ m' w', next m' w' ∧ Steps P (lone (b.atR m (.inRegion ops (i :: rest) :: k)) cs w) (lone (b.atR m' (.inRegion ops rest :: k)) cs w')
section opS
variable {ro : Option Nat} {P : Program} {o : Oper} {m : Act} {w w' : World} {next : Act → World → Prop}
theorem OpS.mono {next' : Act → World → Prop} (h : OpS ro P o m w next) (hn : ∀ m w, next m w → next' m w) : OpS ro P o m w next' :=
  fun b ops i rest k cs hb ho hw => let ⟨m', w', q, s⟩ := h b ops i rest k cs hb ho hw; ⟨m', w', hn _ _ q, s⟩
theorem opS_step (hd : ∀ c, o.op ≠ .defer c) {b : Frame} {ops : Array Oper} {i : Nat} {rest : List Nat} {k : List Item} {cs : List Frame} (hb : b.roundOf = ro) (ho : ops[i]? = some o) (hw : Region.wanted o (yielded ops m.tmps) = true) :
    stepG P true { frame := b.atR m (.inRegion ops (i :: rest) :: k), callers := cs, status := .running, dying := none } w = stepG.apply P true (b.atR m (.inRegion ops (i :: rest) :: k)) cs none (execOp m.eval o) w := by
  have hg := stepGR_op (P := P) (b := b) (k := k) (cs := cs) (w := w) (rest := rest) ho hw
  rw [Oper.semAt_eq _ m.eval o hd] at hg
  exact hg
theorem opS_fin {b : Frame} {ops : Array Oper} {i : Nat} {rest : List Nat} {k : List Item} (ho : ops[i]? = some o) (v : Value) : (b.atR m (.inRegion ops (i :: rest) :: k)).finish v = b.atR (m.put o.dst v) (.inRegion ops rest :: k) := by
  rw [Frame.finish_atR, ho]; rfl
theorem opS_value {v : Value} (hd : ∀ c, o.op ≠ .defer c) (hr : (execOp m.eval o).run P w = .ok (.value v) w') (hn : next (m.put o.dst v) w') : OpS ro P o m w next := by
  intro b ops i rest k cs hb ho hw
  refine ⟨_, _, hn, .one (step_lone_go ?_)⟩
  rw [opS_step hd hb ho hw, ← opS_fin ho]
  simp [stepG.apply, hr]
theorem opS_skip (hd : ∀ c, o.op ≠ .defer c) (hr : (execOp m.eval o).run P w = .ok .skip w') (hn : next (m.put o.dst undef) w') : OpS ro P o m w next := by
  intro b ops i rest k cs hb ho hw
  refine ⟨_, _, hn, .one (step_lone_go ?_)⟩
  rw [opS_step hd hb ho hw, ← opS_fin ho]
  simp [stepG.apply, hr]
theorem opS_enter {f : FuncId} {args : Array Value} (hd : ∀ c, o.op ≠ .defer c) (hr : (execOp m.eval o).run P w = .ok (.enter f args) w') (hc : Calls P f args w' fun e w'' => ∃ v, e = .returned v ∧ next (m.put o.dst v) w'') : OpS ro P o m w next := by
  intro b ops i rest k cs hb ho hw
  obtain ⟨e, w'', fr, ⟨v, rfl, hn⟩, hs, hfn, hl⟩ := hc (b.atR m (.inRegion ops (i :: rest) :: k) :: cs)
  refine ⟨_, _, hn, ?_⟩
  have henter : step P (lone (b.atR m (.inRegion ops (i :: rest) :: k)) cs w) = .next (lone (Frame.enter P f args .normal) (b.atR m (.inRegion ops (i :: rest) :: k) :: cs) w') :=
    step_lone_go (by rw [opS_step hd hb ho hw]; simp [stepG.apply, hr, Frame.atR])
  refine .head henter (Steps.trans hs (.one ?_))
  rw [← opS_fin ho]
  exact step_leave_returned hl
theorem opS_round {l : Nat} {f : FuncId} {tmps : Array Value} {x y : Code} (hd : ∀ c, o.op ≠ .defer c) (hr : (execOp m.eval o).run P w = .ok (.round l f tmps x y) w') (hc : RoundIn Fence.wide 0 P l f tmps x y w' fun e w'' => ∃ v, e = .returned v ∧ next (m.put o.dst v) w'') : OpS ro P o m w next := by
  intro b ops i rest k cs hb ho hw
  obtain ⟨e, w'', ⟨v, rfl, hn⟩, hs⟩ := hc.2 (b.atR m (.inRegion ops (i :: rest) :: k)) cs (room_wide _)
  refine ⟨_, _, hn, ?_⟩
  have henter : step P (lone (b.atR m (.inRegion ops (i :: rest) :: k)) cs w) = .next (lone (Frame.round l f tmps x y .normal) (b.atR m (.inRegion ops (i :: rest) :: k) :: cs) w') :=
    step_lone_go (by rw [opS_step hd hb ho hw]; simp [stepG.apply, hr, Frame.atR])
  rw [← opS_fin ho]
  exact .head henter (StepsIn.steps hs)
theorem opS_comm {c : CommCase} {shape : CommShape} {blocking : Bool} {v : Value} {w1 : World} (hd : ∀ c, o.op ≠ .defer c) (hr : (execOp m.eval o).run P w = .ok (.comm #[c] blocking shape) w1)
    (hs : ∀ fr cs es, stepG P true (Conc.G fr cs) w = .comm (Conc.G fr cs) #[c] blocking shape w1 es → step P (Conc.solo (Conc.G fr cs) w) = .next (Conc.solo (Conc.G (fr.finish v) cs) w')) (hn : next (m.put o.dst v) w') : OpS ro P o m w next := by
  intro b ops i rest k cs hb ho hw
  refine ⟨_, _, hn, ?_⟩
  rw [← opS_fin ho]
  have hg := opS_step (P := P) (w := w) (rest := rest) (k := k) (cs := cs) hd hb ho hw
  have : ∃ es, stepG P true (Conc.G (b.atR m (.inRegion ops (i :: rest) :: k)) cs) w = .comm (Conc.G (b.atR m (.inRegion ops (i :: rest) :: k)) cs) #[c] blocking shape w1 es := by
    refine ⟨seen P (b.atR m (.inRegion ops (i :: rest) :: k)).fn (if (b.atR m (.inRegion ops (i :: rest) :: k)).kind = .early then #[] else Sem.events P (execOp m.eval o) w #[]), hg.trans ?_⟩
    simp [stepG.apply, hr, Conc.G, GStep.after]
  obtain ⟨es, he⟩ := this
  exact .one (hs _ _ es he)
end opS
theorem new_follows {ro : Option Nat} {P : Program} {β : Place} {h : Heap} {w : World} {m : Act} {o : Oper} {q : AObj} {mk : Nat → Value} {K : Value → Heap → Prop} {next : Act → World → Prop} {ρ : Rho}
    (hρ : RhoRel β ρ m.eval) (hr : Rel P β h w) (hd : ∀ c, o.op ≠ .defer c) (hn : newV P o.op ρ = some (q, mk)) (hK : K (mk h.next) (h.push q)) (hf : Follows P β h w m o.dst K next) : OpS ro P o m w next := by
  obtain ⟨mv, w', s, hrun, hnew⟩ := newV_sound hρ hn w
  obtain ⟨mo, hmo⟩ := hnew.heap
  have hmono := Place.add_mono w.heap.size s hr.noNext
  obtain ⟨hv, ho⟩ := hnew.rel (β.add h.next w.heap.size s) h.next hmono (Place.add_same _ _ _ _)
  obtain ⟨hr', st⟩ := hr.alloc hmo hnew.os hnew.tape hnew.output ho
  exact opS_value hd hrun (hf _ _ _ mv w' hK hv hr' st)

theorem lenH_sound {P : Program} {β : Place} {h : Heap} {w : World} {t : TypeId} {x mx v : Value} (hr : Rel P β h w) (hx : VRel β x mx) (hl : lenH P t h x = some v) (ty : TypeId) : (Builtin.len_ #[t] ty #[mx]).run P w = .ok v w ∧ constOk v = true := by
  unfold lenH at hl
  split at hl
  · rename_i k e hu
    cases hes : entriesV h x with
    | none => simp [hes] at hl
    | some es =>
      simp only [hes, Option.map_some, Option.some.injEq] at hl
      subst hl
      unfold entriesV at hes
      split at hes
      · cases hes
        cases hx
        refine ⟨?_, rfl⟩
        unfold Builtin.len_
        simp [run_underlying hu, goInt]
      · split at hes
        · rename_i es' ck hg
          cases hes
          cases hx with
          | @map _ m s hb =>
            obtain ⟨mes, hh, hE⟩ := hr.obj _ _ _ _ hb hg
            have hlen := hE.length
            refine ⟨?_, rfl⟩
            unfold Builtin.len_
            simp [run_underlying hu, getMap hh, goInt, hlen]
        · cases hes
      · cases hes
  · rename_i d e hu
    split at hl
    · cases hl; cases hx
      refine ⟨?_, rfl⟩
      unfold Builtin.len_
      simp [run_underlying hu, goInt]
    · split at hl
      · rename_i cap buf hg
        cases hl
        cases hx with
        | @chan _ m s hb =>
          obtain ⟨_, mb, sn, rc, hh, hb⟩ := hr.obj _ _ _ _ hb hg
          have hlen := hb.length
          refine ⟨?_, rfl⟩
          unfold Builtin.len_
          have hget : (getObj m).run P w = .ok (.chan cap mb false sn rc false) w := by simp [getObj, Sem.run, hh]
          simp [run_underlying hu, hget, goInt, hlen]
      · cases hl
    · cases hl
  · exact lenV_sound hx hl ty w
theorem capH_sound {P : Program} {β : Place} {h : Heap} {w : World} {t : TypeId} {x mx v : Value} (hr : Rel P β h w) (hx : VRel β x mx) (hl : capH P t h x = some v) (ty : TypeId) : (Builtin.cap_ #[t] ty #[mx]).run P w = .ok v w ∧ constOk v = true := by
  unfold capH at hl
  split at hl
  · rename_i d e hu
    cases hl; cases hx
    refine ⟨?_, rfl⟩
    unfold Builtin.cap_
    simp [run_underlying hu, goInt]
  · rename_i d e r hu
    split at hl
    · rename_i cap buf hg
      cases hl
      cases hx with
      | @chan _ m s hb =>
        obtain ⟨_, mb, sn, rc, hh, hb⟩ := hr.obj _ _ _ _ hb hg
        refine ⟨?_, rfl⟩
        unfold Builtin.cap_
        have hget : (getObj m).run P w = .ok (.chan cap mb false sn rc false) w := by simp [getObj, Sem.run, hh]
        simp [run_underlying hu, hget, goInt]
    · cases hl
  · cases hl
theorem setChan_other (w : World) (c cap : Nat) (buf : Array Value) (s r : Nat) : ∀ k, k ≠ c → (w.setChan c cap buf false s r false).heap[k]? = w.heap[k]? := fun k hk => by
  simp only [World.setChan]; rw [Array.getElem?_setIfInBounds_ne (Ne.symm hk)]
theorem selWp_sound {ro : Option Nat} {P : Program} {β : Place} {h : Heap} {w : World} {m : Act} {o : Oper} {K : Value → Heap → Prop} {next : Act → World → Prop} {ρ : Rho} {cases : Array SelectCase} {s : SelectCase}
    (hρ : RhoRel β ρ m.eval) (hr : Rel P β h w) (hd : ∀ c, o.op ≠ .defer c) (he : o.op = .select cases false) (hc : cases.toList = [s]) (hs : selWp P s ρ h K) (hf : Follows P β h w m o.dst K next) : OpS ro P o m w next := by
  unfold selWp at hs
  split at hs
  · rename_i z r hz hch
    obtain ⟨hk, hs⟩ := hs
    obtain ⟨i, hi, hzv⟩ : ∃ i, P.info? s.elem = some i ∧ i.zero = some z := by
      cases hi : P.info? s.elem with
      | none => simp [hi] at hz
      | some i => exact ⟨i, rfl, by simpa [hi] using hz⟩
    have hzr : (zeroValue s.elem).run P w = .ok z w := by simp [zeroValue, typeInfo, hi, hzv]
    obtain rfl : cases = #[s] := by apply Array.ext'; simpa using hc
    obtain ⟨m', s', hb, hme⟩ : ∃ m' s', β r = some (m', s') ∧ m.eval s.chan = .chan (some m') := by
      have := hρ _ _ hch
      generalize m.eval s.chan = mc at this
      cases this with
      | chan h => exact ⟨_, _, h, rfl⟩
    have hrun : (execOp m.eval o).run P w = .ok (.comm #[{ chan := .chan (some m'), send := s.send.map m.eval, zero := z }] false .select) w := by
      unfold execOp
      rw [he]
      have hmm : (#[s].mapM fun (s : SelectCase) => do pure { chan := m.eval s.chan, send := s.send.map m.eval, zero := ← zeroValue s.elem : CommCase }).run P w = .ok #[{ chan := .chan (some m'), send := s.send.map m.eval, zero := z }] w := by
        rw [Array.mapM_eq_mapM_toList, Sem.run_map]
        simp [hzr, hme]
      simp only [Sem.run_bind, hmm, Result.andThen_ok, Sem.run_pure]
    split at hs
    · rename_i cap buf hg
      obtain ⟨h0, mbuf, sn, rc, hw, hbuf⟩ := hr.obj r m' s' _ hb hg
      have hlen : buf.length = mbuf.size := by simpa using hbuf.length
      have hlt := (hr.dom r m' s' hb).2
      split at hs
      · rename_i x hx
        rw [hx] at hrun
        split at hs
        · rename_i v hv
          split at hs
          · rename_i hroom
            obtain ⟨hr', st⟩ := hr.update (w' := w.setChan m' cap (mbuf.push (m.eval x)) false (sn + 1) rc false) (o' := .chan cap (buf ++ [v])) hb hg rfl rfl (Conc.size_setChan ..) (setChan_other _ _ _ _ _ _) rfl rfl rfl
              ⟨h0, _, _, _, Conc.heap_setChan _ _ _ _ _ _ _ _ hlt, by rw [Array.toList_push]; exact hbuf.append (.cons (hρ _ _ hv) .nil)⟩
            exact opS_comm hd hrun (fun fr cs es hst => Conc.step_lone_select_send_room hst hw (by omega)) (hf _ _ _ _ _ hs (VRel.tuple_iff.2 ⟨_, rfl, .cons (VRel.const rfl) (.cons (.bool _) .nil)⟩) hr' st)
          · rename_i hroom
            exact opS_comm hd hrun (fun fr cs es hst => Conc.step_lone_select_send_full hst hw (by omega)) (hf _ _ _ _ _ hs (VRel.tuple_iff.2 ⟨_, rfl, .cons (VRel.const rfl) (.cons (.bool _) .nil)⟩) hr (Step.refl _ _ _))
        · cases hs
      · rename_i hx
        rw [hx] at hrun
        split at hs
        · have hm0 : mbuf = #[] := by apply Array.ext'; simpa using hlen.symm
          subst hm0
          exact opS_comm hd hrun (fun fr cs es hst => Conc.step_lone_select_default hst hw) (hf _ _ _ _ _ hs (VRel.tuple_iff.2 ⟨_, rfl, .cons (VRel.const rfl) (.cons (.bool _) (.cons (VRel.const hk) .nil))⟩) hr (Step.refl _ _ _))
        · rename_i v rest
          obtain ⟨mv, hmv, hvr⟩ := hbuf.get (i := 0) (v := v) rfl
          have hpos : 0 < mbuf.size := by rw [← hlen]; simp
          have hhead : mbuf.getD 0 undef = mv := by
            have : mbuf[0]? = some mv := by simpa using hmv
            simp [Array.getD_eq_getD_getElem?, this]
          obtain ⟨hr', st⟩ := hr.update (w' := w.setChan m' cap (mbuf.extract 1 mbuf.size) false sn (rc + 1) false) (o' := .chan cap rest) hb hg rfl rfl (Conc.size_setChan ..) (setChan_other _ _ _ _ _ _) rfl rfl rfl
            ⟨h0, _, _, _, Conc.heap_setChan _ _ _ _ _ _ _ _ hlt, by
              have := hbuf.drop 1
              simpa [Array.toList_extract, List.extract_eq_take_drop, List.take_of_length_le] using this⟩
          exact opS_comm hd hrun (fun fr cs es hst => Conc.step_lone_select_recv_buf hst hw hpos) (hf _ _ _ _ _ hs (by rw [hhead]; exact VRel.tuple_iff.2 ⟨_, rfl, .cons (VRel.const rfl) (.cons (.bool _) (.cons hvr .nil))⟩) hr' st)
    · cases hs
  · cases hs
theorem args1 {β : Place} {μ : Operand → Value} {args : Array Operand} {x : Value} (h : VRels β [x] (args.toList.map μ)) : ∃ y, args = #[y] ∧ VRel β x (μ y) := by
  cases hargs : args.toList with
  | nil => rw [hargs] at h; cases h
  | cons y ys =>
    rw [hargs] at h
    cases h with
    | cons h1 t1 =>
      cases ys with
      | cons _ _ => cases t1
      | nil => exact ⟨y, by apply Array.ext'; simpa using hargs, h1⟩
theorem args2 {β : Place} {μ : Operand → Value} {args : Array Operand} {x x' : Value} (h : VRels β [x, x'] (args.toList.map μ)) : ∃ y z, args = #[y, z] ∧ VRel β x (μ y) ∧ VRel β x' (μ z) := by
  cases hargs : args.toList with
  | nil => rw [hargs] at h; cases h
  | cons y ys =>
    rw [hargs] at h
    cases h with
    | cons h1 t1 =>
      cases ys with
      | nil => cases t1
      | cons z zs =>
        cases t1 with
        | cons h2 t2 =>
          cases zs with
          | cons _ _ => cases t2
          | nil => exact ⟨y, z, by apply Array.ext'; simpa using hargs, h1, h2⟩
theorem opWp_sound {ro : Option Nat} {P : Program} {β : Place} {h : Heap} {w : World} {m : Act} {o : Oper} {K : Value → Heap → Prop} {next : Act → World → Prop} {ρ : Rho}
    (hρ : RhoRel β ρ m.eval) (hr : Rel P β h w) (hop : opWp P o.op ρ h K) (hf : Follows P β h w m o.dst K next) : OpS ro P o m w next := by
  have hnd0 : ∀ c, o.op ≠ .defer c := by
    intro c hc
    unfold opWp at hop
    rw [hc] at hop
    exact hop.elim
  have val : ∀ v mv, K v h → VRel β v mv → (execOp m.eval o).run P w = .ok (.value mv) w → OpS ro P o m w next := by
    intro v mv hK hv hrun
    exact opS_value hnd0 hrun (hf v h β mv w hK hv hr (Step.refl _ _ _))
  have does : ∀ {r : Sem Value} {v mv : Value} {h' : Heap} {β' : Place} {w' : World}, r.run P w = .ok mv w' → (execOp m.eval o).run P w = .ok (.value mv) w' → K v h' → VRel β' v mv → Rel P β' h' w' → Step β h w β' h' w' → OpS ro P o m w next := by
    intro r v mv h' β' w' _ hrun hK hv hr' st
    exact opS_value hnd0 hrun (hf v h' β' mv w' hK hv hr' st)
  unfold opWp at hop
  split at hop
  · rename_i t x he
    split at hop
    · rename_i p hp
      split at hop
      · rename_i v hl
        obtain ⟨mv, e, r⟩ := loadV_sound hr (hρ _ _ hp) hl
        exact val v mv hop r (by unfold execOp; rw [he]; simp [e])
      · cases hop
    · cases hop
  · rename_i t x y he
    split at hop
    · rename_i p v hp hv
      split at hop
      · rename_i h' hs
        obtain ⟨w', e, hr', st⟩ := storeV_sound hr (hρ _ _ hp) (hρ _ _ hv) hs
        have hrun : (execOp m.eval o).run P w = .ok .skip w' := by unfold execOp; rw [he]; simp [e]
        exact opS_skip hnd0 hrun (hf _ _ _ undef w' hop VRel.undef hr' st)
      · cases hop
    · cases hop
  · rename_i t x lo hi mx he
    split at hop
    · rename_i a l hh mm ha hl hhh hm
      split at hop
      · rename_i v hs
        obtain ⟨mv, e, r⟩ := sliceV_sound (P := P) (hρ _ _ ha) (optV_rel hρ hl) (optV_rel hρ hhh) (optV_rel hρ hm) (fun b m' s q hb hE => by
          unfold elemSz at hE
          split at hE
          · rename_i cs e hg
            obtain ⟨mc, fr, te, _, _, _, hz⟩ := hr.obj b m' s _ hb hg; obtain ⟨_, _, _, hz⟩ := hz rfl
            unfold szT at hE
            rw [hz] at hE
            simpa using hE
          · cases hE) hs w
        exact val v mv hop r (by unfold execOp; rw [he]; simp [e])
      · cases hop
    · cases hop
  · rename_i s d x he
    split at hop
    · rename_i v hv
      unfold convWp at hop
      split at hop
      · rename_i e hs hd
        obtain ⟨he2, hop⟩ := hop
        split at hop
        · rename_i r hbs
          obtain ⟨e1, hk⟩ := run_bytesStr hr (hρ _ _ hv) hs hd he2 hbs
          exact val _ _ hop (VRel.const hk) (by unfold execOp; rw [he]; simp [e1])
        · cases hop
      · rename_i e t hs hd
        obtain ⟨h1, h2, h3, hop⟩ := hop
        refine new_follows (q := .cells (bytesOf t) e true) (mk := sliceOfNew t.size unk) hρ hr hnd0 ?_ hop hf
        rw [he]
        simp [newV, hs, hd, hv, h1, h2, h3]
      · rename_i e0 e b off n c hs hd
        obtain ⟨h1, hnd, h2, hop⟩ := hop
        split at hop
        · rename_i cs e' hg
          subst h1
          have hee := hs.symm.trans hd
          cases hee
          rcases (hρ _ _ hv).slice_inv with ⟨m', s', c', hb, hm, _⟩ | ⟨_, hcon, _⟩
          · obtain ⟨hr', st, hrun⟩ := freeze_sound hr hb hg
            have hst : OpS ro P o m w next := by
              have e1 : (convert s s (m.eval x)).run P w = .ok (m.eval x) (w.freeze ⟨m', sizeAt w m', none⟩ 1) := by
                rw [hm]
                simp [convert, run_underlying hs, run_underlying h2, markStringish, hrun]
              have e2 : (execOp m.eval o).run P w = .ok (.value (m.eval x)) (w.freeze ⟨m', sizeAt w m', none⟩ 1) := by
                unfold execOp; rw [he]; simp [e1]
              exact opS_value hnd0 e2 (hf _ _ _ _ _ hop (hρ _ _ hv) hr' st)
            exact hst
          · exact absurd hcon hnd
        · cases hop
      · split at hop
        · rename_i r hc
          obtain ⟨e1, hk⟩ := convV_sound (P := P) (hρ _ _ hv) hc w
          exact val _ _ hop hk (by unfold execOp; rw [he]; simp [e1])
        · cases hop
    · cases hop
  · rename_i t x he
    split at hop
    · rename_i q mk hn
      exact new_follows hρ hr hnd0 (by rw [he]; exact hn) hop hf
    · cases hop
  · rename_i t he
    split at hop
    · rename_i q mk hn
      exact new_follows hρ hr hnd0 (by rw [he]; exact hn) hop hf
    · cases hop
  · rename_i t n ps he
    split at hop
    · rename_i q mk hn
      exact new_follows hρ hr hnd0 (by rw [he]; exact hn) hop hf
    · cases hop
  · rename_i t l c he
    split at hop
    · rename_i q mk hn
      exact new_follows hρ hr hnd0 (by rw [he]; exact hn) hop hf
    · cases hop
  · rename_i t r he
    split at hop
    · rename_i q mk hn
      exact new_follows hρ hr hnd0 (by rw [he]; exact hn) hop hf
    · cases hop
  · rename_i t r he
    split at hop
    · rename_i q mk hn
      exact new_follows hρ hr hnd0 (by rw [he]; exact hn) hop hf
    · cases hop
  · rename_i cases he
    split at hop
    · rename_i s hcs
      exact selWp_sound hρ hr hnd0 he hcs hop hf
    · cases hop
  · rename_i f args ts he
    split at hop
    · rename_i fv vs hfv hvs
      unfold callWp at hop
      split at hop
      · rename_i k first cap
        obtain ⟨first', cap', hm, r1, r2⟩ := (VRel.func_iff rfl).1 (hρ _ _ hfv)
        have hvr := allV_rel hρ hvs
        have harr0 : (first'.toList ++ args.toList.map m.eval ++ cap'.toList).toArray = first' ++ args.map m.eval ++ cap' := by apply Array.ext'; simp
        rcases hop with hop | ⟨fn, t, r, es, ck, hfn, hname, horg, hb, hargs, hg, hK⟩
        rotate_left
        · have hall := (r1.append hvr).append r2
          rw [hargs] at hall
          generalize hml : first'.toList ++ args.toList.map m.eval ++ cap'.toList = ml at hall harr0
          cases hall with | cons k1 k2 =>
          cases k2
          cases k1 with | iface k1 =>
          cases k1 with | @map _ m' s hbr =>
          obtain ⟨mes, hw, hE⟩ := hr.obj _ _ _ _ hbr hg
          obtain ⟨e1, e2⟩ := clone_found hname horg
          obtain ⟨hr', st⟩ := hr.alloc (s := ⟨0, 0, 0⟩) (w' := w.alloc (.map mes ck)) (o := .map es ck) (mo := .map mes ck) rfl rfl rfl rfl ⟨mes, World.alloc_heap_new w _, hE.mono (Place.add_mono _ _ hr.noNext)⟩
          have hcl : (Extern.MapsClone.clone #[.iface t (.map (some m'))]).run P w = .ok (.iface t (.map (some w.heap.size))) (w.alloc (.map mes ck)) := by
            have e : Extern.MapsClone.clone #[.iface t (.map (some m'))] = (getObj m' >>= fun o => match o with
                | .map entries clock => (newObj (.map entries clock) >>= fun n => pure (.iface t (.map (some n))))
                | _ => stuck "maps.clone: a map expected") := rfl
            have hget : (getObj m').run P w = .ok (.map mes ck) w := by simp [getObj, Sem.run, hw]
            rw [e]
            simp only [Sem.run_bind, hget, Result.andThen_ok, run_newObj_alloc, Sem.run_pure]
          have hrun : (execOp m.eval o).run P w = .ok (.value (.iface t (.map (some w.heap.size)))) (w.alloc (.map mes ck)) := by
            unfold execOp
            rw [he]
            have hne : (fn.name == "runtime.NumGoroutine") = false := by rw [hname]; decide
            simp only [resolve, hm, Deferred.ofValue, Sem.run_bind, Sem.run_pure, Result.andThen_ok, invoke, ← harr0, callFunc, run_program, hfn, hne, hb, Bool.false_eq_true, if_false, if_true, e1, e2, mark, Sem.run, hcl]
          exact opS_value hnd0 hrun (hf _ _ _ _ _ hK (.iface (.map (Place.add_same _ _ _ _))) hr' st)
        obtain ⟨⟨fn, hfn, hb, hname⟩, hcall⟩ := hop
        have hc := hcall β w (first'.toList ++ args.toList.map m.eval ++ cap'.toList) ((r1.append hvr).append r2) hr
        have hrun : (execOp m.eval o).run P w = .ok (.enter k (first'.toList ++ args.toList.map m.eval ++ cap'.toList).toArray) w := by
          unfold execOp
          rw [he]
          have harr : (first'.toList ++ args.toList.map m.eval ++ cap'.toList).toArray = first' ++ args.map m.eval ++ cap' := by apply Array.ext'; simp
          rw [harr]
          simp only [resolve, hm, Deferred.ofValue, Sem.run_bind, Sem.run_pure, Result.andThen_ok, invoke, callFunc, run_program, hfn, hname, hb, Bool.false_eq_true, if_false]
        refine opS_enter hnd0 hrun (hc.mono ?_)
        rintro e w' ⟨mv, rfl, v, h', β', hv', hr', st, hK⟩
        exact ⟨mv, rfl, hf v h' β' mv w' hK hv' hr' st⟩
      · rename_i l _ _
        obtain ⟨m', s, hb, hm⟩ := (hρ _ _ hfv).yield_inv
        have hvr := allV_rel hρ hvs
        obtain ⟨f', tmps, x, y, e, hround⟩ := hop β m' s w _ hb hvr hr
        have hrun : (execOp m.eval o).run P w = .ok (.round m' f' tmps x y) w := by
          unfold execOp
          rw [he]
          have harr : (args.toList.map m.eval).toArray = args.map m.eval := by apply Array.ext'; simp
          rw [harr] at e
          simp only [resolve, hm, Deferred.ofValue, Sem.run_bind, Sem.run_pure, Result.andThen_ok, invoke, Array.empty_append, e]
        refine opS_round hnd0 hrun (hround.mono ?_)
        rintro e w' ⟨mv, rfl, v, h', β', hv', hr', st, hK⟩
        exact ⟨mv, rfl, hf v h' β' mv w' hK hv' hr' st⟩
      · cases hop
    · cases hop
  · rename_i args ts he
    split at hop
    · rename_i s x hvs
      split at hop
      · rename_i v h' ha
        have hvr := allV_rel hρ hvs
        cases hargs : args.toList with
        | nil => rw [hargs] at hvr; cases hvr
        | cons y ys =>
          rw [hargs] at hvr
          cases hvr with
          | cons h1 t1 =>
            cases ys with
            | nil => cases t1
            | cons z zs =>
              cases t1 with
              | cons h2 t2 =>
                cases zs with
                | cons _ _ => cases t2
                | nil =>
                  obtain ⟨β', mv, w', e, r, hr', st⟩ := appendV_sound (ty := o.type) hr h1 h2 ha
                  have h3 : args = #[y, z] := by apply Array.ext'; simpa using hargs
                  subst h3
                  have hrun : (execOp m.eval o).run P w = .ok (.value mv) w' := by
                    unfold execOp
                    rw [he]
                    simp only [resolve, Sem.run_bind, Sem.run_pure, Result.andThen_ok, invoke, builtin, List.map_toArray, List.map_cons, List.map_nil, e]
                  exact opS_value hnd0 hrun (hf v h' β' mv w' hop r hr' st)
      · cases hop
    · cases hop
  · rename_i args ts he
    split at hop
    · rename_i x t hvs hts
      split at hop
      · rename_i v hl
        obtain ⟨y, rfl, h1⟩ := args1 (allV_rel hρ hvs)
        obtain ⟨e, hk⟩ := lenH_sound hr h1 hl o.type
        obtain rfl : ts = #[t] := by apply Array.ext'; simpa using hts
        refine val v v hop (VRel.const hk) ?_
        unfold execOp
        rw [he]
        simp only [resolve, Sem.run_bind, Sem.run_pure, Result.andThen_ok, invoke, builtin, List.map_toArray, List.map_cons, List.map_nil, e]
      · cases hop
    · cases hop
  · rename_i args ts he
    split at hop
    · rename_i x t hvs hts
      split at hop
      · rename_i v hl
        obtain ⟨y, rfl, h1⟩ := args1 (allV_rel hρ hvs)
        obtain ⟨e, hk⟩ := capH_sound hr h1 hl o.type
        obtain rfl : ts = #[t] := by apply Array.ext'; simpa using hts
        refine val v v hop (VRel.const hk) ?_
        unfold execOp
        rw [he]
        simp only [resolve, Sem.run_bind, Sem.run_pure, Result.andThen_ok, invoke, builtin, List.map_toArray, List.map_cons, List.map_nil, e]
      · cases hop
    · cases hop
  · rename_i args ts he
    split at hop
    · rename_i d x hvs
      split at hop
      · rename_i v h' ha
        obtain ⟨y, z, rfl, h1, h2⟩ := args2 (allV_rel hρ hvs)
        obtain ⟨w', e, r, hr', st⟩ := copyV_sound (ty := o.type) hr h1 h2 ha
        have hrun : (execOp m.eval o).run P w = .ok (.value v) w' := by
          unfold execOp
          rw [he]
          simp only [Array.toArray_toList] at e
          simp only [resolve, Sem.run_bind, Sem.run_pure, Result.andThen_ok, invoke, builtin, List.map_toArray, List.map_cons, List.map_nil, e]
        exact opS_value hnd0 hrun (hf v h' β v w' hop r hr' st)
      · cases hop
    · cases hop
  · rename_i args ts he
    split at hop
    · rename_i mp k t _ hvs hts
      split at hop
      · rename_i h' ha
        obtain ⟨y, z, rfl, h1, h2⟩ := args2 (allV_rel hρ hvs)
        obtain ⟨w', e, hr', st⟩ := mapDelV_sound (ty := o.type) (ts := ts) hr h1 h2 (by rw [← Array.getElem?_toList, hts]; rfl) ha
        have hrun : (execOp m.eval o).run P w = .ok (.value (.tuple #[])) w' := by
          unfold execOp
          rw [he]
          simp only [resolve, Sem.run_bind, Sem.run_pure, Result.andThen_ok, invoke, builtin, List.map_toArray, List.map_cons, List.map_nil, e]
        exact opS_value hnd0 hrun (hf (.tuple #[]) h' β (.tuple #[]) w' hop (VRel.const rfl) hr' st)
      · cases hop
    · cases hop
  · rename_i t x y z he
    split at hop
    · rename_i mp k v h1 h2 h3
      split at hop
      · rename_i h' hs
        obtain ⟨w', e, hr', st⟩ := mapPutV_sound hr (hρ _ _ h1) (hρ _ _ h2) (hρ _ _ h3) hs
        have hrun : (execOp m.eval o).run P w = .ok .skip w' := by unfold execOp; rw [he]; simp [e]
        exact opS_skip hnd0 hrun (hf _ _ _ undef w' hop VRel.undef hr' st)
      · cases hop
    · cases hop
  · rename_i t x y z he
    split at hop
    · rename_i mp k v h1 h2 h3
      split at hop
      · rename_i h' hs
        obtain ⟨w', e, hr', st⟩ := mapPutV_sound hr (hρ _ _ h1) (hρ _ _ h2) (hρ _ _ h3) hs
        have hrun : (execOp m.eval o).run P w = .ok .skip w' := by unfold execOp; rw [he]; simp [e]
        exact opS_skip hnd0 hrun (hf _ _ _ undef w' hop VRel.undef hr' st)
      · cases hop
    · cases hop
  · rename_i t x y ok he
    split at hop
    · rename_i mp k h1 h2
      split at hop
      · rename_i v hl
        obtain ⟨mv, e, r⟩ := lookupV_sound hr (hρ _ _ h1) (hρ _ _ h2) hl
        exact val v mv hop r (by unfold execOp; rw [he]; simp [e])
      · cases hop
    · cases hop
  · rename_i t x he
    split at hop
    · rename_i v h1
      obtain ⟨mv, w', v', h', β', e, hv, hr', st, hK⟩ := range_sound hr (hρ _ _ h1) hop
      exact does e (by unfold execOp; rw [he]; simp [e]) hK hv hr' st
    · cases hop
  · rename_i x s he
    split at hop
    · rename_i v h1
      obtain ⟨mv, w', v', h', β', e, hv, hr', st, hK⟩ := next_sound (ty := o.type) hr (hρ _ _ h1) hop
      exact does e (by unfold execOp; rw [he]; simp [e]) hK hv hr' st
    · cases hop
  · rename_i x he
    split at hop
    · rename_i v h1
      obtain ⟨mv, w', v', h', β', e, hv, hr', st, hK⟩ := entry_sound hr (hρ _ _ h1) hop
      exact does e (by unfold execOp; rw [he]; simp [e]) hK hv hr' st
    · cases hop
  · rename_i t x he
    split at hop
    · rename_i v h1
      split at hop
      · rename_i v' hi
        unfold ifaceV at hi
        split at hi
        · cases hi
        · rename_i D hD hu
          cases hi
          refine val _ (.iface t (m.eval x)) hop (.iface (hρ _ _ h1)) ?_
          unfold execOp
          rw [he]
          simp only [Instr.makeInterface, Sem.run_bind, run_underlying hu, Result.andThen_ok]
          cases D <;> first | rfl | exact absurd rfl (hD _)
        · cases hi
      · cases hop
    · cases hop
  · rename_i x xt t ok he
    split at hop
    · rename_i v h1
      split at hop
      · rename_i v' hi
        unfold assertV at hi
        split at hi
        · cases hi
        · rename_i D t' u hD hu
          split at hi
          · rename_i ht
            subst ht
            cases hi
            have h2 := hρ _ _ h1
            generalize hme : m.eval x = mx at h2
            cases h2 with
            | @iface _ _ mu h3 =>
              refine val _ (if ok then .tuple #[mu, .bool true] else mu) hop ?_ ?_
              · cases ok
                · exact h3
                · exact VRel.tuple_iff.2 ⟨_, rfl, .cons h3 (.cons (.bool true) .nil)⟩
              · unfold execOp
                rw [he]
                simp only [hme, Instr.typeAssert, Sem.run_bind, run_underlying hu, Result.andThen_ok]
                cases D <;> first | exact absurd rfl (hD _) | (simp; done)
          · cases hi
        · cases hi
      · cases hop
    · cases hop
  · split at hop
    · rename_i v hp
      obtain ⟨mv, e, r⟩ := pureV_sound (P := P) hρ hp w
      exact val v mv hop r e
    · cases hop
end Go.Sim
