/- All operations, reckoned; lists of them; regions that draw. -/
import Derived.Test.YtonejeaomblpiaaGreatI3
set_option linter.unusedSimpArgs false
set_option linter.unusedVariables false
set_option linter.defProp false
namespace Go.Sim
open Go.RowKit

/-- A choice of one communication, or of none. -/
def selX (P : Program) (s : SelectCase) (ρ : Rho) (p : PH) (K : KX) : Bool :=
  match (P.info? s.elem).bind (·.zero), ρ s.chan with
  | some z, some (.chan (some r)) => constOk z && match p.get r with
    | some (.chan cap buf) => match s.send with
      | some x => match ρ x with
        | some v => if buf.length < cap then (match setX p r (.chan cap (buf ++ [v])) with
            | some p' => K (.tuple #[goInt 0, .bool false]) p'
            | none => false) else K (.tuple #[goInt (-1), .bool false]) p
        | none => false
      | none => match buf with
        | [] => K (.tuple #[goInt (-1), .bool false, z]) p
        | v :: rest => match setX p r (.chan cap rest) with
          | some p' => K (.tuple #[goInt 0, .bool true, v]) p'
          | none => false
    | _ => false
  | _, _ => false
theorem selX_sound {P : Program} {s : SelectCase} {ρ : Rho} {p : PH} {K : KX} (h : selX P s ρ p K = true) : selWp P s ρ p.heap (up K) := by
  unfold selX at h
  unfold selWp
  split at h
  · rename_i z r hz hch
    simp only [hz, hch]
    rw [Bool.and_eq_true] at h
    refine ⟨h.1, ?_⟩
    have h2 := h.2
    split at h2
    · rename_i cap buf hg
      have hg' : p.heap.get r = _ := hg
      simp only [hg']
      split at h2
      · rename_i x hx
        split at h2
        · rename_i v hv
          split at h2
          · rename_i hroom
            simp only [hx, hv]; rw [if_pos hroom]
            split at h2
            · rename_i p' hs; exact ⟨p', setX_sound hs hg, h2⟩
            · cases h2
          · rename_i hroom
            simp only [hx, hv]; rw [if_neg hroom]
            exact ⟨p, rfl, h2⟩
        · cases h2
      · rename_i hx
        simp only [hx]
        split at h2
        · exact ⟨p, rfl, h2⟩
        · split at h2
          · rename_i p' hs; exact ⟨p', setX_sound hs hg, h2⟩
          · cases h2
    · cases h2
  · cases h
def opX (P : Program) (call : CallX) (o : Op) (ρ : Rho) (p : PH) (K : KX) : Bool :=
  match o with
  | .load t x => match ρ x with
    | some q => match loadV P t p.heap q with
      | some v => K v p
      | none => false
    | none => false
  | .store t x y => match ρ x, ρ y with
    | some q, some v => match storeX P t p q v with
      | some p' => K undef p'
      | none => false
    | _, _ => false
  | .slice t x lo hi mx => match ρ x, optV ρ lo, optV ρ hi, optV ρ mx with
    | some v, some l, some hh, some m => match sliceV P (elemSz P p.heap) t v l hh m with
      | some v => K v p
      | none => false
    | _, _, _, _ => false
  | .convert s d x => match ρ x with
    | some v => convX P s d v p K
    | none => false
  | .box t x => newX P (.box t x) ρ p K
  | .alloc t => newX P (.alloc t) ρ p K
  | .buildSlice t n ps => newX P (.buildSlice t n ps) ρ p K
  | .makeSlice t l c => newX P (.makeSlice t l c) ρ p K
  | .makeMap t r => newX P (.makeMap t r) ρ p K
  | .makeChan t r => newX P (.makeChan t r) ρ p K
  | .select cases false => match cases.toList with
    | [s] => selX P s ρ p K
    | _ => false
  | .call { callee := .value f, args := args, argTypes := _ } => match ρ f, allV ρ args.toList with
    | some (.func (.func k) first cap), some vs => call (.func k) (first.toList ++ vs ++ cap.toList) p K
    | some (.func (.yield l) _ _), some vs => call (.yield l) vs p K
    | _, _ => false
  | .call { callee := .builtin .append, args := args, argTypes := ts } => match allV ρ args.toList with
    | some [s, x] => match appendP P ts.toList p.heap s x with
      | some (v, act) => applyX p act (K v)
      | none => false
    | _ => false
  | .call { callee := .builtin .len, args := args, argTypes := ts } => match allV ρ args.toList, ts.toList with
    | some [x], [t] => match lenH P t p.heap x with
      | some v => K v p
      | none => false
    | _, _ => false
  | .call { callee := .builtin .cap, args := args, argTypes := ts } => match allV ρ args.toList, ts.toList with
    | some [x], [t] => match capH P t p.heap x with
      | some v => K v p
      | none => false
    | _, _ => false
  | .call { callee := .builtin .copy, args := args, argTypes := ts } => match allV ρ args.toList with
    | some [d, x] => match copyX P ts.toList p d x with
      | some (v, p') => K v p'
      | none => false
    | _ => false
  | .call { callee := .builtin .delete, args := args, argTypes := ts } => match allV ρ args.toList, ts.toList with
    | some [m, k], t :: _ => match mapDelX P t p m k with
      | some p' => K (.tuple #[]) p'
      | none => false
    | _, _ => false
  | .insert t x y z => match ρ x, ρ y, ρ z with
    | some m, some k, some v => match mapPutX P t p m k v with
      | some p' => K undef p'
      | none => false
    | _, _, _ => false
  | .mapUpdate t x y z => match ρ x, ρ y, ρ z with
    | some m, some k, some v => match mapPutX P t p m k v with
      | some p' => K undef p'
      | none => false
    | _, _, _ => false
  | .lookup t x y ok => match ρ x, ρ y with
    | some m, some k => match lookupV P t p.heap m k ok with
      | some v => K v p
      | none => false
    | _, _ => false
  | .range t x => match ρ x with
    | some v => rangeX P t v p K
    | none => false
  | .next x s => match ρ x with
    | some v => nextX P v s p K
    | none => false
  | .entry x => match ρ x with
    | some v => entryX P v p K
    | none => false
  | .makeInterface t x => match ρ x with
    | some v => match ifaceV P t v with
      | some v' => K v' p
      | none => false
    | none => false
  | .typeAssert x _ t ok => match ρ x with
    | some v => match assertV P v t ok with
      | some v' => K v' p
      | none => false
    | none => false
  | o => match pureV P o ρ with
    | some v => K v p
    | none => false

theorem opX_sound {P : Program} {call : CallX} (hc : CallOk P call) {o : Op} {ρ : Rho} {p : PH} {K : KX} (h : opX P call o ρ p K = true) : opWp P o ρ p.heap (up K) := by
  unfold opX at h
  unfold opWp
  split at h
  · split at h
    · split at h
      · simp only [*]; exact ⟨p, rfl, h⟩
      · cases h
    · cases h
  · split at h
    · split at h
      · rename_i p' hs
        simp only [*, storeX_sound hs]; exact ⟨p', rfl, h⟩
      · cases h
    · cases h
  · split at h
    · split at h
      · simp only [*]; exact ⟨p, rfl, h⟩
      · cases h
    · cases h
  · split at h
    · simp only [*]; exact convX_sound h
    · cases h
  · exact newX_sound h
  · exact newX_sound h
  · exact newX_sound h
  · exact newX_sound h
  · exact newX_sound h
  · exact newX_sound h
  · split at h
    · simp only [*]; exact selX_sound h
    · cases h
  · split at h
    · rename_i k _ _ _ _ _; simp only [*]; exact hc (.func k) _ _ _ h
    · rename_i l _ _ _ _ _; simp only [*]; exact hc (.yield l) _ _ _ h
    · cases h
  · split at h
    · split at h
      · rename_i v act ha
        obtain ⟨h1, h2⟩ := appendP_sound ha
        obtain ⟨p', k1, k2⟩ := applyX_sound h h2
        simp only [*]; exact ⟨p', k1, k2⟩
      · cases h
    · cases h
  · split at h
    · split at h
      · simp only [*]; exact ⟨p, rfl, h⟩
      · cases h
    · cases h
  · split at h
    · split at h
      · simp only [*]; exact ⟨p, rfl, h⟩
      · cases h
    · cases h
  · split at h
    · split at h
      · rename_i v p' ha
        simp only [*, copyX_sound ha]; exact ⟨p', rfl, h⟩
      · cases h
    · cases h
  · split at h
    · split at h
      · rename_i p' ha
        simp only [*, mapDelX_sound ha]; exact ⟨p', rfl, h⟩
      · cases h
    · cases h
  · split at h
    · split at h
      · rename_i p' ha
        simp only [*, mapPutX_sound ha]; exact ⟨p', rfl, h⟩
      · cases h
    · cases h
  · split at h
    · split at h
      · rename_i p' ha
        simp only [*, mapPutX_sound ha]; exact ⟨p', rfl, h⟩
      · cases h
    · cases h
  · split at h
    · split at h
      · simp only [*]; exact ⟨p, rfl, h⟩
      · cases h
    · cases h
  · split at h
    · simp only [*]; exact rangeX_sound h
    · cases h
  · split at h
    · simp only [*]; exact nextX_sound h
    · cases h
  · split at h
    · simp only [*]; exact entryX_sound h
    · cases h
  · split at h
    · split at h
      · simp only [*]; exact ⟨p, rfl, h⟩
      · cases h
    · cases h
  · split at h
    · split at h
      · simp only [*]; exact ⟨p, rfl, h⟩
      · cases h
    · cases h
  · split at h
    · simp only [*]; exact ⟨p, rfl, h⟩
    · cases h

/-! ### Lists -/
abbrev FX := Frm → PH → Bool
def upF (K : FX) (a : Frm) (h : Heap) : Prop := ∃ p : PH, p.heap = h ∧ K a p = true
def runC (P : Program) (call : CallX) : List C → FX → FX
  | [], K, a, p => K a p
  | c :: r, K, a, p => match c.g with
    | none => opX P call c.op a.ev p (fun v p' => runC P call r K (a.put c.d v) p')
    | some (t, want) => match guardV t want a with
      | some true => opX P call c.op a.ev p (fun v p' => runC P call r K (a.put c.d v) p')
      | some false => runC P call r K (a.put c.d undef) p
      | none => false
theorem convWp_mono {P : Program} {s d : TypeId} {x : Value} {h : Heap} {K K' : Value → Heap → Prop} (hk : ∀ v h, K v h → K' v h) (q : convWp P s d x h K) : convWp P s d x h K' := by
  unfold convWp at q ⊢
  split at q
  · refine ⟨q.1, ?_⟩
    have q2 := q.2
    split at q2
    · exact hk _ _ q2
    · exact q2.elim
  · exact ⟨q.1, q.2.1, q.2.2.1, hk _ _ q.2.2.2⟩
  · refine ⟨q.1, q.2.1, q.2.2.1, ?_⟩
    have q2 := q.2.2.2
    split at q2
    · exact hk _ _ q2
    · exact q2.elim
  · split at q
    · exact hk _ _ q
    · exact q.elim
theorem rangeWp_mono {P : Program} {t : TypeId} {x : Value} {h : Heap} {K K' : Value → Heap → Prop} (hk : ∀ v h, K v h → K' v h) (q : rangeWp P t x h K) : rangeWp P t x h K' := by
  unfold rangeWp at q ⊢
  split at q
  · exact hk _ _ q
  · exact hk _ _ q
  · split at q
    · exact hk _ _ q
    · exact q.elim
  · exact q.elim
theorem nextWp_mono {P : Program} {x : Value} {s : Bool} {h : Heap} {K K' : Value → Heap → Prop} (hk : ∀ v h, K v h → K' v h) (q : nextWp P x s h K) : nextWp P x s h K' := by
  unfold nextWp at q ⊢
  split at q
  · split at q
    · split at q
      · rename_i hl; rw [if_pos hl]; exact hk _ _ q
      · rename_i hl; rw [if_neg hl]; exact hk _ _ q
    · exact q.elim
  · split at q
    · exact hk _ _ q
    · split at q
      · exact ⟨q.1, fun e => hk _ _ (q.2.1 e), fun e he hs => hk _ _ (q.2.2 e he hs)⟩
      · exact q.elim
    · exact q.elim
  · exact q.elim
theorem entryWp_mono {P : Program} {x : Value} {h : Heap} {K K' : Value → Heap → Prop} (hk : ∀ v h, K v h → K' v h) (q : entryWp P x h K) : entryWp P x h K' := by
  unfold entryWp at q ⊢
  split at q
  · split at q
    · split at q
      · split at q
        · rename_i hc
          rw [if_pos hc]
          split at q
          · exact hk _ _ q
          · exact q.elim
        · exact q.elim
      · exact q.elim
    · exact q.elim
  · exact q.elim
theorem callWp_mono {P : Program} {f : Value} {vs : List Value} {h : Heap} {K K' : Value → Heap → Prop} (hk : ∀ v h, K v h → K' v h) (q : callWp P f vs h K) : callWp P f vs h K' := by
  unfold callWp at q ⊢
  split at q
  · exact ADoes.mono q hk
  · exact AYield.mono q hk
  · exact q.elim
theorem selWp_mono {P : Program} {s : SelectCase} {ρ : Rho} {h : Heap} {K K' : Value → Heap → Prop} (hk : ∀ v h, K v h → K' v h) (q : selWp P s ρ h K) : selWp P s ρ h K' := by
  unfold selWp at q ⊢
  split at q
  · refine ⟨q.1, ?_⟩
    have q2 := q.2
    split at q2
    · rename_i cap buf hg
      try simp only [hg]
      split at q2
      · rename_i x hx
        split at q2
        · rename_i v hv
          try simp only [hx, hv]
          split at q2
          · rename_i hr; rw [if_pos hr]; exact hk _ _ q2
          · rename_i hr; rw [if_neg hr]; exact hk _ _ q2
        · exact q2.elim
      · rename_i hx
        try simp only [hx]
        split at q2
        · exact hk _ _ q2
        · exact hk _ _ q2
    · exact q2.elim
  · exact q.elim
theorem opWp_mono {P : Program} {o : Op} {ρ : Rho} {h : Heap} {K K' : Value → Heap → Prop} (hk : ∀ v h, K v h → K' v h) (q : opWp P o ρ h K) : opWp P o ρ h K' := by
  unfold opWp at q ⊢
  split at q <;> first
    | (split at q <;> first
        | exact convWp_mono hk q
        | exact rangeWp_mono hk q
        | exact nextWp_mono hk q
        | exact entryWp_mono hk q
        | exact callWp_mono hk q
        | exact selWp_mono hk q
        | exact hk _ _ q
        | exact q.elim
        | (split at q <;> first | exact hk _ _ q | exact q.elim))
theorem runC_sound {P : Program} {call : CallX} (hc : CallOk P call) : ∀ (l : List C) {K : FX} {K' : Frm → Heap → Prop} {a : Frm} {p : PH}, (∀ a p, K a p = true → K' a p.heap) → runC P call l K a p = true → cWp P l K' a p.heap
  | [], K, K', a, p, hk, h => hk a p h
  | c :: r, K, K', a, p, hk, h => by
    have step : ∀ a' : Frm, opX P call c.op a'.ev p (fun v p' => runC P call r K (a'.put c.d v) p') = true → opWp P c.op a'.ev p.heap (fun v h' => cWp P r K' (a'.put c.d v) h') := by
      intro a' h
      refine opWp_mono ?_ (opX_sound hc h)
      rintro v h' ⟨p', rfl, h2⟩
      exact runC_sound hc r hk h2
    unfold runC at h
    unfold cWp
    cases hg : c.g with
    | none => rw [hg] at h; exact step a h
    | some tw =>
      obtain ⟨t, want⟩ := tw
      rw [hg] at h
      simp only at h ⊢
      cases hv : guardV t want a with
      | none => rw [hv] at h; cases h
      | some b =>
        rw [hv] at h
        cases b
        · exact ⟨fun e => (by cases e), fun _ => runC_sound hc r hk h⟩
        · exact ⟨fun _ => step a h, fun e => (by cases e)⟩
end Go.Sim
