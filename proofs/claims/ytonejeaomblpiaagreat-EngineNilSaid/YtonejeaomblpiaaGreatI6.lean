/- Code, reckoned: regions that draw, jobs, functions. -/
import Derived.Test.YtonejeaomblpiaaGreatI5
import Derived.Scope
set_option linter.unusedSimpArgs false
set_option linter.unusedVariables false
set_option linter.defProp false
namespace Go.Sim
open Go.RowKit

/-! ### Regions that draw -/
def eqOV : Option Value → Option Value → Bool
  | some a, some b => valEq a b
  | _, _ => false
theorem eqOV_sound {x y : Option Value} (h : eqOV x y = true) : y.isSome = true ∧ x = y := by
  unfold eqOV at h
  split at h
  · rw [valEq_sound _ _ h]; exact ⟨rfl, rfl⟩
  · cases h
def chkB (P : Program) (c : C) (a : Frm) (h : Heap) : Bool :=
  match c.g with
  | none => eqOV (readV P c.op a.ev h) (slotV a c.d)
  | some (t, want) => match guardV t want a with
    | some false => true
    | _ => eqOV (readV P c.op a.ev h) (slotV a c.d)
theorem chkB_sound {P : Program} {c : C} {a : Frm} {h : Heap} (q : chkB P c a h = true) : chkF P c a h := by
  unfold chkB at q
  unfold chkF
  split at q
  · rename_i hg; rw [hg]; exact eqOV_sound q
  · rename_i t want hg
    rw [hg]
    simp only
    split at q
    · rename_i hv; exact .inl hv
    · exact .inr (eqOV_sound q)
def chksB (P : Program) (a : Frm) (h : Heap) : List C → Bool
  | [] => true
  | c :: r => chkB P c a h && chksB P a h r
theorem chksB_sound {P : Program} {a : Frm} {h : Heap} : ∀ {l : List C}, chksB P a h l = true → chkAll P a h l
  | [], _ => trivial
  | _ :: _, q => by
    simp only [chksB, Bool.and_eq_true] at q
    exact ⟨chkB_sound q.1, chksB_sound q.2⟩
def runD (P : Program) (call : CallX) : List (C × List C) → FX → FX
  | [], K, a, p => K a p
  | (c, ks) :: r, K, a, p => runC P call [c] (fun a p => chksB P a p.heap ks && runD P call r K a p) a p
theorem runD_sound {P : Program} {call : CallX} (hc : CallOk P call) : ∀ (l : List (C × List C)) {K : FX} {K' : Frm → Heap → Prop} {a : Frm} {p : PH}, (∀ a p, K a p = true → K' a p.heap) → runD P call l K a p = true → dWp P l K' a p.heap
  | [], K, K', a, p, hk, h => hk a p h
  | (c, ks) :: r, K, K', a, p, hk, h => runC_sound hc [c] (fun a p q => by
      rw [Bool.and_eq_true] at q
      exact ⟨chksB_sound q.1, runD_sound hc r hk q.2⟩) h

/-! ### Jobs -/
inductive Jb where
  | k (x : X)
  | block (id : Nat)
  | loop (x : X)
  | scope (x labs : X)
def fq (P : Program) : List Jb → (Exit → Frm → Heap → Prop) → Exit → Frm → Heap → Prop
  | [], Q => Q
  | .k y :: s, Q => thenQ (fun a h => xWp P y (fq P s Q) a h) (fq P s Q)
  | .block id :: s, Q => blockQ id (fq P s Q)
  | .loop x :: s, Q => thenQ (fun a h => ∀ c, xOf P c .nil = x → LWp P c (fq P s Q) a h) (fq P s Q)
  | .scope x labs :: s, Q => fun e a h => match e with
    | .goto l => ∀ c, xOf P c .nil = x → xLab P c .nil .nil = labs → ∃ rest, findLabel c l = some rest ∧ SWp P c rest (fq P s Q) a h
    | e => fq P s Q e a h
def popTo (id : Nat) : List Jb → Option (List Jb)
  | [] => none
  | .block id' :: s => if id = id' then some s else popTo id s
  | .k _ :: s => popTo id s
  | .loop _ :: s => popTo id s
  | .scope _ _ :: s => popTo id s
theorem popTo_sound {P : Program} {id : Nat} {Q : Exit → Frm → Heap → Prop} {a : Frm} {h : Heap} : ∀ {s s' : List Jb}, popTo id s = some s' → fq P s' Q .normal a h → fq P s Q (.exit id) a h
  | [], _, e, _ => by cases e
  | .block id' :: s, s', e, q => by
    simp only [popTo] at e
    simp only [fq, blockQ]
    by_cases hi : id = id'
    · rw [if_pos hi] at e ⊢; cases e; exact q
    · rw [if_neg hi] at e ⊢; exact popTo_sound e q
  | .k _ :: s, s', e, q => by simp only [popTo] at e; exact popTo_sound (s := s) e q
  | .loop _ :: s, s', e, q => by simp only [popTo] at e; exact popTo_sound (s := s) e q
  | .scope _ _ :: s, s', e, q => by simp only [popTo] at e; exact popTo_sound (s := s) e q
theorem fq_ret {P : Program} {Q : Exit → Frm → Heap → Prop} {a : Frm} {h : Heap} (q : Q .ret a h) : ∀ (s : List Jb), fq P s Q .ret a h
  | [] => q
  | .block _ :: s => fq_ret q s
  | .k _ :: s => fq_ret q s
  | .loop _ :: s => fq_ret q s
  | .scope _ _ :: s => fq_ret q s

/-- Where a label lies, and what is round about it. -/
def popLab (l : Nat) : List Jb → Option (X × List Jb)
  | [] => none
  | .block _ :: s => popLab l s
  | .k _ :: s => popLab l s
  | .loop _ :: s => popLab l s
  | .scope x labs :: s => match labX l labs with
    | some y => some (y, .scope x labs :: s)
    | none => none
theorem awp_goQ {P : Program} {c rest : Code} {s : List Jb} {Q : Exit → Frm → Heap → Prop} {a : Frm} {h : Heap} (q : xWp P (xOf P rest .nil) (fq P (.scope (xOf P c .nil) (xLab P c .nil .nil) :: s) Q) a h) : SWp P c rest (fq P s Q) a h := by
  refine swp_round ((xOf_nil q).mono fun e a h q => ?_)
  cases e <;> first
    | exact q c rfl rfl
    | exact q
theorem popLab_sound {P : Program} {l : Nat} {Q : Exit → Frm → Heap → Prop} {a : Frm} {h : Heap} : ∀ {s : List Jb} {y : X} {s' : List Jb}, popLab l s = some (y, s') → xWp P y (fq P s' Q) a h → fq P s Q (.goto l) a h
  | [], _, _, e, _ => by cases e
  | .block _ :: s, _, _, e, q => by simp only [popLab] at e; exact popLab_sound (s := s) e q
  | .k _ :: s, _, _, e, q => by simp only [popLab] at e; exact popLab_sound (s := s) e q
  | .loop _ :: s, _, _, e, q => by simp only [popLab] at e; exact popLab_sound (s := s) e q
  | .scope x labs :: s, y, s', e, q => by
    simp only [popLab] at e
    split at e
    · rename_i y' hy
      simp only [Option.some.injEq, Prod.mk.injEq] at e
      obtain ⟨rfl, rfl⟩ := e
      intro c hx hl
      subst hx hl
      cases hf : findLabel c l with
      | none =>
        rw [(xLab_find P l c .nil .nil).2 hf] at hy
        cases hy
      | some rest =>
        rw [(xLab_find P l c .nil .nil).1 rest hf] at hy
        cases hy
        exact ⟨rest, rfl, awp_goQ q⟩
    · cases e
theorem fq_exit {P : Program} {id : Nat} {Q : Exit → Frm → Heap → Prop} {a : Frm} {h : Heap} (q : Q (.exit id) a h) : ∀ {s : List Jb}, popTo id s = none → fq P s Q (.exit id) a h
  | [], _ => q
  | .block id' :: s, e => by
    simp only [popTo] at e
    simp only [fq, blockQ]
    by_cases hi : id = id'
    · rw [if_pos hi] at e; cases e
    · rw [if_neg hi] at e ⊢; exact fq_exit q e
  | .k _ :: s, e => by simp only [popTo] at e; exact fq_exit q (s := s) e
  | .loop _ :: s, e => by simp only [popTo] at e; exact fq_exit q (s := s) e
  | .scope _ _ :: s, e => by simp only [popTo] at e; exact fq_exit q (s := s) e

/-! ### What is known of some calls -/
def entsEq : List MapEntry → List MapEntry → Bool
  | [], [] => true
  | a :: r, b :: s => valEq a.key b.key && valEq a.val b.val && Nat.beq a.born b.born && entsEq r s
  | _, _ => false
theorem entsEq_sound : ∀ (a b : List MapEntry), entsEq a b = true → a = b
  | [], b, h => by cases b <;> simp_all [entsEq]
  | ⟨k, v, n⟩ :: r, b, h => by
    cases b with
    | nil => simp [entsEq] at h
    | cons y s =>
      obtain ⟨k', v', n'⟩ := y
      simp only [entsEq, Bool.and_eq_true, Nat.beq_eq] at h
      rw [valEq_sound _ _ h.1.1.1, valEq_sound _ _ h.1.1.2, h.1.2, entsEq_sound r s h.2]
def boolEq : Bool → Bool → Bool
  | true, true => true
  | false, false => true
  | _, _ => false
theorem boolEq_sound {a b : Bool} (h : boolEq a b = true) : a = b := by cases a <;> cases b <;> simp_all [boolEq]
def objEq : AObj → AObj → Bool
  | .cells a e r, .cells b e' r' => valsEq a b && Nat.beq e e' && boolEq r r'
  | .map a c, .map b c' => entsEq a b && Nat.beq c c'
  | .chan c a, .chan c' b => Nat.beq c c' && valsEq a b
  | _, _ => false
theorem objEq_sound {a b : AObj} (h : objEq a b = true) : a = b := by
  unfold objEq at h
  split at h
  · simp only [Bool.and_eq_true, Nat.beq_eq] at h
    rw [valsEq_sound _ _ h.1.1, h.1.2, boolEq_sound h.2]
  · simp only [Bool.and_eq_true, Nat.beq_eq] at h
    rw [entsEq_sound _ _ h.1, h.2]
  · simp only [Bool.and_eq_true, Nat.beq_eq] at h
    rw [h.1, valsEq_sound _ _ h.2]
  · cases h
abbrev Blocks := List (Nat × AObj)
def lookB (b : Nat) : Blocks → Option AObj
  | [] => none
  | (c, o) :: r => bif Nat.beq c b then some o else lookB b r
theorem beq_ne {a b : Nat} (h : a ≠ b) : Nat.beq a b = false := by
  cases hq : Nat.beq a b with
  | false => rfl
  | true => exact absurd (Nat.eq_of_beq_eq_true hq) h
theorem lt_of_blt {a b : Nat} (h : Nat.blt a b = true) : a < b := by rw [Nat.blt_eq] at h; exact h
theorem blt_of_lt {a b : Nat} (h : a < b) : Nat.blt a b = true := by rw [Nat.blt_eq]; exact h
theorem blt_false {a b : Nat} (h : ¬ a < b) : Nat.blt a b = false := by
  cases hq : Nat.blt a b with
  | false => rfl
  | true => exact absurd (lt_of_blt hq) h
theorem lookB_self (b : Nat) (o : AObj) (r : Blocks) : lookB b ((b, o) :: r) = some o := by simp [lookB]
theorem lookB_ne {b c : Nat} (h : c ≠ b) (o : AObj) (r : Blocks) : lookB b ((c, o) :: r) = lookB b r := by
  conv => lhs; unfold lookB
  rw [beq_ne h, cond_false]
/-- The blocks lie there so. -/
def liesX (p : PH) : Blocks → Bool
  | [] => true
  | (b, o) :: r => (match p.get b with
    | some o' => objEq o o'
    | none => false) && liesX p r
def lies (h : Heap) (l : Blocks) : Prop := ∀ b o, lookB b l = some o → h.get b = some o
theorem liesX_sound {p : PH} : ∀ {l : Blocks}, liesX p l = true → lies p.heap l
  | [], _, b, o, e => by cases e
  | (c, q) :: r, h, b, o, e => by
    simp only [liesX, Bool.and_eq_true] at h
    unfold lookB at e
    cases hc : Nat.beq c b with
    | true =>
      rw [hc] at e
      cases e
      have := Nat.eq_of_beq_eq_true hc
      subst this
      have h1 := h.1
      split at h1
      · rename_i o' hg
        rw [objEq_sound h1]
        exact hg
      · cases h1
    | false => rw [hc] at e; exact liesX_sound h.2 b o e
/-- A call: with these blocks there (or any), it answers so, and these blocks are there. -/
structure Ent where
  f : FuncId
  args : List Value
  mem : Option (Nat × Blocks × Nat × Blocks)
  v : Value
abbrev Memo := List Ent
/-- The heap behind such a call. -/
def afterT (t : Tr AObj) : Nat → Nat → Blocks → Tr AObj
  | n0, k + 1, post => Tr.set 31 (afterT t n0 k post) (n0 + k) (lookB (n0 + k) post)
  | n0, 0, post => post.foldr (fun e t => bif Nat.blt e.1 n0 then Tr.set 31 t e.1 (some e.2) else t) t
def afterX (p : PH) (n1 : Nat) (post : Blocks) : PH := ⟨n1, afterT p.t p.next (n1 - p.next) post⟩
theorem afterT_get (n0 : Nat) (post : Blocks) (t : Tr AObj) : ∀ (k b : Nat), n0 + k ≤ PH.room →
    (b < n0 → (afterT t n0 k post).get b = match lookB b post with | some o => some o | none => t.get b) ∧ (n0 ≤ b ∧ b < n0 + k → (afterT t n0 k post).get b = lookB b post)
  | 0, b, hk => by
    refine ⟨fun hb => ?_, fun hb => by omega⟩
    unfold afterT
    induction post with
    | nil => simp [lookB]
    | cons e r ih =>
      obtain ⟨c, o⟩ := e
      simp only [List.foldr_cons]
      by_cases hc : c < n0
      · rw [blt_of_lt hc, cond_true, Tr.get_set _ 31 _ _ _ (by unfold PH.room at hk; omega)]
        by_cases hbc : b = c
        · subst hbc
          rw [if_pos rfl, lookB_self]
        · rw [if_neg hbc, lookB_ne (Ne.symm hbc)]
          exact ih
      · rw [blt_false hc, cond_false, lookB_ne (by omega)]
        exact ih
  | k + 1, b, hk => by
    obtain ⟨h1, h2⟩ := afterT_get n0 post t k b (by omega)
    have hs : (afterT t n0 (k + 1) post).get b = if b = n0 + k then lookB (n0 + k) post else (afterT t n0 k post).get b := by
      conv => lhs; unfold afterT
      rw [Tr.get_set _ 31 _ _ _ (by unfold PH.room at hk; omega)]
    rw [hs]
    refine ⟨fun hb => by rw [if_neg (by omega)]; exact h1 hb, fun hb => ?_⟩
    by_cases he : b = n0 + k
    · rw [if_pos he, he]
    · rw [if_neg he]
      exact h2 (by omega)
/-- What holds behind such a call. -/
def Behind (h : Heap) (n1 : Nat) (post : Blocks) (h' : Heap) : Prop := h'.next = n1 ∧ ∀ b, h'.get b = if b < n1 then (match lookB b post with | some o => some o | none => if b < h.next then h.get b else none) else none
def EntOk (P : Program) (e : Ent) : Prop :=
  match e.mem with
  | none => ∀ h, ACalls P e.f e.args h (fun v h' => v = e.v ∧ h' = h)
  | some (n0, pre, n1, post) => n0 ≤ n1 ∧ ∀ h, h.next = n0 → lies h pre → ACalls P e.f e.args h (fun v h' => v = e.v ∧ Behind h n1 post h')
def MemoOk (P : Program) (M : Memo) : Prop := ∀ e ∈ M, EntOk P e
def lookM : Memo → FuncId → List Value → PH → Option (Value × PH)
  | [], _, _, _ => none
  | e :: r, f, as, p => bif Nat.beq e.f f && valsEq e.args as then (match e.mem with
    | none => some (e.v, p)
    | some (n0, pre, n1, post) => bif Nat.beq p.next n0 && Nat.ble n1 PH.room && liesX p pre then some (e.v, afterX p n1 post) else lookM r f as p) else lookM r f as p
theorem MemoOk.nil (P : Program) : MemoOk P [] := fun _ h => by cases h
theorem MemoOk.cons {P : Program} {M : Memo} {e : Ent} (h1 : EntOk P e) (h2 : MemoOk P M) : MemoOk P (e :: M) := by
  intro e he
  rcases List.mem_cons.1 he with rfl | he
  · exact h1
  · exact h2 e he
theorem MemoOk.append {P : Program} {M N : Memo} (h1 : MemoOk P M) (h2 : MemoOk P N) : MemoOk P (M ++ N) := by
  intro e he
  rcases List.mem_append.1 he with he | he
  · exact h1 e he
  · exact h2 e he
theorem lookM_sound {P : Program} {f : FuncId} {as : List Value} {p p' : PH} {v : Value} : ∀ {M : Memo}, MemoOk P M → lookM M f as p = some (v, p') → ACalls P f as p.heap (fun u h' => u = v ∧ h' = p'.heap)
  | [], _, e => by cases e
  | e :: r, hm, hl => by
    have rest := lookM_sound (M := r) (f := f) (as := as) (p := p) (p' := p') (v := v) (fun e he => hm e (List.mem_cons_of_mem _ he))
    have he := hm e (List.mem_cons_self ..)
    unfold lookM at hl
    cases hf : Nat.beq e.f f && valsEq e.args as with
    | false => rw [hf] at hl; exact rest hl
    | true =>
      rw [hf, cond_true] at hl
      rw [Bool.and_eq_true] at hf
      obtain rfl := Nat.eq_of_beq_eq_true hf.1
      obtain rfl := valsEq_sound _ _ hf.2
      unfold EntOk at he
      split at hl
      · rename_i hmem
        rw [hmem] at he
        cases hl
        exact he p.heap
      · rename_i n0 pre n1 post hmem
        rw [hmem] at he
        cases hq : Nat.beq p.next n0 && Nat.ble n1 PH.room && liesX p pre with
        | false => rw [hq] at hl; exact rest hl
        | true =>
          rw [hq, cond_true] at hl
          cases hl
          simp only [Bool.and_eq_true] at hq
          obtain ⟨⟨q1, q2⟩, q3⟩ := hq
          have q1 := Nat.eq_of_beq_eq_true q1
          have q2 := Nat.le_of_ble_eq_true q2
          refine (he.2 p.heap q1 (liesX_sound q3)).mono ?_
          rintro u h' ⟨rfl, h1, h2⟩
          refine ⟨rfl, Heap.ext'' h1 fun b => ?_⟩
          rw [h2 b]
          have hle := he.1
          show _ = (afterX p n1 post).get b
          unfold PH.get afterX
          simp only
          by_cases hb : b < n1
          · rw [if_pos hb, if_pos hb]
            obtain ⟨a1, a2⟩ := afterT_get p.next post p.t (n1 - p.next) b (by omega)
            by_cases hp : b < p.next
            · rw [a1 hp]
              have e1 : p.heap.get b = p.t.get b := by
                show p.get b = _
                unfold PH.get
                rw [if_pos hp]
              have e2 : b < p.heap.next := hp
              rw [if_pos e2, e1]
            · rw [a2 (by omega)]
              have e2 : ¬ b < p.heap.next := hp
              rw [if_neg e2]
              cases lookB b post <;> rfl
          · rw [if_neg hb, if_neg hb]

abbrev EX := X → List Jb → Frm → PH → (Exit → FX) → Bool
/-- A round of a loop over a function. -/
def yieldX (P : Program) (ih : EX) (l : Nat) (args : List Value) (p : PH) (K : KX) : Bool :=
  match p.get l with
  | some (.loop _ _ n sl ps x y) => decide (args.length = ps.length) && ih (xOf P x .nil) [] (putSl ps args ⟨n, sl⟩) p (fun e a p => match e, p.get l with
    | .normal, some (.loop .ready pend n sl ps x' y') => match setX p l (.loop .busy pend n sl ps x' y') with
      | some p => ih (xOf P y .nil) [] a p (fun e _ p => match p.get l with
        | some (.loop _ _ n sl ps x y) => match e with
          | .normal => match setX p l (.loop .ready none n sl ps x y) with
            | some p => K (.bool true) p
            | none => false
          | .ret => match setX p l (.loop .done (some .ret) n sl ps x y) with
            | some p => K (.bool false) p
            | none => false
          | .exit id => match setX p l (.loop .done (some (.exit id)) n sl ps x y) with
            | some p => K (.bool false) p
            | none => false
          | _ => false
        | _ => false)
      | none => false
    | _, _ => false)
  | _ => false
/-- A function's body, or what is known of it. -/
def bodyX (P : Program) (M : Memo) (ih : EX) (f : FuncId) (args : List Value) (p : PH) (K : KX) : Bool :=
  match lookM M f args p with
  | some (v, p) => K v p
  | none => match P.funcs[f]? with
    | some fn => match fn.body with
      | some c => !(fn.name == "runtime.NumGoroutine") && decide (args.length ≤ fn.ntmps) && ih (xOf P c .nil) [] ⟨fn.ntmps, argSlots 0 args⟩ p (fun e a p => match e with
        | .normal => match resultsV P a p.heap fn.results.toList with
          | some vs => K (packV vs) p
          | none => false
        | .ret => match resultsV P a p.heap fn.results.toList with
          | some vs => K (packV vs) p
          | none => false
        | _ => false)
      | none => false
    | none => false
/-- A map's copy. -/
def cloneX (P : Program) (f : FuncId) (args : List Value) (p : PH) (K : KX) : Bool :=
  match P.funcs[f]? with
  | some fn => fn.name == "maps.clone" && fn.origin == "" && fn.body.isNone && match args with
    | [.iface t (.map (some r))] => match p.get r with
      | some (.map es ck) => pushX p (.map es ck) (K (.iface t (.map (some p.next))))
      | _ => false
    | _ => false
  | none => false
def noBody (P : Program) (f : FuncId) : Bool := match P.funcs[f]? with
  | some fn => match fn.body with
    | some _ => false
    | none => true
  | none => true
def callX (P : Program) (M : Memo) (ih : EX) : CallX := fun f args p K =>
  match f with
  | .func f => match noBody P f with
    | true => cloneX P f args p K
    | false => bodyX P M ih f args p K
  | .yield l => yieldX P ih l args p K
  | _ => false
/-- Behind a loop over a function. -/
def endX (ih : EX) (l : Nat) (k : X) (s : List Jb) (a : Frm) (K : Exit → FX) (p : PH) : Bool :=
  match p.get l with
  | some (.loop st pend n sl ps x y) => (match st with | .busy => false | _ => true) && match setX p l (.loop .exhausted pend n sl ps x y) with
    | some p => match pend with
      | none => ih k s a p K
      | some .ret => K .ret a p
      | some (.exit id) => match popTo id s with
        | some s => ih .nil s a p K
        | none => K (.exit id) a p
      | _ => false
    | none => false
  | _ => false
def stepX (P : Program) (call : CallX) (ih : EX) : EX
  | .nil, s, a, p, K => match s with
    | [] => K .normal a p
    | .k y :: s => ih y s a p K
    | .block _ :: s => ih .nil s a p K
    | .loop x :: s => ih x (.loop x :: s) a p K
    | .scope _ _ :: s => ih .nil s a p K
  | .ret, _, a, p, K => K .ret a p
  | .exit id, s, a, p, K => match popTo id s with
    | some s => ih .nil s a p K
    | none => K (.exit id) a p
  | .goto l, s, a, p, K => match popLab l s with
    | some (y, s) => ih y s a p K
    | none => false
  | .bad, _, _, _, _ => false
  | .reg L k, s, a, p, K => runC P call L (fun a p => ih k s a p K) a p
  | .draw L k, s, a, p, K => runD P call L (fun a p => ih k s a p K) a p
  | .cond c x y k, s, a, p, K => match a.ev c with
    | some (.bool true) => ih x (.k k :: s) a p K
    | some (.bool false) => ih y (.k k :: s) a p K
    | _ => false
  | .block id x k, s, a, p, K => ih x (.block id :: .k k :: s) a p K
  | .loop x k, s, a, p, K => ih x (.loop x :: .k k :: s) a p K
  | .scope x labs k, s, a, p, K => ih x (.scope x labs :: .k k :: s) a p K
  | .lcons _ _ _, _, _, _, _ => false
  | .label _ k, s, a, p, K => ih k s a p K
  | .range f ps c d k, s, a, p, K => match a.ev f with
    | some (.func (.func g) first cap) => pushX p (.loop .ready none a.n a.l ps c d) fun p1 =>
      call (.func g) (first.toList ++ [.func (.yield p.next) #[] #[]] ++ cap.toList) p1 (fun _ p2 => endX ih p.next k s a K p2)
    | _ => false
def execX (P : Program) (M : Memo) : Nat → EX
  | 0 => fun _ _ _ _ _ => false
  | n + 1 => fun x s a p K => stepX P (callX P M (execX P M n)) (execX P M n) x s a p K

def ExOk (P : Program) (ih : EX) : Prop := ∀ {x s a p K} {Q : Exit → Frm → Heap → Prop}, (∀ e a p, K e a p = true → Q e a p.heap) → ih x s a p K = true → xWp P x (fq P s Q) a p.heap
theorem yieldX_sound {P : Program} {ih : EX} (hi : ExOk P ih) {l : Nat} {args : List Value} {p : PH} {K : KX} (h : yieldX P ih l args p K = true) : AYield P l args p.heap (up K) := by
  unfold yieldX at h
  split at h
  · rename_i st pend n sl ps x y hg
    simp only [Bool.and_eq_true, decide_eq_true_eq] at h
    refine ayield_intro (show p.heap.get l = _ from hg) h.1 (xOf_nil (hi (s := []) (fun e a p q => ?_) h.2))
    split at q
    · rename_i pend n sl ps x' y' hg1
      have hg1' : p.heap.get l = _ := hg1
      simp only [hg1']
      split at q
      · rename_i p2 hs
        rw [← setX_sound hs hg1]
        refine xOf_nil (hi (s := []) (fun e a p q => ?_) q)
        split at q
        · rename_i st4 pend4 n4 sl4 ps4 x4 y4 hg3
          have hg3' : p.heap.get l = _ := hg3
          simp only [hg3']
          split at q
          · split at q
            · rename_i p4 hs4; exact ⟨p4, setX_sound hs4 hg3, q⟩
            · cases q
          · split at q
            · rename_i p4 hs4; exact ⟨p4, setX_sound hs4 hg3, q⟩
            · cases q
          · split at q
            · rename_i p4 hs4; exact ⟨p4, setX_sound hs4 hg3, q⟩
            · cases q
          · cases q
        · cases q
      · cases q
    · cases q
  · cases h
theorem bodyX_sound {P : Program} {M : Memo} (hm : MemoOk P M) {ih : EX} (hi : ExOk P ih) {f : FuncId} {args : List Value} {p : PH} {K : KX} (h : bodyX P M ih f args p K = true) : ACalls P f args p.heap (up K) := by
  unfold bodyX at h
  split at h
  · rename_i v p' hv
    exact (lookM_sound hm hv).mono fun u h' q => by
      obtain ⟨rfl, rfl⟩ := q
      exact ⟨p', rfl, h⟩
  · split at h
    · rename_i fn hf
      split at h
      · rename_i c hb
        simp only [Bool.and_eq_true, Bool.not_eq_true', decide_eq_true_eq] at h
        obtain ⟨⟨h1, h2⟩, h3⟩ := h
        refine acalls_intro hf hb rfl rfl h1 h2 (xOf_nil (hi (s := []) (fun e a p q => ?_) h3))
        split at q
        · split at q
          · rename_i vs hv
            exact ⟨vs, hv, p, rfl, q⟩
          · cases q
        · split at q
          · rename_i vs hv
            exact ⟨vs, hv, p, rfl, q⟩
          · cases q
        · cases q
      · cases h
    · cases h
theorem cloneX_sound {P : Program} {f : FuncId} {args : List Value} {p : PH} {K : KX} (h : cloneX P f args p K = true) : AClones P f args p.heap (up K) := by
  unfold cloneX at h
  split at h
  · rename_i fn hf
    simp only [Bool.and_eq_true, beq_iff_eq] at h
    obtain ⟨⟨⟨h1, h2⟩, h3⟩, h⟩ := h
    split at h
    · rename_i t r
      split at h
      · rename_i es ck hg
        obtain ⟨k1, k2⟩ := pushX_sound h
        exact ⟨fn, t, r, es, ck, hf, h1, h2, h3, rfl, hg, _, k1, k2⟩
      · cases h
    · cases h
  · cases h
theorem callX_sound {P : Program} {M : Memo} (hm : MemoOk P M) {ih : EX} (hi : ExOk P ih) : CallOk P (callX P M ih) := by
  intro f args p K h
  unfold callX at h
  split at h
  · split at h
    · exact .inr (cloneX_sound h)
    · exact .inl (bodyX_sound hm hi h)
  · exact yieldX_sound hi h
  · cases h
theorem endX_sound {P : Program} {ih : EX} (hi : ExOk P ih) {l : Nat} {k : X} {s : List Jb} {a : Frm} {K : Exit → FX} {Q : Exit → Frm → Heap → Prop} (hk : ∀ e a p, K e a p = true → Q e a p.heap) {p : PH} (h : endX ih l k s a K p = true) :
    endQ l (thenQ (fun a h => xWp P k (fq P s Q) a h) (fq P s Q)) a p.heap := by
  unfold endX at h
  unfold endQ
  split at h
  · rename_i st pend n sl ps x y hg
    have hg' : p.heap.get l = _ := hg
    simp only [hg']
    rw [Bool.and_eq_true] at h
    obtain ⟨h1, h⟩ := h
    refine ⟨(by rintro rfl; cases h1), ?_⟩
    split at h
    · rename_i p1 hs
      rw [← setX_sound hs hg]
      split at h
      · exact hi hk h
      · exact fq_ret (hk _ _ _ h) s
      · split at h
        · rename_i s' hp
          exact popTo_sound hp (hi (s := s') hk h)
        · rename_i hp
          exact fq_exit (hk _ _ _ h) hp
      · cases h
    · cases h
  · cases h
theorem stepX_sound {P : Program} {call : CallX} {ih : EX} (hc : CallOk P call) (hi : ExOk P ih) : ExOk P (stepX P call ih) := by
  intro x s a p K Q hk h
  cases x with
  | nil =>
    simp only [stepX] at h
    show fq P s Q .normal a p.heap
    split at h
    · exact hk _ _ _ h
    · exact hi hk h
    · exact hi (s := _) hk h
    · rename_i x s
      intro c hx
      subst hx
      refine lwp_round ((xOf_nil (hi hk h)).mono fun e a h q => ?_)
      cases e <;> first
        | exact q c rfl
        | exact q
    · exact hi (s := _) hk h
  | ret => exact fq_ret (hk _ _ _ h) s
  | exit id =>
    simp only [stepX] at h
    split at h
    · rename_i s' hs
      exact popTo_sound hs (hi (s := s') hk h)
    · rename_i hs
      exact fq_exit (hk _ _ _ h) hs
  | goto l =>
    simp only [stepX] at h
    split at h
    · rename_i y s' hs
      exact popLab_sound hs (hi (s := s') hk h)
    · cases h
  | lcons _ _ _ => cases h
  | bad => cases h
  | reg L k => exact runC_sound hc L (fun a p q => hi hk q) h
  | draw L k => exact runD_sound hc L (fun a p q => hi hk q) h
  | cond c x y k =>
    simp only [stepX] at h
    show condWp _ _ _
    split at h
    · rename_i hv; rw [hv]; exact ⟨fun _ => hi (s := .k k :: s) hk h, fun e => (by cases e)⟩
    · rename_i hv; rw [hv]; exact ⟨fun e => (by cases e), fun _ => hi (s := .k k :: s) hk h⟩
    · cases h
  | block id x k => exact hi (s := .block id :: .k k :: s) hk h
  | loop x k =>
    intro c hx
    subst hx
    have q := hi (s := .loop _ :: .k k :: s) hk h
    refine lwp_loop (lwp_round ((xOf_nil q).mono fun e a h q => ?_))
    cases e <;> first
      | exact q c rfl
      | exact q
  | scope x labs k =>
    intro c hx hl
    subst hx hl
    exact swp_scope (awp_goQ (hi (s := .scope _ _ :: .k k :: s) hk h))
  | label l k => exact hi (x := k) hk h
  | range f ps c d k =>
    simp only [stepX] at h
    show AWp P (.rangeFunc f ps.toArray c d) _ a p.heap
    split at h
    · rename_i g first cap hf
      obtain ⟨e1, h⟩ := pushX_sound h
      have hcl : ADoes P g (first.toList ++ [.func (.yield p.next) #[] #[]] ++ cap.toList) _ _ := hc (.func g) _ _ _ h
      rw [e1] at hcl
      have hcl := Or.resolve_right hcl (by
        rintro ⟨_, t, r, _, _, _, _, _, _, e, _⟩
        have : Value.func (.yield p.next) #[] #[] ∈ [Value.iface t (.map (some r))] := by rw [← e]; simp
        simp at this)
      refine arange hf (ACalls.mono hcl ?_)
      rintro v h' ⟨p2, rfl, q⟩
      exact endX_sound hi hk q
    · cases h
theorem execX_sound {P : Program} {M : Memo} (hm : MemoOk P M) : ∀ n, ExOk P (execX P M n)
  | 0 => fun _ h => by cases h
  | n + 1 => fun hk h => stepX_sound (callX_sound hm (execX_sound hm n)) (execX_sound hm n) hk h

theorem reckon {P : Program} {M : Memo} (hm : MemoOk P M) {n : Nat} {f : FuncId} {args : List Value} {p : PH} {K : KX} (h : bodyX P M (execX P M n) f args p K = true) : ACalls P f args p.heap (up K) := bodyX_sound hm (execX_sound hm n) h
end Go.Sim
