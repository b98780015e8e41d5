/- Code, reckoned: regions that draw, jobs, functions. -/
import Derived.Test.YtonejeaomblpiaaGreatI5
import Derived.Scope
set_option linter.unusedSimpArgs false
set_option linter.unusedVariables false
set_option linter.defProp false
namespace Go.Sim
open Go.RowKit

/-! ### Regions that draw -/
def eqOV : Option Value → Option Value → Bool
  | some a, some b => valEq a b
  | _, _ => false
theorem eqOV_sound {x y : Option Value} (h : eqOV x y = true) : y.isSome = true ∧ x = y := by
  unfold eqOV at h
  split at h
  · rw [valEq_sound _ _ h]; exact ⟨rfl, rfl⟩
  · cases h
def chkB (P : Program) (c : C) (a : Frm) (h : Heap) : Bool :=
  match c.g with
  | none => eqOV (readV P c.op a.ev h) (slotV a c.d)
  | some (t, want) => match guardV t want a with
    | some false => true
    | _ => eqOV (readV P c.op a.ev h) (slotV a c.d)
theorem chkB_sound {P : Program} {c : C} {a : Frm} {h : Heap} (q : chkB P c a h = true) : chkF P c a h := by
  unfold chkB at q
  unfold chkF
  split at q
  · rename_i hg; rw [hg]; exact eqOV_sound q
  · rename_i t want hg
    rw [hg]
    simp only
    split at q
    · rename_i hv; exact .inl hv
    · exact .inr (eqOV_sound q)
def chksB (P : Program) (a : Frm) (h : Heap) : List C → Bool
  | [] => true
  | c :: r => chkB P c a h && chksB P a h r
theorem chksB_sound {P : Program} {a : Frm} {h : Heap} : ∀ {l : List C}, chksB P a h l = true → chkAll P a h l
  | [], _ => trivial
  | _ :: _, q => by
    simp only [chksB, Bool.and_eq_true] at q
    exact ⟨chkB_sound q.1, chksB_sound q.2⟩
def runD (P : Program) (call : CallX) : List (C × List C) → FX → FX
  | [], K, a, p => K a p
  | (c, ks) :: r, K, a, p => runC P call [c] (fun a p => chksB P a p.heap ks && runD P call r K a p) a p
theorem runD_sound {P : Program} {call : CallX} (hc : CallOk P call) : ∀ (l : List (C × List C)) {K : FX} {K' : Frm → Heap → Prop} {a : Frm} {p : PH}, (∀ a p, K a p = true → K' a p.heap) → runD P call l K a p = true → dWp P l K' a p.heap
  | [], K, K', a, p, hk, h => hk a p h
  | (c, ks) :: r, K, K', a, p, hk, h => runC_sound hc [c] (fun a p q => by
      rw [Bool.and_eq_true] at q
      exact ⟨chksB_sound q.1, runD_sound hc r hk q.2⟩) h

/-! ### Jobs -/
inductive Jb where
  | k (x : X)
  | block (id : Nat)
  | loop (x : X)
  | scope (x labs : X)
def fq (P : Program) : List Jb → (Exit → Frm → Heap → Prop) → Exit → Frm → Heap → Prop
  | [], Q => Q
  | .k y :: s, Q => thenQ (fun a h => xWp P y (fq P s Q) a h) (fq P s Q)
  | .block id :: s, Q => blockQ id (fq P s Q)
  | .loop x :: s, Q => thenQ (fun a h => ∀ c, xOf P c .nil = x → LWp P c (fq P s Q) a h) (fq P s Q)
  | .scope x labs :: s, Q => fun e a h => match e with
    | .goto l => ∀ c, xOf P c .nil = x → xLab P c .nil .nil = labs → ∃ rest, findLabel c l = some rest ∧ SWp P c rest (fq P s Q) a h
    | e => fq P s Q e a h
def popTo (id : Nat) : List Jb → Option (List Jb)
  | [] => none
  | .block id' :: s => if id = id' then some s else popTo id s
  | .k _ :: s => popTo id s
  | .loop _ :: s => popTo id s
  | .scope _ _ :: s => popTo id s
theorem popTo_sound {P : Program} {id : Nat} {Q : Exit → Frm → Heap → Prop} {a : Frm} {h : Heap} : ∀ {s s' : List Jb}, popTo id s = some s' → fq P s' Q .normal a h → fq P s Q (.exit id) a h
  | [], _, e, _ => by cases e
  | .block id' :: s, s', e, q => by
    simp only [popTo] at e
    simp only [fq, blockQ]
    by_cases hi : id = id'
    · rw [if_pos hi] at e ⊢; cases e; exact q
    · rw [if_neg hi] at e ⊢; exact popTo_sound e q
  | .k _ :: s, s', e, q => by simp only [popTo] at e; exact popTo_sound (s := s) e q
  | .loop _ :: s, s', e, q => by simp only [popTo] at e; exact popTo_sound (s := s) e q
  | .scope _ _ :: s, s', e, q => by simp only [popTo] at e; exact popTo_sound (s := s) e q
theorem fq_ret {P : Program} {Q : Exit → Frm → Heap → Prop} {a : Frm} {h : Heap} (q : Q .ret a h) : ∀ (s : List Jb), fq P s Q .ret a h
  | [] => q
  | .block _ :: s => fq_ret q s
  | .k _ :: s => fq_ret q s
  | .loop _ :: s => fq_ret q s
  | .scope _ _ :: s => fq_ret q s

/-- Where a label lies, and what is round about it. -/
def popLab (l : Nat) : List Jb → Option (X × List Jb)
  | [] => none
  | .block _ :: s => popLab l s
  | .k _ :: s => popLab l s
  | .loop _ :: s => popLab l s
  | .scope x labs :: s => match labX l labs with
    | some y => some (y, .scope x labs :: s)
    | none => none
theorem awp_goQ {P : Program} {c rest : Code} {s : List Jb} {Q : Exit → Frm → Heap → Prop} {a : Frm} {h : Heap} (q : xWp P (xOf P rest .nil) (fq P (.scope (xOf P c .nil) (xLab P c .nil .nil) :: s) Q) a h) : SWp P c rest (fq P s Q) a h := by
  refine swp_round ((xOf_nil q).mono fun e a h q => ?_)
  cases e <;> first
    | exact q c rfl rfl
    | exact q
theorem popLab_sound {P : Program} {l : Nat} {Q : Exit → Frm → Heap → Prop} {a : Frm} {h : Heap} : ∀ {s : List Jb} {y : X} {s' : List Jb}, popLab l s = some (y, s') → xWp P y (fq P s' Q) a h → fq P s Q (.goto l) a h
  | [], _, _, e, _ => by cases e
  | .block _ :: s, _, _, e, q => by simp only [popLab] at e; exact popLab_sound (s := s) e q
  | .k _ :: s, _, _, e, q => by simp only [popLab] at e; exact popLab_sound (s := s) e q
  | .loop _ :: s, _, _, e, q => by simp only [popLab] at e; exact popLab_sound (s := s) e q
  | .scope x labs :: s, y, s', e, q => by
    simp only [popLab] at e
    split at e
    · rename_i y' hy
      simp only [Option.some.injEq, Prod.mk.injEq] at e
      obtain ⟨rfl, rfl⟩ := e
      intro c hx hl
      subst hx hl
      cases hf : findLabel c l with
      | none =>
        rw [(xLab_find P l c .nil .nil).2 hf] at hy
        cases hy
      | some rest =>
        rw [(xLab_find P l c .nil .nil).1 rest hf] at hy
        cases hy
        exact ⟨rest, rfl, awp_goQ q⟩
    · cases e
theorem fq_exit {P : Program} {id : Nat} {Q : Exit → Frm → Heap → Prop} {a : Frm} {h : Heap} (q : Q (.exit id) a h) : ∀ {s : List Jb}, popTo id s = none → fq P s Q (.exit id) a h
  | [], _ => q
  | .block id' :: s, e => by
    simp only [popTo] at e
    simp only [fq, blockQ]
    by_cases hi : id = id'
    · rw [if_pos hi] at e; cases e
    · rw [if_neg hi] at e ⊢; exact fq_exit q e
  | .k _ :: s, e => by simp only [popTo] at e; exact fq_exit q (s := s) e
  | .loop _ :: s, e => by simp only [popTo] at e; exact fq_exit q (s := s) e
  | .scope _ _ :: s, e => by simp only [popTo] at e; exact fq_exit q (s := s) e

/-- What is known of some calls: they change nothing, and answer so. -/
abbrev Memo := List (FuncId × List Value × Value)
def lookM : Memo → FuncId → List Value → Option Value
  | [], _, _ => none
  | (f', xs, v) :: r, f, as => if f' = f then (if valsEq xs as then some v else lookM r f as) else lookM r f as
def MemoOk (P : Program) (M : Memo) : Prop := ∀ e ∈ M, ∀ h, ACalls P e.1 e.2.1 h (fun v h' => v = e.2.2 ∧ h' = h)
theorem MemoOk.nil (P : Program) : MemoOk P [] := fun _ h => by cases h
theorem MemoOk.cons {P : Program} {M : Memo} {f : FuncId} {xs : List Value} {v : Value} (h1 : ∀ h, ACalls P f xs h (fun u h' => u = v ∧ h' = h)) (h2 : MemoOk P M) : MemoOk P ((f, xs, v) :: M) := by
  intro e he
  rcases List.mem_cons.1 he with rfl | he
  · exact h1
  · exact h2 e he
theorem MemoOk.append {P : Program} {M N : Memo} (h1 : MemoOk P M) (h2 : MemoOk P N) : MemoOk P (M ++ N) := by
  intro e he
  rcases List.mem_append.1 he with he | he
  · exact h1 e he
  · exact h2 e he
theorem lookM_sound {P : Program} {f : FuncId} {as : List Value} {v : Value} : ∀ {M : Memo}, MemoOk P M → lookM M f as = some v → ∀ h, ACalls P f as h (fun u h' => u = v ∧ h' = h)
  | [], _, e => by cases e
  | (f', xs, u) :: r, hm, e => by
    unfold lookM at e
    split at e
    · rename_i hf
      split at e
      · rename_i hx
        cases e
        subst hf
        rw [← valsEq_sound _ _ hx]
        exact hm _ (List.mem_cons_self ..)
      · exact lookM_sound (fun e he => hm e (List.mem_cons_of_mem _ he)) e
    · exact lookM_sound (fun e he => hm e (List.mem_cons_of_mem _ he)) e

abbrev EX := X → List Jb → Frm → PH → (Exit → FX) → Bool
/-- A round of a loop over a function. -/
def yieldX (P : Program) (ih : EX) (l : Nat) (args : List Value) (p : PH) (K : KX) : Bool :=
  match p.get l with
  | some (.loop _ _ n sl ps x y) => decide (args.length = ps.length) && ih (xOf P x .nil) [] (putSl ps args ⟨n, sl⟩) p (fun e a p => match e, p.get l with
    | .normal, some (.loop .ready pend n sl ps x' y') => match setX p l (.loop .busy pend n sl ps x' y') with
      | some p => ih (xOf P y .nil) [] a p (fun e _ p => match p.get l with
        | some (.loop _ _ n sl ps x y) => match e with
          | .normal => match setX p l (.loop .ready none n sl ps x y) with
            | some p => K (.bool true) p
            | none => false
          | .ret => match setX p l (.loop .done (some .ret) n sl ps x y) with
            | some p => K (.bool false) p
            | none => false
          | .exit id => match setX p l (.loop .done (some (.exit id)) n sl ps x y) with
            | some p => K (.bool false) p
            | none => false
          | _ => false
        | _ => false)
      | none => false
    | _, _ => false)
  | _ => false
/-- A function's body, or what is known of it. -/
def bodyX (P : Program) (M : Memo) (ih : EX) (f : FuncId) (args : List Value) (p : PH) (K : KX) : Bool :=
  match lookM M f args with
  | some v => K v p
  | none => match P.funcs[f]? with
    | some fn => match fn.body with
      | some c => !(fn.name == "runtime.NumGoroutine") && decide (args.length ≤ fn.ntmps) && ih (xOf P c .nil) [] ⟨fn.ntmps, argSlots 0 args⟩ p (fun e a p => match e with
        | .normal => match resultsV P a p.heap fn.results.toList with
          | some vs => K (packV vs) p
          | none => false
        | .ret => match resultsV P a p.heap fn.results.toList with
          | some vs => K (packV vs) p
          | none => false
        | _ => false)
      | none => false
    | none => false
/-- A map's copy. -/
def cloneX (P : Program) (f : FuncId) (args : List Value) (p : PH) (K : KX) : Bool :=
  match P.funcs[f]? with
  | some fn => fn.name == "maps.clone" && fn.origin == "" && fn.body.isNone && match args with
    | [.iface t (.map (some r))] => match p.get r with
      | some (.map es ck) => pushX p (.map es ck) (K (.iface t (.map (some p.next))))
      | _ => false
    | _ => false
  | none => false
def noBody (P : Program) (f : FuncId) : Bool := match P.funcs[f]? with
  | some fn => match fn.body with
    | some _ => false
    | none => true
  | none => true
def callX (P : Program) (M : Memo) (ih : EX) : CallX := fun f args p K =>
  match f with
  | .func f => match noBody P f with
    | true => cloneX P f args p K
    | false => bodyX P M ih f args p K
  | .yield l => yieldX P ih l args p K
  | _ => false
/-- Behind a loop over a function. -/
def endX (ih : EX) (l : Nat) (k : X) (s : List Jb) (a : Frm) (K : Exit → FX) (p : PH) : Bool :=
  match p.get l with
  | some (.loop st pend n sl ps x y) => (match st with | .busy => false | _ => true) && match setX p l (.loop .exhausted pend n sl ps x y) with
    | some p => match pend with
      | none => ih k s a p K
      | some .ret => K .ret a p
      | some (.exit id) => match popTo id s with
        | some s => ih .nil s a p K
        | none => K (.exit id) a p
      | _ => false
    | none => false
  | _ => false
def stepX (P : Program) (call : CallX) (ih : EX) : EX
  | .nil, s, a, p, K => match s with
    | [] => K .normal a p
    | .k y :: s => ih y s a p K
    | .block _ :: s => ih .nil s a p K
    | .loop x :: s => ih x (.loop x :: s) a p K
    | .scope _ _ :: s => ih .nil s a p K
  | .ret, _, a, p, K => K .ret a p
  | .exit id, s, a, p, K => match popTo id s with
    | some s => ih .nil s a p K
    | none => K (.exit id) a p
  | .goto l, s, a, p, K => match popLab l s with
    | some (y, s) => ih y s a p K
    | none => false
  | .bad, _, _, _, _ => false
  | .reg L k, s, a, p, K => runC P call L (fun a p => ih k s a p K) a p
  | .draw L k, s, a, p, K => runD P call L (fun a p => ih k s a p K) a p
  | .cond c x y k, s, a, p, K => match a.ev c with
    | some (.bool true) => ih x (.k k :: s) a p K
    | some (.bool false) => ih y (.k k :: s) a p K
    | _ => false
  | .block id x k, s, a, p, K => ih x (.block id :: .k k :: s) a p K
  | .loop x k, s, a, p, K => ih x (.loop x :: .k k :: s) a p K
  | .scope x labs k, s, a, p, K => ih x (.scope x labs :: .k k :: s) a p K
  | .lcons _ _ _, _, _, _, _ => false
  | .label _ k, s, a, p, K => ih k s a p K
  | .range f ps c d k, s, a, p, K => match a.ev f with
    | some (.func (.func g) first cap) => pushX p (.loop .ready none a.n a.l ps c d) fun p1 =>
      call (.func g) (first.toList ++ [.func (.yield p.next) #[] #[]] ++ cap.toList) p1 (fun _ p2 => endX ih p.next k s a K p2)
    | _ => false
def execX (P : Program) (M : Memo) : Nat → EX
  | 0 => fun _ _ _ _ _ => false
  | n + 1 => fun x s a p K => stepX P (callX P M (execX P M n)) (execX P M n) x s a p K

def ExOk (P : Program) (ih : EX) : Prop := ∀ {x s a p K} {Q : Exit → Frm → Heap → Prop}, (∀ e a p, K e a p = true → Q e a p.heap) → ih x s a p K = true → xWp P x (fq P s Q) a p.heap
theorem yieldX_sound {P : Program} {ih : EX} (hi : ExOk P ih) {l : Nat} {args : List Value} {p : PH} {K : KX} (h : yieldX P ih l args p K = true) : AYield P l args p.heap (up K) := by
  unfold yieldX at h
  split at h
  · rename_i st pend n sl ps x y hg
    simp only [Bool.and_eq_true, decide_eq_true_eq] at h
    refine ayield_intro (show p.heap.get l = _ from hg) h.1 (xOf_nil (hi (s := []) (fun e a p q => ?_) h.2))
    split at q
    · rename_i pend n sl ps x' y' hg1
      have hg1' : p.heap.get l = _ := hg1
      simp only [hg1']
      split at q
      · rename_i p2 hs
        rw [← setX_sound hs hg1]
        refine xOf_nil (hi (s := []) (fun e a p q => ?_) q)
        split at q
        · rename_i st4 pend4 n4 sl4 ps4 x4 y4 hg3
          have hg3' : p.heap.get l = _ := hg3
          simp only [hg3']
          split at q
          · split at q
            · rename_i p4 hs4; exact ⟨p4, setX_sound hs4 hg3, q⟩
            · cases q
          · split at q
            · rename_i p4 hs4; exact ⟨p4, setX_sound hs4 hg3, q⟩
            · cases q
          · split at q
            · rename_i p4 hs4; exact ⟨p4, setX_sound hs4 hg3, q⟩
            · cases q
          · cases q
        · cases q
      · cases q
    · cases q
  · cases h
theorem bodyX_sound {P : Program} {M : Memo} (hm : MemoOk P M) {ih : EX} (hi : ExOk P ih) {f : FuncId} {args : List Value} {p : PH} {K : KX} (h : bodyX P M ih f args p K = true) : ACalls P f args p.heap (up K) := by
  unfold bodyX at h
  split at h
  · rename_i v hv
    exact (lookM_sound hm hv p.heap).mono fun u h' q => by
      obtain ⟨rfl, rfl⟩ := q
      exact ⟨p, rfl, h⟩
  · split at h
    · rename_i fn hf
      split at h
      · rename_i c hb
        simp only [Bool.and_eq_true, Bool.not_eq_true', decide_eq_true_eq] at h
        obtain ⟨⟨h1, h2⟩, h3⟩ := h
        refine acalls_intro hf hb rfl rfl h1 h2 (xOf_nil (hi (s := []) (fun e a p q => ?_) h3))
        split at q
        · split at q
          · rename_i vs hv
            exact ⟨vs, hv, p, rfl, q⟩
          · cases q
        · split at q
          · rename_i vs hv
            exact ⟨vs, hv, p, rfl, q⟩
          · cases q
        · cases q
      · cases h
    · cases h
theorem cloneX_sound {P : Program} {f : FuncId} {args : List Value} {p : PH} {K : KX} (h : cloneX P f args p K = true) : AClones P f args p.heap (up K) := by
  unfold cloneX at h
  split at h
  · rename_i fn hf
    simp only [Bool.and_eq_true, beq_iff_eq] at h
    obtain ⟨⟨⟨h1, h2⟩, h3⟩, h⟩ := h
    split at h
    · rename_i t r
      split at h
      · rename_i es ck hg
        obtain ⟨k1, k2⟩ := pushX_sound h
        exact ⟨fn, t, r, es, ck, hf, h1, h2, h3, rfl, hg, _, k1, k2⟩
      · cases h
    · cases h
  · cases h
theorem callX_sound {P : Program} {M : Memo} (hm : MemoOk P M) {ih : EX} (hi : ExOk P ih) : CallOk P (callX P M ih) := by
  intro f args p K h
  unfold callX at h
  split at h
  · split at h
    · exact .inr (cloneX_sound h)
    · exact .inl (bodyX_sound hm hi h)
  · exact yieldX_sound hi h
  · cases h
theorem endX_sound {P : Program} {ih : EX} (hi : ExOk P ih) {l : Nat} {k : X} {s : List Jb} {a : Frm} {K : Exit → FX} {Q : Exit → Frm → Heap → Prop} (hk : ∀ e a p, K e a p = true → Q e a p.heap) {p : PH} (h : endX ih l k s a K p = true) :
    endQ l (thenQ (fun a h => xWp P k (fq P s Q) a h) (fq P s Q)) a p.heap := by
  unfold endX at h
  unfold endQ
  split at h
  · rename_i st pend n sl ps x y hg
    have hg' : p.heap.get l = _ := hg
    simp only [hg']
    rw [Bool.and_eq_true] at h
    obtain ⟨h1, h⟩ := h
    refine ⟨(by rintro rfl; cases h1), ?_⟩
    split at h
    · rename_i p1 hs
      rw [← setX_sound hs hg]
      split at h
      · exact hi hk h
      · exact fq_ret (hk _ _ _ h) s
      · split at h
        · rename_i s' hp
          exact popTo_sound hp (hi (s := s') hk h)
        · rename_i hp
          exact fq_exit (hk _ _ _ h) hp
      · cases h
    · cases h
  · cases h
theorem stepX_sound {P : Program} {call : CallX} {ih : EX} (hc : CallOk P call) (hi : ExOk P ih) : ExOk P (stepX P call ih) := by
  intro x s a p K Q hk h
  cases x with
  | nil =>
    simp only [stepX] at h
    show fq P s Q .normal a p.heap
    split at h
    · exact hk _ _ _ h
    · exact hi hk h
    · exact hi (s := _) hk h
    · rename_i x s
      intro c hx
      subst hx
      refine lwp_round ((xOf_nil (hi hk h)).mono fun e a h q => ?_)
      cases e <;> first
        | exact q c rfl
        | exact q
    · exact hi (s := _) hk h
  | ret => exact fq_ret (hk _ _ _ h) s
  | exit id =>
    simp only [stepX] at h
    split at h
    · rename_i s' hs
      exact popTo_sound hs (hi (s := s') hk h)
    · rename_i hs
      exact fq_exit (hk _ _ _ h) hs
  | goto l =>
    simp only [stepX] at h
    split at h
    · rename_i y s' hs
      exact popLab_sound hs (hi (s := s') hk h)
    · cases h
  | lcons _ _ _ => cases h
  | bad => cases h
  | reg L k => exact runC_sound hc L (fun a p q => hi hk q) h
  | draw L k => exact runD_sound hc L (fun a p q => hi hk q) h
  | cond c x y k =>
    simp only [stepX] at h
    show condWp _ _ _
    split at h
    · rename_i hv; rw [hv]; exact ⟨fun _ => hi (s := .k k :: s) hk h, fun e => (by cases e)⟩
    · rename_i hv; rw [hv]; exact ⟨fun e => (by cases e), fun _ => hi (s := .k k :: s) hk h⟩
    · cases h
  | block id x k => exact hi (s := .block id :: .k k :: s) hk h
  | loop x k =>
    intro c hx
    subst hx
    have q := hi (s := .loop _ :: .k k :: s) hk h
    refine lwp_loop (lwp_round ((xOf_nil q).mono fun e a h q => ?_))
    cases e <;> first
      | exact q c rfl
      | exact q
  | scope x labs k =>
    intro c hx hl
    subst hx hl
    exact swp_scope (awp_goQ (hi (s := .scope _ _ :: .k k :: s) hk h))
  | label l k => exact hi (x := k) hk h
  | range f ps c d k =>
    simp only [stepX] at h
    show AWp P (.rangeFunc f ps.toArray c d) _ a p.heap
    split at h
    · rename_i g first cap hf
      obtain ⟨e1, h⟩ := pushX_sound h
      have hcl : ADoes P g (first.toList ++ [.func (.yield p.next) #[] #[]] ++ cap.toList) _ _ := hc (.func g) _ _ _ h
      rw [e1] at hcl
      have hcl := Or.resolve_right hcl (by
        rintro ⟨_, t, r, _, _, _, _, _, _, e, _⟩
        have : Value.func (.yield p.next) #[] #[] ∈ [Value.iface t (.map (some r))] := by rw [← e]; simp
        simp at this)
      refine arange hf (ACalls.mono hcl ?_)
      rintro v h' ⟨p2, rfl, q⟩
      exact endX_sound hi hk q
    · cases h
theorem execX_sound {P : Program} {M : Memo} (hm : MemoOk P M) : ∀ n, ExOk P (execX P M n)
  | 0 => fun _ h => by cases h
  | n + 1 => fun hk h => stepX_sound (callX_sound hm (execX_sound hm n)) (execX_sound hm n) hk h

theorem reckon {P : Program} {M : Memo} (hm : MemoOk P M) {n : Nat} {f : FuncId} {args : List Value} {p : PH} {K : KX} (h : bodyX P M (execX P M n) f args p K = true) : ACalls P f args p.heap (up K) := bodyX_sound hm (execX_sound hm n) h
end Go.Sim
