/- Code in a shape of its own (X): what is printed of a function, and the rules that walk it. -/
import Derived.Test.YtonejeaomblpiaaGreatA17
set_option linter.unusedSimpArgs false
set_option linter.unusedVariables false
set_option linter.defProp false
namespace Go.Sim
open Go.RowKit

/-! ### One order for a region that draws, reckoned -/
def maskOf (l : List Nat) : Nat := l.foldl (fun m p => m ||| (1 <<< p)) 0
def bitsOf (n m : Nat) : List Nat := (List.range n).filter fun i => m.testBit i
/-- The first of those left that is ready, and of the wanted kind. -/
def pickI (done : Nat) (float : Bool) : List (Nat × Nat × Bool) → Option (Nat × Nat × Bool)
  | [] => none
  | (i, pm, ac) :: r => if (pm &&& done) == pm && (ac != float) then some (i, pm, ac) else pickI done float r
def orderI : Nat → Nat → List (Nat × Nat × Bool) → List (Nat × Nat × Bool)
  | 0, _, _ => []
  | n + 1, done, l =>
    match pickI done true l with
    | some x => x :: orderI n (done ||| (1 <<< x.1)) (l.filter fun y => y.1 != x.1)
    | none => match pickI done false l with
      | some x => x :: orderI n (done ||| (1 <<< x.1)) (l.filter fun y => y.1 != x.1)
      | none => []
def itemsI (ops : Array Oper) : List (Nat × Nat × Bool) := (List.range ops.size).map fun i => (i, maskOf (preds (opAt ops i)), acts (opAt ops i).op)
def lookI (l : List (Nat × Nat)) (i : Nat) : Nat := match l with
  | [] => 0
  | (j, m) :: r => if j == i then m else lookI r i
/-- All that lies before each, as masks. -/
def ancI (ops : Array Oper) : List (Nat × Nat × Bool) → List (Nat × Nat) → List (Nat × Nat)
  | [], acc => acc
  | (i, _, _) :: r, acc => ancI ops r ((i, (preds (opAt ops i)).foldl (fun m p => m ||| (1 <<< p) ||| lookI acc p) 0) :: acc)
def checksI (P : Program) (ops : Array Oper) (am : List (Nat × Nat)) : List (Nat × Nat × Bool) → List Nat → List (Nat × List Nat)
  | [], _ => []
  | (i, _, ac) :: r, pre =>
    (i, if ac then (pre.reverse.filter fun j => !acts (opAt ops j).op && readsMem P (opAt ops j).op && !(lookI am i).testBit j) else []) :: checksI P ops am r (i :: pre)
def planI (P : Program) (ops : Array Oper) : List (List Nat) × List (Nat × List Nat) :=
  let o := orderI ops.size 0 (itemsI ops)
  let am := ancI ops o []
  ((List.range ops.size).map fun i => bitsOf ops.size (lookI am i), checksI P ops am o [])

/-! ### Code -/
inductive X where
  | nil
  | ret
  | exit (id : Nat)
  | goto (l : Nat)
  | bad
  | reg (L : List C) (k : X)
  | draw (L : List (C × List C)) (k : X)
  | cond (c : Operand) (x y k : X)
  | block (id : Nat) (x k : X)
  | loop (x k : X)
  | scope (x labs k : X)
  | lcons (l : Nat) (x r : X)
  | label (l : Nat) (k : X)
  | range (f : Operand) (ps : List Tmp) (c d : Code) (k : X)

def drawX (P : Program) (ops : Array Oper) (k : X) : X :=
  match planI P ops with
  | (T, E) => if P.follows .mixedOrders && okDraw P ops T E then .draw (elabD ops E) k else .bad
mutual
def xOf (P : Program) : Code → X → X
  | .skip, k => k
  | .region _ ops false, k => .reg (ops.toList.map (stripC ops)) k
  | .region _ ops true, k => drawX P ops k
  | .seq x y, k => xOf P x (xOf P y k)
  | .cond c x y, k => .cond c (xOf P x .nil) (xOf P y .nil) k
  | .block id c, k => .block id (xOf P c .nil) k
  | .loop c, k => .loop (xOf P c .nil) k
  | .exit id, _ => .exit id
  | .ret, _ => .ret
  | .goto l, _ => .goto l
  | .label l, k => .label l k
  | .scope c, k => .scope (xOf P c .nil) (xLab P c .nil .nil) k
  | .rangeFunc f ps x y, k => .range f ps.toList x y k
  | .refuse _, _ => .bad
/-- What lies behind each label. -/
def xLab (P : Program) : Code → X → X → X
  | .seq x y, k, acc => xLab P x (xOf P y k) (xLab P y k acc)
  | .label l, k, acc => .lcons l k acc
  | _, _, acc => acc
end
def labX (l : Nat) : X → Option X
  | .lcons l' x r => if l' = l then some x else labX l r
  | _ => none
theorem xLab_find (P : Program) (l : Nat) : ∀ (c : Code) (k acc : X), (∀ rest, findLabel c l = some rest → labX l (xLab P c k acc) = some (xOf P rest k)) ∧ (findLabel c l = none → labX l (xLab P c k acc) = labX l acc)
  | .seq x y, k, acc => by
    have hx := xLab_find P l x (xOf P y k) (xLab P y k acc)
    have hy := xLab_find P l y k acc
    unfold findLabel xLab
    cases hf : findLabel x l with
    | some r =>
      refine ⟨fun rest e => ?_, fun e => (by cases e)⟩
      simp only [Option.some.injEq] at e
      subst e
      rw [hx.1 r hf]
      exact congrArg some (by simp only [xOf])
    | none => exact ⟨fun rest e => (hx.2 hf).trans (hy.1 rest e), fun e => (hx.2 hf).trans (hy.2 e)⟩
  | .label l', k, acc => by
    unfold findLabel xLab
    simp only [labX]
    by_cases h : l' = l
    · subst h
      refine ⟨fun rest e => ?_, fun e => ?_⟩
      · simp at e; subst e; simp [xOf]
      · simp at e
    · rw [if_neg h, if_neg (by simpa using h)]
      exact ⟨fun _ e => (by cases e), fun _ => rfl⟩
  | .skip, _, _ => ⟨fun _ e => (by cases e), fun _ => (by unfold xLab; rfl)⟩
  | .region _ _ _, _, _ => ⟨fun _ e => (by cases e), fun _ => (by unfold xLab; rfl)⟩
  | .cond _ _ _, _, _ => ⟨fun _ e => (by cases e), fun _ => (by unfold xLab; rfl)⟩
  | .block _ _, _, _ => ⟨fun _ e => (by cases e), fun _ => (by unfold xLab; rfl)⟩
  | .loop _, _, _ => ⟨fun _ e => (by cases e), fun _ => (by unfold xLab; rfl)⟩
  | .exit _, _, _ => ⟨fun _ e => (by cases e), fun _ => (by unfold xLab; rfl)⟩
  | .ret, _, _ => ⟨fun _ e => (by cases e), fun _ => (by unfold xLab; rfl)⟩
  | .goto _, _, _ => ⟨fun _ e => (by cases e), fun _ => (by unfold xLab; rfl)⟩
  | .scope _, _, _ => ⟨fun _ e => (by cases e), fun _ => (by unfold xLab; rfl)⟩
  | .rangeFunc _ _ _ _, _, _ => ⟨fun _ e => (by cases e), fun _ => (by unfold xLab; rfl)⟩
  | .refuse _, _, _ => ⟨fun _ e => (by cases e), fun _ => (by unfold xLab; rfl)⟩

def loopW (P : Program) (x : X) (Q : Exit → Frm → Heap → Prop) (a : Frm) (h : Heap) : Prop := ∀ c, xOf P c .nil = x → AWp P (.loop c) Q a h
def scopeW (P : Program) (x labs : X) (Q : Exit → Frm → Heap → Prop) (a : Frm) (h : Heap) : Prop := ∀ c, xOf P c .nil = x → xLab P c .nil .nil = labs → AWp P (.scope c) Q a h
def rangeW (P : Program) (f : Operand) (ps : List Tmp) (c d : Code) (Q : Exit → Frm → Heap → Prop) (a : Frm) (h : Heap) : Prop :=
  AWp P (.rangeFunc f ps.toArray c d) Q a h
def xWp (P : Program) : X → (Exit → Frm → Heap → Prop) → Frm → Heap → Prop
  | .nil, Q, a, h => Q .normal a h
  | .ret, Q, a, h => Q .ret a h
  | .exit id, Q, a, h => Q (.exit id) a h
  | .goto l, Q, a, h => Q (.goto l) a h
  | .bad, _, _, _ => False
  | .reg L k, Q, a, h => cWp P L (fun a h => xWp P k Q a h) a h
  | .draw L k, Q, a, h => dWp P L (fun a h => xWp P k Q a h) a h
  | .cond c x y k, Q, a, h => condWp (a.ev c) (xWp P x (thenQ (fun a h => xWp P k Q a h) Q) a h) (xWp P y (thenQ (fun a h => xWp P k Q a h) Q) a h)
  | .block id x k, Q, a, h => xWp P x (blockQ id (thenQ (fun a h => xWp P k Q a h) Q)) a h
  | .loop x k, Q, a, h => loopW P x (thenQ (fun a h => xWp P k Q a h) Q) a h
  | .lcons _ _ _, _, _, _ => False
  | .scope x labs k, Q, a, h => scopeW P x labs (thenQ (fun a h => xWp P k Q a h) Q) a h
  | .label _ k, Q, a, h => xWp P k Q a h
  | .range f ps x y k, Q, a, h => rangeW P f ps x y (thenQ (fun a h => xWp P k Q a h) Q) a h

theorem xOf_sound (P : Program) : ∀ (c : Code) (k : X) {Q : Exit → Frm → Heap → Prop} {a : Frm} {h : Heap}, xWp P (xOf P c k) Q a h → AWp P c (thenQ (fun a h => xWp P k Q a h) Q) a h
  | .skip, k, _, _, _, q => awp_skip q
  | .region id ops false, k, _, _, _, q => awp_region_c q
  | .region id ops true, k, _, _, _, q => by
    unfold xOf drawX at q
    split at q
    rename_i T E _
    split at q
    · rename_i hc
      rw [Bool.and_eq_true] at hc
      exact awp_draw hc.1 hc.2 q
    · exact q.elim
  | .seq x y, k, Q, a, h, q => awp_seq ((xOf_sound P x (xOf P y k) q).mono fun e a h r => by
      cases e <;> first | exact xOf_sound P y k r | exact r)
  | .cond c x y, k, Q, a, h, q => by
    unfold xOf xWp at q
    cases hc : a.ev c with
    | none => rw [hc] at q; exact q.elim
    | some v =>
      rw [hc] at q
      cases v <;> try (exact q.elim)
      exact awp_cond hc (fun e => (xOf_sound P x .nil (q.1 e)).mono fun e a h r => by cases e <;> exact r)
        (fun e => (xOf_sound P y .nil (q.2 e)).mono fun e a h r => by cases e <;> exact r)
  | .block id c, k, _, _, _, q => awp_block ((xOf_sound P c .nil q).mono fun e a h r => by cases e <;> exact r)
  | .loop c, k, _, _, _, q => q c rfl
  | .scope c, k, _, _, _, q => q c rfl rfl
  | .rangeFunc f ps x y, k, _, _, _, q => by
    have q' : AWp P (.rangeFunc f ps.toList.toArray x y) _ _ _ := q
    rw [Array.toArray_toList] at q'
    exact q'
  | .exit id, _, _, _, _, q => awp_exit q
  | .ret, _, _, _, _, q => awp_ret q
  | .label _, _, _, _, _, q => awp_label q
  | .goto l, _, _, _, _, q => awp_goto q
  | .refuse _, _, _, _, _, q => q.elim

theorem xOf_nil {P : Program} {c : Code} {Q : Exit → Frm → Heap → Prop} {a : Frm} {h : Heap} (q : xWp P (xOf P c .nil) Q a h) : AWp P c Q a h :=
  (xOf_sound P c .nil q).mono fun e a h r => by cases e <;> exact r

/-! ### What is still to be done behind a piece -/
inductive Fx where
  | k (x : X)
  | block (id : Nat)
  | loop (K : Frm → Heap → Prop)
  | scope (J : Nat → Frm → Heap → Prop)
/-- What is still to be done, with a scope round about it. -/
def scQ (J : Nat → Frm → Heap → Prop) (Q : Exit → Frm → Heap → Prop) : Exit → Frm → Heap → Prop
  | .goto l, a, h => J l a h
  | e, a, h => Q e a h
def sx (P : Program) : List Fx → (Exit → Frm → Heap → Prop) → Exit → Frm → Heap → Prop
  | [], Q => Q
  | .k y :: s, Q => thenQ (fun a h => xWp P y (sx P s Q) a h) (sx P s Q)
  | .block id :: s, Q => blockQ id (sx P s Q)
  | .loop K :: s, Q => thenQ K (sx P s Q)
  | .scope J :: s, Q => scQ J (sx P s Q)
def xHold (P : Program) (x : X) (Q : Exit → Frm → Heap → Prop) (a : Frm) (h : Heap) : Prop := xWp P x Q a h
section
variable (P : Program) (s : List Fx) (Q : Exit → Frm → Heap → Prop) (a : Frm) (h : Heap)
theorem sx_nil (e : Exit) : sx P [] Q e a h = Q e a h := rfl
theorem sx_k (y : X) : sx P (.k y :: s) Q .normal a h = xWp P y (sx P s Q) a h := rfl
theorem sx_k_exit (y : X) (id : Nat) : sx P (.k y :: s) Q (.exit id) a h = sx P s Q (.exit id) a h := rfl
theorem sx_k_goto (y : X) (l : Nat) : sx P (.k y :: s) Q (.goto l) a h = sx P s Q (.goto l) a h := rfl
theorem sx_block (id : Nat) : sx P (.block id :: s) Q .normal a h = sx P s Q .normal a h := rfl
theorem sx_block_exit (id id' : Nat) : sx P (.block id :: s) Q (.exit id') a h = if id' = id then sx P s Q .normal a h else sx P s Q (.exit id') a h := rfl
theorem sx_block_goto (id l : Nat) : sx P (.block id :: s) Q (.goto l) a h = sx P s Q (.goto l) a h := rfl
theorem sx_loop (K : Frm → Heap → Prop) : sx P (.loop K :: s) Q .normal a h = K a h := rfl
theorem sx_loop_exit (K : Frm → Heap → Prop) (id : Nat) : sx P (.loop K :: s) Q (.exit id) a h = sx P s Q (.exit id) a h := rfl
theorem sx_loop_goto (K : Frm → Heap → Prop) (l : Nat) : sx P (.loop K :: s) Q (.goto l) a h = sx P s Q (.goto l) a h := rfl
theorem sx_ret : ∀ s, sx P s Q .ret a h = Q .ret a h
  | [] => rfl
  | .k _ :: s => sx_ret s
  | .block _ :: s => sx_ret s
  | .loop _ :: s => sx_ret s
  | .scope _ :: s => sx_ret s
theorem sx_scope (J : Nat → Frm → Heap → Prop) : sx P (.scope J :: s) Q .normal a h = sx P s Q .normal a h := rfl
theorem sx_scope_exit (J : Nat → Frm → Heap → Prop) (id : Nat) : sx P (.scope J :: s) Q (.exit id) a h = sx P s Q (.exit id) a h := rfl
theorem sx_scope_goto (J : Nat → Frm → Heap → Prop) (l : Nat) : sx P (.scope J :: s) Q (.goto l) a h = J l a h := rfl
theorem x_nil : xWp P .nil (sx P s Q) a h = sx P s Q .normal a h := rfl
theorem x_ret : xWp P .ret (sx P s Q) a h = sx P s Q .ret a h := rfl
theorem x_exit (id : Nat) : xWp P (.exit id) (sx P s Q) a h = sx P s Q (.exit id) a h := rfl
theorem x_goto (l : Nat) : xWp P (.goto l) (sx P s Q) a h = sx P s Q (.goto l) a h := rfl
theorem x_reg (L : List C) (k : X) : xWp P (.reg L k) (sx P s Q) a h = cWp P L (sx P (.k k :: s) Q .normal) a h := rfl
theorem x_draw (L : List (C × List C)) (k : X) : xWp P (.draw L k) (sx P s Q) a h = dWp P L (sx P (.k k :: s) Q .normal) a h := rfl
theorem x_cond (c : Operand) (x y k : X) : xWp P (.cond c x y k) (sx P s Q) a h = condWp (a.ev c) (xHold P x (sx P (.k k :: s) Q) a h) (xHold P y (sx P (.k k :: s) Q) a h) := rfl
theorem x_block (id : Nat) (x k : X) : xWp P (.block id x k) (sx P s Q) a h = xWp P x (sx P (.block id :: .k k :: s) Q) a h := rfl
theorem x_loop (x k : X) : xWp P (.loop x k) (sx P s Q) a h = loopW P x (sx P (.k k :: s) Q) a h := rfl
theorem x_scope (x labs k : X) : xWp P (.scope x labs k) (sx P s Q) a h = scopeW P x labs (sx P (.k k :: s) Q) a h := rfl
theorem x_label (l : Nat) (k : X) : xWp P (.label l k) (sx P s Q) a h = xWp P k (sx P s Q) a h := rfl
theorem x_range (f : Operand) (ps : List Tmp) (x y : Code) (k : X) : xWp P (.range f ps x y k) (sx P s Q) a h = rangeW P f ps x y (sx P (.k k :: s) Q) a h := rfl
theorem cond_true_x (x : X) (R : Exit → Frm → Heap → Prop) (B : Prop) : condWp (some (.bool true)) (xHold P x R a h) B = xWp P x R a h := by simp [condWp, xHold]
theorem cond_false_x (x : X) (R : Exit → Frm → Heap → Prop) (A : Prop) : condWp (some (.bool false)) A (xHold P x R a h) = xWp P x R a h := by simp [condWp, xHold]
end
theorem x_go {P : Program} {x : X} {Q : Exit → Frm → Heap → Prop} {a : Frm} {h : Heap} (q : xWp P x Q a h) : xHold P x Q a h := q
attribute [go_sem ↓] sx_nil sx_k sx_k_exit sx_k_goto sx_block sx_block_exit sx_block_goto sx_loop sx_loop_exit sx_loop_goto sx_scope sx_scope_exit sx_scope_goto sx_ret
  x_nil x_ret x_exit x_goto x_reg x_draw x_cond x_block x_loop x_scope x_label x_range cond_true_x cond_false_x

theorem loop_x {P : Program} {Q : Exit → Frm → Heap → Prop} {h : Heap} {x : X} {σ : Type} {n : Nat} {s : List Fx} {a : Frm} (F : σ → List (Nat × Value)) (I : σ → Heap → Prop) (μ : σ → Nat) (x0 : σ) (h0 : Has n (F x0) a ∧ I x0 h)
    (round : ∀ y h, I y h → xHold P x (sx P (.loop (fun a' h' => ∃ x', (Has n (F x') a' ∧ I x' h') ∧ μ x' < μ y) :: s) Q) ⟨n, F y⟩ h) : loopW P x (sx P s Q) a h := by
  rintro c rfl
  refine awp_loop_st (fun y a h => Has n (F y) a ∧ I y h) μ x0 h0 fun y a h ⟨hF, hI⟩ => ?_
  exact AWp.weaken (a' := ⟨n, F y⟩) hF.1.symm (fun t v e => hF.2 (t, v) (look_mem _ t v e)) (xOf_nil (round y h hI))

theorem calls_x {P : Program} {f : FuncId} {fn : Func} {x : X} {n : Nat} {rs : List ResultVar} {xs : List Value} {h : Heap} {Q : Value → Heap → Prop} (hf : P.funcs[f]? = some fn) (hx : xOf P (bodyOf fn) .nil = x)
    (hk : (fn.body.isSome && (fn.ntmps == n) && !(fn.name == "runtime.NumGoroutine")) = true) (hrs : fn.results.toList = rs) (hl : xs.length ≤ n) (hb : xHold P x (sx P [] (bodyQ P rs Q)) ⟨n, argSlots 0 xs⟩ h) : ACalls P f xs h Q := by
  simp only [Bool.and_eq_true, beq_iff_eq, Bool.not_eq_true'] at hk
  obtain ⟨⟨h1, h2⟩, h3⟩ := hk
  cases hbd : fn.body with
  | none => rw [hbd] at h1; cases h1
  | some c =>
    have : bodyOf fn = c := by simp [bodyOf, hbd]
    rw [this] at hx
    subst hx
    exact acalls_intro hf hbd h2 hrs h3 hl (xOf_nil hb)
end Go.Sim
namespace Go.Sim
abbrev CallR (P : Program) (f : FuncId) (x : X) (n : Nat) (rs : List ResultVar) (xs : List Value) (h : Heap) (Q : Value → Heap → Prop) : Prop :=
  xs.length ≤ n → xHold P x (sx P [] (bodyQ P rs Q)) ⟨n, argSlots 0 xs⟩ h → ACalls P f xs h Q
end Go.Sim
namespace Go.Sim
/-- A fact that no simplifier sees. -/
structure Hidden (p : Prop) : Prop where
  out : p
theorem named {α : Sort _} (x : α) : ∃ y, Hidden (y = x) := ⟨x, ⟨rfl⟩⟩
end Go.Sim
