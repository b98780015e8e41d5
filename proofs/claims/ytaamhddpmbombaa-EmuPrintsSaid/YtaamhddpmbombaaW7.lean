/- Part 7 of the claim EmuPrints: T8, T9, TF, T10, T11, T12, T13, T14, T15, T16, T17 -/
import Derived.Test.YtaamhddpmbombaaW6
import Derived.Test.YtaamhddpmbombaaW5
set_option linter.unusedSimpArgs false
set_option linter.unusedVariables false
set_option linter.defProp false
noncomputable section
namespace Go.Sim
open Go.RowKit
def TFrm.know (a : TFrm) (x : Operand) (b : Bool) : TFrm := match x with
 | .tmp t => ⟨a.n, a.c, (t, .v (.bool b)) :: a.l⟩
 | _ => a
def a2v {R : Type} (t : Option Tmp) (want : Bool) (a : TFrm) (A B : TFrm → Tree R) : Tree R := match t with
 | some t => match Qx t a.l with
  | some (.v (.bool b)) => .cond b (if want then A (a.know (.tmp t) true) else B (a.know (.tmp t) true)) (if want then B (a.know (.tmp t) false) else A (a.know (.tmp t) false))
  | some (.tup _) => B a
  | _ => .fail
 | none => .fail
section
variable (P : Program) (ty : TypeId → Option CT)
def tcW {R : Type} (call : wD R) : List C → (TFrm → List TO → Tree R) → TFrm → List TO → Tree R
 | [], K, a, L => K a L
 | c :: r, K, a, L => match c.g with
  | none => top P ty call c.op a.ev L (fun d L' => tcW call r K (a.put c.d d) L')
  | some (t, want) => a2v t want a (fun a => top P ty call c.op a.ev L (fun d L' => tcW call r K (a.put c.d d) L')) (fun a => tcW call r K (a.put c.d a7a) L)
def agL (a : TFrm) : Option Tmp → Option TV
 | some t => Qx t a.l
 | none => none
def ado {R : Type} (o : Op) (ρ : Zq) (L : List TO) (K : TV → Tree R) : Tree R :=
 match o with
 | .load t x => ql (ρ x) fun x => a3O P L t x K
 | .call { callee := .builtin .len, args := args, argTypes := ts } => match Wh ρ args.toList, ts.toList with
  | some [x], [t] => a8H P L t x K
  | _, _ => .fail
 | _ => .fail
def a8I {R : Type} (x y : Value) (o : Tree R) : Tree R := match x, y with
 | .int k n, .int k' m => if k = k' then tif (n = m) o else .fail
 | .bool a, .bool b => tif (a = b) o
 | .string a, .string b => tif (a = b) o
 | x, y => if kp x y = true then o else .fail
def a8T {R : Type} : List TV → List TV → Tree R → Tree R
 | [], [], o => o
 | .v x :: l, .v y :: m, o => a8I x y (a8T l m o)
 | _, _, _ => .fail
def aeC {R : Type} (x y : TV) (o : Tree R) : Tree R := match x, y with
 | .v x, .v y => a8I x y o
 | .agg xs, .agg ys => a8T xs ys o
 | .ptr id off, .ptr id' off' => if id = id' ∧ off = off' then o else .fail
 | _, _ => .fail
def aej {R : Type} (c : C) (a : TFrm) (L : List TO) (o : Tree R) : Tree R := ado P c.op a.ev L fun d => ql (agL a c.d) fun d' => aeC d d' o
abbrev v9 := List (Nat × Nat × Nat × TypeId)
def pinned (pins : v9) (c : C) (a : TFrm) : Bool := match c.op, c.d with
 | .load t x, some d => match a.ev x with
  | some (.ptr id off) => pins.any fun q => q.1 == d && q.2.1 == id && q.2.2.1 == off && q.2.2.2 == t
  | _ => false
 | _, _ => false
def Yg : Operand → Operand → Bool
 | .tmp a, .tmp b => a == b
 | .const (.int k n), .const (.int k' n') => decide (k = k') && decide (n = n')
 | _, _ => false
def WQ : Option Operand → Option Operand → Bool
 | none, none => true
 | some a, some b => Yg a b
 | _, _ => false
def a6a : Op → Op → Bool
 | .load t x, .load t' x' => t == t' && Yg x x'
 | .slice t x lo hi mx, .slice t' x' lo' hi' mx' => t == t' && Yg x x' && WQ lo lo' && WQ hi hi' && WQ mx mx'
 | _, _ => false
def aea : Option (Option Tmp × Bool) → Option (Option Tmp × Bool) → Bool
 | none, none => true
 | some (some t, w), some (some t', w') => t == t' && w == w'
 | _, _ => false
def abZ (q c : C) : Bool := q.d == c.d && a6a q.op c.op && aea q.g c.g
def a3C (o : Op) (d : Nat) : Bool := o.operands.toList.any fun x => match x with
 | .tmp t => t == d
 | _ => false
def xL (g : Option (Option Tmp × Bool)) (d : Nat) : Bool := match g with
 | some (some t, _) => t == d
 | _ => false
def YZ (q : C) (d : Nat) : Bool := q.d == some d || a3C q.op d || xL q.g d
def QO (c : C) (a : TFrm) : Bool := match c.d with
 | none => false
 | some d => decide (d < a.n) && !a3C c.op d && !xL c.g d && match c.op with
  | .load _ x => (match a.ev x with
   | some (.dp _ _ _) => true
   | _ => false)
  | .slice _ x _ _ _ => (match a.ev x with
   | some (.sl _ _) => true
   | _ => false)
  | _ => false
def w7 (p2 : List C) (c : C) (a : TFrm) : List C := (if QO c a then [c] else []) ++ p2.filter fun q => match c.d with
 | some d => !YZ q d
 | none => true
def a5D {R : Type} (pins : v9) (p2 : List C) (c : C) (a : TFrm) (L : List TO) (o : Tree R) : Tree R := match pinned pins c a || p2.any (abZ · c) with
 | true => o
 | false => aej P c a L o
def acD {R : Type} (pins : v9) (p2 : List C) (c : C) (a : TFrm) (L : List TO) (o : Tree R) : Tree R := match c.g with
 | none => a5D P pins p2 c a L o
 | some (some t, want) => match Qx t a.l with
  | some (.v (.bool b)) => .cond b (if want then a5D P pins p2 c a L o else o) (if want then o else a5D P pins p2 c a L o)
  | some (.tup _) => o
  | _ => .fail
 | some (none, _) => .fail
def Zm {R : Type} (pins : v9) (p2 : List C) (a : TFrm) (L : List TO) : List C → Tree R → Tree R
 | [], o => o
 | c :: r, o => acD P pins p2 c a L (Zm pins p2 a L r o)
def wrT (wr : FuncId → List TV → List TO → List Nat) (o : Op) (ρ : Zq) (L : List TO) : Option (List Nat) := match o with
 | .store _ x _ => match ρ x with
  | some (.ptr id _) => some [id]
  | some (.ep _ _ _ _) => some []
  | _ => none
 | .insert _ _ _ _ => some []
 | .makeMap _ _ => some []
 | .lookup _ _ _ _ => some []
 | .call { callee := .value f, args := args, argTypes := _ } => match ρ f, Wh ρ args.toList with
  | some (.fn k pre cap), some ds => some (wr k (pre ++ ds ++ cap) L)
  | _, _ => none
 | .call { callee := .builtin .append, args := _, argTypes := _ } => some []
 | .call { callee := .builtin .len, args := _, argTypes := _ } => some []
 | .call { callee := .builtin .min, args := _, argTypes := _ } => some []
 | .call { callee := .builtin .max, args := _, argTypes := _ } => some []
 | .call _ => none
 | .move _ => some []
 | .assign _ => some []
 | .pick _ _ _ => some []
 | .build _ _ => some []
 | .field _ _ _ => some []
 | .fieldAddr _ _ _ => some []
 | .unOp _ _ _ => some []
 | .binOp _ _ _ _ _ => some []
 | .convert _ _ _ => some []
 | .makeFunc _ _ _ => some []
 | .indexAddr _ _ _ => some []
 | .index _ _ _ => some []
 | .extract _ _ => some []
 | .nilCheck _ => some []
 | .load _ _ => some []
 | .slice _ _ _ _ _ => some []
 | .box _ _ => some []
 | .alloc _ => some []
 | .buildSlice _ _ _ => some []
 | _ => none
def kF (wr : FuncId → List TV → List TO → List Nat) (pins : v9) (c : C) (a : TFrm) (L : List TO) : v9 :=
 match wrT wr c.op a.ev L with
  | none => []
  | some ids => (match c.op, c.d with
   | .load t x, some d => (match a.ev x with
    | some (.ptr id off) => if d < a.n then [(d, id, off, t)] else []
    | _ => [])
   | _, _ => []) ++ pins.filter fun q => !(ids.contains q.2.1) && !(c.d == some q.1)
def a5q (pins : v9) (c : C) : v9 := pins.filter fun q => !(c.d == some q.1)
def tdW {R : Type} (call : wD R) (wr : FuncId → List TV → List TO → List Nat) : v9 → List C → List (C × List C) → (TFrm → List TO → Tree R) → TFrm → List TO → Tree R
 | _, _, [], K, a, L => K a L
 | pins, p2, (c, ks) :: r, K, a, L => match c.g with
  | none => top P ty call c.op a.ev L (fun d L' => Zm P (kF wr pins c a L) (w7 p2 c a) (a.put c.d d) L' ks (tdW call wr (kF wr pins c a L) (w7 p2 c a) r K (a.put c.d d) L'))
  | some (t, want) => a2v t want a (fun a => top P ty call c.op a.ev L (fun d L' => Zm P (kF wr pins c a L) (w7 p2 c a) (a.put c.d d) L' ks (tdW call wr (kF wr pins c a L) (w7 p2 c a) r K (a.put c.d d) L'))) (fun a => Zm P (a5q pins c) (p2.filter fun q => match c.d with | some d => !YZ q d | none => true) (a.put c.d a7a) L ks (tdW call wr (a5q pins c) (p2.filter fun q => match c.d with | some d => !YZ q d | none => true) r K (a.put c.d a7a) L))
end
def wx {σ T : Type} (step : σ → Option (σ ⊕ T)) : Nat → σ → Option T
 | 0, _ => none
 | n + 1, s => match step s with
  | some (.inl s') => wx step n s'
  | some (.inr t) => some t
  | none => none
open Classical in
def zO {σ T : Type} (step : σ → Option (σ ⊕ T)) (s : σ) : Option T := if h : ∃ n t, wx step n s = some t then some (Classical.choose (Classical.choose_spec h)) else none
theorem Wg {σ T : Type} {step : σ → Option (σ ⊕ T)} : ∀ {n m : Nat} {s : σ} {t : T}, n ≤ m → wx step n s = some t → wx step m s = some t
 | 0, _, _, _, _, h => by cases h
 | n + 1, 0, _, _, hl, _ => by omega
 | n + 1, m + 1, s, t, hl, h => by
  unfold wx at h ⊢
  cases hs : step s with
  | none => simp only [hs] at h; cases h
  | some x =>
   cases x with
   | inl s' => simp only [hs] at h ⊢; exact Wg (by omega) h
   | inr t' => simp only [hs] at h ⊢; exact h
theorem Wu {σ T : Type} {step : σ → Option (σ ⊕ T)} {s : σ} {t : T} : zO step s = some t ↔ ∃ n, wx step n s = some t := by
 unfold zO
 constructor
 ·intro h
  split at h
  ·rename_i hx
   cases h
   exact ⟨Classical.choose hx, Classical.choose_spec (Classical.choose_spec hx)⟩
  ·cases h
 ·rintro ⟨n, h⟩
  have hx : ∃ n t, wx step n s = some t := ⟨n, t, h⟩
  rw [dif_pos hx]
  have h2 := Classical.choose_spec (Classical.choose_spec hx)
  have a := Wg (Nat.le_max_left n (Classical.choose hx)) h
  have b := Wg (Nat.le_max_right n (Classical.choose hx)) h2
  rw [a] at b
  exact b.symm
theorem ud {σ T : Type} (step : σ → Option (σ ⊕ T)) (s : σ) : zO step s = match step s with
  | some (.inl s') => zO step s'
  | some (.inr t) => some t
  | none => none := by
 have key : ∀ t, zO step s = some t ↔ (match step s with
  | some (.inl s') => zO step s'
  | some (.inr t) => some t
  | none => none) = some t := by
  intro t
  rw [Wu]
  cases hs : step s with
  | none =>
   simp only
   constructor
   ·rintro ⟨n, h⟩
    cases n with
    | zero => cases h
    | succ n => unfold wx at h; rw [hs] at h; cases h
   ·intro h; cases h
  | some x =>
   cases x with
   | inl s' =>
    simp only
    rw [Wu]
    constructor
    ·rintro ⟨n, h⟩
     cases n with
     | zero => cases h
     | succ n => unfold wx at h; simp only [hs] at h; exact ⟨n, h⟩
    ·rintro ⟨n, h⟩
     exact ⟨n + 1, by unfold wx; simp only [hs]; exact h⟩
   | inr t' =>
    simp only
    constructor
    ·rintro ⟨n, h⟩
     cases n with
     | zero => cases h
     | succ n => unfold wx at h; simp only [hs] at h; exact h
    ·intro h
     exact ⟨1, by unfold wx; simp only [hs]; exact h⟩
 cases h1 : zO step s with
 | some t => exact ((key t).1 h1).symm
 | none =>
  cases h2 : (match step s with
   | some (.inl s') => zO step s'
   | some (.inr t) => some t
   | none => none) with
  | none => rfl
  | some t => rw [(key t).2 h2] at h1; cases h1
structure Shp where
 σ : Type
 F : σ → List (Nat × TV)
 G : σ → List TO
 dec : TFrm → List TO → Option (σ × List (Nat × Nat))
structure TEnv where
 P : Program
 ty : TypeId → Option CT
 call : ∀ R : Type, wD R
 wr : FuncId → List TV → List TO → List Nat
 loops : Nat → Option Shp
 joins : Nat → Option Shp
 unr : Nat → Nat
abbrev TK (R : Type) := Exit → TFrm → List TO → Tree R
def vV {R : Type} (k : TFrm → List TO → Tree R) (K : TK R) : TK R
 | .normal, a, L => k a L
 | e, a, L => K e a L
def a7x {R : Type} (id : Nat) (K : TK R) : TK R
 | .exit id', a, L => if id' = id then K .normal a L else K (.exit id') a L
 | e, a, L => K e a L
def ZL {R : Type} (S : Shp) (n c : Nat) (K : TK R) : TK (S.σ ⊕ R)
 | .normal, a, L => if a.n = n ∧ a.c = c then ql (S.dec a L) fun p => chk p.2 (.ret (.inl p.1)) else .fail
 | e, a, L => (K e a L).map .inr
def tgo {R : Type} (S : Shp) (n c : Nat) (K : TK R) : TK (S.σ ⊕ R)
 | .goto _, a, L => if a.n = n ∧ a.c = c then ql (S.dec a L) fun p => chk p.2 (.ret (.inl p.1)) else .fail
 | e, a, L => (K e a L).map .inr
def UZ {R : Type} (S : Shp) (body : TFrm → List TO → Tree (S.σ ⊕ R)) (a : TFrm) (L : List TO) : Tree R :=
 ql (S.dec a L) fun p => chk p.2 (KD (zO (fun s => (body ⟨a.n, a.c, S.F s⟩ (S.G s)).run) p.1) .ret)
def tun {R : Type} (body : TK R → TFrm → List TO → Tree R) (K : TK R) : Nat → TFrm → List TO → Tree R
 | 0, _, _ => .fail
 | n + 1, a, L => body (fun e a L => match e with
  | .normal => tun body K n a L
  | e => K e a L) a L
def WP (shp : Nat → Option Shp) (lab : ∀ R : Type, TK R → Nat → TFrm → List TO → Tree R) : Nat → Option Nat → (R : Type) → TK R → TK R
 | 0, _, _, K => fun e a L => match e with
  | .goto _ => .fail
  | e => K e a L
 | f + 1, cur, R, K => fun e a L => match e with
  | .goto l => if cur = some l then K (.goto l) a L else match shp l with
   | none => lab R (WP shp lab f cur R K) l a L
   | some S => UZ S (fun a' L => lab (S.σ ⊕ R) (WP shp lab f (some l) (S.σ ⊕ R) (tgo S a.n a.c K)) l a' L) a L
  | e => K e a L
def a2T {R : Type} (S : Shp) (body : TK (S.σ ⊕ R) → TFrm → List TO → Tree (S.σ ⊕ R)) (k : TFrm → List TO → Tree R) (K : TK R) (a : TFrm) (L : List TO) : Tree R :=
 .bind (S.σ ⊕ R) (body (ZL S a.n a.c K) a L).run fun s => .case S.σ R s (fun s => k ⟨a.n, a.c, S.F s⟩ (S.G s)) .ret
def tx (E : TEnv) : X → Option Nat → Nat → (R : Type) → TK R → TFrm → List TO → Tree R
 | .lcons l z r, some l', p, R, K, a, L => if l' = l then tx E z none (8 * p + 1) R K a L else tx E r (some l') (8 * p + 2) R K a L
 | .nil, none, _, _, K, a, L => K .normal a L
 | .ret, none, _, _, K, a, L => K .ret a L
 | .exit id, none, _, _, K, a, L => K (.exit id) a L
 | .goto l, none, _, _, K, a, L => K (.goto l) a L
 | .reg l k, none, p, R, K, a, L => match E.joins p with
  | none => tcW E.P E.ty (E.call R) l (fun a L => tx E k none (8 * p + 1) R K a L) a L
  | some S => a2T S (fun K' a L => tcW E.P E.ty (E.call (S.σ ⊕ R)) l (fun a L => K' .normal a L) a L) (fun a L => tx E k none (8 * p + 1) R K a L) K a L
 | .draw l k, none, p, R, K, a, L => match E.joins p with
  | none => tdW E.P E.ty (E.call R) E.wr [] [] l (fun a L => tx E k none (8 * p + 1) R K a L) a L
  | some S => a2T S (fun K' a L => tdW E.P E.ty (E.call (S.σ ⊕ R)) E.wr [] [] l (fun a L => K' .normal a L) a L) (fun a L => tx E k none (8 * p + 1) R K a L) K a L
 | .cond c x y k, none, p, R, K, a, L => match a.ev c with
  | some (.v (.bool b)) => match E.joins p with
   | some S => a2T S (fun K' a L => .cond b (tx E x none (8 * p + 2) (S.σ ⊕ R) K' (a.know c true) L) (tx E y none (8 * p + 3) (S.σ ⊕ R) K' (a.know c false) L)) (fun a L => tx E k none (8 * p + 1) R K a L) K a L
   | none => .cond b (tx E x none (8 * p + 2) R (vV (fun a L => tx E k none (8 * p + 1) R K a L) K) (a.know c true) L) (tx E y none (8 * p + 3) R (vV (fun a L => tx E k none (8 * p + 1) R K a L) K) (a.know c false) L)
  | _ => .fail
 | .block id x k, none, p, R, K, a, L => match E.joins p with
  | none => tx E x none (8 * p + 2) R (a7x id (vV (fun a L => tx E k none (8 * p + 1) R K a L) K)) a L
  | some S => a2T S (fun K' a L => tx E x none (8 * p + 2) (S.σ ⊕ R) (a7x id K') a L) (fun a L => tx E k none (8 * p + 1) R K a L) K a L
 | .loop x k, none, p, R, K, a, L => match E.loops p with
  | some S => UZ S (fun a' L => tx E x none (8 * p + 2) (S.σ ⊕ R) (ZL S a.n a.c (vV (fun a L => tx E k none (8 * p + 1) R K a L) K)) a' L) a L
  | none => tun (fun K' a L => tx E x none (8 * p + 2) R K' a L) (vV (fun a L => tx E k none (8 * p + 1) R K a L) K) (E.unr p) a L
 | .scope x labs k, none, p, R, K, a, L => tx E x none (8 * p + 2) R (WP (fun l => E.loops (8 * (8 * p + 4) + l)) (fun R K l a L => tx E labs (some l) (8 * p + 3) R K a L) 20 none R (vV (fun a L => tx E k none (8 * p + 1) R K a L) K)) a L
 | .label _ k, none, p, R, K, a, L => tx E k none (8 * p + 1) R K a L
 | _, _, _, _, _, _, _ => .fail
open Go.RowKit
def XM : List CT → Option CT
 | [] => none
 | [c] => some c
 | c :: r => (XM r).map (.pair c)
def a8w (P : Program) : Nat → TypeId → Option CT
 | 0, _ => none
 | n + 1, t => match P.underlying t with
  | some (.int k) => some (.int k)
  | some .bool => some .bool
  | some .string => some .str
  | some (.slice e) => (a8w P n e).map .sl
  | some (.struct fs) => (fs.toList.mapM fun f => a8w P n f.type).bind XM
  | some (.array len e) => (a8w P n e).bind fun c => XM (List.replicate len c)
  | _ => none
def yM : Nat → List TV → List (Nat × TV)
 | _, [] => []
 | k, v :: vs => (k, v) :: yM (k + 1) vs
def a1N {R : Type} (P : Program) (a : TFrm) (L : List TO) : List ResultVar → (List TV → Tree R) → Tree R
 | [], K => K []
 | .tmp t :: r, K => ql (Qx t a.l) fun d => a1N P a L r fun ds => K (d :: ds)
 | .cell p t :: r, K => ql (Qx p a.l) fun x => a3O P L t x fun d => a1N P a L r fun ds => K (d :: ds)
def a08 : List TV → Option TV
 | [d] => some d
 | ds => if ds.all QL then some (.tup ds) else none
def aiC {R : Type} (P : Program) (rs : List ResultVar) (K : TV → List TO → Tree R) : TK R
 | .normal, a, L => a1N P a L rs fun ds => ql (a08 ds) fun d => K d L
 | .ret, a, L => a1N P a L rs fun ds => ql (a08 ds) fun d => K d L
 | _, _, _ => .fail
def adf {R : Type} (E : TEnv) (f : FuncId) (ds : List TV) (A : List TO) (K : TV → List TO → Tree R) : Tree R :=
 ql E.P.funcs[f]? fun fn => tx E (xOf E.P (Xy fn) .nil) none 1 R (aiC E.P fn.results.toList K) ⟨fn.ntmps, A.length, yM 0 ds⟩ A
open Go.RowKit
def agY : Op → Bool
 | .call { callee := .builtin .len, args := _, argTypes := _ } => true
 | .call { callee := .builtin .min, args := _, argTypes := _ } => true
 | .call { callee := .builtin .max, args := _, argTypes := _ } => true
 | .call _ => false
 | .move _ => true
 | .assign _ => true
 | .pick _ _ _ => true
 | .build _ _ => true
 | .field _ _ _ => true
 | .fieldAddr _ _ _ => true
 | .unOp _ _ _ => true
 | .binOp _ _ _ _ _ => true
 | .convert _ _ _ => true
 | .makeFunc _ _ _ => true
 | .indexAddr _ _ _ => true
 | .index _ _ _ => true
 | .extract _ _ => true
 | .nilCheck _ => true
 | .load _ _ => true
 | .slice _ _ _ _ _ => true
 | .box _ _ => true
 | .alloc _ => true
 | .buildSlice _ _ _ => true
 | .makeMap _ _ => true
 | .lookup _ _ _ _ => true
 | _ => false
def Kept (h h' : Heap) : Prop := ∀ b, b < h.next → h'.get b = h.get b
theorem Kept.refl (h : Heap) : Kept h h := fun _ _ => rfl
theorem Kept.push (h : Heap) (o : AObj) : Kept h (h.push o) := fun b hb => Heap.get_push_ne _ _ (by omega)
theorem a5r {P : Program} {s d : TypeId} {x : Value} {h : Heap} {K : Value → Heap → Prop} (q : jG P s d x h K) : jG P s d x h (fun v h' => K v h' ∧ Kept h h') := by
 unfold jG at q ⊢
 split at q
 ·refine ⟨q.1, ?_⟩
  have q2 := q.2
  split at q2
  ·exact ⟨q2, .refl _⟩
  ·exact q2.elim
 ·exact ⟨q.1, q.2.1, q.2.2.1, q.2.2.2, .push _ _⟩
 ·refine ⟨q.1, q.2.1, q.2.2.1, ?_⟩
  have q2 := q.2.2.2
  split at q2
  ·exact ⟨q2, .refl _⟩
  ·exact q2.elim
 ·split at q
  ·exact ⟨q, .refl _⟩
  ·exact q.elim
theorem aaX {P : Program} {o : Op} {ρ : Rho} {h : Heap} {K : Value → Heap → Prop} (hq : agY o = true) (q : qB P o ρ h K) : qB P o ρ h (fun v h' => K v h' ∧ Kept h h') := by
 unfold qB at q ⊢
 split at q <;> first
  | (cases hq; done)
  | (split at q <;> first
    | exact a5r q
    | exact ⟨q, .refl _⟩
    | exact ⟨q, .push _ _⟩
    | exact q.elim
    | (split at q <;> first | exact ⟨q, .refl _⟩ | exact ⟨q, .push _ _⟩ | exact q.elim))
theorem a5t {P : Program} {t : TypeId} {h h' : Heap} {p x : Value} (e : wm P t h p x = some h') : ∃ b i, p = .pointer (some ⟨b, i, none⟩) ∧ ∀ c, c ≠ b → h'.get c = h.get c := by
 unfold wm at e
 split at e
 ·rename_i b i
  split at e
  ·split at e
   ·cases e
    exact ⟨b, i, rfl, fun c hc => Heap.get_set_ne _ _ hc⟩
   ·cases e
  ·cases e
 ·cases e
theorem a1L {P : Program} {ts : List TypeId} {h h' : Heap} {s x v : Value} (e : kD P ts h s x = some (v, h')) : ∀ c, c < h.next → (∀ o n k, s = .slice (some ⟨c, o, none⟩) n k → n = 0 ∧ k = 0) → h'.get c = h.get c := by
 intro c hc hne
 unfold kD at e
 split at e
 ·split at e
  ·split at e
   ·split at e
    ·split at e
     ·split at e
      ·cases e; rfl
      ·split at e
       ·cases e; exact Heap.get_push_ne _ _ (by omega)
       ·cases e
     ·rename_i b o n k
      split at e
      ·cases e; rfl
      ·split at e
       ·cases e
       ·split at e
        ·split at e
         ·cases e; exact Heap.get_push_ne _ _ (by omega)
         rename_i h00
         split at e
         ·split at e
          ·split at e
           ·cases e; exact Heap.get_push_ne _ _ (by omega)
           ·split at e
            ·cases e
             have hcb : c ≠ b := fun q => h00 (hne o n k (by rw [q]))
             rw [Heap.get_push_ne _ _ (by simpa using Nat.ne_of_lt hc), Heap.get_kill_ne _ hcb]
            ·cases e
          ·cases e
         ·cases e
        ·cases e
     ·split at e
      ·split at e
       ·cases e; rfl
       ·split at e
        ·split at e
         ·split at e
          ·cases e; exact Heap.get_push_ne _ _ (by omega)
          ·cases e
         ·cases e
        ·cases e
      ·cases e
    ·cases e
   ·cases e
  ·cases e
 ·cases e
section
variable {R : Type} {P : Program} {γ : Pl} {L : List TO} {h : Heap} {h0 : Heap} {W0 : Ent} {z : R} {K : TV → List TO → Tree R}
theorem adW (H : Hp P h0 W0 γ (eL L) h) {id b : Nat} (hg : γ id = some (b, 0)) (hs : ∃ c, (eL L)[id]? = some (.st c)) : b < h.next := by
 obtain ⟨c, hc⟩ := hs
 exact (OR.lt (fun b hb => hb.1) (H.obj id _ hc) hg rfl).1
theorem VKept.of (H : Hp P h0 W0 γ (eL L) h) {h' : Heap} (hk : Kept h h') (ids : List Nat) : VKept γ L h h' ids := fun id b hg hs _ => hk b (adW H hg hs)
theorem J2 (H : Hp P h0 W0 γ (eL L) h) {id b : Nat} (hg : γ id = some (b, 0)) (hs : ∃ c, (eL L)[id]? = some (.st c)) {id' : Nat} {o' : Obj} {x : Nat} (hi : (eL L)[id']? = some o') (ho : o'.owns = true) (hn : ∀ c, o' ≠ .st c) : γ id' ≠ some (b, x) := by
 intro hg'
 obtain ⟨c, hc⟩ := hs
 have := H.inj id id' _ _ b 0 x hc hi rfl ho hg hg'
 subst this
 rw [hc] at hi; cases hi
 exact hn _ rfl
theorem a3t {ty : TypeId → Option CT} {ts : List TypeId} {s x : TV} (h : (Yk P ty ts L s x K).run = some z) : s = .v (.slice none 0 0) ∨ ∃ id tot c e loc, ∃ xs : List (CT.T c), s = .ref id tot ∧ L[id]? = some (.li c e loc xs) ∧ xs.length = tot := by
 unfold Yk at h
 split at h
 ·split at h
  ·replace h := q9 h; obtain ⟨i, _, h⟩ := h
   replace h := q9 h; obtain ⟨zc, _, h⟩ := h
   replace h := q9 h; obtain ⟨c, _, h⟩ := h
   split at h
   ·obtain ⟨ys, _, h⟩ := yX h
    split at h
    ·exact .inl rfl
    ·split at h
     ·rename_i id tot _ _ c' e' loc xs hL
      split at h
      ·split at h
       ·rw [qa] at h
        split at h
        ·rename_i hc
         exact .inr ⟨_, _, _, _, _, _, rfl, hL, hc.1⟩
        ·cases h
       ·cases h
      ·cases h
     ·cases h
    ·cases h
   ·cases h
  ·cases h
 ·cases h
theorem a6S {ty : TypeId → Option CT} {call : wD R} {wr : TWr} (hcall : TCallOk P call wr) {o : Op} {a : TFrm} {r : Rho} (H : Hp P h0 W0 γ (eL L) h) (hρ : YG P W0 γ (eL L) h (QE a.ev) r) (e : (top P ty call o a.ev L K).run = some z) {ids : List Nat} (hw : wrT wr o a.ev L = some ids) :
  qB P o r h (fun v h' => Zg P h0 W0 γ L h K z v h' ∧ VKept γ L h h' ids) := by
 by_cases hq : agY o = true
 ·exact wL (fun v h' q => ⟨q.1, .of H q.2 ids⟩) (aaX hq (vd hcall H hρ e))
 ·unfold wrT at hw
  split at hw
  ·-- store
   rename_i t x y
   unfold top at e
   simp only at e
   unfold a4O at e
   simp only at e
   unfold WM at e
   simp only at e
   replace e := q9 e; obtain ⟨p, h1, e⟩ := e
   replace e := q9 e; obtain ⟨q, h2, e⟩ := e
   obtain ⟨v, r1, d1⟩ := zV hρ h1
   obtain ⟨u, r2, d2⟩ := zV hρ h2
   obtain ⟨h', L', a1, b1, c1, hk⟩ := Y0 H d1 d2 e
   obtain ⟨bb, i, hp, hne⟩ := a5t a1
   simp only [qB, r1, r2, a1]
   refine ⟨⟨γ, _, L', hk, b1, c1, ⟨#[], rfl, .nil⟩⟩, fun id b hg hs hid => hne b ?_⟩
   rw [h1] at hw
   split at hw
   ·rename_i id0 off hx
    cases hx
    cases hw
    obtain ⟨b0, g0, s0, hv⟩ := d1
    rw [hv] at hp; cases hp
    intro q; subst q
    obtain ⟨c, hc⟩ := hs
    obtain ⟨c0, hc0⟩ := s0
    have := H.inj id id0 _ _ b 0 0 hc hc0 rfl rfl hg g0
    exact hid (by rw [this]; exact List.mem_cons_self)
   ·rename_i id0 i0 off0 tot0 hx
    cases hx
    cases hw
    unfold a2h at e
    simp only at e
    obtain ⟨k1, k2, k3⟩ := d1
    cases hf : a8D P L q with
    | mk x' rr =>
     obtain ⟨L1, qq⟩ := rr
     simp only [hf] at e
     split at e
     ·rename_i c te loc xs hL
      split at e
      ·rename_i hcond
       rw [qa] at e
       split at e
       ·rename_i ht
        replace e := kg e; obtain ⟨y', hy, e⟩ := e
        replace e := q9 e; obtain ⟨zz, hz, e⟩ := e
        replace e := zS e; obtain ⟨hqq, e⟩ := e
        obtain ⟨⟨H1, c2⟩, _⟩ := WC H d2 hf hqq
        have d1' := c2.dr (show DR P (qd W0 γ (eL L) h) γ (eL L) h (.ep id0 i0 off0 tot0) v from ⟨k1, k2, k3⟩)
        obtain ⟨j1, j2, j3⟩ := d1'
        obtain ⟨m1, m2⟩ := j3 _ _ (z7 hL) rfl
        obtain ⟨m3, m4⟩ := m2 (by simpa using ht)
        obtain ⟨b2, o2, g2, hv⟩ := m4 c.size (fun r hr => by obtain ⟨w, _, rfl⟩ := List.mem_map.1 hr; exact k9 c w)
        rw [hv] at hp; cases hp
        intro q'; subst q'
        have hown : (kh (.li c te loc xs)).owns = true := by
         have : eo loc te xs.length = some te := by
          unfold eo; cases loc
          ·rw [if_neg (by decide), if_neg (by omega)]
          ·rfl
         show (Obj.li (eo loc te xs.length) _).owns = true
         rw [this]; rfl
        obtain ⟨g1, s1⟩ := c2.st id b hg hs
        exact J2 H1 g1 s1 (z7 hL) hown (fun c q => by cases q) g2
       ·cases e
      ·cases e
     ·cases e
   ·cases hw
  ·-- insert
   rename_i t x y z'
   unfold top at e
   simp only at e
   replace e := q9 e; obtain ⟨m, h1, e⟩ := e
   replace e := q9 e; obtain ⟨k, h2, e⟩ := e
   replace e := q9 e; obtain ⟨v, h3, e⟩ := e
   obtain ⟨v1, e1, r1⟩ := zV hρ h1
   obtain ⟨v2, e2, r2⟩ := zV hρ h2
   obtain ⟨v3, e3, r3⟩ := zV hρ h3
   obtain ⟨h', L', id', b', q1, q2, q3, q4, q5, ⟨es, q6⟩, q7⟩ := JR H r1 r2 r3 e
   simp only [qB, e1, e2, e3, q1]
   exact ⟨⟨γ, _, _, q4, q2, q3, ⟨#[], rfl, .nil⟩⟩, fun id b hg hst _ => q7 b fun q => J2 H hg hst q6 rfl (fun c q => by cases q) (x := 0) (by rw [q5, q])⟩
  ·exact absurd rfl hq
  ·exact absurd rfl hq
  ·-- call
   rename_i f args tys
   unfold top at e
   simp only at e
   unfold a4O at e
   simp only at e
   unfold WM at e
   simp only at e
   replace e := q9 e; obtain ⟨fv, h1, e⟩ := e
   replace e := q9 e; obtain ⟨ds, h2, e⟩ := e
   split at e
   ·rename_i k pre cap
    split at e
    ·rename_i hb
     simp only [Bool.and_eq_true] at hb
     rw [h1, h2] at hw
     cases hw
     obtain ⟨v, e1, r1⟩ := zV hρ h1
     obtain ⟨vs, e3, r3⟩ := zn hρ (ds := ds.map enc) (by rw [kE, h2]; rfl)
     obtain ⟨as, bs, rfl, r4, r5⟩ := r1
     simp only [qB, e1, e3, Zf]
     have up : ∀ {ds : List DV} {vs : List Value}, All2 (DB P (qd W0 γ (eL L) h) γ (eL L) h) ds vs → All2 (DR P (qd W0 γ (eL L) h) γ (eL L) h) ds vs := fun hh => hh.mono fun d v hd => by
      cases d <;> first | exact hd | exact hd.elim
     have hc := hcall _ _ _ _ _ e h0 W0 γ h (as.toList ++ vs ++ bs.toList) H (by
      rw [List.map_append, List.map_append, (wQ hb.1).2, (wQ hb.2).2]
      exact ((up r4).append r3).append (up r5))
     exact hc.mono fun v h' q => ⟨adA q.1, q.2⟩
    ·cases e
   ·cases e
  ·-- append
   rename_i args tys
   cases hw
   unfold top at e
   simp only at e
   unfold a4O at e
   simp only at e
   split at e
   ·rename_i c xs x hxs
    obtain ⟨vs, e3, r3⟩ := zn hρ (ds := [.slx c xs, x].map enc) (by rw [kE, hxs]; rfl)
    cases r3 with
    | cons hd t => cases t with
     | cons hx t =>
      cases t
      obtain ⟨u, h', u1, u2, u3⟩ := vE H hd hx e
      simp only [qB, e3, u1]
      exact ⟨u2, .of H u3 []⟩
   unfold WM at e
   simp only at e
   replace e := q9 e; obtain ⟨ds, h1, e⟩ := e
   split at e
   ·rename_i s x
    obtain ⟨d, L', h3, h4⟩ := Va e
    obtain ⟨vs, e3, r3⟩ := zn hρ (ds := [s, x].map enc) (by rw [kE, h1]; rfl)
    cases r3 with
    | cons hs t => cases t with
     | cons hx t =>
      cases t
      obtain ⟨v', h', γ', e4, a1, a2, a3⟩ := JT H hs hx h3
      simp only [qB, e3, e4]
      refine ⟨⟨γ', d, L', h4, a1, a2, a3⟩, fun id b hg hst _ => a1L e4 b (adW H hg hst) fun o n k q => ?_⟩
      rcases a3t e with rfl | ⟨id', tot, c, te, loc, xs, rfl, hL, hl⟩
      ·have hv : _ = Value.slice none 0 0 := PR.scal (P := P) (S := qd W0 γ (eL L) h) (h := h) hs
       rw [hv] at q; cases q
      ·obtain ⟨k1, k2, k3⟩ := (show DB P (qd W0 γ (eL L) h) γ (eL L) h (.ref id' 0 tot tot) _ from hs)
       obtain ⟨m1, m2⟩ := k3 _ _ (z7 hL) rfl
       obtain ⟨m3, m4⟩ := m2 (by simpa using hl)
       rcases m4 c.size (fun r hr => by obtain ⟨w, _, rfl⟩ := List.mem_map.1 hr; exact k9 c w) with ⟨hv | ⟨_, _, hv⟩, _, _⟩ | ⟨_, _, _, hv, q1, q2⟩ | ⟨b', o', c', g', hv, _⟩
       ·rw [hv] at q; cases q
       ·rw [hv] at q; cases q; exact ⟨rfl, rfl⟩
       ·omega
       ·rw [hv] at q
        cases q
        have hO := H.obj id' _ (z7 hL)
        have hown : (kh (.li c te loc xs)).owns = true := by
         show (Obj.li (eo loc te xs.length) _).owns = true
         cases he : eo loc te xs.length with
         | some w => rfl
         | none =>
          have hO' : OR P (qd W0 γ (eL L) h) γ (eL L) h id' (.li (eo loc te xs.length) (xs.map (qM c))) := hO
          rw [he] at hO'
          rw [hO'.2] at g'; cases g'
        exact absurd g' (fun g' => J2 H hg hst (z7 hL) hown (fun c q => by cases q) g')
   ·cases e
  all_goals first | (exact absurd rfl hq) | (cases hw; done)
end
open Go.RowKit
section
variable {R : Type} {P : Program} {ty : TypeId → Option CT} {h0 : Heap} {W0 : Ent}
structure Base where
 pl : Prop
 γ : Pl
 L : List Obj
 h : Heap
structure HB (P : Program) (h0 : Heap) (W0 : Ent) (B : Base) (γ : Pl) (L : List Obj) (h : Heap) : Prop where
 hp : Hp P h0 W0 γ L h
 ca : B.pl → Carry W0 B.γ B.L B.h γ L h
def KL (P : Program) (h0 : Heap) (W0 : Ent) (B : Base) (K : TFrm → List TO → Prop) (fa : Frm) (h : Heap) : Prop := ∃ a L γ, K a L ∧ HB P h0 W0 B γ (eL L) h ∧ FR P W0 γ (eL L) h (zW a) fa
theorem HB.on {P : Program} {h0 : Heap} {W0 : Ent} {B : Base} {γ γ' : Pl} {L L' : List Obj} {h h' : Heap} (H : HB P h0 W0 B γ L h) (H' : Hp P h0 W0 γ' L' h') (c : Carry W0 γ L h γ' L' h') : HB P h0 W0 B γ' L' h' := ⟨H', fun q => (H.ca q).trans' c⟩
theorem Kx {γ : Pl} {L : List TO} {h : Heap} {a : TFrm} {fa : Frm} (hf : FR P W0 γ (eL L) h (zW a) fa) : YG P W0 γ (eL L) h (QE a.ev) fa.ev := by
 rw [a2b]; exact hf.rho
theorem a0G {γ : Pl} {L : List TO} {h : Heap} {a : TFrm} {fa : Frm} (hf : FR P W0 γ (eL L) h (zW a) fa) {x : Operand} {b : Bool} (hx : a.ev x = some (.v (.bool b))) : FR P W0 γ (eL L) h (zW (a.know x b)) fa := by
 cases x with
 | tmp t =>
  refine ⟨hf.n, hf.cnt, fun u d e => ?_⟩
  have e' : (if t = u then some (enc (.v (.bool b))) else qW u (a.l.map fun p => (p.1, enc p.2))) = some d := e
  split at e'
  ·rename_i hu
   subst hu
   cases e'
   exact hf.slots t _ (by show qW t (a.l.map fun p => (p.1, enc p.2)) = _; rw [j7, show Qx t a.l = some (.v (.bool b)) from hx]; rfl)
  ·exact hf.slots u d e'
 | const v => exact hf
 | func f => exact hf
 | global g => exact hf
theorem UL {γ : Pl} {L : List TO} {h : Heap} {a : TFrm} {fa : Frm} (hf : FR P W0 γ (eL L) h (zW a) fa) {t : Nat} {b : Bool} (hx : Qx t a.l = some (.v (.bool b))) : fa.get t = some (.bool b) := by
 obtain ⟨v, e1, r⟩ := hf.slots t (enc (.v (.bool b))) (by show qW t (a.l.map fun p => (p.1, enc p.2)) = _; rw [j7, hx]; rfl)
 have : v = .bool b := PR.scal (P := P) (S := qd W0 γ (eL L) h) (h := h) r
 subst this
 exact e1
theorem a3N {γ : Pl} {L : List TO} {h : Heap} {a : TFrm} {fa : Frm} (hf : FR P W0 γ (eL L) h (zW a) fa) {t : Nat} {xs : List TV} (hx : Qx t a.l = some (.tup xs)) : ∃ vs, fa.get t = some (.tuple vs) := by
 obtain ⟨v, e1, vs, rfl, _⟩ := hf.slots t (enc (.tup xs)) (by show qW t (a.l.map fun p => (p.1, enc p.2)) = _; rw [j7, hx]; rfl)
 exact ⟨vs, e1⟩
theorem Yv {γ : Pl} {L : List TO} {h : Heap} {a : TFrm} {fa : Frm} {t : Option Tmp} {want : Bool} {A B : TFrm → Tree R} {z : R} {X Y : Prop} (hf : FR P W0 γ (eL L) h (zW a) fa) (e : (a2v t want a A B).run = some z)
  (hA : ∀ a', FR P W0 γ (eL L) h (zW a') fa → (A a').run = some z → X) (hB : ∀ a', FR P W0 γ (eL L) h (zW a') fa → (B a').run = some z → Y) : zA (zo t want fa) X Y := by
 unfold a2v at e
 split at e
 ·rename_i t
  split at e
  ·rename_i b hb
   have hg : zo (some t) want fa = some (if want then b else !b) := by
    unfold zo
    simp only [UL hf hb]
   rw [hg]
   have hk := a0G hf (x := .tmp t) (b := b) hb
   cases b <;> cases want <;> simp only [Tree.run, Bool.false_eq_true, if_false, if_true] at e <;> first
    | exact ⟨fun _ => hA _ hk e, fun q => by simp at q⟩
    | exact ⟨fun q => by simp at q, fun _ => hB _ hk e⟩
  ·rename_i xs hx
   obtain ⟨vs, hv⟩ := a3N hf hx
   have hg : zo (some t) want fa = some false := by
    unfold zo
    simp only [hv]
   rw [hg]
   exact ⟨fun q => by simp at q, fun _ => hB _ hf e⟩
  ·cases e
 ·cases e
theorem Jm {B : Base} {call : wD R} {wr : TWr} (hcall : TCallOk P call wr) : ∀ (l : List C) {K : TFrm → List TO → Tree R} {z : R} {Q : Frm → Heap → Prop} {γ : Pl} {L : List TO} {h : Heap} {a : TFrm} {fa : Frm}, (∀ fa h, KL P h0 W0 B (fun a L => (K a L).run = some z) fa h → Q fa h) →
  HB P h0 W0 B γ (eL L) h → FR P W0 γ (eL L) h (zW a) fa → (tcW P ty call l K a L).run = some z → cWp P l Q fa h
 | [], K, z, Q, γ, L, h, a, fa, hQ, H, hf, e => hQ fa h ⟨a, L, γ, e, H, hf⟩
 | c :: r, K, z, Q, γ, L, h, a, fa, hQ, H, hf, e => by
  have go : ∀ a', FR P W0 γ (eL L) h (zW a') fa → (top P ty call c.op a'.ev L (fun d L' => tcW P ty call r K (a'.put c.d d) L')).run = some z → qB P c.op fa.ev h (fun v h' => cWp P r Q (fa.put c.d v) h') := fun a' hf' e =>
   wL (fun v h' ⟨γ', d, L', k, H', c', hd⟩ => Jm hcall r hQ (H.on H' c') (by rw [J8]; exact hf'.put c' hd c.d) k) (vd hcall H.hp (Kx hf') e)
  unfold tcW at e
  unfold cWp
  cases hg : c.g with
  | none => simp only [hg] at e ⊢; exact go a hf e
  | some p =>
   obtain ⟨t, want⟩ := p
   simp only [hg] at e ⊢
   exact Yv hf e (fun a' hf' e => go a' hf' e) (fun a' hf' e => Jm hcall r hQ H (by rw [J8]; exact hf'.put (Carry.refl _ _ _) a5u c.d) e)
theorem aaR {o : Op} {ρ : Zq} {L : List TO} {K : TV → Tree R} {z : R} (e : (ado P o ρ L K).run = some z) : ∃ d, KB P o (QE ρ) (eL L) = some (enc d) ∧ (K d).run = some z := by
 unfold ado at e
 unfold KB
 split at e
 ·replace e := q9 e; obtain ⟨x, hx, e⟩ := e
  obtain ⟨d, h1, h2⟩ := Jo e
  refine ⟨d, ?_, h2⟩
  simp only [qN hx]
  exact h1
 ·split at e
  ·rename_i x t hx ht
   obtain ⟨d, h1, h2⟩ := UK e
   refine ⟨d, ?_, h2⟩
   simp only [kE, hx, Option.map_some, List.map_cons, List.map_nil, ht]
   exact h1
  ·cases e
 ·cases e
theorem vI {x y : Value} {o : Tree R} {z : R} (e : (a8I x y o).run = some z) : x = y ∧ o.run = some z := by
 unfold a8I at e
 split at e
 ·split at e
  ·rename_i hk
   rw [qa] at e
   split at e
   ·rename_i hn; rw [hk, hn]; exact ⟨rfl, e⟩
   ·cases e
  ·cases e
 ·rw [qa] at e
  split at e
  ·rename_i hn; rw [hn]; exact ⟨rfl, e⟩
  ·cases e
 ·rw [qa] at e
  split at e
  ·rename_i hn; rw [hn]; exact ⟨rfl, e⟩
  ·cases e
 ·split at e
  ·rename_i hn; exact ⟨kx _ _ hn, e⟩
  ·cases e
theorem ui (x : Value) (l : List TV) : V5 (.v x :: l) = (V5 l).map (x :: ·) := rfl
theorem V9 : ∀ {l m : List TV} {o : Tree R} {z : R}, (a8T l m o).run = some z → (∃ vs, V5 l = some vs ∧ V5 m = some vs) ∧ o.run = some z
 | l, m, o, z, e => by
  unfold a8T at e
  split at e
  ·exact ⟨⟨[], rfl, rfl⟩, e⟩
  ·have h1 := vI e
   have h2 := V9 h1.2
   obtain ⟨⟨vs, h3, h4⟩, h5⟩ := h2
   have hxy := h1.1
   subst hxy
   exact ⟨⟨_, by rw [ui, h3]; rfl, by rw [ui, h4]; rfl⟩, h5⟩
  ·cases e
theorem a3e {x y : TV} {o : Tree R} {z : R} (e : (aeC x y o).run = some z) : ((∃ v, Vk x = some v ∧ Vk y = some v) ∨ ∃ id off, x = .ptr id off ∧ y = .ptr id off) ∧ o.run = some z := by
 unfold aeC at e
 split at e
 ·have h1 := vI e
  refine ⟨.inl ⟨_, rfl, ?_⟩, h1.2⟩
  rw [h1.1]; rfl
 ·obtain ⟨⟨vs, h1, h2⟩, h3⟩ := V9 e
  refine ⟨.inl ⟨.agg vs.toArray, ?_, ?_⟩, h3⟩
  ·unfold Vk; simp only [h1]; rfl
  ·unfold Vk; simp only [h2]; rfl
 ·split at e
  ·rename_i hc
   obtain ⟨rfl, rfl⟩ := hc
   exact ⟨.inr ⟨_, _, rfl, rfl⟩, e⟩
  ·cases e
 ·cases e
theorem a4C {c : C} {a : TFrm} {L : List TO} {o : Tree R} {z : R} (e : (aej P c a L o).run = some z) : Xg P c (zW a) (eL L) ∧ o.run = some z := by
 unfold aej at e
 obtain ⟨d, h1, e⟩ := aaR e
 replace e := q9 e; obtain ⟨d', h2, e⟩ := e
 obtain ⟨hs, e⟩ := a3e e
 refine ⟨?_, e⟩
 unfold Xg
 have : a3r (zW a) c.d = some (enc d') := by
  unfold agL at h2
  unfold a3r
  cases hc : c.d with
  | none => rw [hc] at h2; cases h2
  | some t =>
   rw [hc] at h2
   show qW _ (a.l.map fun p => (p.1, enc p.2)) = _
   rw [j7, show Qx t a.l = some d' from h2]; rfl
 rcases hs with ⟨v, h3, h4⟩ | ⟨id, off, rfl, rfl⟩
 ·refine .inl ?_
  rw [← a2b, h1, qD, Q9, h3, qD, this, qD, Q9, h4, qD]
 ·exact .inr ⟨id, off, (by rw [← a2b]; exact h1), this⟩
def ahn (P : Program) (c : C) (fa : Frm) (h : Heap) : Prop := (wA fa c.d).isSome = true ∧ qR P c.op fa.ev h = wA fa c.d
def W7 (P : Program) (pins : v9) (γ : Pl) (L : List TO) (h : Heap) (fa : Frm) : Prop := ∀ q ∈ pins, ∃ b v, γ q.2.1 = some (b, 0) ∧ (∃ c, (eL L)[q.2.1]? = some (.st c)) ∧ fa.get q.1 = some v ∧ kJ P q.2.2.2 h (.pointer (some ⟨b, q.2.2.1, none⟩)) = some v
def Ya (g : Option (Option Tmp × Bool)) (fa : Frm) : Prop := match g with
 | none => True
 | some (t, w) => zo t w fa = some true
def PinF (P : Program) (W0 : Ent) (γ : Pl) (L : List TO) (h : Heap) (fa : Frm) (q : C) : Prop := Ya q.g fa → ∃ d v, q.d = some d ∧ fa.get d = some v ∧ ∀ h', (∀ b, qd W0 γ (eL L) h b → h'.get b = h.get b) → qR P q.op fa.ev h' = some v
theorem W5 {x y : Operand} (e : Yg x y = true) : x = y := by
 unfold Yg at e
 split at e
 ·rw [beq_iff_eq] at e; rw [e]
 ·simp only [Bool.and_eq_true, decide_eq_true_eq] at e; rw [e.1, e.2]
 ·cases e
theorem Wp {x y : Option Operand} (e : WQ x y = true) : x = y := by
 unfold WQ at e
 split at e
 ·rfl
 ·rw [W5 e]
 ·cases e
theorem abm {x y : Op} (e : a6a x y = true) : x = y := by
 unfold a6a at e
 split at e
 ·simp only [Bool.and_eq_true, beq_iff_eq] at e; rw [e.1, W5 e.2]
 ·simp only [Bool.and_eq_true, beq_iff_eq] at e
  obtain ⟨⟨⟨⟨e1, e2⟩, e3⟩, e4⟩, e5⟩ := e
  rw [e1, W5 e2, Wp e3, Wp e4, Wp e5]
 ·cases e
theorem acO {x y : Option (Option Tmp × Bool)} (e : aea x y = true) : x = y := by
 unfold aea at e
 split at e
 ·rfl
 ·simp only [Bool.and_eq_true, beq_iff_eq] at e; rw [e.1, e.2]
 ·cases e
theorem acQ {q c : C} (e : abZ q c = true) : q.d = c.d ∧ q.op = c.op ∧ q.g = c.g := by
 unfold abZ at e
 simp only [Bool.and_eq_true, beq_iff_eq] at e
 exact ⟨e.1.1, abm e.1.2, acO e.2⟩
theorem vy {fa : Frm} {d : Option Nat} {v : Value} {t : Nat} (h : ∀ u, d = some u → u ≠ t) : (fa.put d v).get t = fa.get t := by
 cases d with
 | none => rfl
 | some u =>
  have hne := h u rfl
  by_cases hlt : u < fa.n
  ·simp only [Frm.put, hlt, if_true, Frm.get, Z4]
   first | rw [if_neg hne] | rw [if_neg (Ne.symm hne)]
  ·simp only [Frm.put, hlt, if_false]
theorem ae6 {o : Op} {fa : Frm} {d : Option Nat} {v : Value} (h : ∀ u, d = some u → a3C o u = false) : ∀ x ∈ o.operands, (fa.put d v).ev x = fa.ev x := by
 intro x hx
 cases x with
 | tmp t =>
  refine vy fun u hu q => ?_
  have := h u hu
  unfold a3C at this
  rw [List.any_eq_false] at this
  have := this (.tmp t) (by simpa using hx)
  simp [q] at this
 | const v => rfl
 | func f => rfl
 | global g => rfl
theorem a3y {g : Option (Option Tmp × Bool)} {fa : Frm} {d : Option Nat} {v : Value} (h : ∀ u, d = some u → xL g u = false) : Ya g (fa.put d v) ↔ Ya g fa := by
 unfold Ya
 split
 ·exact Iff.rfl
 ·rename_i t w
  cases t with
  | none => exact Iff.rfl
  | some t =>
   have : (fa.put d v).get t = fa.get t := vy fun u hu q => by
    have := h u hu
    simp [xL, q] at this
   unfold zo
   simp only [this]
theorem PinF.kept {P : Program} {W0 : Ent} {γ γ' : Pl} {L L' : List TO} {h h' : Heap} {fa : Frm} {q : C} (p : PinF P W0 γ L h fa q) (cc : Carry W0 γ (eL L) h γ' (eL L') h') {d : Option Nat} (v : Value) (hd : ∀ u, d = some u → YZ q u = false) : PinF P W0 γ' L' h' (fa.put d v) q := by
 have hd' : ∀ u, d = some u → q.d ≠ some u ∧ a3C q.op u = false ∧ xL q.g u = false := fun u hu => by
  have := hd u hu
  unfold YZ at this
  simp only [Bool.or_eq_false_iff, beq_eq_false_iff_ne] at this
  exact ⟨this.1.1, this.1.2, this.2⟩
 intro hg
 obtain ⟨t, w, e1, e2, e3⟩ := p ((a3y fun u hu => (hd' u hu).2.2).1 hg)
 refine ⟨t, w, e1, ?_, fun h2 hh => ?_⟩
 ·rw [vy fun u hu q => (hd' u hu).1 (by rw [e1, q])]
  exact e2
 ·rw [yL (ae6 fun u hu => (hd' u hu).2.1)]
  refine e3 h2 fun b hb => ?_
  rw [hh b (cc.free b hb).1, (cc.free b hb).2]
theorem a4s {P : Program} {W0 : Ent} {γ γ' : Pl} {L L' : List TO} {h h' : Heap} {fa : Frm} {p2 : List C} (p : ∀ q ∈ p2, PinF P W0 γ L h fa q) (cc : Carry W0 γ (eL L) h γ' (eL L') h') (d : Option Nat) (v : Value) :
  ∀ q ∈ p2.filter (fun q => match d with | some d => !YZ q d | none => true), PinF P W0 γ' L' h' (fa.put d v) q := by
 intro q hq
 obtain ⟨h1, h2⟩ := List.mem_filter.1 hq
 refine (p q h1).kept cc v fun u hu => ?_
 subst hu
 simpa using h2
theorem a7H {P : Program} {t : TypeId} {h h' : Heap} {b i : Nat} (e : h'.get b = h.get b) : kJ P t h' (.pointer (some ⟨b, i, none⟩)) = kJ P t h (.pointer (some ⟨b, i, none⟩)) := by
 unfold kJ V7
 simp only [e]
theorem Qi {P : Program} {t : TypeId} {h h' : Heap} {a : Option Addr} {n c : Nat} {lo hi mx : Option Value} (e : ∀ b o, a = some ⟨b, o, none⟩ → c ≠ dud → ¬ (n = 0 ∧ c = 0) → h'.get b = h.get b) : z9 P (qV P h') t (.slice a n c) lo hi mx = z9 P (qV P h) t (.slice a n c) lo hi mx := by
 unfold z9
 split <;> first | rfl | skip
 rename_i e' b o n' c' hx hy
 cases hy
 by_cases hc : c = dud
 ·simp only [hc, if_true]
 ·by_cases h0 : n = 0 ∧ c = 0
  ·obtain ⟨rfl, rfl⟩ := h0
   simp
  ·have : qV P h' b = qV P h b := by unfold qV; rw [e b o rfl hc h0]
   simp only [this]
section
variable {γ : Pl} {L : List TO} {h : Heap} {a : TFrm} {fa : Frm} {pins : v9}
theorem vJ (H : Hp P h0 W0 γ (eL L) h) (hf : FR P W0 γ (eL L) h (zW a) fa) (hp : W7 P pins γ L h fa) {p2 : List C} (hp2 : ∀ q ∈ p2, PinF P W0 γ L h fa q) {c : C} (hgo : Ya c.g fa) {o : Tree R} {z : R} (e : (a5D P pins p2 c a L o).run = some z) : ahn P c fa h ∧ o.run = some z := by
 unfold a5D at e
 split at e
 ·rename_i hpin
  refine ⟨?_, e⟩
  rcases Bool.or_eq_true_iff.1 hpin with hpin | hpin
  case inr =>
   obtain ⟨q, hq, he⟩ := List.any_eq_true.1 hpin
   obtain ⟨s1, s2, s3⟩ := acQ he
   obtain ⟨d, v, g1, g2, g3⟩ := hp2 q hq (by rw [s3]; exact hgo)
   have g3 := g3 h fun _ _ => rfl
   rw [s2] at g3
   rw [s1] at g1
   unfold ahn
   rw [g1]
   simp only [wA, g2, g3]
   exact ⟨rfl, trivial⟩
  unfold pinned at hpin
  split at hpin
  ·rename_i t x d hop hd
   split at hpin
   ·rename_i id off hx
    obtain ⟨q, hq, he⟩ := List.any_eq_true.1 hpin
    simp only [Bool.and_eq_true, beq_iff_eq] at he
    obtain ⟨⟨⟨e1, e2⟩, e3⟩, e4⟩ := he
    obtain ⟨b, v, g1, g2, g3, g4⟩ := hp q hq
    rw [e1] at g3; rw [e2] at g1; rw [e3, e4] at g4
    obtain ⟨pv, r1, b', g', _, rfl⟩ := (Kx hf) x (enc (.ptr id off)) (qN hx)
    rw [g1] at g'; cases g'
    unfold ahn
    rw [hop, hd]
    simp only [wA, qR, r1, g3, g4]
    exact ⟨by first | trivial | rfl, by first | trivial | rfl⟩
   ·cases hpin
  ·cases hpin
 ·obtain ⟨h1, h2⟩ := a4C e
  have : YP P { c with g := none } fa h := a7N H hf (c := { c with g := none }) h1
  exact ⟨this, h2⟩
theorem a59 (H : Hp P h0 W0 γ (eL L) h) (hf : FR P W0 γ (eL L) h (zW a) fa) (hp : W7 P pins γ L h fa) {p2 : List C} (hp2 : ∀ q ∈ p2, PinF P W0 γ L h fa q) {c : C} {o : Tree R} {z : R} (e : (acD P pins p2 c a L o).run = some z) : YP P c fa h ∧ o.run = some z := by
 unfold acD at e
 unfold YP
 split at e
 ·rename_i hg
  simp only [hg]
  exact vJ H hf hp hp2 (by rw [hg]; trivial) e
 ·rename_i t want hg
  simp only [hg]
  split at e
  ·rename_i b hb
   have hgd : zo (some t) want fa = some (if want then b else !b) := by
    unfold zo
    simp only [UL hf hb]
   rw [hgd]
   cases b <;> cases want <;> simp only [Tree.run, Bool.false_eq_true, if_false, if_true] at e <;> first
    | exact ⟨.inl rfl, e⟩
    | (obtain ⟨q1, q2⟩ := vJ H hf hp hp2 (by rw [hg]; exact hgd) e; exact ⟨.inr q1, q2⟩)
  ·rename_i xs hx
   obtain ⟨vs, hv⟩ := a3N hf hx
   have hgd : zo (some t) want fa = some false := by
    unfold zo
    simp only [hv]
   exact ⟨.inl hgd, e⟩
  ·cases e
 ·cases e
theorem JP (H : Hp P h0 W0 γ (eL L) h) (hf : FR P W0 γ (eL L) h (zW a) fa) (hp : W7 P pins γ L h fa) {p2 : List C} (hp2 : ∀ q ∈ p2, PinF P W0 γ L h fa q) {z : R} {o : Tree R} : ∀ {ks : List C}, (Zm P pins p2 a L ks o).run = some z → jF P fa h ks ∧ o.run = some z
 | [], e => ⟨trivial, e⟩
 | c :: r, e => by
  obtain ⟨h1, e2⟩ := a59 H hf hp hp2 e
  obtain ⟨h2, e3⟩ := JP H hf hp hp2 e2
  exact ⟨⟨h1, h2⟩, e3⟩
theorem u0 {fa : Frm} {v : Value} {d : Option Nat} {t : Nat} (h : d ≠ some t) : (fa.put d v).get t = fa.get t := by
 cases d with
 | none => rfl
 | some d =>
  have hne : ¬ d = t := fun q => h (by rw [q])
  by_cases hlt : d < fa.n
  ·simp only [Frm.put, hlt, if_true, Frm.get, Z4]
   first | rw [if_neg hne] | rw [if_neg (Ne.symm hne)]
  ·simp only [Frm.put, hlt, if_false]
theorem uc {fa : Frm} {v : Value} {d : Nat} (h : d < fa.n) : (fa.put (some d) v).get d = some v := by
 unfold Frm.put
 simp only [h, if_true, Frm.get, Z4]
theorem a2S {P : Program} {t : TypeId} {h h' : Heap} {b i : Nat} (e : h'.get b = h.get b) : kJ P t h' (.pointer (some ⟨b, i, none⟩)) = kJ P t h (.pointer (some ⟨b, i, none⟩)) := by
 unfold kJ V7
 simp only [e]
end
def abS : Op → Bool
 | .load _ _ => true
 | .slice _ _ _ _ _ => true
 | _ => false
theorem a8K {o : Op} {r : Rho} {h : Heap} {K : Value → Heap → Prop} (q : qB P o r h K) : qB P o r h (fun v h' => K v h' ∧ (abS o = true → qR P o r h = some v ∧ h' = h)) := by
 by_cases ho : abS o = true
 ·unfold abS at ho
  split at ho
  ·unfold qB at q ⊢
   simp only [qR]
   simp only at q ⊢
   split at q
   ·split at q
    ·rename_i h1 _ _ h2
     simp only [h1, h2]
     exact ⟨q, fun _ => ⟨trivial, trivial⟩⟩
    ·exact q.elim
   ·exact q.elim
  ·unfold qB at q ⊢
   simp only [qR]
   simp only at q ⊢
   split at q
   ·split at q
    ·rename_i h1 h2 h3 h4 _ _ h5
     simp only [h1, h2, h3, h4, h5]
     exact ⟨q, fun _ => ⟨trivial, trivial⟩⟩
    ·exact q.elim
   ·exact q.elim
  ·cases ho
 ·exact wL (fun v h' k => ⟨k, fun e => absurd e ho⟩) q
theorem adp {γ γ' : Pl} {L L' : List TO} {h : Heap} {a : TFrm} {fa : Frm} (hf : FR P W0 γ (eL L) h (zW a) fa) {c : C} (hr : QO c a = true) {v : Value} (hv : qR P c.op fa.ev h = some v) (cc : Carry W0 γ (eL L) h γ' (eL L') h) : PinF P W0 γ' L' h (fa.put c.d v) c := by
 unfold QO at hr
 split at hr
 ·cases hr
 ·rename_i d hd
  simp only [Bool.and_eq_true, decide_eq_true_eq, Bool.not_eq_true'] at hr
  obtain ⟨⟨⟨r1, r2⟩, r3⟩, r4⟩ := hr
  intro _
  refine ⟨d, v, hd, by rw [hd]; exact uc (by rw [hf.n]; exact r1), fun h2 hh => ?_⟩
  rw [yL (ae6 fun u hu => by rw [hd] at hu; cases hu; exact r2)]
  have hfr : ∀ b, qd W0 γ (eL L) h b → h2.get b = h.get b := fun b hb => hh b (cc.free b hb).1
  split at r4
  ·rename_i t x hop
   split at r4
   ·rename_i hx
    obtain ⟨pv, q1, b, o, cs, e, rw', hS, hg, rfl, _⟩ := (Kx hf) x _ (qN hx)
    rw [hop] at hv ⊢
    simp only [qR, q1] at hv ⊢
    rw [a7H (hfr b hS)]
    exact hv
   ·cases r4
  ·rename_i t x lo hi mx hop
   split at r4
   ·rename_i ct xs hx
    obtain ⟨pv, q1, q2⟩ := (Kx hf) x _ (qN hx)
    have q2' : PR P (qd W0 γ (eL L) h) h (.sl ct.size (xs.map (qM ct))) pv := q2
    have key : ∀ l m n, z9 P (qV P h2) t pv l m n = z9 P (qV P h) t pv l m n := by
     intro l m n
     generalize hps : PV.sl ct.size (xs.map (qM ct)) = ps at q2'
     cases q2' with
     | v _ => cases hps
     | nil => exact Qi fun b o e => by cases e
     | dud => exact Qi fun b o e hc => absurd rfl hc
     | zero => exact Qi fun b o e hc h0 => absurd ⟨rfl, rfl⟩ h0
     | sl hS hb _ _ _ _ _ _ => exact Qi fun b o e _ _ => by cases e; exact hfr _ hS
    rw [hop] at hv ⊢
    simp only [qR, q1] at hv ⊢
    rw [← hv]
    cases jn fa.ev lo <;> cases jn fa.ev hi <;> cases jn fa.ev mx <;> first | rfl | exact key _ _ _
   ·cases r4
  ·cases r4
theorem a1A {c : C} {a : TFrm} (h : QO c a = true) : abS c.op = true := by
 unfold QO at h
 split at h
 ·cases h
 ·simp only [Bool.and_eq_true] at h
  obtain ⟨_, h⟩ := h
  split at h
  ·rename_i t x hop; rw [hop]; rfl
  ·rename_i t x lo hi mx hop; rw [hop]; rfl
  ·cases h
theorem Wo {γ γ' : Pl} {L L' : List TO} {h h' : Heap} {a : TFrm} {fa : Frm} (hf : FR P W0 γ (eL L) h (zW a) fa) {c : C} {p2 : List C} (p : ∀ q ∈ p2, PinF P W0 γ L h fa q) {v : Value} (hv : abS c.op = true → qR P c.op fa.ev h = some v ∧ h' = h) (cc : Carry W0 γ (eL L) h γ' (eL L') h') : ∀ q ∈ w7 p2 c a, PinF P W0 γ' L' h' (fa.put c.d v) q := by
 intro q hq
 unfold w7 at hq
 rcases List.mem_append.1 hq with hq | hq
 ·split at hq
  ·rename_i hr
   rw [List.mem_singleton] at hq
   subst hq
   obtain ⟨h1, rfl⟩ := hv (a1A hr)
   exact adp hf hr h1 cc
  ·simp at hq
 ·exact a4s p cc c.d v q hq
theorem YT {B : Base} {call : wD R} {wr : TWr} (hcall : TCallOk P call wr) : ∀ (l : List (C × List C)) {pins : v9} {p2 : List C} {K : TFrm → List TO → Tree R} {z : R} {Q : Frm → Heap → Prop} {γ : Pl} {L : List TO} {h : Heap} {a : TFrm} {fa : Frm}, (∀ fa h, KL P h0 W0 B (fun a L => (K a L).run = some z) fa h → Q fa h) →
  HB P h0 W0 B γ (eL L) h → FR P W0 γ (eL L) h (zW a) fa → W7 P pins γ L h fa → (∀ q ∈ p2, PinF P W0 γ L h fa q) → (tdW P ty call wr pins p2 l K a L).run = some z → dWp P l Q fa h
 | [], pins, p2, K, z, Q, γ, L, h, a, fa, hQ, H, hf, hp, hp2, e => hQ fa h ⟨a, L, γ, e, H, hf⟩
 | (c, ks) :: r, pins, p2, K, z, Q, γ, L, h, a, fa, hQ, H, hf, hp, hp2, e => by
  have fin : ∀ {γ' : Pl} {L' : List TO} {h' : Heap} {a' : TFrm} {fa' : Frm} {pins' : v9} {p2' : List C}, HB P h0 W0 B γ' (eL L') h' → FR P W0 γ' (eL L') h' (zW a') fa' → W7 P pins' γ' L' h' fa' → (∀ q ∈ p2', PinF P W0 γ' L' h' fa' q) → (Zm P pins' p2' a' L' ks (tdW P ty call wr pins' p2' r K a' L')).run = some z → jF P fa' h' ks ∧ dWp P r Q fa' h' := by
   intro γ' L' h' a' fa' pins' p2' H' hf' hp' hp2' e'
   obtain ⟨h1, h2⟩ := JP H'.hp hf' hp' hp2' e'
   exact ⟨h1, YT hcall r hQ H' hf' hp' hp2' h2⟩
  have nil : ∀ {γ' : Pl} {L' : List TO} {h' : Heap} {fa' : Frm}, W7 P [] γ' L' h' fa' := fun q hq => by simp at hq
  show cWp P [c] (fun fa h => jF P fa h ks ∧ dWp P r Q fa h) fa h
  unfold tdW at e
  have run : ∀ {a : TFrm}, FR P W0 γ (eL L) h (zW a) fa → (top P ty call c.op a.ev L (fun d L' => Zm P (kF wr pins c a L) (w7 p2 c a) (a.put c.d d) L' ks (tdW P ty call wr (kF wr pins c a L) (w7 p2 c a) r K (a.put c.d d) L'))).run = some z →
    qB P c.op fa.ev h (fun v h' => cWp P [] (fun fa h => jF P fa h ks ∧ dWp P r Q fa h) (fa.put c.d v) h') := by
   intro a hf e
   cases hw : wrT wr c.op a.ev L with
   | none =>
    have hpa : kF wr pins c a L = [] := by unfold kF; simp only [hw]
    rw [hpa] at e
    refine wL ?_ (a8K (vd hcall H.hp (Kx hf) e))
    rintro v h' ⟨⟨γ', d, L', k, H', c', hd⟩, hrd⟩
    exact fin (H.on H' c') (by rw [J8]; exact hf.put c' hd c.d) nil (Wo hf hp2 hrd c') k
   | some ids =>
    have e2 := e
    have kept : ∀ {γ' : Pl} {L' : List TO} {h' : Heap} {v : Value}, Carry W0 γ (eL L) h γ' (eL L') h' → VKept γ L h h' ids → W7 P (pins.filter fun q => !(ids.contains q.2.1) && !(c.d == some q.1)) γ' L' h' (fa.put c.d v) := by
     intro γ' L' h' v cc hv q hq
     obtain ⟨hq1, hq2⟩ := List.mem_filter.1 hq
     simp only [Bool.and_eq_true, Bool.not_eq_true', beq_eq_false_iff_ne] at hq2
     obtain ⟨b, w, g1, g2, g3, g4⟩ := hp q hq1
     obtain ⟨g5, g6⟩ := cc.st q.2.1 b g1 g2
     refine ⟨b, w, g5, g6, by rw [u0 hq2.2]; exact g3, ?_⟩
     rw [a2S (hv q.2.1 b g1 g2 (by simpa using hq2.1))]
     exact g4
    have gen : (∀ t x, c.op ≠ .load t x) → qB P c.op fa.ev h (fun v h' => cWp P [] (fun fa h => jF P fa h ks ∧ dWp P r Q fa h) (fa.put c.d v) h') := by
     intro hnl
     have hpa : kF wr pins c a L = pins.filter fun q => !(ids.contains q.2.1) && !(c.d == some q.1) := by
      unfold kF
      simp only [hw]
      split
      ·rename_i t x d hop hd; exact absurd hop (hnl t x)
      ·rfl
     rw [hpa] at e2
     refine wL ?_ (a8K (a6S hcall H.hp (Kx hf) e2 hw))
     rintro v h' ⟨⟨⟨γ', d, L', k, H', c', hd⟩, hv⟩, hrd⟩
     exact fin (H.on H' c') (by rw [J8]; exact hf.put c' hd c.d) (kept c' hv) (Wo hf hp2 hrd c') k
    cases hop : c.op with
    | load t x =>
     rw [hop] at e2
     unfold top at e2
     simp only at e2
     unfold a4O at e2
     simp only at e2
     unfold WM at e2
     simp only at e2
     replace e2 := q9 e2; obtain ⟨p, h1, e2⟩ := e2
     obtain ⟨d, h3, h4⟩ := Jo e2
     obtain ⟨pv, r1, d1⟩ := zV (Kx hf) h1
     obtain ⟨v, l1, l2⟩ := Qo H.hp d1 h3
     simp only [qB, r1, l1]
     have hf' : FR P W0 γ (eL L) h (zW (a.put c.d d)) (fa.put c.d v) := by rw [J8]; exact hf.put (Carry.refl _ _ _) l2 c.d
     refine fin H hf' ?_ (Wo hf hp2 (fun _ => ⟨by rw [hop]; simp only [qR, r1, l1], rfl⟩) (Carry.refl _ _ _)) h4
     have hk := kept (γ' := γ) (L' := L) (h' := h) (v := v) (Carry.refl _ _ _) (fun _ _ _ _ _ => rfl)
     unfold kF
     simp only [hw]
     intro q hq
     rcases List.mem_append.1 hq with hq | hq
     ·split at hq
      ·rename_i t' x' d' hop' hd'
       rw [hop] at hop'
       cases hop'
       split at hq
       ·rename_i id off hx
        split at hq
        ·rename_i hlt
         simp only [List.mem_singleton] at hq
         subst hq
         rw [h1] at hx; cases hx
         obtain ⟨b, g1, g2, rfl⟩ := d1
         refine ⟨b, v, g1, g2, ?_, l1⟩
         rw [hd']
         exact uc (by rw [hf.n]; exact hlt)
        ·simp at hq
       ·simp at hq
      ·simp at hq
     ·exact hk q hq
    | _ => rw [← hop]; exact gen (fun t x q => by rw [hop] at q; cases q)
  cases hg : c.g with
  | some p =>
   obtain ⟨t, want⟩ := p
   simp only [hg] at e
   unfold cWp
   simp only [hg]
   refine Yv hf e (fun a' hf' e' => run hf' e') (fun a' hf' e' => ?_)
   refine fin H (by rw [J8]; exact hf'.put (Carry.refl _ _ _) a5u c.d) (fun q hq => ?_) (a4s hp2 (Carry.refl _ _ _) c.d _) e'
   obtain ⟨hq1, hq2⟩ := List.mem_filter.1 hq
   obtain ⟨b, w, g1, g2, g3, g4⟩ := hp q hq1
   simp only [Bool.not_eq_true', beq_eq_false_iff_ne] at hq2
   exact ⟨b, w, g1, g2, by rw [u0 hq2]; exact g3, g4⟩
  | none =>
   simp only [hg] at e
   unfold cWp
   simp only [hg]
   exact run hf e
end
open Go.RowKit
def a78 (l : List (Nat × TV)) : List (Nat × DV) := l.map fun p => (p.1, enc p.2)
def a0l (P : Program) (S : Shp) : Prop := ∀ a L s q, S.dec a L = some (s, q) → (∀ p ∈ q, p.1 = p.2) → wkS P (zW a) (eL L) (a78 (S.F s)) (eL (S.G s))
def ago (P : Program) (S : Shp) : Prop := ∀ a L s q, S.dec a L = some (s, q) → (∀ p ∈ q, p.1 = p.2) → ∀ (h0 : Heap) (W0 : Ent) (γ : Pl) (h : Heap) (fa : Frm), Hp P h0 W0 γ (eL L) h → FR P W0 γ (eL L) h (zW a) fa →
 ∃ γ', Hp P h0 W0 γ' (eL (S.G s)) h ∧ FR P W0 γ' (eL (S.G s)) h (zW ⟨a.n, a.c, S.F s⟩) fa
def aiX (E : TEnv) : Prop := (∀ p, E.loops p = none) ∧ ∀ p, E.joins p = none
structure EnvOk (E : TEnv) : Prop where
 joins : ∀ p S, E.joins p = some S → ago E.P S
 call : ∀ R : Type, TCallOk E.P (E.call R) E.wr
 loops : ∀ p S, E.loops p = some S → a0l E.P S
section
variable {h0 : Heap} {W0 : Ent} {B : Base}
theorem map_some {R S : Type} {t : Tree R} {z : S ⊕ R} (h : (t.map Sum.inr).run = some z) : ∃ r, t.run = some r ∧ z = Sum.inr r := by
 rw [Tree.run_map _ fun a b e => by cases e; rfl] at h
 cases hr : t.run with
 | none => rw [hr] at h; cases h
 | some r => rw [hr] at h; cases h; exact ⟨r, rfl, rfl⟩
theorem UY {R : Type} {S : Shp} {n c : Nat} {a : TFrm} {L : List TO} {z1 : S.σ ⊕ R} (h : (if a.n = n ∧ a.c = c then ql (S.dec a L) fun p => chk p.2 (Tree.ret (Sum.inl p.1) : Tree (S.σ ⊕ R)) else .fail).run = some z1) :
  ∃ s q, S.dec a L = some (s, q) ∧ (∀ p ∈ q, p.1 = p.2) ∧ z1 = .inl s ∧ a.n = n ∧ a.c = c := by
 split at h
 ·rename_i hc
  obtain ⟨⟨s, q⟩, h1, h2⟩ := q9 h
  obtain ⟨h3, h4⟩ := zS h2
  cases h4
  exact ⟨s, q, h1, h3, rfl, hc⟩
 ·cases h
theorem V1 {R : Type} {S : Shp} {n c : Nat} {K : TK R} {e : Exit} {a : TFrm} {L : List TO} {z1 : S.σ ⊕ R} (h : (ZL S n c K e a L).run = some z1) :
  (e = .normal ∧ ∃ s q, S.dec a L = some (s, q) ∧ (∀ p ∈ q, p.1 = p.2) ∧ z1 = .inl s ∧ a.n = n ∧ a.c = c) ∨ (e ≠ .normal ∧ ∃ r, (K e a L).run = some r ∧ z1 = .inr r) := by
 cases e with
 | normal => exact .inl ⟨rfl, UY h⟩
 | exit id => exact .inr ⟨(fun q => by cases q), map_some h⟩
 | goto l => exact .inr ⟨(fun q => by cases q), map_some h⟩
 | ret => exact .inr ⟨(fun q => by cases q), map_some h⟩
 | panic c => exact .inr ⟨(fun q => by cases q), map_some h⟩
 | outgrown => exact .inr ⟨(fun q => by cases q), map_some h⟩
theorem ade {R : Type} {S : Shp} {n c : Nat} {K : TK R} {e : Exit} {a : TFrm} {L : List TO} {z1 : S.σ ⊕ R} (h : (tgo S n c K e a L).run = some z1) :
  ((∃ l, e = .goto l) ∧ ∃ s q, S.dec a L = some (s, q) ∧ (∀ p ∈ q, p.1 = p.2) ∧ z1 = .inl s ∧ a.n = n ∧ a.c = c) ∨ ((∀ l, e ≠ .goto l) ∧ ∃ r, (K e a L).run = some r ∧ z1 = .inr r) := by
 cases e with
 | goto l => exact .inl ⟨⟨l, rfl⟩, UY h⟩
 | exit id => exact .inr ⟨(fun _ q => by cases q), map_some h⟩
 | normal => exact .inr ⟨(fun _ q => by cases q), map_some h⟩
 | ret => exact .inr ⟨(fun _ q => by cases q), map_some h⟩
 | panic c => exact .inr ⟨(fun _ q => by cases q), map_some h⟩
 | outgrown => exact .inr ⟨(fun _ q => by cases q), map_some h⟩
theorem xT {R : Type} {S : Shp} {body : TFrm → List TO → Tree (S.σ ⊕ R)} {a : TFrm} {L : List TO} {z : R} (h : (UZ S body a L).run = some z) :
  ∃ s q n, S.dec a L = some (s, q) ∧ (∀ p ∈ q, p.1 = p.2) ∧ wx (fun s => (body ⟨a.n, a.c, S.F s⟩ (S.G s)).run) n s = some z := by
 unfold UZ at h
 obtain ⟨⟨s, q⟩, h1, h2⟩ := q9 h
 obtain ⟨h3, h4⟩ := zS h2
 obtain ⟨t, h5, h6⟩ := kg h4
 cases h6
 obtain ⟨n, hn⟩ := Wu.1 h5
 exact ⟨s, q, n, h1, h3, hn⟩
theorem UN {σ T : Type} {step : σ → Option (σ ⊕ T)} {n : Nat} {s : σ} {t : T} (h : wx step n s = some t) : ∃ m z1, n = m + 1 ∧ step s = some z1 ∧ ((∃ s', z1 = .inl s' ∧ wx step m s' = some t) ∨ z1 = .inr t) := by
 cases n with
 | zero => cases h
 | succ m =>
  unfold wx at h
  cases hs : step s with
  | none => simp only [hs] at h; cases h
  | some z1 =>
   cases z1 with
   | inl s' => simp only [hs] at h; exact ⟨m, _, rfl, rfl, .inl ⟨s', rfl, h⟩⟩
   | inr t' => simp only [hs] at h; cases h; exact ⟨m, _, rfl, rfl, .inr rfl⟩
def aaz (E : TEnv) (h0 : Heap) (W0 : Ent) (B : Base) (x : X) : Prop := ∀ {p : Nat} {R : Type} {K : TK R} {z : R} {Q : Exit → Frm → Heap → Prop} {γ : Pl} {L : List TO} {h : Heap} {a : TFrm} {fa : Frm}, (∀ e fa h, KL E.P h0 W0 B (fun a L => (K e a L).run = some z) fa h → Q e fa h) →
  HB E.P h0 W0 B γ (eL L) h → FR E.P W0 γ (eL L) h (zW a) fa → (tx E x none p R K a L).run = some z → xWp E.P x Q fa h
theorem a8P {P : Program} {S : Shp} (hS : a0l P S) {γ : Pl} {L : List TO} {h : Heap} {a : TFrm} {fa : Frm} {c : Code} {Q : Exit → Frm → Heap → Prop} (H : Hp P h0 W0 γ (eL L) h) (hf : FR P W0 γ (eL L) h (zW a) fa) {s : S.σ} {q : List (Nat × Nat)} (h1 : S.dec a L = some (s, q)) (h2 : ∀ p ∈ q, p.1 = p.2)
  (hk : ∀ γ' fa', Hp P h0 W0 γ' (eL (S.G s)) h → FR P W0 γ' (eL (S.G s)) h (zW ⟨a.n, a.c, S.F s⟩) fa' → AWp P c Q fa' h) : AWp P c Q fa h :=
 abr H hf (hS a L s q h1 h2) hk
theorem a4Z {E : TEnv} (hE : EnvOk E) (hn : ¬ B.pl) {x : X} (ih : aaz E h0 W0 B x) {p : Nat} {S : Shp} (hS : a0l E.P S) {R : Type} {K : TK R} {z : R} {Q : Exit → Frm → Heap → Prop} {γ : Pl} {L : List TO} {h : Heap} {a : TFrm} {fa : Frm} (hQ : ∀ e fa h, e ≠ .normal → KL E.P h0 W0 B (fun a L => (K e a L).run = some z) fa h → Q e fa h)
  (H : HB E.P h0 W0 B γ (eL L) h) (hf : FR E.P W0 γ (eL L) h (zW a) fa) (e : (UZ S (fun a' L => tx E x none p (S.σ ⊕ R) (ZL S a.n a.c K) a' L) a L).run = some z) : a8S E.P x Q fa h := by
 rintro c rfl
 obtain ⟨s, q, n, h1, h2, h3⟩ := xT e
 generalize hst : (fun s => ((fun a' L => tx E (xOf E.P c .nil) none p (S.σ ⊕ R) (ZL S a.n a.c K) a' L) ⟨a.n, a.c, S.F s⟩ (S.G s)).run) = step at h3
 have hst' : ∀ s, step s = (tx E (xOf E.P c .nil) none p (S.σ ⊕ R) (ZL S a.n a.c K) ⟨a.n, a.c, S.F s⟩ (S.G s)).run := fun s => by rw [← hst]
 let I : S.σ × Nat → Frm → Heap → Prop := fun y fa h => ∃ γ' a' L' q', Hp E.P h0 W0 γ' (eL L') h ∧ FR E.P W0 γ' (eL L') h (zW a') fa ∧ S.dec a' L' = some (y.1, q') ∧ (∀ p ∈ q', p.1 = p.2) ∧ a'.n = a.n ∧ a'.c = a.c ∧ wx step y.2 y.1 = some z
 refine V4 (σ := S.σ × Nat) I (fun y => y.2) (s, n) ⟨γ, a, L, q, H.hp, hf, h1, h2, rfl, rfl, h3⟩ ?_
 rintro ⟨s, n⟩ fa h ⟨γ', a', L', q', H', hf', d1, d2, e1, e2, hi⟩
 obtain ⟨m, z1, rfl, hs, hz⟩ := UN hi
 refine a8P hS H' hf' d1 d2 fun γ2 fa2 H2 hf2 => ?_
 rw [e1, e2] at hf2
 rw [hst'] at hs
 refine (jz (ih (Q := kG (fun fa h => ∃ y : S.σ × Nat, I y fa h ∧ y.2 < m + 1) Q) ?_ ⟨H2, fun q => absurd q hn⟩ hf2 hs))
 rintro e fa3 h3 ⟨a3, L3, γ3, hk, H3, hf3⟩
 rcases V1 hk with ⟨rfl, s', q2, k1, k2, rfl, k3, k4⟩ | ⟨hnn, r, k1, rfl⟩
 ·rcases hz with ⟨s2, hz1, hz2⟩ | hz
  ·cases hz1
   exact ⟨(s', m), ⟨γ3, a3, L3, q2, H3.hp, hf3, k1, k2, k3, k4, hz2⟩, Nat.lt_succ_self m⟩
  ·cases hz
 ·rcases hz with ⟨s2, hz1, hz2⟩ | hz
  ·cases hz1
  ·cases hz
   have := hQ e fa3 h3 hnn ⟨a3, L3, γ3, k1, H3, hf3⟩
   cases e <;> first | exact absurd rfl hnn | exact this
theorem a9Y {E : TEnv} {x : X} (ih : aaz E h0 W0 B x) {p : Nat} {R : Type} {K : TK R} {z : R} {Q : Exit → Frm → Heap → Prop} {γ : Pl} {L : List TO} {h : Heap} {a : TFrm} {fa : Frm} {n : Nat} (hQ : ∀ e fa h, e ≠ .normal → KL E.P h0 W0 B (fun a L => (K e a L).run = some z) fa h → Q e fa h)
  (H : HB E.P h0 W0 B γ (eL L) h) (hf : FR E.P W0 γ (eL L) h (zW a) fa) (e : (tun (fun K' a L => tx E x none p R K' a L) K n a L).run = some z) : a8S E.P x Q fa h := by
 rintro c rfl
 let I : Nat → Frm → Heap → Prop := fun m fa h => KL E.P h0 W0 B (fun a L => (tun (fun K' a L => tx E (xOf E.P c .nil) none p R K' a L) K m a L).run = some z) fa h
 refine V4 (σ := Nat) I (fun m => m) n ⟨a, L, γ, e, H, hf⟩ ?_
 rintro m fa h ⟨a', L', γ', hi, H', hf'⟩
 cases m with
 | zero => cases hi
 | succ m =>
  refine (jz (ih (Q := kG (fun fa h => ∃ y : Nat, I y fa h ∧ y < m + 1) Q) ?_ H' hf' hi))
  rintro e fa3 h3 ⟨a3, L3, γ3, hk, H3, hf3⟩
  cases e with
  | normal => exact ⟨m, ⟨a3, L3, γ3, hk, H3, hf3⟩, Nat.lt_succ_self m⟩
  | exit id => exact hQ _ fa3 h3 (by intro q; cases q) ⟨a3, L3, γ3, hk, H3, hf3⟩
  | goto l => exact hQ _ fa3 h3 (by intro q; cases q) ⟨a3, L3, γ3, hk, H3, hf3⟩
  | ret => exact hQ _ fa3 h3 (by intro q; cases q) ⟨a3, L3, γ3, hk, H3, hf3⟩
  | panic c => exact hQ _ fa3 h3 (by intro q; cases q) ⟨a3, L3, γ3, hk, H3, hf3⟩
  | outgrown => exact hQ _ fa3 h3 (by intro q; cases q) ⟨a3, L3, γ3, hk, H3, hf3⟩
def agX (E : TEnv) (h0 : Heap) (W0 : Ent) (B : Base) (x : X) : Prop := ∀ {l p : Nat} {R : Type} {K : TK R} {z : R} {Q : Exit → Frm → Heap → Prop} {γ : Pl} {L : List TO} {h : Heap} {a : TFrm} {fa : Frm}, (∀ e fa h, KL E.P h0 W0 B (fun a L => (K e a L).run = some z) fa h → Q e fa h) →
  HB E.P h0 W0 B γ (eL L) h → FR E.P W0 γ (eL L) h (zW a) fa → (tx E x (some l) p R K a L).run = some z → ∃ y, a1g l x = some y ∧ xWp E.P y Q fa h
theorem a33 {E : TEnv} (hE : EnvOk E) {labs : X} (ih : agX E h0 W0 B labs) {p : Nat} {shp : Nat → Option Shp} (hshp : ∀ l S, shp l = some S → a0l E.P S ∧ ¬ B.pl) {c : Code} (hl : yr E.P c .nil .nil = labs) :
  ∀ (f : Nat) {cur : Option Nat} {R : Type} {K : TK R} {z : R} {Q : Exit → Frm → Heap → Prop}, (∀ e fa h, (∀ l, e = .goto l → cur = some l) → KL E.P h0 W0 B (fun a L => (K e a L).run = some z) fa h → Q e fa h) →
   (∀ l rest fa h, findLabel c l = some rest → AWp E.P rest Q fa h → Q (.goto l) fa h) →
   ∀ e fa h, KL E.P h0 W0 B (fun a L => (WP shp (fun R K l a L => tx E labs (some l) p R K a L) f cur R K e a L).run = some z) fa h → Q e fa h := by
 have find : ∀ l y, a1g l labs = some y → ∃ rest, findLabel c l = some rest ∧ y = xOf E.P rest .nil := by
  subst hl
  intro l y hy
  cases hf : findLabel c l with
  | none =>
   rw [(yK E.P l c .nil .nil).2 hf] at hy
   cases hy
  | some rest =>
   rw [(yK E.P l c .nil .nil).1 rest hf] at hy
   cases hy
   exact ⟨rest, rfl, rfl⟩
 intro f
 induction f with
 | zero =>
  intro cur R K z Q hQ hgo e fa h ⟨a, L, γ, hk, H, hf⟩
  cases e with
  | goto l => cases hk
  | exit id => exact hQ _ fa h (fun l q => by cases q) ⟨a, L, γ, hk, H, hf⟩
  | normal => exact hQ _ fa h (fun l q => by cases q) ⟨a, L, γ, hk, H, hf⟩
  | ret => exact hQ _ fa h (fun l q => by cases q) ⟨a, L, γ, hk, H, hf⟩
  | panic c => exact hQ _ fa h (fun l q => by cases q) ⟨a, L, γ, hk, H, hf⟩
  | outgrown => exact hQ _ fa h (fun l q => by cases q) ⟨a, L, γ, hk, H, hf⟩
 | succ f ihf =>
  intro cur R K z Q hQ hgo e fa h ⟨a, L, γ, hk, H, hf⟩
  cases e with
  | goto l =>
   have hk' : (if cur = some l then K (.goto l) a L else match shp l with
    | none => tx E labs (some l) p R (WP shp (fun R K l a L => tx E labs (some l) p R K a L) f cur R K) a L
    | some S => UZ S (fun a' L => tx E labs (some l) p (S.σ ⊕ R) (WP shp (fun R K l a L => tx E labs (some l) p R K a L) f (some l) (S.σ ⊕ R) (tgo S a.n a.c K)) a' L) a L).run = some z := hk
   split at hk'
   ·rename_i hc
    exact hQ _ fa h (fun l' q => by cases q; exact hc) ⟨a, L, γ, hk', H, hf⟩
   ·rename_i hc
    split at hk'
    ·obtain ⟨y, hy, hw⟩ := ih (Q := Q) (fun e fa h hs => ihf hQ hgo e fa h hs) H hf hk'
     obtain ⟨rest, hr, rfl⟩ := find l y hy
     exact hgo l rest fa h hr (jz hw)
    ·rename_i S hS
     have hnb := (hshp l S hS).2
     obtain ⟨s, q, n, h1, h2, h3⟩ := xT hk'
     generalize hst : (fun s => ((fun a' L => tx E labs (some l) p (S.σ ⊕ R) (WP shp (fun R K l a L => tx E labs (some l) p R K a L) f (some l) (S.σ ⊕ R) (tgo S a.n a.c K)) a' L) ⟨a.n, a.c, S.F s⟩ (S.G s)).run) = step at h3
     have hst' : ∀ s, step s = (tx E labs (some l) p (S.σ ⊕ R) (WP shp (fun R K l a L => tx E labs (some l) p R K a L) f (some l) (S.σ ⊕ R) (tgo S a.n a.c K)) ⟨a.n, a.c, S.F s⟩ (S.G s)).run := fun s => by rw [← hst]
     have key : ∀ (n : Nat) (s : S.σ) (fa : Frm) (h : Heap) (γ' : Pl) (a' : TFrm) (L' : List TO) (q' : List (Nat × Nat)), Hp E.P h0 W0 γ' (eL L') h → FR E.P W0 γ' (eL L') h (zW a') fa → S.dec a' L' = some (s, q') → (∀ p ∈ q', p.1 = p.2) → a'.n = a.n → a'.c = a.c → wx step n s = some z → Q (.goto l) fa h := by
      intro n
      induction n with
      | zero => intro s fa h γ' a' L' q' _ _ _ _ _ _ hi; cases hi
      | succ m ihm =>
       intro s fa h γ' a' L' q' H' hf' d1 d2 e1 e2 hi
       obtain ⟨m', z1, hm, hs, hz⟩ := UN hi
       cases hm
       rw [hst'] at hs
       have e1' : (⟨a'.n, a'.c, S.F s⟩ : TFrm) = ⟨a.n, a.c, S.F s⟩ := by rw [e1, e2]
       obtain ⟨rest, hr⟩ : ∃ rest, findLabel c l = some rest := by
        obtain ⟨sel, ok, hp, hll⟩ := (hshp l S hS).1 a' L' s q' d1 d2
        obtain ⟨fl, f1, f2⟩ := XV H' ok hf' (a78 (S.F s)) hll
        obtain ⟨y, hy, _⟩ := ih (Q := fun _ _ _ => True) (fun _ _ _ _ => trivial) ⟨H'.select ok fun id b e => hp id (by rw [← hf'.cnt]; exact W0.few id b e) (H'.pin id b e).2, fun q => absurd q hnb⟩ (a := ⟨a'.n, a'.c, S.F s⟩) (fa := ⟨a'.n, fl⟩) ⟨rfl, hf'.cnt, f2⟩ (by rw [e1']; exact hs)
        obtain ⟨rest, hr, _⟩ := find l y hy
        exact ⟨rest, hr⟩
       refine hgo l rest fa h hr ?_
       refine a8P (hshp l S hS).1 H' hf' d1 d2 fun γ2 fa2 H2 hf2 => ?_
       rw [e1'] at hf2
       have hside : ∀ e fa h, KL E.P h0 W0 B (fun a' L' => (WP shp (fun R K l a L => tx E labs (some l) p R K a L) f (some l) (S.σ ⊕ R) (tgo S a.n a.c K) e a' L').run = some z1) fa h → Q e fa h := by
        intro e fa h hs'
        refine ihf (cur := some l) (K := tgo S a.n a.c K) (z := z1) (Q := Q) ?_ hgo e fa h hs'
        ·rintro e fa3 h3 hcur ⟨a3, L3, γ3, hk3, H3, hf3⟩
         rcases ade hk3 with ⟨⟨l', rfl⟩, s', q2, k1, k2, rfl, k3, k4⟩ | ⟨hn, r, k1, rfl⟩
         ·have := hcur l' rfl
          cases this
          rcases hz with ⟨s2, hz1, hz2⟩ | hz
          ·cases hz1
           exact ihm s' fa3 h3 γ3 a3 L3 q2 H3.hp hf3 k1 k2 k3 k4 hz2
          ·cases hz
         ·rcases hz with ⟨s2, hz1, hz2⟩ | hz
          ·cases hz1
          ·cases hz
           exact hQ e fa3 h3 (fun l' q => absurd q (hn l')) ⟨a3, L3, γ3, k1, H3, hf3⟩
       obtain ⟨y, hy, hw⟩ := ih (Q := Q) hside ⟨H2, fun q => absurd q hnb⟩ hf2 hs
       obtain ⟨rest', hr', rfl⟩ := find l y hy
       rw [hr] at hr'; cases hr'
       exact jz hw
     exact key n s fa h γ a L q H.hp hf h1 h2 rfl rfl h3
  | exit id => exact hQ _ fa h (fun l q => by cases q) ⟨a, L, γ, hk, H, hf⟩
  | normal => exact hQ _ fa h (fun l q => by cases q) ⟨a, L, γ, hk, H, hf⟩
  | ret => exact hQ _ fa h (fun l q => by cases q) ⟨a, L, γ, hk, H, hf⟩
  | panic c => exact hQ _ fa h (fun l q => by cases q) ⟨a, L, γ, hk, H, hf⟩
  | outgrown => exact hQ _ fa h (fun l q => by cases q) ⟨a, L, γ, hk, H, hf⟩
theorem Jf {R : Type} {P : Program} {k : TFrm → List TO → Tree R} {K : TK R} {z : R} {A : Frm → Heap → Prop} {Q : Exit → Frm → Heap → Prop} (hk : ∀ fa h, KL P h0 W0 B (fun a L => (k a L).run = some z) fa h → A fa h) (hK : ∀ e fa h, KL P h0 W0 B (fun a L => (K e a L).run = some z) fa h → Q e fa h) :
  ∀ e fa h, KL P h0 W0 B (fun a L => (vV k K e a L).run = some z) fa h → kG A Q e fa h := by
 intro e fa h hs
 cases e with
 | normal => exact hk fa h hs
 | exit id => exact hK _ fa h hs
 | goto l => exact hK _ fa h hs
 | ret => exact hK _ fa h hs
 | panic c => exact hK _ fa h hs
 | outgrown => exact hK _ fa h hs
theorem Zy {R : Type} {S : Shp} {body : TK (S.σ ⊕ R) → TFrm → List TO → Tree (S.σ ⊕ R)} {k : TFrm → List TO → Tree R} {K : TK R} {a : TFrm} {L : List TO} {z : R} (h : (a2T S body k K a L).run = some z) :
  ∃ s1, (body (ZL S a.n a.c K) a L).run = some s1 ∧ ((∃ s, s1 = .inl s ∧ (k ⟨a.n, a.c, S.F s⟩ (S.G s)).run = some z) ∨ s1 = .inr z) := by
 have h' : (KD (body (ZL S a.n a.c K) a L).run fun s => Tree.case S.σ R s (fun s => k ⟨a.n, a.c, S.F s⟩ (S.G s)) .ret).run = some z := h
 obtain ⟨s1, h1, h2⟩ := kg h'
 refine ⟨s1, h1, ?_⟩
 cases s1 with
 | inl s => exact .inl ⟨s, rfl, h2⟩
 | inr r => cases h2; exact .inr rfl
theorem JB {E : TEnv} (hE : EnvOk E) (hnb : ¬ B.pl) {R : Type} {S : Shp} (hS : ago E.P S) {n c : Nat} {k : X} {p : Nat} (ih : aaz E h0 W0 B k) {K : TK R} {z : R} {Q : Exit → Frm → Heap → Prop} {s1 : S.σ ⊕ R} (hz : (∃ s, s1 = .inl s ∧ (tx E k none p R K ⟨n, c, S.F s⟩ (S.G s)).run = some z) ∨ s1 = .inr z)
  (hQ : ∀ e fa h, KL E.P h0 W0 B (fun a L => (K e a L).run = some z) fa h → Q e fa h) : ∀ e fa h, KL E.P h0 W0 B (fun a L => (ZL S n c K e a L).run = some s1) fa h → kG (fun fa h => xWp E.P k Q fa h) Q e fa h := by
 rintro e fa h ⟨a, L, γ, hk, H, hf⟩
 rcases V1 hk with ⟨rfl, s, q, k1, k2, rfl, k3, k4⟩ | ⟨hn, r, k1, rfl⟩
 ·rcases hz with ⟨s', hs', hr⟩ | hz
  ·cases hs'
   obtain ⟨γ', H', hf'⟩ := hS a L s q k1 k2 h0 W0 γ h fa H.hp hf
   rw [k3, k4] at hf'
   exact ih hQ ⟨H', fun q => absurd q hnb⟩ hf' hr
  ·cases hz
 ·rcases hz with ⟨s', hs', hr⟩ | hz
  ·cases hs'
  ·cases hz
   have := hQ e fa h ⟨a, L, γ, k1, H, hf⟩
   cases e <;> first | exact absurd rfl hn | exact this
theorem zf {E : TEnv} (hE : EnvOk E) (hpl : B.pl → aiX E) : ∀ x : X, aaz E h0 W0 B x ∧ agX E h0 W0 B x
 | .nil => ⟨fun hQ H hf e => hQ _ _ _ ⟨_, _, _, e, H, hf⟩, fun hQ H hf e => (by cases e)⟩
 | .ret => ⟨fun hQ H hf e => hQ _ _ _ ⟨_, _, _, e, H, hf⟩, fun hQ H hf e => (by cases e)⟩
 | .exit id => ⟨fun hQ H hf e => hQ _ _ _ ⟨_, _, _, e, H, hf⟩, fun hQ H hf e => (by cases e)⟩
 | .goto l => ⟨fun hQ H hf e => hQ _ _ _ ⟨_, _, _, e, H, hf⟩, fun hQ H hf e => (by cases e)⟩
 | .bad => ⟨fun hQ H hf e => (by cases e), fun hQ H hf e => (by cases e)⟩
 | .range _ _ _ _ _ => ⟨fun hQ H hf e => (by cases e), fun hQ H hf e => (by cases e)⟩
 | .reg l k => ⟨fun {p R K z Q γ L h a fa} hQ H hf e => (by
   unfold tx at e
   split at e
   ·exact Jm (hE.call R) l (fun fa h ⟨a, L, γ, e, H, hf⟩ => (zf hE hpl k).1 hQ H hf e) H hf e
   ·rename_i S hS
    obtain ⟨s1, h1, hz⟩ := Zy e
    exact Jm (hE.call (S.σ ⊕ R)) l (fun fa h hs => JB hE (fun q => by rw [(hpl q).2] at hS; cases hS) (hE.joins _ _ hS) (zf hE hpl k).1 hz hQ .normal fa h hs) H hf h1), fun hQ H hf e => (by cases e)⟩
 | .draw l k => ⟨fun {p R K z Q γ L h a fa} hQ H hf e => (by
   unfold tx at e
   split at e
   ·exact YT (hE.call R) l (fun fa h ⟨a, L, γ, e, H, hf⟩ => (zf hE hpl k).1 hQ H hf e) H hf (fun q hq => by simp at hq) (fun q hq => by simp at hq) e
   ·rename_i S hS
    obtain ⟨s1, h1, hz⟩ := Zy e
    exact YT (hE.call (S.σ ⊕ R)) l (fun fa h hs => JB hE (fun q => by rw [(hpl q).2] at hS; cases hS) (hE.joins _ _ hS) (zf hE hpl k).1 hz hQ .normal fa h hs) H hf (fun q hq => by simp at hq) (fun q hq => by simp at hq) h1), fun hQ H hf e => (by cases e)⟩
 | .label l k => ⟨fun hQ H hf e => (zf hE hpl k).1 hQ H hf e, fun hQ H hf e => (by cases e)⟩
 | .cond c x y k => ⟨fun {p R K z Q γ L h a fa} hQ H hf e => (by
   have hT := Jf (h0 := h0) (W0 := W0) (B := B) (P := E.P) (A := fun fa h => xWp E.P k Q fa h) (fun fa h ⟨a, L, γ, e, H, hf⟩ => (zf hE hpl k).1 (p := 8 * p + 1) hQ H hf e) hQ
   unfold tx at e
   unfold xWp
   split at e
   ·rename_i b hb
    have hv : fa.ev c = some (.bool b) := by
     obtain ⟨v, e1, r⟩ := (Kx hf) c (enc (.v (.bool b))) (qN hb)
     have : v = .bool b := PR.scal (P := E.P) (S := qd W0 γ (eL L) h) (h := h) r
     subst this
     exact e1
    rw [hv]
    split at e
    ·rename_i S hS
     obtain ⟨s1, h1, hz⟩ := Zy e
     have hJ := JB hE (fun q => by rw [(hpl q).2] at hS; cases hS) (hE.joins _ _ hS) (zf hE hpl k).1 hz hQ
     have hk := a0G hf hb
     cases b
     ·exact ⟨fun q => (by cases q), fun _ => (zf hE hpl y).1 hJ H hk h1⟩
     ·exact ⟨fun _ => (zf hE hpl x).1 hJ H hk h1, fun q => (by cases q)⟩
    ·have hk := a0G hf hb
     cases b
     ·exact ⟨fun q => (by cases q), fun _ => (zf hE hpl y).1 hT H hk e⟩
     ·exact ⟨fun _ => (zf hE hpl x).1 hT H hk e, fun q => (by cases q)⟩
   ·cases e), fun hQ H hf e => (by cases e)⟩
 | .block id x k => ⟨fun {p R K z Q γ L h a fa} hQ H hf e => (by
   have hblk : ∀ {R' : Type} {K' : TK R'} {z' : R'} {Q' : Exit → Frm → Heap → Prop}, (∀ e fa h, KL E.P h0 W0 B (fun a L => (K' e a L).run = some z') fa h → Q' e fa h) → ∀ e fa h, KL E.P h0 W0 B (fun a L => (a7x id K' e a L).run = some z') fa h → jQ id Q' e fa h := by
    intro R' K' z' Q' hT e fa h ⟨a, L, γ, hk, H, hf⟩
    cases e with
    | exit id' =>
     have hk' : ((if id' = id then K' .normal a L else K' (.exit id') a L)).run = some z' := hk
     unfold jQ
     simp only
     split at hk'
     ·rename_i hc; rw [if_pos hc]; exact hT _ _ _ ⟨a, L, γ, hk', H, hf⟩
     ·rename_i hc; rw [if_neg hc]; exact hT _ _ _ ⟨a, L, γ, hk', H, hf⟩
    | normal => exact hT .normal _ _ ⟨a, L, γ, hk, H, hf⟩
    | goto l => exact hT (.goto l) _ _ ⟨a, L, γ, hk, H, hf⟩
    | ret => exact hT .ret _ _ ⟨a, L, γ, hk, H, hf⟩
    | panic c => exact hT (.panic c) _ _ ⟨a, L, γ, hk, H, hf⟩
    | outgrown => exact hT .outgrown _ _ ⟨a, L, γ, hk, H, hf⟩
   unfold tx at e
   split at e
   ·have hT := Jf (h0 := h0) (W0 := W0) (B := B) (P := E.P) (A := fun fa h => xWp E.P k Q fa h) (fun fa h ⟨a, L, γ, e, H, hf⟩ => (zf hE hpl k).1 (p := 8 * p + 1) hQ H hf e) hQ
    exact (zf hE hpl x).1 (hblk hT) H hf e
   ·rename_i S hS
    obtain ⟨s1, h1, hz⟩ := Zy e
    have hJ := JB hE (fun q => by rw [(hpl q).2] at hS; cases hS) (hE.joins _ _ hS) (zf hE hpl k).1 hz hQ
    exact (zf hE hpl x).1 (hblk hJ) H hf h1), fun hQ H hf e => (by cases e)⟩
 | .loop x k => ⟨fun {p R K z Q γ L h a fa} hQ H hf e => (by
   have hT := Jf (h0 := h0) (W0 := W0) (B := B) (P := E.P) (A := fun fa h => xWp E.P k Q fa h) (fun fa h ⟨a, L, γ, e, H, hf⟩ => (zf hE hpl k).1 (p := 8 * p + 1) hQ H hf e) hQ
   unfold tx at e
   unfold xWp
   split at e
   ·rename_i S hS
    exact a4Z hE (fun q => by rw [(hpl q).1] at hS; cases hS) (zf hE hpl x).1 (hE.loops _ _ hS) (fun e fa h _ hs => hT e fa h hs) H hf e
   ·exact a9Y (zf hE hpl x).1 (fun e fa h _ hs => hT e fa h hs) H hf e), fun hQ H hf e => (by cases e)⟩
 | .scope x labs k => ⟨fun {p R K z Q γ L h a fa} hQ H hf e => (by
   have hT := Jf (h0 := h0) (W0 := W0) (B := B) (P := E.P) (A := fun fa h => xWp E.P k Q fa h) (fun fa h ⟨a, L, γ, e, H, hf⟩ => (zf hE hpl k).1 (p := 8 * p + 1) hQ H hf e) hQ
   unfold xWp
   rintro c rfl hl
   unfold tx at e
   have hJ := a33 (h0 := h0) (W0 := W0) (B := B) (K := vV (fun a L => tx E k none (8 * p + 1) R K a L) K) (z := z) hE (zf hE hpl labs).2 (p := 8 * p + 3) (shp := fun l => E.loops (8 * (8 * p + 4) + l)) (fun l S hS => ⟨hE.loops _ _ hS, fun q => by rw [(hpl q).1] at hS; cases hS⟩) (c := c) hl 20 (cur := none) (Q := goQ E.P c (kG (fun fa h => xWp E.P k Q fa h) Q)) (fun e fa h hc hs => by
    have := hT e fa h hs
    cases e with
    | goto l => exact absurd (hc l rfl) (fun q => by cases q)
    | exit id => exact this
    | normal => exact this
    | ret => exact this
    | panic c => exact this
    | outgrown => exact this) (fun l rest fa h hr hw => ⟨rest, hr, YV hw⟩)
   exact UM (YV (jz ((zf hE hpl (xOf E.P c .nil)).1 hJ H hf e)))), fun hQ H hf e => (by cases e)⟩
 | .lcons l' y r => ⟨fun hQ H hf e => (by cases e), fun {l p R K z Q γ L h a fa} hQ H hf e => (by
   unfold tx at e
   unfold a1g
   split at e
   ·rename_i hc; rw [if_pos hc.symm]; exact ⟨y, rfl, (zf hE hpl y).1 hQ H hf e⟩
   ·rename_i hc; rw [if_neg fun q => hc q.symm]; exact (zf hE hpl r).2 hQ H hf e)⟩
end
open Go.RowKit
section
variable {R : Type} {P : Program}
theorem Y8 {a : TFrm} {L : List TO} {z : R} : ∀ {rs : List ResultVar} {K : List TV → Tree R}, (a1N P a L rs K).run = some z → ∃ ds, zN P (zW a) (eL L) rs = some (ds.map enc) ∧ (K ds).run = some z
 | [], K, e => ⟨[], rfl, e⟩
 | .tmp t :: r, K, e => by
  unfold a1N at e
  replace e := q9 e; obtain ⟨d, h1, e⟩ := e
  obtain ⟨ds, h2, e⟩ := Y8 e
  refine ⟨d :: ds, ?_, e⟩
  have : wg P (zW a) (eL L) (.tmp t) = some (enc d) := by
   show qW t (a.l.map fun p => (p.1, enc p.2)) = _
   rw [j7, h1]; rfl
  unfold zN
  rw [this, h2]; rfl
 | .cell p t :: r, K, e => by
  unfold a1N at e
  replace e := q9 e; obtain ⟨x, h1, e⟩ := e
  obtain ⟨d, h3, e⟩ := Jo e
  obtain ⟨ds, h2, e⟩ := Y8 e
  refine ⟨d :: ds, ?_, e⟩
  have : wg P (zW a) (eL L) (.cell p t) = some (enc d) := by
   have hx : qW p (zW a).l = some (enc x) := by show qW p (a.l.map fun p => (p.1, enc p.2)) = _; rw [j7, h1]; rfl
   show (match qW p (zW a).l with
    | some d => jv P (eL L) t d
    | none => none) = _
   rw [hx]
   exact h3
  unfold zN
  rw [this, h2]; rfl
theorem Zu {d : TV} (h : QL d = true) : enc d = qU d := by cases d <;> first | rfl | cases h
theorem a5x : ∀ {ds : List TV}, ds.all QL = true → ds.map enc = ds.map qU ∧ (ds.map enc).all is1 = true
 | [], _ => ⟨rfl, rfl⟩
 | d :: l, h => by
  simp only [List.all_cons, Bool.and_eq_true] at h
  obtain ⟨h1, h2⟩ := a5x h.2
  refine ⟨?_, ?_⟩
  ·rw [List.map_cons, List.map_cons, h1, Zu h.1]
  ·rw [List.map_cons, List.all_cons, h2, Zh, h.1]; rfl
theorem UO {ds : List TV} {d : TV} (h : a08 ds = some d) : ZY (ds.map enc) = some (enc d) := by
 unfold a08 at h
 split at h
 ·cases h; rfl
 ·rename_i hn
  split at h
  ·rename_i ha
   cases h
   obtain ⟨h1, h2⟩ := a5x ha
   cases ds with
   | nil => rfl
   | cons x l =>
    cases l with
    | nil => exact absurd rfl (hn x)
    | cons y m =>
     show (if ((x :: y :: m).map enc).all is1 then some (DV.tup ((x :: y :: m).map enc)) else none) = _
     rw [if_pos h2, h1]; rfl
  ·cases h
theorem xy : ∀ (k : Nat) (ds : List TV), (yM k ds).map (fun p => (p.1, enc p.2)) = jY k (ds.map enc)
 | k, [] => rfl
 | k, d :: l => by simp only [yM, List.map_cons, jY, xy (k + 1) l]
def a81 (P : Program) (f : FuncId) (n : Nat) : Bool := match P.funcs[f]? with
 | some fn => fn.body.isSome && !(fn.name == "runtime.NumGoroutine") && decide (n ≤ fn.ntmps)
 | none => false
theorem a8C {E : TEnv} (hE : EnvOk E) {f : FuncId} {ds : List TV} {A : List TO} {K : TV → List TO → Tree R} {z : R} {Q : DV → List Obj → Prop} (hfn : a81 E.P f ds.length = true) (e : (adf E f ds A K).run = some z)
  (hK : ∀ d L, (K d L).run = some z → aaE E.P A.length Q (enc d) (eL L)) : DCalls E.P f (ds.map enc) (eL A) Q := by
 unfold adf at e
 replace e := q9 e; obtain ⟨fn, hf, e⟩ := e
 unfold a81 at hfn
 rw [hf] at hfn
 simp only [Bool.and_eq_true, Bool.not_eq_true', decide_eq_true_eq] at hfn
 obtain ⟨⟨h1, h3⟩, h4⟩ := hfn
 intro W0 γ h vs hcnt H hr
 rw [zH] at hcnt
 let W1 : Ent := { W0 with cnt := A.length, few := fun id b e => Nat.lt_of_lt_of_le (W0.few id b e) hcnt }
 have H1 : Hp E.P h W1 γ (eL A) h := ⟨H.start, H.pin, H.obj, H.inj, H.dom, H.new, H.next, H.frame⟩
 cases hbd : fn.body with
 | none => rw [hbd] at h1; cases h1
 | some c =>
  have hb : Xy fn = c := by simp [Xy, hbd]
  rw [hb] at e
  have hlen : vs.length ≤ fn.ntmps := by rw [← hr.length]; simpa using h4
  refine ACalls.vw (Q := fun v h' => ∃ γ' r L', aaE E.P A.length Q r L' ∧ Hp E.P h W1 γ' L' h' ∧ DR E.P (qd W1 γ' L' h') γ' L' h' r v) (ZN hf hbd rfl rfl h3 hlen (jz ?_)) ?_
  ·have hx : aaz E h W1 ⟨False, γ, [], h⟩ (xOf E.P c .nil) := (zf (B := ⟨False, γ, [], h⟩) hE (fun q => False.elim q) _).1
   have hF : FR E.P W1 γ (eL A) h (zW ⟨fn.ntmps, A.length, yM 0 ds⟩) ⟨fn.ntmps, kw 0 vs⟩ := ⟨rfl, rfl, fun t d e => Ky 0 hr t d (by rw [← xy]; exact e)⟩
   refine hx (z := z) ?_ ⟨H1, fun q => False.elim q⟩ hF e
   rintro e fa h' ⟨a, L', γ', hq, ⟨H', _⟩, hf'⟩
   have fin : (a1N E.P a L' fn.results.toList fun ds => ql (a08 ds) fun d => K d L').run = some z → ∃ vs, za E.P fa h' fn.results.toList = some vs ∧ ∃ γ' r L', aaE E.P A.length Q r L' ∧ Hp E.P h W1 γ' L' h' ∧ DR E.P (qd W1 γ' L' h') γ' L' h' r (jW vs) := by
    intro hq
    obtain ⟨ds', e1, hq⟩ := Y8 hq
    replace hq := q9 hq; obtain ⟨d, e2, hq⟩ := hq
    obtain ⟨vs', e3, r3⟩ := Q0 H' hf' e1
    exact ⟨vs', e3, γ', _, _, hK d L' hq, H', VX r3 (UO e2)⟩
   cases e with
   | normal => exact fin hq
   | ret => exact fin hq
   | exit id => cases hq
   | goto l => cases hq
   | panic c => cases hq
   | outgrown => cases hq
  ·rintro v h' ⟨γ', r, L', ⟨sel, r', A', ok, hp, hw, hq⟩, H', hd⟩
   have hpin : ∀ id b, W1.pin id b → sel[id]? = some (some id) := fun id b e => hp id (W1.few id b e) (H'.pin id b e).2
   obtain ⟨u, hu, hd'⟩ := UB H' ok hw hd
   have H2 := H'.select ok hpin
   exact ⟨u, hu, _, r', A', hq, ⟨H2.start, H2.pin, H2.obj, H2.inj, H2.dom, H2.new, H2.next, H2.frame⟩, hd'⟩
end
open Go.RowKit
inductive VS where
 | int (k : IntKind)
 | bool
 | str
 | cst (x : Value)
 | sl (c : CT)
 | ptr (k off : Nat)
 | own (k : Nat)
 | part (k : Nat)
 | mp (k : Nat)
 | nil
 | cons (a b : VS)
 | fn (f : FuncId) (pre cap : VS)
 | agg (l : VS)
 | tup (l : VS)
inductive OS where
 | st (cells : VS)
 | li (c : CT) (e : TypeId) (loc : Bool)
 | mp (es : List (Value × FuncId))
 | dead
def SP (ta tb : Bool) (A B : Type) : Type := match ta with
 | true => B
 | false => match tb with
  | true => A
  | false => A × B
def SP.fst {ta tb : Bool} {A B : Type} (d : A) (p : SP ta tb A B) : A := match ta, tb, p with
 | true, _, _ => d
 | false, true, p => p
 | false, false, p => p.1
def SP.snd {ta tb : Bool} {A B : Type} (d : B) (p : SP ta tb A B) : B := match ta, tb, p with
 | true, _, p => p
 | false, true, _ => d
 | false, false, p => p.2
def SP.mk {ta tb : Bool} {A B : Type} (x : A) (y : B) : SP ta tb A B := match ta, tb with
 | true, _ => y
 | false, true => x
 | false, false => (x, y)
theorem SP.fst_mk {ta tb : Bool} {A B : Type} {d x : A} {y : B} (h : ta = true → x = d) : SP.fst d (SP.mk (ta := ta) (tb := tb) x y) = x := by
 cases ta
 ·cases tb <;> rfl
 ·exact (h rfl).symm
theorem SP.snd_mk {ta tb : Bool} {A B : Type} {d y : B} {x : A} (h : tb = true → y = d) : SP.snd d (SP.mk (ta := ta) (tb := tb) x y) = y := by
 cases ta
 ·cases tb
  ·rfl
  ·exact (h rfl).symm
 ·rfl
def VS.triv : VS → Bool
 | .int _ => false
 | .bool => false
 | .str => false
 | .sl _ => false
 | .cst _ => true
 | .ptr _ _ => true
 | .own _ => true
 | .part _ => false
 | .mp _ => true
 | .nil => true
 | .cons a b => a.triv && b.triv
 | .fn _ a b => a.triv && b.triv
 | .agg l => l.triv
 | .tup l => l.triv
def VS.T : VS → Type
 | .int _ => Int
 | .bool => Bool
 | .str => ByteArray
 | .sl c => List c.T
 | .cst _ => Unit
 | .ptr _ _ => Unit
 | .own _ => Unit
 | .part _ => Nat × Nat
 | .mp _ => Unit
 | .nil => Unit
 | .cons a b => SP a.triv b.triv a.T b.T
 | .fn _ a b => SP a.triv b.triv a.T b.T
 | .agg l => l.T
 | .tup l => l.T
def VS.dfl : (s : VS) → s.T
 | .int _ => (0 : Int)
 | .bool => false
 | .str => ByteArray.empty
 | .sl _ => []
 | .cst _ => ()
 | .ptr _ _ => ()
 | .own _ => ()
 | .part _ => (0, 0)
 | .mp _ => ()
 | .nil => ()
 | .cons a b => SP.mk a.dfl b.dfl
 | .fn _ a b => SP.mk a.dfl b.dfl
 | .agg l => l.dfl
 | .tup l => l.dfl
theorem a2k {ta tb : Bool} {A B : Type} {da : A} {db : B} (ha : ta = true → ∀ x : A, x = da) (hb : tb = true → ∀ x : B, x = db) (h : (ta && tb) = true) (p : SP ta tb A B) : p = SP.mk da db := by
 cases ta
 ·cases h
 ·cases tb
  ·cases h
  ·exact hb rfl p
theorem VS.triv_dfl : ∀ (s : VS), s.triv = true → ∀ x : s.T, x = s.dfl
 | .int _, h => (by cases h)
 | .bool, h => (by cases h)
 | .str, h => (by cases h)
 | .sl _, h => (by cases h)
 | .cst _, _ => fun x => rfl
 | .ptr _ _, _ => fun x => rfl
 | .own _, _ => fun x => rfl
 | .part _, h => (by cases h)
 | .mp _, _ => fun x => rfl
 | .nil, _ => fun x => rfl
 | .cons a b, h => fun x => a2k (VS.triv_dfl a) (VS.triv_dfl b) h x
 | .fn _ a b, h => fun x => a2k (VS.triv_dfl a) (VS.triv_dfl b) h x
 | .agg l, h => VS.triv_dfl l h
 | .tup l, h => VS.triv_dfl l h
def VS.ins (f len : Nat → Nat) : (s : VS) → s.T → List TV
 | .int k, n => [.v (.int k n)]
 | .bool, b => [.v (.bool b)]
 | .str, s => [.v (.string s)]
 | .sl c, xs => [.sl c xs]
 | .cst x, _ => [.v x]
 | .ptr k off, _ => [.ptr (f k) off]
 | .own k, _ => [.ref (f k) (len k)]
 | .part k, p => [.part (f k) p.1 p.2 (len k)]
 | .mp k, _ => [.mref (f k)]
 | .nil, _ => []
 | .cons a b, p => a.ins f len (SP.fst a.dfl p) ++ b.ins f len (SP.snd b.dfl p)
 | .fn g a b, p => [.fn g (a.ins f len (SP.fst a.dfl p)) (b.ins f len (SP.snd b.dfl p))]
 | .agg l, p => [.agg (l.ins f len p)]
 | .tup l, p => [.tup (l.ins f len p)]
def mpO (es : List (Value × FuncId)) : TO := .mp (es.map fun x => (x.1, .fn x.2 [] []))
def K5 : List (Value × FuncId) → List (Value × TV) → Bool
 | [], [] => true
 | x :: r, (v, .fn f [] []) :: r' => kp x.1 v && decide (x.2 = f) && K5 r r'
 | _, _ => false
def OS.triv : OS → Bool
 | .st l => l.triv
 | .li _ _ _ => false
 | .mp _ => true
 | .dead => true
def OS.T : OS → Type
 | .st l => l.T
 | .li c _ _ => List c.T
 | .mp _ => Unit
 | .dead => Unit
def OS.dfl : (o : OS) → o.T
 | .st l => l.dfl
 | .li _ _ _ => []
 | .mp _ => ()
 | .dead => ()
def OS.ins (f len : Nat → Nat) : (o : OS) → o.T → TO
 | .st l, p => .st (l.ins f len p)
 | .li c e loc, xs => .li c e loc xs
 | .mp es, _ => mpO es
 | .dead, _ => .dead
def OS.trivs : List OS → Bool
 | [] => true
 | o :: r => o.triv && OS.trivs r
def OS.Ts : List OS → Type
 | [] => Unit
 | o :: r => SP o.triv (OS.trivs r) o.T (OS.Ts r)
def OS.dfls : (os : List OS) → OS.Ts os
 | [] => ()
 | o :: r => SP.mk o.dfl (OS.dfls r)
def OS.inss (f len : Nat → Nat) : (os : List OS) → OS.Ts os → List TO
 | [], _ => []
 | o :: r, p => o.ins f len (SP.fst o.dfl p) :: OS.inss f len r (SP.snd (OS.dfls r) p)
theorem OS.triv_dfl : ∀ (o : OS), o.triv = true → ∀ x : o.T, x = o.dfl
 | .st l, h => VS.triv_dfl l h
 | .li _ _ _, h => (by cases h)
 | .mp _, _ => fun x => rfl
 | .dead, _ => fun x => rfl
theorem OS.trivs_dfl : ∀ (os : List OS), OS.trivs os = true → ∀ x : OS.Ts os, x = OS.dfls os
 | [], _ => fun x => rfl
 | o :: r, h => fun x => a2k (OS.triv_dfl o) (OS.trivs_dfl r) h x
def acq : (o : OS) → o.T → Nat
 | .li _ _ _, xs => List.length xs
 | _, _ => 0
def OS.lens : (os : List OS) → OS.Ts os → Nat → Nat
 | [], _, _ => 0
 | o :: r, p, k => match k with
  | 0 => acq o (SP.fst o.dfl p)
  | k + 1 => OS.lens r (SP.snd (OS.dfls r) p) k
structure Bd where
 b : List (Option (Option Nat))
 eqs : List (Nat × Nat)
 used : List Nat
def xF (B : Bd) (k : Nat) (x : Option Nat) : Option Bd := match B.b[k]? with
 | some none => some ⟨B.b.set k (some x), B.eqs, B.used⟩
 | some (some y) => if y = x then some B else none
 | none => none
def ad5 (P : Program) (L : List TO) (c : CT) (x : TV) (B : Bd) (m : Nat) : Option (List c.T × Bd) := match x with
 | .sl c' xs => if h : c'.eqb c = true then some (jX (CT.of_eqb h) xs, B) else none
 | .v (.slice none 0 0) => if m = 0 then none else some ([], B)
 | .slx c' xs => if 2 ≤ m then (if h : c'.eqb c = true then some (jX (CT.of_eqb h) xs, B) else none) else none
 | .ref id tot => if 2 ≤ m then (match L[id]? with
  | some (.li c' e _ xs) => if szT P e = some c.size then (if h : c'.eqb c = true then some (jX (CT.of_eqb h) xs, ⟨B.b, (xs.length, tot) :: B.eqs, id :: B.used⟩) else none) else none
  | some (.fz c' e _ xs) => if szT P e = some c.size then (if h : c'.eqb c = true then some (jX (CT.of_eqb h) xs, ⟨B.b, (xs.length, tot) :: B.eqs, id :: B.used⟩) else none) else none
  | _ => none) else none
 | .part id lo n tot => if 2 ≤ m then (match L[id]? with
  | some (.li c' e _ xs) => if szT P e = some c.size then (if h : c'.eqb c = true then some ((List.drop lo (jX (CT.of_eqb h) xs)).take n, ⟨B.b, (xs.length, tot) :: B.eqs, id :: B.used⟩) else none) else none
  | some (.fz c' e _ xs) => if szT P e = some c.size then (if h : c'.eqb c = true then some ((List.drop lo (jX (CT.of_eqb h) xs)).take n, ⟨B.b, (xs.length, tot) :: B.eqs, id :: B.used⟩) else none) else none
  | _ => none) else none
 | _ => none
def wR (P : Program) (L : List TO) (m : Nat) : (s : VS) → List TV → Bd → Option (s.T × List TV × Bd)
 | .int k, l, B => match l with
  | .v (.int k' n) :: r => if k = k' then some (n, r, B) else none
  | _ => none
 | .bool, l, B => match l with
  | .v (.bool b) :: r => some (b, r, B)
  | _ => none
 | .str, l, B => match l with
  | .v (.string s) :: r => some (s, r, B)
  | _ => none
 | .cst x, l, B => match l with
  | .v y :: r => if kp x y = true then some ((), r, B) else none
  | _ => none
 | .sl c, l, B => match l with
  | x :: r => match ad5 P L c x B m with
   | some (xs, B') => some (xs, r, B')
   | none => none
  | _ => none
 | .ptr k off, l, B => match l with
  | .ptr id off' :: r => if off = off' then (match xF B k (some id) with
   | some B' => some ((), r, B')
   | none => none) else none
  | _ => none
 | .own k, l, B => match l with
  | .ref id tot :: r => match YE L id, xF B k (some id) with
   | some n, some B' => some ((), r, ⟨B'.b, (tot, n) :: B'.eqs, B'.used⟩)
   | _, _ => none
  | .v (.slice none 0 0) :: r => if m = 0 then none else (match xF B k none with
   | some B' => some ((), r, B')
   | none => none)
  | _ => none
 | .part k, l, B => match l with
  | .part id lo n tot :: r => match YE L id, xF B k (some id) with
   | some q, some B' => some ((lo, n), r, ⟨B'.b, (tot, q) :: B'.eqs, B'.used⟩)
   | _, _ => none
  | _ => none
 | .mp k, l, B => match l with
  | .mref id :: r => if m = 0 then none else (match xF B k (some id) with
   | some B' => some ((), r, B')
   | none => none)
  | _ => none
 | .nil, l, B => some ((), l, B)
 | .cons a b, l, B => match wR P L m a l B with
  | some (x, l', B') => match wR P L m b l' B' with
   | some (y, l'', B'') => some (SP.mk x y, l'', B'')
   | none => none
  | none => none
 | .fn g a b, l, B => match l with
  | .fn g' pre cap :: r => if g = g' ∧ pre.all Y4 = true ∧ cap.all Y4 = true then (match wR P L 0 a pre B with
   | some (x, [], B') => match wR P L 0 b cap B' with
    | some (y, [], B'') => some (SP.mk x y, r, B'')
    | _ => none
   | _ => none) else none
  | _ => none
 | .agg _, _, _ => none
 | .tup _, _, _ => none
def Ub (P : Program) (L : List TO) (m : Nat) : (s : VS) → List TV → Bd → Option (s.T × List TV × Bd)
 | .agg s, l, B => match l with
  | .agg xs :: r => match wR P L m s xs B with
   | some (x, [], B') => some (x, r, B')
   | _ => none
  | _ => none
 | .cons a b, l, B => match Ub P L m a l B with
  | some (x, l', B') => match Ub P L m b l' B' with
   | some (y, l'', B'') => some (SP.mk x y, l'', B'')
   | none => none
  | none => none
 | s, l, B => wR P L m s l B
def a5Z (P : Program) (L : List TO) (m : Nat) : (s : VS) → List TV → Bd → Option (s.T × List TV × Bd)
 | .tup s, l, B => match l with
  | .tup xs :: r => match Ub P L m s xs B with
   | some (x, [], B') => some (x, r, B')
   | _ => none
  | _ => none
 | .cons a b, l, B => match a5Z P L m a l B with
  | some (x, l', B') => match a5Z P L m b l' B' with
   | some (y, l'', B'') => some (SP.mk x y, l'', B'')
   | none => none
  | none => none
 | s, l, B => Ub P L m s l B
def a5g (P : Program) (L : List TO) (m : Nat) : (o : OS) → Option (Option (Option Nat)) → Bd → Option (o.T × Bd)
 | .st s, x, B => match x with
  | some (some (some id)) => match L[id]? with
   | some (.st cells) => match wR P L m s cells B with
    | some (x, [], B') => some (x, B')
    | _ => none
   | _ => none
  | _ => none
 | .li c e loc, x, B => match x with
  | some (some (some id)) => match L[id]? with
   | some (.li c' e' loc' xs) => if e' = e ∧ loc' = loc then (if h : c'.eqb c = true then some (jX (CT.of_eqb h) xs, B) else none) else none
   | _ => none
  | some (some none) => if loc = false ∧ m ≠ 0 then some (([] : List c.T), B) else none
  | _ => none
 | .mp es, x, B => match x with
  | some (some (some id)) => match L[id]? with
   | some (.mp es') => if m ≠ 0 ∧ K5 es es' = true then some ((), B) else none
   | _ => none
  | _ => none
 | .dead, _, _ => none
def U3 (P : Program) (L : List TO) (m : Nat) : (os : List OS) → Nat → Bd → Option (OS.Ts os × Bd)
 | [], _, B => some ((), B)
 | o :: r, k, B => match a5g P L m o B.b[k]? B with
  | some (x, B') => match U3 P L m r (k + 1) B' with
   | some (y, B'') => some (SP.mk x y, B'')
   | none => none
  | none => none
def XA : List (Option (Option Nat)) → Option Sel
 | [] => some []
 | x :: r => match x, XA r with
  | some y, some ys => some (y :: ys)
  | _, _ => none
def XW : List Nat → Bool
 | [] => true
 | x :: r => !(r.contains x) && XW r
def ae1 : Option TO → Bool
 | some (.st _) => true
 | _ => false
def a1V (c : Nat) (L : List TO) (sel : Sel) : Bool := (List.range c).all fun id => !ae1 L[id]? || sel[id]? == some (some id)
def agE (c : Nat) (L : List TO) (B : Bd) : Option Sel := match XA B.b with
 | some sel => if XW (sel.filterMap id) && B.used.all (fun i => !(sel.contains (some i))) && a1V c L sel then some sel else none
 | none => none
def bd0 (c n : Nat) : Bd := ⟨(List.range n).map fun k => if k < c then some (some k) else none, [], []⟩
def bd1 (c : Nat) (L : List TO) (n : Nat) : Bd := ⟨(List.range n).map fun k => if k < c ∧ ae1 L[k]? = true then some (some k) else none, [], []⟩
open Go.RowKit
def Bd.le (B B' : Bd) : Prop := (∀ (k : Nat) (x : Option Nat), B.b[k]? = some (some x) → B'.b[k]? = some (some x)) ∧ (∀ p ∈ B.eqs, p ∈ B'.eqs) ∧ (∀ i ∈ B.used, i ∈ B'.used) ∧ B'.b.length = B.b.length
theorem Bd.le_refl (B : Bd) : B.le B := ⟨fun _ _ h => h, fun _ h => h, fun _ h => h, rfl⟩
theorem Bd.le_trans {B B' B'' : Bd} (h : B.le B') (h' : B'.le B'') : B.le B'' := ⟨fun k x e => h'.1 k x (h.1 k x e), fun p e => h'.2.1 p (h.2.1 p e), fun i e => h'.2.2.1 i (h.2.2.1 i e), h'.2.2.2.trans h.2.2.2⟩
structure WellB (L : List TO) (sel : Sel) (len : Nat → Nat) (B : Bd) : Prop where
 at' : ∀ (k : Nat) (x : Option Nat), B.b[k]? = some (some x) → sel[k]? = some x
 eqs : ∀ p ∈ B.eqs, p.1 = p.2
 used : ∀ i ∈ B.used, some i ∉ sel
 ln : ∀ k id n, sel[k]? = some (some id) → YE L id = some n → len k = n
 no : ∀ k, sel[k]? = some none → len k = 0
theorem WellB.le {L : List TO} {sel : Sel} {len : Nat → Nat} {B B' : Bd} (h : B.le B') (g : WellB L sel len B') : WellB L sel len B := ⟨fun k x e => g.at' k x (h.1 k x e), fun p e => g.eqs p (h.2.1 p e), fun i e => g.used i (h.2.2.1 i e), g.ln, g.no⟩
theorem J4 {B B' : Bd} {k : Nat} {x : Option Nat} (h : xF B k x = some B') : B.le B' ∧ B'.b[k]? = some (some x) ∧ B'.eqs = B.eqs ∧ B'.used = B.used := by
 unfold xF at h
 split at h
 ·rename_i hk
  cases h
  have hlt : k < B.b.length := (List.getElem?_eq_some_iff.1 hk).1
  refine ⟨⟨fun j y e => ?_, fun _ e => e, fun _ e => e, by simp⟩, List.getElem?_set_self hlt, rfl, rfl⟩
  have hne : k ≠ j := fun q => by rw [← q, hk] at e; cases e
  show (B.b.set k (some x))[j]? = _
  rw [List.getElem?_set_ne hne]; exact e
 ·rename_i y hk
  split at h
  ·rename_i hy
   cases h
   subst hy
   exact ⟨Bd.le_refl _, hk, rfl, rfl⟩
  ·cases h
 ·cases h
def rC (P : Program) (L : List TO) (sel : Sel) (m : Nat) (d' d : TV) : Prop := isC d' = true ∧ isC d = true ∧ match m with
 | 0 => yW sel (qr d') = some (qr d)
 | 1 => unX sel (qr d') (qr d)
 | _ => wkC P (eL L) sel (qr d') (qr d)
section
variable {P : Program} {L : List TO} {sel : Sel} {len : Nat → Nat} {m : Nat}
theorem ZB {d' d : DV} (e : kU sel d' = some d) : unB sel d' = some d := by
 cases d' with
 | ref id lo n tot =>
  unfold kU at e
  unfold unB
  simp only at e ⊢
  split at e
  ·rename_i k hk; simp only [hk]; exact e
  ·cases e
 | cx => cases e
 | mref => cases e
 | _ => exact e
theorem a24 : ∀ {ds' ds : List DV}, kB sel ds' = some ds → Kl sel ds' = some ds
 | [], _, e => e
 | d :: l, _, e => by
  unfold kB at e
  cases h1 : kU sel d with
  | none => simp only [h1] at e; cases e
  | some x =>
   cases h2 : kB sel l with
   | none => simp only [h1, h2] at e; cases e
   | some y =>
    simp only [h1, h2] at e
    unfold Kl
    rw [ZB h1, a24 h2]
    exact e
theorem aic {d' d : DV} (e : yW sel d' = some d) : unC sel d' = some d := by
 cases d' with
 | fn f a b =>
  unfold yW at e
  unfold unC
  cases h1 : kB sel a with
  | none => simp only [h1] at e; cases e
  | some x =>
   cases h2 : kB sel b with
   | none => simp only [h1, h2] at e; cases e
   | some y =>
    simp only [h1, h2] at e
    simp only [a24 h1, a24 h2]
    exact e
 | p x => exact ZB (sel := sel) (d' := .p x) e
 | ptr x y => exact ZB (sel := sel) (d' := .ptr x y) e
 | ep x y z w => exact ZB (sel := sel) (d' := .ep x y z w) e
 | dp x y => exact ZB (sel := sel) (d' := .dp x y) e
 | ref x y z w => exact ZB (sel := sel) (d' := .ref x y z w) e
 | aref x y z => exact ZB (sel := sel) (d' := .aref x y z) e
 | cx x y => cases e
 | mref x => cases e
 | agg x => exact ZB (sel := sel) (d' := .agg x) e
 | tup x => exact ZB (sel := sel) (d' := .tup x) e
theorem a5y {d' d : TV} (h1 : isC d' = true) (h2 : isC d = true) (hs : ∀ c xs, d' ≠ .sl c xs) (e : yW sel (qr d') = some (qr d)) : rC P L sel m d' d := by
 refine ⟨h1, h2, ?_⟩
 have hx : unX sel (qr d') (qr d) := by
  unfold unX
  split
  ·rename_i z rows h3 h4
   cases d' <;> first | (cases h3; done) | exact absurd rfl (hs _ _) | cases h1
  ·exact aic e
 have hw : wkC P (eL L) sel (qr d') (qr d) := by
  unfold wkC
  split
  ·rename_i z rows id lo n tot h3 h4
   cases d' <;> first | (cases h3; done) | exact absurd rfl (hs _ _) | cases h1
  ·rename_i h3 h4
   cases d' <;> first | (cases h3; done) | exact absurd rfl (hs _ _) | cases h1
  ·exact hx
 split
 ·exact e
 ·exact hx
 ·exact hw
theorem afD (x : Value) : rC P L sel m (.v x) (.v x) := a5y rfl rfl (fun _ _ h => by cases h) rfl
theorem aiU (c : CT) (xs : List c.T) : rC P L sel m (.sl c xs) (.sl c xs) := by
 refine ⟨rfl, rfl, ?_⟩
 split
 ·rfl
 ·show unX sel (.p (.sl _ _)) (.p (.sl _ _))
  rw [ahW]; exact ⟨rfl, rfl⟩
 ·show wkC P (eL L) sel (.p (.sl _ _)) (.p (.sl _ _))
  rw [ahY]; exact ⟨rfl, rfl⟩
theorem ahA (c : CT) (h : m ≠ 0) : rC P L sel m (.sl c []) (.v (.slice none 0 0)) := by
 refine ⟨rfl, rfl, ?_⟩
 split
 ·exact absurd rfl h
 ·exact (rfl : _ = _)
 ·exact (rfl : _ = _)
theorem ac2 {c : CT} {id lo n tot : Nat} {xs : List c.T} {e : TypeId} {loc : Bool} {o : TO} {d : TV} (hd : qr d = .ref id lo n tot) (hc : isC d = true) (hm : 2 ≤ m) (hL : L[id]? = some o) (ho : o = .li c e loc xs ∨ o = .fz c e loc xs) (hz : szT P e = some c.size) (ht : xs.length = tot) (hn : some id ∉ sel) :
  rC P L sel m (.sl c ((xs.drop lo).take n)) d := by
 refine ⟨rfl, hc, ?_⟩
 have hw : wkC P (eL L) sel (qr (.sl c ((xs.drop lo).take n))) (qr d) := by
  rw [hd]
  show wkC P (eL L) sel (.p (.sl _ _)) (.ref id lo n tot)
  rw [agw]
  refine ⟨hn, ?_⟩
  rcases ho with rfl | rfl
  ·exact ⟨_, Qk hL ht, by rw [List.map_take, List.map_drop], by rw [z7 hL]; exact xI hz⟩
  ·exact ⟨_, yu hL ht, by rw [List.map_take, List.map_drop], by rw [z7 hL]; exact xI hz⟩
 split
 ·omega
 ·omega
 ·exact hw
theorem a2N {c : CT} {x : TV} {B B' : Bd} {xs : List c.T} (h : ad5 P L c x B m = some (xs, B')) : B.le B' ∧ (WellB L sel len B' → rC P L sel m (.sl c xs) x) := by
 unfold ad5 at h
 split at h
 ·rename_i c' ys
  split at h
  ·rename_i hc
   have := CT.of_eqb hc
   subst this
   cases h
   exact ⟨Bd.le_refl _, fun _ => aiU _ _⟩
  ·cases h
 ·split at h
  ·cases h
  ·rename_i hm; cases h; exact ⟨Bd.le_refl _, fun _ => ahA _ hm⟩
 ·rename_i c' ys
  split at h
  ·rename_i hm
   split at h
   ·rename_i hc
    have := CT.of_eqb hc
    subst this
    cases h
    refine ⟨Bd.le_refl _, fun _ => ⟨rfl, rfl, ?_⟩⟩
    split
    ·omega
    ·omega
    ·exact ⟨rfl, rfl⟩
   ·cases h
  ·cases h
 ·rename_i id tot
  have fin : ∀ {c' : CT} {e : TypeId} {loc : Bool} {ys : List c'.T} {o : TO}, L[id]? = some o → (o = .li c' e loc ys ∨ o = .fz c' e loc ys) → 2 ≤ m →
    (if szT P e = some c.size then (if h : c'.eqb c = true then some (jX (CT.of_eqb h) ys, (⟨B.b, (ys.length, tot) :: B.eqs, id :: B.used⟩ : Bd)) else none) else none) = some (xs, B') → B.le B' ∧ (WellB L sel len B' → rC P L sel m (.sl c xs) (.ref id tot)) := by
   intro c' e loc ys o hL ho hm h
   split at h
   ·rename_i hz
    split at h
    ·rename_i hc
     have := CT.of_eqb hc
     subst this
     cases h
     refine ⟨⟨fun _ _ e => e, fun _ e => List.mem_cons_of_mem _ e, fun _ e => List.mem_cons_of_mem _ e, rfl⟩, fun g => ?_⟩
     have ht := g.eqs _ List.mem_cons_self
     have hn := g.used _ List.mem_cons_self
     have := ac2 (sel := sel) (m := m) (d := .ref id tot) (lo := 0) (n := tot) rfl rfl hm hL ho hz ht hn
     rw [List.drop_zero, List.take_of_length_le (Nat.le_of_eq ht)] at this
     exact this
    ·cases h
   ·cases h
  split at h
  ·rename_i hm
   split at h
   ·rename_i hL; exact fin hL (.inl rfl) hm h
   ·rename_i hL; exact fin hL (.inr rfl) hm h
   ·cases h
  ·cases h
 ·rename_i id lo n tot
  have fin : ∀ {c' : CT} {e : TypeId} {loc : Bool} {ys : List c'.T} {o : TO}, L[id]? = some o → (o = .li c' e loc ys ∨ o = .fz c' e loc ys) → 2 ≤ m →
    (if szT P e = some c.size then (if h : c'.eqb c = true then some ((List.drop lo (jX (CT.of_eqb h) ys)).take n, (⟨B.b, (ys.length, tot) :: B.eqs, id :: B.used⟩ : Bd)) else none) else none) = some (xs, B') → B.le B' ∧ (WellB L sel len B' → rC P L sel m (.sl c xs) (.part id lo n tot)) := by
   intro c' e loc ys o hL ho hm h
   split at h
   ·rename_i hz
    split at h
    ·rename_i hc
     have := CT.of_eqb hc
     subst this
     cases h
     refine ⟨⟨fun _ _ e => e, fun _ e => List.mem_cons_of_mem _ e, fun _ e => List.mem_cons_of_mem _ e, rfl⟩, fun g => ?_⟩
     have ht := g.eqs _ List.mem_cons_self
     have hn := g.used _ List.mem_cons_self
     exact ac2 (sel := sel) (m := m) (d := .part id lo n tot) (lo := lo) (n := n) rfl rfl hm hL ho hz ht hn
    ·cases h
   ·cases h
  split at h
  ·rename_i hm
   split at h
   ·rename_i hL; exact fin hL (.inl rfl) hm h
   ·rename_i hL; exact fin hL (.inr rfl) hm h
   ·cases h
  ·cases h
 ·cases h
theorem xC : ∀ {l' l : List TV}, l.all Y4 = true → All2 (rC P L sel 0) l' l → kB sel (l'.map zF) = some (l.map zF)
 | [], _, _, .nil => rfl
 | d' :: l', d :: l, hb, .cons h t => by
  simp only [List.all_cons, Bool.and_eq_true] at hb
  have ht := xC hb.2 t
  have hk : qr d = zF d := by cases d <;> first | rfl | cases hb.1
  have h3 : yW sel (qr d') = some (zF d) := by rw [← hk]; exact h.2.2
  have hx : kU sel (zF d') = some (zF d) := by
   cases d' with
   | fn g a b =>
    exfalso
    have h4 : (match kB sel (a.map zF), kB sel (b.map zF) with
     | some a, some b => some (DV.fn g a b)
     | _, _ => none) = some (zF d) := h3
    split at h4
    ·cases d <;> first | (cases h4; done) | cases hb.1
    ·cases h4
   | agg xs => cases h.1
   | tup xs => cases h.1
   | v x => exact h3
   | sl c xs => exact h3
   | ptr x y => exact h3
   | ep x y z w => exact h3
   | dp c x y => exact h3
   | ref x y => exact h3
   | part x y z w => exact h3
   | aref x y z => exact h3
   | slx x y => exact h3
   | mref x => exact h3
  simp only [List.map_cons, kB, hx, ht]
theorem kz : ∀ (m : Nat) (s : VS) {l r : List TV} {B B' : Bd} {p : s.T}, wR P L m s l B = some (p, r, B') → B.le B' ∧ (WellB L sel len B' → ∃ l0, l = l0 ++ r ∧ All2 (rC P L sel m) (s.ins id len p) l0)
 | m, .int k, l, r, B, B', p, h => by
  simp only [wR] at h
  split at h
  ·split at h
   ·rename_i hk; cases h; subst hk; exact ⟨Bd.le_refl _, fun _ => ⟨[_], rfl, .cons (afD _) .nil⟩⟩
   ·cases h
  ·cases h
 | m, .bool, l, r, B, B', p, h => by
  simp only [wR] at h
  split at h
  ·cases h; exact ⟨Bd.le_refl _, fun _ => ⟨[_], rfl, .cons (afD _) .nil⟩⟩
  ·cases h
 | m, .str, l, r, B, B', p, h => by
  simp only [wR] at h
  split at h
  ·cases h; exact ⟨Bd.le_refl _, fun _ => ⟨[_], rfl, .cons (afD _) .nil⟩⟩
  ·cases h
 | m, .cst x, l, r, B, B', p, h => by
  simp only [wR] at h
  split at h
  ·split at h
   ·rename_i hv
    cases h
    have := kx _ _ hv
    subst this
    exact ⟨Bd.le_refl _, fun _ => ⟨[_], rfl, .cons (afD _) .nil⟩⟩
   ·cases h
  ·cases h
 | m, .sl c, l, r, B, B', p, h => by
  simp only [wR] at h
  split at h
  ·split at h
   ·rename_i hd
    cases h
    obtain ⟨h1, h2⟩ := a2N (sel := sel) (len := len) hd
    exact ⟨h1, fun g => ⟨[_], rfl, .cons (h2 g) .nil⟩⟩
   ·cases h
  ·cases h
 | m, .ptr k off, l, r, B, B', p, h => by
  simp only [wR] at h
  split at h
  ·split at h
   ·rename_i ho
    split at h
    ·rename_i hb
     cases h
     subst ho
     obtain ⟨h1, h2, _, _⟩ := J4 hb
     refine ⟨h1, fun g => ⟨[_], rfl, .cons (a5y rfl rfl (fun _ _ q => by cases q) ?_) .nil⟩⟩
     have hs := g.at' _ _ h2
     show kU sel (.ptr k off) = _
     unfold kU unB
     simp only [hs]
     rfl
    ·cases h
   ·cases h
  ·cases h
 | m, .own k, l, r, B, B', p, h => by
  simp only [wR] at h
  split at h
  ·split at h
   ·rename_i n B1 hn hb
    cases h
    obtain ⟨h1, h2, h3, h4⟩ := J4 hb
    refine ⟨⟨h1.1, fun p hp => List.mem_cons_of_mem _ (h1.2.1 p hp), h1.2.2.1, h1.2.2.2⟩, fun g => ⟨[_], rfl, .cons (a5y rfl rfl (fun _ _ q => by cases q) ?_) .nil⟩⟩
    have hs := g.at' _ _ h2
    have ht := g.eqs _ List.mem_cons_self
    have hl := g.ln _ _ _ hs hn
    simp only at ht
    show kU sel (.ref k 0 (len k) (len k)) = some (.ref _ 0 _ _)
    unfold kU
    simp only [hs, hl, ht]
   ·cases h
  ·split at h
   ·cases h
   ·rename_i hm
    split at h
    ·rename_i hb
     cases h
     obtain ⟨h1, h2, _, _⟩ := J4 hb
     refine ⟨h1, fun g => ⟨[_], rfl, .cons ⟨rfl, rfl, ?_⟩ .nil⟩⟩
     have hs := g.at' _ _ h2
     have hl := g.no _ hs
     have hu : unC sel (.ref k 0 (len k) (len k)) = some (.p (.v (.slice none 0 0))) := by
      show unB sel (.ref k 0 (len k) (len k)) = _
      unfold unB
      simp only [hs, hl, and_self, if_true]
     split
     ·exact absurd rfl hm
     ·exact hu
     ·exact hu
    ·cases h
  ·cases h
 | m, .part k, l, r, B, B', p, h => by
  simp only [wR] at h
  split at h
  ·split at h
   ·rename_i n B1 hn hb
    cases h
    obtain ⟨h1, h2, h3, h4⟩ := J4 hb
    refine ⟨⟨h1.1, fun p hp => List.mem_cons_of_mem _ (h1.2.1 p hp), h1.2.2.1, h1.2.2.2⟩, fun g => ⟨[_], rfl, .cons (a5y rfl rfl (fun _ _ q => by cases q) ?_) .nil⟩⟩
    have hs := g.at' _ _ h2
    have ht := g.eqs _ List.mem_cons_self
    have hl := g.ln _ _ _ hs hn
    simp only at ht
    show kU sel (.ref k _ _ (len k)) = some (.ref _ _ _ _)
    unfold kU
    simp only [hs, hl, ht]
   ·cases h
  ·cases h
 | m, .mp k, l, r, B, B', p, h => by
  simp only [wR] at h
  split at h
  ·rename_i i0 r0
   split at h
   ·cases h
   ·rename_i hm
    split at h
    ·rename_i hb
     cases h
     obtain ⟨h1, h2, _, _⟩ := J4 hb
     refine ⟨h1, fun g => ⟨[_], rfl, .cons ⟨rfl, rfl, ?_⟩ .nil⟩⟩
     have hs := g.at' _ _ h2
     have hu : unC sel (.mref k) = some (.mref i0) := by
      show unB sel (.mref k) = _
      unfold unB
      simp only [hs]
     split
     ·exact absurd rfl hm
     ·exact hu
     ·exact hu
    ·cases h
  ·cases h
 | m, .nil, l, r, B, B', p, h => by
  simp only [wR] at h
  cases h
  exact ⟨Bd.le_refl _, fun _ => ⟨[], rfl, .nil⟩⟩
 | m, .cons a b, l, r, B, B', p, h => by
  simp only [wR] at h
  split at h
  ·rename_i x l' B1 h1
   split at h
   ·rename_i y l'' B2 h2
    cases h
    obtain ⟨a1, a2⟩ := kz m a h1
    obtain ⟨b1, b2⟩ := kz m b h2
    refine ⟨Bd.le_trans a1 b1, fun g => ?_⟩
    obtain ⟨m1, rfl, q1⟩ := a2 (g.le b1)
    obtain ⟨m2, rfl, q2⟩ := b2 g
    refine ⟨m1 ++ m2, by simp, ?_⟩
    show All2 _ (a.ins id len (SP.fst a.dfl (SP.mk x y)) ++ b.ins id len (SP.snd b.dfl (SP.mk x y))) _
    rw [SP.fst_mk fun q => VS.triv_dfl a q x, SP.snd_mk fun q => VS.triv_dfl b q y]
    exact q1.append q2
   ·cases h
  ·cases h
 | m, .fn g a b, l, r, B, B', p, h => by
  simp only [wR] at h
  split at h
  ·rename_i g' pre cap r'
   split at h
   ·rename_i hc
    split at h
    ·rename_i x B1 h1
     split at h
     ·rename_i y B2 h2
      cases h
      obtain ⟨rfl, hp, hq⟩ := hc
      obtain ⟨a1, a2⟩ := kz 0 a h1
      obtain ⟨b1, b2⟩ := kz 0 b h2
      refine ⟨Bd.le_trans a1 b1, fun gd => ?_⟩
      obtain ⟨m1, hm1, q1⟩ := a2 (gd.le b1)
      obtain ⟨m2, hm2, q2⟩ := b2 gd
      rw [List.append_nil] at hm1 hm2
      subst hm1 hm2
      refine ⟨[_], rfl, .cons (a5y rfl rfl (fun _ _ q => by cases q) ?_) .nil⟩
      show yW sel (.fn g ((a.ins id len (SP.fst a.dfl (SP.mk x y))).map zF) ((b.ins id len (SP.snd b.dfl (SP.mk x y))).map zF)) = _
      rw [SP.fst_mk fun q => VS.triv_dfl a q x, SP.snd_mk fun q => VS.triv_dfl b q y]
      unfold yW
      simp only [xC hp q1, xC hq q2]
      rfl
     ·cases h
    ·cases h
   ·cases h
  ·cases h
 | m, .agg _, l, r, B, B', p, h => by simp only [wR] at h; cases h
 | m, .tup _, l, r, B, B', p, h => by simp only [wR] at h; cases h
end
open Go.RowKit
section
variable {P : Program} {L : List TO} {sel : Sel} {len : Nat → Nat}
def r1 (P : Program) (L : List TO) (sel : Sel) (m : Nat) (d' d : TV) : Prop := rC P L sel m d' d ∨ ∃ xs' xs, d' = .agg xs' ∧ d = .agg xs ∧ All2 (rC P L sel m) xs' xs
def rD (P : Program) (L : List TO) (sel : Sel) (m : Nat) (d' d : TV) : Prop := r1 P L sel m d' d ∨ ∃ xs' xs, d' = .tup xs' ∧ d = .tup xs ∧ All2 (r1 P L sel m) xs' xs
theorem WA : ∀ (m : Nat) (s : VS) {l r : List TV} {B B' : Bd} {p : s.T}, Ub P L m s l B = some (p, r, B') → B.le B' ∧ (WellB L sel len B' → ∃ l0, l = l0 ++ r ∧ All2 (r1 P L sel m) (s.ins id len p) l0) := by
 intro m s
 have base : ∀ (s : VS) {l r : List TV} {B B' : Bd} {p : s.T}, wR P L m s l B = some (p, r, B') → B.le B' ∧ (WellB L sel len B' → ∃ l0, l = l0 ++ r ∧ All2 (r1 P L sel m) (s.ins id len p) l0) := by
  intro s l r B B' p h
  obtain ⟨h1, h2⟩ := kz (sel := sel) (len := len) m s h
  refine ⟨h1, fun g => ?_⟩
  obtain ⟨l0, e, q⟩ := h2 g
  exact ⟨l0, e, q.mono fun _ _ => .inl⟩
 induction s with
 | agg s _ =>
  intro l r B B' p h
  simp only [Ub] at h
  split at h
  ·rename_i xs r'
   split at h
   ·rename_i x B1 h1
    cases h
    obtain ⟨a1, a2⟩ := kz (sel := sel) (len := len) m s h1
    refine ⟨a1, fun g => ?_⟩
    obtain ⟨l0, e, q⟩ := a2 g
    rw [List.append_nil] at e
    subst e
    exact ⟨[_], rfl, .cons (.inr ⟨_, _, rfl, rfl, q⟩) .nil⟩
   ·cases h
  ·cases h
 | cons a b iha ihb =>
  intro l r B B' p h
  simp only [Ub] at h
  split at h
  ·rename_i x l' B1 h1
   split at h
   ·rename_i y l'' B2 h2
    cases h
    obtain ⟨a1, a2⟩ := iha h1
    obtain ⟨b1, b2⟩ := ihb h2
    refine ⟨Bd.le_trans a1 b1, fun g => ?_⟩
    obtain ⟨m1, rfl, q1⟩ := a2 (g.le b1)
    obtain ⟨m2, rfl, q2⟩ := b2 g
    refine ⟨m1 ++ m2, by simp, ?_⟩
    show All2 _ (a.ins id len (SP.fst a.dfl (SP.mk x y)) ++ b.ins id len (SP.snd b.dfl (SP.mk x y))) _
    rw [SP.fst_mk fun q => VS.triv_dfl a q x, SP.snd_mk fun q => VS.triv_dfl b q y]
    exact q1.append q2
   ·cases h
  ·cases h
 | _ => intro l r B B' p h; exact base _ h
theorem a6O : ∀ (m : Nat) (s : VS) {l r : List TV} {B B' : Bd} {p : s.T}, a5Z P L m s l B = some (p, r, B') → B.le B' ∧ (WellB L sel len B' → ∃ l0, l = l0 ++ r ∧ All2 (rD P L sel m) (s.ins id len p) l0) := by
 intro m s
 have base : ∀ (s : VS) {l r : List TV} {B B' : Bd} {p : s.T}, Ub P L m s l B = some (p, r, B') → B.le B' ∧ (WellB L sel len B' → ∃ l0, l = l0 ++ r ∧ All2 (rD P L sel m) (s.ins id len p) l0) := by
  intro s l r B B' p h
  obtain ⟨h1, h2⟩ := WA (sel := sel) (len := len) m s h
  refine ⟨h1, fun g => ?_⟩
  obtain ⟨l0, e, q⟩ := h2 g
  exact ⟨l0, e, q.mono fun _ _ => .inl⟩
 induction s with
 | tup s _ =>
  intro l r B B' p h
  simp only [a5Z] at h
  split at h
  ·rename_i xs r'
   split at h
   ·rename_i x B1 h1
    cases h
    obtain ⟨a1, a2⟩ := WA (sel := sel) (len := len) m s h1
    refine ⟨a1, fun g => ?_⟩
    obtain ⟨l0, e, q⟩ := a2 g
    rw [List.append_nil] at e
    subst e
    exact ⟨[_], rfl, .cons (.inr ⟨_, _, rfl, rfl, q⟩) .nil⟩
   ·cases h
  ·cases h
 | cons a b iha ihb =>
  intro l r B B' p h
  simp only [a5Z] at h
  split at h
  ·rename_i x l' B1 h1
   split at h
   ·rename_i y l'' B2 h2
    cases h
    obtain ⟨a1, a2⟩ := iha h1
    obtain ⟨b1, b2⟩ := ihb h2
    refine ⟨Bd.le_trans a1 b1, fun g => ?_⟩
    obtain ⟨m1, rfl, q1⟩ := a2 (g.le b1)
    obtain ⟨m2, rfl, q2⟩ := b2 g
    refine ⟨m1 ++ m2, by simp, ?_⟩
    show All2 _ (a.ins id len (SP.fst a.dfl (SP.mk x y)) ++ b.ins id len (SP.snd b.dfl (SP.mk x y))) _
    rw [SP.fst_mk fun q => VS.triv_dfl a q x, SP.snd_mk fun q => VS.triv_dfl b q y]
    exact q1.append q2
   ·cases h
  ·cases h
 | _ => intro l r B B' p h; exact base _ h
theorem xU (sel : Sel) : ∀ {es : List (Value × FuncId)} {es' : List (Value × TV)}, K5 es es' = true → All2 (fun a b => a.1 = b.1 ∧ un1 sel a.2 = some b.2) ((es.map fun x => ((x.1, .fn x.2 [] []) : Value × TV)).map fun x => (x.1, qU x.2)) (es'.map fun x => (x.1, qU x.2))
 | [], [], _ => .nil
 | x :: r, (v, .fn f [] []) :: r', h => by
  simp only [K5, Bool.and_eq_true, decide_eq_true_eq] at h
  obtain ⟨⟨h1, h2⟩, h3⟩ := h
  have := kx _ _ h1
  subst this h2
  exact .cons ⟨rfl, rfl⟩ (xU sel h3)
 | x :: r, [], h => by cases h
 | [], y :: r', h => by cases h
 | x :: r, (v, .fn f (_ :: _) _) :: r', h => by simp [K5] at h
 | x :: r, (v, .fn f [] (_ :: _)) :: r', h => by simp [K5] at h
 | x :: r, (v, .v _) :: r', h => by simp [K5] at h
 | x :: r, (v, .sl _ _) :: r', h => by simp [K5] at h
 | x :: r, (v, .ptr _ _) :: r', h => by simp [K5] at h
 | x :: r, (v, .ep _ _ _ _) :: r', h => by simp [K5] at h
 | x :: r, (v, .dp _ _ _) :: r', h => by simp [K5] at h
 | x :: r, (v, .ref _ _) :: r', h => by simp [K5] at h
 | x :: r, (v, .part _ _ _ _) :: r', h => by simp [K5] at h
 | x :: r, (v, .aref _ _ _) :: r', h => by simp [K5] at h
 | x :: r, (v, .slx _ _) :: r', h => by simp [K5] at h
 | x :: r, (v, .mref _) :: r', h => by simp [K5] at h
 | x :: r, (v, .agg _) :: r', h => by simp [K5] at h
 | x :: r, (v, .tup _) :: r', h => by simp [K5] at h
def oOk (L : List TO) (sel : Sel) (m : Nat) (s : Option Nat) (o' : TO) : Prop := match s with
 | some id => ∃ o, L[id]? = some o ∧ match m with
  | 0 => Wi sel (kh o') (kh o)
  | _ => unO sel (kh o') (kh o)
 | none => m ≠ 0 ∧ kh o' = .li none []
theorem adr {m : Nat} (hm : m = 0 ∨ m = 1) : ∀ {l' l : List TV}, All2 (rC P L sel m) l' l → match m with
  | 0 => yQ sel (l'.map qr) = some (l.map qr)
  | _ => All2 (unX sel) (l'.map qr) (l.map qr)
 | [], _, .nil => by rcases hm with rfl | rfl; exact rfl; exact .nil
 | d' :: l', d :: l, .cons h t => by
  have ht := adr hm t
  rcases hm with rfl | rfl
  ·simp only at ht ⊢
   simp only [List.map_cons, yQ, ht, show yW sel (qr d') = some (qr d) from h.2.2]
  ·exact .cons h.2.2 ht
theorem Wk {m : Nat} (hm : m = 0 ∨ m = 1) : ∀ (os : List OS) {k : Nat} {B B' : Bd} {y : OS.Ts os}, U3 P L m os k B = some (y, B') → B.le B' ∧
  (∀ (i : Nat), i < os.length → ∃ x, B'.b[k + i]? = some (some x) ∧ (∀ id n, x = some id → YE L id = some n → OS.lens os y i = n) ∧ (x = none → OS.lens os y i = 0)) ∧
  (∀ (f : Nat → Nat), WellB L sel f B' → ∀ (i : Nat) (o' : TO), (OS.inss id f os y)[i]? = some o' → ∃ s, sel[k + i]? = some s ∧ oOk L sel m s o')
 | [], k, B, B', y, h => by
  simp only [U3] at h
  cases h
  exact ⟨Bd.le_refl _, fun i hi => (by simp at hi), fun f g i o' e => (by simp [OS.inss] at e)⟩
 | o :: r, k, B, B', y, h => by
  simp only [U3] at h
  split at h
  ·rename_i x B1 h1
   split at h
   ·rename_i y' B2 h2
    cases h
    obtain ⟨b1, b2, b3⟩ := Wk hm r h2
    have hfst : SP.fst o.dfl (SP.mk (ta := o.triv) (tb := OS.trivs r) x y') = x := SP.fst_mk fun q => OS.triv_dfl o q x
    have hsnd : SP.snd (OS.dfls r) (SP.mk (ta := o.triv) (tb := OS.trivs r) x y') = y' := SP.snd_mk fun q => OS.trivs_dfl r q y'
    have key : B.le B1 ∧ (∃ s, B1.b[k]? = some (some s) ∧ (∀ id n, s = some id → YE L id = some n → acq o x = n) ∧ (s = none → acq o x = 0)) ∧ (∀ (f : Nat → Nat), WellB L sel f B1 → ∃ s, sel[k]? = some s ∧ oOk L sel m s (o.ins id f x)) := by
     cases o with
     | st s =>
      simp only [a5g] at h1
      split at h1
      ·rename_i id0 hb
       split at h1
       ·rename_i cells hL
        split at h1
        ·rename_i x0 B0 hd
         cases h1
         obtain ⟨a1, a2⟩ := kz (sel := sel) m s (len := fun _ => 0) hd
         refine ⟨a1, ⟨some id0, a1.1 _ _ hb, fun id n e ht => ?_, fun e => by cases e⟩, fun f g => ?_⟩
         ·cases e
          unfold YE at ht
          rw [hL] at ht
          cases ht
         ·obtain ⟨a3, a4⟩ := kz (sel := sel) m s (len := f) hd
          obtain ⟨l0, e, q⟩ := a4 g
          rw [List.append_nil] at e
          subst e
          refine ⟨some id0, g.at' _ _ (a1.1 _ _ hb), _, hL, ?_⟩
          have hu := adr hm q
          rcases hm with rfl | rfl
          ·exact hu
          ·show unO sel (.st _) (.st _)
           rw [ahf]; exact hu
        ·cases h1
       ·cases h1
      ·cases h1
     | li c e loc =>
      simp only [a5g] at h1
      split at h1
      ·rename_i id0 hb
       split at h1
       ·rename_i c' e' loc' xs hL
        split at h1
        ·rename_i hc
         split at h1
         ·rename_i hcc
          cases h1
          obtain ⟨rfl, rfl⟩ := hc
          have := CT.of_eqb hcc
          subst this
          refine ⟨Bd.le_refl _, ⟨some id0, hb, fun id n e ht => ?_, fun e => by cases e⟩, fun f g => ⟨some id0, g.at' _ _ hb, _, hL, ?_⟩⟩
          ·cases e
           unfold YE at ht
           rw [hL] at ht
           cases ht
           rfl
          ·rcases hm with rfl | rfl
           ·exact ⟨rfl, rfl⟩
           ·show unO sel (.li _ _) (.li _ _)
            rw [aho]; exact ⟨rfl, .inl rfl⟩
         ·cases h1
        ·cases h1
       ·cases h1
      ·rename_i hb
       split at h1
       ·rename_i hc
        cases h1
        obtain ⟨rfl, hm0⟩ := hc
        exact ⟨Bd.le_refl _, ⟨none, hb, fun id n e => (by cases e), fun _ => rfl⟩, fun f g => ⟨none, g.at' _ _ hb, hm0, rfl⟩⟩
       ·cases h1
      ·cases h1
     | mp es =>
      simp only [a5g] at h1
      split at h1
      ·rename_i id0 hb
       split at h1
       ·rename_i es' hL
        split at h1
        ·rename_i hc
         cases h1
         refine ⟨Bd.le_refl _, ⟨some id0, hb, fun id n e ht => ?_, fun e => by cases e⟩, fun f g => ⟨some id0, g.at' _ _ hb, _, hL, ?_⟩⟩
         ·cases e
          unfold YE at ht
          rw [hL] at ht
          cases ht
         ·rcases hm with rfl | rfl
          ·exact absurd rfl hc.1
          ·exact xU sel hc.2
        ·cases h1
       ·cases h1
      ·cases h1
     | dead =>
      simp only [a5g] at h1
      cases h1
    obtain ⟨k1, ⟨s, k2, k3, k4⟩, k5⟩ := key
    refine ⟨Bd.le_trans k1 b1, fun i hi => ?_, fun f g i o' e => ?_⟩
    ·cases i with
     | zero =>
      refine ⟨s, b1.1 _ _ k2, ?_, ?_⟩
      ·intro id n e ht
       show acq o (SP.fst o.dfl (SP.mk x y')) = n
       rw [hfst]; exact k3 id n e ht
      ·intro e
       show acq o (SP.fst o.dfl (SP.mk x y')) = 0
       rw [hfst]; exact k4 e
     | succ i =>
      obtain ⟨s', c1, c2, c3⟩ := b2 i (by simpa using hi)
      refine ⟨s', by rw [show k + (i + 1) = k + 1 + i by omega]; exact c1, fun id n e ht => ?_, fun e => ?_⟩
      ·show OS.lens r (SP.snd (OS.dfls r) (SP.mk x y')) i = n
       rw [hsnd]; exact c2 id n e ht
      ·show OS.lens r (SP.snd (OS.dfls r) (SP.mk x y')) i = 0
       rw [hsnd]; exact c3 e
    ·have e' : (o.ins id f (SP.fst o.dfl (SP.mk x y')) :: OS.inss id f r (SP.snd (OS.dfls r) (SP.mk x y')))[i]? = some o' := e
     rw [hfst, hsnd] at e'
     cases i with
     | zero =>
      rw [List.getElem?_cons_zero] at e'
      cases e'
      exact k5 f (g.le b1)
     | succ i =>
      rw [List.getElem?_cons_succ] at e'
      obtain ⟨s', c1, c2⟩ := b3 f g i o' e'
      exact ⟨s', by rw [show k + (i + 1) = k + 1 + i by omega]; exact c1, c2⟩
   ·cases h
  ·cases h
theorem YU : ∀ {b : List (Option (Option Nat))} {sel : Sel}, XA b = some sel → sel.length = b.length ∧ ∀ (k : Nat) (x : Option Nat), b[k]? = some (some x) ↔ sel[k]? = some x
 | [], sel, h => by cases h; exact ⟨rfl, fun k x => by simp⟩
 | y :: b, sel, h => by
  unfold XA at h
  split at h
  ·rename_i z zs h1
   cases h
   obtain ⟨a1, a2⟩ := YU h1
   refine ⟨by simp [a1], fun k x => ?_⟩
   cases k with
   | zero => simp
   | succ k => simpa using a2 k x
  ·cases h
theorem ZC : ∀ {l : List Nat}, XW l = true → l.Nodup
 | [], _ => List.nodup_nil
 | x :: r, h => by
  simp only [XW, Bool.and_eq_true, Bool.not_eq_true'] at h
  exact List.nodup_cons.2 ⟨by simpa using h.1, ZC h.2⟩
theorem a9Z {c : Nat} {L : List TO} {B : Bd} {sel : Sel} (h : agE c L B = some sel) : XA B.b = some sel ∧ (sel.filterMap id).Nodup ∧ (∀ i ∈ B.used, some i ∉ sel) ∧ a1V c L sel = true := by
 unfold agE at h
 split at h
 ·rename_i s hs
  split at h
  ·rename_i hc
   cases h
   simp only [Bool.and_eq_true, List.all_eq_true, Bool.not_eq_true'] at hc
   exact ⟨hs, ZC hc.1.1, fun i hi => by simpa using hc.1.2 i hi, hc.2⟩
  ·cases h
 ·cases h
theorem a9n (c n : Nat) : (bd0 c n).b.length = n := by simp [bd0]
theorem age (c : Nat) (L : List TO) (n : Nat) : (bd1 c L n).b.length = n := by simp [bd1]
theorem acZ (L : List TO) (id : Nat) : ahE (eL L)[id]? = ae1 L[id]? := by
 cases h : L[id]? with
 | none => rw [show (eL L)[id]? = none by simp [eL, h]]; rfl
 | some o => rw [z7 h]; cases o <;> rfl
theorem a68 {c : Nat} {L : List TO} {sel : Sel} (h : a1V c L sel = true) : vZ c (eL L) sel = true := by
 unfold vZ
 unfold a1V at h
 simp only [acZ]
 exact h
theorem yU (f g : Nat → Nat) : ∀ (os : List OS) (y : OS.Ts os), (OS.inss f g os y).length = os.length
 | [], _ => rfl
 | o :: r, y => by simp only [OS.inss, List.length_cons, yU f g r]
theorem found {c m m' : Nat} (hm : m = 0 ∨ m = 1) {vs : VS} {os : List OS} {vals : List TV} {p : vs.T} {y : OS.Ts os} {B0 B B' : Bd} (h0 : B0.b.length = os.length) (h1 : a5Z P L m' vs vals B0 = some (p, [], B)) (h2 : U3 P L m os 0 B = some (y, B')) (h3 : agE c L B' = some sel) (h4 : ∀ q ∈ B'.eqs, q.1 = q.2) :
  All2 (rD P L sel m') (vs.ins id (OS.lens os y) p) vals ∧ All2 (oOk L sel m) sel (OS.inss id (OS.lens os y) os y) ∧ (sel.filterMap id).Nodup ∧ vZ c (eL L) sel = true := by
 obtain ⟨s1, s2, s3, s4⟩ := a9Z h3
 obtain ⟨s5, s6⟩ := YU s1
 obtain ⟨a1, a2⟩ := a6O (sel := sel) (len := OS.lens os y) m' vs h1
 obtain ⟨b1, b2, b3⟩ := Wk (sel := sel) hm os h2
 have hlen : B'.b.length = os.length := by rw [b1.2.2.2, a1.2.2.2, h0]
 have ok : WellB L sel (OS.lens os y) B' := by
  refine ⟨fun k x e => (s6 k x).1 e, h4, s3, fun k id n e ht => ?_, fun k e => ?_⟩
  ·have hk : k < os.length := by rw [← hlen, ← s5]; exact (List.getElem?_eq_some_iff.1 e).1
   obtain ⟨x, c1, c2, c3⟩ := b2 k hk
   rw [Nat.zero_add] at c1
   have := (s6 k x).1 c1
   rw [e] at this; cases this
   exact c2 id n rfl ht
  ·have hk : k < os.length := by rw [← hlen, ← s5]; exact (List.getElem?_eq_some_iff.1 e).1
   obtain ⟨x, c1, c2, c3⟩ := b2 k hk
   rw [Nat.zero_add] at c1
   have := (s6 k x).1 c1
   rw [e] at this; cases this
   exact c3 rfl
 refine ⟨?_, ?_, s2, a68 s4⟩
 ·obtain ⟨l0, e, q⟩ := a2 (ok.le b1)
  rw [List.append_nil] at e
  subst e
  exact q
 ·refine All2.of_get (by rw [yU, s5, hlen]) fun i s o' e1 e2 => ?_
  obtain ⟨s', c1, c2⟩ := b3 _ ok i o' e2
  rw [Nat.zero_add, e1] at c1
  cases c1
  exact c2
theorem aep : ∀ {l' l : List TV}, All2 (rC P L sel 2) l' l → All2 (wkC P (eL L) sel) (l'.map qr) (l.map qr)
 | _, _, .nil => .nil
 | _, _, .cons h t => .cons h.2.2 (aep t)
theorem J5 {xs : List TV} : isC (.agg xs) ≠ true ∧ isC (.tup xs) ≠ true := ⟨fun h => (by cases h), fun h => (by cases h)⟩
theorem a0e {d : TV} (h : isC d = true) : QL d = true := by
 cases d <;> first | rfl | exact absurd h J5.1 | exact absurd h J5.2
theorem QZ {d : TV} (h : isC d = true) : qU d = qr d := by
 cases d <;> first | rfl | exact absurd h J5.1 | exact absurd h J5.2
theorem ac1 {d' d : DV} (hn : ∀ xs, d' ≠ .agg xs) (h : wkC P (eL L) sel d' d) : wk1 P (eL L) sel d' d := by
 unfold wk1
 split
 ·exact absurd rfl (hn _)
 ·exact h
theorem Yo {d : TV} (h : isC d = true) : (∀ xs, qr d ≠ .agg xs) ∧ (∀ xs, qr d ≠ .tup xs) := by
 cases d <;> first | exact absurd h J5.1 | exact absurd h J5.2 | exact ⟨fun _ q => (by cases q), fun _ q => (by cases q)⟩
theorem agU {d' d : TV} (h : r1 P L sel 2 d' d) : wk1 P (eL L) sel (qU d') (qU d) := by
 rcases h with h | ⟨xs', xs, rfl, rfl, h⟩
 ·rw [QZ h.1, QZ h.2.1]
  exact ac1 (Yo h.1).1 h.2.2
 ·exact aep h
theorem aew : ∀ {l' l : List TV}, All2 (r1 P L sel 2) l' l → All2 (wk1 P (eL L) sel) (l'.map qU) (l.map qU)
 | _, _, .nil => .nil
 | _, _, .cons h t => .cons (agU h) (aew t)
theorem agV {d' d : TV} (h : rD P L sel 2 d' d) : wkD P (eL L) sel (enc d') (enc d) := by
 rcases h with h | ⟨xs', xs, rfl, rfl, h⟩
 ·have hk := agU h
  have h1 : QL d' = true ∧ QL d = true := by
   rcases h with h | ⟨xs', xs, rfl, rfl, _⟩
   ·exact ⟨a0e h.1, a0e h.2.1⟩
   ·exact ⟨rfl, rfl⟩
  rw [Zu h1.1, Zu h1.2]
  unfold wkD
  split
  ·rename_i q1 q2 q3
   cases d' <;> first | (cases q2; done) | cases h1.1 | (rename_i q4; cases q4)
  ·exact hk
 ·exact aew h
end
open Go.RowKit
def yv (a : TFrm) : List Nat → Option (List TV)
 | [] => some []
 | k :: r => match Qx k a.l, yv a r with
  | some d, some ds => some (d :: ds)
  | _, _ => none
def ShT (vs : VS) (os : List OS) : Type := SP vs.triv (OS.trivs os) vs.T (OS.Ts os)
def ShT.v {vs : VS} {os : List OS} (s : ShT vs os) : vs.T := SP.fst vs.dfl s
def ShT.o {vs : VS} {os : List OS} (s : ShT vs os) : OS.Ts os := SP.snd (OS.dfls os) s
def ShT.mk {vs : VS} {os : List OS} (x : vs.T) (y : OS.Ts os) : ShT vs os := SP.mk x y
theorem ShT.v_mk {vs : VS} {os : List OS} (x : vs.T) (y : OS.Ts os) : (ShT.mk x y : ShT vs os).v = x := SP.fst_mk fun q => VS.triv_dfl vs q x
theorem ShT.o_mk {vs : VS} {os : List OS} (x : vs.T) (y : OS.Ts os) : (ShT.mk x y : ShT vs os).o = y := SP.snd_mk fun q => OS.trivs_dfl os q y
def ShT.vals {vs : VS} {os : List OS} (s : ShT vs os) : List TV := vs.ins id (OS.lens os s.o) s.v
def ShT.objs {vs : VS} {os : List OS} (s : ShT vs os) : List TO := OS.inss id (OS.lens os s.o) os s.o
def a2r (P : Program) (c m m' : Nat) (vs : VS) (os : List OS) (vals : List TV) (L : List TO) (B0 : Bd) : Option (ShT vs os × List (Nat × Nat)) :=
 match a5Z P L m' vs vals B0 with
 | some (x, [], B) => match U3 P L m os 0 B with
  | some (y, B') => match agE c L B' with
   | some _ => some (ShT.mk x y, B'.eqs)
   | none => none
  | none => none
 | _ => none
def Y6 (P : Program) (c m m' : Nat) (vs : VS) (os : List OS) (vals : List TV) (L : List TO) : Option (ShT vs os × List (Nat × Nat)) :=
 match a2r P c m m' vs os vals L (bd0 c os.length) with
 | some r => some r
 | none => a2r P c m m' vs os vals L (bd1 c L os.length)
def agT (P : Program) (c : Nat) (keys : List Nat) (vs : VS) (os : List OS) : Shp where
 σ := ShT vs os
 F s := keys.zip s.vals
 G s := s.objs
 dec a L := if a.c = c then (match yv a keys with
  | some vals => Y6 P c 1 2 vs os vals L
  | none => none) else none
theorem UV {P : Program} {c m m' : Nat} (hm : m = 0 ∨ m = 1) {vs : VS} {os : List OS} {vals : List TV} {L : List TO} {s : ShT vs os} {q : List (Nat × Nat)} {B0 : Bd} (h0 : B0.b.length = os.length) (h : a2r P c m m' vs os vals L B0 = some (s, q)) (hq : ∀ p ∈ q, p.1 = p.2) :
  ∃ sel, All2 (rD P L sel m') s.vals vals ∧ All2 (oOk L sel m) sel s.objs ∧ (sel.filterMap id).Nodup ∧ vZ c (eL L) sel = true := by
 unfold a2r at h
 split at h
 ·rename_i x B h1
  split at h
  ·rename_i y B' h2
   split at h
   ·rename_i sel h3
    cases h
    obtain ⟨a, b, c', d⟩ := found hm h0 h1 h2 h3 hq
    refine ⟨sel, ?_, ?_, c', d⟩
    ·unfold ShT.vals; rw [ShT.v_mk, ShT.o_mk]; exact a
    ·unfold ShT.objs; rw [ShT.o_mk]; exact b
   ·cases h
  ·cases h
 ·cases h
theorem XK {P : Program} {c m m' : Nat} (hm : m = 0 ∨ m = 1) {vs : VS} {os : List OS} {vals : List TV} {L : List TO} {s : ShT vs os} {q : List (Nat × Nat)} (h : Y6 P c m m' vs os vals L = some (s, q)) (hq : ∀ p ∈ q, p.1 = p.2) :
  ∃ sel, All2 (rD P L sel m') s.vals vals ∧ All2 (oOk L sel m) sel s.objs ∧ (sel.filterMap id).Nodup ∧ vZ c (eL L) sel = true := by
 unfold Y6 at h
 split at h
 ·rename_i r hr
  cases h
  exact UV hm (a9n _ _) hr hq
 ·exact UV hm (age _ _ _) h hq
theorem VI {L : List TO} {sel : Sel} : ∀ {sl : List (Option Nat)} {os : List TO}, All2 (oOk L sel 1) sl os → All2 (a9V (eL L) sel) sl (eL os)
 | _, _, .nil => .nil
 | _, _, .cons (a := s) h t => by
  refine .cons ?_ (VI t)
  cases s with
  | none => exact h.2
  | some id =>
   obtain ⟨o, h1, h2⟩ := h
   unfold a9V
   simp only [z7 h1]
   exact h2
theorem acK {P : Program} {L : List TO} {sel : Sel} {a : TFrm} : ∀ {keys : List Nat} {vals l' : List TV}, yv a keys = some vals → All2 (rD P L sel 2) l' vals → wkL P (eL L) sel (zW a).l (a78 (keys.zip l'))
 | [], _, _, h, ha => by simp [a78, wkL]
 | k :: r, vals, l', h, ha => by
  unfold yv at h
  split at h
  ·rename_i d ds h1 h2
   cases h
   cases ha with
   | cons hd t =>
    rename_i d' l'
    have hk : qW k (zW a).l = some (enc d) := by
     show qW k (a.l.map fun p => (p.1, enc p.2)) = _
     rw [j7, h1]; rfl
    refine ⟨?_, acK h2 t⟩
    simp only [hk]
    exact agV hd
  ·cases h
theorem abK (P : Program) (c : Nat) (keys : List Nat) (vs : VS) (os : List OS) : a0l P (agT P c keys vs os) := by
 intro a L s q h hq
 have h' : (if a.c = c then (match yv a keys with
  | some vals => Y6 P c 1 2 vs os vals L
  | none => none) else none) = some (s, q) := h
 split at h'
 ·rename_i hc
  split at h'
  ·rename_i vals hv
   obtain ⟨sel, h1, h2, h3, h4⟩ := XK (.inr rfl) h' hq
   exact aao (n := a.n) (c := a.c) (l := (zW a).l) sel (VI h2) h3 (by rw [hc]; exact h4) (acK hv h1)
  ·cases h'
 ·cases h'
def ain (P : Program) (c : Nat) (keys : List Nat) (vs : VS) (os : List OS) : Shp where
 σ := ShT vs os
 F s := keys.zip s.vals
 G s := s.objs
 dec a L := if a.c = c then (match yv a keys with
  | some vals => Y6 P c 1 1 vs os vals L
  | none => none) else none
section
variable {P : Program} {L : List TO} {sel : Sel} {γ : Pl} {h : Heap} {h0 : Heap} {W0 : Ent} {L' : List TO}
theorem adn (H : Hp P h0 W0 γ (eL L) h) (ok : SelOk (eL L) sel (eL L')) {d' d : TV} {v : Value} (e : rC P L sel 1 d' d) (hd : DC P (qd W0 γ (eL L) h) γ (eL L) h (qr d) v) : DC P (qd W0 (qQ γ sel) (eL L') h) (qQ γ sel) (eL L') h (qr d') v := a7I H ok e.2.2 hd
theorem a9c (H : Hp P h0 W0 γ (eL L) h) (ok : SelOk (eL L) sel (eL L')) : ∀ {l' l : List TV} {vs : List Value}, All2 (rC P L sel 1) l' l → All2 (DC P (qd W0 γ (eL L) h) γ (eL L) h) (l.map qr) vs → All2 (DC P (qd W0 (qQ γ sel) (eL L') h) (qQ γ sel) (eL L') h) (l'.map qr) vs
 | _, _, _, .nil, .nil => .nil
 | _, _, _, .cons e t, .cons hd t' => .cons (adn H ok e hd) (a9c H ok t t')
theorem agM {S : Nat → Prop} {M : List Obj} {x : TV} {v : Value} (hc : isC x = true) : D1 P S γ M h (qU x) v ↔ DC P S γ M h (qr x) v := by
 rw [QZ hc]
 cases x <;> first | exact Iff.rfl | exact absurd hc J5.1 | exact absurd hc J5.2
theorem aef (H : Hp P h0 W0 γ (eL L) h) (ok : SelOk (eL L) sel (eL L')) {d' d : TV} {v : Value} (e : r1 P L sel 1 d' d) (hd : D1 P (qd W0 γ (eL L) h) γ (eL L) h (qU d) v) : D1 P (qd W0 (qQ γ sel) (eL L') h) (qQ γ sel) (eL L') h (qU d') v := by
 rcases e with e | ⟨xs', xs, rfl, rfl, e⟩
 ·exact (agM e.1).2 (adn H ok e ((agM e.2.1).1 hd))
 ·obtain ⟨vs, rfl, hv⟩ := hd
  exact ⟨vs, rfl, a9c H ok e hv⟩
theorem a9p (H : Hp P h0 W0 γ (eL L) h) (ok : SelOk (eL L) sel (eL L')) : ∀ {l' l : List TV} {vs : List Value}, All2 (r1 P L sel 1) l' l → All2 (D1 P (qd W0 γ (eL L) h) γ (eL L) h) (l.map qU) vs → All2 (D1 P (qd W0 (qQ γ sel) (eL L') h) (qQ γ sel) (eL L') h) (l'.map qU) vs
 | _, _, _, .nil, .nil => .nil
 | _, _, _, .cons e t, .cons hd t' => .cons (aef H ok e hd) (a9p H ok t t')
theorem agP {S : Nat → Prop} {M : List Obj} {x : TV} {v : Value} (hc : QL x = true) : DR P S γ M h (enc x) v ↔ D1 P S γ M h (qU x) v := by
 rw [Zu hc]
 have h1 := Zh x
 rw [hc, Zu hc] at h1
 exact ⟨fun q => wn q h1, fun q => jl q⟩
theorem aim {m : Nat} {d' d : TV} (e : r1 P L sel m d' d) : QL d' = true ∧ QL d = true := by
 rcases e with e | ⟨xs', xs, rfl, rfl, _⟩
 ·exact ⟨a0e e.1, a0e e.2.1⟩
 ·exact ⟨rfl, rfl⟩
theorem aha (H : Hp P h0 W0 γ (eL L) h) (ok : SelOk (eL L) sel (eL L')) {d' d : TV} {v : Value} (e : rD P L sel 1 d' d) (hd : DR P (qd W0 γ (eL L) h) γ (eL L) h (enc d) v) : DR P (qd W0 (qQ γ sel) (eL L') h) (qQ γ sel) (eL L') h (enc d') v := by
 rcases e with e | ⟨xs', xs, rfl, rfl, e⟩
 ·obtain ⟨i1, i2⟩ := aim e
  exact (agP i1).2 (aef H ok e ((agP i2).1 hd))
 ·obtain ⟨vs, rfl, hv⟩ := hd
  exact ⟨vs, rfl, a9p H ok e hv⟩
theorem a4x (H : Hp P h0 W0 γ (eL L) h) (ok : SelOk (eL L) sel (eL L')) {a : TFrm} {fa : Frm} (hf : FR P W0 γ (eL L) h (zW a) fa) : ∀ {keys : List Nat} {vals l' : List TV}, yv a keys = some vals → All2 (rD P L sel 1) l' vals →
  ∀ t d, qW t (a78 (keys.zip l')) = some d → ∃ v, fa.get t = some v ∧ DR P (qd W0 (qQ γ sel) (eL L') h) (qQ γ sel) (eL L') h d v
 | [], _, _, _, _, t, d, e => by simp [a78, qW] at e
 | k :: r, vals, l', hg, ha, t, d, e => by
  unfold yv at hg
  split at hg
  ·rename_i d0 ds h1 h2
   cases hg
   cases ha with
   | cons hd tl =>
    rename_i d' l'
    have e' : (if k = t then some (enc d') else qW t (a78 (r.zip l'))) = some d := e
    split at e'
    ·rename_i hk
     cases e'
     subst hk
     obtain ⟨v, e1, r1⟩ := hf.slots k (enc d0) (by show qW k (a.l.map fun p => (p.1, enc p.2)) = _; rw [j7, h1]; rfl)
     exact ⟨v, e1, aha H ok hd r1⟩
    ·exact a4x H ok hf h2 tl t d e'
  ·cases hg
end
theorem afd (P : Program) (c : Nat) (keys : List Nat) (vs : VS) (os : List OS) : ago P (ain P c keys vs os) := by
 intro a L s q h hq h0 W0 γ hh fa H hf
 have h' : (if a.c = c then (match yv a keys with
  | some vals => Y6 P c 1 1 vs os vals L
  | none => none) else none) = some (s, q) := h
 split at h'
 ·rename_i hc
  split at h'
  ·rename_i vals hv
   obtain ⟨sel, h1, h2, h3, h4⟩ := XK (.inr rfl) h' hq
   have ok : SelOk (eL L) sel (eL s.objs) := SelOk.of (VI h2) h3
   refine ⟨qQ γ sel, H.select ok fun id b e => ?_, hf.n, hf.cnt, a4x H ok hf hv h1⟩
   have hid : id < c := by have := W0.few id b e; rw [hf.cnt] at this; rw [← hc]; exact this
   exact xH h4 id hid (H.pin id b e).2
  ·cases h'
 ·cases h'
abbrev RSh := VS × List OS
def RSh.T (r : RSh) : Type := ShT r.1 r.2
def RT : List RSh → Type
 | [] => Empty
 | r :: rs => match rs with
  | [] => r.T
  | _ :: _ => r.T ⊕ RT rs
def RQ1 (r : RSh) (x : r.T) (d : DV) (A : List Obj) : Prop := ∃ v, ShT.vals x = [v] ∧ d = enc v ∧ A = eL (ShT.objs x)
def RQ : (rs : List RSh) → RT rs → DV → List Obj → Prop
 | [], _ => fun _ _ => False
 | [r], x => RQ1 r x
 | r :: s :: t, x => match x with
  | .inl y => RQ1 r y
  | .inr y => RQ (s :: t) y
def afT (P : Program) (c : Nat) (d : TV) (L : List TO) : (rs : List RSh) → Option (RT rs × List (Nat × Nat))
 | [] => none
 | [r] => Y6 P c 1 2 r.1 r.2 [d] L
 | r :: s :: t => match Y6 P c 1 2 r.1 r.2 [d] L with
  | some (x, q) => some (.inl x, q)
  | none => match afT P c d L (s :: t) with
   | some (y, q) => some (.inr y, q)
   | none => none
theorem a91 {P : Program} {c : Nat} {d : TV} {L : List TO} {r : RSh} {x : ShT r.1 r.2} {q : List (Nat × Nat)} (h : Y6 P c 1 2 r.1 r.2 [d] L = some (x, q)) (hq : ∀ p ∈ q, p.1 = p.2) : aaE P c (RQ1 r x) (enc d) (eL L) := by
 obtain ⟨sel, h1, h2, h3, h4⟩ := XK (.inr rfl) h hq
 generalize hv : ShT.vals x = vals at h1
 cases h1 with
 | cons hd t =>
  cases t
  rename_i v
  exact afE sel (enc v) (eL (ShT.objs x)) (VI h2) h3 h4 (agV hd) ⟨v, hv, rfl, rfl⟩
theorem xo {P : Program} {c : Nat} {d : TV} {L : List TO} : ∀ {rs : List RSh} {x : RT rs} {q : List (Nat × Nat)}, afT P c d L rs = some (x, q) → (∀ p ∈ q, p.1 = p.2) → aaE P c (RQ rs x) (enc d) (eL L)
 | [], x, q, h, hq => by cases h
 | [r], x, q, h, hq => a91 h hq
 | r :: s :: t, x, q, h, hq => by
  unfold afT at h
  split at h
  ·rename_i y q' h1
   cases h
   exact a91 h1 hq
  ·split at h
   ·rename_i y q' h1
    cases h
    exact xo (rs := s :: t) h1 hq
   ·cases h
def aij (P : Program) (c : Nat) (rs : List RSh) : TV → List TO → Tree (RT rs) := fun d L => ql (afT P c d L rs) fun p => chk p.2 (.ret p.1)
structure TEnt where
 f : FuncId
 av : VS
 os : List OS
 rs : List RSh
 m : ShT av os → Option (RT rs)
def qK (P : Program) (e : TEnt) : Prop := ∀ p x, e.m p = some x → DCalls P e.f (p.vals.map enc) (eL p.objs) (RQ e.rs x)
def uv (E : TEnv) (f : FuncId) (av : VS) (os : List OS) (rs : List RSh) (p : ShT av os) : Option (RT rs) := (adf E f p.vals p.objs (aij E.P os.length rs)).run
theorem xq (f len f' len' : Nat → Nat) : ∀ (s : VS) (x y : s.T), (s.ins f len x).length = (s.ins f' len' y).length
 | .int _, _, _ => rfl
 | .bool, _, _ => rfl
 | .str, _, _ => rfl
 | .sl _, _, _ => rfl
 | .cst _, _, _ => rfl
 | .ptr _ _, _, _ => rfl
 | .own _, _, _ => rfl
 | .part _, _, _ => rfl
 | .mp _, _, _ => rfl
 | .nil, _, _ => rfl
 | .cons a b, x, y => by simp only [VS.ins, List.length_append, xq f len f' len' a _ (SP.fst a.dfl y), xq f len f' len' b _ (SP.snd b.dfl y)]
 | .fn _ _ _, _, _ => rfl
 | .agg _, _, _ => rfl
 | .tup _, _, _ => rfl
theorem ai6 {E : TEnv} (hE : EnvOk E) {f : FuncId} {av : VS} {os : List OS} {rs : List RSh} (m : ShT av os → Option (RT rs)) (hm : ∀ p, uv E f av os rs p = m p) (hf : a81 E.P f (av.ins id (fun _ => 0) av.dfl).length = true) : qK E.P ⟨f, av, os, rs, m⟩ := by
 intro p x hx
 have hx' : uv E f av os rs p = some x := (hm p).trans hx
 have hl : p.objs.length = os.length := yU _ _ _ _
 unfold uv at hx'
 refine a8C hE (K := aij E.P os.length rs) (z := x) (by rw [show p.vals.length = (av.ins id (fun _ => 0) av.dfl).length from xq _ _ _ _ _ _ _]; exact hf) hx' fun d L h => ?_
 obtain ⟨⟨y, q⟩, h1, h2⟩ := q9 h
 obtain ⟨h3, h4⟩ := zS h2
 cases h4
 rw [hl]
 exact xo h1 h3
open Go.RowKit
def a2C : TV → Bool
 | .v _ => true
 | _ => false
def a1d : TV → Bool
 | .agg xs => xs.all a2C
 | d => a2C d
def adq : TV → Bool
 | .tup xs => xs.all a1d
 | d => a1d d
theorem abD {d : TV} (h : a2C d = true) : xJ (qr d) = true ∧ qU d = qr d ∧ enc d = qr d := by cases d <;> first | exact ⟨rfl, rfl, rfl⟩ | cases h
theorem W8 : ∀ {l : List TV}, l.all a2C = true → (l.map qr).all xJ = true
 | [], _ => rfl
 | d :: l, h => by
  simp only [List.all_cons, Bool.and_eq_true] at h
  rw [List.map_cons, List.all_cons, (abD h.1).1, W8 h.2]; rfl
theorem a9A {d : TV} (h : a1d d = true) : xM (qU d) = true ∧ enc d = qU d := by
 cases d <;> first | exact ⟨W8 h, rfl⟩ | exact ⟨rfl, rfl⟩ | cases h
theorem X2 : ∀ {l : List TV}, l.all a1d = true → (l.map qU).all xM = true
 | [], _ => rfl
 | d :: l, h => by
  simp only [List.all_cons, Bool.and_eq_true] at h
  rw [List.map_cons, List.all_cons, (a9A h.1).1, X2 h.2]; rfl
theorem aaM {d : TV} (h : adq d = true) : a8U (enc d) = true := by
 cases d <;> first | exact X2 h | exact W8 h | rfl | cases h
def a3Z {R : Type} : (rs : List RSh) → RT rs → (∀ r : RSh, r.T → Tree R) → Tree R
 | [], _, _ => .fail
 | [r], x, k => k r x
 | r :: s :: t, x, k => .case r.T (RT (s :: t)) x (k r) (fun y => a3Z (s :: t) y k)
theorem Wt {R : Type} {z : R} : ∀ {rs : List RSh} {x : RT rs} {k : ∀ r : RSh, r.T → Tree R}, (a3Z rs x k).run = some z → ∃ (r : RSh) (y : r.T), (k r y).run = some z ∧ ∀ d A, RQ rs x d A → RQ1 r y d A
 | [], x, k, h => by cases h
 | [r], x, k, h => ⟨r, x, h, fun d A q => q⟩
 | r :: s :: t, x, k, h => by
  unfold a3Z at h
  cases x with
  | inl y => exact ⟨r, y, h, fun d A q => q⟩
  | inr y =>
   obtain ⟨r', y', h1, h2⟩ := Wt (rs := s :: t) h
   exact ⟨r', y', h1, fun d A q => h2 d A q⟩
def VS.scal : VS → Bool
 | .int _ => true
 | .bool => true
 | .str => true
 | .cst _ => true
 | .nil => true
 | .cons a b => a.scal && b.scal
 | .agg l => l.scal
 | .tup l => l.scal
 | _ => false
def adz (rs : List RSh) : Bool := rs.all fun r => r.1.scal && r.2.isEmpty
def a8c (P : Program) (e : TEnt) {R : Type} (ds : List TV) (L : List TO) (K : TV → List TO → Tree R) : Tree R :=
 match Ub P L 2 e.av ds (bd0 0 e.os.length) with
 | some (x, [], B) => match U3 P L 0 e.os 0 B with
  | some (y, B') => chk B'.eqs (KD (e.m (ShT.mk x y)) fun r => a3Z e.rs r fun r y => match ShT.vals y, r.2 with
   | [v], [] => if adq v then K v L else .fail
   | _, _ => .fail)
  | none => .fail
 | _ => .fail
theorem All2.maps {α β α' β' : Type} {R : α → β → Prop} {R' : α' → β' → Prop} {f : α → α'} {g : β → β'} (hr : ∀ a b, R a b → R' (f a) (g b)) : ∀ {l : List α} {m : List β}, All2 R l m → All2 R' (l.map f) (m.map g)
 | _, _, .nil => .nil
 | _, _, .cons h t => .cons (hr _ _ h) (All2.maps hr t)
section
variable {P : Program} {L : List TO}
theorem ahS {d' d : TV} (h : r1 P L [] 2 d' d) : a7z P (eL L) true (enc d') (enc d) := by
 have cell : ∀ {d' d : TV}, rC P L [] 2 d' d → a1I P (eL L) true (qr d') (qr d) := by
  intro d' d h
  have hw : wkC P (eL L) [] (qr d') (qr d) := h.2.2
  unfold a1I
  unfold wkC at hw
  split at hw
  ·rename_i z rows id lo n tot h1 h2
   rw [h1, h2]
   exact ⟨.inl rfl, hw.2⟩
  ·rename_i h1 h2
   rw [h1, h2]
   exact hw
  ·rename_i h1 h1x
   unfold unX at hw
   split at hw
   ·rename_i z rows h2 h3
    rw [h2, h3]
    exact hw
   ·rename_i h2
    split
    ·rename_i z rows id lo n tot h3 h4; exact absurd h4 (h1 _ _ _ _ _ _ h3)
    ·rename_i z rows h3 h4; exact absurd h4 (h2 _ _ h3)
    ·rename_i z rows z' rows' h3 h4; exact absurd h4 (h1x _ _ _ _ h3)
    ·exact hw
 rcases h with h | ⟨xs', xs, rfl, rfl, h⟩
 ·rw [Qv h.1, Qv h.2.1]
  have := cell h
  unfold a7z
  split
  ·rename_i h3 h4; exact absurd h3 ((Yo h.1).1 _)
  ·exact this
 ·show All2 (a1I P (eL L) true) (xs'.map qr) (xs.map qr)
  exact All2.maps (fun _ _ q => cell q) h
theorem a90 : ∀ {l' l : List TV}, All2 (r1 P L [] 2) l' l → All2 (a7z P (eL L) true) (l'.map enc) (l.map enc)
 | _, _, .nil => .nil
 | _, _, .cons h t => .cons (ahS h) (a90 t)
theorem a13 {R : Type} {e : TEnt} (he : qK P e) (hos : e.os = []) {ds : List TV} {K : TV → List TO → Tree R} {z : R} (h : (a8c P e ds L K).run = some z) : DCallWF P e.f (ds.map enc) (eL L) [] (KT K z) := by
 obtain ⟨f, av, os, rs, m⟩ := e
 simp only at hos
 subst hos
 unfold a8c at h
 split at h
 ·rename_i x B h1
  split at h
  ·rename_i y B' h2
   replace h := zS h; obtain ⟨hq, h⟩ := h
   replace h := kg h; obtain ⟨r, h3, h⟩ := h
   obtain ⟨rr, yy, h4, h5⟩ := Wt h
   have hy : B' = B := by
    have h2' : some ((() : OS.Ts []), B) = some (y, B') := h2
    cases h2'; rfl
   subst hy
   obtain ⟨a1, a2⟩ := WA (L := L) (P := P) (sel := []) (len := OS.lens [] y) 2 av h1
   have hb : B'.b = [] := List.length_eq_zero_iff.1 (by rw [a1.2.2.2]; rfl)
   obtain ⟨l0, e, q⟩ := a2 ⟨fun k x e => (by rw [hb] at e; simp at e), hq, fun i _ => (by simp), fun k id n e => (by simp at e), fun k e => (by simp at e)⟩
   rw [List.append_nil] at e
   subst e
   have hd := he (ShT.mk x y) r h3
   have hv : ShT.vals (ShT.mk x y : ShT av []) = av.ins id (OS.lens [] y) x := by unfold ShT.vals; rw [ShT.v_mk, ShT.o_mk]
   rw [hv] at hd
   refine a4c hd (a90 q) fun d A' hr => ?_
   obtain ⟨v, b1, rfl, rfl⟩ := h5 d A' hr
   split at h4
   ·rename_i v' e1 e2
    rw [b1] at e1
    cases e1
    split at h4
    ·rename_i hs
     refine ⟨?_, aaM hs, _, _, rfl, rfl, h4⟩
     have : (ShT.objs yy).length = 0 := by unfold ShT.objs; rw [yU, e2]; rfl
     rw [List.length_eq_zero_iff.1 this]; rfl
    ·cases h4
   ·cases h4
  ·cases h
 ·cases h
end
end Go.Sim
