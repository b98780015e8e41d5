/- Part 5 of the claim RuleNext: D17, D18, D19, D20, D21, D22, T1, T2, T3, T4, T5 -/
import Derived.Test.YtaamhddpmbombaaGreatW4
set_option linter.unusedSimpArgs false
set_option linter.unusedVariables false
set_option linter.defProp false
namespace Go.Sim
open Go.RowKit
theorem a66 {α : Type} {o o' : Option α} {f : α → Prop} (h : o = o') : qj o f = qj o' f := by rw [h]
def vk (P : Program) (l : List C) (K : DFrm → List Obj → Prop) (a : DFrm) (L : List Obj) : Prop := qV P l K a L
def ahS (P : Program) (l : List (C × List C)) (K : DFrm → List Obj → Prop) (a : DFrm) (L : List Obj) : Prop := a46 P l K a L
theorem VM {α : Type} {o : Option α} {f g : α → Prop} (h : ∀ x, f x = g x) : qj o f = qj o g := by
 cases o
 ·rfl
 ·exact h _
section
variable (P : Program) (d : Option Tmp) (r : List C) (K : DFrm → List Obj → Prop) (a : DFrm) (L : List Obj)
theorem ai8 : qV P [] K a L = K a L := rfl
theorem afi (op : Op) (t : Option Tmp) (want : Bool) : qV P (⟨d, op, some (t, want)⟩ :: r) K a L = zl (JZ t want a) (vk P (⟨d, op, none⟩ :: r) K a L) (vk P r K (a.put d abr) L) := rfl
theorem a58 (l : List C) (B : Prop) : zl (some true) (vk P l K a L) B = qV P l K a L := by simp [zl, vk]
theorem a2S (l : List C) (A : Prop) : zl (some false) A (vk P l K a L) = qV P l K a L := by simp [zl, vk]
theorem agQ (x : Operand) : qV P (⟨d, .move x, none⟩ :: r) K a L = qj (a.ev x) fun v => qV P r K (a.put d v) L := rfl
theorem abx (x : Operand) : qV P (⟨d, .assign x, none⟩ :: r) K a L = qj (a.ev x) fun v => qV P r K (a.put d v) L := rfl
theorem afw (c x y : Operand) : qV P (⟨d, .pick c x y, none⟩ :: r) K a L = qj (W3 (a.ev c) (a.ev x) (a.ev y)) fun v => qV P r K (a.put d v) L := rfl
theorem aeI (t : TypeId) (ps : List (Nat × Operand)) : qV P (⟨d, .build t ps.toArray, none⟩ :: r) K a L = qj (Kf a.ev ps) fun ds => qj (Yd P t ds) fun v => qV P r K (a.put d v) L := by simp only [qV, zo]
theorem afe (t : TypeId) (x : Operand) (f : Nat) : qV P (⟨d, .field t x f, none⟩ :: r) K a L = qj (a.ev x) fun x => qj (Y1 P t x f) fun v => qV P r K (a.put d v) L := rfl
theorem a3m (t : TypeId) (x : Operand) (f : Nat) : qV P (⟨d, .fieldAddr t x f, none⟩ :: r) K a L = qj (a.ev x) fun x => qj (yO P L t x f) fun v => qV P r K (a.put d v) L := rfl
theorem ag1 (op : UnOp) (t : TypeId) (x : Operand) : qV P (⟨d, .unOp op t x, none⟩ :: r) K a L = qj (a.ev x) fun x => qj (y3 x) fun v => qj (scD (unV op v)) fun v => qV P r K (a.put d v) L := rfl
theorem acT (op : BinOp) (t : TypeId) (x y : Operand) (u : TypeId) : qV P (⟨d, .binOp op t x y u, none⟩ :: r) K a L = qj (a.ev x) fun x => qj (a.ev y) fun y => qj (ye P op t x y) fun v => qV P r K (a.put d v) L := rfl
theorem a8Z (s t : TypeId) (x : Operand) : qV P (⟨d, .convert s t x, none⟩ :: r) K a L = qj (a.ev x) fun x => qj (xH P L s t x) fun p => qV P r K (a.put d p.1) p.2 := rfl
theorem a6Y (f : Fn) (xs ys : List Operand) : qV P (⟨d, .makeFunc f xs.toArray ys.toArray, none⟩ :: r) K a L = qj (xF f (Qh a.ev xs) (Qh a.ev ys)) fun v => qV P r K (a.put d v) L := by simp only [qV, zo]
theorem a3L (t : TypeId) (x i : Operand) : qV P (⟨d, .indexAddr t x i, none⟩ :: r) K a L = qj (a.ev x) fun x => qj (a.ev i) fun i => qj (wI P L t x i) fun v => qV P r K (a.put d v) L := rfl
theorem acL (t : TypeId) (x i : Operand) : qV P (⟨d, .index t x i, none⟩ :: r) K a L = qj (a.ev x) fun x => qj (a.ev i) fun i => qj (Yk P t x i) fun v => qV P r K (a.put d v) L := rfl
theorem a8m (x : Operand) (i : Nat) : qV P (⟨d, .extract x i, none⟩ :: r) K a L = qj (a.ev x) fun x => qj (Qw x i) fun v => qV P r K (a.put d v) L := rfl
theorem a4I (x : Operand) : qV P (⟨d, .nilCheck x, none⟩ :: r) K a L = qj (a.ev x) fun x => qj (onD L 0 x) fun v => qV P r K (a.put d v) L := rfl
theorem aha (t : TypeId) (x : Operand) : qV P (⟨d, .load t x, none⟩ :: r) K a L = qj (a.ev x) fun x => qj (jE P L t x) fun v => qV P r K (a.put d v) L := rfl
theorem adA (t : TypeId) (x y : Operand) : qV P (⟨d, .store t x y, none⟩ :: r) K a L = qj (a.ev x) fun x => qj (a.ev y) fun y => qj (Jc P L t x y) fun L' => qV P r K (a.put d abr) L' := rfl
theorem adr (t : TypeId) (x : Operand) (lo hi mx : Option Operand) : qV P (⟨d, .slice t x lo hi mx, none⟩ :: r) K a L = qj (a.ev x) fun x => qj (XG a.ev lo) fun lo => qj (XG a.ev hi) fun hi => qj (XG a.ev mx) fun mx => qj (wj P L t x lo hi mx) fun v => qV P r K (a.put d v) L := rfl
theorem ahN (t : TypeId) (x : Operand) : qV P (⟨d, .box t x, none⟩ :: r) K a L = qj (a.ev x) fun x => qj (if is1 x = true ∧ szT P t = some (zg x).length then some (zg x) else none) fun cs => qV P r K (a.put d (.ptr L.length 0)) (L ++ [.st cs]) := by
 simp only [qV, zo]
 refine VM fun x => ?_
 split
 ·rename_i h; simp [qj, h]
 ·rename_i h; simp only [qj]; exact propext ⟨fun q => h ⟨q.1, q.2.1⟩, fun q => q.elim⟩
theorem aeV (t : TypeId) : qV P (⟨d, .alloc t, none⟩ :: r) K a L = qj (Yu P t) fun z => qV P r K (a.put d (.ptr L.length 0)) (L ++ [.st z]) := rfl
theorem a0Y (t : TypeId) (n : Nat) (ps : List (Nat × Operand)) : qV P (⟨d, .buildSlice t n ps.toArray, none⟩ :: r) K a L = qj (Kf a.ev ps) fun ds => qj (jX P L t n ds) fun p => qV P r K (a.put d p.1) p.2 := by simp only [qV, zo]
def ad4 (P : Program) (f : DV) (ds : List DV) (L : List Obj) (K : DV → List Obj → Prop) : Prop := match f with
 | .fn k pre cap => a0n P k (pre ++ ds ++ cap) L K
 | _ => False
theorem adw (k : FuncId) (pre ds cap : List DV) (K : DV → List Obj → Prop) : ad4 P (.fn k pre cap) ds L K = a0n P k (pre ++ ds ++ cap) L K := rfl
theorem ah2 (f : Operand) (xs : List Operand) (ts : Array TypeId) : qV P (⟨d, .call ⟨.value f, xs.toArray, ts⟩, none⟩ :: r) K a L = qj (a.ev f) fun f => qj (Qh a.ev xs) fun ds => ad4 P f ds L fun v L' => vk P r K (a.put d v) L' := by
 simp only [qV, zo]
 refine VM fun f => ?_
 refine VM fun ds => ?_
 cases f <;> rfl
theorem abc (x y : Operand) (ts : List TypeId) : qV P (⟨d, .call ⟨.builtin .append, #[x, y], ts.toArray⟩, none⟩ :: r) K a L = qj (a.ev x) fun x => qj (a.ev y) fun y => qj (K7 P ts L x y) fun p => qV P r K (a.put d p.1) p.2 := by
 simp only [qV, zo, Qh, qj]
 cases a.ev x <;> cases a.ev y <;> rfl
theorem aiC (x : Operand) (t : TypeId) : qV P (⟨d, .call ⟨.builtin .len, #[x], #[t]⟩, none⟩ :: r) K a L = qj (a.ev x) fun x => qj (Uk P L t x) fun v => qV P r K (a.put d v) L := by
 simp only [qV, zo, Qh, qj]
 cases a.ev x <;> rfl
theorem ahL (xs : List Operand) (ts : Array TypeId) : qV P (⟨d, .call ⟨.builtin .min, xs.toArray, ts⟩, none⟩ :: r) K a L = qj (Qh a.ev xs) fun ds => qj (yt ds) fun vs => qj (scD (a7f vs)) fun v => qV P r K (a.put d v) L := by simp only [qV, zo]
theorem aid (xs : List Operand) (ts : Array TypeId) : qV P (⟨d, .call ⟨.builtin .max, xs.toArray, ts⟩, none⟩ :: r) K a L = qj (Qh a.ev xs) fun ds => qj (yt ds) fun vs => qj (scD (a9k vs)) fun v => qV P r K (a.put d v) L := by simp only [qV, zo]
theorem ahT : a46 P [] K a L = K a L := rfl
theorem aeK (c : C) (r : List (C × List C)) : a46 P ((c, []) :: r) K a L = qV P [c] (a46 P r K) a L := by simp only [a46, Kz, true_and]
theorem ai3 (c k : C) (ks : List C) (r : List (C × List C)) : a46 P ((c, k :: ks) :: r) K a L = qV P [c] (fun a L => agj (Kz P a L (k :: ks)) (ahS P r K a L)) a L := rfl
theorem adC : Kz P a L [] = True := rfl
theorem ab0 (c : C) (r : List C) : Kz P a L (c :: r) = (aaC P c a L ∧ Kz P a L r) := rfl
theorem a80 (d : Option Tmp) (o : Op) : aaC P ⟨d, o, none⟩ a L = uY P ⟨d, o, none⟩ a L := rfl
theorem a9b (d : Option Tmp) (o : Op) (t : Option Tmp) (want : Bool) : aaC P ⟨d, o, some (t, want)⟩ a L = zl (JZ t want a) (uY P ⟨d, o, some (t, want)⟩ a L) True := rfl
theorem a7T (t : TypeId) (x : Operand) : Wg P (.load t x) a.ev L = (a.ev x).bind (jE P L t) := by
 simp only [Wg]; cases a.ev x <;> rfl
theorem a8l (n c : Nat) (l : List (Nat × DV)) (t : Tmp) : a4X ⟨n, c, l⟩ (some t) = qQ t l := rfl
end
def a21 (l : List (Nat × DV)) : List Nat → List (Nat × DV)
 | [] => []
 | t :: ts => match qQ t l with
  | some d => (t, d) :: a21 l ts
  | none => a21 l ts
def aa7 (t : Nat) (o : Option DV) (r : List (Nat × DV)) : List (Nat × DV) := match o with
 | some d => (t, d) :: r
 | none => r
theorem aau (l : List (Nat × DV)) : a21 l [] = [] := rfl
theorem a7l (l : List (Nat × DV)) (t : Nat) (ts : List Nat) : a21 l (t :: ts) = aa7 t (qQ t l) (a21 l ts) := by
 unfold aa7; rw [a21]
theorem a7t (t : Nat) (d : DV) (r : List (Nat × DV)) : aa7 t (some d) r = (t, d) :: r := rfl
theorem a7X (t : Nat) (r : List (Nat × DV)) : aa7 t none r = r := rfl
section
variable (P : Program) (s : List DFx) (Q : DQ) (a : DFrm) (L : List Obj)
theorem afY (e : Exit) : dsx P [] Q e a L = Q e a L := rfl
theorem aiT (y : X) : dsx P (.k y :: s) Q .normal a L = Wj P y (dsx P s Q) a L := rfl
theorem a9o (y : X) (id : Nat) : dsx P (.k y :: s) Q (.exit id) a L = dsx P s Q (.exit id) a L := rfl
theorem a9r (y : X) (l : Nat) : dsx P (.k y :: s) Q (.goto l) a L = dsx P s Q (.goto l) a L := rfl
theorem aap (id : Nat) : dsx P (.block id :: s) Q .normal a L = dsx P s Q .normal a L := rfl
theorem uh (id id' : Nat) : dsx P (.block id :: s) Q (.exit id') a L = if id' = id then dsx P s Q .normal a L else dsx P s Q (.exit id') a L := rfl
theorem UM (id l : Nat) : dsx P (.block id :: s) Q (.goto l) a L = dsx P s Q (.goto l) a L := rfl
theorem aeC (K : DFrm → List Obj → Prop) : dsx P (.loop K :: s) Q .normal a L = K a L := rfl
theorem a0K (K : DFrm → List Obj → Prop) (id : Nat) : dsx P (.loop K :: s) Q (.exit id) a L = dsx P s Q (.exit id) a L := rfl
theorem a0O (K : DFrm → List Obj → Prop) (l : Nat) : dsx P (.loop K :: s) Q (.goto l) a L = dsx P s Q (.goto l) a L := rfl
theorem Vz : ∀ s, dsx P s Q .ret a L = Q .ret a L
 | [] => rfl
 | .k _ :: s => Vz s
 | .block _ :: s => Vz s
 | .loop _ :: s => Vz s
 | .scope _ :: s => Vz s
theorem aaO (J : Nat → DFrm → List Obj → Prop) : dsx P (.scope J :: s) Q .normal a L = dsx P s Q .normal a L := rfl
theorem a0x (J : Nat → DFrm → List Obj → Prop) (id : Nat) : dsx P (.scope J :: s) Q (.exit id) a L = dsx P s Q (.exit id) a L := rfl
theorem uD (J : Nat → DFrm → List Obj → Prop) (l : Nat) : dsx P (.scope J :: s) Q (.goto l) a L = J l a L := rfl
theorem ail : yU P .nil (dsx P s Q) a L = dsx P s Q .normal a L := rfl
theorem ahU : yU P .ret (dsx P s Q) a L = dsx P s Q .ret a L := rfl
theorem ag0 (id : Nat) : yU P (.exit id) (dsx P s Q) a L = dsx P s Q (.exit id) a L := rfl
theorem agL (l : Nat) : yU P (.goto l) (dsx P s Q) a L = dsx P s Q (.goto l) a L := rfl
theorem ain (l : List C) (k : X) : yU P (.reg l k) (dsx P s Q) a L = qV P l (dsx P (.k k :: s) Q .normal) a L := rfl
theorem agJ (l : List (C × List C)) (k : X) : yU P (.draw l k) (dsx P s Q) a L = a46 P l (dsx P (.k k :: s) Q .normal) a L := rfl
theorem agW (c : Operand) (x y k : X) : yU P (.cond c x y k) (dsx P s Q) a L = X4 (a.ev c) (Wj P x (dsx P (.k k :: s) Q) a L) (Wj P y (dsx P (.k k :: s) Q) a L) := rfl
theorem ae1 (id : Nat) (x k : X) : yU P (.block id x k) (dsx P s Q) a L = yU P x (dsx P (.block id :: .k k :: s) Q) a L := rfl
theorem agS (x k : X) : yU P (.loop x k) (dsx P s Q) a L = acI P x (dsx P (.k k :: s) Q) a L := rfl
theorem ae8 (x labs k : X) : yU P (.scope x labs k) (dsx P s Q) a L = aa1 P x labs (dsx P (.k k :: s) Q) a L := rfl
theorem acH (l : Nat) (k : X) : yU P (.label l k) (dsx P s Q) a L = yU P k (dsx P s Q) a L := rfl
theorem a8y (x : X) (R : DQ) (B : Prop) : X4 (some (.p (.v (.bool true)))) (Wj P x R a L) B = Wj P x R a L := by simp [X4]
theorem a6c (x : X) (R : DQ) (A : Prop) : X4 (some (.p (.v (.bool false)))) A (Wj P x R a L) = Wj P x R a L := by simp [X4]
end
theorem a6X {o o' : Option DV} {A B : Prop} (h : o = o') : X4 o A B = X4 o' A B := by rw [h]
theorem abb (P : Program) (rs : List ResultVar) (Q : DV → List Obj → Prop) (a : DFrm) (L : List Obj) : aek P rs Q .ret a L = qj (zH P a L rs) fun ds => qj (Jp ds) fun d => Q d L := rfl
theorem a2M (P : Program) (rs : List ResultVar) (Q : DV → List Obj → Prop) (a : DFrm) (L : List Obj) : aek P rs Q .normal a L = qj (zH P a L rs) fun ds => qj (Jp ds) fun d => Q d L := rfl
theorem abf (n c : Nat) (l : List (Nat × DV)) (t : Nat) (v : DV) : DFrm.put ⟨n, c, l⟩ (some t) v = if t < n then ⟨n, c, (t, v) :: l⟩ else ⟨n, c, l⟩ := rfl
theorem abN (a : DFrm) (v : DV) : DFrm.put a none v = a := rfl
theorem afO (n c : Nat) (l : List (Nat × DV)) (t : Nat) : DFrm.ev ⟨n, c, l⟩ (.tmp t) = qQ t l := rfl
theorem ado (a : DFrm) (f : FuncId) : a.ev (.func f) = some (.fn f [] []) := rfl
theorem ah4 (a : DFrm) (k : IntKind) (n : Int) : a.ev (.const (.int k n)) = some (.p (.v (.int k n))) := rfl
theorem aeL (a : DFrm) (b : Bool) : a.ev (.const (.bool b)) = some (.p (.v (.bool b))) := rfl
theorem a9B (a : DFrm) (s : ByteArray) : a.ev (.const (.string s)) = some (.p (.v (.string s))) := rfl
theorem a8s (a : DFrm) : a.ev (.const (.pointer none)) = some (.p (.v (.pointer none))) := rfl
theorem a4o (a : DFrm) : a.ev (.const (.slice none 0 0)) = some (.p (.v (.slice none 0 0))) := rfl
theorem a8X (a : DFrm) : a.ev (.const (.map none)) = some (.p (.v (.map none))) := rfl
theorem a5K (a : DFrm) : a.ev (.const .nilFunc) = some (.p (.v .nilFunc)) := rfl
theorem a7V (t t' : Nat) (v : DV) (r : List (Nat × DV)) : qQ t ((t', v) :: r) = if t' = t then some v else qQ t r := rfl
theorem ach (t : Nat) : qQ t [] = none := rfl
theorem aay (k : Nat) : wC k [] = [] := rfl
theorem a7R (k : Nat) (v : DV) (l : List DV) : wC k (v :: l) = (k, v) :: wC (k + 1) l := rfl
theorem acQ (ρ : Ym) : Qh ρ [] = some [] := rfl
theorem abZ (ρ : Ym) (x : Operand) (l : List Operand) : Qh ρ (x :: l) = match ρ x, Qh ρ l with | some v, some vs => some (v :: vs) | _, _ => none := rfl
theorem acm (ρ : Ym) : Kf ρ [] = some [] := rfl
theorem a8t (ρ : Ym) (i : Nat) (x : Operand) (l : List (Nat × Operand)) : Kf ρ ((i, x) :: l) = match ρ x, Kf ρ l with | some v, some vs => some ((i, v) :: vs) | _, _ => none := rfl
theorem a2o (ρ : Ym) : XG ρ none = some none := rfl
theorem aby (ρ : Ym) (x : Operand) : XG ρ (some x) = match ρ x with | some d => (y3 d).map some | none => none := rfl
theorem aar (P : Program) (a : DFrm) (L : List Obj) : zH P a L [] = some [] := rfl
theorem a7Q (P : Program) (a : DFrm) (L : List Obj) (x : ResultVar) (r : List ResultVar) : zH P a L (x :: r) = match y5 P a L x, zH P a L r with | some v, some vs => some (v :: vs) | _, _ => none := rfl
theorem adN (P : Program) (n c : Nat) (l : List (Nat × DV)) (L : List Obj) (t : Nat) : y5 P ⟨n, c, l⟩ L (.tmp t) = qQ t l := rfl
theorem aaX (P : Program) (n c : Nat) (l : List (Nat × DV)) (L : List Obj) (p : Nat) (t : TypeId) : y5 P ⟨n, c, l⟩ L (.cell p t) = match qQ p l with | some d => jE P L t d | none => none := rfl
theorem aaM (d : DV) : Jp [d] = some d := rfl
theorem abB : Jp [] = some (.tup []) := rfl
theorem aaJ (d e : DV) (l : List DV) : Jp (d :: e :: l) = if (d :: e :: l).all is1 then some (.tup (d :: e :: l)) else none := rfl
theorem abX (n c : Nat) (l : List (Nat × DV)) (t : Tmp) (want : Bool) : JZ (some t) want ⟨n, c, l⟩ = match qQ t l with | some (.p (.v (.bool b))) => some (if want then b else !b) | some (.tup _) => some false | _ => none := rfl
theorem a7e (x y : Option DV) : W3 (some (.p (.v (.bool true)))) x y = x := rfl
theorem a5H (x y : Option DV) : W3 (some (.p (.v (.bool false)))) x y = y := rfl
theorem a8E (b u v : Bool) : W3 (some (.p (.v (.bool b)))) (some (.p (.v (.bool u)))) (some (.p (.v (.bool v)))) = some (.p (.v (.bool (if b then u else v)))) := by cases b <;> rfl
theorem aij (x : Value) : y3 (.p (.v x)) = some x := rfl
theorem adG (xs : List DV) : y3 (.agg xs) = (Qd xs).map fun l => .agg l.toArray := rfl
theorem abQ : Qd [] = some [] := rfl
theorem a8P (x : Value) (l : List DV) : Qd (.p (.v x) :: l) = (Qd l).map (x :: ·) := rfl
theorem a9g : yt [] = some [] := rfl
theorem a4y (d : DV) (l : List DV) : yt (d :: l) = match y3 d, yt l with | some v, some vs => some (v :: vs) | _, _ => none := rfl
theorem aii (k : IntKind) (n : Int) : scD (some (.int k n)) = some (.p (.v (.int k n))) := rfl
theorem ahb (b : Bool) : scD (some (.bool b)) = some (.p (.v (.bool b))) := rfl
theorem aaB (s : ByteArray) : scD (some (.string s)) = some (.p (.v (.string s))) := rfl
theorem aj5 (x : PV) : is1 (.p x) = true := rfl
theorem agz (i o : Nat) : is1 (.ptr i o) = true := rfl
theorem ai4 (i o t q : Nat) : is1 (.ep i o t q) = true := rfl
theorem aie (r : List PV) (o : Nat) : is1 (.dp r o) = true := rfl
theorem ag6 (i o t q : Nat) : is1 (.ref i o t q) = true := rfl
theorem adk (i o t : Nat) : is1 (.aref i o t) = true := rfl
theorem ahJ (f : FuncId) (x y : List DV) : is1 (.fn f x y) = true := rfl
theorem afS (xs : List DV) : is1 (.agg xs) = true := rfl
theorem aez (x : PV) : zg (.p x) = [.p x] := rfl
theorem a89 (i o : Nat) : zg (.ptr i o) = [.ptr i o] := rfl
theorem aav (i o t q : Nat) : zg (.ep i o t q) = [.ep i o t q] := rfl
theorem aaW (r : List PV) (o : Nat) : zg (.dp r o) = [.dp r o] := rfl
theorem a8r (i o t q : Nat) : zg (.ref i o t q) = [.ref i o t q] := rfl
theorem a6J (i o t : Nat) : zg (.aref i o t) = [.aref i o t] := rfl
theorem abP (f : FuncId) (x y : List DV) : zg (.fn f x y) = [.fn f x y] := rfl
theorem a8j (xs : List DV) : zg (.agg xs) = xs := rfl
theorem a30 (cs : List DV) (i : Nat) : kD cs i [] = cs := rfl
theorem a1j (cs : List DV) (i : Nat) (v : DV) (r : List DV) : kD cs i (v :: r) = kD (cs.set i v) (i + 1) r := rfl
theorem a31 (cs : List PV) (i : Nat) : kU cs i [] = cs := rfl
theorem a0G (cs : List PV) (i : Nat) (v : PV) (r : List PV) : kU cs i (v :: r) = kU (cs.set i v) (i + 1) r := rfl
theorem agr : pvs [] = some [] := rfl
theorem aex (x : PV) (l : List DV) : pvs (.p x :: l) = (pvs l).map (x :: ·) := rfl
theorem agd (P : Program) (op : BinOp) (t : TypeId) (x y : Value) : ye P op t (.p (.v x)) (.p (.v y)) = scD (qS P op t x y) := rfl
theorem acN (P : Program) (op : BinOp) (t : TypeId) (i o : Nat) : ye P op t (.ptr i o) (.p (.v (.pointer none))) = scD (qS P op t (.pointer (some ⟨0, 0, none⟩)) (.pointer none)) := rfl
theorem ahe (P : Program) (op : BinOp) (t : TypeId) (r : List PV) (o : Nat) : ye P op t (.dp r o) (.p (.v (.pointer none))) = scD (qS P op t (.pointer (some ⟨0, 0, none⟩)) (.pointer none)) := rfl
theorem ah6 (P : Program) (op : BinOp) (t : TypeId) (z : Nat) (r : List PV) (l : List (List PV)) : ye P op t (.p (.sl z (r :: l))) (.p (.v (.slice none 0 0))) = scD (qS P op t (.slice (some ⟨0, 0, none⟩) 1 0) (.slice none 0 0)) := rfl
theorem ad3 (P : Program) (op : BinOp) (t : TypeId) (xs ys : List DV) : ye P op t (.agg xs) (.agg ys) = match (Qd xs).map (fun l => Value.agg l.toArray), (Qd ys).map (fun l => Value.agg l.toArray) with
 | some x, some y => scD (qS P op t x y)
 | none, some y => none
 | some x, none => none
 | none, none => none := by
 unfold ye
 simp only [y3, W9]
 cases (Qd xs).map (fun l => Value.agg l.toArray) <;> cases hy : (Qd ys).map (fun l => Value.agg l.toArray) <;> simp only <;> split <;> rfl
theorem abv (P : Program) (L : List Obj) (t : TypeId) (id off : Nat) : jE P L t (.ptr id off) = match L[id]? with | some (.st cells) => Q5 P t cells off | _ => none := rfl
theorem acX (P : Program) (L : List Obj) (t : TypeId) (id i off tot : Nat) : jE P L t (.ep id i off tot) = match zw L id tot with | some rows => (match rows[i]? with | some row => Q5 P t (row.map .p) off | none => none) | none => none := rfl
theorem aes (P : Program) (L : List Obj) (t : TypeId) (row : List PV) (off : Nat) : jE P L t (.dp row off) = Q5 P t (row.map .p) off := rfl
theorem a7u (P : Program) (L : List Obj) (t : TypeId) (id off : Nat) (x : DV) : Jc P L t (.ptr id off) x = match L[id]? with
  | some (.st cells) => if is1 x = true ∧ szT P t = some (zg x).length ∧ off + (zg x).length ≤ cells.length then some (L.set id (.st (kD cells off (zg x)))) else none
  | _ => none := rfl
theorem ai1 (L : List Obj) (k id off : Nat) : onD L k (.ptr id off) = some (.ptr id (off + k)) := rfl
theorem ajk (L : List Obj) (k : Nat) (row : List PV) (off : Nat) : onD L k (.dp row off) = some (.dp row (off + k)) := rfl
theorem ajo (L : List Obj) (k id i off tot : Nat) : onD L k (.ep id i off tot) = match zw L id tot with | some _ => some (.ep id i (off + k) tot) | none => none := rfl
theorem afp (L : List Obj) (id tot : Nat) : zw L id tot = match L[id]? with | some (.li _ rows) => if rows.length = tot then some rows else none | some (.fz _ rows) => if rows.length = tot then some rows else none | _ => none := rfl
theorem adb (xs : List DV) (i : Nat) : Qw (.tup xs) i = xs[i]? := rfl
theorem a7U (k : FuncId) (a b : List DV) : xF (.func k) (some a) (some b) = if a.all Js && b.all Js then some (.fn k a b) else none := rfl
theorem aiy (x : PV) : Js (.p x) = true := rfl
theorem adq (i o : Nat) : Js (.ptr i o) = true := rfl
theorem aeh (i o t q : Nat) : Js (.ref i o t q) = true := rfl
end Go.Sim
namespace Go.Sim
open Go.RowKit
section
variable {P : Program}
theorem aaK (pl : Nat → Option (Nat × Nat)) (cs : List DV) : Yw pl cs [] = some cs := rfl
theorem a9m (pl : Nat → Option (Nat × Nat)) (cs : List DV) (i : Nat) (v : DV) (r : List (Nat × DV)) : Yw pl cs ((i, v) :: r) = match pl i with
  | none => none
  | some (off, sz) => if is1 v = true ∧ (zg v).length = sz ∧ off + sz ≤ cs.length then Yw pl (kD cs off (zg v)) r else none := rfl
def aiP (L : List Obj) (e : TypeId) (b : Nat) (o : Option (List (List PV))) : Option (DV × List Obj) := match o with
 | some ys => if ys.length ≤ 9223372036854775807 ∧ ys.length * b ≤ 140737488355328 then some (.ref L.length 0 ys.length ys.length, L ++ [.li (if ys.length = 0 then none else some e) ys]) else none
 | none => none
def ajd (L : List Obj) (e : TypeId) (b id lo n tot : Nat) (q : Option Obj) (o : Option (List (List PV))) : Option (DV × List Obj) := match o, q with
 | some ys, some (.li te rows) => if lo = 0 ∧ rows.length = tot ∧ n = tot ∧ (te = none ∨ te = some e) ∧ n + ys.length ≤ 9223372036854775807 ∧ (n + ys.length) * b ≤ 140737488355328 then some (.ref id 0 (n + ys.length) (n + ys.length), L.set id (.li (if ys.length = 0 then te else some e) (rows ++ ys))) else none
 | _, _ => none
theorem a88 (L : List Obj) (e : TypeId) (b : Nat) (ys : List (List PV)) : aiP L e b (some ys) = if ys.length ≤ 9223372036854775807 ∧ ys.length * b ≤ 140737488355328 then some (.ref L.length 0 ys.length ys.length, L ++ [.li (if ys.length = 0 then none else some e) ys]) else none := rfl
theorem a8f (L : List Obj) (e : TypeId) (b id lo n tot : Nat) (te : Option TypeId) (rows ys : List (List PV)) : ajd L e b id lo n tot (some (.li te rows)) (some ys) = if lo = 0 ∧ rows.length = tot ∧ n = tot ∧ (te = none ∨ te = some e) ∧ n + ys.length ≤ 9223372036854775807 ∧ (n + ys.length) * b ≤ 140737488355328 then some (.ref id 0 (n + ys.length) (n + ys.length), L.set id (.li (if ys.length = 0 then te else some e) (rows ++ ys))) else none := rfl
def slP (s : Nat) (rows : List (List PV)) : Nat × Nat × Option Nat → Option DV
 | (l, r, none) => some (.p (.sl s ((rows.drop l).take (r - l))))
 | _ => none
def slR (id a tot : Nat) : Nat × Nat × Option Nat → Option DV
 | (l, r, _) => some (.ref id (a + l) (r - l) tot)
def slA (id off n s : Nat) : Nat × Nat × Option Nat → Option DV
 | (l, r, none) => if l < n then some (.aref id (off + l * s) (r - l)) else none
 | _ => none
def ajy (id off n s : Nat) : Nat × Nat × Option Nat → Option DV
 | (l, r, none) => if l < n ∧ n ≤ maxLen then some (.aref id (off + l * s) (r - l)) else none
 | _ => none
theorem aen (s : Nat) (rows : List (List PV)) (l r : Nat) : slP s rows (l, r, none) = some (.p (.sl s ((rows.drop l).take (r - l)))) := rfl
theorem acO (id a tot l r : Nat) (m : Option Nat) : slR id a tot (l, r, m) = some (.ref id (a + l) (r - l) tot) := rfl
theorem adY (id off n s l r : Nat) : slA id off n s (l, r, none) = if l < n then some (.aref id (off + l * s) (r - l)) else none := rfl
theorem aaT (id off n s l r : Nat) : ajy id off n s (l, r, none) = if l < n ∧ n ≤ maxLen then some (.aref id (off + l * s) (r - l)) else none := rfl
theorem afx {α β : Type} {c : Prop} {dc : Decidable c} (x : α) (f : α → Option β) : (if c then some x else none).bind f = if c then f x else none := by split <;> rfl
theorem ad0 {α β : Type} (x : α) (f : α → Option β) : (some x).bind f = f x := rfl
theorem ai9 (n c : Nat) (k : IntKind) (l : Int) : qz n c (some (.int k l)) none none = if 0 ≤ l ∧ l ≤ n then some (l.toNat, n, none) else none := by
 unfold qz
 simp only [jb]
 by_cases h : 0 ≤ l
 ·simp only [h, if_true, true_and]
  by_cases h2 : l ≤ n
  ·rw [if_pos h2, if_pos (by omega)]
  ·rw [if_neg h2, if_neg (by omega)]
 ·simp [h]
theorem ai5 (n c : Nat) (k : IntKind) (r : Int) : qz n c none (some (.int k r)) none = if 0 ≤ r ∧ r ≤ c then some (0, r.toNat, none) else none := by
 unfold qz
 simp only [jb]
 by_cases h : 0 ≤ r
 ·simp only [h, if_true, true_and]
  by_cases h2 : r ≤ c
  ·rw [if_pos h2, if_pos (by omega)]
  ·rw [if_neg h2, if_neg (by omega)]
 ·simp [h]
theorem afg (n c : Nat) (k k' : IntKind) (l r : Int) : qz n c (some (.int k l)) (some (.int k' r)) none = if 0 ≤ l ∧ l ≤ r ∧ r ≤ c then some (l.toNat, r.toNat, none) else none := by
 unfold qz
 simp only [jb]
 by_cases h : 0 ≤ r
 ·simp only [h, if_true]
  by_cases h2 : r ≤ c
  ·rw [if_pos (show r.toNat ≤ c by omega)]
   by_cases h3 : 0 ≤ l
   ·simp only [h3, if_true, true_and]
    by_cases h4 : l ≤ r
    ·rw [if_pos (by omega), if_pos ⟨h4, h2⟩]
    ·rw [if_neg (by omega), if_neg (by omega)]
   ·simp [h3]
  ·rw [if_neg (by omega), if_neg (by omega)]
 ·rw [if_neg (by omega)]; simp [h]; omega
theorem aio (n c : Nat) : qz n c none none none = some (0, n, none) := rfl
theorem a3s (z : Nat) (rows : List (List PV)) : wN z rows [] = some rows := rfl
theorem a0W (z : Nat) (rows : List (List PV)) (i : Nat) (d : DV) (r : List (Nat × DV)) : wN z rows ((i, d) :: r) = if is1 d = true ∧ i < rows.length then match pvs (zg d) with
   | some ps => if ps.length = z then wN z (rows.set i ps) r else none
   | none => none
  else none := rfl
end
theorem ad1 (A : Prop) : zl (some true) A True = A := by simp [zl]
theorem aeX (A : Prop) : zl (some false) A True = True := by simp [zl]
attribute [congr] a66 a6X
attribute [go_sem ↓] aau a7l a7t a7X qx ai8 afi a58 a2S agQ abx afw aeI afe a3m ag1 acT a8Z a6Y a3L acL a8m a4I aha adA adr ahN aeV a0Y ah2 adw abc aiC ahL aid
 ahT aeK ai3 adC ab0 a80 a9b
 afY aiT a9o a9r aap uh UM aeC a0K a0O aaO a0x uD Vz
 ail ahU ag0 agL ain agJ agW ae1 agS ae8 acH a8y a6c abb a2M
attribute [push_cast] a7T a8l ad1 aeX abf abN afO ado ah4 aeL a9B a8s a4o a8X a5K a7V ach aay a7R acQ abZ acm a8t a2o aby aar a7Q adN aaX aaM abB aaJ abX
 a7e a5H a8E aij adG abQ a8P a9g a4y aii ahb aaB aj5 agz ai4 aie ag6 adk ahJ afS aez a89 aav aaW a8r a6J abP a8j a30 a1j a31 a0G agr aex
 agd acN ahe ah6 ad3 abv acX aes a7u ai1 ajk ajo afp adb a7U aiy adq aeh aaK a9m a88 a8f aen acO adY aaT afx ad0 ai9 ai5 afg aio a3s a0W
 List.getElem?_cons_zero List.getElem?_cons_succ List.getElem?_nil List.length_cons List.length_nil List.map_cons List.map_nil List.set_cons_zero List.set_cons_succ List.all_cons List.all_nil List.nil_append List.cons_append List.append_nil List.length_append List.length_set Option.map_some Option.map_none Option.bind_some Option.bind_none List.length_replicate List.replicate_succ List.replicate_zero Nat.zero_le
end Go.Sim
namespace Go.Sim
open Go.RowKit
def acy (L : List Obj) (sel : Sel) : Option Nat → Obj → Prop
 | none, o' => o' = .li none []
 | some k, o' => match L[k]? with
  | some o => unO sel o' o
  | none => False
theorem SelOk.of {L L' : List Obj} {sel : Sel} (h : All2 (acy L sel) sel L') (hn : (sel.filterMap id).Nodup) : SelOk L sel L' := by
 refine ⟨h.length, fun i j k e1 e2 => ?_, fun i k o' e1 e2 => ?_, fun i o' e1 e2 => ?_⟩
 ·clear h
  induction sel generalizing i j with
  | nil => simp at e1
  | cons s sel ih =>
   have hmem : ∀ (m : Nat), sel[m]? = some (some k) → k ∈ sel.filterMap id := fun m e => List.mem_filterMap.2 ⟨some k, List.mem_of_getElem? e, rfl⟩
   have hn' : (sel.filterMap id).Nodup := by
    cases s with
    | none => simpa using hn
    | some q => rw [List.filterMap_cons_some (by rfl)] at hn; exact (List.nodup_cons.1 hn).2
   have hno : ∀ m, s = some k → sel[m]? = some (some k) → False := fun m e e' => by
    subst e
    rw [List.filterMap_cons_some (by rfl)] at hn
    exact (List.nodup_cons.1 hn).1 (hmem m e')
   cases i with
   | zero =>
    cases j with
    | zero => rfl
    | succ j => exact (hno j (by simpa using e1) (by simpa using e2)).elim
   | succ i =>
    cases j with
    | zero => exact (hno i (by simpa using e2) (by simpa using e1)).elim
    | succ j => rw [ih hn' i j (by simpa using e1) (by simpa using e2)]
 ·obtain ⟨o2, e3, r⟩ := h.get e1
  rw [e2] at e3; cases e3
  unfold acy at r
  simp only at r
  split at r
  ·rename_i o ho; exact ⟨o, ho, r⟩
  ·exact r.elim
 ·obtain ⟨o2, e3, r⟩ := h.get e1
  rw [e2] at e3; cases e3
  exact r
def wkL (P : Program) (L : List Obj) (sel : Sel) (l : List (Nat × DV)) : List (Nat × DV) → Prop
 | [] => True
 | (t, d') :: r => (match qQ t l with | some d => wkD P L sel d' d | none => False) ∧ wkL P L sel l r
def aiw : Option Obj → Bool
 | some (.st _) => true
 | _ => false
def X8 (c : Nat) (L : List Obj) (sel : Sel) : Bool := (List.range c).all fun id => !aiw L[id]? || sel[id]? == some (some id)
theorem U7 {c : Nat} {L : List Obj} {sel : Sel} (h : X8 c L sel = true) (id : Nat) (hid : id < c) (hs : ∃ cs, L[id]? = some (.st cs)) : sel[id]? = some (some id) := by
 have := List.all_eq_true.1 h id (List.mem_range.2 hid)
 obtain ⟨cs, hs⟩ := hs
 rw [hs] at this
 simpa [aiw] using this
theorem abY {P : Program} {n c : Nat} {l l' : List (Nat × DV)} {L L' : List Obj} (sel : Sel) (h1 : All2 (acy L sel) sel L') (h2 : (sel.filterMap id).Nodup) (h3 : X8 c L sel = true) (h4 : wkL P L sel l l') : wkS P ⟨n, c, l⟩ L l' L' := by
 refine ⟨sel, SelOk.of h1 h2, U7 h3, ?_⟩
 ·clear h1 h2 h3
  induction l' with
  | nil => intro p hp; simp at hp
  | cons q r ih =>
   obtain ⟨t, d'⟩ := q
   obtain ⟨h5, h6⟩ := h4
   intro p hp
   rcases List.mem_cons.1 hp with rfl | hp
   ·simp only
    cases hd : qQ t l with
    | none => rw [hd] at h5; exact h5.elim
    | some d => rw [hd] at h5; exact ⟨d, rfl, h5⟩
   ·exact ih h6 p hp
theorem agi {P : Program} {c : Nat} {Q : DV → List Obj → Prop} {r : DV} {L : List Obj} (sel : Sel) (r' : DV) (A' : List Obj) (h1 : All2 (acy L sel) sel A') (h2 : (sel.filterMap id).Nodup) (h3 : X8 c L sel = true) (h : wkD P L sel r' r) (hq : Q r' A') : aaw P c Q r L :=
 ⟨sel, r', A', SelOk.of h1 h2, U7 h3, h, hq⟩
section
variable (P : Program) (L : List Obj) (sel : Sel)
theorem ah3 (z : Nat) (rows : List (List PV)) (id lo n tot : Nat) : wkC P L sel (.p (.sl z rows)) (.ref id lo n tot) = (some id ∉ sel ∧ ∃ rs, zw L id tot = some rs ∧ rows = (rs.drop lo).take n ∧ ∀ te, L[id]?.bind y2 = some te → szT P te = some z) := rfl
theorem ahK (z z' : Nat) (r r' : List (List PV)) : wkC P L sel (.p (.sl z r)) (.p (.sl z' r')) = (z = z' ∧ r = r') := by
 unfold wkC unX; simp [unC, unB]
theorem aiD (z z' : Nat) (r r' : List (List PV)) : unX sel (.p (.sl z r)) (.p (.sl z' r')) = (z = z' ∧ r = r') := by
 unfold unX; simp [unC, unB]
end
theorem ahE (sel : Sel) (e e' : Option TypeId) (r r' : List (List PV)) : unO sel (.li e r) (.li e' r') = (e = e' ∧ Kq r r') := rfl
theorem aiF (sel : Sel) (c c' : List DV) : unO sel (.st c) (.st c') = All2 (unX sel) c c' := rfl
end Go.Sim
namespace Go.Sim
open Go.RowKit
section
variable {P : Program} {γ γ' : Pl} {L L' : List Obj} {h : Heap} {S S' : Nat → Prop} {sel : Sel}
structure Ren (γ : Pl) (L : List Obj) (sel : Sel) (γ' : Pl) (L' : List Obj) : Prop where
 at' : ∀ (i k : Nat), sel[i]? = some (some k) → γ' i = γ k
 lt : ∀ (i k : Nat), sel[i]? = some (some k) → i < L'.length
 st : ∀ (i k : Nat) (c : List DV), sel[i]? = some (some k) → L[k]? = some (.st c) → ∃ c', L'[i]? = some (.st c')
 li : ∀ (i k : Nat) (o' : Obj) (rows : List (List PV)), sel[i]? = some (some k) → L'[i]? = some o' → o'.isList rows → ∃ o, L[k]? = some o ∧ o.isList rows
def j8 (sel : Sel) (d' : DV) : Option DV := match d' with
 | .ref id lo n tot => match sel[id]? with
  | some (some k) => some (.ref k lo n tot)
  | _ => none
 | .cx _ _ => none
 | .mref _ => none
 | d => unB sel d
def kK (sel : Sel) : List DV → Option (List DV)
 | [] => some []
 | d :: l => match j8 sel d, kK sel l with
  | some d, some l => some (d :: l)
  | _, _ => none
def Z3 (sel : Sel) : DV → Option DV
 | .fn f pre cap => match kK sel pre, kK sel cap with
  | some a, some b => some (.fn f a b)
  | _, _ => none
 | d => j8 sel d
def QY (sel : Sel) : List DV → Option (List DV)
 | [] => some []
 | d :: l => match Z3 sel d, QY sel l with
  | some d, some l => some (d :: l)
  | _, _ => none
def XL (sel : Sel) : DV → Option DV
 | .agg xs => (QY sel xs).map .agg
 | d => Z3 sel d
def vU (sel : Sel) : List DV → Option (List DV)
 | [] => some []
 | d :: l => match XL sel d, vU sel l with
  | some d, some l => some (d :: l)
  | _, _ => none
def a3l (sel : Sel) : DV → Option DV
 | .tup xs => (vU sel xs).map .tup
 | d => XL sel d
theorem a95 (hs : ∀ b, S b → S' b) {x : PV} {v : Value} (hx : PR P S h x v) : PR P S' h x v := hx.mono fun _ hb => ⟨hs _ hb, rfl⟩
theorem adz (hs : ∀ b, S b → S' b) (R : Ren γ L sel γ' L') {d' d : DV} {v : Value} (e : j8 sel d' = some d) (hd : DB P S γ L h d v) : DB P S' γ' L' h d' v := by
 cases d' with
 | p x => cases e; exact a95 hs hd
 | dp row off =>
  cases e
  obtain ⟨b, o, cs, te, rw, h1, h2, h3, h4, h5⟩ := hd
  exact ⟨b, o, cs, te, rw, hs b h1, h2, h3, h4, fun j x u a c => a95 hs (h5 j x u a c)⟩
 | ptr id off =>
  unfold j8 unB at e
  cases hx : sel[id]? with
  | none => simp only [hx] at e; cases e
  | some s =>
   cases s with
   | none => simp only [hx] at e; cases e
   | some k =>
    simp only [hx] at e; cases e
    obtain ⟨b, h1, ⟨c, h2⟩, h3⟩ := hd
    exact ⟨b, (R.at' _ _ hx).trans h1, R.st _ _ _ hx h2, h3⟩
 | aref id off n =>
  unfold j8 unB at e
  cases hx : sel[id]? with
  | none => simp only [hx] at e; cases e
  | some s =>
   cases s with
   | none => simp only [hx] at e; cases e
   | some k =>
    simp only [hx] at e; cases e
    obtain ⟨b, h1, ⟨c, h2⟩, h3⟩ := hd
    exact ⟨b, (R.at' _ _ hx).trans h1, R.st _ _ _ hx h2, h3⟩
 | ep id i off tot =>
  unfold j8 unB at e
  cases hx : sel[id]? with
  | none => simp only [hx] at e; cases e
  | some s =>
   cases s with
   | none => simp only [hx] at e; cases e
   | some k =>
    simp only [hx] at e; cases e
    obtain ⟨k1, k2, k3⟩ := hd
    refine ⟨R.lt _ _ hx, k2, fun o' rows e1 e2 => ?_⟩
    obtain ⟨o, g1, g2⟩ := R.li _ _ _ _ hx e1 e2
    rw [R.at' _ _ hx]
    exact k3 o rows g1 g2
 | ref id lo n tot =>
  unfold j8 at e
  cases hx : sel[id]? with
  | none => simp only [hx] at e; cases e
  | some s =>
   cases s with
   | none => simp only [hx] at e; cases e
   | some k =>
    simp only [hx] at e; cases e
    obtain ⟨k1, k2, k3⟩ := hd
    refine ⟨R.lt _ _ hx, k2, fun o' rows e1 e2 => ?_⟩
    obtain ⟨o, g1, g2⟩ := R.li _ _ _ _ hx e1 e2
    unfold afH
    rw [R.at' _ _ hx]
    exact k3 o rows g1 g2
 | cx => cases e
 | mref => cases e
 | fn => cases e
 | agg => cases e
 | tup => cases e
theorem a2A (hs : ∀ b, S b → S' b) (R : Ren γ L sel γ' L') : ∀ {ds' ds : List DV} {vs : List Value}, kK sel ds' = some ds → All2 (DB P S γ L h) ds vs → All2 (DB P S' γ' L' h) ds' vs
 | [], _, _, e, hd => by cases e; cases hd; exact .nil
 | d' :: ds', _, _, e, hd => by
  unfold kK at e
  cases h1 : j8 sel d' with
  | none => simp only [h1] at e; cases e
  | some d =>
   cases h2 : kK sel ds' with
   | none => simp only [h1, h2] at e; cases e
   | some ds =>
    simp only [h1, h2] at e; cases e
    cases hd with
    | cons a b => exact .cons (adz hs R h1 a) (a2A hs R h2 b)
theorem yp {d d' : DV} (e : j8 sel d' = some d) : (∀ f a b, d ≠ .fn f a b) ∧ (∀ xs, d ≠ .agg xs) ∧ ∀ xs, d ≠ .tup xs := by
 cases d' <;> (simp only [j8, unB] at e) <;> (try (repeat' split at e)) <;> cases e <;> exact ⟨fun _ _ _ h => (by cases h), fun _ h => (by cases h), fun _ h => (by cases h)⟩
theorem ae4 (hs : ∀ b, S b → S' b) (R : Ren γ L sel γ' L') {d' d : DV} {v : Value} (e : Z3 sel d' = some d) (hd : DC P S γ L h d v) : DC P S' γ' L' h d' v := by
 have key : ∀ d', (∀ f a b, d' ≠ .fn f a b) → j8 sel d' = some d → DC P S' γ' L' h d' v := by
  intro d' hn e
  have hb : DB P S γ L h d v := by
   have := yp e
   cases d <;> first | exact hd | exact absurd rfl (this.1 _ _ _) | exact hd.elim
  have := adz hs R e hb
  cases d' <;> first | exact this | exact absurd rfl (hn _ _ _)
 cases d' with
 | fn f pre cap =>
  unfold Z3 at e
  cases h1 : kK sel pre with
  | none => simp only [h1] at e; cases e
  | some p =>
   cases h2 : kK sel cap with
   | none => simp only [h1, h2] at e; cases e
   | some c =>
    simp only [h1, h2] at e; cases e
    obtain ⟨as, bs, rfl, a1, a2⟩ := hd
    exact ⟨as, bs, rfl, a2A hs R h1 a1, a2A hs R h2 a2⟩
 | _ => exact key _ (by intro f a b e; cases e) e
theorem a34 (hs : ∀ b, S b → S' b) (R : Ren γ L sel γ' L') : ∀ {ds' ds : List DV} {vs : List Value}, QY sel ds' = some ds → All2 (DC P S γ L h) ds vs → All2 (DC P S' γ' L' h) ds' vs
 | [], _, _, e, hd => by cases e; cases hd; exact .nil
 | d' :: ds', _, _, e, hd => by
  unfold QY at e
  cases h1 : Z3 sel d' with
  | none => simp only [h1] at e; cases e
  | some d =>
   cases h2 : QY sel ds' with
   | none => simp only [h1, h2] at e; cases e
   | some ds =>
    simp only [h1, h2] at e; cases e
    cases hd with
    | cons a b => exact .cons (ae4 hs R h1 a) (a34 hs R h2 b)
theorem wE {d d' : DV} (e : Z3 sel d' = some d) : (∀ xs, d ≠ .agg xs) ∧ ∀ xs, d ≠ .tup xs := by
 cases d' with
 | fn f pre cap =>
  simp only [Z3] at e
  split at e
  ·cases e; exact ⟨fun _ h => (by cases h), fun _ h => (by cases h)⟩
  ·cases e
 | agg xs => cases e
 | tup xs => cases e
 | p x => exact (yp (sel := sel) (d' := .p x) e).2
 | ptr x y => exact (yp (sel := sel) (d' := .ptr x y) e).2
 | ep x y z w => exact (yp (sel := sel) (d' := .ep x y z w) e).2
 | dp x y => exact (yp (sel := sel) (d' := .dp x y) e).2
 | ref x y z w => exact (yp (sel := sel) (d' := .ref x y z w) e).2
 | aref x y z => exact (yp (sel := sel) (d' := .aref x y z) e).2
 | mref x => cases e
 | cx x y => cases e
theorem ad7 (hs : ∀ b, S b → S' b) (R : Ren γ L sel γ' L') {d' d : DV} {v : Value} (e : XL sel d' = some d) (hd : D1 P S γ L h d v) : D1 P S' γ' L' h d' v := by
 have key : ∀ d', (∀ xs, d' ≠ .agg xs) → Z3 sel d' = some d → D1 P S' γ' L' h d' v := by
  intro d' hn e
  exact ZY (ae4 hs R e (Ke hd (wE e).1))
 cases d' with
 | agg xs =>
  simp only [XL] at e
  cases h1 : QY sel xs with
  | none => rw [h1] at e; cases e
  | some ys =>
   rw [h1] at e; cases e
   obtain ⟨vs, rfl, a1⟩ := hd
   exact ⟨vs, rfl, a34 hs R h1 a1⟩
 | _ => exact key _ (by intro xs e; cases e) e
theorem aal (hs : ∀ b, S b → S' b) (R : Ren γ L sel γ' L') : ∀ {ds' ds : List DV} {vs : List Value}, vU sel ds' = some ds → All2 (D1 P S γ L h) ds vs → All2 (D1 P S' γ' L' h) ds' vs
 | [], _, _, e, hd => by cases e; cases hd; exact .nil
 | d' :: ds', _, _, e, hd => by
  unfold vU at e
  cases h1 : XL sel d' with
  | none => simp only [h1] at e; cases e
  | some d =>
   cases h2 : vU sel ds' with
   | none => simp only [h1, h2] at e; cases e
   | some ds =>
    simp only [h1, h2] at e; cases e
    cases hd with
    | cons a b => exact .cons (ad7 hs R h1 a) (aal hs R h2 b)
theorem afL {d d' : DV} (e : XL sel d' = some d) : ∀ xs, d ≠ .tup xs := by
 cases d' with
 | agg xs =>
  simp only [XL] at e
  cases h1 : QY sel xs with
  | none => rw [h1] at e; cases e
  | some ys => rw [h1] at e; cases e; exact fun _ h => (by cases h)
 | tup xs => cases e
 | p x => exact (wE (sel := sel) (d' := .p x) e).2
 | ptr x y => exact (wE (sel := sel) (d' := .ptr x y) e).2
 | ep x y z w => exact (wE (sel := sel) (d' := .ep x y z w) e).2
 | dp x y => exact (wE (sel := sel) (d' := .dp x y) e).2
 | ref x y z w => exact (wE (sel := sel) (d' := .ref x y z w) e).2
 | aref x y z => exact (wE (sel := sel) (d' := .aref x y z) e).2
 | mref x => cases e
 | cx x y => cases e
 | fn x y z => exact (wE (sel := sel) (d' := .fn x y z) e).2
theorem acA (hs : ∀ b, S b → S' b) (R : Ren γ L sel γ' L') {d' d : DV} {v : Value} (e : a3l sel d' = some d) (hd : DR P S γ L h d v) : DR P S' γ' L' h d' v := by
 have key : ∀ d', (∀ xs, d' ≠ .tup xs) → XL sel d' = some d → DR P S' γ' L' h d' v := by
  intro d' hn e
  have h1 : D1 P S γ L h d v := by
   have := afL e
   cases d <;> first | exact hd | exact absurd rfl (this _)
  exact jH (ad7 hs R e h1)
 cases d' with
 | tup xs =>
  simp only [a3l] at e
  cases h1 : vU sel xs with
  | none => rw [h1] at e; cases e
  | some ys =>
   rw [h1] at e; cases e
   obtain ⟨vs, rfl, a1⟩ := hd
   exact ⟨vs, rfl, aal hs R h1 a1⟩
 | _ => exact key _ (by intro xs e; cases e) e
def YU (sel : Sel) : Obj → Obj → Prop
 | .st cells, .st cells' => QY sel cells = some cells'
 | .li e rows, .li e' rows' => e = e' ∧ rows = rows'
 | .fz e rows, .fz e' rows' => e = e' ∧ rows = rows'
 | .dead, .dead => True
 | _, _ => False
theorem Kp {o' o : Obj} (e : YU sel o' o) : o'.owns = o.owns := by
 cases o' <;> cases o <;> first | exact e.elim | rfl | (obtain ⟨rfl, rfl⟩ := e; rfl)
theorem a1N {o' o : Obj} {rows : List (List PV)} (e : YU sel o' o) (hl : o'.isList rows) : o.isList rows := by
 cases o' <;> cases o <;> first | exact e.elim | exact hl.elim | (obtain ⟨rfl, rfl⟩ := e; exact hl)
theorem a1x (hs : ∀ b, S b → S' b) {b q : Nat} {te : TypeId} {rows : List (List PV)} (hr : Rows P S h b q te rows) : Rows P S' h b q te rows := by
 obtain ⟨cs, z, a1, a2, a3, a4, a5, a6, a7⟩ := hr
 exact ⟨cs, z, a1, a2, a3, a4, a5, a6, fun i r j x u b1 b2 b3 => a95 hs (a7 i r j x u b1 b2 b3)⟩
theorem adH (hs : ∀ b, S b → S' b) (R : Ren γ L sel γ' L') {i k : Nat} {o' o : Obj} (hi : sel[i]? = some (some k)) (e : YU sel o' o) (ho : OR P S γ L h k o) : OR P S' γ' L' h i o' := by
 cases o' with
 | st cells =>
  cases o with
  | st cells' =>
   obtain ⟨b, te, vs, g1, g2, g3⟩ := ho
   exact ⟨b, te, vs, (R.at' _ _ hi).trans g1, g2, a34 hs R e g3⟩
  | _ => exact e.elim
 | li te rows =>
  cases o with
  | li te' rows' =>
   obtain ⟨rfl, rfl⟩ := e
   cases te with
   | none => exact ⟨ho.1, (R.at' _ _ hi).trans ho.2⟩
   | some te =>
    obtain ⟨b, q, g1, g2⟩ := ho
    exact ⟨b, q, (R.at' _ _ hi).trans g1, a1x hs g2⟩
  | _ => exact e.elim
 | fz te rows =>
  cases o with
  | fz te' rows' =>
   obtain ⟨rfl, rfl⟩ := e
   cases te with
   | none => exact ⟨ho.1, (R.at' _ _ hi).trans ho.2⟩
   | some te =>
    obtain ⟨b, q, g1, g2, g3⟩ := ho
    exact ⟨b, q, (R.at' _ _ hi).trans g1, hs b g2, a1x hs g3⟩
  | _ => exact e.elim
 | mp es => cases o <;> exact e.elim
 | dead => trivial
end
structure Merge (L : List Obj) (sel : List Nat) (A A' : List Obj) (back : Sel) (L2 : List Obj) : Prop where
 len : back.length = L2.length
 le : L.length ≤ L2.length
 kept : ∀ i, i < L.length → i ∉ sel → back[i]? = some none ∧ L2[i]? = L[i]?
 st : ∀ (k i : Nat) (c : List DV), sel[k]? = some i → A[k]? = some (.st c) → back[i]? = some (some k)
 gone : ∀ (k i : Nat), sel[k]? = some i → (∀ c, A[k]? ≠ some (.st c)) → L2[i]? = some .dead ∧ back[i]? = some none
 old : ∀ (i k : Nat), back[i]? = some (some k) → (i ∈ sel ∨ L.length ≤ i) ∧ ∃ o o', A'[k]? = some o ∧ L2[i]? = some o' ∧ YU back o' o
 new : ∀ i, L.length ≤ i → i < L2.length → ∃ k, back[i]? = some (some k)
 inj : ∀ (i j k : Nat), back[i]? = some (some k) → back[j]? = some (some k) → i = j
section
variable {P : Program} {γ : Pl} {L : List Obj} {h : Heap} {h0 : Heap} {W0 : Ent}
def uL (P : Program) (L : List Obj) (sel : Sel) : DV → DV → Prop
 | .p (.sl z rows), .ref id lo n tot => (∃ e rs, L[id]? = some (.fz e rs)) ∧ ∃ rs, zw L id tot = some rs ∧ rows = (rs.drop lo).take n ∧ ∀ te, L[id]?.bind y2 = some te → szT P te = some z
 | .p (.sl _ rows), .p (.v (.slice none 0 0)) => rows = []
 | .p (.sl z rows), .cx z' rows' => z = z' ∧ rows = rows'
 | d', d => a3l sel d' = some d
theorem a92 {S' : Nat → Prop} {γ' : Pl} {A : List Obj} {sel : Sel} (H : Hp P h0 W0 γ L h) (hs : ∀ b, qd W0 γ L h b → S' b) (R : Ren γ L sel γ' A) {d d' : DV} {v : Value} (e : uL P L sel d' d) (hd : DR P (qd W0 γ L h) γ L h d v) : ∃ u, VW v u ∧ DR P S' γ' A h d' u := by
 unfold uL at e
 split at e
 ·rename_i z rows id lo n tot
  obtain ⟨⟨te, rs', e1⟩, rs, e2, rfl, e3⟩ := e
  refine a7s H hd e2 e3 (fun b x hg hlt => ?_) hs
  have ho := H.obj id _ e1
  cases te with
  | none => rw [ho.2] at hg; cases hg
  | some te =>
   obtain ⟨b', o', g', hS, _⟩ := ho
   rw [hg] at g'; cases g'
   exact hs b hS
 ·subst e
  have : v = .slice none 0 0 := PR.scal (P := P) (S := qd W0 γ L h) (h := h) hd
  subst this
  exact ⟨_, .refl _, PR.nil⟩
 ·obtain ⟨rfl, rfl⟩ := e
  obtain ⟨_, ⟨u, rfl, h1, h2⟩ | ⟨_, _, rfl, h2⟩⟩ := hd
  ·exact ⟨u, .exact h1, h2.mono fun b hb => ⟨hs b hb, rfl⟩⟩
  ·exact ⟨_, .refl _, h2.mono fun b hb => ⟨hs b hb, rfl⟩⟩
 ·exact ⟨v, .refl v, acA hs R e hd⟩
theorem Xi {S' : Nat → Prop} {γ' : Pl} {A : List Obj} {sel : Sel} (H : Hp P h0 W0 γ L h) (hs : ∀ b, qd W0 γ L h b → S' b) (R : Ren γ L sel γ' A) : ∀ {ds' ds : List DV} {vs : List Value}, All2 (uL P L sel) ds' ds → All2 (DR P (qd W0 γ L h) γ L h) ds vs → ∃ us, All2 VW vs us ∧ All2 (DR P S' γ' A h) ds' us
 | _, _, _, .nil, .nil => ⟨[], .nil, .nil⟩
 | _, _, _, .cons e t, .cons hd t' => by
  obtain ⟨u, a1, a2⟩ := a92 H hs R e hd
  obtain ⟨us, b1, b2⟩ := Xi H hs R t t'
  exact ⟨u :: us, .cons a1 b1, .cons a2 b2⟩
theorem WR : ∀ {l : List Nat}, l.Nodup → ∀ {i j k : Nat}, l[i]? = some k → l[j]? = some k → i = j
 | [], _, i, j, k, e1, _ => by simp at e1
 | a :: l, hn, i, j, k, e1, e2 => by
  obtain ⟨h1, h2⟩ := List.nodup_cons.1 hn
  cases i with
  | zero =>
   cases j with
   | zero => rfl
   | succ j => simp at e1 e2; subst e1; exact absurd (List.mem_of_getElem? e2) h1
  | succ i =>
   cases j with
   | zero => simp at e1 e2; subst e2; exact absurd (List.mem_of_getElem? e1) h1
   | succ j => exact congrArg (· + 1) (WR (k := k) h2 (by simpa using e1) (by simpa using e2))
def DCallWF (P : Program) (f : FuncId) (ds : List DV) (L : List Obj) (wr : List Nat) (K : DV → List Obj → Prop) : Prop :=
 ∀ h0 W0 γ h vs, Hp P h0 W0 γ L h → All2 (DR P (qd W0 γ L h) γ L h) ds vs → ADoes P f vs h (fun v h' => Aft P h0 W0 γ L h K v h' ∧ ∀ b, b < h.next → (∀ i ∈ wr, ∀ x, γ i ≠ some (b, x)) → h'.get b = h.get b)
theorem DCallWF.weak {f : FuncId} {ds : List DV} {wr : List Nat} {K : DV → List Obj → Prop} (h : DCallWF P f ds L wr K) : a0n P f ds L K := fun h0 W0 γ hh vs H hr => (h h0 W0 γ hh vs H hr).mono fun _ _ q => q.1
theorem a7O {f : FuncId} {ds ds' : List DV} {A : List Obj} {K : DV → List Obj → Prop} {Q : DV → List Obj → Prop} (sel : List Nat) (hc : DCalls P f ds' A Q) (hnd : sel.Nodup) (hA : All2 (fun o' (i : Nat) => ∃ o, L[i]? = some o ∧ YU (sel.map some) o' o) A sel) (ha : All2 (uL P L (sel.map some)) ds' ds)
  (hq : ∀ r A', Q r A' → ∃ back L2 r', Merge L sel A A' back L2 ∧ a3l back r' = some r ∧ K r' L2) : DCallWF P f ds L sel K := by
 intro h0 W0 γ h vs H hr
 have hlen : A.length = sel.length := hA.length
 let γA : Pl := fun i => (sel[i]?).bind γ
 have hat : ∀ (i k : Nat), (sel.map some)[i]? = some (some k) ↔ sel[i]? = some k := fun i k => by
  rw [List.getElem?_map]
  cases sel[i]? <;> simp
 have hobj : ∀ {i : Nat} {o' : Obj}, A[i]? = some o' → ∃ k o, sel[i]? = some k ∧ L[k]? = some o ∧ YU (sel.map some) o' o := fun {i o'} e => by
  obtain ⟨k, e1, o, e2, e3⟩ := hA.get e
  exact ⟨k, o, e1, e2, e3⟩
 have hγA : ∀ {i k : Nat}, sel[i]? = some k → γA i = γ k := fun {i k} e => by show (sel[i]?).bind γ = γ k; rw [e]; rfl
 have hinj : ∀ {i j k : Nat}, sel[i]? = some k → sel[j]? = some k → i = j := fun {i j k} e1 e2 => by
  have hi := (List.getElem?_eq_some_iff.1 e1).1
  have hj := (List.getElem?_eq_some_iff.1 e2).1
  exact WR hnd e1 e2
 have R : Ren γ L (sel.map some) γA A := by
  refine ⟨fun i k e => hγA ((hat i k).1 e), fun i k e => by have := (List.getElem?_eq_some_iff.1 e).1; rw [List.length_map] at this; omega, fun i k c e e2 => ?_, fun i k o' rows e e2 e3 => ?_⟩
  ·have e' := (hat i k).1 e
   have hi : i < A.length := by have := (List.getElem?_eq_some_iff.1 e').1; omega
   obtain ⟨k', o, e3, e4, e5⟩ := hobj (List.getElem?_eq_getElem hi)
   rw [e'] at e3; cases e3
   rw [e2] at e4; cases e4
   rw [List.getElem?_eq_getElem hi]
   cases hA' : A[i] <;> rw [hA'] at e5 <;> first | exact ⟨_, rfl⟩ | exact e5.elim
  ·have e' := (hat i k).1 e
   obtain ⟨k', o, e4, e5, e6⟩ := hobj e2
   rw [e'] at e4; cases e4
   exact ⟨o, e5, a1N e6 e3⟩
 let Wn : Nat → Prop := fun b => ∃ i o x, A[i]? = some o ∧ o.owns = true ∧ γA i = some (b, x)
 let W1 : Ent := { start := h.next, W := Wn, A := fun b => qd W0 γ L h b ∨ Wn b, pin := fun i b => γA i = some (b, 0) ∧ ∃ c, A[i]? = some (.st c), cnt := A.length, few := fun i b e => (by
   obtain ⟨_, c, hc⟩ := e
   exact (List.getElem?_eq_some_iff.1 hc).1), sub := fun b e => .inr e }
 have hWn : ∀ {b}, Wn b → ∃ k o x i, sel[i]? = some k ∧ L[k]? = some o ∧ o.owns = true ∧ γ k = some (b, x) ∧ (∃ o', A[i]? = some o') := fun {b} ⟨i, o', x, e1, e2, e3⟩ => by
  obtain ⟨k, o, e4, e5, e6⟩ := hobj e1
  exact ⟨k, o, x, i, e4, e5, by rw [← Kp e6]; exact e2, by rw [← hγA e4]; exact e3, o', e1⟩
 have hS : ∀ b, qd W0 γ L h b → qd W1 γA A h b := fun b hb => by
  refine ⟨hb.1, .inr (.inl hb), fun i o' x e1 e2 e3 => ?_⟩
  obtain ⟨k, o, e4, e5, e6⟩ := hobj e1
  rw [hγA e4] at e3
  exact hb.2.2 k o x e5 (by rw [← Kp e6]; exact e2) e3
 have hlt : ∀ {k : Nat} {o : Obj} {b x : Nat}, L[k]? = some o → o.owns = true → γ k = some (b, x) → b < h.next := fun {k o b x} e e2 e3 => (OR.lt (fun b hb => hb.1) (H.obj k o e) e3 e2).1
 have HA : Hp P h W1 γA A h := by
  refine ⟨rfl, fun i b e => e, fun i o' e => ?_, fun i j o1 o2 b x x' e1 e2 d1 d2 g1 g2 => ?_, fun i x e => ?_, fun i o' b x e d g => .inr ⟨i, o', x, e, d, g⟩, Nat.le_refl _, fun _ _ _ => rfl⟩
  ·obtain ⟨k, o, e4, e5, e6⟩ := hobj e
   exact adH hS R ((hat i k).2 e4) e6 (H.obj k o e5)
  ·obtain ⟨k1, q1, a1, a2, a3⟩ := hobj e1
   obtain ⟨k2, q2, b1, b2, b3⟩ := hobj e2
   rw [hγA a1] at g1
   rw [hγA b1] at g2
   have := H.inj k1 k2 q1 q2 b x x' a2 b2 (by rw [← Kp a3]; exact d1) (by rw [← Kp b3]; exact d2) g1 g2
   subst this
   exact hinj a1 b1
  ·have e' : (sel[i]?).bind γ = some x := e
   cases hi : sel[i]? with
   | none => rw [hi] at e'; cases e'
   | some k => have := (List.getElem?_eq_some_iff.1 hi).1; omega
 obtain ⟨us, hw, hu⟩ := Xi (S' := qd W1 γA A h) H hS R ha hr
 refine ADoes.of (ACalls.args hw ((hc W1 γA h us (Nat.le_refl _) HA hu).mono ?_))
 rintro v h' ⟨γ2, r, A', q, H2, hd⟩
 obtain ⟨back, L2, r', M, hr', hK⟩ := hq r A' q
 let γ3 : Pl := fun i => match back[i]? with
  | some (some k) => γ2 k
  | _ => if i ∈ sel then none else γ i
 have h3b : ∀ {i k : Nat}, back[i]? = some (some k) → γ3 i = γ2 k := fun {i k} e => by show (match back[i]? with | some (some k) => γ2 k | _ => _) = _; rw [e]
 have h3k : ∀ {i : Nat}, i < L.length → i ∉ sel → γ3 i = γ i := fun {i} h1 h2 => by show (match back[i]? with | some (some k) => γ2 k | _ => _) = _; rw [(M.kept i h1 h2).1]; simp [h2]
 have hn : h.next ≤ h'.next := H2.next
 have hfr : ∀ b, b < h.next → ¬ Wn b → h'.get b = h.get b := fun b hb hw => H2.frame b hb hw
 have hown : ∀ {i : Nat} {o : Obj} {b x : Nat}, L[i]? = some o → i ∉ sel → o.owns = true → γ i = some (b, x) → b < h.next ∧ ¬ Wn b := fun {i o b x} e1 e2 e3 e4 => by
  refine ⟨hlt e1 e3 e4, fun hw => ?_⟩
  obtain ⟨k, o', x', j, f1, f2, f3, f4, _⟩ := hWn hw
  have := H.inj i k o o' b x x' e1 f2 e3 f3 e4 f4
  subst this
  exact e2 (List.mem_of_getElem? f1)
 have hback : ∀ {i : Nat} {o' : Obj} {k : Nat}, L2[i]? = some o' → back[i]? = some (some k) → o'.owns = true → ∃ o : Obj, A'[k]? = some o ∧ o.owns = true := fun {i o' k} e1 e2 e3 => by
  obtain ⟨_, o, o2, f1, f2, f3⟩ := M.old i k e2
  rw [e1] at f2; cases f2
  exact ⟨o, f1, by rw [← Kp f3]; exact e3⟩
 have hcase : ∀ {i : Nat} {o' : Obj}, L2[i]? = some o' → (i < L.length ∧ i ∉ sel ∧ L[i]? = some o') ∨ (∃ k, back[i]? = some (some k)) ∨ o' = .dead := fun {i o'} e => by
  by_cases h1 : i < L.length
  ·by_cases h2 : i ∈ sel
   ·obtain ⟨k, hk⟩ := List.mem_iff_getElem?.1 h2
    have hkA : k < A.length := by rw [hlen]; exact (List.getElem?_eq_some_iff.1 hk).1
    by_cases h3 : ∃ c, A[k]? = some (.st c)
    ·obtain ⟨c, h3⟩ := h3
     exact .inr (.inl ⟨k, M.st k i c hk h3⟩)
    ·have := (M.gone k i hk fun c hc => h3 ⟨c, hc⟩).1
     rw [e] at this; cases this
     exact .inr (.inr rfl)
   ·exact .inl ⟨h1, h2, by rw [← (M.kept i h1 h2).2]; exact e⟩
  ·exact .inr (.inl (M.new i (by omega) (List.getElem?_eq_some_iff.1 e).1))
 have hSf : ∀ b, qd W1 γ2 A' h' b → qd W0 γ3 L2 h' b := fun b hb => by
  obtain ⟨c1, c2, c3⟩ := hb
  refine ⟨c1, ?_, fun i o' x e1 e2 e3 => ?_⟩
  ·rcases c2 with c2 | c2 | c2
   ·have c2' : h.next ≤ b := c2
    exact .inl (by rw [H.start]; exact Nat.le_trans H.next c2')
   ·exact c2.2.1
   ·obtain ⟨k, o, x, i, f1, f2, f3, f4, _⟩ := hWn c2
    exact H.allowed f2 f3 f4
  ·rcases hcase e1 with ⟨g1, g2, g3⟩ | ⟨k, g⟩ | rfl
   ·rw [h3k g1 g2] at e3
    have := hown g3 g2 e2 e3
    rcases c2 with c2 | c2 | c2
    ·have c2' : h.next ≤ b := c2
     omega
    ·exact c2.2.2 i o' x g3 e2 e3
    ·exact this.2 c2
   ·obtain ⟨o, f1, f2⟩ := hback e1 g e2
    rw [h3b g] at e3
    exact c3 k o x f1 f2 e3
   ·cases e2
 have c : Carry W0 γ L h γ3 L2 h' := by
  refine ⟨fun b hb => ?_, M.le, fun i b e ⟨c, hc⟩ => ?_, fun i b e ⟨c, hc⟩ => ?_, fun i o' rows' hi e hl => ?_⟩
  ·have hnw : ¬ Wn b := fun hw => by
    obtain ⟨k, o, x, i, f1, f2, f3, f4, _⟩ := hWn hw
    exact hb.2.2 k o x f2 f3 f4
   refine ⟨⟨Nat.lt_of_lt_of_le hb.1 hn, hb.2.1, fun i o' x e1 e2 e3 => ?_⟩, hfr b hb.1 hnw⟩
   rcases hcase e1 with ⟨g1, g2, g3⟩ | ⟨k, g⟩ | rfl
   ·rw [h3k g1 g2] at e3
    exact hb.2.2 i o' x g3 e2 e3
   ·obtain ⟨o, f1, f2⟩ := hback e1 g e2
    rw [h3b g] at e3
    rcases H2.new k o b x f1 f2 e3 with q | q
    ·have := hb.1; omega
    ·exact hnw q
   ·cases e2
  ·have hiL : i < L.length := (List.getElem?_eq_some_iff.1 hc).1
   by_cases h2 : i ∈ sel
   ·obtain ⟨k, hk⟩ := List.mem_iff_getElem?.1 h2
    have hkA : k < A.length := by rw [hlen]; exact (List.getElem?_eq_some_iff.1 hk).1
    obtain ⟨k', o, f1, f2, f3⟩ := hobj (List.getElem?_eq_getElem hkA)
    rw [hk] at f1; cases f1
    rw [hc] at f2; cases f2
    have hst : ∃ c', A[k]? = some (.st c') := by
     rw [List.getElem?_eq_getElem hkA]
     cases hA' : A[k] <;> rw [hA'] at f3 <;> first | exact ⟨_, rfl⟩ | exact f3.elim
    obtain ⟨c', hc'⟩ := hst
    have hb := M.st k i c' hk hc'
    have hp := H2.pin k b ⟨by rw [hγA hk]; exact e, c', hc'⟩
    refine ⟨(h3b hb).trans hp.1, ?_⟩
    obtain ⟨c2, hc2⟩ := hp.2
    obtain ⟨_, o, o2, g1, g2, g3⟩ := M.old i k hb
    rw [hc2] at g1; cases g1
    rw [g2]
    cases o2 <;> first | exact ⟨_, rfl⟩ | exact g3.elim
   ·exact ⟨(h3k hiL h2).trans e, c, by rw [(M.kept i hiL h2).2]; exact hc⟩
  ·have hiL : i < L.length := (List.getElem?_eq_some_iff.1 hc).1
   by_cases h2 : i ∈ sel
   ·obtain ⟨k, hk⟩ := List.mem_iff_getElem?.1 h2
    have hkA : k < A.length := by rw [hlen]; exact (List.getElem?_eq_some_iff.1 hk).1
    obtain ⟨k', o, f1, f2, f3⟩ := hobj (List.getElem?_eq_getElem hkA)
    rw [hk] at f1; cases f1
    rw [hc] at f2; cases f2
    cases hA' : A[k] <;> rw [hA'] at f3 <;> exact f3.elim
   ·exact ⟨(h3k hiL h2).trans e, c, by rw [(M.kept i hiL h2).2]; exact hc⟩
  ·rcases hcase e with ⟨g1, g2, g3⟩ | ⟨k, g⟩ | rfl
   ·exact ⟨o', rows', g3, hl, Nat.le_refl _, fun _ => ⟨h3k g1 g2, fun _ hz => hz⟩⟩
   ·exfalso
    have h2 : i ∈ sel := by
     rcases (M.old i k g).1 with q | q
     ·exact q
     ·omega
    obtain ⟨k2, hk2⟩ := List.mem_iff_getElem?.1 h2
    have hkA : k2 < A.length := by rw [hlen]; exact (List.getElem?_eq_some_iff.1 hk2).1
    by_cases h3 : ∃ c, A[k2]? = some (.st c)
    ·obtain ⟨c, h3⟩ := h3
     have hb := M.st k2 i c hk2 h3
     rw [g] at hb; cases hb
     obtain ⟨k', o, f1, f2, f3⟩ := hobj h3
     rw [hk2] at f1; cases f1
     cases o with
     | st c0 =>
      have ho := H.obj i _ f2
      obtain ⟨b, te, vs, p1, _⟩ := ho
      have hp := H2.pin k b ⟨by rw [hγA hk2]; exact p1, c, h3⟩
      obtain ⟨c2, hc2⟩ := hp.2
      obtain ⟨_, o3, o4, m1, m2, m3⟩ := M.old i k g
      rw [hc2] at m1; cases m1
      rw [e] at m2; cases m2
      cases o' <;> first | exact m3.elim | exact hl.elim
     | _ => exact f3.elim
    ·have := (M.gone k2 i hk2 fun c hc => h3 ⟨c, hc⟩).2
     rw [g] at this; cases this
   ·exact hl.elim
 have R2 : Ren γ2 A' back γ3 L2 := by
  refine ⟨fun i k e => h3b e, fun i k e => by rw [← M.len]; exact (List.getElem?_eq_some_iff.1 e).1, fun i k c e e2 => ?_, fun i k o' rows e e2 e3 => ?_⟩
  ·obtain ⟨_, o, o2, f1, f2, f3⟩ := M.old i k e
   rw [e2] at f1; cases f1
   rw [f2]
   cases o2 <;> first | exact ⟨_, rfl⟩ | exact f3.elim
  ·obtain ⟨_, o, o2, f1, f2, f3⟩ := M.old i k e
   rw [e2] at f2; cases f2
   exact ⟨o, f1, a1N f3 e3⟩
 refine ⟨⟨γ3, r', L2, hK, ?_, c, acA hSf R2 hr' hd⟩, fun b hb hne => hfr b hb fun ⟨i, o, x, e1, e2, e3⟩ => by
  have e3' : (sel[i]?).bind γ = some (b, x) := e3
  cases hi : sel[i]? with
  | none => rw [hi] at e3'; cases e3'
  | some k => rw [hi] at e3'; exact hne k (List.mem_of_getElem? hi) x e3'⟩
 refine ⟨H.start, fun i b e => ?_, fun i o' e => ?_, fun i j o1 o2 b x x' e1 e2 d1 d2 g1 g2 => ?_, fun i x e => ?_, fun i o' b x e d g => ?_, Nat.le_trans H.next hn, fun b hb hw => ?_⟩
 ·obtain ⟨p1, p2⟩ := H.pin i b e
  exact c.st i b p1 p2
 ·rcases hcase e with ⟨g1, g2, g3⟩ | ⟨k, g⟩ | rfl
  ·exact H.others c g3 (h3k g1 g2) fun b x hg hd => by
    obtain ⟨q1, q2⟩ := hown g3 g2 hd hg
    exact hfr b q1 q2
  ·obtain ⟨_, o, o2, f1, f2, f3⟩ := M.old i k g
   rw [e] at f2; cases f2
   exact adH hSf R2 g f3 (H2.obj k o f1)
  ·trivial
 ·have side : ∀ {i j : Nat} {o1 o2 : Obj} {b x x' k : Nat}, L2[i]? = some o1 → L2[j]? = some o2 → o1.owns = true → o2.owns = true → γ3 i = some (b, x) → γ3 j = some (b, x') → (i < L.length ∧ i ∉ sel ∧ L[i]? = some o1) → back[j]? = some (some k) → False := by
   intro i j o1 o2 b x x' k e1 e2 d1 d2 g1 g2 hi hj
   obtain ⟨i1, i2, i3⟩ := hi
   rw [h3k i1 i2] at g1
   obtain ⟨q1, q2⟩ := hown i3 i2 d1 g1
   obtain ⟨o, f1, f2⟩ := hback e2 hj d2
   rw [h3b hj] at g2
   rcases H2.new k o b x' f1 f2 g2 with q | q
   ·omega
   ·exact q2 q
  rcases hcase e1 with c1 | ⟨k1, c1⟩ | rfl <;> rcases hcase e2 with c2 | ⟨k2, c2⟩ | rfl
  ·obtain ⟨i1, i2, i3⟩ := c1
   obtain ⟨j1, j2, j3⟩ := c2
   rw [h3k i1 i2] at g1
   rw [h3k j1 j2] at g2
   exact H.inj i j o1 o2 b x x' i3 j3 d1 d2 g1 g2
  ·exact (side e1 e2 d1 d2 g1 g2 c1 c2).elim
  ·cases d2
  ·exact (side e2 e1 d2 d1 g2 g1 c2 c1).elim
  ·obtain ⟨q1, f1, f2⟩ := hback e1 c1 d1
   obtain ⟨q2, m1, m2⟩ := hback e2 c2 d2
   rw [h3b c1] at g1
   rw [h3b c2] at g2
   have := H2.inj k1 k2 q1 q2 b x x' f1 m1 f2 m2 g1 g2
   subst this
   exact M.inj i j k1 c1 c2
  ·cases d2
  ·cases d1
  ·cases d1
  ·cases d1
 ·rw [← M.len]
  have e' : (match back[i]? with | some (some k) => γ2 k | _ => if i ∈ sel then none else γ i) = some x := e
  split at e'
  ·rename_i k hk; exact (List.getElem?_eq_some_iff.1 hk).1
  ·split at e'
   ·cases e'
   ·have := H.dom i x e'
    rw [M.len]; exact Nat.lt_of_lt_of_le this M.le
 ·rcases hcase e with ⟨g1, g2, g3⟩ | ⟨k, g'⟩ | rfl
  ·rw [h3k g1 g2] at g
   exact H.new i o' b x g3 d g
  ·obtain ⟨o, f1, f2⟩ := hback e g' d
   rw [h3b g'] at g
   rcases H2.new k o b x f1 f2 g with q | q
   ·exact .inl (Nat.le_trans H.next q)
   ·obtain ⟨k, o, x, j, f1, f2, f3, f4, _⟩ := hWn q
    exact H.new k o b x f2 f3 f4
  ·cases d
 ·by_cases hwn : Wn b
  ·obtain ⟨k, o, x, j, f1, f2, f3, f4, _⟩ := hWn hwn
   rcases H.new k o b x f2 f3 f4 with q | q
   ·omega
   ·exact absurd q hw
  ·rw [hfr b (Nat.lt_of_lt_of_le hb H.next) hwn]; exact H.frame b hb hw
theorem a6P {f : FuncId} {ds ds' : List DV} {K : DV → List Obj → Prop} {Q : DV → List Obj → Prop} (hc : DCalls P f ds' [] Q) (ha : All2 (a7P P L true) ds' ds) (hq : ∀ r A', Q r A' → A' = [] ∧ aa8 r = true ∧ K r L) : DCallWF P f ds L [] K := by
 intro h0 W0 γ h vs H hr
 let W1 : Ent := { start := h.next, W := fun _ => False, A := fun _ => True, pin := fun _ _ => False, cnt := 0, few := fun _ _ e => e.elim, sub := fun _ e => e.elim }
 have hS : ∀ b, b < h.next → qd W1 UB [] h b := fun b hb => ⟨hb, .inr trivial, fun id o x e => by simp at e⟩
 obtain ⟨us, hw, hu⟩ := Us (S' := qd W1 UB [] h) H (fun b hb => hS b hb.1) (fun _ => hS) ha hr
 refine ADoes.of (ACalls.args hw ((hc W1 UB h us (Nat.le_refl _) (a9S W1 h rfl fun _ _ e => e) hu).mono ?_))
 rintro v h' ⟨γ', r, A', q, H', hd⟩
 obtain ⟨rfl, hsc, hK⟩ := hq r A' q
 have hg : ∀ b, b < h.next → h'.get b = h.get b := fun b hb => H'.frame b hb (fun e => e)
 obtain ⟨H2, c⟩ := H.grow H'.next hg
 exact ⟨⟨γ, r, L, hK, H2, c, abS hsc hd⟩, fun b hb _ => hg b hb⟩
end
end Go.Sim
namespace Go.Sim
open Go.RowKit
theorem Vg {s : Sel} {d d' : DV} (e : j8 [] d = some d') : d' = d ∧ j8 s d = some d := by
 cases d <;> (simp only [j8, unB, List.getElem?_nil] at e) <;> (try cases e) <;> exact ⟨rfl, rfl⟩
theorem a7m {s : Sel} : ∀ {ds ds' : List DV}, kK [] ds = some ds' → ds' = ds ∧ kK s ds = some ds
 | [], _, e => by cases e; exact ⟨rfl, rfl⟩
 | d :: ds, _, e => by
  unfold kK at e
  cases h1 : j8 [] d with
  | none => simp only [h1] at e; cases e
  | some x =>
   cases h2 : kK [] ds with
   | none => simp only [h1, h2] at e; cases e
   | some y =>
    simp only [h1, h2] at e; cases e
    obtain ⟨rfl, a1⟩ := Vg (s := s) h1
    obtain ⟨rfl, a2⟩ := a7m (s := s) h2
    exact ⟨rfl, by simp only [kK, a1, a2]⟩
theorem freeC {s : Sel} {d d' : DV} (e : Z3 [] d = some d') : d' = d ∧ Z3 s d = some d := by
 cases d with
 | fn f a b =>
  simp only [Z3] at e
  cases h1 : kK [] a with
  | none => simp only [h1] at e; cases e
  | some x =>
   cases h2 : kK [] b with
   | none => simp only [h1, h2] at e; cases e
   | some y =>
    simp only [h1, h2] at e; cases e
    obtain ⟨rfl, a1⟩ := a7m (s := s) h1
    obtain ⟨rfl, a2⟩ := a7m (s := s) h2
    exact ⟨rfl, by simp only [Z3, a1, a2]⟩
 | p x => exact Vg (s := s) (d := .p x) e
 | ptr x y => exact Vg (s := s) (d := .ptr x y) e
 | ep x y z w => exact Vg (s := s) (d := .ep x y z w) e
 | dp x y => exact Vg (s := s) (d := .dp x y) e
 | ref x y z w => exact Vg (s := s) (d := .ref x y z w) e
 | aref x y z => exact Vg (s := s) (d := .aref x y z) e
 | cx x y => exact Vg (s := s) (d := .cx x y) e
 | mref x => exact Vg (s := s) (d := .mref x) e
 | agg xs => cases e
 | tup xs => cases e
section
variable {P : Program} {L : List Obj}
theorem DCalls.mono {f : FuncId} {ds : List DV} {A : List Obj} {Q Q' : DV → List Obj → Prop} (hc : DCalls P f ds A Q) (hq : ∀ r A', Q r A' → Q' r A') : DCalls P f ds A Q' := fun W0 γ h vs h1 H hr => (hc W0 γ h vs h1 H hr).mono fun v h' ⟨γ', r, A', q, x, y⟩ => ⟨γ', r, A', hq _ _ q, x, y⟩
end
def a81 (L : List Obj) (sel : List Nat) (A' : List Obj) (back : Sel) (i : Nat) (o' : Obj) : Prop := match back[i]? with
 | some (some k) => (sel.contains i = true ∨ L.length ≤ i) ∧ match A'[k]? with
  | some o => YU back o' o
  | none => False
 | some none => i < L.length ∧ if sel.contains i = true then o' = .dead else L[i]? = some o'
 | none => False
def ahX (L : List Obj) (sel : List Nat) (A' : List Obj) (back : Sel) : Nat → List Obj → Prop
 | _, [] => True
 | i, o' :: r => a81 L sel A' back i o' ∧ ahX L sel A' back (i + 1) r
def adm (back : Sel) : Nat → List Obj → List Nat → Prop
 | k, .st _ :: A, i :: sel => back[i]? = some (some k) ∧ adm back (k + 1) A sel
 | k, _ :: A, i :: sel => back[i]? = some none ∧ adm back (k + 1) A sel
 | _, _, _ => True
theorem a5p {L : List Obj} {sel : List Nat} {A' : List Obj} {back : Sel} : ∀ {n : Nat} {l : List Obj}, ahX L sel A' back n l → ∀ {i : Nat} {o' : Obj}, l[i]? = some o' → a81 L sel A' back (n + i) o'
 | n, [], _, i, o', e => by simp at e
 | n, o :: l, h, i, o', e => by
  cases i with
  | zero => simp at e; subst e; exact h.1
  | succ i => have := a5p h.2 (i := i) (by simpa using e); rwa [show n + 1 + i = n + (i + 1) by omega] at this
theorem UR {back : Sel} : ∀ {n : Nat} {A : List Obj} {sel : List Nat}, adm back n A sel → ∀ {k i : Nat} {o : Obj}, sel[k]? = some i → A[k]? = some o → back[i]? = some (match o with | .st _ => some (n + k) | _ => none)
 | n, [], _, _, k, i, o, _, e => by simp at e
 | n, a :: A, [], _, k, i, o, e, _ => by simp at e
 | n, a :: A, s :: sel, h, k, i, o, e1, e2 => by
  have hs : (∀ (o : Obj), o = a → back[s]? = some (match o with | .st _ => some n | _ => none)) ∧ adm back (n + 1) A sel := by
   refine ⟨fun o e => ?_, ?_⟩
   ·subst e; cases o <;> exact h.1
   ·cases a <;> exact h.2
  cases k with
  | zero => simp at e1 e2; subst e1; subst e2; rw [Nat.add_zero]; exact hs.1 _ rfl
  | succ k => rw [UR hs.2 (k := k) (i := i) (o := o) (by simpa using e1) (by simpa using e2), show n + 1 + k = n + (k + 1) by omega]
theorem agf {sel : Sel} (hn : (sel.filterMap id).Nodup) : ∀ (i j k : Nat), sel[i]? = some (some k) → sel[j]? = some (some k) → i = j := by
 intro i j k e1 e2
 induction sel generalizing i j with
 | nil => simp at e1
 | cons s sel ih =>
  have hmem : ∀ (m : Nat), sel[m]? = some (some k) → k ∈ sel.filterMap id := fun m e => List.mem_filterMap.2 ⟨some k, List.mem_of_getElem? e, rfl⟩
  have hn' : (sel.filterMap id).Nodup := by
   cases s with
   | none => simpa using hn
   | some q => rw [List.filterMap_cons_some (by rfl)] at hn; exact (List.nodup_cons.1 hn).2
  have hno : ∀ m, s = some k → sel[m]? = some (some k) → False := fun m e e' => by
   subst e
   rw [List.filterMap_cons_some (by rfl)] at hn
   exact (List.nodup_cons.1 hn).1 (hmem m e')
  cases i with
  | zero =>
   cases j with
   | zero => rfl
   | succ j => exact (hno j (by simpa using e1) (by simpa using e2)).elim
  | succ i =>
   cases j with
   | zero => exact (hno i (by simpa using e2) (by simpa using e1)).elim
   | succ j => exact congrArg (· + 1) (ih hn' i j (by simpa using e1) (by simpa using e2))
theorem Merge.of {L : List Obj} {sel : List Nat} {A A' : List Obj} {back : Sel} {L2 : List Obj} (h1 : back.length = L2.length) (h2 : L.length ≤ L2.length) (h3 : ahX L sel A' back 0 L2) (h4 : adm back 0 A sel) (h5 : (back.filterMap id).Nodup) (h6 : A.length = sel.length) : Merge L sel A A' back L2 := by
 have at' : ∀ {i : Nat}, i < L2.length → ∃ o', L2[i]? = some o' ∧ a81 L sel A' back i o' := fun {i} hi => ⟨_, List.getElem?_eq_getElem hi, by have := a5p h3 (List.getElem?_eq_getElem hi); rwa [Nat.zero_add] at this⟩
 refine ⟨h1, h2, fun i hi hn => ?_, fun k i c e1 e2 => ?_, fun k i e1 e2 => ?_, fun i k e => ?_, fun i hi hi2 => ?_, agf h5⟩
 ·obtain ⟨o', e, hm⟩ := at' (show i < L2.length by omega)
  have hc : sel.contains i = false := by simpa using hn
  unfold a81 at hm
  split at hm
  ·rename_i k hk
   rcases hm.1 with q | q
   ·rw [hc] at q; cases q
   ·omega
  ·rename_i hk
   rw [if_neg (by rw [hc]; simp)] at hm
   exact ⟨hk, e.trans hm.2.symm⟩
  ·exact hm.elim
 ·have := UR h4 e1 e2
  rw [Nat.zero_add] at this
  exact this
 ·have hk : k < A.length := by rw [h6]; exact (List.getElem?_eq_some_iff.1 e1).1
  have hb := UR h4 e1 (List.getElem?_eq_getElem hk)
  have hb' : back[i]? = some none := by
   cases ho : A[k] with
   | st c => exact absurd (by rw [List.getElem?_eq_getElem hk, ho]) (e2 c)
   | li => rw [ho] at hb; exact hb
   | fz => rw [ho] at hb; exact hb
   | mp => rw [ho] at hb; exact hb
   | dead => rw [ho] at hb; exact hb
  have hi : i < L2.length := by rw [← h1]; exact (List.getElem?_eq_some_iff.1 hb').1
  obtain ⟨o', e, hm⟩ := at' hi
  unfold a81 at hm
  rw [hb'] at hm
  have hc : sel.contains i = true := by simpa using List.mem_of_getElem? e1
  rw [if_pos hc] at hm
  exact ⟨by rw [e, hm.2], hb'⟩
 ·have hi : i < L2.length := by rw [← h1]; exact (List.getElem?_eq_some_iff.1 e).1
  obtain ⟨o', e', hm⟩ := at' hi
  unfold a81 at hm
  rw [e] at hm
  obtain ⟨m1, m2⟩ := hm
  refine ⟨m1.imp_left (by simp), ?_⟩
  split at m2
  ·rename_i o ho; exact ⟨o, o', ho, e', m2⟩
  ·exact m2.elim
 ·obtain ⟨o', e', hm⟩ := at' hi2
  unfold a81 at hm
  split at hm
  ·rename_i k hk; exact ⟨k, hk⟩
  ·omega
  ·exact hm.elim
end Go.Sim
set_option maxRecDepth 100000
namespace Go.Sim
theorem a73 (p q : Prop) {dp : Decidable p} {dq : Decidable q} : (if @decide p dp = true then @decide q dq else false) = decide (p ∧ q) := by
 by_cases hp : p <;> simp [hp]
theorem a9a (p q : Prop) {dp : Decidable p} {dq : Decidable q} : (if @decide p dp = true then true else @decide q dq) = decide (p ∨ q) := by
 by_cases hp : p <;> simp [hp]
theorem a3z (p q : Prop) {dp : Decidable p} {dq : Decidable q} : (if @decide p dp = true then false else @decide q dq) = decide (¬ p ∧ q) := by
 by_cases hp : p <;> simp [hp]
theorem a7G (p : Prop) {dp : Decidable p} : (if @decide p dp = true then true else false) = decide p := by
 by_cases hp : p <;> simp [hp]
attribute [push_cast] Classical.not_not a73 a9a a3z a7G
end Go.Sim
namespace Go.Sim
open Go.RowKit
inductive CT where
 | int (k : IntKind)
 | bool
 | str
 | sl (r : CT)
 | pair (a b : CT)
def CT.T : CT → Type
 | .int _ => Int
 | .bool => Bool
 | .str => ByteArray
 | .sl r => List (CT.T r)
 | .pair a b => CT.T a × CT.T b
def CT.size : CT → Nat
 | .pair a b => a.size + b.size
 | _ => 1
def CT.eqb : CT → CT → Bool
 | .int k, .int k' => decide (k = k')
 | .bool, .bool => true
 | .str, .str => true
 | .sl a, .sl b => CT.eqb a b
 | .pair a b, .pair a' b' => CT.eqb a a' && CT.eqb b b'
 | _, _ => false
theorem CT.of_eqb : ∀ {a b : CT}, CT.eqb a b = true → a = b
 | .int k, .int k', h => by simp [CT.eqb] at h; rw [h]
 | .bool, .bool, _ => rfl
 | .str, .str, _ => rfl
 | .sl a, .sl b, h => by rw [CT.of_eqb (a := a) (b := b) h]
 | .pair a b, .pair a' b', h => by
  simp only [CT.eqb, Bool.and_eq_true] at h
  rw [CT.of_eqb h.1, CT.of_eqb h.2]
 | .int _, .bool, h => by cases h
 | .int _, .str, h => by cases h
 | .int _, .sl _, h => by cases h
 | .int _, .pair _ _, h => by cases h
 | .bool, .int _, h => by cases h
 | .bool, .str, h => by cases h
 | .bool, .sl _, h => by cases h
 | .bool, .pair _ _, h => by cases h
 | .str, .int _, h => by cases h
 | .str, .bool, h => by cases h
 | .str, .sl _, h => by cases h
 | .str, .pair _ _, h => by cases h
 | .sl _, .int _, h => by cases h
 | .sl _, .bool, h => by cases h
 | .sl _, .str, h => by cases h
 | .sl _, .pair _ _, h => by cases h
 | .pair _ _, .int _, h => by cases h
 | .pair _ _, .bool, h => by cases h
 | .pair _ _, .str, h => by cases h
 | .pair _ _, .sl _, h => by cases h
theorem CT.size_pos : ∀ c : CT, 0 < c.size
 | .int _ => Nat.one_pos
 | .bool => Nat.one_pos
 | .str => Nat.one_pos
 | .sl _ => Nat.one_pos
 | .pair a _ => Nat.lt_of_lt_of_le (CT.size_pos a) (Nat.le_add_right _ _)
def qF : (c : CT) → c.T → List PV
 | .int k, n => [.v (.int k n)]
 | .bool, b => [.v (.bool b)]
 | .str, s => [.v (.string s)]
 | .sl r, xs => [.sl r.size (List.map (qF r) xs)]
 | .pair a b, x => qF a x.1 ++ qF b x.2
theorem kd : ∀ (c : CT) (x : c.T), (qF c x).length = c.size
 | .int _, _ => rfl
 | .bool, _ => rfl
 | .str, _ => rfl
 | .sl _, _ => rfl
 | .pair a b, x => by simp only [qF, CT.size, List.length_append, kd a, kd b]
inductive TV where
 | v (x : Value)
 | sl (c : CT) (xs : List c.T)
 | ptr (id off : Nat)
 | ep (id i off tot : Nat)
 | dp (c : CT) (x : c.T) (off : Nat)
 | ref (id tot : Nat)
 | part (id lo n tot : Nat)
 | aref (id off n : Nat)
 | slx (c : CT) (xs : List c.T)
 | mref (id : Nat)
 | fn (f : FuncId) (pre cap : List TV)
 | agg (xs : List TV)
 | tup (xs : List TV)
def zm : TV → DV
 | .v x => .p (.v x)
 | .sl c xs => .p (.sl c.size (xs.map (qF c)))
 | .ptr id off => .ptr id off
 | .ep id i off tot => .ep id i off tot
 | .dp c x off => .dp (qF c x) off
 | .ref id tot => .ref id 0 tot tot
 | .part id lo n tot => .ref id lo n tot
 | .aref id off n => .aref id off n
 | .slx c xs => .cx c.size (xs.map (qF c))
 | .mref id => .mref id
 | .fn f _ _ => .fn f [] []
 | .agg _ => .agg []
 | .tup _ => .tup []
def qp : TV → DV
 | .fn f pre cap => .fn f (pre.map zm) (cap.map zm)
 | d => zm d
def qP : TV → DV
 | .agg xs => .agg (xs.map qp)
 | d => qp d
def enc : TV → DV
 | .tup xs => .tup (xs.map qP)
 | d => qP d
inductive TO where
 | st (cells : List TV)
 | li (c : CT) (e : TypeId) (loc : Bool) (xs : List c.T)
 | fz (c : CT) (e : TypeId) (loc : Bool) (xs : List c.T)
 | mp (es : List (Value × TV))
 | dead
def eo (loc : Bool) (e : TypeId) (n : Nat) : Option TypeId := if loc then some e else if n = 0 then none else some e
def ko : TO → Obj
 | .st cells => .st (cells.map qp)
 | .li c e loc xs => .li (eo loc e xs.length) (xs.map (qF c))
 | .fz c e loc xs => .fz (eo loc e xs.length) (xs.map (qF c))
 | .mp es => .mp (es.map fun x => (x.1, qP x.2))
 | .dead => .dead
def tvC : (c : CT) → c.T → List TV
 | .int k, n => [.v (.int k n)]
 | .bool, b => [.v (.bool b)]
 | .str, s => [.v (.string s)]
 | .sl r, xs => [.sl r xs]
 | .pair a b, x => tvC a x.1 ++ tvC b x.2
theorem Zz : ∀ (c : CT) (x : c.T), (tvC c x).map qp = (qF c x).map .p
 | .int _, _ => rfl
 | .bool, _ => rfl
 | .str, _ => rfl
 | .sl _, _ => rfl
 | .pair a b, x => by simp only [tvC, qF, List.map_append, Zz a, Zz b]
theorem a3V (c : CT) (x : c.T) : (tvC c x).length = c.size := by
 have := congrArg List.length (Zz c x)
 simpa [kd] using this
def wz {a b : CT} (h : a = b) (xs : List a.T) : List b.T := h ▸ xs
theorem a2m {a : CT} (h : a = a) (xs : List a.T) : wz h xs = xs := rfl
def Vm : (c : CT) → List TV → Option (c.T × List TV)
 | .int k, l => match l with
  | .v (.int k' n) :: r => if k = k' then some (n, r) else none
  | _ => none
 | .bool, l => match l with
  | .v (.bool b) :: r => some (b, r)
  | _ => none
 | .str, l => match l with
  | .v (.string s) :: r => some (s, r)
  | _ => none
 | .sl c, l => match l with
  | .sl c' xs :: r => if h : c'.eqb c = true then some (wz (CT.of_eqb h) xs, r) else none
  | .v (.slice none 0 0) :: r => some ([], r)
  | _ => none
 | .pair a b, l => match Vm a l with
  | some (x, l') => match Vm b l' with
   | some (y, l'') => some ((x, y), l'')
   | none => none
  | none => none
def a5v (c : CT) (l : List TV) : Option c.T := match Vm c l with
 | some (x, []) => some x
 | _ => none
def UU : TV → PV → Prop
 | .v x, p => p = .v x
 | .sl c xs, p => p = .sl c.size (xs.map (qF c))
 | _, _ => False
theorem All2.refl_of {α : Type} {R : α → α → Prop} (h : ∀ a, R a a) : ∀ l : List α, All2 R l l
 | [] => .nil
 | a :: l => .cons (h a) (All2.refl_of h l)
theorem a6U (x : PV) : unP x x := by cases x <;> exact rfl
theorem xo : ∀ (c : CT) (l : List TV) (x : c.T) (r : List TV), Vm c l = some (x, r) → ∃ l0 ps, l = l0 ++ r ∧ All2 UU l0 ps ∧ All2 unP (qF c x) ps
 | .int k, l, x, r, e => by
  simp only [Vm] at e
  split at e
  ·split at e
   ·rename_i hk; cases e; subst hk; exact ⟨[_], [_], rfl, .cons rfl .nil, .cons rfl .nil⟩
   ·cases e
  ·cases e
 | .bool, l, x, r, e => by
  simp only [Vm] at e
  split at e
  ·cases e; exact ⟨[_], [_], rfl, .cons rfl .nil, .cons rfl .nil⟩
  ·cases e
 | .str, l, x, r, e => by
  simp only [Vm] at e
  split at e
  ·cases e; exact ⟨[_], [_], rfl, .cons rfl .nil, .cons rfl .nil⟩
  ·cases e
 | .sl c, l, x, r, e => by
  simp only [Vm] at e
  split at e
  ·rename_i c' xs r'
   split at e
   ·rename_i h
    cases e
    have := CT.of_eqb h
    subst this
    exact ⟨[_], [_], rfl, .cons rfl .nil, .cons (a6U _) .nil⟩
   ·cases e
  ·cases e; exact ⟨[_], [_], rfl, .cons rfl .nil, .cons rfl .nil⟩
  ·cases e
 | .pair a b, l, x, r, e => by
  simp only [Vm] at e
  split at e
  ·rename_i y l' h1
   split at e
   ·rename_i z l'' h2
    cases e
    obtain ⟨m1, p1, rfl, a2, a3⟩ := xo a _ _ _ h1
    obtain ⟨m2, p2, rfl, b2, b3⟩ := xo b _ _ _ h2
    exact ⟨m1 ++ m2, p1 ++ p2, by simp, a2.append b2, a3.append b3⟩
   ·cases e
  ·cases e
theorem Vh {c : CT} {l : List TV} {x : c.T} (e : a5v c l = some x) : ∃ ps, All2 UU l ps ∧ All2 unP (qF c x) ps := by
 unfold a5v at e
 split at e
 ·rename_i y h
  cases e
  obtain ⟨l0, ps, rfl, h2, h3⟩ := xo _ _ _ _ h
  exact ⟨ps, by simpa using h2, h3⟩
 ·cases e
theorem a5y : ∀ {l : List TV} {ps : List PV}, All2 UU l ps → l.map qp = ps.map .p
 | _, _, .nil => rfl
 | _, _, .cons (a := a) (b := b) h t => by
  have := a5y t
  simp only [List.map_cons, this]
  congr 1
  cases a <;> first | (cases h; rfl) | exact h.elim
end Go.Sim
namespace Go.Sim
open Go.RowKit
def Zr (t : Nat) : List (Nat × TV) → Option TV
 | [] => none
 | (t', d) :: l => if t' = t then some d else Zr t l
structure TFrm where
 n : Nat
 c : Nat
 l : List (Nat × TV)
def TFrm.put (a : TFrm) (t : Option Nat) (d : TV) : TFrm := match t with
 | some t => if t < a.n then ⟨a.n, a.c, (t, d) :: a.l⟩ else a
 | none => a
abbrev a8b : TV := .tup []
def a7j (v : Value) : Option TV := if scal v then some (.v v) else match v with
 | .tuple xs => if xs.size = 0 then some a8b else none
 | _ => none
def TFrm.ev (a : TFrm) : Operand → Option TV
 | .tmp t => Zr t a.l
 | .const v => a7j v
 | .func f => some (.fn f [] [])
 | .global _ => none
abbrev KB := Operand → Option TV
def YO (ρ : KB) : List Operand → Option (List TV)
 | [] => some []
 | x :: r => match ρ x, YO ρ r with
  | some v, some vs => some (v :: vs)
  | _, _ => none
def a1C (ρ : KB) : List (Nat × Operand) → Option (List (Nat × TV))
 | [] => some []
 | (i, x) :: r => match ρ x, a1C ρ r with
  | some v, some vs => some ((i, v) :: vs)
  | _, _ => none
def y1 : TV → List TV
 | .agg xs => xs
 | d => [d]
def ZQ : TV → Bool
 | .tup _ => false
 | _ => true
def isC : TV → Bool
 | .agg _ => false
 | .tup _ => false
 | _ => true
def adQ : Option TV → Option TV
 | some d => if isC d then some d else none
 | none => none
def J6 (P : Program) (t : TypeId) (cs : List TV) (off : Nat) : Option TV :=
 match P.underlying t with
 | none => none
 | some _ => if a1k P t then match szT P t with
   | some n => if off + n ≤ cs.length then some (.agg ((cs.drop off).take n)) else none
   | none => none
  else adQ cs[off]?
def Xe : List TV → Option (List Value)
 | [] => some []
 | x :: l => match x with
  | .v x => (Xe l).map (x :: ·)
  | _ => none
def XK : TV → Option Value
 | .v x => some x
 | .agg xs => (Xe xs).map fun l => .agg l.toArray
 | _ => none
def scT (o : Option Value) : Option TV := match o with
 | some v => if scal v then some (.v v) else none
 | none => none
def a3v : TV → Option Value
 | .ptr _ _ => some (.pointer (some ⟨0, 0, none⟩))
 | .dp _ _ _ => some (.pointer (some ⟨0, 0, none⟩))
 | .fn f _ _ => some (.func (.func f) #[] #[])
 | _ => none
inductive Tree (R : Type) : Type 1
 | fail
 | ret (r : R)
 | cond (b : Bool) (x y : Tree R)
 | bind (α : Type) (o : Option α) (k : α → Tree R)
 | case (α β : Type) (s : α ⊕ β) (f : α → Tree R) (g : β → Tree R)
 | both (x y : Tree R)
open Classical in
noncomputable def bothM {R : Type} (x y : Option R) : Option R := if x = y then x else none
theorem a7A {R : Type} (x : Option R) : bothM x x = x := by unfold bothM; rw [if_pos rfl]
theorem a83 {R : Type} {x y : Option R} {a : R} (h : bothM x y = some a) : x = some a ∧ y = some a := by
 unfold bothM at h
 split at h
 ·rename_i e; exact ⟨h, e ▸ h⟩
 ·cases h
noncomputable def Tree.run {R : Type} : Tree R → Option R
 | .fail => none
 | .ret r => some r
 | .cond b x y => match b with
  | true => x.run
  | false => y.run
 | .bind _ o k => match o with
  | some x => (k x).run
  | none => none
 | .case _ _ s f g => match s with
  | .inl a => (f a).run
  | .inr b => (g b).run
 | .both x y => bothM x.run y.run
def Tree.map {R S : Type} (j : R → S) : Tree R → Tree S
 | .fail => .fail
 | .ret r => .ret (j r)
 | .cond b x y => .cond b (x.map j) (y.map j)
 | .bind α o k => .bind α o fun x => (k x).map j
 | .case α β s f g => .case α β s (fun a => (f a).map j) (fun b => (g b).map j)
 | .both x y => .both (x.map j) (y.map j)
theorem Tree.run_map {R S : Type} (j : R → S) (hj : ∀ a b, j a = j b → a = b) : ∀ t : Tree R, (t.map j).run = t.run.map j
 | .fail => rfl
 | .ret r => rfl
 | .cond b x y => by cases b <;> simp only [Tree.map, Tree.run] <;> exact Tree.run_map j hj _
 | .bind α o k => by
  cases o with
  | none => rfl
  | some x => exact Tree.run_map j hj (k x)
 | .case α β s f g => by
  cases s with
  | inl a => exact Tree.run_map j hj (f a)
  | inr b => exact Tree.run_map j hj (g b)
 | .both x y => by
  show bothM (x.map j).run (y.map j).run = (bothM x.run y.run).map j
  rw [Tree.run_map j hj x, Tree.run_map j hj y]
  unfold bothM
  by_cases h : x.run = y.run
  ·rw [if_pos h, if_pos (by rw [h])]
  ·rw [if_neg h, if_neg fun q => h ?_]
   ·rfl
   ·cases hx : x.run <;> cases hy : y.run <;> rw [hx, hy] at q <;> first | rfl | (simp at q; done) | (simp only [Option.map_some, Option.some.injEq] at q; rw [hj _ _ q])
def tif {R : Type} (c : Prop) [Decidable c] (x : Tree R) : Tree R := .cond (decide c) x .fail
theorem qa {R : Type} (c : Prop) [Decidable c] (x : Tree R) : (tif c x).run = if c then x.run else none := by
 unfold tif
 by_cases h : c <;> simp [h, Tree.run]
def chk {R : Type} : List (Nat × Nat) → Tree R → Tree R
 | [], o => o
 | (a, b) :: r, o => tif (a = b) (chk r o)
theorem zK {R : Type} {o : Tree R} {a : R} : ∀ {l : List (Nat × Nat)}, (chk l o).run = some a → (∀ p ∈ l, p.1 = p.2) ∧ o.run = some a
 | [], e => ⟨fun p hp => by simp at hp, e⟩
 | (x, y) :: r, e => by
  unfold chk at e
  rw [qa] at e
  split at e
  ·rename_i h
   obtain ⟨h1, h2⟩ := zK e
   exact ⟨fun p hp => by rcases List.mem_cons.1 hp with rfl | hp; exact h; exact h1 p hp, h2⟩
  ·cases e
def ql {α R : Type} (o : Option α) (k : α → Tree R) : Tree R := match o with
 | some x => k x
 | none => .fail
theorem q8 {α R : Type} {o : Option α} {k : α → Tree R} {a : R} (e : (ql o k).run = some a) : ∃ x, o = some x ∧ (k x).run = some a := by
 cases o with
 | none => cases e
 | some x => exact ⟨x, rfl, e⟩
def Wx {α R : Type} (o : Option α) (k : α → Tree R) : Tree R := .bind α o k
theorem ke {α R : Type} {o : Option α} {k : α → Tree R} {a : R} (e : (Wx o k).run = some a) : ∃ x, o = some x ∧ (k x).run = some a := by
 cases o with
 | none => cases e
 | some x => exact ⟨x, rfl, e⟩
def ae7 (P : Program) (op : BinOp) (t : TypeId) (a b : TV) : Option TV :=
 match XK a, XK b with
 | some x, some y => scT (qS P op t x y)
 | none, some y => if a6t y then match a3v a with
   | some x => scT (qS P op t x y)
   | none => none
  else none
 | some x, none => if a6t x then match a3v b with
   | some y => scT (qS P op t x y)
   | none => none
  else none
 | none, none => none
def af3 {R : Type} (xs : Nat) (b : Bool) (K : TV → Tree R) : Tree R := .cond (decide (xs = 0)) (.both (K (.v (.bool b))) (K (.v (.bool (!b))))) (K (.v (.bool (!b))))
def a6g (P : Program) (t : TypeId) : Bool := match P.underlying t with
 | some (.slice _) => true
 | _ => false
def adv {R : Type} (P : Program) (op : BinOp) (t : TypeId) (x y : TV) (K : TV → Tree R) : Tree R :=
 match op, x, y with
 | .quo, .v (.int k a), .v (.int k' b) => if k = k' then tif (b ≠ 0) (K (.v (.int k (k.wrap (a.tdiv b))))) else .fail
 | .rem, .v (.int k a), .v (.int k' b) => if k = k' then tif (b ≠ 0) (K (.v (.int k (a.tmod b)))) else .fail
 | .shl, .v (.int k a), .v (.int _ b) => tif (0 ≤ b) (K (.v (.int k (k.wrap (a * 2 ^ (min b.toNat k.bits))))))
 | .shr, .v (.int k a), .v (.int _ b) => tif (0 ≤ b) (K (.v (.int k (a.fdiv (2 ^ (min b.toNat k.bits))))))
 | .add, .v (.string a), .v (.string b) => tif (a.size + b.size ≤ 9223372036854775807) (K (.v (.string (a ++ b))))
 | .eql, .sl _ xs, .v (.slice none 0 0) => if a6g P t then af3 xs.length true K else .fail
 | .neq, .sl _ xs, .v (.slice none 0 0) => if a6g P t then af3 xs.length false K else .fail
 | op, x, y => ql (ae7 P op t x y) K
def jf : List TV → Nat → List TV → List TV
 | cs, _, [] => cs
 | cs, i, v :: r => jf (cs.set i v) (i + 1) r
def xZ (P : Program) (t : TypeId) : Option (List TV) := match qY P t with
 | some z => if z.all scal then some (z.map .v) else none
 | none => none
def a6x (place : Nat → Option (Nat × Nat)) (cells : List TV) : List (Nat × TV) → Option (List TV)
 | [] => some cells
 | (i, v) :: r => match place i with
  | none => none
  | some (off, sz) => if ZQ v = true ∧ (y1 v).length = sz ∧ off + sz ≤ cells.length then a6x place (jf cells off (y1 v)) r else none
def a2W (P : Program) (t : TypeId) (ps : List (Nat × TV)) : Option TV :=
 match V6 P t, xZ P t with
 | some pl, some z => if vd P t then (a6x pl z ps).map .agg else none
 | _, _ => none
def a2Y (P : Program) (t : TypeId) (x : TV) (f : Nat) : Option TV :=
 match P.underlying t, x with
 | some (.struct fs), .agg cs => match fs[f]? with
  | some fd => J6 P fd.type cs fd.offset
  | none => none
 | _, _ => none
def xh (L : List TO) (id : Nat) : Option Nat := match L[id]? with
 | some (.li _ _ _ xs) => some xs.length
 | some (.fz _ _ _ xs) => some xs.length
 | _ => none
def ton {R : Type} (L : List TO) (k : Nat) (x : TV) (K : TV → Tree R) : Tree R := match x with
 | .ptr id off => K (.ptr id (off + k))
 | .ep id i off tot => ql (xh L id) fun n => chk [(n, tot)] (K (.ep id i (off + k) tot))
 | .dp c y off => K (.dp c y (off + k))
 | _ => .fail
def a15 : TV → Option Int
 | .v (.int _ n) => some n
 | _ => none
def acf {R : Type} (c : CT) (s : Nat) (id n tot m : Nat) (K : TV → Tree R) : Tree R :=
 if c.size = s then tif (n < tot ∧ m = tot) (K (.ep id n 0 tot)) else .fail
def Z1 {R : Type} (P : Program) (L : List TO) (t : TypeId) (x i : TV) (K : TV → Tree R) : Tree R :=
 ql (a15 i) fun n => match P.underlying t with
  | some (.slice e) => ql (szT P e) fun s => match x with
   | .sl c xs => if c.size = s then tif (0 ≤ n) (Wx xs[n.toNat]? fun y => K (.dp c y 0)) else .fail
   | .ref id tot => tif (0 ≤ n) (match L[id]? with
    | some (.li c _ _ xs) => acf c s id n.toNat tot xs.length K
    | some (.fz c _ _ xs) => acf c s id n.toNat tot xs.length K
    | _ => .fail)
   | .part id lo m tot => tif (0 ≤ n ∧ n.toNat < m) (match L[id]? with
    | some (.li c _ _ xs) => acf c s id (lo + n.toNat) tot xs.length K
    | some (.fz c _ _ xs) => acf c s id (lo + n.toNat) tot xs.length K
    | _ => .fail)
   | .aref id off m => tif (0 ≤ n ∧ n.toNat < m) (K (.ptr id (off + n.toNat * s)))
   | _ => .fail
  | some (.array len e) => ql (szT P e) fun s => tif (0 ≤ n ∧ n.toNat < len) (ton L (n.toNat * s) x K)
  | _ => .fail
def a5n {R : Type} (P : Program) (L : List TO) (t : TypeId) (x : TV) (K : TV → Tree R) : Tree R := match x with
 | .ptr id off => match L[id]? with
  | some (.st cells) => ql (J6 P t cells off) K
  | _ => .fail
 | .ep id i off tot => match L[id]? with
  | some (.li c _ _ xs) => tif (xs.length = tot) (Wx xs[i]? fun y => ql (J6 P t (tvC c y) off) K)
  | some (.fz c _ _ xs) => tif (xs.length = tot) (Wx xs[i]? fun y => ql (J6 P t (tvC c y) off) K)
  | _ => .fail
 | .dp c y off => ql (J6 P t (tvC c y) off) K
 | _ => .fail
def a61 (P : Program) (L : List TO) : TV → TV × List TO × List (Nat × Nat)
 | .ref id tot => match L[id]? with
  | some (.li c e loc xs) => if szT P e = some c.size then (.sl c xs, L.set id (.fz c e loc xs), [(xs.length, tot)]) else (.ref id tot, L, [])
  | some (.fz c e _ xs) => if szT P e = some c.size then (.sl c xs, L, [(xs.length, tot)]) else (.ref id tot, L, [])
  | _ => (.ref id tot, L, [])
 | d => (d, L, [])
def a1F (P : Program) (L : List TO) : List TV → List TV × List TO × List (Nat × Nat)
 | [] => ([], L, [])
 | x :: l => match a61 P L x with
  | (x', L', q) => match a1F P L' l with
   | (l', L'', q') => (x' :: l', L'', q ++ q')
def a9l (P : Program) (L : List TO) (x : TV) : TV × List TO × List (Nat × Nat) := match x with
 | .agg xs => match a1F P L xs with
  | (xs', L', q) => (.agg xs', L', q)
 | d => a61 P L d
def a2g (P : Program) (L : List TO) : List (Nat × TV) → List (Nat × TV) × List TO × List (Nat × Nat)
 | [] => ([], L, [])
 | (i, x) :: l => match a9l P L x with
  | (x', L', q) => match a2g P L' l with
   | (l', L'', q') => ((i, x') :: l', L'', q ++ q')
def ahr : TV → Bool
 | .v _ => true
 | .sl _ _ => true
 | _ => false
def a3h {R : Type} (P : Program) (L : List TO) (t : TypeId) (p x : TV) (K : List TO → Tree R) : Tree R := match p with
 | .ptr id off => match L[id]? with
  | some (.st cells) => if ZQ x = true ∧ szT P t = some (y1 x).length ∧ off + (y1 x).length ≤ cells.length then K (L.set id (.st (jf cells off (y1 x)))) else .fail
  | _ => .fail
 | .ep id i off tot => match a9l P L x with
  | (x', L', q) => match L'[id]? with
   | some (.li c e loc xs) => if ZQ x' = true ∧ szT P t = some (y1 x').length ∧ off + (y1 x').length ≤ c.size ∧ (y1 x').all ahr = true then
     tif (xs.length = tot) (Wx xs[i]? fun y => ql (a5v c (jf (tvC c y) off (y1 x'))) fun z => chk q (K (L'.set id (.li c e loc (xs.set i z))))) else .fail
   | _ => .fail
 | _ => .fail
def a3R (s : ByteArray) : List (CT.T (.int .u8)) := s.data.toList.map fun c => ((c.toNat : Int) : CT.T (.int .u8))
def a67 (k : IntKind) : List TV → Option (List Int)
 | [] => some []
 | x :: r => match x with
  | .v (.int k' n) => if k' = k then (a67 k r).map (n :: ·) else none
  | _ => none
def a6v {R : Type} (P : Program) (L : List TO) (c : CT) (t : TypeId) (x : TV) (K : List c.T → Tree R) : Tree R :=
 match P.underlying t with
 | some (.slice _) => match x with
  | .sl c' xs => if h : c'.eqb c = true then K (wz (CT.of_eqb h) xs) else .fail
  | .v (.slice none 0 0) => K []
  | .ref id tot => match L[id]? with
   | some (.li c' _ _ xs) => if h : c'.eqb c = true then chk [(xs.length, tot)] (K (wz (CT.of_eqb h) xs)) else .fail
   | some (.fz c' _ _ xs) => if h : c'.eqb c = true then chk [(xs.length, tot)] (K (wz (CT.of_eqb h) xs)) else .fail
   | _ => .fail
  | .part id lo n tot => match L[id]? with
   | some (.li c' _ _ xs) => if h : c'.eqb c = true then chk [(xs.length, tot)] (K ((List.drop lo (wz (CT.of_eqb h) xs)).take n)) else .fail
   | some (.fz c' _ _ xs) => if h : c'.eqb c = true then chk [(xs.length, tot)] (K ((List.drop lo (wz (CT.of_eqb h) xs)).take n)) else .fail
   | _ => .fail
  | .aref id off n => match c, K with
   | .int k, K => match L[id]? with
    | some (.st cells) => if off + n ≤ cells.length then ql (a67 k ((cells.drop off).take n)) fun ys => K ys else .fail
    | _ => .fail
   | _, _ => .fail
  | _ => .fail
 | some .string => match x with
  | .v (.string s) => if h : (CT.int .u8).eqb c = true then K (wz (CT.of_eqb h) (a3R s)) else .fail
  | _ => .fail
 | _ => .fail
def lim (b : Nat) : Nat := 140737488355328 / b
def vx {R : Type} (P : Program) (ty : TypeId → Option CT) (ts : List TypeId) (L : List TO) (s x : TV) (K : TV → List TO → Tree R) : Tree R :=
 match ts with
 | [t, t2] => match P.underlying t with
  | some (.slice e) => ql (P.info? e) fun i => ql (qY P e) fun _ => ql (ty e) fun c => if c.size = i.size ∧ 0 < i.bytes then
    a6v P L c t2 x fun ys => match s with
     | .v (.slice none 0 0) => tif (ys.length ≤ lim i.bytes) (K (.ref L.length ys.length) (L ++ [.li c e false ys]))
     | .ref id tot => match L[id]? with
      | some (.li c' e' loc xs) => if e' = e then (if h : c'.eqb c = true then (tif (xs.length = tot ∧ tot + ys.length ≤ lim i.bytes) (
        K (.ref id (tot + ys.length)) (L.set id (.li c e loc (wz (CT.of_eqb h) xs ++ ys))))) else .fail) else .fail
      | _ => .fail
     | _ => .fail
   else .fail
  | _ => .fail
 | _ => .fail
def a1l (ρ : KB) : Option Operand → Option (Option Int)
 | none => some none
 | some x => match ρ x with
  | some d => (a15 d).map some
  | none => none
def yC {R : Type} (n : Nat) (lo hi : Option Int) (K : Option Nat → Option Nat → Tree R) : Tree R := match lo, hi with
 | none, none => K none none
 | none, some h => tif (0 ≤ h ∧ h.toNat ≤ n) (K none (some h.toNat))
 | some l, none => tif (0 ≤ l ∧ l.toNat ≤ n) (K (some l.toNat) none)
 | some l, some h => tif (0 ≤ l ∧ l ≤ h ∧ h.toNat ≤ n) (K (some l.toNat) (some h.toNat))
def aaI {α : Type} (xs : List α) : Option Nat → Option Nat → List α
 | none, none => xs
 | none, some h => xs.take h
 | some l, none => xs.drop l
 | some l, some h => (xs.drop l).take (h - l)
def wo (n : Nat) : Option Nat → Option Nat → Nat × Nat
 | none, none => (0, n)
 | none, some h => (0, h)
 | some l, none => (l, n - l)
 | some l, some h => (l, h - l)
def a9y {R : Type} (P : Program) (L : List TO) (t : TypeId) (x : TV) (lo hi : Option Int) (K : TV → Tree R) : Tree R :=
 match P.underlying t with
 | some (.slice e) => ql (szT P e) fun s => match x with
  | .sl c xs => if c.size = s then yC xs.length lo hi fun l h => K (.sl c (aaI xs l h)) else .fail
  | .v (.slice none 0 0) => yC 0 lo hi fun _ _ => K x
  | .ref id tot => match L[id]? with
   | some (.li c e' _ xs) => if c.size = s ∧ e' = e then tif (0 < tot ∧ xs.length = tot) (yC tot lo hi fun l h => K (.part id (wo tot l h).1 (wo tot l h).2 tot)) else .fail
   | some (.fz c e' _ xs) => if c.size = s ∧ e' = e then tif (0 < tot ∧ xs.length = tot) (yC tot lo hi fun l h => K (.part id (wo tot l h).1 (wo tot l h).2 tot)) else .fail
   | _ => .fail
  | .part id a n tot => match L[id]? with
   | some (.li c e' _ xs) => if c.size = s ∧ e' = e then tif (0 < n ∧ xs.length = tot ∧ 0 < tot) (yC n lo hi fun l h => K (.part id (a + (wo n l h).1) (wo n l h).2 tot)) else .fail
   | some (.fz c e' _ xs) => if c.size = s ∧ e' = e then tif (0 < n ∧ xs.length = tot ∧ 0 < tot) (yC n lo hi fun l h => K (.part id (a + (wo n l h).1) (wo n l h).2 tot)) else .fail
   | _ => .fail
  | _ => .fail
 | _ => .fail
def aa5 {R : Type} (P : Program) (L : List TO) (t : TypeId) (x : TV) (K : TV → Tree R) : Tree R :=
 match P.underlying t with
 | some (.slice _) => match x with
  | .sl _ xs => K (.v (goInt xs.length))
  | .v (.slice none 0 0) => K (.v (goInt (0 : Nat)))
  | .ref id tot => ql (xh L id) fun n => chk [(n, tot)] (K (.v (goInt tot)))
  | .part id _ m tot => ql (xh L id) fun n => chk [(n, tot)] (K (.v (goInt m)))
  | .aref _ _ n => K (.v (goInt n))
  | _ => .fail
 | some .string => match x with
  | .v (.string s) => K (.v (goInt s.size))
  | _ => .fail
 | some (.array n _) => match x with
  | .agg _ => K (.v (goInt n))
  | _ => .fail
 | _ => .fail
def adx {R : Type} (P : Program) (L : List TO) (s d : TypeId) (x : TV) (K : TV → List TO → Tree R) : Tree R :=
 match P.underlying s, P.underlying d with
 | some (.slice e), some .string => if Qg P e = true then a6v P L (.int .u8) s x fun xs => K (.v (.string (strOfNums xs))) L else .fail
 | some .string, some (.slice e) => match x with
  | .v (.string t) => if Qg P e = true ∧ szT P e = some 1 then tif (t.size ≤ maxLen) (K (.ref L.length t.size) (L ++ [.li (.int .u8) e true (a3R t)])) else .fail
  | _ => .fail
 | some (.slice _), some (.slice e) => match x with
  | .ref id tot => if s = d ∧ Qg P e = true then (match L[id]? with
   | some (.li _ _ _ xs) => tif (0 < tot ∧ xs.length = tot) (K x L)
   | _ => .fail) else .fail
  | _ => .fail
 | _, _ => match XK x with
  | some v => ql (scT (U5 P s d v)) fun d => K d L
  | none => .fail
def Yl (c : CT) (rows : List c.T) : List (Nat × TV) → Option (List c.T)
 | [] => some rows
 | (i, d) :: r => if ZQ d = true ∧ i < rows.length then match a5v c (y1 d) with
   | some y => Yl c (rows.set i y) r
   | none => none
  else none
def WC {R : Type} (P : Program) (ty : TypeId → Option CT) (L : List TO) (t : TypeId) (len : Nat) (ps : List (Nat × TV)) (K : TV → List TO → Tree R) : Tree R :=
 match P.underlying t with
 | some (.slice e) => ql (ty e) fun c => ql ((xZ P e).bind (a5v c)) fun z => if szT P e = some c.size ∧ len * c.size ≤ 16777216 ∧ len ≤ maxLen then
   (match a2g P L ps with
   | (ps', L', q) => ql (Yl c (List.replicate len z) ps') fun rows => chk q (K (.ref L'.length len) (L' ++ [.li c e true rows]))) else .fail
 | _ => .fail
def V3 : TV → Bool
 | .fn _ _ _ => false
 | .slx _ _ => false
 | .mref _ => false
 | .agg _ => false
 | .tup _ => false
 | _ => true
def a8A (f : Fn) (a b : Option (List TV)) : Option TV := match f, a, b with
 | .func k, some a, some b => if a.all V3 && b.all V3 then some (.fn k a b) else none
 | _, _, _ => none
def af0 {R : Type} (c : Option TV) (a b : Option TV) (K : TV → Tree R) : Tree R := match c with
 | some (.v (.bool t)) => match a, b with
  | some (.v (.bool x)), some (.v (.bool y)) => K (.v (.bool (cond t x y)))
  | a, b => .cond t (ql a K) (ql b K)
 | _ => .fail
def XR {R : Type} (P : Program) (ty : TypeId → Option CT) (t : TypeId) (x i : TV) (K : TV → Tree R) : Tree R :=
 match P.underlying t, x, a15 i with
 | some (.array len e), .agg cs, some n => match szT P e with
  | some s => tif (0 ≤ n ∧ n.toNat < len) (ql (J6 P e cs (n.toNat * s)) K)
  | none => .fail
 | some .string, .v (.string s), some n => tif (0 ≤ n) (Wx s[n.toNat]? fun b => K (.v (.int .u8 b.toNat)))
 | _, _, _ => .fail
def xv (x : TV) (i : Nat) : Option TV := match x with
 | .tup xs => match xs[i]? with
  | some d => if ZQ d then some d else none
  | none => none
 | _ => none
def Y6 : List TV → Option (List Value)
 | [] => some []
 | d :: l => match XK d, Y6 l with
  | some v, some vs => some (v :: vs)
  | _, _ => none
abbrev yc (R : Type) := FuncId → List TV → List TO → (TV → List TO → Tree R) → Tree R
def vC {R : Type} (P : Program) (ty : TypeId → Option CT) (call : yc R) (o : Op) (ρ : KB) (L : List TO) (K : TV → List TO → Tree R) : Tree R :=
 match o with
 | .move x => ql (ρ x) fun d => K d L
 | .assign x => ql (ρ x) fun d => K d L
 | .pick c a b => af0 (ρ c) (ρ a) (ρ b) fun d => K d L
 | .build t ps => ql (a1C ρ ps.toList) fun ds => ql (a2W P t ds) fun d => K d L
 | .field t x f => ql (ρ x) fun x => ql (a2Y P t x f) fun d => K d L
 | .fieldAddr t x f => ql (ρ x) fun x => ql (agk P t f) fun k => ton L k x fun d => K d L
 | .unOp op _ x => ql (ρ x) fun x => ql (XK x) fun v => ql (scT (unV op v)) fun d => K d L
 | .binOp op t x y _ => ql (ρ x) fun x => ql (ρ y) fun y => adv P op t x y fun d => K d L
 | .convert s d x => ql (ρ x) fun x => adx P L s d x K
 | .makeFunc f a b => ql (a8A f (YO ρ a.toList) (YO ρ b.toList)) fun d => K d L
 | .indexAddr t x i => ql (ρ x) fun x => ql (ρ i) fun i => Z1 P L t x i fun d => K d L
 | .index t x i => ql (ρ x) fun x => ql (ρ i) fun i => XR P ty t x i fun d => K d L
 | .extract x i => ql (ρ x) fun x => ql (xv x i) fun d => K d L
 | .nilCheck x => ql (ρ x) fun x => ton L 0 x fun d => K d L
 | .load t x => ql (ρ x) fun x => a5n P L t x fun d => K d L
 | .store t x y => ql (ρ x) fun x => ql (ρ y) fun y => a3h P L t x y fun L' => K a8b L'
 | .slice t x lo hi none => ql (ρ x) fun x => ql (a1l ρ lo) fun lo => ql (a1l ρ hi) fun hi => a9y P L t x lo hi fun d => K d L
 | .box t x => ql (ρ x) fun x => if ZQ x = true ∧ szT P t = some (y1 x).length then K (.ptr L.length 0) (L ++ [.st (y1 x)]) else .fail
 | .alloc t => ql (xZ P t) fun z => K (.ptr L.length 0) (L ++ [.st z])
 | .buildSlice t n ps => ql (a1C ρ ps.toList) fun ds => WC P ty L t n ds K
 | .call { callee := .value f, args := args, argTypes := _ } => ql (ρ f) fun f => ql (YO ρ args.toList) fun ds => match f with
  | .fn k pre cap => if pre.all V3 && cap.all V3 then call k (pre ++ ds ++ cap) L K else .fail
  | _ => .fail
 | .call { callee := .builtin .append, args := args, argTypes := ts } => ql (YO ρ args.toList) fun ds => match ds with
  | [s, x] => vx P ty ts.toList L s x K
  | _ => .fail
 | .call { callee := .builtin .len, args := args, argTypes := ts } => ql (YO ρ args.toList) fun ds => match ds, ts.toList with
  | [x], [t] => aa5 P L t x fun d => K d L
  | _, _ => .fail
 | .call { callee := .builtin .min, args := args, argTypes := _ } => ql (YO ρ args.toList) fun ds => ql (Y6 ds) fun vs => ql (scT (a7f vs)) fun d => K d L
 | .call { callee := .builtin .max, args := args, argTypes := _ } => ql (YO ρ args.toList) fun ds => ql (Y6 ds) fun vs => ql (scT (a9k vs)) fun d => K d L
 | _ => .fail
end Go.Sim
namespace Go.Sim
open Go.RowKit
def eL (L : List TO) : List Obj := L.map ko
def zO (a : TFrm) : DFrm := ⟨a.n, a.c, a.l.map fun p => (p.1, enc p.2)⟩
def ZW (ρ : KB) : Ym := fun x => (ρ x).map enc
theorem jj (t : Nat) : ∀ l : List (Nat × TV), qQ t (l.map fun p => (p.1, enc p.2)) = (Zr t l).map enc
 | [] => rfl
 | (t', d) :: l => by
  simp only [List.map_cons, qQ, Zr]
  split
  ·rfl
  ·exact jj t l
theorem Y8 (a : TFrm) (t : Option Nat) (d : TV) : zO (a.put t d) = (zO a).put t (enc d) := by
 cases t with
 | none => rfl
 | some t =>
  unfold TFrm.put DFrm.put zO
  simp only
  split <;> rfl
theorem a9d (v : Value) : UH v = (a7j v).map enc := by
 unfold UH a7j
 split
 ·rfl
 ·cases v <;> try rfl
  simp only
  split <;> rfl
theorem ahW (a : TFrm) (x : Operand) : (zO a).ev x = (a.ev x).map enc := by
 cases x with
 | tmp t => exact jj t a.l
 | const v => exact a9d v
 | func f => rfl
 | global g => rfl
theorem a3I (a : TFrm) : ZW a.ev = (zO a).ev := funext fun x => (ahW a x).symm
section
variable {ρ : KB}
theorem kO : ∀ xs : List Operand, Qh (ZW ρ) xs = (YO ρ xs).map (List.map enc)
 | [] => rfl
 | x :: r => by
  simp only [Qh, YO, kO r, ZW]
  cases ρ x <;> cases YO ρ r <;> rfl
theorem xd : ∀ xs : List (Nat × Operand), Kf (ZW ρ) xs = (a1C ρ xs).map (List.map fun p => (p.1, enc p.2))
 | [] => rfl
 | (i, x) :: r => by
  simp only [Kf, a1C, xd r, ZW]
  cases ρ x <;> cases a1C ρ r <;> rfl
end
theorem Zs {d : TV} (h : isC d = true) : enc d = qp d := by cases d <;> first | rfl | cases h
theorem a8d {o : Option TV} {d : TV} (h : adQ o = some d) : o = some d ∧ isC d = true := by
 unfold adQ at h
 first | (rw [qa] at h; split at h) | split at h
 ·first | (rw [qa] at h; split at h) | split at h
  ·rename_i h1; cases h; exact ⟨rfl, h1⟩
  ·cases h
 ·cases h
theorem QA {P : Program} {t : TypeId} {cs : List TV} {off : Nat} {d : TV} (h : J6 P t cs off = some d) : Q5 P t (cs.map qp) off = some (enc d) := by
 unfold J6 at h
 unfold Q5
 first | (rw [qa] at h; split at h) | split at h
 ·cases h
 ·rename_i hu
  rw [hu]
  simp only
  first | (rw [qa] at h; split at h) | split at h
  ·rename_i ha
   rw [if_pos ha]
   first | (rw [qa] at h; split at h) | split at h
   ·rename_i n hn
    rw [hn]
    simp only [List.length_map]
    first | (rw [qa] at h; split at h) | split at h
    ·rename_i hl
     cases h
     rw [if_pos hl]
     simp [enc, qP, List.map_take, List.map_drop]
    ·cases h
   ·cases h
  ·rename_i ha
   rw [if_neg ha]
   obtain ⟨h1, h2⟩ := a8d h
   rw [List.getElem?_map, h1, Zs h2]; rfl
theorem Kw (d : TV) : is1 (enc d) = ZQ d := by cases d <;> rfl
theorem Kj {d : TV} (h : ZQ d = true) : zg (enc d) = (y1 d).map qp := by cases d <;> first | rfl | cases h
theorem a2h : ∀ xs : List TV, Qd (xs.map qp) = Xe xs
 | [] => rfl
 | x :: l => by
  simp only [List.map_cons, Xe]
  cases x <;> first | rfl | (simp only [qp, zm, Qd, a2h l])
theorem QT (d : TV) : y3 (enc d) = XK d := by
 cases d <;> first | rfl | (simp only [enc, qP, y3, XK, a2h])
theorem agA (o : Option Value) : scD o = (scT o).map enc := by
 unfold scD scT
 cases o with
 | none => rfl
 | some v => simp only; split <;> rfl
theorem YY {o : Option Value} {d : TV} (h : scT o = some d) : scD o = some (enc d) := by rw [agA, h]; rfl
theorem a0v {d : TV} {x : Value} (h : a3v d = some x) : W9 (enc d) = some x := by
 cases d <;> first | exact h | cases h
theorem acw {P : Program} {op : BinOp} {t : TypeId} {a b d : TV} (h : ae7 P op t a b = some d) : ye P op t (enc a) (enc b) = some (enc d) := by
 unfold ae7 at h
 unfold ye
 rw [QT, QT]
 first | (rw [qa] at h; split at h) | split at h
 ·rename_i h1 h2; simp only [h1, h2]; exact YY h
 ·rename_i h1 h2
  simp only [h1, h2]
  first | (rw [qa] at h; split at h) | split at h
  ·rename_i hn
   rw [if_pos hn]
   first | (rw [qa] at h; split at h) | split at h
   ·rename_i x hx; rw [a0v hx]; exact YY h
   ·cases h
  ·cases h
 ·rename_i h1 h2
  simp only [h1, h2]
  first | (rw [qa] at h; split at h) | split at h
  ·rename_i hn
   rw [if_pos hn]
   first | (rw [qa] at h; split at h) | split at h
   ·rename_i x hx; rw [a0v hx]; exact YY h
   ·cases h
  ·cases h
 ·cases h
section
variable {R : Type} {P : Program} {K : TV → Tree R} {z : R}
def a3W (op : BinOp) (x y : TV) : Bool := match op, x, y with
 | .eql, .sl _ _, .v (.slice none 0 0) => true
 | .neq, .sl _ _, .v (.slice none 0 0) => true
 | _, _, _ => false
theorem af4 {op : BinOp} {t : TypeId} {x y : TV} (hn : a3W op x y = false) (h : (adv P op t x y K).run = some z) : ∃ r, ye P op t (enc x) (enc y) = some (enc r) ∧ (K r).run = some z := by
 unfold adv at h
 split at h
 ·rename_i k a k' b
  split at h
  ·rename_i hk
   rw [qa] at h
   split at h
   ·rename_i hb
    refine ⟨_, ?_, h⟩
    simp [enc, qP, qp, zm, ye, y3, qS, zj, hk, ZU, hb, scD, scal, qA]
   ·cases h
  ·cases h
 ·rename_i k a k' b
  split at h
  ·rename_i hk
   rw [qa] at h
   split at h
   ·rename_i hb
    refine ⟨_, ?_, h⟩
    simp [enc, qP, qp, zm, ye, y3, qS, zj, hk, ZU, hb, scD, scal, qA]
   ·cases h
  ·cases h
 ·rename_i k a k' b
  rw [qa] at h
  split at h
  ·rename_i hb
   refine ⟨_, ?_, h⟩
   simp only [enc, qP, qp, zm, ye, y3, qS, zj, if_true, ZR, if_neg (Int.not_lt.2 hb)]
   rfl
  ·cases h
 ·rename_i k a k' b
  rw [qa] at h
  split at h
  ·rename_i hb
   refine ⟨_, ?_, h⟩
   simp only [enc, qP, qp, zm, ye, y3, qS, zj, if_true, ZR, if_neg (Int.not_lt.2 hb)]
   rfl
  ·cases h
 ·rename_i a b
  rw [qa] at h
  split at h
  ·rename_i hb
   refine ⟨_, ?_, h⟩
   simp only [enc, qP, qp, zm, ye, y3, qS, a18, if_pos hb]
   rfl
  ·cases h
 ·cases hn
 ·cases hn
 ·obtain ⟨d, h1, h2⟩ := q8 h
  exact ⟨d, acw h1, h2⟩
end
theorem ZA : ∀ (vs cs : List TV) (i : Nat), kD (cs.map qp) i (vs.map qp) = (jf cs i vs).map qp
 | [], cs, i => rfl
 | v :: r, cs, i => by
  simp only [List.map_cons, kD, jf]
  rw [← ZA r, List.map_set]
theorem vM (P : Program) (t : TypeId) : Yu P t = (xZ P t).map (List.map qp) := by
 unfold Yu xZ
 cases qY P t with
 | none => rfl
 | some z =>
  simp only
  split
  ·simp [Function.comp_def, qp, zm]
  ·rfl
theorem a5X {pl : Nat → Option (Nat × Nat)} : ∀ (ps : List (Nat × TV)) (cells out : List TV), a6x pl cells ps = some out → Yw pl (cells.map qp) (ps.map fun p => (p.1, enc p.2)) = some (out.map qp)
 | [], cells, out, h => by cases h; rfl
 | (i, v) :: r, cells, out, h => by
  unfold a6x at h
  simp only [List.map_cons, Yw]
  first | (rw [qa] at h; split at h) | split at h
  ·cases h
  ·rename_i off sz hp
   rw [hp]
   simp only
   first | (rw [qa] at h; split at h) | split at h
   ·rename_i hc
    have h1 := hc.1
    rw [Kj h1, Kw, List.length_map, List.length_map, if_pos hc, ZA]
    exact a5X r _ _ h
   ·cases h
theorem a7h {P : Program} {t : TypeId} {ps : List (Nat × TV)} {d : TV} (h : a2W P t ps = some d) : Yd P t (ps.map fun p => (p.1, enc p.2)) = some (enc d) := by
 unfold a2W at h
 unfold Yd
 rw [vM]
 first | (rw [qa] at h; split at h) | split at h
 ·rename_i pl z h1 h2
  rw [h1, h2]
  simp only [Option.map_some]
  first | (rw [qa] at h; split at h) | split at h
  ·rename_i hz
   rw [if_pos hz]
   cases hf : a6x pl z ps with
   | none => rw [hf] at h; cases h
   | some out => rw [hf] at h; cases h; rw [a5X _ _ _ hf]; rfl
  ·cases h
 ·cases h
theorem a9c {P : Program} {t : TypeId} {x : TV} {f : Nat} {d : TV} (h : a2Y P t x f = some d) : Y1 P t (enc x) f = some (enc d) := by
 unfold a2Y at h
 unfold Y1
 first | (rw [qa] at h; split at h) | split at h
 ·rename_i fs cs hu
  rw [hu]
  simp only [enc, qP]
  first | (rw [qa] at h; split at h) | split at h
  ·rename_i fd hf
   rw [hf]
   exact QA h
  ·cases h
 ·cases h
theorem qX {L : List TO} {id : Nat} {o : TO} (h : L[id]? = some o) : (eL L)[id]? = some (ko o) := by
 unfold eL; rw [List.getElem?_map, h]; rfl
theorem Zv {L : List TO} {id tot : Nat} {c : CT} {e : TypeId} {loc : Bool} {xs : List c.T} (h : L[id]? = some (.li c e loc xs)) (ht : xs.length = tot) : zw (eL L) id tot = some (xs.map (qF c)) := by
 unfold zw; rw [qX h]; simp [ko, ht]
theorem Qq {L : List TO} {id tot : Nat} {c : CT} {e : TypeId} {loc : Bool} {xs : List c.T} (h : L[id]? = some (.fz c e loc xs)) (ht : xs.length = tot) : zw (eL L) id tot = some (xs.map (qF c)) := by
 unfold zw; rw [qX h]; simp [ko, ht]
theorem VO {L : List TO} {id n tot : Nat} (h : xh L id = some n) (hn : n = tot) : ∃ rs, zw (eL L) id tot = some rs := by
 unfold xh at h
 first | (rw [qa] at h; split at h) | split at h
 ·rename_i h1; cases h; exact ⟨_, Zv h1 hn⟩
 ·rename_i h1; cases h; exact ⟨_, Qq h1 hn⟩
 ·cases h
section
variable {R : Type} {P : Program} {K : TV → Tree R} {z : R} {L : List TO}
theorem a3Y {k : Nat} {x : TV} (h : (ton L k x K).run = some z) : ∃ r, onD (eL L) k (enc x) = some (enc r) ∧ (K r).run = some z := by
 unfold ton at h
 first | (rw [qa] at h; split at h) | split at h
 ·exact ⟨_, rfl, h⟩
 ·obtain ⟨n, h1, h2⟩ := q8 h
  obtain ⟨h3, h4⟩ := zK h2
  obtain ⟨rs, hr⟩ := VO h1 (h3 _ List.mem_cons_self)
  exact ⟨_, by simp [enc, qP, qp, zm, onD, hr], h4⟩
 ·exact ⟨_, rfl, h⟩
 ·cases h
theorem a3k {x : TV} {n : Int} (h : a15 x = some n) : acF (enc x) = some n := by
 unfold a15 at h
 first | (rw [qa] at h; split at h) | split at h
 ·cases h; rfl
 ·cases h
theorem XV {c : CT} {s id n tot m : Nat} (h : (acf c s id n tot m K).run = some z) : c.size = s ∧ n < tot ∧ m = tot ∧ (K (.ep id n 0 tot)).run = some z := by
 unfold acf at h
 first | (rw [qa] at h; split at h) | split at h
 ·rename_i h1
  first | (rw [qa] at h; split at h) | split at h
  ·rename_i h2; exact ⟨h1, h2.1, h2.2, h⟩
  ·cases h
 ·cases h
theorem a0s {t : TypeId} {x i : TV} (h : (Z1 P L t x i K).run = some z) : ∃ r, wI P (eL L) t (enc x) (enc i) = some (enc r) ∧ (K r).run = some z := by
 unfold Z1 at h
 obtain ⟨n, hi, h⟩ := q8 h
 unfold wI
 rw [a3k hi]
 simp only
 first | (rw [qa] at h; split at h) | split at h
 ·rename_i e hu
  obtain ⟨s, hs, h⟩ := q8 h
  rw [hu]
  simp only [hs]
  have key : ∀ {tot : Nat} {c : CT} {xs : List c.T} {k : Nat}, c.size = s → k < tot → xs.length = tot → ∃ row, (xs.map (qF c))[k]? = some row ∧ row.length = s := by
   intro tot c xs k hc hk hl
   have hk' : k < xs.length := by omega
   exact ⟨qF c xs[k], by rw [List.getElem?_map, List.getElem?_eq_getElem hk']; rfl, by rw [kd, hc]⟩
  first | (rw [qa] at h; split at h) | split at h
  ·rename_i c xs
   first | (rw [qa] at h; split at h) | split at h
   ·rename_i hc
    first | (rw [qa] at h; split at h) | split at h
    ·rename_i h0
     obtain ⟨y, hy, h⟩ := ke h
     refine ⟨_, ?_, h⟩
     simp [enc, qP, qp, zm, h0, hc, List.getElem?_map, hy]
    ·cases h
   ·cases h
  ·rename_i id tot
   first | (rw [qa] at h; split at h) | split at h
   ·rename_i h0
    first | (rw [qa] at h; split at h) | split at h
    ·rename_i c e' loc xs hL
     obtain ⟨h1, h2, h3, h4⟩ := XV h
     have hr := Zv hL h3
     obtain ⟨row, q1, q2⟩ := key h1 h2 h3
     refine ⟨_, ?_, h4⟩
     simp only [enc, qP, qp, zm, if_pos h0, hr, if_pos h2, Nat.zero_add, q1, if_pos q2]
    ·rename_i c e' loc xs hL
     obtain ⟨h1, h2, h3, h4⟩ := XV h
     have hr := Qq hL h3
     obtain ⟨row, q1, q2⟩ := key h1 h2 h3
     refine ⟨_, ?_, h4⟩
     simp only [enc, qP, qp, zm, if_pos h0, hr, if_pos h2, Nat.zero_add, q1, if_pos q2]
    ·cases h
   ·cases h
  ·rename_i id lo m tot
   first | (rw [qa] at h; split at h) | split at h
   ·rename_i h0
    first | (rw [qa] at h; split at h) | split at h
    ·rename_i c e' loc xs hL
     obtain ⟨h1, h2, h3, h4⟩ := XV h
     have hr := Zv hL h3
     obtain ⟨row, q1, q2⟩ := key h1 h2 h3
     refine ⟨_, ?_, h4⟩
     simp only [enc, qP, qp, zm, if_pos h0.1, hr, if_pos h0.2, q1, if_pos q2]
    ·rename_i c e' loc xs hL
     obtain ⟨h1, h2, h3, h4⟩ := XV h
     have hr := Qq hL h3
     obtain ⟨row, q1, q2⟩ := key h1 h2 h3
     refine ⟨_, ?_, h4⟩
     simp only [enc, qP, qp, zm, if_pos h0.1, hr, if_pos h0.2, q1, if_pos q2]
    ·cases h
   ·cases h
  ·first | (rw [qa] at h; split at h) | split at h
   ·rename_i h0
    exact ⟨_, by simp only [enc, qP, qp, zm, if_pos h0.1, if_pos h0.2], h⟩
   ·cases h
  ·cases h
 ·rename_i len e hu
  obtain ⟨s, hs, h⟩ := q8 h
  rw [hu]
  simp only [hs]
  first | (rw [qa] at h; split at h) | split at h
  ·rename_i h0
   rw [if_pos h0.1, if_pos h0.2]
   exact a3Y h
  ·cases h
 ·cases h
theorem Yb {t : TypeId} {x : TV} (h : (a5n P L t x K).run = some z) : ∃ r, jE P (eL L) t (enc x) = some (enc r) ∧ (K r).run = some z := by
 unfold a5n at h
 first | (rw [qa] at h; split at h) | split at h
 ·first | (rw [qa] at h; split at h) | split at h
  ·rename_i cells hL
   obtain ⟨d, h1, h2⟩ := q8 h
   refine ⟨d, ?_, h2⟩
   simp only [enc, qP, qp, zm, jE, qX hL, ko]
   exact QA h1
  ·cases h
 ·rename_i id i off tot
  first | (rw [qa] at h; split at h) | split at h
  ·rename_i c e loc xs hL
   first | (rw [qa] at h; split at h) | split at h
   ·rename_i ht
    obtain ⟨y, hy, h⟩ := ke h
    obtain ⟨d, h1, h2⟩ := q8 h
    refine ⟨d, ?_, h2⟩
    simp only [enc, qP, qp, zm, jE, Zv hL ht, List.getElem?_map, hy, Option.map_some]
    rw [← Zz]
    exact QA h1
   ·cases h
  ·rename_i c e loc xs hL
   first | (rw [qa] at h; split at h) | split at h
   ·rename_i ht
    obtain ⟨y, hy, h⟩ := ke h
    obtain ⟨d, h1, h2⟩ := q8 h
    refine ⟨d, ?_, h2⟩
    simp only [enc, qP, qp, zm, jE, Qq hL ht, List.getElem?_map, hy, Option.map_some]
    rw [← Zz]
    exact QA h1
   ·cases h
  ·cases h
 ·obtain ⟨d, h1, h2⟩ := q8 h
  refine ⟨d, ?_, h2⟩
  simp only [enc, qP, qp, zm, jE]
  rw [← Zz]
  exact QA h1
 ·cases h
end
end Go.Sim
namespace Go.Sim
open Go.RowKit
theorem zA (L : List TO) : (eL L).length = L.length := by simp [eL]
theorem Z7 (L : List TO) (i : Nat) (o : TO) : eL (L.set i o) = (eL L).set i (ko o) := by simp [eL, List.map_set]
theorem jl (L : List TO) (o : TO) : eL (L ++ [o]) = eL L ++ [ko o] := by simp [eL]
theorem XW (c : CT) (xs : List c.T) : ((xs.map (qF c)).all fun r => r.length == c.size) = true := by
 rw [List.all_eq_true]; intro r hr
 obtain ⟨x, _, rfl⟩ := List.mem_map.1 hr
 simp [kd]
theorem xj : ∀ l : List UInt8, (l.map fun c => [PV.v (.int .u8 c.toNat)]) = List.map (qF (.int .u8)) (l.map fun c => ((c.toNat : Int) : CT.T (.int .u8)))
 | [] => rfl
 | c :: l => by
  have := xj l
  simp only [List.map_cons] at this ⊢
  rw [this]
  rfl
section
variable {R : Type} {P : Program} {z : R} {L : List TO}
theorem a1S {k : IntKind} : ∀ {l : List TV} {ys : List Int}, a67 k l = some ys → pvs (l.map qp) = some (ys.map fun n => PV.v (.int k n))
 | [], ys, h => by cases h; rfl
 | x :: r, ys, h => by
  unfold a67 at h
  split at h
  ·split at h
   ·rename_i hk
    subst hk
    cases hq : a67 _ r with
    | none => rw [hq] at h; cases h
    | some zs =>
     rw [hq] at h
     cases h
     show (pvs (r.map qp)).map _ = _
     rw [a1S hq]
     rfl
   ·cases h
  ·cases h
theorem Z6 {c : CT} {t : TypeId} {x : TV} {K : List c.T → Tree R} (h : (a6v P L c t x K).run = some z) : ∃ ys : List c.T, a2y P (eL L) c.size t (enc x) = some (ys.map (qF c)) ∧ (K ys).run = some z := by
 unfold a6v at h
 unfold a2y
 first | (rw [qa] at h; split at h) | split at h
 ·rename_i e hu
  rw [hu]
  simp only
  first | (rw [qa] at h; split at h) | split at h
  ·rename_i c' xs
   first | (rw [qa] at h; split at h) | split at h
   ·rename_i hc
    have := CT.of_eqb hc
    subst this
    exact ⟨xs, by simp [enc, qP, qp, zm], h⟩
   ·cases h
  ·exact ⟨[], rfl, h⟩
  ·rename_i id tot
   first | (rw [qa] at h; split at h) | split at h
   ·rename_i c' e' loc xs hL
    first | (rw [qa] at h; split at h) | split at h
    ·rename_i hc
     have := CT.of_eqb hc
     subst this
     replace h := zK h; obtain ⟨h1, h2⟩ := h
     have ht : xs.length = tot := h1 _ List.mem_cons_self
     refine ⟨xs, ?_, h2⟩
     simp only [enc, qP, qp, zm, Zv hL ht, XW, if_true, List.drop_zero]
     rw [List.take_of_length_le (by simp [ht])]
    ·cases h
   ·rename_i c' e' loc xs hL
    first | (rw [qa] at h; split at h) | split at h
    ·rename_i hc
     have := CT.of_eqb hc
     subst this
     replace h := zK h; obtain ⟨h1, h2⟩ := h
     have ht : xs.length = tot := h1 _ List.mem_cons_self
     refine ⟨xs, ?_, h2⟩
     simp only [enc, qP, qp, zm, Qq hL ht, XW, if_true, List.drop_zero]
     rw [List.take_of_length_le (by simp [ht])]
    ·cases h
   ·cases h
  ·rename_i id lo n tot
   first | (rw [qa] at h; split at h) | split at h
   ·rename_i c' e' loc xs hL
    first | (rw [qa] at h; split at h) | split at h
    ·rename_i hc
     have := CT.of_eqb hc
     subst this
     replace h := zK h; obtain ⟨h1, h2⟩ := h
     have ht : xs.length = tot := h1 _ List.mem_cons_self
     refine ⟨(xs.drop lo).take n, ?_, h2⟩
     simp only [enc, qP, qp, zm, Zv hL ht, XW, if_true, List.map_take, List.map_drop]
    ·cases h
   ·rename_i c' e' loc xs hL
    first | (rw [qa] at h; split at h) | split at h
    ·rename_i hc
     have := CT.of_eqb hc
     subst this
     replace h := zK h; obtain ⟨h1, h2⟩ := h
     have ht : xs.length = tot := h1 _ List.mem_cons_self
     refine ⟨(xs.drop lo).take n, ?_, h2⟩
     simp only [enc, qP, qp, zm, Qq hL ht, XW, if_true, List.map_take, List.map_drop]
    ·cases h
   ·cases h
  ·rename_i id off n
   split at h
   ·rename_i k K'
    split at h
    ·rename_i cells hL
     split at h
     ·rename_i hle
      replace h := q8 h; obtain ⟨ys, h1, h2⟩ := h
      refine ⟨ys, ?_, h2⟩
      show (match (eL L)[id]? with
       | some (.st cells) => if (CT.int k).size = 1 ∧ off + n ≤ cells.length then (pvs ((cells.drop off).take n)).map fun l : List PV => l.map fun x => [x] else none
       | _ => none) = _
      rw [qX hL]
      show (if (CT.int k).size = 1 ∧ off + n ≤ (cells.map qp).length then (pvs (((cells.map qp).drop off).take n)).map fun l : List PV => l.map fun x => [x] else none) = _
      rw [if_pos ⟨rfl, by rw [List.length_map]; exact hle⟩, ← List.map_drop, ← List.map_take, a1S h1]
      simp only [Option.map_some, List.map_map]
      rfl
     ·cases h
    ·cases h
   ·cases h
  ·cases h
 ·rename_i hu
  rw [hu]
  simp only
  first | (rw [qa] at h; split at h) | split at h
  ·rename_i s
   first | (rw [qa] at h; split at h) | split at h
   ·rename_i hc
    have := CT.of_eqb hc
    subst this
    refine ⟨a3R s, ?_, h⟩
    show (if CT.size (.int .u8) = 1 then some _ else none) = _
    rw [if_pos (show CT.size (.int .u8) = 1 from rfl)]
    exact congrArg some (xj _)
   ·cases h
  ·cases h
 ·cases h
theorem a32 {n b : Nat} (h : n ≤ lim b) (hb : 0 < b) : n ≤ maxLen ∧ n * b ≤ 140737488355328 := by
 unfold lim at h
 have h1 := (Nat.le_div_iff_mul_le hb).1 h
 refine ⟨?_, h1⟩
 have h2 : n ≤ n * b := Nat.le_mul_of_pos_right n hb
 have : maxLen = 9223372036854775807 := rfl
 omega
theorem ahP (loc : Bool) (e : TypeId) (n m : Nat) : (if m = 0 then eo loc e n else some e) = eo loc e (n + m) := by
 unfold eo
 cases loc
 ·by_cases hm : m = 0
  ·simp [hm]
  ·simp [hm]
 ·simp
theorem X1 {ty : TypeId → Option CT} {ts : List TypeId} {s x : TV} {K : TV → List TO → Tree R} (h : (vx P ty ts L s x K).run = some z) : ∃ r L', K7 P ts (eL L) (enc s) (enc x) = some (enc r, eL L') ∧ (K r L').run = some z := by
 unfold vx at h
 unfold K7
 first | (rw [qa] at h; split at h) | split at h
 ·rename_i t t2
  first | (rw [qa] at h; split at h) | split at h
  ·rename_i e hu
   replace h := q8 h; obtain ⟨i, hi, h⟩ := h
   replace h := q8 h; obtain ⟨zc, hz, h⟩ := h
   replace h := q8 h; obtain ⟨c, hc, h⟩ := h
   first | (rw [qa] at h; split at h) | split at h
   ·rename_i hsz
    replace h := Z6 h; obtain ⟨ys, hy, h⟩ := h
    have h0 : 0 < i.size := by rw [← hsz.1]; exact CT.size_pos c
    simp only [hu, hi, hz]
    rw [hsz.1] at hy
    simp only [hy]
    first | (rw [qa] at h; split at h) | split at h
    ·first | (rw [qa] at h; split at h) | split at h
     ·rename_i hl
      obtain ⟨l1, l2⟩ := a32 hl hsz.2
      refine ⟨_, _, ?_, h⟩
      simp only [enc, qP, qp, zm, List.length_map, zA]
      rw [if_pos ⟨h0, l1, l2⟩, jl]
      rfl
     ·cases h
    ·rename_i id tot
     first | (rw [qa] at h; split at h) | split at h
     ·rename_i c' e' loc xs hL
      first | (rw [qa] at h; split at h) | split at h
      ·rename_i he
       subst he
       first | (rw [qa] at h; split at h) | split at h
       ·rename_i hcc
        have := CT.of_eqb hcc
        subst this
        first | (rw [qa] at h; split at h) | split at h
        ·rename_i hl
         obtain ⟨l1, l2⟩ := a32 hl.2 hsz.2
         refine ⟨_, _, ?_, h⟩
         simp only [enc, qP, qp, zm, List.length_map, qX hL, ko]
         have he : eo loc e' xs.length = none ∨ eo loc e' xs.length = some e' := by
          unfold eo; cases loc
          ·by_cases h0 : xs.length = 0 <;> simp [h0]
          ·exact .inr rfl
         have ht := hl.1
         subst ht
         rw [if_pos ⟨(by first | trivial | rfl), (by first | trivial | rfl), (by first | trivial | rfl), he, h0, l1, l2⟩, Z7, a2m]
         simp only [ko, List.length_append, ahP, List.map_append]
        ·cases h
       ·cases h
      ·cases h
     ·cases h
    ·cases h
   ·cases h
  ·cases h
 ·cases h
theorem XY (k : IntKind) {n : Int} (h : 0 ≤ n) : jb (.int k n) = some n.toNat := by
 simp [jb, h]
def BdV (o : Option Int) (v : Option Value) : Prop := match o, v with
 | none, none => True
 | some n, some (.int _ m) => m = n
 | _, _ => False
theorem Zy {n : Nat} {lo hi : Option Int} {lv hv : Option Value} {K : Option Nat → Option Nat → Tree R} (hl : BdV lo lv) (hh : BdV hi hv) (h : (yC n lo hi K).run = some z) :
  ∃ l r, (K l r).run = some z ∧ qz n n lv hv none = some ((wo n l r).1, (wo n l r).1 + (wo n l r).2, none) ∧ (wo n l r).1 + (wo n l r).2 ≤ n ∧ ∀ {α : Type} (xs : List α), xs.length = n → aaI xs l r = (xs.drop (wo n l r).1).take (wo n l r).2 := by
 unfold yC at h
 first | (rw [qa] at h; split at h) | split at h
 ·have : lv = none := by cases lv <;> first | rfl | exact hl.elim
  subst this
  have : hv = none := by cases hv <;> first | rfl | exact hh.elim
  subst this
  exact ⟨none, none, h, by simp [qz, wo], by simp [wo], fun xs hx => by simp [aaI, wo, ← hx]⟩
 ·rename_i b
  have : lv = none := by cases lv <;> first | rfl | exact hl.elim
  subst this
  obtain ⟨k, rfl⟩ : ∃ k, hv = some (.int k b) := by
   cases hv with
   | none => exact hh.elim
   | some v => cases v <;> first | (cases hh; exact ⟨_, rfl⟩) | exact hh.elim
  first | (rw [qa] at h; split at h) | split at h
  ·rename_i hc
   exact ⟨none, some b.toNat, h, by simp [qz, wo, XY, hc.1, hc.2], by simp [wo, hc.2], fun xs hx => by simp [aaI, wo]⟩
  ·cases h
 ·rename_i a
  have : hv = none := by cases hv <;> first | rfl | exact hh.elim
  subst this
  obtain ⟨k, rfl⟩ : ∃ k, lv = some (.int k a) := by
   cases lv with
   | none => exact hl.elim
   | some v => cases v <;> first | (cases hl; exact ⟨_, rfl⟩) | exact hl.elim
  first | (rw [qa] at h; split at h) | split at h
  ·rename_i hc
   have := hc.2
   refine ⟨some a.toNat, none, h, ?_, by simp only [wo]; omega, fun xs hx => ?_⟩
   ·simp only [qz, wo, XY _ hc.1, if_pos hc.2]
    rw [show a.toNat + (n - a.toNat) = n by omega]
   ·simp only [aaI, wo]; rw [List.take_of_length_le (by simp [hx])]
  ·cases h
 ·rename_i a b
  obtain ⟨k, rfl⟩ : ∃ k, lv = some (.int k a) := by
   cases lv with
   | none => exact hl.elim
   | some v => cases v <;> first | (cases hl; exact ⟨_, rfl⟩) | exact hl.elim
  obtain ⟨k', rfl⟩ : ∃ k, hv = some (.int k b) := by
   cases hv with
   | none => exact hh.elim
   | some v => cases v <;> first | (cases hh; exact ⟨_, rfl⟩) | exact hh.elim
  first | (rw [qa] at h; split at h) | split at h
  ·rename_i hc
   have h1 := hc.1
   have h2 := hc.2.1
   have h3 := hc.2.2
   refine ⟨some a.toNat, some b.toNat, h, ?_, by simp only [wo]; omega, fun xs hx => by simp only [aaI, wo]⟩
   simp only [qz, wo, XY _ hc.1, XY _ (show 0 ≤ b by omega), if_pos h3]
   rw [if_pos (by omega)]
   congr 2
   simp only [Prod.mk.injEq, and_true]; omega
  ·cases h
theorem adf {α : Type} (xs : List α) (a b : Nat) : (xs.drop a).take (a + b - a) = (xs.drop a).take b := by rw [Nat.add_sub_cancel_left]
theorem a86 {t : TypeId} {x : TV} {lo hi : Option Int} {lv hv : Option Value} {K : TV → Tree R} (hl : BdV lo lv) (hh : BdV hi hv) (h : (a9y P L t x lo hi K).run = some z) :
  ∃ r, wj P (eL L) t (enc x) lv hv none = some (enc r) ∧ (K r).run = some z := by
 unfold a9y at h
 unfold wj
 first | (rw [qa] at h; split at h) | split at h
 ·rename_i e hu
  replace h := q8 h; obtain ⟨s, hs, h⟩ := h
  rw [hu]
  simp only [hs]
  have part : ∀ {id tot : Nat} {c : CT} {e' : TypeId} {loc : Bool} {xs : List c.T} {o : TO}, L[id]? = some o → (o = .li c e' loc xs ∨ o = .fz c e' loc xs) → c.size = s → e' = e → xs.length = tot → 0 < tot →
    (∃ rs, zw (eL L) id tot = some rs) ∧ (((eL L)[id]?).bind y2).bind (szT P) = some s := by
   intro id tot c e' loc xs o hL ho hc he ht h0
   subst he
   have hne : eo loc e' xs.length = some e' := by
    unfold eo; cases loc
    ·rw [if_neg (by decide), if_neg (by omega)]
    ·rfl
   rcases ho with rfl | rfl
   ·exact ⟨⟨_, Zv hL ht⟩, by rw [qX hL]; simp [ko, y2, hne, hs]⟩
   ·exact ⟨⟨_, Qq hL ht⟩, by rw [qX hL]; simp [ko, y2, hne, hs]⟩
  first | (rw [qa] at h; split at h) | split at h
  ·rename_i c xs
   first | (rw [qa] at h; split at h) | split at h
   ·rename_i hc
    replace h := Zy hl hh h; obtain ⟨l, r, hk, hb, hle, hcut⟩ := h
    refine ⟨_, ?_, hk⟩
    simp only [enc, qP, qp, zm, if_pos hc, List.length_map, hb, adf]
    rw [hcut xs rfl, List.map_take, List.map_drop]
   ·cases h
  ·replace h := Zy hl hh h; obtain ⟨l, r, hk, hb, hle, hcut⟩ := h
   refine ⟨_, ?_, hk⟩
   simp only [enc, qP, qp, zm, hb]
  ·rename_i id tot
   have fin : ∀ {c : CT} {e' : TypeId} {loc : Bool} {xs : List c.T} {o : TO}, L[id]? = some o → (o = .li c e' loc xs ∨ o = .fz c e' loc xs) →
     (if c.size = s ∧ e' = e then tif (0 < tot ∧ xs.length = tot) (yC tot lo hi fun l h => K (.part id (wo tot l h).1 (wo tot l h).2 tot)) else .fail).run = some z →
     ∃ r, (match zw (eL L) id tot with
      | some _ => if (((eL L)[id]?).bind y2).bind (szT P) = some s ∧ 0 < tot then match qz tot tot lv hv none with
        | some (l, r, _) => some (DV.ref id (0 + l) (r - l) tot)
        | none => none
       else none
      | none => none) = some (enc r) ∧ (K r).run = some z := by
    intro c e' loc xs o hL ho h
    first | (rw [qa] at h; split at h) | split at h
    ·rename_i h1
     first | (rw [qa] at h; split at h) | split at h
     ·rename_i h2
      obtain ⟨⟨rs, p1⟩, p2⟩ := part hL ho h1.1 h1.2 h2.2 h2.1
      replace h := Zy hl hh h; obtain ⟨l, r, hk, hb, hle, hcut⟩ := h
      refine ⟨_, ?_, hk⟩
      simp only [p1, p2, true_and, if_pos h2.1, hb, enc, qP, qp, zm, Nat.zero_add, Nat.add_sub_cancel_left]
     ·cases h
    ·cases h
   first | (rw [qa] at h; split at h) | split at h
   ·rename_i hL
    exact fin hL (.inl rfl) h
   ·rename_i hL
    exact fin hL (.inr rfl) h
   ·cases h
  ·rename_i id a n tot
   have fin : ∀ {c : CT} {e' : TypeId} {loc : Bool} {xs : List c.T} {o : TO}, L[id]? = some o → (o = .li c e' loc xs ∨ o = .fz c e' loc xs) →
     (if c.size = s ∧ e' = e then tif (0 < n ∧ xs.length = tot ∧ 0 < tot) (yC n lo hi fun l h => K (.part id (a + (wo n l h).1) (wo n l h).2 tot)) else .fail).run = some z →
     ∃ r, (match zw (eL L) id tot with
      | some _ => if (((eL L)[id]?).bind y2).bind (szT P) = some s ∧ 0 < n then match qz n n lv hv none with
        | some (l, r, _) => some (DV.ref id (a + l) (r - l) tot)
        | none => none
       else none
      | none => none) = some (enc r) ∧ (K r).run = some z := by
    intro c e' loc xs o hL ho h
    first | (rw [qa] at h; split at h) | split at h
    ·rename_i h1
     first | (rw [qa] at h; split at h) | split at h
     ·rename_i h2
      obtain ⟨⟨rs, p1⟩, p2⟩ := part hL ho h1.1 h1.2 h2.2.1 h2.2.2
      replace h := Zy hl hh h; obtain ⟨l, r, hk, hb, hle, hcut⟩ := h
      refine ⟨_, ?_, hk⟩
      simp only [p1, p2, true_and, if_pos h2.1, hb, enc, qP, qp, zm, Nat.add_sub_cancel_left]
     ·cases h
    ·cases h
   first | (rw [qa] at h; split at h) | split at h
   ·rename_i hL
    exact fin hL (.inl rfl) h
   ·rename_i hL
    exact fin hL (.inr rfl) h
   ·cases h
  ·cases h
 ·cases h
theorem a1u {t : TypeId} {x : TV} {K : TV → Tree R} (h : (aa5 P L t x K).run = some z) : ∃ r, Uk P (eL L) t (enc x) = some (enc r) ∧ (K r).run = some z := by
 unfold aa5 at h
 unfold Uk
 first | (rw [qa] at h; split at h) | split at h
 ·rename_i hu
  rw [hu]
  simp only
  first | (rw [qa] at h; split at h) | split at h
  ·exact ⟨_, by simp only [enc, qP, qp, zm, List.length_map], h⟩
  ·exact ⟨_, rfl, h⟩
  ·rename_i id tot
   replace h := q8 h; obtain ⟨n, h1, h2⟩ := h
   replace h2 := zK h2; obtain ⟨h3, h4⟩ := h2
   obtain ⟨rs, hr⟩ := VO h1 (h3 _ List.mem_cons_self)
   exact ⟨_, by simp only [enc, qP, qp, zm, hr], h4⟩
  ·rename_i id lo m tot
   replace h := q8 h; obtain ⟨n, h1, h2⟩ := h
   replace h2 := zK h2; obtain ⟨h3, h4⟩ := h2
   obtain ⟨rs, hr⟩ := VO h1 (h3 _ List.mem_cons_self)
   exact ⟨_, by simp only [enc, qP, qp, zm, hr], h4⟩
  ·exact ⟨_, rfl, h⟩
  ·cases h
 ·rename_i hu
  rw [hu]
  simp only
  first | (rw [qa] at h; split at h) | split at h
  ·exact ⟨_, rfl, h⟩
  ·cases h
 ·rename_i hu
  rw [hu]
  simp only
  first | (rw [qa] at h; split at h) | split at h
  ·exact ⟨_, rfl, h⟩
  ·cases h
 ·cases h
theorem a68 : ∀ xs : List (CT.T (.int .u8)), X3 (xs.map (qF (.int .u8))) = some xs
 | [] => rfl
 | x :: l => by
  have := a68 l
  simp only [List.map_cons]
  show (X3 (List.map (qF (.int .u8)) l)).map _ = _
  rw [this]
  rfl
theorem aax {s d : TypeId} {x : TV} {K : TV → List TO → Tree R} (h : (adx P L s d x K).run = some z) : ∃ r L', xH P (eL L) s d (enc x) = some (enc r, eL L') ∧ (K r L').run = some z := by
 unfold adx at h
 unfold xH
 first | (rw [qa] at h; split at h) | split at h
 ·rename_i e hu hd
  rw [hu, hd]
  simp only
  first | (rw [qa] at h; split at h) | split at h
  ·rename_i hb
   replace h := Z6 h; obtain ⟨ys, hy, h⟩ := h
   refine ⟨_, L, ?_, h⟩
   rw [if_pos hb]
   rw [show (1 : Nat) = CT.size (.int .u8) from rfl, hy]
   simp only [Option.bind_some, a68]
   rfl
  ·cases h
 ·rename_i e hu hd
  rw [hu, hd]
  simp only
  first | (rw [qa] at h; split at h) | split at h
  ·rename_i t
   first | (rw [qa] at h; split at h) | split at h
   ·rename_i hb
    first | (rw [qa] at h; split at h) | split at h
    ·rename_i hl
     refine ⟨_, _, ?_, h⟩
     simp only [enc, qP, qp, zm]
     rw [if_pos ⟨hb.1, hb.2, hl⟩, jl, zA]
     unfold a3R
     simp only [ko, eo, if_true]
     rw [xj]
    ·cases h
   ·cases h
  ·cases h
 ·rename_i e' e hu hd
  rw [hu, hd]
  simp only
  split at h
  ·rename_i id tot
   split at h
   ·rename_i hb
    split at h
    ·rename_i c te loc xs hL
     rw [qa] at h
     split at h
     ·rename_i hc
      refine ⟨_, _, ?_, h⟩
      have he : eo loc te xs.length = some te := by
       unfold eo; cases loc
       ·rw [if_neg (by decide), if_neg (by omega)]
       ·rfl
      show (if s = d ∧ Qg P e = true ∧ 0 < tot ∧ 0 < tot then _ else _) = _
      rw [if_pos ⟨hb.1, hb.2, hc.1, hc.1⟩, qX hL]
      show (match some (Obj.li (eo loc te xs.length) (xs.map (qF c))) with
       | some (Obj.li (some _) rows) => if rows.length = tot then some (DV.ref id 0 tot tot, eL L) else none
       | _ => none) = _
      rw [he]
      simp only [List.length_map, if_pos hc.2]
      rfl
     ·cases h
    ·cases h
   ·cases h
  ·cases h
 ·rename_i n1 n2 n3
  first | (rw [qa] at h; split at h) | split at h
  ·rename_i v hv
   replace h := q8 h; obtain ⟨r, h1, h2⟩ := h
   refine ⟨r, L, ?_, h2⟩
   rw [← QT] at hv
   split
   ·rename_i a b; exact absurd b (n1 _ a)
   ·rename_i a b; exact absurd b (n2 _ a)
   ·rename_i a b; exact absurd b (n3 _ _ a)
   ·rw [hv]; simp only [YY h1, Option.map_some]
  ·cases h
theorem a6m {ty : TypeId → Option CT} {t : TypeId} {x i : TV} {K : TV → Tree R} (h : (XR P ty t x i K).run = some z) : ∃ r, Yk P t (enc x) (enc i) = some (enc r) ∧ (K r).run = some z := by
 unfold XR at h
 first | (rw [qa] at h; split at h) | split at h
 ·rename_i len e cs n hu hi
  first | (rw [qa] at h; split at h) | split at h
  ·rename_i s hs
   first | (rw [qa] at h; split at h) | split at h
   ·rename_i hc
    replace h := q8 h; obtain ⟨d, h1, h2⟩ := h
    refine ⟨d, ?_, h2⟩
    unfold Yk
    rw [hu, a3k hi]
    simp only [enc, qP, hs, if_pos hc]
    exact QA h1
   ·cases h
  ·cases h
 ·rename_i s n hu hi
  first | (rw [qa] at h; split at h) | split at h
  ·rename_i hc
   replace h := ke h; obtain ⟨b, h1, h2⟩ := h
   refine ⟨_, ?_, h2⟩
   unfold Yk
   rw [hu, a3k hi]
   simp only [enc, qP, qp, zm, if_pos hc, h1, Option.map_some]
   rfl
  ·cases h
 ·cases h
theorem a3H {x d : TV} {i : Nat} (h : xv x i = some d) : Qw (enc x) i = some (enc d) := by
 unfold xv at h
 first | (rw [qa] at h; split at h) | split at h
 ·rename_i xs
  first | (rw [qa] at h; split at h) | split at h
  ·rename_i d' hd
   first | (rw [qa] at h; split at h) | split at h
   ·rename_i h1
    cases h
    simp only [enc, Qw, List.getElem?_map, hd, Option.map_some]
    congr 1
    cases d <;> first | rfl | cases h1
   ·cases h
  ·cases h
 ·cases h
theorem v6 : ∀ (ds : List TV), yt (ds.map enc) = Y6 ds
 | [] => rfl
 | d :: l => by
  simp only [List.map_cons, yt, Y6, QT, v6 l]
  cases XK d <;> cases Y6 l <;> rfl
theorem a4u {d : TV} (h : V3 d = true) : Js (enc d) = true ∧ enc d = zm d := by cases d <;> first | exact ⟨rfl, rfl⟩ | cases h
theorem yz : ∀ {ds : List TV}, ds.all V3 = true → (ds.map enc).all Js = true ∧ ds.map enc = ds.map zm
 | [], _ => ⟨rfl, rfl⟩
 | d :: l, h => by
  simp only [List.all_cons, Bool.and_eq_true] at h
  obtain ⟨h1, h2⟩ := yz h.2
  refine ⟨?_, ?_⟩
  ·rw [List.map_cons, List.all_cons, h1, (a4u h.1).1]; rfl
  ·rw [List.map_cons, List.map_cons, h2, (a4u h.1).2]
theorem abw {f : Fn} {a b : Option (List TV)} {d : TV} (h : a8A f a b = some d) : xF f (a.map (List.map enc)) (b.map (List.map enc)) = some (enc d) := by
 unfold a8A at h
 first | (rw [qa] at h; split at h) | split at h
 ·rename_i k a b
  first | (rw [qa] at h; split at h) | split at h
  ·rename_i hb
   simp only [Bool.and_eq_true] at hb
   cases h
   obtain ⟨h1, h2⟩ := yz hb.1
   obtain ⟨h3, h4⟩ := yz hb.2
   simp only [Option.map_some, xF, h1, h3, Bool.and_self, if_true, enc, qP, qp]
   rw [h2, h4]
  ·cases h
 ·cases h
end
end Go.Sim
namespace Go.Sim
open Go.RowKit
section
variable {P : Program} {γ : Pl} {L : List Obj} {h : Heap} {h0 : Heap} {W0 : Ent}
theorem VQ (H : Hp P h0 W0 γ L h) {id : Nat} {e : Option TypeId} {rows : List (List PV)} (hi : L[id]? = some (.li e rows)) : Hp P h0 W0 γ (L.set id (.fz e rows)) h ∧ Carry W0 γ L h γ (L.set id (.fz e rows)) h := by
 have hget : ∀ b', b' < h.next → (∀ x, γ id ≠ some (b', x)) → h.get b' = h.get b' := fun _ _ _ => rfl
 have hd : (Obj.li e rows).owns = true ∨ γ id = none := by
  cases e with
  | none => exact .inr (H.obj id _ hi).2
  | some _ => exact .inl rfl
 have c := wH (W0 := W0) (h := h) (γ := γ) (γ' := γ) (h' := h) (o' := .fz e rows) hi hd (fun _ _ => rfl) (fun c e => (by cases e)) (fun r' hl' => ⟨rows, rfl, by cases hl'; exact Nat.le_refl _, fun _ => ⟨rfl, fun z hz => by cases hl'; exact hz⟩⟩) (Nat.le_refl _) (fun b x e d => by cases d) hget
 refine ⟨H.write hi hd c (fun _ _ => rfl) (Nat.le_refl _) (fun b x e => .inl ⟨x, e⟩) (fun x e => H.dom _ _ e) hget ?_, c⟩
 have ho := H.obj id _ hi
 cases e with
 | none => exact ho
 | some te =>
  obtain ⟨b, q, g1, g2⟩ := ho
  refine ⟨b, q, g1, ⟨?_, H.allowed hi rfl g1, fun j oj x hj hdj hg => ?_⟩, c.rows rfl g2⟩
  ·obtain ⟨cs, z, a1, _⟩ := g2
   exact h.wf _ _ a1
  ·rcases getElem?_set' hj with ⟨hne, hj⟩ | ⟨rfl, _, rfl⟩
   ·exact hne (H.inj j id oj _ b x q hj hi hdj rfl hg g1)
   ·cases hdj
theorem a37 (H : Hp P h0 W0 γ L h) {id : Nat} {e : Option TypeId} {rows rows' : List (List PV)} (hi : L[id]? = some (.li e rows)) (hw : Kq rows' rows) : Hp P h0 W0 γ (L.set id (.li e rows')) h ∧ Carry W0 γ L h γ (L.set id (.li e rows')) h := by
 have hget : ∀ b', b' < h.next → (∀ x, γ id ≠ some (b', x)) → h.get b' = h.get b' := fun _ _ _ => rfl
 have hd : (Obj.li e rows).owns = true ∨ γ id = none := by
  cases e with
  | none => exact .inr (H.obj id _ hi).2
  | some _ => exact .inl rfl
 have c := wH (W0 := W0) (h := h) (γ := γ) (γ' := γ) (h' := h) (o' := .li e rows') hi hd (fun _ _ => rfl) (fun c e => (by cases e)) (fun r' hl' => ⟨rows, rfl, by cases hl'; exact Nat.le_of_eq (Kk hw).symm, fun _ => ⟨rfl, fun z hz => by cases hl'; exact VI hw hz⟩⟩) (Nat.le_refl _) (fun b x e d => .inl e) hget
 refine ⟨H.write hi hd c (fun _ _ => rfl) (Nat.le_refl _) (fun b x e => .inl ⟨x, e⟩) (fun x e => H.dom _ _ e) hget ?_, c⟩
 have ho := H.obj id _ hi
 cases e with
 | none => exact ⟨Y3 hw ho.1, ho.2⟩
 | some te =>
  obtain ⟨b, q, g1, g2⟩ := ho
  exact ⟨b, q, g1, c.rows rfl (Rows.of_w hw g2)⟩
theorem a3U (H : Hp P h0 W0 γ L h) {id tot z : Nat} {e : Option TypeId} {rows : List (List PV)} {v : Value} (hi : L[id]? = some (.fz e rows)) (ht : rows.length = tot) (hz : ∀ te, e = some te → szT P te = some z)
  (hd : DC P (qd W0 γ L h) γ L h (.ref id 0 tot tot) v) : DC P (qd W0 γ L h) γ L h (.p (.sl z rows)) v := by
 have hd' : DB P (qd W0 γ L h) γ L h (.ref id 0 tot tot) v := hd
 obtain ⟨k1, k2, k3⟩ := hd'
 obtain ⟨_, k5⟩ := k3 _ rows hi rfl
 obtain ⟨_, k7⟩ := k5 ht
 have ho := H.obj id _ hi
 show PR P (qd W0 γ L h) h (.sl z rows) v
 cases e with
 | none =>
  obtain ⟨rfl, hg⟩ := ho
  rcases k7 z (fun r hr => by simp at hr) with ⟨rfl | ⟨b, o, rfl⟩, _, _⟩ | ⟨b, o, c, rfl, h1, h2⟩ | ⟨b, o, c, g, _⟩
  ·exact .nil
  ·exact .zero
  ·omega
  ·rw [hg] at g; cases g
 | some te =>
  obtain ⟨b, o, g1, g2, cs, z1, a1, a2, a3, a4, a5, a6, a7⟩ := ho
  have : z = z1 := by have := hz te rfl; rw [a2] at this; cases this; rfl
  subst this
  rcases k7 z a6 with ⟨_, _, hg⟩ | ⟨b, o, c, rfl, h1, h2⟩ | ⟨b', o', c, g, rfl, d1, d2, d3⟩
  ·rw [g1] at hg; cases hg
  ·omega
  ·rw [g1] at g; cases g
   subst ht
   simp only [Nat.zero_mul, Nat.add_zero]
   exact .sl g2 a1 a3 a4 (fun i r hr => a6 r (List.mem_of_getElem? hr)) (fun i r j x u e1 e2 e3 => a7 i r j x u e1 e2 e3) (.inr ⟨rfl, a2, d3⟩) a5
end
section
variable {P : Program} {γ : Pl} {L : List TO} {h : Heap} {h0 : Heap} {W0 : Ent}
theorem U1 {loc : Bool} {e : TypeId} {n z : Nat} (h : szT P e = some z) : ∀ te, eo loc e n = some te → szT P te = some z := by
 intro te ht
 unfold eo at ht
 split at ht
 ·cases ht; exact h
 ·split at ht
  ·cases ht
  ·cases ht; exact h
def FrzOk (P : Program) (h0 : Heap) (W0 : Ent) (γ : Pl) (L : List TO) (h : Heap) (L' : List TO) : Prop := Hp P h0 W0 γ (eL L') h ∧ Carry W0 γ (eL L) h γ (eL L') h
theorem vi (H : Hp P h0 W0 γ (eL L) h) {x : TV} {v : Value} (hd : DC P (qd W0 γ (eL L) h) γ (eL L) h (qp x) v) {x' : TV} {L' : List TO} {q : List (Nat × Nat)} (e : a61 P L x = (x', L', q)) (hq : ∀ p ∈ q, p.1 = p.2) :
  FrzOk P h0 W0 γ L h L' ∧ DC P (qd W0 γ (eL L') h) γ (eL L') h (qp x') v := by
 have same : ∀ {x'' : TV}, (x, L, ([] : List (Nat × Nat))) = (x', L', q) → FrzOk P h0 W0 γ L h L' ∧ DC P (qd W0 γ (eL L') h) γ (eL L') h (qp x') v := by
  intro _ e; cases e; exact ⟨⟨H, Carry.refl _ _ _⟩, hd⟩
 unfold a61 at e
 split at e
 ·rename_i id tot
  split at e
  ·rename_i c te loc xs hL
   split at e
   ·rename_i hs
    cases e
    have ht : xs.length = tot := hq _ List.mem_cons_self
    have hi : (eL L)[id]? = some (.li (eo loc te xs.length) (xs.map (qF c))) := qX hL
    obtain ⟨H', c'⟩ := VQ H hi
    rw [show (eL L).set id (.fz (eo loc te xs.length) (xs.map (qF c))) = eL (L.set id (.fz c te loc xs)) from (Z7 L id (.fz c te loc xs)).symm] at H' c'
    refine ⟨⟨H', c'⟩, ?_⟩
    have hlt : id < L.length := (List.getElem?_eq_some_iff.1 hL).1
    exact a3U H' (e := eo loc te xs.length) (rows := xs.map (qF c)) (qX (by rw [List.getElem?_set_self hlt])) (by simpa using ht) (U1 hs) (c'.dc hd)
   ·exact same (x'' := .ref id tot) e
  ·rename_i c te loc xs hL
   split at e
   ·rename_i hs
    cases e
    have ht : xs.length = tot := hq _ List.mem_cons_self
    refine ⟨⟨H, Carry.refl _ _ _⟩, ?_⟩
    exact a3U H (e := eo loc te xs.length) (rows := xs.map (qF c)) (qX hL) (by simpa using ht) (U1 hs) hd
   ·exact same (x'' := .ref id tot) e
  ·exact same (x'' := .ref id tot) e
 ·exact same (x'' := x) e
theorem Carry.trans' {L1 L2 L3 : List Obj} {h1 h2 h3 : Heap} {γ1 γ2 γ3 : Pl} (c : Carry W0 γ1 L1 h1 γ2 L2 h2) (c2 : Carry W0 γ2 L2 h2 γ3 L3 h3) : Carry W0 γ1 L1 h1 γ3 L3 h3 :=
 ⟨fun b hb => ⟨(c2.free b (c.free b hb).1).1, (c2.free b (c.free b hb).1).2.trans (c.free b hb).2⟩, Nat.le_trans c.len c2.len, fun i b e hs => by
   obtain ⟨a1, a2⟩ := c.st i b e hs
   exact c2.st i b a1 a2, fun i b e hs => by
   obtain ⟨a1, a2⟩ := c.mp i b e hs
   exact c2.mp i b a1 a2, fun i o' rows' hi' e' hl' => by
   obtain ⟨o1, r1, b1, b2, b3, b4⟩ := c2.li i o' rows' (Nat.lt_of_lt_of_le hi' c.len) e' hl'
   obtain ⟨o2, r2, c1, c2', c3, c4⟩ := c.li i o1 r1 hi' b1 b2
   refine ⟨o2, r2, c1, c2', Nat.le_trans c3 b3, fun e5 => ?_⟩
   obtain ⟨d1, d2⟩ := b4 (by omega)
   obtain ⟨d3, d4⟩ := c4 (by omega)
   exact ⟨d1.trans d3, fun z hz => d4 z (d2 z hz)⟩⟩
theorem Xh : ∀ {L : List TO} {xs : List TV} {vs : List Value} {xs' : List TV} {L' : List TO} {q : List (Nat × Nat)}, Hp P h0 W0 γ (eL L) h → All2 (DC P (qd W0 γ (eL L) h) γ (eL L) h) (xs.map qp) vs → a1F P L xs = (xs', L', q) → (∀ p ∈ q, p.1 = p.2) →
  FrzOk P h0 W0 γ L h L' ∧ All2 (DC P (qd W0 γ (eL L') h) γ (eL L') h) (xs'.map qp) vs
 | L, [], vs, xs', L', q, H, hd, e, hq => by
  cases e
  exact ⟨⟨H, Carry.refl _ _ _⟩, hd⟩
 | L, x :: l, vs, xs', L', q, H, hd, e, hq => by
  cases hd with
  | cons hx ht =>
   unfold a1F at e
   cases h1 : a61 P L x with
   | mk x1 r1 =>
    obtain ⟨L1, q1⟩ := r1
    cases h2 : a1F P L1 l with
    | mk l2 r2 =>
     obtain ⟨L2, q2⟩ := r2
     simp only [h1, h2] at e
     cases e
     obtain ⟨⟨H1, c1⟩, d1⟩ := vi H hx h1 fun p hp => hq p (by simp [hp])
     obtain ⟨⟨H2, c2⟩, d2⟩ := Xh H1 (ht.mono fun _ _ => c1.dc) h2 fun p hp => hq p (by simp [hp])
     exact ⟨⟨H2, c1.trans' c2⟩, .cons (c2.dc d1) d2⟩
theorem v4 {L : List TO} (H : Hp P h0 W0 γ (eL L) h) {x : TV} {v : Value} (hd : DR P (qd W0 γ (eL L) h) γ (eL L) h (enc x) v) {x' : TV} {L' : List TO} {q : List (Nat × Nat)} (e : a9l P L x = (x', L', q)) (hq : ∀ p ∈ q, p.1 = p.2) :
  FrzOk P h0 W0 γ L h L' ∧ DR P (qd W0 γ (eL L') h) γ (eL L') h (enc x') v := by
 unfold a9l at e
 split at e
 ·rename_i xs
  cases h1 : a1F P L xs with
  | mk l2 r2 =>
   obtain ⟨L2, q2⟩ := r2
   simp only [h1] at e
   cases e
   obtain ⟨vs, rfl, hv⟩ := hd
   obtain ⟨a1, a2⟩ := Xh H hv h1 hq
   exact ⟨a1, vs, rfl, a2⟩
 ·rename_i hn
  by_cases hc : isC x = true
  ·have hx : DC P (qd W0 γ (eL L) h) γ (eL L) h (qp x) v := by
    rw [Zs hc] at hd
    cases x <;> first | exact hd | cases hc
   obtain ⟨a1, a2⟩ := vi H hx e hq
   have hc' : isC x' = true := by
    unfold a61 at e
    split at e
    ·split at e
     ·split at e <;> (cases e; rfl)
     ·split at e <;> (cases e; rfl)
     ·cases e; rfl
    ·cases e; exact hc
   refine ⟨a1, ?_⟩
   rw [Zs hc']
   cases x' <;> first | exact a2 | cases hc'
  ·cases x with
   | agg xs => exact absurd rfl (hn xs)
   | tup xs => cases e; exact ⟨⟨H, Carry.refl _ _ _⟩, hd⟩
   | _ => exact absurd rfl hc
theorem xV : ∀ {L : List TO} {xs : List (Nat × TV)} {vs : List (Nat × Value)} {xs' : List (Nat × TV)} {L' : List TO} {q : List (Nat × Nat)}, Hp P h0 W0 γ (eL L) h → All2 (fun d v => d.1 = v.1 ∧ DR P (qd W0 γ (eL L) h) γ (eL L) h d.2 v.2) (xs.map fun p => (p.1, enc p.2)) vs → a2g P L xs = (xs', L', q) → (∀ p ∈ q, p.1 = p.2) →
  FrzOk P h0 W0 γ L h L' ∧ All2 (fun d v => d.1 = v.1 ∧ DR P (qd W0 γ (eL L') h) γ (eL L') h d.2 v.2) (xs'.map fun p => (p.1, enc p.2)) vs
 | L, [], vs, xs', L', q, H, hd, e, hq => by
  cases e
  exact ⟨⟨H, Carry.refl _ _ _⟩, hd⟩
 | L, (i, x) :: l, vs, xs', L', q, H, hd, e, hq => by
  cases hd with
  | cons hx ht =>
   unfold a2g at e
   cases h1 : a9l P L x with
   | mk x1 r1 =>
    obtain ⟨L1, q1⟩ := r1
    cases h2 : a2g P L1 l with
    | mk l2 r2 =>
     obtain ⟨L2, q2⟩ := r2
     simp only [h1, h2] at e
     cases e
     obtain ⟨⟨H1, c1⟩, d1⟩ := v4 H hx.2 h1 fun p hp => hq p (by simp [hp])
     obtain ⟨⟨H2, c2⟩, d2⟩ := xV H1 (ht.mono fun _ _ hh => ⟨hh.1, c1.dr hh.2⟩) h2 fun p hp => hq p (by simp [hp])
     exact ⟨⟨H2, c1.trans' c2⟩, .cons ⟨hx.1, c2.dr d1⟩ d2⟩
end
end Go.Sim
