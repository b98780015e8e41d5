/- Part 6 of the claim TapeJoins: D17, D18, D19, D20, D21, D22, T1, T2 -/
import Derived.Test.YtmcboobmnipjlaaW5
set_option linter.unusedSimpArgs false
set_option linter.unusedVariables false
set_option linter.defProp false
/- Deep values: how code is walked. -/
namespace Go.Sim
open Go.RowKit
theorem withD_congr {α : Type} {o o' : Option α} {f : α → Prop} (h : o = o') : withD o f = withD o' f := by rw [h]
theorem withD_none {α : Type} (f : α → Prop) : withD none f = False := rfl
def dcHold (P : Program) (l : List C) (K : DFrm → List Obj → Prop) (a : DFrm) (L : List Obj) : Prop := dcWp P l K a L
def ddHold (P : Program) (l : List (C × List C)) (K : DFrm → List Obj → Prop) (a : DFrm) (L : List Obj) : Prop := ddWp P l K a L
theorem withD_fun {α : Type} {o : Option α} {f g : α → Prop} (h : ∀ x, f x = g x) : withD o f = withD o g := by
  cases o
  · rfl
  · exact h _
section
variable (P : Program) (d : Option Tmp) (r : List C) (K : DFrm → List Obj → Prop) (a : DFrm) (L : List Obj)
theorem ds_nil : dcWp P [] K a L = K a L := rfl
theorem ds_guard (op : Op) (t : Option Tmp) (want : Bool) : dcWp P (⟨d, op, some (t, want)⟩ :: r) K a L = guardWp (guardD t want a) (dcHold P (⟨d, op, none⟩ :: r) K a L) (dcHold P r K (a.put d undD) L) := rfl
theorem dguard_true (l : List C) (B : Prop) : guardWp (some true) (dcHold P l K a L) B = dcWp P l K a L := by simp [guardWp, dcHold]
theorem dguard_false (l : List C) (A : Prop) : guardWp (some false) A (dcHold P l K a L) = dcWp P l K a L := by simp [guardWp, dcHold]
theorem ds_move (x : Operand) : dcWp P (⟨d, .move x, none⟩ :: r) K a L = withD (a.ev x) fun v => dcWp P r K (a.put d v) L := rfl
theorem ds_assign (x : Operand) : dcWp P (⟨d, .assign x, none⟩ :: r) K a L = withD (a.ev x) fun v => dcWp P r K (a.put d v) L := rfl
theorem ds_pick (c x y : Operand) : dcWp P (⟨d, .pick c x y, none⟩ :: r) K a L = withD (dpickV (a.ev c) (a.ev x) (a.ev y)) fun v => dcWp P r K (a.put d v) L := rfl
theorem ds_build (t : TypeId) (ps : List (Nat × Operand)) : dcWp P (⟨d, .build t ps.toArray, none⟩ :: r) K a L = withD (allDP a.ev ps) fun ds => withD (dbuildV P t ds) fun v => dcWp P r K (a.put d v) L := by simp only [dcWp, dopWp]
theorem ds_field (t : TypeId) (x : Operand) (f : Nat) : dcWp P (⟨d, .field t x f, none⟩ :: r) K a L = withD (a.ev x) fun x => withD (dfieldV P t x f) fun v => dcWp P r K (a.put d v) L := rfl
theorem ds_fieldAddr (t : TypeId) (x : Operand) (f : Nat) : dcWp P (⟨d, .fieldAddr t x f, none⟩ :: r) K a L = withD (a.ev x) fun x => withD (dfieldAddrV P L t x f) fun v => dcWp P r K (a.put d v) L := rfl
theorem ds_unOp (op : UnOp) (t : TypeId) (x : Operand) : dcWp P (⟨d, .unOp op t x, none⟩ :: r) K a L = withD (a.ev x) fun x => withD (valD x) fun v => withD (scD (unV op v)) fun v => dcWp P r K (a.put d v) L := rfl
theorem ds_binOp (op : BinOp) (t : TypeId) (x y : Operand) (u : TypeId) : dcWp P (⟨d, .binOp op t x y u, none⟩ :: r) K a L = withD (a.ev x) fun x => withD (a.ev y) fun y => withD (dbinV P op t x y) fun v => dcWp P r K (a.put d v) L := rfl
theorem ds_convert (s t : TypeId) (x : Operand) : dcWp P (⟨d, .convert s t x, none⟩ :: r) K a L = withD (a.ev x) fun x => withD (dconvV P L s t x) fun p => dcWp P r K (a.put d p.1) p.2 := rfl
theorem ds_makeFunc (f : Fn) (xs ys : List Operand) : dcWp P (⟨d, .makeFunc f xs.toArray ys.toArray, none⟩ :: r) K a L = withD (dfuncV f (allD a.ev xs) (allD a.ev ys)) fun v => dcWp P r K (a.put d v) L := by simp only [dcWp, dopWp]
theorem ds_indexAddr (t : TypeId) (x i : Operand) : dcWp P (⟨d, .indexAddr t x i, none⟩ :: r) K a L = withD (a.ev x) fun x => withD (a.ev i) fun i => withD (dindexAddrV P L t x i) fun v => dcWp P r K (a.put d v) L := rfl
theorem ds_index (t : TypeId) (x i : Operand) : dcWp P (⟨d, .index t x i, none⟩ :: r) K a L = withD (a.ev x) fun x => withD (a.ev i) fun i => withD (dindexV P t x i) fun v => dcWp P r K (a.put d v) L := rfl
theorem ds_extract (x : Operand) (i : Nat) : dcWp P (⟨d, .extract x i, none⟩ :: r) K a L = withD (a.ev x) fun x => withD (dextractV x i) fun v => dcWp P r K (a.put d v) L := rfl
theorem ds_nilCheck (x : Operand) : dcWp P (⟨d, .nilCheck x, none⟩ :: r) K a L = withD (a.ev x) fun x => withD (onD L 0 x) fun v => dcWp P r K (a.put d v) L := rfl
theorem ds_load (t : TypeId) (x : Operand) : dcWp P (⟨d, .load t x, none⟩ :: r) K a L = withD (a.ev x) fun x => withD (dloadV P L t x) fun v => dcWp P r K (a.put d v) L := rfl
theorem ds_store (t : TypeId) (x y : Operand) : dcWp P (⟨d, .store t x y, none⟩ :: r) K a L = withD (a.ev x) fun x => withD (a.ev y) fun y => withD (dstoreV P L t x y) fun L' => dcWp P r K (a.put d undD) L' := rfl
theorem ds_slice (t : TypeId) (x : Operand) (lo hi mx : Option Operand) : dcWp P (⟨d, .slice t x lo hi mx, none⟩ :: r) K a L = withD (a.ev x) fun x => withD (optD a.ev lo) fun lo => withD (optD a.ev hi) fun hi => withD (optD a.ev mx) fun mx => withD (dsliceV P L t x lo hi mx) fun v => dcWp P r K (a.put d v) L := rfl
theorem ds_box (t : TypeId) (x : Operand) : dcWp P (⟨d, .box t x, none⟩ :: r) K a L = withD (a.ev x) fun x => withD (if is1 x = true ∧ szT P t = some (cellsD x).length then some (cellsD x) else none) fun cs => dcWp P r K (a.put d (.ptr L.length 0)) (L ++ [.st cs]) := by
  simp only [dcWp, dopWp]
  refine withD_fun fun x => ?_
  split
  · rename_i h; simp [withD, h]
  · rename_i h; simp only [withD]; exact propext ⟨fun q => h ⟨q.1, q.2.1⟩, fun q => q.elim⟩
theorem ds_alloc (t : TypeId) : dcWp P (⟨d, .alloc t, none⟩ :: r) K a L = withD (zeroD P t) fun z => dcWp P r K (a.put d (.ptr L.length 0)) (L ++ [.st z]) := rfl
theorem ds_buildSlice (t : TypeId) (n : Nat) (ps : List (Nat × Operand)) : dcWp P (⟨d, .buildSlice t n ps.toArray, none⟩ :: r) K a L = withD (allDP a.ev ps) fun ds => withD (dbuildSliceV P L t n ds) fun p => dcWp P r K (a.put d p.1) p.2 := by simp only [dcWp, dopWp]
def dcallW (P : Program) (f : DV) (ds : List DV) (L : List Obj) (K : DV → List Obj → Prop) : Prop := match f with
  | .fn k pre cap => DCallW P k (pre ++ ds ++ cap) L K
  | _ => False
theorem dcall_fn (k : FuncId) (pre ds cap : List DV) (K : DV → List Obj → Prop) : dcallW P (.fn k pre cap) ds L K = DCallW P k (pre ++ ds ++ cap) L K := rfl
theorem ds_call (f : Operand) (xs : List Operand) (ts : Array TypeId) : dcWp P (⟨d, .call ⟨.value f, xs.toArray, ts⟩, none⟩ :: r) K a L = withD (a.ev f) fun f => withD (allD a.ev xs) fun ds => dcallW P f ds L fun v L' => dcHold P r K (a.put d v) L' := by
  simp only [dcWp, dopWp]
  refine withD_fun fun f => ?_
  refine withD_fun fun ds => ?_
  cases f <;> rfl
theorem ds_append (x y : Operand) (ts : List TypeId) : dcWp P (⟨d, .call ⟨.builtin .append, #[x, y], ts.toArray⟩, none⟩ :: r) K a L = withD (a.ev x) fun x => withD (a.ev y) fun y => withD (dappendV P ts L x y) fun p => dcWp P r K (a.put d p.1) p.2 := by
  simp only [dcWp, dopWp, allD, withD]
  cases a.ev x <;> cases a.ev y <;> rfl
theorem ds_len (x : Operand) (t : TypeId) : dcWp P (⟨d, .call ⟨.builtin .len, #[x], #[t]⟩, none⟩ :: r) K a L = withD (a.ev x) fun x => withD (dlenV P L t x) fun v => dcWp P r K (a.put d v) L := by
  simp only [dcWp, dopWp, allD, withD]
  cases a.ev x <;> rfl
theorem ds_min (xs : List Operand) (ts : Array TypeId) : dcWp P (⟨d, .call ⟨.builtin .min, xs.toArray, ts⟩, none⟩ :: r) K a L = withD (allD a.ev xs) fun ds => withD (valsOf ds) fun vs => withD (scD (minV vs)) fun v => dcWp P r K (a.put d v) L := by simp only [dcWp, dopWp]
theorem ds_max (xs : List Operand) (ts : Array TypeId) : dcWp P (⟨d, .call ⟨.builtin .max, xs.toArray, ts⟩, none⟩ :: r) K a L = withD (allD a.ev xs) fun ds => withD (valsOf ds) fun vs => withD (scD (maxV vs)) fun v => dcWp P r K (a.put d v) L := by simp only [dcWp, dopWp]
-- drawn regions
theorem dd_nil : ddWp P [] K a L = K a L := rfl
theorem dd_plain (c : C) (r : List (C × List C)) : ddWp P ((c, []) :: r) K a L = dcWp P [c] (ddWp P r K) a L := by simp only [ddWp, dchkAll, true_and]
theorem dd_chk (c k : C) (ks : List C) (r : List (C × List C)) : ddWp P ((c, k :: ks) :: r) K a L = dcWp P [c] (fun a L => dAnd (dchkAll P a L (k :: ks)) (ddHold P r K a L)) a L := rfl
theorem dchk_nil : dchkAll P a L [] = True := rfl
theorem dchk_cons (c : C) (r : List C) : dchkAll P a L (c :: r) = (dchk P c a L ∧ dchkAll P a L r) := rfl
theorem dchk_plain (d : Option Tmp) (o : Op) : dchk P ⟨d, o, none⟩ a L = withD (dreadV P o a.ev L) fun u => withD (valD u) fun x => withD (slotD a d) fun d' => withD (valD d') fun y => x = y := rfl
theorem dchk_guard (d : Option Tmp) (o : Op) (t : Option Tmp) (want : Bool) : dchk P ⟨d, o, some (t, want)⟩ a L = guardWp (guardD t want a) (withD (dreadV P o a.ev L) fun u => withD (valD u) fun x => withD (slotD a d) fun d' => withD (valD d') fun y => x = y) True := rfl
theorem dread_load (t : TypeId) (x : Operand) : dreadV P (.load t x) a.ev L = (a.ev x).bind (dloadV P L t) := by
  simp only [dreadV]; cases a.ev x <;> rfl
theorem dslot_some (n c : Nat) (l : List (Nat × DV)) (t : Tmp) : slotD ⟨n, c, l⟩ (some t) = dlook t l := rfl
end
theorem dlist_go {P : Program} {l : List C} {K : DFrm → List Obj → Prop} {a : DFrm} {L : List Obj} (q : dcWp P l K a L) : dcHold P l K a L := q
theorem ddraw_go {P : Program} {l : List (C × List C)} {K : DFrm → List Obj → Prop} {a : DFrm} {L : List Obj} (q : ddWp P l K a L) : ddHold P l K a L := q
theorem dx_go {P : Program} {x : X} {Q : DQ} {a : DFrm} {L : List Obj} (q : dxWp P x Q a L) : dxHold P x Q a L := KW.refl q
/-- What of the slots is kept. -/
def keepL (l : List (Nat × DV)) : List Nat → List (Nat × DV)
  | [] => []
  | t :: ts => match dlook t l with
    | some d => (t, d) :: keepL l ts
    | none => keepL l ts
theorem keepL_sub (l : List (Nat × DV)) : ∀ (ts : List Nat) (t : Nat) (d : DV), dlook t (keepL l ts) = some d → dlook t l = some d
  | [], t, d, e => by cases e
  | u :: ts, t, d, e => by
    unfold keepL at e
    split at e
    · rename_i x hx
      simp only [dlook] at e
      split at e
      · rename_i hu; subst hu; cases e; exact hx
      · exact keepL_sub l ts t d e
    · exact keepL_sub l ts t d e
def keep1 (t : Nat) (o : Option DV) (r : List (Nat × DV)) : List (Nat × DV) := match o with
  | some d => (t, d) :: r
  | none => r
theorem keepL_nil (l : List (Nat × DV)) : keepL l [] = [] := rfl
theorem keepL_cons (l : List (Nat × DV)) (t : Nat) (ts : List Nat) : keepL l (t :: ts) = keep1 t (dlook t l) (keepL l ts) := by
  unfold keep1; rw [keepL]
theorem keep1_some (t : Nat) (d : DV) (r : List (Nat × DV)) : keep1 t (some d) r = (t, d) :: r := rfl
theorem keep1_none (t : Nat) (r : List (Nat × DV)) : keep1 t none r = r := rfl
-- code
section
variable (P : Program) (s : List DFx) (Q : DQ) (a : DFrm) (L : List Obj)
theorem dsx_nil (e : Exit) : dsx P [] Q e a L = Q e a L := rfl
theorem dsx_k (y : X) : dsx P (.k y :: s) Q .normal a L = dxHold P y (dsx P s Q) a L := rfl
theorem dsx_k_exit (y : X) (id : Nat) : dsx P (.k y :: s) Q (.exit id) a L = dsx P s Q (.exit id) a L := rfl
theorem dsx_k_goto (y : X) (l : Nat) : dsx P (.k y :: s) Q (.goto l) a L = dsx P s Q (.goto l) a L := rfl
theorem dsx_block (id : Nat) : dsx P (.block id :: s) Q .normal a L = dsx P s Q .normal a L := rfl
theorem dsx_block_exit (id id' : Nat) : dsx P (.block id :: s) Q (.exit id') a L = if id' = id then dsx P s Q .normal a L else dsx P s Q (.exit id') a L := rfl
theorem dsx_block_goto (id l : Nat) : dsx P (.block id :: s) Q (.goto l) a L = dsx P s Q (.goto l) a L := rfl
theorem dsx_loop (K : DFrm → List Obj → Prop) : dsx P (.loop K :: s) Q .normal a L = K a L := rfl
theorem dsx_loop_exit (K : DFrm → List Obj → Prop) (id : Nat) : dsx P (.loop K :: s) Q (.exit id) a L = dsx P s Q (.exit id) a L := rfl
theorem dsx_loop_goto (K : DFrm → List Obj → Prop) (l : Nat) : dsx P (.loop K :: s) Q (.goto l) a L = dsx P s Q (.goto l) a L := rfl
theorem dsx_ret : ∀ s, dsx P s Q .ret a L = Q .ret a L
  | [] => rfl
  | .k _ :: s => dsx_ret s
  | .block _ :: s => dsx_ret s
  | .loop _ :: s => dsx_ret s
  | .scope _ :: s => dsx_ret s
theorem dsx_scope (J : Nat → DFrm → List Obj → Prop) : dsx P (.scope J :: s) Q .normal a L = dsx P s Q .normal a L := rfl
theorem dsx_scope_exit (J : Nat → DFrm → List Obj → Prop) (id : Nat) : dsx P (.scope J :: s) Q (.exit id) a L = dsx P s Q (.exit id) a L := rfl
theorem dsx_scope_goto (J : Nat → DFrm → List Obj → Prop) (l : Nat) : dsx P (.scope J :: s) Q (.goto l) a L = J l a L := rfl
theorem dx_nil : dxWp P .nil (dsx P s Q) a L = dsx P s Q .normal a L := rfl
theorem dx_ret : dxWp P .ret (dsx P s Q) a L = dsx P s Q .ret a L := rfl
theorem dx_exit (id : Nat) : dxWp P (.exit id) (dsx P s Q) a L = dsx P s Q (.exit id) a L := rfl
theorem dx_goto (l : Nat) : dxWp P (.goto l) (dsx P s Q) a L = dsx P s Q (.goto l) a L := rfl
theorem dx_reg (l : List C) (k : X) : dxWp P (.reg l k) (dsx P s Q) a L = dcWp P l (dsx P (.k k :: s) Q .normal) a L := rfl
theorem dx_draw (l : List (C × List C)) (k : X) : dxWp P (.draw l k) (dsx P s Q) a L = ddWp P l (dsx P (.k k :: s) Q .normal) a L := rfl
theorem dx_cond (c : Operand) (x y k : X) : dxWp P (.cond c x y k) (dsx P s Q) a L = condD (a.ev c) (dxHold P x (dsx P (.k k :: s) Q) a L) (dxHold P y (dsx P (.k k :: s) Q) a L) := rfl
theorem dx_block (id : Nat) (x k : X) : dxWp P (.block id x k) (dsx P s Q) a L = dxWp P x (dsx P (.block id :: .k k :: s) Q) a L := rfl
theorem dx_loop (x k : X) : dxWp P (.loop x k) (dsx P s Q) a L = dloopW P x (dsx P (.k k :: s) Q) a L := rfl
theorem dx_scope (x labs k : X) : dxWp P (.scope x labs k) (dsx P s Q) a L = dscopeW P x labs (dsx P (.k k :: s) Q) a L := rfl
theorem dx_label (l : Nat) (k : X) : dxWp P (.label l k) (dsx P s Q) a L = dxWp P k (dsx P s Q) a L := rfl
theorem dcond_true (x : X) (R : DQ) (B : Prop) : condD (some (.p (.v (.bool true)))) (dxHold P x R a L) B = dxHold P x R a L := by simp [condD]
theorem dcond_false (x : X) (R : DQ) (A : Prop) : condD (some (.p (.v (.bool false)))) A (dxHold P x R a L) = dxHold P x R a L := by simp [condD]
end
theorem condD_congr {o o' : Option DV} {A B : Prop} (h : o = o') : condD o A B = condD o' A B := by rw [h]
theorem dcond_split {b : Bool} {A B : Prop} (h1 : b = true → A) (h2 : b = false → B) : condD (some (.p (.v (.bool b)))) A B := ⟨h1, h2⟩
theorem dcond_split_dec {p : Prop} {dp : Decidable p} {A B : Prop} (h1 : p → A) (h2 : ¬ p → B) : condD (some (.p (.v (.bool (@decide p dp))))) A B :=
  ⟨fun e => h1 (of_decide_eq_true e), fun e => h2 (of_decide_eq_false e)⟩
theorem dcond_split_not {p : Prop} {dp : Decidable (¬ p)} {A B : Prop} (h1 : ¬ p → A) (h2 : p → B) : condD (some (.p (.v (.bool (@decide (¬ p) dp))))) A B :=
  ⟨fun e => h1 (of_decide_eq_true e), fun e => h2 (Classical.not_not.1 (of_decide_eq_false e))⟩
/-- What a function is to leave, as it is met. -/
theorem dbody_ret (P : Program) (rs : List ResultVar) (Q : DV → List Obj → Prop) (a : DFrm) (L : List Obj) : dbodyQ P rs Q .ret a L = withD (dresultsV P a L rs) fun ds => withD (packD ds) fun d => Q d L := rfl
theorem dbody_normal (P : Program) (rs : List ResultVar) (Q : DV → List Obj → Prop) (a : DFrm) (L : List Obj) : dbodyQ P rs Q .normal a L = withD (dresultsV P a L rs) fun ds => withD (packD ds) fun d => Q d L := rfl
-- values
theorem dput_some (n c : Nat) (l : List (Nat × DV)) (t : Nat) (v : DV) : DFrm.put ⟨n, c, l⟩ (some t) v = if t < n then ⟨n, c, (t, v) :: l⟩ else ⟨n, c, l⟩ := rfl
theorem dput_none (a : DFrm) (v : DV) : DFrm.put a none v = a := rfl
theorem dev_tmp (n c : Nat) (l : List (Nat × DV)) (t : Nat) : DFrm.ev ⟨n, c, l⟩ (.tmp t) = dlook t l := rfl
theorem dev_func (a : DFrm) (f : FuncId) : a.ev (.func f) = some (.fn f [] []) := rfl
theorem dev_int (a : DFrm) (k : IntKind) (n : Int) : a.ev (.const (.int k n)) = some (.p (.v (.int k n))) := rfl
theorem dev_bool (a : DFrm) (b : Bool) : a.ev (.const (.bool b)) = some (.p (.v (.bool b))) := rfl
theorem dev_string (a : DFrm) (s : ByteArray) : a.ev (.const (.string s)) = some (.p (.v (.string s))) := rfl
theorem dev_nilptr (a : DFrm) : a.ev (.const (.pointer none)) = some (.p (.v (.pointer none))) := rfl
theorem dev_nilslice (a : DFrm) : a.ev (.const (.slice none 0 0)) = some (.p (.v (.slice none 0 0))) := rfl
theorem dev_nilmap (a : DFrm) : a.ev (.const (.map none)) = some (.p (.v (.map none))) := rfl
theorem dev_nilfunc (a : DFrm) : a.ev (.const .nilFunc) = some (.p (.v .nilFunc)) := rfl
theorem dlook_cons (t t' : Nat) (v : DV) (r : List (Nat × DV)) : dlook t ((t', v) :: r) = if t' = t then some v else dlook t r := rfl
theorem dlook_nil (t : Nat) : dlook t [] = none := rfl
theorem dargs_nil (k : Nat) : dargSlots k [] = [] := rfl
theorem dargs_cons (k : Nat) (v : DV) (l : List DV) : dargSlots k (v :: l) = (k, v) :: dargSlots (k + 1) l := rfl
theorem allD_nil (ρ : DRho) : allD ρ [] = some [] := rfl
theorem allD_cons (ρ : DRho) (x : Operand) (l : List Operand) : allD ρ (x :: l) = match ρ x, allD ρ l with | some v, some vs => some (v :: vs) | _, _ => none := rfl
theorem allDP_nil (ρ : DRho) : allDP ρ [] = some [] := rfl
theorem allDP_cons (ρ : DRho) (i : Nat) (x : Operand) (l : List (Nat × Operand)) : allDP ρ ((i, x) :: l) = match ρ x, allDP ρ l with | some v, some vs => some ((i, v) :: vs) | _, _ => none := rfl
theorem optD_none (ρ : DRho) : optD ρ none = some none := rfl
theorem optD_some (ρ : DRho) (x : Operand) : optD ρ (some x) = match ρ x with | some d => (valD d).map some | none => none := rfl
theorem dress_nil (P : Program) (a : DFrm) (L : List Obj) : dresultsV P a L [] = some [] := rfl
theorem dress_cons (P : Program) (a : DFrm) (L : List Obj) (x : ResultVar) (r : List ResultVar) : dresultsV P a L (x :: r) = match dresultV P a L x, dresultsV P a L r with | some v, some vs => some (v :: vs) | _, _ => none := rfl
theorem dres_tmp (P : Program) (n c : Nat) (l : List (Nat × DV)) (L : List Obj) (t : Nat) : dresultV P ⟨n, c, l⟩ L (.tmp t) = dlook t l := rfl
theorem dres_cell (P : Program) (n c : Nat) (l : List (Nat × DV)) (L : List Obj) (p : Nat) (t : TypeId) : dresultV P ⟨n, c, l⟩ L (.cell p t) = match dlook p l with | some d => dloadV P L t d | none => none := rfl
theorem packD_one (d : DV) : packD [d] = some d := rfl
theorem packD_nil : packD [] = some (.tup []) := rfl
theorem packD_two (d e : DV) (l : List DV) : packD (d :: e :: l) = if (d :: e :: l).all is1 then some (.tup (d :: e :: l)) else none := rfl
theorem dguard_at (n c : Nat) (l : List (Nat × DV)) (t : Tmp) (want : Bool) : guardD (some t) want ⟨n, c, l⟩ = match dlook t l with | some (.p (.v (.bool b))) => some (if want then b else !b) | some (.tup _) => some false | _ => none := rfl
theorem dpick_true (x y : Option DV) : dpickV (some (.p (.v (.bool true)))) x y = x := rfl
theorem dpick_false (x y : Option DV) : dpickV (some (.p (.v (.bool false)))) x y = y := rfl
theorem dpick_bool (b u v : Bool) : dpickV (some (.p (.v (.bool b)))) (some (.p (.v (.bool u)))) (some (.p (.v (.bool v)))) = some (.p (.v (.bool (if b then u else v)))) := by cases b <;> rfl
theorem valD_v (x : Value) : valD (.p (.v x)) = some x := rfl
theorem valD_agg (xs : List DV) : valD (.agg xs) = (valsD xs).map fun l => .agg l.toArray := rfl
theorem valsD_nil : valsD [] = some [] := rfl
theorem valsD_cons (x : Value) (l : List DV) : valsD (.p (.v x) :: l) = (valsD l).map (x :: ·) := rfl
theorem valsOf_nil : valsOf [] = some [] := rfl
theorem valsOf_cons (d : DV) (l : List DV) : valsOf (d :: l) = match valD d, valsOf l with | some v, some vs => some (v :: vs) | _, _ => none := rfl
theorem sc_int (k : IntKind) (n : Int) : scD (some (.int k n)) = some (.p (.v (.int k n))) := rfl
theorem sc_bool (b : Bool) : scD (some (.bool b)) = some (.p (.v (.bool b))) := rfl
theorem sc_string (s : ByteArray) : scD (some (.string s)) = some (.p (.v (.string s))) := rfl
theorem is1_p (x : PV) : is1 (.p x) = true := rfl
theorem is1_ptr (i o : Nat) : is1 (.ptr i o) = true := rfl
theorem is1_ep (i o t q : Nat) : is1 (.ep i o t q) = true := rfl
theorem is1_dp (r : List PV) (o : Nat) : is1 (.dp r o) = true := rfl
theorem is1_ref (i o t q : Nat) : is1 (.ref i o t q) = true := rfl
theorem is1_aref (i o t : Nat) : is1 (.aref i o t) = true := rfl
theorem is1_fn (f : FuncId) (x y : List DV) : is1 (.fn f x y) = true := rfl
theorem is1_agg (xs : List DV) : is1 (.agg xs) = true := rfl
theorem cellsD_p (x : PV) : cellsD (.p x) = [.p x] := rfl
theorem cellsD_ptr (i o : Nat) : cellsD (.ptr i o) = [.ptr i o] := rfl
theorem cellsD_ep (i o t q : Nat) : cellsD (.ep i o t q) = [.ep i o t q] := rfl
theorem cellsD_dp (r : List PV) (o : Nat) : cellsD (.dp r o) = [.dp r o] := rfl
theorem cellsD_ref (i o t q : Nat) : cellsD (.ref i o t q) = [.ref i o t q] := rfl
theorem cellsD_aref (i o t : Nat) : cellsD (.aref i o t) = [.aref i o t] := rfl
theorem cellsD_fn (f : FuncId) (x y : List DV) : cellsD (.fn f x y) = [.fn f x y] := rfl
theorem cellsD_agg (xs : List DV) : cellsD (.agg xs) = xs := rfl
theorem setManyD_nil (cs : List DV) (i : Nat) : setManyD cs i [] = cs := rfl
theorem setManyD_cons (cs : List DV) (i : Nat) (v : DV) (r : List DV) : setManyD cs i (v :: r) = setManyD (cs.set i v) (i + 1) r := rfl
theorem setManyP_nil (cs : List PV) (i : Nat) : setManyP cs i [] = cs := rfl
theorem setManyP_cons (cs : List PV) (i : Nat) (v : PV) (r : List PV) : setManyP cs i (v :: r) = setManyP (cs.set i v) (i + 1) r := rfl
theorem pvs_nil : pvs [] = some [] := rfl
theorem pvs_cons (x : PV) (l : List DV) : pvs (.p x :: l) = (pvs l).map (x :: ·) := rfl
theorem dbin_vv (P : Program) (op : BinOp) (t : TypeId) (x y : Value) : dbinV P op t (.p (.v x)) (.p (.v y)) = scD (binV P op t x y) := rfl
theorem dbin_ptr (P : Program) (op : BinOp) (t : TypeId) (i o : Nat) : dbinV P op t (.ptr i o) (.p (.v (.pointer none))) = scD (binV P op t (.pointer (some ⟨0, 0, none⟩)) (.pointer none)) := rfl
theorem dbin_dp (P : Program) (op : BinOp) (t : TypeId) (r : List PV) (o : Nat) : dbinV P op t (.dp r o) (.p (.v (.pointer none))) = scD (binV P op t (.pointer (some ⟨0, 0, none⟩)) (.pointer none)) := rfl
theorem dbin_sl (P : Program) (op : BinOp) (t : TypeId) (z : Nat) (r : List PV) (l : List (List PV)) : dbinV P op t (.p (.sl z (r :: l))) (.p (.v (.slice none 0 0))) = scD (binV P op t (.slice (some ⟨0, 0, none⟩) 1 0) (.slice none 0 0)) := rfl
theorem dbin_agg (P : Program) (op : BinOp) (t : TypeId) (xs ys : List DV) : dbinV P op t (.agg xs) (.agg ys) = match (valsD xs).map (fun l => Value.agg l.toArray), (valsD ys).map (fun l => Value.agg l.toArray) with
  | some x, some y => scD (binV P op t x y)
  | none, some y => none
  | some x, none => none
  | none, none => none := by
  unfold dbinV
  simp only [valD, shadow]
  cases (valsD xs).map (fun l => Value.agg l.toArray) <;> cases hy : (valsD ys).map (fun l => Value.agg l.toArray) <;> simp only <;> split <;> rfl
theorem dload_ptr (P : Program) (L : List Obj) (t : TypeId) (id off : Nat) : dloadV P L t (.ptr id off) = match L[id]? with | some (.st cells) => dpartV P t cells off | _ => none := rfl
theorem dload_ep (P : Program) (L : List Obj) (t : TypeId) (id i off tot : Nat) : dloadV P L t (.ep id i off tot) = match rowsOf L id tot with | some rows => (match rows[i]? with | some row => dpartV P t (row.map .p) off | none => none) | none => none := rfl
theorem dload_dp (P : Program) (L : List Obj) (t : TypeId) (row : List PV) (off : Nat) : dloadV P L t (.dp row off) = dpartV P t (row.map .p) off := rfl
theorem dstore_ptr (P : Program) (L : List Obj) (t : TypeId) (id off : Nat) (x : DV) : dstoreV P L t (.ptr id off) x = match L[id]? with
    | some (.st cells) => if is1 x = true ∧ szT P t = some (cellsD x).length ∧ off + (cellsD x).length ≤ cells.length then some (L.set id (.st (setManyD cells off (cellsD x)))) else none
    | _ => none := rfl
theorem on_ptr (L : List Obj) (k id off : Nat) : onD L k (.ptr id off) = some (.ptr id (off + k)) := rfl
theorem on_dp (L : List Obj) (k : Nat) (row : List PV) (off : Nat) : onD L k (.dp row off) = some (.dp row (off + k)) := rfl
theorem on_ep (L : List Obj) (k id i off tot : Nat) : onD L k (.ep id i off tot) = match rowsOf L id tot with | some _ => some (.ep id i (off + k) tot) | none => none := rfl
theorem dfa_some {P : Program} {t : TypeId} {f k : Nat} (h : offF P t f = some k) (L : List Obj) (x : DV) : dfieldAddrV P L t x f = onD L k x := by unfold dfieldAddrV; rw [h]
theorem rows_of (L : List Obj) (id tot : Nat) : rowsOf L id tot = match L[id]? with | some (.li _ rows) => if rows.length = tot then some rows else none | some (.fz _ rows) => if rows.length = tot then some rows else none | _ => none := rfl
theorem dext_tup (xs : List DV) (i : Nat) : dextractV (.tup xs) i = xs[i]? := rfl
theorem dfunc_some (k : FuncId) (a b : List DV) : dfuncV (.func k) (some a) (some b) = if a.all baseD && b.all baseD then some (.fn k a b) else none := rfl
theorem base_p (x : PV) : baseD (.p x) = true := rfl
theorem base_ptr (i o : Nat) : baseD (.ptr i o) = true := rfl
theorem base_ref (i o t q : Nat) : baseD (.ref i o t q) = true := rfl
end Go.Sim
/- Deep values: types' facts; the rules under one name. -/
namespace Go.Sim
open Go.RowKit
section
variable {P : Program}
theorem dpart_one {t : TypeId} (hu : (P.underlying t).isSome = true) (ha : aggT P t = false) (cs : List DV) (o : Nat) : dpartV P t cs o = cs[o]? := by
  unfold dpartV
  cases h : P.underlying t with
  | none => simp [h] at hu
  | some d => simp [ha]
theorem dpart_agg {t : TypeId} {n : Nat} (ha : aggT P t = true) (hs : szT P t = some n) (cs : List DV) (o : Nat) : dpartV P t cs o = if o + n ≤ cs.length then some (.agg ((cs.drop o).take n)) else none := by
  unfold dpartV
  cases h : P.underlying t with
  | none => simp [aggT, h] at ha
  | some d => simp [ha, hs]
theorem dbuild_of {t : TypeId} {pl : Nat → Option (Nat × Nat)} {z : List DV} (hp : placesOf P t = some pl) (hz : zeroD P t = some z) (ho : zeroOk P t = true) (ps : List (Nat × DV)) : dbuildV P t ps = (fillD pl z ps).map .agg := by
  unfold dbuildV
  simp only [hp, hz, ho, if_true]
theorem fillD_nil (pl : Nat → Option (Nat × Nat)) (cs : List DV) : fillD pl cs [] = some cs := rfl
theorem fillD_cons (pl : Nat → Option (Nat × Nat)) (cs : List DV) (i : Nat) (v : DV) (r : List (Nat × DV)) : fillD pl cs ((i, v) :: r) = match pl i with
    | none => none
    | some (off, sz) => if is1 v = true ∧ (cellsD v).length = sz ∧ off + sz ≤ cs.length then fillD pl (setManyD cs off (cellsD v)) r else none := rfl
theorem dfield_of {t ft : TypeId} {fs : Array Field} {fd : Field} {f : Nat} (hu : P.underlying t = some (.struct fs)) (hf : fs[f]? = some fd) (cs : List DV) : dfieldV P t (.agg cs) f = dpartV P fd.type cs fd.offset := by
  unfold dfieldV
  simp only [hu, hf]
/-! slices -/
theorem dix_sl {t e : TypeId} {s : Nat} (hu : P.underlying t = some (.slice e)) (hs : szT P e = some s) (L : List Obj) (rows : List (List PV)) (k : IntKind) (i : Int) :
    dindexAddrV P L t (.p (.sl s rows)) (.p (.v (.int k i))) = if 0 ≤ i then match rows[i.toNat]? with | some row => some (.dp row 0) | none => none else none := by
  unfold dindexAddrV
  simp only [intD, hu, hs, if_true]
  rfl
theorem dix_ref {t e : TypeId} {s : Nat} (hu : P.underlying t = some (.slice e)) (hs : szT P e = some s) (L : List Obj) (id lo m tot : Nat) (k : IntKind) (i : Int) :
    dindexAddrV P L t (.ref id lo m tot) (.p (.v (.int k i))) = if 0 ≤ i then match rowsOf L id tot with
      | some rows => if i.toNat < m then match rows[lo + i.toNat]? with
        | some row => if row.length = s then some (.ep id (lo + i.toNat) 0 tot) else none
        | none => none
        else none
      | none => none else none := by
  unfold dindexAddrV
  simp only [intD, hu, hs]
  rfl
theorem dix_aref {t e : TypeId} {s : Nat} (hu : P.underlying t = some (.slice e)) (hs : szT P e = some s) (L : List Obj) (id off m : Nat) (k : IntKind) (i : Int) :
    dindexAddrV P L t (.aref id off m) (.p (.v (.int k i))) = if 0 ≤ i then (if i.toNat < m then some (.ptr id (off + i.toNat * s)) else none) else none := by
  unfold dindexAddrV
  simp only [intD, hu, hs]
theorem dix_arr {t e : TypeId} {s len : Nat} (hu : P.underlying t = some (.array len e)) (hs : szT P e = some s) (L : List Obj) (x : DV) (k : IntKind) (i : Int) :
    dindexAddrV P L t x (.p (.v (.int k i))) = if 0 ≤ i then (if i.toNat < len then onD L (i.toNat * s) x else none) else none := by
  unfold dindexAddrV
  simp only [intD, hu, hs]
theorem dixv_arr {t e : TypeId} {s len : Nat} (hu : P.underlying t = some (.array len e)) (hs : szT P e = some s) (cs : List DV) (k : IntKind) (i : Int) :
    dindexV P t (.agg cs) (.p (.v (.int k i))) = if 0 ≤ i ∧ i.toNat < len then dpartV P e cs (i.toNat * s) else none := by
  unfold dindexV
  simp only [intD, hu, hs]
theorem dixv_str {t : TypeId} (hu : P.underlying t = some .string) (s : ByteArray) (k : IntKind) (i : Int) :
    dindexV P t (.p (.v (.string s))) (.p (.v (.int k i))) = if 0 ≤ i then scD ((s[i.toNat]?).map fun b => .int .u8 b.toNat) else none := by
  unfold dindexV
  simp only [intD, hu]
theorem dlen_sl {t e : TypeId} (hu : P.underlying t = some (.slice e)) (L : List Obj) (z : Nat) (rows : List (List PV)) : dlenV P L t (.p (.sl z rows)) = some (.p (.v (.int .i64 rows.length))) := by
  unfold dlenV; simp only [hu]; rfl
theorem dlen_nil {t e : TypeId} (hu : P.underlying t = some (.slice e)) (L : List Obj) : dlenV P L t (.p (.v (.slice none 0 0))) = some (.p (.v (.int .i64 0))) := by
  unfold dlenV; simp only [hu]; rfl
theorem dlen_ref {t e : TypeId} (hu : P.underlying t = some (.slice e)) (L : List Obj) (id lo n tot : Nat) : dlenV P L t (.ref id lo n tot) = match rowsOf L id tot with | some _ => some (.p (.v (.int .i64 n))) | none => none := by
  unfold dlenV; simp only [hu]; rfl
theorem dlen_aref {t e : TypeId} (hu : P.underlying t = some (.slice e)) (L : List Obj) (id off n : Nat) : dlenV P L t (.aref id off n) = some (.p (.v (.int .i64 n))) := by
  unfold dlenV; simp only [hu]; rfl
theorem dlen_str {t : TypeId} (hu : P.underlying t = some .string) (L : List Obj) (s : ByteArray) : dlenV P L t (.p (.v (.string s))) = some (.p (.v (.int .i64 s.size))) := by
  unfold dlenV; simp only [hu]; rfl
theorem dlen_arr {t e : TypeId} {n : Nat} (hu : P.underlying t = some (.array n e)) (L : List Obj) (xs : List DV) : dlenV P L t (.agg xs) = some (.p (.v (.int .i64 n))) := by
  unfold dlenV; simp only [hu]; rfl
theorem dsrc_sl {t e : TypeId} (hu : P.underlying t = some (.slice e)) (L : List Obj) (s : Nat) (rows : List (List PV)) : dsrc P L s t (.p (.sl s rows)) = some rows := by
  unfold dsrc; simp only [hu, if_true]
theorem dsrc_nil {t e : TypeId} (hu : P.underlying t = some (.slice e)) (L : List Obj) (s : Nat) : dsrc P L s t (.p (.v (.slice none 0 0))) = some [] := by
  unfold dsrc; simp only [hu]
theorem dsrc_ref {t e : TypeId} (hu : P.underlying t = some (.slice e)) (L : List Obj) (s id lo n tot : Nat) : dsrc P L s t (.ref id lo n tot) = match rowsOf L id tot with
      | some rows => if rows.all (fun r => r.length == s) then some ((rows.drop lo).take n) else none
      | none => none := by
  unfold dsrc; simp only [hu]; rfl
theorem dsrc_aref {t e : TypeId} (hu : P.underlying t = some (.slice e)) (L : List Obj) (s id off n : Nat) : dsrc P L s t (.aref id off n) = match L[id]? with
      | some (.st cells) => if s = 1 ∧ off + n ≤ cells.length then (pvs ((cells.drop off).take n)).map fun l => l.map fun x => [x] else none
      | _ => none := by
  unfold dsrc; simp only [hu]; rfl
theorem dsrc_str {t : TypeId} (hu : P.underlying t = some .string) (L : List Obj) (b : ByteArray) : dsrc P L 1 t (.p (.v (.string b))) = some (b.data.toList.map fun c => [.v (.int .u8 c.toNat)]) := by
  unfold dsrc; simp only [hu, if_true]
def dappN (L : List Obj) (e : TypeId) (b : Nat) (o : Option (List (List PV))) : Option (DV × List Obj) := match o with
  | some ys => if ys.length ≤ 9223372036854775807 ∧ ys.length * b ≤ 140737488355328 then some (.ref L.length 0 ys.length ys.length, L ++ [.li (if ys.length = 0 then none else some e) ys]) else none
  | none => none
def dappR (L : List Obj) (e : TypeId) (b id lo n tot : Nat) (q : Option Obj) (o : Option (List (List PV))) : Option (DV × List Obj) := match o, q with
  | some ys, some (.li te rows) => if lo = 0 ∧ rows.length = tot ∧ n = tot ∧ (te = none ∨ te = some e) ∧ n + ys.length ≤ 9223372036854775807 ∧ (n + ys.length) * b ≤ 140737488355328 then some (.ref id 0 (n + ys.length) (n + ys.length), L.set id (.li (if ys.length = 0 then te else some e) (rows ++ ys))) else none
  | _, _ => none
def appD (P : Program) (t e : TypeId) (s b : Nat) : Bool := match P.underlying t, P.info? e with
  | some (.slice x), some i => x == e && i.size == s && decide (0 < s) && i.bytes == b && (zeroCellsT P e).isSome
  | _, _ => false
theorem appD_some {t e : TypeId} {s b : Nat} (h : appD P t e s b = true) : ∃ i z, P.underlying t = some (.slice e) ∧ P.info? e = some i ∧ i.size = s ∧ 0 < s ∧ i.bytes = b ∧ zeroCellsT P e = some z := by
  unfold appD at h
  split at h
  · rename_i x i hu hi
    simp only [Bool.and_eq_true, beq_iff_eq, decide_eq_true_eq] at h
    obtain ⟨⟨⟨⟨rfl, h2⟩, h3⟩, h4⟩, h5⟩ := h
    obtain ⟨z, hz⟩ := Option.isSome_iff_exists.1 h5
    exact ⟨i, z, hu, hi, h2, h3, h4, hz⟩
  · cases h
theorem dapp_nil {t e : TypeId} {s b : Nat} (h : appD P t e s b = true) (t2 : TypeId) (L : List Obj) (x : DV) : dappendV P [t, t2] L (.p (.v (.slice none 0 0))) x = dappN L e b (dsrc P L s t2 x) := by
  obtain ⟨i, z, h1, h2, rfl, h4, rfl, h5⟩ := appD_some h
  unfold dappendV dappN
  simp only [h1, h2, h5]
  cases dsrc P L i.size t2 x with
  | none => rfl
  | some ys => simp only [h4, true_and]; rfl
theorem dapp_ref {t e : TypeId} {s b : Nat} (h : appD P t e s b = true) (t2 : TypeId) (L : List Obj) (id lo n tot : Nat) (x : DV) : dappendV P [t, t2] L (.ref id lo n tot) x = dappR L e b id lo n tot L[id]? (dsrc P L s t2 x) := by
  obtain ⟨i, z, h1, h2, rfl, h4, rfl, h5⟩ := appD_some h
  unfold dappendV dappR
  simp only [h1, h2, h5]
  cases dsrc P L i.size t2 x with
  | none => rfl
  | some ys =>
    simp only
    cases L[id]? with
    | none => rfl
    | some o => cases o <;> first | rfl | (simp only [h4, true_and]; rfl)
theorem dappN_some (L : List Obj) (e : TypeId) (b : Nat) (ys : List (List PV)) : dappN L e b (some ys) = if ys.length ≤ 9223372036854775807 ∧ ys.length * b ≤ 140737488355328 then some (.ref L.length 0 ys.length ys.length, L ++ [.li (if ys.length = 0 then none else some e) ys]) else none := rfl
theorem dappR_some (L : List Obj) (e : TypeId) (b id lo n tot : Nat) (te : Option TypeId) (rows ys : List (List PV)) : dappR L e b id lo n tot (some (.li te rows)) (some ys) = if lo = 0 ∧ rows.length = tot ∧ n = tot ∧ (te = none ∨ te = some e) ∧ n + ys.length ≤ 9223372036854775807 ∧ (n + ys.length) * b ≤ 140737488355328 then some (.ref id 0 (n + ys.length) (n + ys.length), L.set id (.li (if ys.length = 0 then te else some e) (rows ++ ys))) else none := rfl
/-! parts of slices -/
def slP (s : Nat) (rows : List (List PV)) : Nat × Nat × Option Nat → Option DV
  | (l, r, none) => some (.p (.sl s ((rows.drop l).take (r - l))))
  | _ => none
def slR (id a tot : Nat) : Nat × Nat × Option Nat → Option DV
  | (l, r, _) => some (.ref id (a + l) (r - l) tot)
def slA (id off n s : Nat) : Nat × Nat × Option Nat → Option DV
  | (l, r, none) => if l < n then some (.aref id (off + l * s) (r - l)) else none
  | _ => none
def slAr (id off n s : Nat) : Nat × Nat × Option Nat → Option DV
  | (l, r, none) => if l < n ∧ n ≤ maxLen then some (.aref id (off + l * s) (r - l)) else none
  | _ => none
theorem slP_some (s : Nat) (rows : List (List PV)) (l r : Nat) : slP s rows (l, r, none) = some (.p (.sl s ((rows.drop l).take (r - l)))) := rfl
theorem slR_some (id a tot l r : Nat) (m : Option Nat) : slR id a tot (l, r, m) = some (.ref id (a + l) (r - l) tot) := rfl
theorem slA_some (id off n s l r : Nat) : slA id off n s (l, r, none) = if l < n then some (.aref id (off + l * s) (r - l)) else none := rfl
theorem slAr_some (id off n s l r : Nat) : slAr id off n s (l, r, none) = if l < n ∧ n ≤ maxLen then some (.aref id (off + l * s) (r - l)) else none := rfl
theorem bind_if {α β : Type} {c : Prop} {dc : Decidable c} (x : α) (f : α → Option β) : (if c then some x else none).bind f = if c then f x else none := by split <;> rfl
theorem bind_one {α β : Type} (x : α) (f : α → Option β) : (some x).bind f = f x := rfl
theorem dsl_sl {t e : TypeId} {s : Nat} (hu : P.underlying t = some (.slice e)) (hs : szT P e = some s) (L : List Obj) (rows : List (List PV)) (lo hi : Option Value) : dsliceV P L t (.p (.sl s rows)) lo hi none = (boundsV rows.length rows.length lo hi none).bind (slP s rows) := by
  unfold dsliceV; simp only [hu, hs, if_true]
  rcases boundsV rows.length rows.length lo hi none with _ | ⟨l, r, _ | m⟩ <;> rfl
theorem dsl_nil {t e : TypeId} {s : Nat} (hu : P.underlying t = some (.slice e)) (hs : szT P e = some s) (L : List Obj) (lo hi mx : Option Value) : dsliceV P L t (.p (.v (.slice none 0 0))) lo hi mx = (boundsV 0 0 lo hi mx).bind fun _ => some (.p (.v (.slice none 0 0))) := by
  unfold dsliceV; simp only [hu, hs]
  rcases boundsV 0 0 lo hi mx with _ | ⟨l, r, _ | m⟩ <;> rfl
theorem dsl_ref {t e : TypeId} {s : Nat} (hu : P.underlying t = some (.slice e)) (hs : szT P e = some s) (L : List Obj) (id a n tot : Nat) (lo hi mx : Option Value) : dsliceV P L t (.ref id a n tot) lo hi mx = (rowsOf L id tot).bind fun _ => if (L[id]?.bind listTy).bind (szT P) = some s ∧ 0 < n then (boundsV n n lo hi mx).bind (slR id a tot) else none := by
  unfold dsliceV; simp only [hu, hs]
  cases rowsOf L id tot with
  | none => rfl
  | some _ =>
    simp only [Option.bind_some]
    split
    · rcases boundsV n n lo hi mx with _ | ⟨l, r, m⟩ <;> rfl
    · rfl
theorem dsl_arr {t e : TypeId} {s n : Nat} (hu : P.underlying t = some (.array n e)) (hs : szT P e = some s) (L : List Obj) (id off : Nat) (lo hi : Option Value) : dsliceV P L t (.ptr id off) lo hi none = (boundsV n n lo hi none).bind (slAr id off n s) := by
  unfold dsliceV; simp only [hu, hs]
  rcases boundsV n n lo hi none with _ | ⟨l, r, _ | m⟩ <;> rfl
theorem dsl_aref {t e : TypeId} {s : Nat} (hu : P.underlying t = some (.slice e)) (hs : szT P e = some s) (L : List Obj) (id off n : Nat) (lo hi : Option Value) : dsliceV P L t (.aref id off n) lo hi none = (boundsV n n lo hi none).bind (slA id off n s) := by
  unfold dsliceV; simp only [hu, hs]
  rcases boundsV n n lo hi none with _ | ⟨l, r, _ | m⟩ <;> rfl
theorem bnd_lo (n c : Nat) (k : IntKind) (l : Int) : boundsV n c (some (.int k l)) none none = if 0 ≤ l ∧ l ≤ n then some (l.toNat, n, none) else none := by
  unfold boundsV
  simp only [idxV]
  by_cases h : 0 ≤ l
  · simp only [h, if_true, true_and]
    by_cases h2 : l ≤ n
    · rw [if_pos h2, if_pos (by omega)]
    · rw [if_neg h2, if_neg (by omega)]
  · simp [h]
theorem bnd_hi (n c : Nat) (k : IntKind) (r : Int) : boundsV n c none (some (.int k r)) none = if 0 ≤ r ∧ r ≤ c then some (0, r.toNat, none) else none := by
  unfold boundsV
  simp only [idxV]
  by_cases h : 0 ≤ r
  · simp only [h, if_true, true_and]
    by_cases h2 : r ≤ c
    · rw [if_pos h2, if_pos (by omega)]
    · rw [if_neg h2, if_neg (by omega)]
  · simp [h]
theorem bnd_both (n c : Nat) (k k' : IntKind) (l r : Int) : boundsV n c (some (.int k l)) (some (.int k' r)) none = if 0 ≤ l ∧ l ≤ r ∧ r ≤ c then some (l.toNat, r.toNat, none) else none := by
  unfold boundsV
  simp only [idxV]
  by_cases h : 0 ≤ r
  · simp only [h, if_true]
    by_cases h2 : r ≤ c
    · rw [if_pos (show r.toNat ≤ c by omega)]
      by_cases h3 : 0 ≤ l
      · simp only [h3, if_true, true_and]
        by_cases h4 : l ≤ r
        · rw [if_pos (by omega), if_pos ⟨h4, h2⟩]
        · rw [if_neg (by omega), if_neg (by omega)]
      · simp [h3]
    · rw [if_neg (by omega), if_neg (by omega)]
  · rw [if_neg (by omega)]; simp [h]; omega
theorem bnd_no (n c : Nat) : boundsV n c none none none = some (0, n, none) := rfl
/-! conversions -/
theorem dcv_int {s d : TypeId} {k k' : IntKind} (h1 : P.underlying s = some (.int k)) (h2 : P.underlying d = some (.int k')) (L : List Obj) (q : IntKind) (n : Int) : dconvV P L s d (.p (.v (.int q n))) = some (.p (.v (.int k' (k'.wrap n))), L) := by
  unfold dconvV
  simp only [h1, h2, valD]
  simp only [convV, h1, h2, scD, scal, constOk, if_true, Option.map_some]
theorem dcv_text {s d e : TypeId} (h1 : P.underlying s = some (.slice e)) (h2 : P.underlying d = some .string) (h3 : isByteT P e = true) (L : List Obj) (x : DV) : dconvV P L s d x = match (dsrc P L 1 s x).bind numsP with
      | some xs => some (.p (.v (.string (strOfNums xs))), L)
      | none => none := by
  unfold dconvV
  simp only [h1, h2, h3, if_true]
  rfl
theorem dcv_same {s e : TypeId} (h1 : P.underlying s = some (.slice e)) (h3 : isByteT P e = true) (L : List Obj) (id lo n tot : Nat) : dconvV P L s s (.ref id lo n tot) = if 0 < n ∧ 0 < tot then (L[id]?).bind fun o => match o with
      | .li (some _) rows => if rows.length = tot then some (.ref id lo n tot, L) else none
      | _ => none
    else none := by
  unfold dconvV
  simp only [h1, h3, true_and]
  split
  · rcases L[id]? with _ | (_ | ⟨_ | te, rows⟩ | _ | _) <;> rfl
  · rfl
theorem dcv_bytes {s d e : TypeId} (h1 : P.underlying s = some .string) (h2 : P.underlying d = some (.slice e)) (h3 : isByteT P e = true) (h4 : szT P e = some 1) (L : List Obj) (t : ByteArray) : dconvV P L s d (.p (.v (.string t))) = if t.size ≤ 9223372036854775807 then some (.ref L.length 0 t.size t.size, L ++ [.li (some e) (t.data.toList.map fun c => [.v (.int .u8 c.toNat)])]) else none := by
  unfold dconvV
  simp only [h1, h2, h3, h4, true_and]
  rfl
theorem dbs_of {t e : TypeId} {zr : List PV} {s : Nat} (hu : P.underlying t = some (.slice e)) (hz : (zeroD P e).bind pvs = some zr) (hs : szT P e = some s) (hl : zr.length = s) (h0 : 0 < s) (L : List Obj) (len : Nat) (ps : List (Nat × DV)) :
    dbuildSliceV P L t len ps = if len * s ≤ 16777216 then (fillRows s (List.replicate len zr) ps).map fun rows => (.ref L.length 0 len len, L ++ [.li (some e) rows]) else none := by
  unfold dbuildSliceV
  simp only [hu, hz, hs, hl, h0, true_and]
  have hm : maxLen = 9223372036854775807 := rfl
  by_cases h : len * s ≤ 16777216
  · have : len ≤ len * s := Nat.le_mul_of_pos_right _ h0
    rw [if_pos ⟨h, by omega⟩, if_pos h]
    cases fillRows s (List.replicate len zr) ps <;> rfl
  · rw [if_neg h, if_neg (fun q => h q.1)]
theorem fillRows_nil (z : Nat) (rows : List (List PV)) : fillRows z rows [] = some rows := rfl
theorem fillRows_cons (z : Nat) (rows : List (List PV)) (i : Nat) (d : DV) (r : List (Nat × DV)) : fillRows z rows ((i, d) :: r) = if is1 d = true ∧ i < rows.length then match pvs (cellsD d) with
      | some ps => if ps.length = z then fillRows z (rows.set i ps) r else none
      | none => none
    else none := rfl
end
theorem withD_ite {α : Type} {c : Prop} {dc : Decidable c} {d : α} {f : α → Prop} (hc : c) (hf : f d) : withD (if c then some d else none) f := by rw [if_pos hc]; exact hf
theorem withD_if {α : Type} {c : Prop} {dc : Decidable c} {o : Option α} {f : α → Prop} (hc : c) (hf : withD o f) : withD (if c then o else none) f := by rw [if_pos hc]; exact hf
theorem guard_tt (A : Prop) : guardWp (some true) A True = A := by simp [guardWp]
theorem guard_ff (A : Prop) : guardWp (some false) A True = True := by simp [guardWp]
attribute [congr] withD_congr condD_congr
attribute [go_sem ↓] keepL_nil keepL_cons keep1_some keep1_none withD_some ds_nil ds_guard dguard_true dguard_false ds_move ds_assign ds_pick ds_build ds_field ds_fieldAddr ds_unOp ds_binOp ds_convert ds_makeFunc ds_indexAddr ds_index ds_extract ds_nilCheck ds_load ds_store ds_slice ds_box ds_alloc ds_buildSlice ds_call dcall_fn ds_append ds_len ds_min ds_max
  dd_nil dd_plain dd_chk dchk_nil dchk_cons dchk_plain dchk_guard
  dsx_nil dsx_k dsx_k_exit dsx_k_goto dsx_block dsx_block_exit dsx_block_goto dsx_loop dsx_loop_exit dsx_loop_goto dsx_scope dsx_scope_exit dsx_scope_goto dsx_ret
  dx_nil dx_ret dx_exit dx_goto dx_reg dx_draw dx_cond dx_block dx_loop dx_scope dx_label dcond_true dcond_false dbody_ret dbody_normal
attribute [push_cast] dread_load dslot_some guard_tt guard_ff dput_some dput_none dev_tmp dev_func dev_int dev_bool dev_string dev_nilptr dev_nilslice dev_nilmap dev_nilfunc dlook_cons dlook_nil dargs_nil dargs_cons allD_nil allD_cons allDP_nil allDP_cons optD_none optD_some dress_nil dress_cons dres_tmp dres_cell packD_one packD_nil packD_two dguard_at
  dpick_true dpick_false dpick_bool valD_v valD_agg valsD_nil valsD_cons valsOf_nil valsOf_cons sc_int sc_bool sc_string is1_p is1_ptr is1_ep is1_dp is1_ref is1_aref is1_fn is1_agg cellsD_p cellsD_ptr cellsD_ep cellsD_dp cellsD_ref cellsD_aref cellsD_fn cellsD_agg setManyD_nil setManyD_cons setManyP_nil setManyP_cons pvs_nil pvs_cons
  dbin_vv dbin_ptr dbin_dp dbin_sl dbin_agg dload_ptr dload_ep dload_dp dstore_ptr on_ptr on_dp on_ep rows_of dext_tup dfunc_some base_p base_ptr base_ref fillD_nil fillD_cons dappN_some dappR_some slP_some slR_some slA_some slAr_some bind_if bind_one bnd_lo bnd_hi bnd_both bnd_no fillRows_nil fillRows_cons
  List.getElem?_cons_zero List.getElem?_cons_succ List.getElem?_nil List.length_cons List.length_nil List.map_cons List.map_nil List.set_cons_zero List.set_cons_succ List.all_cons List.all_nil List.nil_append List.cons_append List.append_nil List.length_append List.length_set Option.map_some Option.map_none Option.bind_some Option.bind_none List.length_replicate List.replicate_succ List.replicate_zero Nat.zero_le
end Go.Sim
/- Deep values: how states are brought to what is claimed of them. -/
namespace Go.Sim
open Go.RowKit
theorem all2_nil {α β : Type} (R : α → β → Prop) : All2 R [] [] = True := by simp [All2.nil]
theorem all2_cons {α β : Type} (R : α → β → Prop) (a : α) (b : β) (l : List α) (m : List β) : All2 R (a :: l) (b :: m) = (R a b ∧ All2 R l m) := by
  refine propext ⟨fun h => ?_, fun h => .cons h.1 h.2⟩
  cases h with
  | cons a b => exact ⟨a, b⟩
theorem all2_nil_cons {α β : Type} (R : α → β → Prop) (b : β) (m : List β) : All2 R [] (b :: m) = False := by
  refine propext ⟨fun h => ?_, fun h => h.elim⟩
  cases h
theorem all2_cons_nil {α β : Type} (R : α → β → Prop) (a : α) (l : List α) : All2 R (a :: l) [] = False := by
  refine propext ⟨fun h => ?_, fun h => h.elim⟩
  cases h
def selR (L : List Obj) (sel : Sel) : Option Nat → Obj → Prop
  | none, o' => o' = .li none []
  | some k, o' => match L[k]? with
    | some o => unO sel o' o
    | none => False
theorem selR_none (L : List Obj) (sel : Sel) (o' : Obj) : selR L sel none o' = (o' = .li none []) := rfl
theorem selR_some (L : List Obj) (sel : Sel) (k : Nat) (o' : Obj) : selR L sel (some k) o' = match L[k]? with | some o => unO sel o' o | none => False := rfl
theorem SelOk.of {L L' : List Obj} {sel : Sel} (h : All2 (selR L sel) sel L') (hn : (sel.filterMap id).Nodup) : SelOk L sel L' := by
  refine ⟨h.length, fun i j k e1 e2 => ?_, fun i k o' e1 e2 => ?_, fun i o' e1 e2 => ?_⟩
  · clear h
    induction sel generalizing i j with
    | nil => simp at e1
    | cons s sel ih =>
      have hmem : ∀ (m : Nat), sel[m]? = some (some k) → k ∈ sel.filterMap id := fun m e => List.mem_filterMap.2 ⟨some k, List.mem_of_getElem? e, rfl⟩
      have hn' : (sel.filterMap id).Nodup := by
        cases s with
        | none => simpa using hn
        | some q => rw [List.filterMap_cons_some (by rfl)] at hn; exact (List.nodup_cons.1 hn).2
      have hno : ∀ m, s = some k → sel[m]? = some (some k) → False := fun m e e' => by
        subst e
        rw [List.filterMap_cons_some (by rfl)] at hn
        exact (List.nodup_cons.1 hn).1 (hmem m e')
      cases i with
      | zero =>
        cases j with
        | zero => rfl
        | succ j => exact (hno j (by simpa using e1) (by simpa using e2)).elim
      | succ i =>
        cases j with
        | zero => exact (hno i (by simpa using e2) (by simpa using e1)).elim
        | succ j => rw [ih hn' i j (by simpa using e1) (by simpa using e2)]
  · obtain ⟨o2, e3, r⟩ := h.get e1
    rw [e2] at e3; cases e3
    unfold selR at r
    simp only at r
    split at r
    · rename_i o ho; exact ⟨o, ho, r⟩
    · exact r.elim
  · obtain ⟨o2, e3, r⟩ := h.get e1
    rw [e2] at e3; cases e3
    exact r
def wkL (P : Program) (L : List Obj) (sel : Sel) (l : List (Nat × DV)) : List (Nat × DV) → Prop
  | [] => True
  | (t, d') :: r => (match dlook t l with | some d => wkD P L sel d' d | none => False) ∧ wkL P L sel l r
def fixes (c : Nat) (sel : Sel) : Bool := (List.range c).all fun id => sel[id]? == some (some id)
theorem wkS_intro {P : Program} {n c : Nat} {l l' : List (Nat × DV)} {L L' : List Obj} (sel : Sel) (h1 : All2 (selR L sel) sel L') (h2 : (sel.filterMap id).Nodup) (h3 : fixes c sel = true) (h4 : wkL P L sel l l') : wkS P ⟨n, c, l⟩ L l' L' := by
  refine ⟨sel, SelOk.of h1 h2, fun id hid => ?_, ?_⟩
  · have := List.all_eq_true.1 h3 id (List.mem_range.2 hid)
    simpa using this
  · clear h1 h2 h3
    induction l' with
    | nil => intro p hp; simp at hp
    | cons q r ih =>
      obtain ⟨t, d'⟩ := q
      obtain ⟨h5, h6⟩ := h4
      intro p hp
      rcases List.mem_cons.1 hp with rfl | hp
      · simp only
        cases hd : dlook t l with
        | none => rw [hd] at h5; exact h5.elim
        | some d => rw [hd] at h5; exact ⟨d, rfl, h5⟩
      · exact ih h6 p hp
theorem ret_pure {P : Program} {Q : DV → List Obj → Prop} {r : DV} {L : List Obj} (r' : DV) (h : wkD P L [] r' r) (hq : Q r' []) : retQ P 0 Q r L :=
  ⟨[], r', [], ⟨rfl, fun i j k e => by simp at e, fun i k o' e => by simp at e, fun i o' e => by simp at e⟩, fun id h => by omega, h, hq⟩
theorem ret_sel {P : Program} {c : Nat} {Q : DV → List Obj → Prop} {r : DV} {L : List Obj} (sel : Sel) (r' : DV) (A' : List Obj) (h1 : All2 (selR L sel) sel A') (h2 : (sel.filterMap id).Nodup) (h3 : fixes c sel = true) (h : wkD P L sel r' r) (hq : Q r' A') : retQ P c Q r L :=
  ⟨sel, r', A', SelOk.of h1 h2, fun id hid => by
    have := List.all_eq_true.1 h3 id (List.mem_range.2 hid)
    simpa using this, h, hq⟩
section
variable (P : Program) (L : List Obj) (sel : Sel)
theorem wkC_ref (z : Nat) (rows : List (List PV)) (id lo n tot : Nat) : wkC P L sel (.p (.sl z rows)) (.ref id lo n tot) = (some id ∉ sel ∧ ∃ rs, rowsOf L id tot = some rs ∧ rows = (rs.drop lo).take n ∧ ∀ te, L[id]?.bind listTy = some te → szT P te = some z) := rfl
theorem wkC_nil (z : Nat) (rows : List (List PV)) : wkC P L sel (.p (.sl z rows)) (.p (.v (.slice none 0 0))) = (rows = []) := rfl
theorem wkC_v (x y : DV) (q : Value) (h : x = .p (.v q)) : wkC P L sel x y = (unC sel x = some y) := by
  subst h
  unfold wkC unX
  rfl
theorem wkC_vv (x : Value) (y : PV) : wkC P L sel (.p (.v x)) (.p y) = (PV.v x = y) := by
  rw [wkC_v _ _ _ _ _ _ rfl]; simp [unC, unB]
theorem wkC_ss (z z' : Nat) (r r' : List (List PV)) : wkC P L sel (.p (.sl z r)) (.p (.sl z' r')) = (z = z' ∧ r = r') := by
  unfold wkC unX; simp [unC, unB]
theorem unX_nil (z : Nat) (rows : List (List PV)) : unX sel (.p (.sl z rows)) (.p (.v (.slice none 0 0))) = (rows = []) := rfl
theorem unX_vv (x : Value) (y : PV) : unX sel (.p (.v x)) (.p y) = (PV.v x = y) := by
  unfold unX; simp [unC, unB]
theorem unX_ss (z z' : Nat) (r r' : List (List PV)) : unX sel (.p (.sl z r)) (.p (.sl z' r')) = (z = z' ∧ r = r') := by
  unfold unX; simp [unC, unB]
theorem unX_ptr (id off : Nat) (d : DV) : unX sel (.ptr id off) d = (unC sel (.ptr id off) = some d) := rfl
theorem unX_ref (id a b c : Nat) (d : DV) : unX sel (.ref id a b c) d = (unC sel (.ref id a b c) = some d) := rfl
theorem unX_fn (f : FuncId) (a b : List DV) (d : DV) : unX sel (.fn f a b) d = (unC sel (.fn f a b) = some d) := rfl
theorem wkX_ptr (id off : Nat) (d : DV) : wkC P L sel (.ptr id off) d = (unC sel (.ptr id off) = some d) := rfl
theorem wkX_ref (id a b c : Nat) (d : DV) : wkC P L sel (.ref id a b c) d = (unC sel (.ref id a b c) = some d) := rfl
theorem wkX_fn (f : FuncId) (a b : List DV) (d : DV) : wkC P L sel (.fn f a b) d = (unC sel (.fn f a b) = some d) := rfl
end
theorem listTy_li (e : Option TypeId) (rows : List (List PV)) : listTy (.li e rows) = e := rfl
theorem listTy_fz (e : Option TypeId) (rows : List (List PV)) : listTy (.fz e rows) = e := rfl
theorem unO_li (sel : Sel) (e e' : Option TypeId) (r r' : List (List PV)) : unO sel (.li e r) (.li e' r') = (e = e' ∧ rowsW r r') := rfl
theorem unO_fz (sel : Sel) (e e' : Option TypeId) (r r' : List (List PV)) : unO sel (.fz e r) (.fz e' r') = (e = e' ∧ rowsW r r') := rfl
theorem unO_fz_li (sel : Sel) (e e' : Option TypeId) (r r' : List (List PV)) : unO sel (.fz e r) (.li e' r') = (e = e' ∧ rowsW r r') := rfl
theorem unO_st (sel : Sel) (c c' : List DV) : unO sel (.st c) (.st c') = All2 (unX sel) c c' := rfl
theorem rowsW_rfl (r : List (List PV)) : rowsW r r = True := eq_true (.inl rfl)
theorem rowsW_def (r r' : List (List PV)) : rowsW r r' = (r = r' ∨ All2 (All2 unP) r r') := rfl
end Go.Sim
/- Deep values: calls of functions that are given objects. -/
namespace Go.Sim
open Go.RowKit
section
variable {P : Program} {γ γ' : Pl} {L L' : List Obj} {h : Heap} {S S' : Nat → Prop} {sel : Sel}
/-! ### Values under other numbers, whatever is known of blocks -/
structure Ren (γ : Pl) (L : List Obj) (sel : Sel) (γ' : Pl) (L' : List Obj) : Prop where
  at' : ∀ (i k : Nat), sel[i]? = some (some k) → γ' i = γ k
  lt : ∀ (i k : Nat), sel[i]? = some (some k) → i < L'.length
  st : ∀ (i k : Nat) (c : List DV), sel[i]? = some (some k) → L[k]? = some (.st c) → ∃ c', L'[i]? = some (.st c')
  li : ∀ (i k : Nat) (o' : Obj) (rows : List (List PV)), sel[i]? = some (some k) → L'[i]? = some o' → o'.isList rows → ∃ o, L[k]? = some o ∧ o.isList rows
/-- No list that lies nowhere is made. -/
def unBx (sel : Sel) (d' : DV) : Option DV := match d' with
  | .ref id lo n tot => match sel[id]? with
    | some (some k) => some (.ref k lo n tot)
    | _ => none
  | d => unB sel d
def unBxs (sel : Sel) : List DV → Option (List DV)
  | [] => some []
  | d :: l => match unBx sel d, unBxs sel l with
    | some d, some l => some (d :: l)
    | _, _ => none
def unCx (sel : Sel) : DV → Option DV
  | .fn f pre cap => match unBxs sel pre, unBxs sel cap with
    | some a, some b => some (.fn f a b)
    | _, _ => none
  | d => unBx sel d
def unCxs (sel : Sel) : List DV → Option (List DV)
  | [] => some []
  | d :: l => match unCx sel d, unCxs sel l with
    | some d, some l => some (d :: l)
    | _, _ => none
def un1x (sel : Sel) : DV → Option DV
  | .agg xs => (unCxs sel xs).map .agg
  | d => unCx sel d
def un1xs (sel : Sel) : List DV → Option (List DV)
  | [] => some []
  | d :: l => match un1x sel d, un1xs sel l with
    | some d, some l => some (d :: l)
    | _, _ => none
def unDx (sel : Sel) : DV → Option DV
  | .tup xs => (un1xs sel xs).map .tup
  | d => un1x sel d
theorem ren_pr (hs : ∀ b, S b → S' b) {x : PV} {v : Value} (hx : PR P S h x v) : PR P S' h x v := hx.mono fun _ hb => ⟨hs _ hb, rfl⟩
theorem ren_db (hs : ∀ b, S b → S' b) (R : Ren γ L sel γ' L') {d' d : DV} {v : Value} (e : unBx sel d' = some d) (hd : DB P S γ L h d v) : DB P S' γ' L' h d' v := by
  cases d' with
  | p x => cases e; exact ren_pr hs hd
  | dp row off =>
    cases e
    obtain ⟨b, o, cs, te, rw, h1, h2, h3, h4, h5⟩ := hd
    exact ⟨b, o, cs, te, rw, hs b h1, h2, h3, h4, fun j x u a c => ren_pr hs (h5 j x u a c)⟩
  | ptr id off =>
    unfold unBx unB at e
    cases hx : sel[id]? with
    | none => simp only [hx] at e; cases e
    | some s =>
      cases s with
      | none => simp only [hx] at e; cases e
      | some k =>
        simp only [hx] at e; cases e
        obtain ⟨b, h1, ⟨c, h2⟩, h3⟩ := hd
        exact ⟨b, (R.at' _ _ hx).trans h1, R.st _ _ _ hx h2, h3⟩
  | aref id off n =>
    unfold unBx unB at e
    cases hx : sel[id]? with
    | none => simp only [hx] at e; cases e
    | some s =>
      cases s with
      | none => simp only [hx] at e; cases e
      | some k =>
        simp only [hx] at e; cases e
        obtain ⟨b, h1, ⟨c, h2⟩, h3⟩ := hd
        exact ⟨b, (R.at' _ _ hx).trans h1, R.st _ _ _ hx h2, h3⟩
  | ep id i off tot =>
    unfold unBx unB at e
    cases hx : sel[id]? with
    | none => simp only [hx] at e; cases e
    | some s =>
      cases s with
      | none => simp only [hx] at e; cases e
      | some k =>
        simp only [hx] at e; cases e
        obtain ⟨k1, k2, k3⟩ := hd
        refine ⟨R.lt _ _ hx, k2, fun o' rows e1 e2 => ?_⟩
        obtain ⟨o, g1, g2⟩ := R.li _ _ _ _ hx e1 e2
        rw [R.at' _ _ hx]
        exact k3 o rows g1 g2
  | ref id lo n tot =>
    unfold unBx at e
    cases hx : sel[id]? with
    | none => simp only [hx] at e; cases e
    | some s =>
      cases s with
      | none => simp only [hx] at e; cases e
      | some k =>
        simp only [hx] at e; cases e
        obtain ⟨k1, k2, k3⟩ := hd
        refine ⟨R.lt _ _ hx, k2, fun o' rows e1 e2 => ?_⟩
        obtain ⟨o, g1, g2⟩ := R.li _ _ _ _ hx e1 e2
        unfold RefV
        rw [R.at' _ _ hx]
        exact k3 o rows g1 g2
  | fn => cases e
  | agg => cases e
  | tup => cases e
theorem ren_dbs (hs : ∀ b, S b → S' b) (R : Ren γ L sel γ' L') : ∀ {ds' ds : List DV} {vs : List Value}, unBxs sel ds' = some ds → All2 (DB P S γ L h) ds vs → All2 (DB P S' γ' L' h) ds' vs
  | [], _, _, e, hd => by cases e; cases hd; exact .nil
  | d' :: ds', _, _, e, hd => by
    unfold unBxs at e
    cases h1 : unBx sel d' with
    | none => simp only [h1] at e; cases e
    | some d =>
      cases h2 : unBxs sel ds' with
      | none => simp only [h1, h2] at e; cases e
      | some ds =>
        simp only [h1, h2] at e; cases e
        cases hd with
        | cons a b => exact .cons (ren_db hs R h1 a) (ren_dbs hs R h2 b)
theorem unBx_base {d d' : DV} (e : unBx sel d' = some d) : (∀ f a b, d ≠ .fn f a b) ∧ (∀ xs, d ≠ .agg xs) ∧ ∀ xs, d ≠ .tup xs := by
  cases d' <;> (simp only [unBx, unB] at e) <;> (try (repeat' split at e)) <;> cases e <;> exact ⟨fun _ _ _ h => (by cases h), fun _ h => (by cases h), fun _ h => (by cases h)⟩
theorem ren_dc (hs : ∀ b, S b → S' b) (R : Ren γ L sel γ' L') {d' d : DV} {v : Value} (e : unCx sel d' = some d) (hd : DC P S γ L h d v) : DC P S' γ' L' h d' v := by
  have key : ∀ d', (∀ f a b, d' ≠ .fn f a b) → unBx sel d' = some d → DC P S' γ' L' h d' v := by
    intro d' hn e
    have hb : DB P S γ L h d v := by
      have := unBx_base e
      cases d <;> first | exact hd | exact absurd rfl (this.1 _ _ _) | exact hd.elim
    have := ren_db hs R e hb
    cases d' <;> first | exact this | exact absurd rfl (hn _ _ _)
  cases d' with
  | fn f pre cap =>
    unfold unCx at e
    cases h1 : unBxs sel pre with
    | none => simp only [h1] at e; cases e
    | some p =>
      cases h2 : unBxs sel cap with
      | none => simp only [h1, h2] at e; cases e
      | some c =>
        simp only [h1, h2] at e; cases e
        obtain ⟨as, bs, rfl, a1, a2⟩ := hd
        exact ⟨as, bs, rfl, ren_dbs hs R h1 a1, ren_dbs hs R h2 a2⟩
  | _ => exact key _ (by intro f a b e; cases e) e
theorem ren_dcs (hs : ∀ b, S b → S' b) (R : Ren γ L sel γ' L') : ∀ {ds' ds : List DV} {vs : List Value}, unCxs sel ds' = some ds → All2 (DC P S γ L h) ds vs → All2 (DC P S' γ' L' h) ds' vs
  | [], _, _, e, hd => by cases e; cases hd; exact .nil
  | d' :: ds', _, _, e, hd => by
    unfold unCxs at e
    cases h1 : unCx sel d' with
    | none => simp only [h1] at e; cases e
    | some d =>
      cases h2 : unCxs sel ds' with
      | none => simp only [h1, h2] at e; cases e
      | some ds =>
        simp only [h1, h2] at e; cases e
        cases hd with
        | cons a b => exact .cons (ren_dc hs R h1 a) (ren_dcs hs R h2 b)
theorem unCx_cell {d d' : DV} (e : unCx sel d' = some d) : (∀ xs, d ≠ .agg xs) ∧ ∀ xs, d ≠ .tup xs := by
  cases d' with
  | fn f pre cap =>
    simp only [unCx] at e
    split at e
    · cases e; exact ⟨fun _ h => (by cases h), fun _ h => (by cases h)⟩
    · cases e
  | agg xs => cases e
  | tup xs => cases e
  | p x => exact (unBx_base (sel := sel) (d' := .p x) e).2
  | ptr x y => exact (unBx_base (sel := sel) (d' := .ptr x y) e).2
  | ep x y z w => exact (unBx_base (sel := sel) (d' := .ep x y z w) e).2
  | dp x y => exact (unBx_base (sel := sel) (d' := .dp x y) e).2
  | ref x y z w => exact (unBx_base (sel := sel) (d' := .ref x y z w) e).2
  | aref x y z => exact (unBx_base (sel := sel) (d' := .aref x y z) e).2
theorem ren_d1 (hs : ∀ b, S b → S' b) (R : Ren γ L sel γ' L') {d' d : DV} {v : Value} (e : un1x sel d' = some d) (hd : D1 P S γ L h d v) : D1 P S' γ' L' h d' v := by
  have key : ∀ d', (∀ xs, d' ≠ .agg xs) → unCx sel d' = some d → D1 P S' γ' L' h d' v := by
    intro d' hn e
    exact d1_of_dc (ren_dc hs R e (dc_of_d1 hd (unCx_cell e).1))
  cases d' with
  | agg xs =>
    simp only [un1x] at e
    cases h1 : unCxs sel xs with
    | none => rw [h1] at e; cases e
    | some ys =>
      rw [h1] at e; cases e
      obtain ⟨vs, rfl, a1⟩ := hd
      exact ⟨vs, rfl, ren_dcs hs R h1 a1⟩
  | _ => exact key _ (by intro xs e; cases e) e
theorem ren_d1s (hs : ∀ b, S b → S' b) (R : Ren γ L sel γ' L') : ∀ {ds' ds : List DV} {vs : List Value}, un1xs sel ds' = some ds → All2 (D1 P S γ L h) ds vs → All2 (D1 P S' γ' L' h) ds' vs
  | [], _, _, e, hd => by cases e; cases hd; exact .nil
  | d' :: ds', _, _, e, hd => by
    unfold un1xs at e
    cases h1 : un1x sel d' with
    | none => simp only [h1] at e; cases e
    | some d =>
      cases h2 : un1xs sel ds' with
      | none => simp only [h1, h2] at e; cases e
      | some ds =>
        simp only [h1, h2] at e; cases e
        cases hd with
        | cons a b => exact .cons (ren_d1 hs R h1 a) (ren_d1s hs R h2 b)
theorem un1x_d1 {d d' : DV} (e : un1x sel d' = some d) : ∀ xs, d ≠ .tup xs := by
  cases d' with
  | agg xs =>
    simp only [un1x] at e
    cases h1 : unCxs sel xs with
    | none => rw [h1] at e; cases e
    | some ys => rw [h1] at e; cases e; exact fun _ h => (by cases h)
  | tup xs => cases e
  | p x => exact (unCx_cell (sel := sel) (d' := .p x) e).2
  | ptr x y => exact (unCx_cell (sel := sel) (d' := .ptr x y) e).2
  | ep x y z w => exact (unCx_cell (sel := sel) (d' := .ep x y z w) e).2
  | dp x y => exact (unCx_cell (sel := sel) (d' := .dp x y) e).2
  | ref x y z w => exact (unCx_cell (sel := sel) (d' := .ref x y z w) e).2
  | aref x y z => exact (unCx_cell (sel := sel) (d' := .aref x y z) e).2
  | fn x y z => exact (unCx_cell (sel := sel) (d' := .fn x y z) e).2
theorem ren_dr (hs : ∀ b, S b → S' b) (R : Ren γ L sel γ' L') {d' d : DV} {v : Value} (e : unDx sel d' = some d) (hd : DR P S γ L h d v) : DR P S' γ' L' h d' v := by
  have key : ∀ d', (∀ xs, d' ≠ .tup xs) → un1x sel d' = some d → DR P S' γ' L' h d' v := by
    intro d' hn e
    have h1 : D1 P S γ L h d v := by
      have := un1x_d1 e
      cases d <;> first | exact hd | exact absurd rfl (this _)
    exact dr_of_d1 (ren_d1 hs R e h1)
  cases d' with
  | tup xs =>
    simp only [unDx] at e
    cases h1 : un1xs sel xs with
    | none => rw [h1] at e; cases e
    | some ys =>
      rw [h1] at e; cases e
      obtain ⟨vs, rfl, a1⟩ := hd
      exact ⟨vs, rfl, ren_d1s hs R h1 a1⟩
  | _ => exact key _ (by intro xs e; cases e) e

/-- An object under other numbers. -/
def unOx (sel : Sel) : Obj → Obj → Prop
  | .st cells, .st cells' => unCxs sel cells = some cells'
  | .li e rows, .li e' rows' => e = e' ∧ rows = rows'
  | .fz e rows, .fz e' rows' => e = e' ∧ rows = rows'
  | .dead, .dead => True
  | _, _ => False
theorem unOx_owns {o' o : Obj} (e : unOx sel o' o) : o'.owns = o.owns := by
  cases o' <;> cases o <;> first | exact e.elim | rfl | (obtain ⟨rfl, rfl⟩ := e; rfl)
theorem unOx_list {o' o : Obj} {rows : List (List PV)} (e : unOx sel o' o) (hl : o'.isList rows) : o.isList rows := by
  cases o' <;> cases o <;> first | exact e.elim | exact hl.elim | (obtain ⟨rfl, rfl⟩ := e; exact hl)
theorem rows_mono (hs : ∀ b, S b → S' b) {b q : Nat} {te : TypeId} {rows : List (List PV)} (hr : Rows P S h b q te rows) : Rows P S' h b q te rows := by
  obtain ⟨cs, z, a1, a2, a3, a4, a5, a6, a7⟩ := hr
  exact ⟨cs, z, a1, a2, a3, a4, a5, a6, fun i r j x u b1 b2 b3 => ren_pr hs (a7 i r j x u b1 b2 b3)⟩
theorem ren_or (hs : ∀ b, S b → S' b) (R : Ren γ L sel γ' L') {i k : Nat} {o' o : Obj} (hi : sel[i]? = some (some k)) (e : unOx sel o' o) (ho : OR P S γ L h k o) : OR P S' γ' L' h i o' := by
  cases o' with
  | st cells =>
    cases o with
    | st cells' =>
      obtain ⟨b, te, vs, g1, g2, g3⟩ := ho
      exact ⟨b, te, vs, (R.at' _ _ hi).trans g1, g2, ren_dcs hs R e g3⟩
    | _ => exact e.elim
  | li te rows =>
    cases o with
    | li te' rows' =>
      obtain ⟨rfl, rfl⟩ := e
      cases te with
      | none => exact ⟨ho.1, (R.at' _ _ hi).trans ho.2⟩
      | some te =>
        obtain ⟨b, q, g1, g2⟩ := ho
        exact ⟨b, q, (R.at' _ _ hi).trans g1, rows_mono hs g2⟩
    | _ => exact e.elim
  | fz te rows =>
    cases o with
    | fz te' rows' =>
      obtain ⟨rfl, rfl⟩ := e
      cases te with
      | none => exact ⟨ho.1, (R.at' _ _ hi).trans ho.2⟩
      | some te =>
        obtain ⟨b, q, g1, g2, g3⟩ := ho
        exact ⟨b, q, (R.at' _ _ hi).trans g1, hs b g2, rows_mono hs g3⟩
    | _ => exact e.elim
  | dead => trivial
end

/-- What becomes of the caller's objects: some were given away, under numbers of their own, and came back. -/
structure Merge (L : List Obj) (sel : List Nat) (A A' : List Obj) (back : Sel) (L2 : List Obj) : Prop where
  len : back.length = L2.length
  le : L.length ≤ L2.length
  kept : ∀ i, i < L.length → i ∉ sel → back[i]? = some none ∧ L2[i]? = L[i]?
  st : ∀ (k i : Nat) (c : List DV), sel[k]? = some i → A[k]? = some (.st c) → back[i]? = some (some k)
  gone : ∀ (k i : Nat), sel[k]? = some i → (∀ c, A[k]? ≠ some (.st c)) → L2[i]? = some .dead ∧ back[i]? = some none
  old : ∀ (i k : Nat), back[i]? = some (some k) → (i ∈ sel ∨ L.length ≤ i) ∧ ∃ o o', A'[k]? = some o ∧ L2[i]? = some o' ∧ unOx back o' o
  new : ∀ i, L.length ≤ i → i < L2.length → ∃ k, back[i]? = some (some k)
  inj : ∀ (i j k : Nat), back[i]? = some (some k) → back[j]? = some (some k) → i = j
section
variable {P : Program} {γ : Pl} {L : List Obj} {h : Heap} {h0 : Heap} {W0 : Ent}
/-- An argument: under its own numbers; a slice of a list that was given up. -/
def argS (P : Program) (L : List Obj) (sel : Sel) : DV → DV → Prop
  | .p (.sl z rows), .ref id lo n tot => (∃ e rs, L[id]? = some (.fz e rs)) ∧ ∃ rs, rowsOf L id tot = some rs ∧ rows = (rs.drop lo).take n ∧ ∀ te, L[id]?.bind listTy = some te → szT P te = some z
  | .p (.sl _ rows), .p (.v (.slice none 0 0)) => rows = []
  | d', d => unDx sel d' = some d
theorem argS_sound {S' : Nat → Prop} {γ' : Pl} {A : List Obj} {sel : Sel} (H : Hp P h0 W0 γ L h) (hs : ∀ b, Free W0 γ L h b → S' b) (R : Ren γ L sel γ' A) {d d' : DV} {v : Value} (e : argS P L sel d' d) (hd : DR P (Free W0 γ L h) γ L h d v) : ∃ u, VW v u ∧ DR P S' γ' A h d' u := by
  unfold argS at e
  split at e
  · rename_i z rows id lo n tot
    obtain ⟨⟨te, rs', e1⟩, rs, e2, rfl, e3⟩ := e
    refine ref_pr H hd e2 e3 (fun b x hg hlt => ?_) hs
    have ho := H.obj id _ e1
    cases te with
    | none => rw [ho.2] at hg; cases hg
    | some te =>
      obtain ⟨b', o', g', hS, _⟩ := ho
      rw [hg] at g'; cases g'
      exact hs b hS
  · subst e
    have : v = .slice none 0 0 := PR.scal (P := P) (S := Free W0 γ L h) (h := h) hd
    subst this
    exact ⟨_, .refl _, PR.nil⟩
  · exact ⟨v, .refl v, ren_dr hs R e hd⟩
theorem argSs_sound {S' : Nat → Prop} {γ' : Pl} {A : List Obj} {sel : Sel} (H : Hp P h0 W0 γ L h) (hs : ∀ b, Free W0 γ L h b → S' b) (R : Ren γ L sel γ' A) : ∀ {ds' ds : List DV} {vs : List Value}, All2 (argS P L sel) ds' ds → All2 (DR P (Free W0 γ L h) γ L h) ds vs → ∃ us, All2 VW vs us ∧ All2 (DR P S' γ' A h) ds' us
  | _, _, _, .nil, .nil => ⟨[], .nil, .nil⟩
  | _, _, _, .cons e t, .cons hd t' => by
    obtain ⟨u, a1, a2⟩ := argS_sound H hs R e hd
    obtain ⟨us, b1, b2⟩ := argSs_sound H hs R t t'
    exact ⟨u :: us, .cons a1 b1, .cons a2 b2⟩
theorem nodup_get : ∀ {l : List Nat}, l.Nodup → ∀ {i j k : Nat}, l[i]? = some k → l[j]? = some k → i = j
  | [], _, i, j, k, e1, _ => by simp at e1
  | a :: l, hn, i, j, k, e1, e2 => by
    obtain ⟨h1, h2⟩ := List.nodup_cons.1 hn
    cases i with
    | zero =>
      cases j with
      | zero => rfl
      | succ j => simp at e1 e2; subst e1; exact absurd (List.mem_of_getElem? e2) h1
    | succ i =>
      cases j with
      | zero => simp at e1 e2; subst e2; exact absurd (List.mem_of_getElem? e1) h1
      | succ j => exact congrArg (· + 1) (nodup_get (k := k) h2 (by simpa using e1) (by simpa using e2))
/-- A call, and what it leaves as it was. -/
def DCallWF (P : Program) (f : FuncId) (ds : List DV) (L : List Obj) (wr : List Nat) (K : DV → List Obj → Prop) : Prop :=
  ∀ h0 W0 γ h vs, Hp P h0 W0 γ L h → All2 (DR P (Free W0 γ L h) γ L h) ds vs → ADoes P f vs h (fun v h' => Aft P h0 W0 γ L h K v h' ∧ ∀ b, b < h.next → (∀ i ∈ wr, ∀ x, γ i ≠ some (b, x)) → h'.get b = h.get b)
theorem DCallWF.weak {f : FuncId} {ds : List DV} {wr : List Nat} {K : DV → List Obj → Prop} (h : DCallWF P f ds L wr K) : DCallW P f ds L K := fun h0 W0 γ hh vs H hr => (h h0 W0 γ hh vs H hr).mono fun _ _ q => q.1
theorem dcall_objF {f : FuncId} {ds ds' : List DV} {A : List Obj} {K : DV → List Obj → Prop} {Q : DV → List Obj → Prop} (sel : List Nat) (hc : DCalls P f ds' A Q) (hnd : sel.Nodup) (hA : All2 (fun o' (i : Nat) => ∃ o, L[i]? = some o ∧ unOx (sel.map some) o' o) A sel) (ha : All2 (argS P L (sel.map some)) ds' ds)
    (hq : ∀ r A', Q r A' → ∃ back L2 r', Merge L sel A A' back L2 ∧ unDx back r' = some r ∧ K r' L2) : DCallWF P f ds L sel K := by
  intro h0 W0 γ h vs H hr
  have hlen : A.length = sel.length := hA.length
  let γA : Pl := fun i => (sel[i]?).bind γ
  have hat : ∀ (i k : Nat), (sel.map some)[i]? = some (some k) ↔ sel[i]? = some k := fun i k => by
    rw [List.getElem?_map]
    cases sel[i]? <;> simp
  have hobj : ∀ {i : Nat} {o' : Obj}, A[i]? = some o' → ∃ k o, sel[i]? = some k ∧ L[k]? = some o ∧ unOx (sel.map some) o' o := fun {i o'} e => by
    obtain ⟨k, e1, o, e2, e3⟩ := hA.get e
    exact ⟨k, o, e1, e2, e3⟩
  have hγA : ∀ {i k : Nat}, sel[i]? = some k → γA i = γ k := fun {i k} e => by show (sel[i]?).bind γ = γ k; rw [e]; rfl
  have hinj : ∀ {i j k : Nat}, sel[i]? = some k → sel[j]? = some k → i = j := fun {i j k} e1 e2 => by
    have hi := (List.getElem?_eq_some_iff.1 e1).1
    have hj := (List.getElem?_eq_some_iff.1 e2).1
    exact nodup_get hnd e1 e2
  have R : Ren γ L (sel.map some) γA A := by
    refine ⟨fun i k e => hγA ((hat i k).1 e), fun i k e => by have := (List.getElem?_eq_some_iff.1 e).1; rw [List.length_map] at this; omega, fun i k c e e2 => ?_, fun i k o' rows e e2 e3 => ?_⟩
    · have e' := (hat i k).1 e
      have hi : i < A.length := by have := (List.getElem?_eq_some_iff.1 e').1; omega
      obtain ⟨k', o, e3, e4, e5⟩ := hobj (List.getElem?_eq_getElem hi)
      rw [e'] at e3; cases e3
      rw [e2] at e4; cases e4
      rw [List.getElem?_eq_getElem hi]
      cases hA' : A[i] <;> rw [hA'] at e5 <;> first | exact ⟨_, rfl⟩ | exact e5.elim
    · have e' := (hat i k).1 e
      obtain ⟨k', o, e4, e5, e6⟩ := hobj e2
      rw [e'] at e4; cases e4
      exact ⟨o, e5, unOx_list e6 e3⟩
  let Wn : Nat → Prop := fun b => ∃ i o x, A[i]? = some o ∧ o.owns = true ∧ γA i = some (b, x)
  let W1 : Ent := { start := h.next, W := Wn, A := fun b => Free W0 γ L h b ∨ Wn b, pin := fun i b => γA i = some (b, 0) ∧ ∃ c, A[i]? = some (.st c), cnt := A.length, few := fun i b e => (by
      obtain ⟨_, c, hc⟩ := e
      exact (List.getElem?_eq_some_iff.1 hc).1), sub := fun b e => .inr e }
  have hWn : ∀ {b}, Wn b → ∃ k o x i, sel[i]? = some k ∧ L[k]? = some o ∧ o.owns = true ∧ γ k = some (b, x) ∧ (∃ o', A[i]? = some o') := fun {b} ⟨i, o', x, e1, e2, e3⟩ => by
    obtain ⟨k, o, e4, e5, e6⟩ := hobj e1
    exact ⟨k, o, x, i, e4, e5, by rw [← unOx_owns e6]; exact e2, by rw [← hγA e4]; exact e3, o', e1⟩
  have hS : ∀ b, Free W0 γ L h b → Free W1 γA A h b := fun b hb => by
    refine ⟨hb.1, .inr (.inl hb), fun i o' x e1 e2 e3 => ?_⟩
    obtain ⟨k, o, e4, e5, e6⟩ := hobj e1
    rw [hγA e4] at e3
    exact hb.2.2 k o x e5 (by rw [← unOx_owns e6]; exact e2) e3
  have hlt : ∀ {k : Nat} {o : Obj} {b x : Nat}, L[k]? = some o → o.owns = true → γ k = some (b, x) → b < h.next := fun {k o b x} e e2 e3 => (OR.lt (fun b hb => hb.1) (H.obj k o e) e3 e2).1
  have HA : Hp P h W1 γA A h := by
    refine ⟨rfl, fun i b e => e, fun i o' e => ?_, fun i j o1 o2 b x x' e1 e2 d1 d2 g1 g2 => ?_, fun i x e => ?_, fun i o' b x e d g => .inr ⟨i, o', x, e, d, g⟩, Nat.le_refl _, fun _ _ _ => rfl⟩
    · obtain ⟨k, o, e4, e5, e6⟩ := hobj e
      exact ren_or hS R ((hat i k).2 e4) e6 (H.obj k o e5)
    · obtain ⟨k1, q1, a1, a2, a3⟩ := hobj e1
      obtain ⟨k2, q2, b1, b2, b3⟩ := hobj e2
      rw [hγA a1] at g1
      rw [hγA b1] at g2
      have := H.inj k1 k2 q1 q2 b x x' a2 b2 (by rw [← unOx_owns a3]; exact d1) (by rw [← unOx_owns b3]; exact d2) g1 g2
      subst this
      exact hinj a1 b1
    · have e' : (sel[i]?).bind γ = some x := e
      cases hi : sel[i]? with
      | none => rw [hi] at e'; cases e'
      | some k => have := (List.getElem?_eq_some_iff.1 hi).1; omega
  obtain ⟨us, hw, hu⟩ := argSs_sound (S' := Free W1 γA A h) H hS R ha hr
  refine ADoes.of (ACalls.args hw ((hc W1 γA h us (Nat.le_refl _) HA hu).mono ?_))
  rintro v h' ⟨γ2, r, A', q, H2, hd⟩
  obtain ⟨back, L2, r', M, hr', hK⟩ := hq r A' q
  let γ3 : Pl := fun i => match back[i]? with
    | some (some k) => γ2 k
    | _ => if i ∈ sel then none else γ i
  have h3b : ∀ {i k : Nat}, back[i]? = some (some k) → γ3 i = γ2 k := fun {i k} e => by show (match back[i]? with | some (some k) => γ2 k | _ => _) = _; rw [e]
  have h3k : ∀ {i : Nat}, i < L.length → i ∉ sel → γ3 i = γ i := fun {i} h1 h2 => by show (match back[i]? with | some (some k) => γ2 k | _ => _) = _; rw [(M.kept i h1 h2).1]; simp [h2]
  have hn : h.next ≤ h'.next := H2.next
  have hfr : ∀ b, b < h.next → ¬ Wn b → h'.get b = h.get b := fun b hb hw => H2.frame b hb hw
  -- what the caller's own objects own is not what was given away
  have hown : ∀ {i : Nat} {o : Obj} {b x : Nat}, L[i]? = some o → i ∉ sel → o.owns = true → γ i = some (b, x) → b < h.next ∧ ¬ Wn b := fun {i o b x} e1 e2 e3 e4 => by
    refine ⟨hlt e1 e3 e4, fun hw => ?_⟩
    obtain ⟨k, o', x', j, f1, f2, f3, f4, _⟩ := hWn hw
    have := H.inj i k o o' b x x' e1 f2 e3 f3 e4 f4
    subst this
    exact e2 (List.mem_of_getElem? f1)
  -- what came back owns
  have hback : ∀ {i : Nat} {o' : Obj} {k : Nat}, L2[i]? = some o' → back[i]? = some (some k) → o'.owns = true → ∃ o : Obj, A'[k]? = some o ∧ o.owns = true := fun {i o' k} e1 e2 e3 => by
    obtain ⟨_, o, o2, f1, f2, f3⟩ := M.old i k e2
    rw [e1] at f2; cases f2
    exact ⟨o, f1, by rw [← unOx_owns f3]; exact e3⟩
  -- every object of the new list
  have hcase : ∀ {i : Nat} {o' : Obj}, L2[i]? = some o' → (i < L.length ∧ i ∉ sel ∧ L[i]? = some o') ∨ (∃ k, back[i]? = some (some k)) ∨ o' = .dead := fun {i o'} e => by
    by_cases h1 : i < L.length
    · by_cases h2 : i ∈ sel
      · obtain ⟨k, hk⟩ := List.mem_iff_getElem?.1 h2
        have hkA : k < A.length := by rw [hlen]; exact (List.getElem?_eq_some_iff.1 hk).1
        by_cases h3 : ∃ c, A[k]? = some (.st c)
        · obtain ⟨c, h3⟩ := h3
          exact .inr (.inl ⟨k, M.st k i c hk h3⟩)
        · have := (M.gone k i hk fun c hc => h3 ⟨c, hc⟩).1
          rw [e] at this; cases this
          exact .inr (.inr rfl)
      · exact .inl ⟨h1, h2, by rw [← (M.kept i h1 h2).2]; exact e⟩
    · exact .inr (.inl (M.new i (by omega) (List.getElem?_eq_some_iff.1 e).1))
  have hSf : ∀ b, Free W1 γ2 A' h' b → Free W0 γ3 L2 h' b := fun b hb => by
    obtain ⟨c1, c2, c3⟩ := hb
    refine ⟨c1, ?_, fun i o' x e1 e2 e3 => ?_⟩
    · rcases c2 with c2 | c2 | c2
      · have c2' : h.next ≤ b := c2
        exact .inl (by rw [H.start]; exact Nat.le_trans H.next c2')
      · exact c2.2.1
      · obtain ⟨k, o, x, i, f1, f2, f3, f4, _⟩ := hWn c2
        exact H.allowed f2 f3 f4
    · rcases hcase e1 with ⟨g1, g2, g3⟩ | ⟨k, g⟩ | rfl
      · rw [h3k g1 g2] at e3
        have := hown g3 g2 e2 e3
        rcases c2 with c2 | c2 | c2
        · have c2' : h.next ≤ b := c2
          omega
        · exact c2.2.2 i o' x g3 e2 e3
        · exact this.2 c2
      · obtain ⟨o, f1, f2⟩ := hback e1 g e2
        rw [h3b g] at e3
        exact c3 k o x f1 f2 e3
      · cases e2
  have c : Carry W0 γ L h γ3 L2 h' := by
    refine ⟨fun b hb => ?_, M.le, fun i b e ⟨c, hc⟩ => ?_, fun i o' rows' hi e hl => ?_⟩
    · have hnw : ¬ Wn b := fun hw => by
        obtain ⟨k, o, x, i, f1, f2, f3, f4, _⟩ := hWn hw
        exact hb.2.2 k o x f2 f3 f4
      refine ⟨⟨Nat.lt_of_lt_of_le hb.1 hn, hb.2.1, fun i o' x e1 e2 e3 => ?_⟩, hfr b hb.1 hnw⟩
      rcases hcase e1 with ⟨g1, g2, g3⟩ | ⟨k, g⟩ | rfl
      · rw [h3k g1 g2] at e3
        exact hb.2.2 i o' x g3 e2 e3
      · obtain ⟨o, f1, f2⟩ := hback e1 g e2
        rw [h3b g] at e3
        rcases H2.new k o b x f1 f2 e3 with q | q
        · have := hb.1; omega
        · exact hnw q
      · cases e2
    · have hiL : i < L.length := (List.getElem?_eq_some_iff.1 hc).1
      by_cases h2 : i ∈ sel
      · obtain ⟨k, hk⟩ := List.mem_iff_getElem?.1 h2
        have hkA : k < A.length := by rw [hlen]; exact (List.getElem?_eq_some_iff.1 hk).1
        obtain ⟨k', o, f1, f2, f3⟩ := hobj (List.getElem?_eq_getElem hkA)
        rw [hk] at f1; cases f1
        rw [hc] at f2; cases f2
        have hst : ∃ c', A[k]? = some (.st c') := by
          rw [List.getElem?_eq_getElem hkA]
          cases hA' : A[k] <;> rw [hA'] at f3 <;> first | exact ⟨_, rfl⟩ | exact f3.elim
        obtain ⟨c', hc'⟩ := hst
        have hb := M.st k i c' hk hc'
        have hp := H2.pin k b ⟨by rw [hγA hk]; exact e, c', hc'⟩
        refine ⟨(h3b hb).trans hp.1, ?_⟩
        obtain ⟨c2, hc2⟩ := hp.2
        obtain ⟨_, o, o2, g1, g2, g3⟩ := M.old i k hb
        rw [hc2] at g1; cases g1
        rw [g2]
        cases o2 <;> first | exact ⟨_, rfl⟩ | exact g3.elim
      · exact ⟨(h3k hiL h2).trans e, c, by rw [(M.kept i hiL h2).2]; exact hc⟩
    · rcases hcase e with ⟨g1, g2, g3⟩ | ⟨k, g⟩ | rfl
      · exact ⟨o', rows', g3, hl, Nat.le_refl _, fun _ => ⟨h3k g1 g2, fun _ hz => hz⟩⟩
      · exfalso
        have h2 : i ∈ sel := by
          rcases (M.old i k g).1 with q | q
          · exact q
          · omega
        obtain ⟨k2, hk2⟩ := List.mem_iff_getElem?.1 h2
        have hkA : k2 < A.length := by rw [hlen]; exact (List.getElem?_eq_some_iff.1 hk2).1
        by_cases h3 : ∃ c, A[k2]? = some (.st c)
        · obtain ⟨c, h3⟩ := h3
          have hb := M.st k2 i c hk2 h3
          rw [g] at hb; cases hb
          -- a struct stays a struct
          obtain ⟨k', o, f1, f2, f3⟩ := hobj h3
          rw [hk2] at f1; cases f1
          cases o with
          | st c0 =>
            have ho := H.obj i _ f2
            obtain ⟨b, te, vs, p1, _⟩ := ho
            have hp := H2.pin k b ⟨by rw [hγA hk2]; exact p1, c, h3⟩
            obtain ⟨c2, hc2⟩ := hp.2
            obtain ⟨_, o3, o4, m1, m2, m3⟩ := M.old i k g
            rw [hc2] at m1; cases m1
            rw [e] at m2; cases m2
            cases o' <;> first | exact m3.elim | exact hl.elim
          | _ => exact f3.elim
        · have := (M.gone k2 i hk2 fun c hc => h3 ⟨c, hc⟩).2
          rw [g] at this; cases this
      · exact hl.elim
  have R2 : Ren γ2 A' back γ3 L2 := by
    refine ⟨fun i k e => h3b e, fun i k e => by rw [← M.len]; exact (List.getElem?_eq_some_iff.1 e).1, fun i k c e e2 => ?_, fun i k o' rows e e2 e3 => ?_⟩
    · obtain ⟨_, o, o2, f1, f2, f3⟩ := M.old i k e
      rw [e2] at f1; cases f1
      rw [f2]
      cases o2 <;> first | exact ⟨_, rfl⟩ | exact f3.elim
    · obtain ⟨_, o, o2, f1, f2, f3⟩ := M.old i k e
      rw [e2] at f2; cases f2
      exact ⟨o, f1, unOx_list f3 e3⟩
  refine ⟨⟨γ3, r', L2, hK, ?_, c, ren_dr hSf R2 hr' hd⟩, fun b hb hne => hfr b hb fun ⟨i, o, x, e1, e2, e3⟩ => by
    have e3' : (sel[i]?).bind γ = some (b, x) := e3
    cases hi : sel[i]? with
    | none => rw [hi] at e3'; cases e3'
    | some k => rw [hi] at e3'; exact hne k (List.mem_of_getElem? hi) x e3'⟩
  refine ⟨H.start, fun i b e => ?_, fun i o' e => ?_, fun i j o1 o2 b x x' e1 e2 d1 d2 g1 g2 => ?_, fun i x e => ?_, fun i o' b x e d g => ?_, Nat.le_trans H.next hn, fun b hb hw => ?_⟩
  · obtain ⟨p1, p2⟩ := H.pin i b e
    exact c.st i b p1 p2
  · rcases hcase e with ⟨g1, g2, g3⟩ | ⟨k, g⟩ | rfl
    · exact H.others c g3 (h3k g1 g2) fun b x hg hd => by
        obtain ⟨q1, q2⟩ := hown g3 g2 hd hg
        exact hfr b q1 q2
    · obtain ⟨_, o, o2, f1, f2, f3⟩ := M.old i k g
      rw [e] at f2; cases f2
      exact ren_or hSf R2 g f3 (H2.obj k o f1)
    · trivial
  · have side : ∀ {i j : Nat} {o1 o2 : Obj} {b x x' k : Nat}, L2[i]? = some o1 → L2[j]? = some o2 → o1.owns = true → o2.owns = true → γ3 i = some (b, x) → γ3 j = some (b, x') → (i < L.length ∧ i ∉ sel ∧ L[i]? = some o1) → back[j]? = some (some k) → False := by
      intro i j o1 o2 b x x' k e1 e2 d1 d2 g1 g2 hi hj
      obtain ⟨i1, i2, i3⟩ := hi
      rw [h3k i1 i2] at g1
      obtain ⟨q1, q2⟩ := hown i3 i2 d1 g1
      obtain ⟨o, f1, f2⟩ := hback e2 hj d2
      rw [h3b hj] at g2
      rcases H2.new k o b x' f1 f2 g2 with q | q
      · omega
      · exact q2 q
    rcases hcase e1 with c1 | ⟨k1, c1⟩ | rfl <;> rcases hcase e2 with c2 | ⟨k2, c2⟩ | rfl
    · obtain ⟨i1, i2, i3⟩ := c1
      obtain ⟨j1, j2, j3⟩ := c2
      rw [h3k i1 i2] at g1
      rw [h3k j1 j2] at g2
      exact H.inj i j o1 o2 b x x' i3 j3 d1 d2 g1 g2
    · exact (side e1 e2 d1 d2 g1 g2 c1 c2).elim
    · cases d2
    · exact (side e2 e1 d2 d1 g2 g1 c2 c1).elim
    · obtain ⟨q1, f1, f2⟩ := hback e1 c1 d1
      obtain ⟨q2, m1, m2⟩ := hback e2 c2 d2
      rw [h3b c1] at g1
      rw [h3b c2] at g2
      have := H2.inj k1 k2 q1 q2 b x x' f1 m1 f2 m2 g1 g2
      subst this
      exact M.inj i j k1 c1 c2
    · cases d2
    · cases d1
    · cases d1
    · cases d1
  · rw [← M.len]
    have e' : (match back[i]? with | some (some k) => γ2 k | _ => if i ∈ sel then none else γ i) = some x := e
    split at e'
    · rename_i k hk; exact (List.getElem?_eq_some_iff.1 hk).1
    · split at e'
      · cases e'
      · have := H.dom i x e'
        rw [M.len]; exact Nat.lt_of_lt_of_le this M.le
  · rcases hcase e with ⟨g1, g2, g3⟩ | ⟨k, g'⟩ | rfl
    · rw [h3k g1 g2] at g
      exact H.new i o' b x g3 d g
    · obtain ⟨o, f1, f2⟩ := hback e g' d
      rw [h3b g'] at g
      rcases H2.new k o b x f1 f2 g with q | q
      · exact .inl (Nat.le_trans H.next q)
      · obtain ⟨k, o, x, j, f1, f2, f3, f4, _⟩ := hWn q
        exact H.new k o b x f2 f3 f4
    · cases d
  · by_cases hwn : Wn b
    · obtain ⟨k, o, x, j, f1, f2, f3, f4, _⟩ := hWn hwn
      rcases H.new k o b x f2 f3 f4 with q | q
      · omega
      · exact absurd q hw
    · rw [hfr b (Nat.lt_of_lt_of_le hb H.next) hwn]; exact H.frame b hb hw
theorem dcall_obj {f : FuncId} {ds ds' : List DV} {A : List Obj} {K : DV → List Obj → Prop} {Q : DV → List Obj → Prop} (sel : List Nat) (hc : DCalls P f ds' A Q) (hnd : sel.Nodup) (hA : All2 (fun o' (i : Nat) => ∃ o, L[i]? = some o ∧ unOx (sel.map some) o' o) A sel) (ha : All2 (argS P L (sel.map some)) ds' ds)
    (hq : ∀ r A', Q r A' → ∃ back L2 r', Merge L sel A A' back L2 ∧ unDx back r' = some r ∧ K r' L2) : DCallW P f ds L K := (dcall_objF sel hc hnd hA ha hq).weak
/-- One that answers scalars changes nothing. -/
theorem dcall_scalF {f : FuncId} {ds ds' : List DV} {K : DV → List Obj → Prop} {Q : DV → List Obj → Prop} (hc : DCalls P f ds' [] Q) (ha : All2 (arg1 P L true) ds' ds) (hq : ∀ r A', Q r A' → A' = [] ∧ scalD r = true ∧ K r L) : DCallWF P f ds L [] K := by
  intro h0 W0 γ h vs H hr
  let W1 : Ent := { start := h.next, W := fun _ => False, A := fun _ => True, pin := fun _ _ => False, cnt := 0, few := fun _ _ e => e.elim, sub := fun _ e => e.elim }
  have hS : ∀ b, b < h.next → Free W1 noPl [] h b := fun b hb => ⟨hb, .inr trivial, fun id o x e => by simp at e⟩
  obtain ⟨us, hw, hu⟩ := args_sound (S' := Free W1 noPl [] h) H (fun b hb => hS b hb.1) (fun _ => hS) ha hr
  refine ADoes.of (ACalls.args hw ((hc W1 noPl h us (Nat.le_refl _) (hp_none W1 h rfl fun _ _ e => e) hu).mono ?_))
  rintro v h' ⟨γ', r, A', q, H', hd⟩
  obtain ⟨rfl, hsc, hK⟩ := hq r A' q
  have hg : ∀ b, b < h.next → h'.get b = h.get b := fun b hb => H'.frame b hb (fun e => e)
  obtain ⟨H2, c⟩ := H.grow H'.next hg
  exact ⟨⟨γ, r, L, hK, H2, c, scal_free hsc hd⟩, fun b hb _ => hg b hb⟩
end
end Go.Sim
/- Deep values: calls with one object that holds no other. -/
namespace Go.Sim
open Go.RowKit
theorem freeB {s : Sel} {d d' : DV} (e : unBx [] d = some d') : d' = d ∧ unBx s d = some d := by
  cases d <;> (simp only [unBx, unB, List.getElem?_nil] at e) <;> (try cases e) <;> exact ⟨rfl, rfl⟩
theorem freeBs {s : Sel} : ∀ {ds ds' : List DV}, unBxs [] ds = some ds' → ds' = ds ∧ unBxs s ds = some ds
  | [], _, e => by cases e; exact ⟨rfl, rfl⟩
  | d :: ds, _, e => by
    unfold unBxs at e
    cases h1 : unBx [] d with
    | none => simp only [h1] at e; cases e
    | some x =>
      cases h2 : unBxs [] ds with
      | none => simp only [h1, h2] at e; cases e
      | some y =>
        simp only [h1, h2] at e; cases e
        obtain ⟨rfl, a1⟩ := freeB (s := s) h1
        obtain ⟨rfl, a2⟩ := freeBs (s := s) h2
        exact ⟨rfl, by simp only [unBxs, a1, a2]⟩
theorem freeC {s : Sel} {d d' : DV} (e : unCx [] d = some d') : d' = d ∧ unCx s d = some d := by
  cases d with
  | fn f a b =>
    simp only [unCx] at e
    cases h1 : unBxs [] a with
    | none => simp only [h1] at e; cases e
    | some x =>
      cases h2 : unBxs [] b with
      | none => simp only [h1, h2] at e; cases e
      | some y =>
        simp only [h1, h2] at e; cases e
        obtain ⟨rfl, a1⟩ := freeBs (s := s) h1
        obtain ⟨rfl, a2⟩ := freeBs (s := s) h2
        exact ⟨rfl, by simp only [unCx, a1, a2]⟩
  | p x => exact freeB (s := s) (d := .p x) e
  | ptr x y => exact freeB (s := s) (d := .ptr x y) e
  | ep x y z w => exact freeB (s := s) (d := .ep x y z w) e
  | dp x y => exact freeB (s := s) (d := .dp x y) e
  | ref x y z w => exact freeB (s := s) (d := .ref x y z w) e
  | aref x y z => exact freeB (s := s) (d := .aref x y z) e
  | agg xs => cases e
  | tup xs => cases e
theorem freeCs {s : Sel} : ∀ {ds ds' : List DV}, unCxs [] ds = some ds' → ds' = ds ∧ unCxs s ds = some ds
  | [], _, e => by cases e; exact ⟨rfl, rfl⟩
  | d :: ds, _, e => by
    unfold unCxs at e
    cases h1 : unCx [] d with
    | none => simp only [h1] at e; cases e
    | some x =>
      cases h2 : unCxs [] ds with
      | none => simp only [h1, h2] at e; cases e
      | some y =>
        simp only [h1, h2] at e; cases e
        obtain ⟨rfl, a1⟩ := freeC (s := s) h1
        obtain ⟨rfl, a2⟩ := freeCs (s := s) h2
        exact ⟨rfl, by simp only [unCxs, a1, a2]⟩
theorem free1 {s : Sel} {d d' : DV} (e : un1x [] d = some d') : d' = d ∧ un1x s d = some d := by
  cases d with
  | agg xs =>
    simp only [un1x] at e
    cases h1 : unCxs [] xs with
    | none => rw [h1] at e; cases e
    | some ys =>
      rw [h1] at e; cases e
      obtain ⟨rfl, a1⟩ := freeCs (s := s) h1
      exact ⟨rfl, by simp only [un1x, a1, Option.map_some]⟩
  | p x => exact freeC (s := s) (d := .p x) e
  | ptr x y => exact freeC (s := s) (d := .ptr x y) e
  | ep x y z w => exact freeC (s := s) (d := .ep x y z w) e
  | dp x y => exact freeC (s := s) (d := .dp x y) e
  | ref x y z w => exact freeC (s := s) (d := .ref x y z w) e
  | aref x y z => exact freeC (s := s) (d := .aref x y z) e
  | fn x y z => exact freeC (s := s) (d := .fn x y z) e
  | tup xs => cases e
theorem free1s {s : Sel} : ∀ {ds ds' : List DV}, un1xs [] ds = some ds' → ds' = ds ∧ un1xs s ds = some ds
  | [], _, e => by cases e; exact ⟨rfl, rfl⟩
  | d :: ds, _, e => by
    unfold un1xs at e
    cases h1 : un1x [] d with
    | none => simp only [h1] at e; cases e
    | some x =>
      cases h2 : un1xs [] ds with
      | none => simp only [h1, h2] at e; cases e
      | some y =>
        simp only [h1, h2] at e; cases e
        obtain ⟨rfl, a1⟩ := free1 (s := s) h1
        obtain ⟨rfl, a2⟩ := free1s (s := s) h2
        exact ⟨rfl, by simp only [un1xs, a1, a2]⟩
theorem freeD {s : Sel} {d d' : DV} (e : unDx [] d = some d') : d' = d ∧ unDx s d = some d := by
  cases d with
  | tup xs =>
    simp only [unDx] at e
    cases h1 : un1xs [] xs with
    | none => rw [h1] at e; cases e
    | some ys =>
      rw [h1] at e; cases e
      obtain ⟨rfl, a1⟩ := free1s (s := s) h1
      exact ⟨rfl, by simp only [unDx, a1, Option.map_some]⟩
  | p x => exact free1 (s := s) (d := .p x) e
  | ptr x y => exact free1 (s := s) (d := .ptr x y) e
  | ep x y z w => exact free1 (s := s) (d := .ep x y z w) e
  | dp x y => exact free1 (s := s) (d := .dp x y) e
  | ref x y z w => exact free1 (s := s) (d := .ref x y z w) e
  | aref x y z => exact free1 (s := s) (d := .aref x y z) e
  | fn x y z => exact free1 (s := s) (d := .fn x y z) e
  | agg xs => exact free1 (s := s) (d := .agg xs) e
section
variable {P : Program} {L : List Obj}
theorem dcall_one {f : FuncId} {ds ds' : List DV} {K : DV → List Obj → Prop} {Q : DV → List Obj → Prop} {cells : List DV} (id : Nat) (hL : L[id]? = some (.st cells)) (hcl : unCxs [] cells = some cells) (hc : DCalls P f ds' [.st cells] Q) (ha : All2 (argS P L [some id]) ds' ds)
    (hq : ∀ r A', Q r A' → ∃ cells', A' = [.st cells'] ∧ unCxs [] cells' = some cells' ∧ unDx [] r = some r ∧ K r (L.set id (.st cells'))) : DCallW P f ds L K := by
  have hid : id < L.length := (List.getElem?_eq_some_iff.1 hL).1
  refine dcall_obj [id] hc (by simp) (.cons ⟨_, hL, (freeCs hcl).2⟩ .nil) ha fun r A' q => ?_
  obtain ⟨cells', rfl, h1, h2, hK⟩ := hq r A' q
  have hb : ∀ i, i < L.length → ((List.replicate L.length none : Sel).set id (some 0))[i]? = some (if i = id then some 0 else none) := fun i hi => by
    by_cases h : i = id
    · subst h; rw [if_pos rfl, List.getElem?_set_self (by simpa using hi)]
    · rw [if_neg h, List.getElem?_set_ne (Ne.symm h), List.getElem?_replicate, if_pos hi]
  have hb2 : ∀ i (x : Option Nat), ((List.replicate L.length none : Sel).set id (some 0))[i]? = some x → i < L.length ∧ x = if i = id then some 0 else none := fun i x e => by
    have hi : i < L.length := by have := (List.getElem?_eq_some_iff.1 e).1; simpa using this
    rw [hb i hi] at e; cases e
    exact ⟨hi, rfl⟩
  have hL2 : ∀ i, (L.set id (.st cells'))[i]? = if i = id then some (.st cells') else L[i]? := fun i => by
    by_cases h : i = id
    · subst h; rw [if_pos rfl, List.getElem?_set_self hid]
    · rw [if_neg h, List.getElem?_set_ne (Ne.symm h)]
  refine ⟨(List.replicate L.length none).set id (some 0), L.set id (.st cells'), r, ⟨by simp, by simp, fun i hi hn => ?_, fun k i c e1 e2 => ?_, fun k i e1 e2 => ?_, fun i k e => ?_, fun i h3 h4 => by simp at h4; omega, fun i j k e1 e2 => ?_⟩, (freeD h2).2, hK⟩
  · have hne : i ≠ id := by simpa using hn
    rw [hb i hi, if_neg hne, hL2, if_neg hne]
    exact ⟨rfl, rfl⟩
  · cases k with
    | zero => simp at e1; subst e1; rw [hb _ hid, if_pos rfl]
    | succ k => simp at e1
  · cases k with
    | zero => exact absurd rfl (e2 cells)
    | succ k => simp at e1
  · obtain ⟨h5, h6⟩ := hb2 i _ e
    split at h6
    · rename_i h7
      cases h6
      subst h7
      exact ⟨.inl (by simp), .st cells', .st cells', rfl, by rw [hL2, if_pos rfl], (freeCs h1).2⟩
    · cases h6
  · obtain ⟨_, h5⟩ := hb2 i _ e1
    obtain ⟨_, h6⟩ := hb2 j _ e2
    split at h5
    · split at h6
      · omega
      · cases h6
    · cases h5
/-- A call that is handed nothing but scalars and slices, and answers just one thing. -/
theorem DCalls.mono {f : FuncId} {ds : List DV} {A : List Obj} {Q Q' : DV → List Obj → Prop} (hc : DCalls P f ds A Q) (hq : ∀ r A', Q r A' → Q' r A') : DCalls P f ds A Q' := fun W0 γ h vs h1 H hr => (hc W0 γ h vs h1 H hr).mono fun v h' ⟨γ', r, A', q, x, y⟩ => ⟨γ', r, A', hq _ _ q, x, y⟩
end
/-- What a pure function answers. -/
def DPure (P : Program) (f : FuncId) (ds : List DV) (r : DV) : Prop := DCalls P f ds [] (fun r' A => r' = r ∧ A = [])
theorem dcall_p {P : Program} {L : List Obj} {f : FuncId} {ds ds' : List DV} {r : DV} {K : DV → List Obj → Prop} (hc : DPure P f ds' r) (ha : All2 (arg1 P L false) ds' ds) (hk : K r L) : DCallW P f ds L K :=
  dcall_pure hc ha fun _ _ ⟨h1, h2⟩ => ⟨h2, by rw [h1]; exact hk⟩
theorem dcall_s {P : Program} {L : List Obj} {f : FuncId} {ds ds' : List DV} {r : DV} {K : DV → List Obj → Prop} (hc : DPure P f ds' r) (ha : All2 (arg1 P L true) ds' ds) (hs : scalD r = true) (hk : K r L) : DCallW P f ds L K :=
  dcall_scal hc ha fun _ _ ⟨h1, h2⟩ => ⟨h2, by rw [h1]; exact hs, by rw [h1]; exact hk⟩
theorem ret_p {P : Program} {r R : DV} {L : List Obj} (h : wkD P L [] R r) : retQ P 0 (fun r' A => r' = R ∧ A = []) r L := ret_pure R h ⟨rfl, rfl⟩
/-! ### What comes back, as it is reckoned -/
def mrgO (L : List Obj) (sel : List Nat) (A' : List Obj) (back : Sel) (i : Nat) (o' : Obj) : Prop := match back[i]? with
  | some (some k) => (sel.contains i = true ∨ L.length ≤ i) ∧ match A'[k]? with
    | some o => unOx back o' o
    | none => False
  | some none => i < L.length ∧ if sel.contains i = true then o' = .dead else L[i]? = some o'
  | none => False
def mrgL (L : List Obj) (sel : List Nat) (A' : List Obj) (back : Sel) : Nat → List Obj → Prop
  | _, [] => True
  | i, o' :: r => mrgO L sel A' back i o' ∧ mrgL L sel A' back (i + 1) r
def mrgS (back : Sel) : Nat → List Obj → List Nat → Prop
  | k, .st _ :: A, i :: sel => back[i]? = some (some k) ∧ mrgS back (k + 1) A sel
  | k, _ :: A, i :: sel => back[i]? = some none ∧ mrgS back (k + 1) A sel
  | _, _, _ => True
theorem mrgL_get {L : List Obj} {sel : List Nat} {A' : List Obj} {back : Sel} : ∀ {n : Nat} {l : List Obj}, mrgL L sel A' back n l → ∀ {i : Nat} {o' : Obj}, l[i]? = some o' → mrgO L sel A' back (n + i) o'
  | n, [], _, i, o', e => by simp at e
  | n, o :: l, h, i, o', e => by
    cases i with
    | zero => simp at e; subst e; exact h.1
    | succ i => have := mrgL_get h.2 (i := i) (by simpa using e); rwa [show n + 1 + i = n + (i + 1) by omega] at this
theorem mrgS_get {back : Sel} : ∀ {n : Nat} {A : List Obj} {sel : List Nat}, mrgS back n A sel → ∀ {k i : Nat} {o : Obj}, sel[k]? = some i → A[k]? = some o → back[i]? = some (match o with | .st _ => some (n + k) | _ => none)
  | n, [], _, _, k, i, o, _, e => by simp at e
  | n, a :: A, [], _, k, i, o, e, _ => by simp at e
  | n, a :: A, s :: sel, h, k, i, o, e1, e2 => by
    have hs : (∀ (o : Obj), o = a → back[s]? = some (match o with | .st _ => some n | _ => none)) ∧ mrgS back (n + 1) A sel := by
      refine ⟨fun o e => ?_, ?_⟩
      · subst e; cases o <;> exact h.1
      · cases a <;> exact h.2
    cases k with
    | zero => simp at e1 e2; subst e1; subst e2; rw [Nat.add_zero]; exact hs.1 _ rfl
    | succ k => rw [mrgS_get hs.2 (k := k) (i := i) (o := o) (by simpa using e1) (by simpa using e2), show n + 1 + k = n + (k + 1) by omega]
theorem sel_inj {sel : Sel} (hn : (sel.filterMap id).Nodup) : ∀ (i j k : Nat), sel[i]? = some (some k) → sel[j]? = some (some k) → i = j := by
  intro i j k e1 e2
  induction sel generalizing i j with
  | nil => simp at e1
  | cons s sel ih =>
    have hmem : ∀ (m : Nat), sel[m]? = some (some k) → k ∈ sel.filterMap id := fun m e => List.mem_filterMap.2 ⟨some k, List.mem_of_getElem? e, rfl⟩
    have hn' : (sel.filterMap id).Nodup := by
      cases s with
      | none => simpa using hn
      | some q => rw [List.filterMap_cons_some (by rfl)] at hn; exact (List.nodup_cons.1 hn).2
    have hno : ∀ m, s = some k → sel[m]? = some (some k) → False := fun m e e' => by
      subst e
      rw [List.filterMap_cons_some (by rfl)] at hn
      exact (List.nodup_cons.1 hn).1 (hmem m e')
    cases i with
    | zero =>
      cases j with
      | zero => rfl
      | succ j => exact (hno j (by simpa using e1) (by simpa using e2)).elim
    | succ i =>
      cases j with
      | zero => exact (hno i (by simpa using e2) (by simpa using e1)).elim
      | succ j => exact congrArg (· + 1) (ih hn' i j (by simpa using e1) (by simpa using e2))
theorem Merge.of {L : List Obj} {sel : List Nat} {A A' : List Obj} {back : Sel} {L2 : List Obj} (h1 : back.length = L2.length) (h2 : L.length ≤ L2.length) (h3 : mrgL L sel A' back 0 L2) (h4 : mrgS back 0 A sel) (h5 : (back.filterMap id).Nodup) (h6 : A.length = sel.length) : Merge L sel A A' back L2 := by
  have at' : ∀ {i : Nat}, i < L2.length → ∃ o', L2[i]? = some o' ∧ mrgO L sel A' back i o' := fun {i} hi => ⟨_, List.getElem?_eq_getElem hi, by have := mrgL_get h3 (List.getElem?_eq_getElem hi); rwa [Nat.zero_add] at this⟩
  refine ⟨h1, h2, fun i hi hn => ?_, fun k i c e1 e2 => ?_, fun k i e1 e2 => ?_, fun i k e => ?_, fun i hi hi2 => ?_, sel_inj h5⟩
  · obtain ⟨o', e, hm⟩ := at' (show i < L2.length by omega)
    have hc : sel.contains i = false := by simpa using hn
    unfold mrgO at hm
    split at hm
    · rename_i k hk
      rcases hm.1 with q | q
      · rw [hc] at q; cases q
      · omega
    · rename_i hk
      rw [if_neg (by rw [hc]; simp)] at hm
      exact ⟨hk, e.trans hm.2.symm⟩
    · exact hm.elim
  · have := mrgS_get h4 e1 e2
    rw [Nat.zero_add] at this
    exact this
  · have hk : k < A.length := by rw [h6]; exact (List.getElem?_eq_some_iff.1 e1).1
    have hb := mrgS_get h4 e1 (List.getElem?_eq_getElem hk)
    have hb' : back[i]? = some none := by
      cases ho : A[k] with
      | st c => exact absurd (by rw [List.getElem?_eq_getElem hk, ho]) (e2 c)
      | li => rw [ho] at hb; exact hb
      | fz => rw [ho] at hb; exact hb
      | dead => rw [ho] at hb; exact hb
    have hi : i < L2.length := by rw [← h1]; exact (List.getElem?_eq_some_iff.1 hb').1
    obtain ⟨o', e, hm⟩ := at' hi
    unfold mrgO at hm
    rw [hb'] at hm
    have hc : sel.contains i = true := by simpa using List.mem_of_getElem? e1
    rw [if_pos hc] at hm
    exact ⟨by rw [e, hm.2], hb'⟩
  · have hi : i < L2.length := by rw [← h1]; exact (List.getElem?_eq_some_iff.1 e).1
    obtain ⟨o', e', hm⟩ := at' hi
    unfold mrgO at hm
    rw [e] at hm
    obtain ⟨m1, m2⟩ := hm
    refine ⟨m1.imp_left (by simp), ?_⟩
    split at m2
    · rename_i o ho; exact ⟨o, o', ho, e', m2⟩
    · exact m2.elim
  · obtain ⟨o', e', hm⟩ := at' hi2
    unfold mrgO at hm
    split at hm
    · rename_i k hk; exact ⟨k, hk⟩
    · omega
    · exact hm.elim
end Go.Sim
/- Deep values: cases of guards. -/
set_option maxRecDepth 100000
namespace Go.Sim
theorem guard_case {p : Prop} {dp : Decidable p} {A B : Prop} (h1 : (p = True) → A) (h2 : (p = False) → B) : guardWp (some (@decide p dp)) A B :=
  ⟨fun e => h1 (eq_true (of_decide_eq_true e)), fun e => h2 (eq_false (of_decide_eq_false e))⟩
theorem dcond_case {p : Prop} {dp : Decidable p} {A B : Prop} (h1 : (p = True) → A) (h2 : (p = False) → B) : condD (some (.p (.v (.bool (@decide p dp))))) A B :=
  ⟨fun e => h1 (eq_true (of_decide_eq_true e)), fun e => h2 (eq_false (of_decide_eq_false e))⟩
theorem guard_case_not {p : Prop} {dp : Decidable (¬ p)} {A B : Prop} (h1 : (p = False) → A) (h2 : (p = True) → B) : guardWp (some (@decide (¬ p) dp)) A B :=
  ⟨fun e => h1 (eq_false (of_decide_eq_true e)), fun e => h2 (eq_true (Classical.not_not.1 (of_decide_eq_false e)))⟩
theorem dcond_case_not {p : Prop} {dp : Decidable (¬ p)} {A B : Prop} (h1 : (p = False) → A) (h2 : (p = True) → B) : condD (some (.p (.v (.bool (@decide (¬ p) dp))))) A B :=
  ⟨fun e => h1 (eq_false (of_decide_eq_true e)), fun e => h2 (eq_true (Classical.not_not.1 (of_decide_eq_false e)))⟩
theorem guard_caseb {b : Bool} {A B : Prop} (h1 : (b = true) → A) (h2 : (b = false) → B) : guardWp (some b) A B := ⟨h1, h2⟩
theorem dcond_caseb {b : Bool} {A B : Prop} (h1 : (b = true) → A) (h2 : (b = false) → B) : condD (some (.p (.v (.bool b)))) A B := ⟨h1, h2⟩
theorem ite_dec_and (p q : Prop) {dp : Decidable p} {dq : Decidable q} : (if @decide p dp = true then @decide q dq else false) = decide (p ∧ q) := by
  by_cases hp : p <;> simp [hp]
theorem ite_dec_or (p q : Prop) {dp : Decidable p} {dq : Decidable q} : (if @decide p dp = true then true else @decide q dq) = decide (p ∨ q) := by
  by_cases hp : p <;> simp [hp]
theorem ite_dec_nand (p q : Prop) {dp : Decidable p} {dq : Decidable q} : (if @decide p dp = true then false else @decide q dq) = decide (¬ p ∧ q) := by
  by_cases hp : p <;> simp [hp]
theorem ite_dec_imp (p q : Prop) {dp : Decidable p} {dq : Decidable q} : (if @decide p dp = true then @decide q dq else true) = decide (p → q) := by
  by_cases hp : p <;> simp [hp]
theorem ite_dec_id (p : Prop) {dp : Decidable p} : (if @decide p dp = true then true else false) = decide p := by
  by_cases hp : p <;> simp [hp]
theorem ite_dec_same (p : Prop) {dp : Decidable p} : (if @decide p dp = true then @decide p dp else false) = decide p := by
  by_cases hp : p <;> simp [hp]
attribute [push_cast] Classical.not_not ite_dec_and ite_dec_or ite_dec_nand ite_dec_id
theorem map_take_len {α β : Type} (f : α → β) (l : List α) : List.take l.length (List.map f l) = List.map f l := List.take_of_length_le (by simp)
end Go.Sim
/- Typed values: what they are, and which deep ones they stand for. -/
namespace Go.Sim
open Go.RowKit

/-- The type of a row of cells. -/
inductive CT where
  | int (k : IntKind)
  | bool
  | str
  | sl (r : CT)
  | pair (a b : CT)
def CT.T : CT → Type
  | .int _ => Int
  | .bool => Bool
  | .str => ByteArray
  | .sl r => List (CT.T r)
  | .pair a b => CT.T a × CT.T b
def CT.size : CT → Nat
  | .pair a b => a.size + b.size
  | _ => 1
def CT.eqb : CT → CT → Bool
  | .int k, .int k' => decide (k = k')
  | .bool, .bool => true
  | .str, .str => true
  | .sl a, .sl b => CT.eqb a b
  | .pair a b, .pair a' b' => CT.eqb a a' && CT.eqb b b'
  | _, _ => false
theorem CT.of_eqb : ∀ {a b : CT}, CT.eqb a b = true → a = b
  | .int k, .int k', h => by simp [CT.eqb] at h; rw [h]
  | .bool, .bool, _ => rfl
  | .str, .str, _ => rfl
  | .sl a, .sl b, h => by rw [CT.of_eqb (a := a) (b := b) h]
  | .pair a b, .pair a' b', h => by
    simp only [CT.eqb, Bool.and_eq_true] at h
    rw [CT.of_eqb h.1, CT.of_eqb h.2]
  | .int _, .bool, h => by cases h
  | .int _, .str, h => by cases h
  | .int _, .sl _, h => by cases h
  | .int _, .pair _ _, h => by cases h
  | .bool, .int _, h => by cases h
  | .bool, .str, h => by cases h
  | .bool, .sl _, h => by cases h
  | .bool, .pair _ _, h => by cases h
  | .str, .int _, h => by cases h
  | .str, .bool, h => by cases h
  | .str, .sl _, h => by cases h
  | .str, .pair _ _, h => by cases h
  | .sl _, .int _, h => by cases h
  | .sl _, .bool, h => by cases h
  | .sl _, .str, h => by cases h
  | .sl _, .pair _ _, h => by cases h
  | .pair _ _, .int _, h => by cases h
  | .pair _ _, .bool, h => by cases h
  | .pair _ _, .str, h => by cases h
  | .pair _ _, .sl _, h => by cases h
theorem CT.size_pos : ∀ c : CT, 0 < c.size
  | .int _ => Nat.one_pos
  | .bool => Nat.one_pos
  | .str => Nat.one_pos
  | .sl _ => Nat.one_pos
  | .pair a _ => Nat.lt_of_lt_of_le (CT.size_pos a) (Nat.le_add_right _ _)
/-- The cells of a typed row. -/
def encC : (c : CT) → c.T → List PV
  | .int k, n => [.v (.int k n)]
  | .bool, b => [.v (.bool b)]
  | .str, s => [.v (.string s)]
  | .sl r, xs => [.sl r.size (List.map (encC r) xs)]
  | .pair a b, x => encC a x.1 ++ encC b x.2
theorem encC_len : ∀ (c : CT) (x : c.T), (encC c x).length = c.size
  | .int _, _ => rfl
  | .bool, _ => rfl
  | .str, _ => rfl
  | .sl _, _ => rfl
  | .pair a b, x => by simp only [encC, CT.size, List.length_append, encC_len a, encC_len b]

inductive TV where
  | v (x : Value)
  | sl (c : CT) (xs : List c.T)
  | ptr (id off : Nat)
  | ep (id i off tot : Nat)
  | dp (c : CT) (x : c.T) (off : Nat)
  | ref (id tot : Nat)
  | part (id lo n tot : Nat)
  | aref (id off n : Nat)
  | fn (f : FuncId) (pre cap : List TV)
  | agg (xs : List TV)
  | tup (xs : List TV)
def encs (f : TV → DV) : List TV → List DV
  | [] => []
  | x :: l => f x :: encs f l
theorem encs_map (f : TV → DV) : ∀ l, encs f l = l.map f
  | [] => rfl
  | x :: l => by rw [encs, encs_map f l]; rfl
/-- One that holds no other. -/
def encB : TV → DV
  | .v x => .p (.v x)
  | .sl c xs => .p (.sl c.size (xs.map (encC c)))
  | .ptr id off => .ptr id off
  | .ep id i off tot => .ep id i off tot
  | .dp c x off => .dp (encC c x) off
  | .ref id tot => .ref id 0 tot tot
  | .part id lo n tot => .ref id lo n tot
  | .aref id off n => .aref id off n
  | .fn f _ _ => .fn f [] []
  | .agg _ => .agg []
  | .tup _ => .tup []
def encK : TV → DV
  | .fn f pre cap => .fn f (pre.map encB) (cap.map encB)
  | d => encB d
def enc1 : TV → DV
  | .agg xs => .agg (xs.map encK)
  | d => encK d
def enc : TV → DV
  | .tup xs => .tup (xs.map enc1)
  | d => enc1 d
inductive TO where
  | st (cells : List TV)
  | li (c : CT) (e : TypeId) (loc : Bool) (xs : List c.T)
  | fz (c : CT) (e : TypeId) (loc : Bool) (xs : List c.T)
  | dead
def eo (loc : Bool) (e : TypeId) (n : Nat) : Option TypeId := if loc then some e else if n = 0 then none else some e
def encO : TO → Obj
  | .st cells => .st (cells.map encK)
  | .li c e loc xs => .li (eo loc e xs.length) (xs.map (encC c))
  | .fz c e loc xs => .fz (eo loc e xs.length) (xs.map (encC c))
  | .dead => .dead

/-! ### Rows from cells, cells from rows -/
def tvC : (c : CT) → c.T → List TV
  | .int k, n => [.v (.int k n)]
  | .bool, b => [.v (.bool b)]
  | .str, s => [.v (.string s)]
  | .sl r, xs => [.sl r xs]
  | .pair a b, x => tvC a x.1 ++ tvC b x.2
theorem tvC_enc : ∀ (c : CT) (x : c.T), (tvC c x).map encK = (encC c x).map .p
  | .int _, _ => rfl
  | .bool, _ => rfl
  | .str, _ => rfl
  | .sl _, _ => rfl
  | .pair a b, x => by simp only [tvC, encC, List.map_append, tvC_enc a, tvC_enc b]
theorem tvC_len (c : CT) (x : c.T) : (tvC c x).length = c.size := by
  have := congrArg List.length (tvC_enc c x)
  simpa [encC_len] using this
def castS {a b : CT} (h : a = b) (xs : List a.T) : List b.T := h ▸ xs
theorem castS_rfl {a : CT} (h : a = a) (xs : List a.T) : castS h xs = xs := rfl
def packC : (c : CT) → List TV → Option (c.T × List TV)
  | .int k, l => match l with
    | .v (.int k' n) :: r => if k = k' then some (n, r) else none
    | _ => none
  | .bool, l => match l with
    | .v (.bool b) :: r => some (b, r)
    | _ => none
  | .str, l => match l with
    | .v (.string s) :: r => some (s, r)
    | _ => none
  | .sl c, l => match l with
    | .sl c' xs :: r => if h : c'.eqb c = true then some (castS (CT.of_eqb h) xs, r) else none
    | .v (.slice none 0 0) :: r => some ([], r)
    | _ => none
  | .pair a b, l => match packC a l with
    | some (x, l') => match packC b l' with
      | some (y, l'') => some ((x, y), l'')
      | none => none
    | none => none
def pack (c : CT) (l : List TV) : Option c.T := match packC c l with
  | some (x, []) => some x
  | _ => none
/-- A cell that may stand in a row. -/
def rowC : TV → PV → Prop
  | .v x, p => p = .v x
  | .sl c xs, p => p = .sl c.size (xs.map (encC c))
  | _, _ => False
theorem All2.refl_of {α : Type} {R : α → α → Prop} (h : ∀ a, R a a) : ∀ l : List α, All2 R l l
  | [] => .nil
  | a :: l => .cons (h a) (All2.refl_of h l)
theorem unP_refl (x : PV) : unP x x := by cases x <;> exact rfl
theorem packC_row : ∀ (c : CT) (l : List TV) (x : c.T) (r : List TV), packC c l = some (x, r) → ∃ l0 ps, l = l0 ++ r ∧ All2 rowC l0 ps ∧ All2 unP (encC c x) ps
  | .int k, l, x, r, e => by
    simp only [packC] at e
    split at e
    · split at e
      · rename_i hk; cases e; subst hk; exact ⟨[_], [_], rfl, .cons rfl .nil, .cons rfl .nil⟩
      · cases e
    · cases e
  | .bool, l, x, r, e => by
    simp only [packC] at e
    split at e
    · cases e; exact ⟨[_], [_], rfl, .cons rfl .nil, .cons rfl .nil⟩
    · cases e
  | .str, l, x, r, e => by
    simp only [packC] at e
    split at e
    · cases e; exact ⟨[_], [_], rfl, .cons rfl .nil, .cons rfl .nil⟩
    · cases e
  | .sl c, l, x, r, e => by
    simp only [packC] at e
    split at e
    · rename_i c' xs r'
      split at e
      · rename_i h
        cases e
        have := CT.of_eqb h
        subst this
        exact ⟨[_], [_], rfl, .cons rfl .nil, .cons (unP_refl _) .nil⟩
      · cases e
    · cases e; exact ⟨[_], [_], rfl, .cons rfl .nil, .cons rfl .nil⟩
    · cases e
  | .pair a b, l, x, r, e => by
    simp only [packC] at e
    split at e
    · rename_i y l' h1
      split at e
      · rename_i z l'' h2
        cases e
        obtain ⟨m1, p1, rfl, a2, a3⟩ := packC_row a _ _ _ h1
        obtain ⟨m2, p2, rfl, b2, b3⟩ := packC_row b _ _ _ h2
        exact ⟨m1 ++ m2, p1 ++ p2, by simp, a2.append b2, a3.append b3⟩
      · cases e
    · cases e
theorem pack_row {c : CT} {l : List TV} {x : c.T} (e : pack c l = some x) : ∃ ps, All2 rowC l ps ∧ All2 unP (encC c x) ps := by
  unfold pack at e
  split at e
  · rename_i y h
    cases e
    obtain ⟨l0, ps, rfl, h2, h3⟩ := packC_row _ _ _ _ h
    exact ⟨ps, by simpa using h2, h3⟩
  · cases e
theorem rowC_pvs : ∀ {l : List TV} {ps : List PV}, All2 rowC l ps → l.map encK = ps.map .p
  | _, _, .nil => rfl
  | _, _, .cons (a := a) (b := b) h t => by
    have := rowC_pvs t
    simp only [List.map_cons, this]
    congr 1
    cases a <;> first | (cases h; rfl) | exact h.elim
end Go.Sim
/- Typed values: operations. -/
namespace Go.Sim
open Go.RowKit

def tlook (t : Nat) : List (Nat × TV) → Option TV
  | [] => none
  | (t', d) :: l => if t' = t then some d else tlook t l
structure TFrm where
  n : Nat
  c : Nat
  l : List (Nat × TV)
def TFrm.put (a : TFrm) (t : Option Nat) (d : TV) : TFrm := match t with
  | some t => if t < a.n then ⟨a.n, a.c, (t, d) :: a.l⟩ else a
  | none => a
abbrev undT : TV := .tup []
def constT (v : Value) : Option TV := if scal v then some (.v v) else match v with
  | .tuple xs => if xs.size = 0 then some undT else none
  | _ => none
def TFrm.ev (a : TFrm) : Operand → Option TV
  | .tmp t => tlook t a.l
  | .const v => constT v
  | .func f => some (.fn f [] [])
  | .global _ => none
abbrev TRho := Operand → Option TV
def allT (ρ : TRho) : List Operand → Option (List TV)
  | [] => some []
  | x :: r => match ρ x, allT ρ r with
    | some v, some vs => some (v :: vs)
    | _, _ => none
def allTP (ρ : TRho) : List (Nat × Operand) → Option (List (Nat × TV))
  | [] => some []
  | (i, x) :: r => match ρ x, allTP ρ r with
    | some v, some vs => some ((i, v) :: vs)
    | _, _ => none
def cellsT : TV → List TV
  | .agg xs => xs
  | d => [d]
def is1T : TV → Bool
  | .tup _ => false
  | _ => true
/-- Is it one cell? -/
def isC : TV → Bool
  | .agg _ => false
  | .tup _ => false
  | _ => true
def cellT : Option TV → Option TV
  | some d => if isC d then some d else none
  | none => none
def tpartV (P : Program) (t : TypeId) (cs : List TV) (off : Nat) : Option TV :=
  match P.underlying t with
  | none => none
  | some _ => if aggT P t then match szT P t with
      | some n => if off + n ≤ cs.length then some (.agg ((cs.drop off).take n)) else none
      | none => none
    else cellT cs[off]?
def valsT : List TV → Option (List Value)
  | [] => some []
  | x :: l => match x with
    | .v x => (valsT l).map (x :: ·)
    | _ => none
def valT : TV → Option Value
  | .v x => some x
  | .agg xs => (valsT xs).map fun l => .agg l.toArray
  | _ => none
def scT (o : Option Value) : Option TV := match o with
  | some v => if scal v then some (.v v) else none
  | none => none
def shadowT : TV → Option Value
  | .ptr _ _ => some (.pointer (some ⟨0, 0, none⟩))
  | .dp _ _ _ => some (.pointer (some ⟨0, 0, none⟩))
  | .fn f _ _ => some (.func (.func f) #[] #[])
  | _ => none
/-- What is left of code: cases, things that may lack, an answer. -/
inductive Tree (R : Type) : Type 1
  | fail
  | ret (r : R)
  | cond (b : Bool) (x y : Tree R)
  | bind (α : Type) (o : Option α) (k : α → Tree R)
  | case (α β : Type) (s : α ⊕ β) (f : α → Tree R) (g : β → Tree R)
  | both (x y : Tree R)
open Classical in
/-- Where either may happen, the answer must be the same. -/
noncomputable def bothM {R : Type} (x y : Option R) : Option R := if x = y then x else none
theorem bothM_same {R : Type} (x : Option R) : bothM x x = x := by unfold bothM; rw [if_pos rfl]
theorem bothM_some {R : Type} {x y : Option R} {a : R} (h : bothM x y = some a) : x = some a ∧ y = some a := by
  unfold bothM at h
  split at h
  · rename_i e; exact ⟨h, e ▸ h⟩
  · cases h
noncomputable def Tree.run {R : Type} : Tree R → Option R
  | .fail => none
  | .ret r => some r
  | .cond b x y => match b with
    | true => x.run
    | false => y.run
  | .bind _ o k => match o with
    | some x => (k x).run
    | none => none
  | .case _ _ s f g => match s with
    | .inl a => (f a).run
    | .inr b => (g b).run
  | .both x y => bothM x.run y.run
def Tree.map {R S : Type} (j : R → S) : Tree R → Tree S
  | .fail => .fail
  | .ret r => .ret (j r)
  | .cond b x y => .cond b (x.map j) (y.map j)
  | .bind α o k => .bind α o fun x => (k x).map j
  | .case α β s f g => .case α β s (fun a => (f a).map j) (fun b => (g b).map j)
  | .both x y => .both (x.map j) (y.map j)
theorem Tree.run_map {R S : Type} (j : R → S) (hj : ∀ a b, j a = j b → a = b) : ∀ t : Tree R, (t.map j).run = t.run.map j
  | .fail => rfl
  | .ret r => rfl
  | .cond b x y => by cases b <;> simp only [Tree.map, Tree.run] <;> exact Tree.run_map j hj _
  | .bind α o k => by
    cases o with
    | none => rfl
    | some x => exact Tree.run_map j hj (k x)
  | .case α β s f g => by
    cases s with
    | inl a => exact Tree.run_map j hj (f a)
    | inr b => exact Tree.run_map j hj (g b)
  | .both x y => by
    show bothM (x.map j).run (y.map j).run = (bothM x.run y.run).map j
    rw [Tree.run_map j hj x, Tree.run_map j hj y]
    unfold bothM
    by_cases h : x.run = y.run
    · rw [if_pos h, if_pos (by rw [h])]
    · rw [if_neg h, if_neg fun q => h ?_]
      · rfl
      · cases hx : x.run <;> cases hy : y.run <;> rw [hx, hy] at q <;> first | rfl | (simp at q; done) | (simp only [Option.map_some, Option.some.injEq] at q; rw [hj _ _ q])
def tif {R : Type} (c : Prop) [Decidable c] (x : Tree R) : Tree R := .cond (decide c) x .fail
theorem tif_run {R : Type} (c : Prop) [Decidable c] (x : Tree R) : (tif c x).run = if c then x.run else none := by
  unfold tif
  by_cases h : c <;> simp [h, Tree.run]
/-- Conditions that are left. -/
def chk {R : Type} : List (Nat × Nat) → Tree R → Tree R
  | [], o => o
  | (a, b) :: r, o => tif (a = b) (chk r o)
theorem chk_some {R : Type} {o : Tree R} {a : R} : ∀ {l : List (Nat × Nat)}, (chk l o).run = some a → (∀ p ∈ l, p.1 = p.2) ∧ o.run = some a
  | [], e => ⟨fun p hp => by simp at hp, e⟩
  | (x, y) :: r, e => by
    unfold chk at e
    rw [tif_run] at e
    split at e
    · rename_i h
      obtain ⟨h1, h2⟩ := chk_some e
      exact ⟨fun p hp => by rcases List.mem_cons.1 hp with rfl | hp; exact h; exact h1 p hp, h2⟩
    · cases e
/-- Of something that is known to be there, or not. -/
def obind {α R : Type} (o : Option α) (k : α → Tree R) : Tree R := match o with
  | some x => k x
  | none => .fail
theorem obind_some {α R : Type} {o : Option α} {k : α → Tree R} {a : R} (e : (obind o k).run = some a) : ∃ x, o = some x ∧ (k x).run = some a := by
  cases o with
  | none => cases e
  | some x => exact ⟨x, rfl, e⟩
/-- Of something that may be there. -/
def sbind {α R : Type} (o : Option α) (k : α → Tree R) : Tree R := .bind α o k
theorem sbind_some {α R : Type} {o : Option α} {k : α → Tree R} {a : R} (e : (sbind o k).run = some a) : ∃ x, o = some x ∧ (k x).run = some a := by
  cases o with
  | none => cases e
  | some x => exact ⟨x, rfl, e⟩
/-! ### Pure ones -/
def tbinV (P : Program) (op : BinOp) (t : TypeId) (a b : TV) : Option TV :=
  match valT a, valT b with
  | some x, some y => scT (binV P op t x y)
  | none, some y => if nilV y then match shadowT a with
      | some x => scT (binV P op t x y)
      | none => none
    else none
  | some x, none => if nilV x then match shadowT b with
      | some y => scT (binV P op t x y)
      | none => none
    else none
  | none, none => none
/-- Is a slice nil? Of an empty one nobody knows. -/
def tnil {R : Type} (xs : Nat) (b : Bool) (K : TV → Tree R) : Tree R := .cond (decide (xs = 0)) (.both (K (.v (.bool b))) (K (.v (.bool (!b))))) (K (.v (.bool (!b))))
def isSlT (P : Program) (t : TypeId) : Bool := match P.underlying t with
  | some (.slice _) => true
  | _ => false
def tbin {R : Type} (P : Program) (op : BinOp) (t : TypeId) (x y : TV) (K : TV → Tree R) : Tree R :=
  match op, x, y with
  | .quo, .v (.int k a), .v (.int k' b) => if k = k' then tif (b ≠ 0) (K (.v (.int k (k.wrap (a.tdiv b))))) else .fail
  | .rem, .v (.int k a), .v (.int k' b) => if k = k' then tif (b ≠ 0) (K (.v (.int k (a.tmod b)))) else .fail
  | .shl, .v (.int k a), .v (.int _ b) => tif (0 ≤ b) (K (.v (.int k (k.wrap (a * 2 ^ (min b.toNat k.bits))))))
  | .shr, .v (.int k a), .v (.int _ b) => tif (0 ≤ b) (K (.v (.int k (a.fdiv (2 ^ (min b.toNat k.bits))))))
  | .add, .v (.string a), .v (.string b) => tif (a.size + b.size ≤ 9223372036854775807) (K (.v (.string (a ++ b))))
  | .eql, .sl _ xs, .v (.slice none 0 0) => if isSlT P t then tnil xs.length true K else .fail
  | .neq, .sl _ xs, .v (.slice none 0 0) => if isSlT P t then tnil xs.length false K else .fail
  | op, x, y => obind (tbinV P op t x y) K
def setManyT : List TV → Nat → List TV → List TV
  | cs, _, [] => cs
  | cs, i, v :: r => setManyT (cs.set i v) (i + 1) r
def zeroT (P : Program) (t : TypeId) : Option (List TV) := match zeroCellsT P t with
  | some z => if z.all scal then some (z.map .v) else none
  | none => none
def fillT (place : Nat → Option (Nat × Nat)) (cells : List TV) : List (Nat × TV) → Option (List TV)
  | [] => some cells
  | (i, v) :: r => match place i with
    | none => none
    | some (off, sz) => if is1T v = true ∧ (cellsT v).length = sz ∧ off + sz ≤ cells.length then fillT place (setManyT cells off (cellsT v)) r else none
def tbuildV (P : Program) (t : TypeId) (ps : List (Nat × TV)) : Option TV :=
  match placesOf P t, zeroT P t with
  | some pl, some z => if zeroOk P t then (fillT pl z ps).map .agg else none
  | _, _ => none
def tfieldV (P : Program) (t : TypeId) (x : TV) (f : Nat) : Option TV :=
  match P.underlying t, x with
  | some (.struct fs), .agg cs => match fs[f]? with
    | some fd => tpartV P fd.type cs fd.offset
    | none => none
  | _, _ => none
/-- How many a list has. -/
def tlen (L : List TO) (id : Nat) : Option Nat := match L[id]? with
  | some (.li _ _ _ xs) => some xs.length
  | some (.fz _ _ _ xs) => some xs.length
  | _ => none
def ton {R : Type} (L : List TO) (k : Nat) (x : TV) (K : TV → Tree R) : Tree R := match x with
  | .ptr id off => K (.ptr id (off + k))
  | .ep id i off tot => obind (tlen L id) fun n => chk [(n, tot)] (K (.ep id i (off + k) tot))
  | .dp c y off => K (.dp c y (off + k))
  | _ => .fail
def intT : TV → Option Int
  | .v (.int _ n) => some n
  | _ => none
def tepT {R : Type} (c : CT) (s : Nat) (id n tot m : Nat) (K : TV → Tree R) : Tree R :=
  if c.size = s then tif (n < tot ∧ m = tot) (K (.ep id n 0 tot)) else .fail
def tindexAddr {R : Type} (P : Program) (L : List TO) (t : TypeId) (x i : TV) (K : TV → Tree R) : Tree R :=
  obind (intT i) fun n => match P.underlying t with
    | some (.slice e) => obind (szT P e) fun s => match x with
      | .sl c xs => if c.size = s then tif (0 ≤ n) (sbind xs[n.toNat]? fun y => K (.dp c y 0)) else .fail
      | .ref id tot => tif (0 ≤ n) (match L[id]? with
        | some (.li c _ _ xs) => tepT c s id n.toNat tot xs.length K
        | some (.fz c _ _ xs) => tepT c s id n.toNat tot xs.length K
        | _ => .fail)
      | .part id lo m tot => tif (0 ≤ n ∧ n.toNat < m) (match L[id]? with
        | some (.li c _ _ xs) => tepT c s id (lo + n.toNat) tot xs.length K
        | some (.fz c _ _ xs) => tepT c s id (lo + n.toNat) tot xs.length K
        | _ => .fail)
      | .aref id off m => tif (0 ≤ n ∧ n.toNat < m) (K (.ptr id (off + n.toNat * s)))
      | _ => .fail
    | some (.array len e) => obind (szT P e) fun s => tif (0 ≤ n ∧ n.toNat < len) (ton L (n.toNat * s) x K)
    | _ => .fail
def tload {R : Type} (P : Program) (L : List TO) (t : TypeId) (x : TV) (K : TV → Tree R) : Tree R := match x with
  | .ptr id off => match L[id]? with
    | some (.st cells) => obind (tpartV P t cells off) K
    | _ => .fail
  | .ep id i off tot => match L[id]? with
    | some (.li c _ _ xs) => tif (xs.length = tot) (sbind xs[i]? fun y => obind (tpartV P t (tvC c y) off) K)
    | some (.fz c _ _ xs) => tif (xs.length = tot) (sbind xs[i]? fun y => obind (tpartV P t (tvC c y) off) K)
    | _ => .fail
  | .dp c y off => obind (tpartV P t (tvC c y) off) K
  | _ => .fail
/-! ### Lists given up -/
/-- A cell that may stand in a row; a list that is put there is given up. -/
def frzC (P : Program) (L : List TO) : TV → TV × List TO × List (Nat × Nat)
  | .ref id tot => match L[id]? with
    | some (.li c e loc xs) => if szT P e = some c.size then (.sl c xs, L.set id (.fz c e loc xs), [(xs.length, tot)]) else (.ref id tot, L, [])
    | some (.fz c e _ xs) => if szT P e = some c.size then (.sl c xs, L, [(xs.length, tot)]) else (.ref id tot, L, [])
    | _ => (.ref id tot, L, [])
  | d => (d, L, [])
def frzCs (P : Program) (L : List TO) : List TV → List TV × List TO × List (Nat × Nat)
  | [] => ([], L, [])
  | x :: l => match frzC P L x with
    | (x', L', q) => match frzCs P L' l with
      | (l', L'', q') => (x' :: l', L'', q ++ q')
def frz1 (P : Program) (L : List TO) (x : TV) : TV × List TO × List (Nat × Nat) := match x with
  | .agg xs => match frzCs P L xs with
    | (xs', L', q) => (.agg xs', L', q)
  | d => frzC P L d
def frzPs (P : Program) (L : List TO) : List (Nat × TV) → List (Nat × TV) × List TO × List (Nat × Nat)
  | [] => ([], L, [])
  | (i, x) :: l => match frz1 P L x with
    | (x', L', q) => match frzPs P L' l with
      | (l', L'', q') => ((i, x') :: l', L'', q ++ q')
def isRow : TV → Bool
  | .v _ => true
  | .sl _ _ => true
  | _ => false
def tstore {R : Type} (P : Program) (L : List TO) (t : TypeId) (p x : TV) (K : List TO → Tree R) : Tree R := match p with
  | .ptr id off => match L[id]? with
    | some (.st cells) => if is1T x = true ∧ szT P t = some (cellsT x).length ∧ off + (cellsT x).length ≤ cells.length then K (L.set id (.st (setManyT cells off (cellsT x)))) else .fail
    | _ => .fail
  | .ep id i off tot => match frz1 P L x with
    | (x', L', q) => match L'[id]? with
      | some (.li c e loc xs) => if is1T x' = true ∧ szT P t = some (cellsT x').length ∧ off + (cellsT x').length ≤ c.size ∧ (cellsT x').all isRow = true then
          tif (xs.length = tot) (sbind xs[i]? fun y => obind (pack c (setManyT (tvC c y) off (cellsT x'))) fun z => chk q (K (L'.set id (.li c e loc (xs.set i z))))) else .fail
      | _ => .fail
  | _ => .fail
/-! ### Lists -/
def bytesT (s : ByteArray) : List (CT.T (.int .u8)) := s.data.toList.map fun c => ((c.toNat : Int) : CT.T (.int .u8))
def packL (c : CT) : List TV → Option (List c.T)
  | [] => some []
  | x :: l => match pack c [x], packL c l with
    | some y, some ys => some (y :: ys)
    | _, _ => none
/-- What is appended or copied. -/
def tsrc {R : Type} (P : Program) (L : List TO) (c : CT) (t : TypeId) (x : TV) (K : List c.T → Tree R) : Tree R :=
  match P.underlying t with
  | some (.slice _) => match x with
    | .sl c' xs => if h : c'.eqb c = true then K (castS (CT.of_eqb h) xs) else .fail
    | .v (.slice none 0 0) => K []
    | .ref id tot => match L[id]? with
      | some (.li c' _ _ xs) => if h : c'.eqb c = true then chk [(xs.length, tot)] (K (castS (CT.of_eqb h) xs)) else .fail
      | some (.fz c' _ _ xs) => if h : c'.eqb c = true then chk [(xs.length, tot)] (K (castS (CT.of_eqb h) xs)) else .fail
      | _ => .fail
    | .part id lo n tot => match L[id]? with
      | some (.li c' _ _ xs) => if h : c'.eqb c = true then chk [(xs.length, tot)] (K ((List.drop lo (castS (CT.of_eqb h) xs)).take n)) else .fail
      | some (.fz c' _ _ xs) => if h : c'.eqb c = true then chk [(xs.length, tot)] (K ((List.drop lo (castS (CT.of_eqb h) xs)).take n)) else .fail
      | _ => .fail
    | _ => .fail
  | some .string => match x with
    | .v (.string s) => if h : (CT.int .u8).eqb c = true then K (castS (CT.of_eqb h) (bytesT s)) else .fail
    | _ => .fail
  | _ => .fail
def lim (b : Nat) : Nat := 140737488355328 / b
def tappend {R : Type} (P : Program) (ty : TypeId → Option CT) (ts : List TypeId) (L : List TO) (s x : TV) (K : TV → List TO → Tree R) : Tree R :=
  match ts with
  | [t, t2] => match P.underlying t with
    | some (.slice e) => obind (P.info? e) fun i => obind (zeroCellsT P e) fun _ => obind (ty e) fun c => if c.size = i.size ∧ 0 < i.bytes then
        tsrc P L c t2 x fun ys => match s with
          | .v (.slice none 0 0) => tif (ys.length ≤ lim i.bytes) (K (.ref L.length ys.length) (L ++ [.li c e false ys]))
          | .ref id tot => match L[id]? with
            | some (.li c' e' loc xs) => if e' = e then (if h : c'.eqb c = true then (tif (xs.length = tot ∧ tot + ys.length ≤ lim i.bytes) (
                K (.ref id (tot + ys.length)) (L.set id (.li c e loc (castS (CT.of_eqb h) xs ++ ys))))) else .fail) else .fail
            | _ => .fail
          | _ => .fail
      else .fail
    | _ => .fail
  | _ => .fail
def optT (ρ : TRho) : Option Operand → Option (Option Int)
  | none => some none
  | some x => match ρ x with
    | some d => (intT d).map some
    | none => none
/-- Bounds within so many, of which so many may be reached. -/
def tbounds {R : Type} (n : Nat) (lo hi : Option Int) (K : Option Nat → Option Nat → Tree R) : Tree R := match lo, hi with
  | none, none => K none none
  | none, some h => tif (0 ≤ h ∧ h.toNat ≤ n) (K none (some h.toNat))
  | some l, none => tif (0 ≤ l ∧ l.toNat ≤ n) (K (some l.toNat) none)
  | some l, some h => tif (0 ≤ l ∧ l ≤ h ∧ h.toNat ≤ n) (K (some l.toNat) (some h.toNat))
def cutL {α : Type} (xs : List α) : Option Nat → Option Nat → List α
  | none, none => xs
  | none, some h => xs.take h
  | some l, none => xs.drop l
  | some l, some h => (xs.drop l).take (h - l)
def cutN (n : Nat) : Option Nat → Option Nat → Nat × Nat
  | none, none => (0, n)
  | none, some h => (0, h)
  | some l, none => (l, n - l)
  | some l, some h => (l, h - l)
def tslice {R : Type} (P : Program) (L : List TO) (t : TypeId) (x : TV) (lo hi : Option Int) (K : TV → Tree R) : Tree R :=
  match P.underlying t with
  | some (.slice e) => obind (szT P e) fun s => match x with
    | .sl c xs => if c.size = s then tbounds xs.length lo hi fun l h => K (.sl c (cutL xs l h)) else .fail
    | .v (.slice none 0 0) => tbounds 0 lo hi fun _ _ => K x
    | .ref id tot => match L[id]? with
      | some (.li c e' _ xs) => if c.size = s ∧ e' = e then tif (0 < tot ∧ xs.length = tot) (tbounds tot lo hi fun l h => K (.part id (cutN tot l h).1 (cutN tot l h).2 tot)) else .fail
      | some (.fz c e' _ xs) => if c.size = s ∧ e' = e then tif (0 < tot ∧ xs.length = tot) (tbounds tot lo hi fun l h => K (.part id (cutN tot l h).1 (cutN tot l h).2 tot)) else .fail
      | _ => .fail
    | .part id a n tot => match L[id]? with
      | some (.li c e' _ xs) => if c.size = s ∧ e' = e then tif (0 < n ∧ xs.length = tot ∧ 0 < tot) (tbounds n lo hi fun l h => K (.part id (a + (cutN n l h).1) (cutN n l h).2 tot)) else .fail
      | some (.fz c e' _ xs) => if c.size = s ∧ e' = e then tif (0 < n ∧ xs.length = tot ∧ 0 < tot) (tbounds n lo hi fun l h => K (.part id (a + (cutN n l h).1) (cutN n l h).2 tot)) else .fail
      | _ => .fail
    | _ => .fail
  | _ => .fail
def tlenV {R : Type} (P : Program) (L : List TO) (t : TypeId) (x : TV) (K : TV → Tree R) : Tree R :=
  match P.underlying t with
  | some (.slice _) => match x with
    | .sl _ xs => K (.v (goInt xs.length))
    | .v (.slice none 0 0) => K (.v (goInt (0 : Nat)))
    | .ref id tot => obind (tlen L id) fun n => chk [(n, tot)] (K (.v (goInt tot)))
    | .part id _ m tot => obind (tlen L id) fun n => chk [(n, tot)] (K (.v (goInt m)))
    | .aref _ _ n => K (.v (goInt n))
    | _ => .fail
  | some .string => match x with
    | .v (.string s) => K (.v (goInt s.size))
    | _ => .fail
  | some (.array n _) => match x with
    | .agg _ => K (.v (goInt n))
    | _ => .fail
  | _ => .fail
def tconv {R : Type} (P : Program) (L : List TO) (s d : TypeId) (x : TV) (K : TV → List TO → Tree R) : Tree R :=
  match P.underlying s, P.underlying d with
  | some (.slice e), some .string => if isByteT P e = true then tsrc P L (.int .u8) s x fun xs => K (.v (.string (strOfNums xs))) L else .fail
  | some .string, some (.slice e) => match x with
    | .v (.string t) => if isByteT P e = true ∧ szT P e = some 1 then tif (t.size ≤ maxLen) (K (.ref L.length t.size) (L ++ [.li (.int .u8) e true (bytesT t)])) else .fail
    | _ => .fail
  | some (.slice _), some (.slice e) => match x with
    | .ref id tot => if s = d ∧ isByteT P e = true then (match L[id]? with
      | some (.li _ _ _ xs) => tif (0 < tot ∧ xs.length = tot) (K x L)
      | _ => .fail) else .fail
    | _ => .fail
  | _, _ => match valT x with
    | some v => obind (scT (convV P s d v)) fun d => K d L
    | none => .fail
def fillRowsT (c : CT) (rows : List c.T) : List (Nat × TV) → Option (List c.T)
  | [] => some rows
  | (i, d) :: r => if is1T d = true ∧ i < rows.length then match pack c (cellsT d) with
      | some y => fillRowsT c (rows.set i y) r
      | none => none
    else none
def tbuildSlice {R : Type} (P : Program) (ty : TypeId → Option CT) (L : List TO) (t : TypeId) (len : Nat) (ps : List (Nat × TV)) (K : TV → List TO → Tree R) : Tree R :=
  match P.underlying t with
  | some (.slice e) => obind (ty e) fun c => obind ((zeroT P e).bind (pack c)) fun z => if szT P e = some c.size ∧ len * c.size ≤ 16777216 ∧ len ≤ maxLen then
      (match frzPs P L ps with
      | (ps', L', q) => obind (fillRowsT c (List.replicate len z) ps') fun rows => chk q (K (.ref L'.length len) (L' ++ [.li c e true rows]))) else .fail
  | _ => .fail
def baseT : TV → Bool
  | .fn _ _ _ => false
  | .agg _ => false
  | .tup _ => false
  | _ => true
def dfuncT (f : Fn) (a b : Option (List TV)) : Option TV := match f, a, b with
  | .func k, some a, some b => if a.all baseT && b.all baseT then some (.fn k a b) else none
  | _, _, _ => none
def tpick {R : Type} (c : Option TV) (a b : Option TV) (K : TV → Tree R) : Tree R := match c with
  | some (.v (.bool t)) => match a, b with
    | some (.v (.bool x)), some (.v (.bool y)) => K (.v (.bool (cond t x y)))
    | a, b => .cond t (obind a K) (obind b K)
  | _ => .fail
def tindexV {R : Type} (P : Program) (ty : TypeId → Option CT) (t : TypeId) (x i : TV) (K : TV → Tree R) : Tree R :=
  match P.underlying t, x, intT i with
  | some (.array len e), .agg cs, some n => match szT P e with
    | some s => tif (0 ≤ n ∧ n.toNat < len) (obind (tpartV P e cs (n.toNat * s)) K)
    | none => .fail
  | some .string, .v (.string s), some n => tif (0 ≤ n) (sbind s[n.toNat]? fun b => K (.v (.int .u8 b.toNat)))
  | _, _, _ => .fail
def textractV (x : TV) (i : Nat) : Option TV := match x with
  | .tup xs => match xs[i]? with
    | some d => if is1T d then some d else none
    | none => none
  | _ => none
def valsOfT : List TV → Option (List Value)
  | [] => some []
  | d :: l => match valT d, valsOfT l with
    | some v, some vs => some (v :: vs)
    | _, _ => none
/-- A call, to be told by a table. -/
abbrev TCall (R : Type) := FuncId → List TV → List TO → (TV → List TO → Tree R) → Tree R
def top {R : Type} (P : Program) (ty : TypeId → Option CT) (call : TCall R) (o : Op) (ρ : TRho) (L : List TO) (K : TV → List TO → Tree R) : Tree R :=
  match o with
  | .move x => obind (ρ x) fun d => K d L
  | .assign x => obind (ρ x) fun d => K d L
  | .pick c a b => tpick (ρ c) (ρ a) (ρ b) fun d => K d L
  | .build t ps => obind (allTP ρ ps.toList) fun ds => obind (tbuildV P t ds) fun d => K d L
  | .field t x f => obind (ρ x) fun x => obind (tfieldV P t x f) fun d => K d L
  | .fieldAddr t x f => obind (ρ x) fun x => obind (offF P t f) fun k => ton L k x fun d => K d L
  | .unOp op _ x => obind (ρ x) fun x => obind (valT x) fun v => obind (scT (unV op v)) fun d => K d L
  | .binOp op t x y _ => obind (ρ x) fun x => obind (ρ y) fun y => tbin P op t x y fun d => K d L
  | .convert s d x => obind (ρ x) fun x => tconv P L s d x K
  | .makeFunc f a b => obind (dfuncT f (allT ρ a.toList) (allT ρ b.toList)) fun d => K d L
  | .indexAddr t x i => obind (ρ x) fun x => obind (ρ i) fun i => tindexAddr P L t x i fun d => K d L
  | .index t x i => obind (ρ x) fun x => obind (ρ i) fun i => tindexV P ty t x i fun d => K d L
  | .extract x i => obind (ρ x) fun x => obind (textractV x i) fun d => K d L
  | .nilCheck x => obind (ρ x) fun x => ton L 0 x fun d => K d L
  | .load t x => obind (ρ x) fun x => tload P L t x fun d => K d L
  | .store t x y => obind (ρ x) fun x => obind (ρ y) fun y => tstore P L t x y fun L' => K undT L'
  | .slice t x lo hi none => obind (ρ x) fun x => obind (optT ρ lo) fun lo => obind (optT ρ hi) fun hi => tslice P L t x lo hi fun d => K d L
  | .box t x => obind (ρ x) fun x => if is1T x = true ∧ szT P t = some (cellsT x).length then K (.ptr L.length 0) (L ++ [.st (cellsT x)]) else .fail
  | .alloc t => obind (zeroT P t) fun z => K (.ptr L.length 0) (L ++ [.st z])
  | .buildSlice t n ps => obind (allTP ρ ps.toList) fun ds => tbuildSlice P ty L t n ds K
  | .call { callee := .value f, args := args, argTypes := _ } => obind (ρ f) fun f => obind (allT ρ args.toList) fun ds => match f with
    | .fn k pre cap => if pre.all baseT && cap.all baseT then call k (pre ++ ds ++ cap) L K else .fail
    | _ => .fail
  | .call { callee := .builtin .append, args := args, argTypes := ts } => obind (allT ρ args.toList) fun ds => match ds with
    | [s, x] => tappend P ty ts.toList L s x K
    | _ => .fail
  | .call { callee := .builtin .len, args := args, argTypes := ts } => obind (allT ρ args.toList) fun ds => match ds, ts.toList with
    | [x], [t] => tlenV P L t x fun d => K d L
    | _, _ => .fail
  | .call { callee := .builtin .min, args := args, argTypes := _ } => obind (allT ρ args.toList) fun ds => obind (valsOfT ds) fun vs => obind (scT (minV vs)) fun d => K d L
  | .call { callee := .builtin .max, args := args, argTypes := _ } => obind (allT ρ args.toList) fun ds => obind (valsOfT ds) fun vs => obind (scT (maxV vs)) fun d => K d L
  | _ => .fail
end Go.Sim
