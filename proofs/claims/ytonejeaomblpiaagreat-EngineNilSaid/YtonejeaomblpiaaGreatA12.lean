/- What the rewriting goes by: congruences that leave continuations alone; the rules under one name. -/
import Derived.Test.YtonejeaomblpiaaGreatA11
set_option linter.unusedSimpArgs false
set_option linter.unusedVariables false
set_option linter.defProp false
namespace Go.Sim
open Go.RowKit
theorem endWp_congr {o o' : Option (List Value)} {Q : Value → Heap → Prop} {h h' : Heap} (ho : o = o') (hh : h = h') : endWp o Q h = endWp o' Q h' := by rw [ho, hh]
theorem convWp_congr {P : Program} {s d : TypeId} {x x' : Value} {h h' : Heap} {K : Value → Heap → Prop} (hx : x = x') (hh : h = h') : convWp P s d x h K = convWp P s d x' h' K := by rw [hx, hh]

def lft : Code → Code
  | .seq x _ => x
  | .cond _ x _ => x
  | .block _ c => c
  | .loop c => c
  | .scope c => c
  | .rangeFunc _ _ x _ => x
  | c => c
def rgt : Code → Code
  | .seq _ y => y
  | .cond _ _ y => y
  | .rangeFunc _ _ _ y => y
  | c => c
def bodyOf (f : Func) : Code := f.body.getD .skip

/-- What is still to be done behind a piece of code. -/
inductive Fr where
  | seq (y : Code)
  | block (id : Nat)
  | loop (K : Frm → Heap → Prop)
def stk (P : Program) : List Fr → (Exit → Frm → Heap → Prop) → Exit → Frm → Heap → Prop
  | [], Q => Q
  | .seq y :: s, Q => thenQ (codeWp P y (stk P s Q)) (stk P s Q)
  | .block id :: s, Q => blockQ id (stk P s Q)
  | .loop K :: s, Q => thenQ K (stk P s Q)
section
variable (P : Program) (s : List Fr) (Q : Exit → Frm → Heap → Prop) (a : Frm) (h : Heap)
theorem stk_nil (e : Exit) : stk P [] Q e a h = Q e a h := rfl
theorem stk_seq (y : Code) : stk P (.seq y :: s) Q .normal a h = codeWp P y (stk P s Q) a h := rfl
theorem stk_seq_exit (y : Code) (id : Nat) : stk P (.seq y :: s) Q (.exit id) a h = stk P s Q (.exit id) a h := rfl
theorem stk_seq_goto (y : Code) (l : Nat) : stk P (.seq y :: s) Q (.goto l) a h = stk P s Q (.goto l) a h := rfl
theorem stk_block (id : Nat) : stk P (.block id :: s) Q .normal a h = stk P s Q .normal a h := rfl
theorem stk_block_exit (id id' : Nat) : stk P (.block id :: s) Q (.exit id') a h = if id' = id then stk P s Q .normal a h else stk P s Q (.exit id') a h := rfl
theorem stk_block_goto (id l : Nat) : stk P (.block id :: s) Q (.goto l) a h = stk P s Q (.goto l) a h := rfl
theorem stk_loop (K : Frm → Heap → Prop) : stk P (.loop K :: s) Q .normal a h = K a h := rfl
theorem stk_loop_exit (K : Frm → Heap → Prop) (id : Nat) : stk P (.loop K :: s) Q (.exit id) a h = stk P s Q (.exit id) a h := rfl
theorem stk_loop_goto (K : Frm → Heap → Prop) (l : Nat) : stk P (.loop K :: s) Q (.goto l) a h = stk P s Q (.goto l) a h := rfl
theorem stk_ret : ∀ s, stk P s Q .ret a h = Q .ret a h
  | [] => rfl
  | .seq _ :: s => stk_ret s
  | .block _ :: s => stk_ret s
  | .loop _ :: s => stk_ret s
end

theorem frm_get (n : Nat) (l : List (Nat × Value)) (t : Nat) : Frm.get ⟨n, l⟩ t = look t l := rfl
theorem frm_put (n : Nat) (l : List (Nat × Value)) (t : Nat) (v : Value) : Frm.put ⟨n, l⟩ (some t) v = if t < n then ⟨n, (t, v) :: l⟩ else ⟨n, l⟩ := rfl
theorem frm_put_none (a : Frm) (v : Value) : Frm.put a none v = a := rfl
theorem ev_tmp (a : Frm) (t : Nat) : a.ev (.tmp t) = a.get t := rfl
theorem ev_func (a : Frm) (f : FuncId) : a.ev (.func f) = some (.func (.func f) #[] #[]) := rfl
theorem ev_int (a : Frm) (k : IntKind) (n : Int) : a.ev (.const (.int k n)) = some (.int k n) := rfl
theorem ev_bool (a : Frm) (b : Bool) : a.ev (.const (.bool b)) = some (.bool b) := rfl
theorem ev_string (a : Frm) (s : ByteArray) : a.ev (.const (.string s)) = some (.string s) := rfl
theorem ev_nilptr (a : Frm) : a.ev (.const (.pointer none)) = some (.pointer none) := rfl
theorem ev_nilslice (a : Frm) : a.ev (.const (.slice none 0 0)) = some (.slice none 0 0) := rfl
theorem ev_nilmap (a : Frm) : a.ev (.const (.map none)) = some (.map none) := rfl
theorem ev_nilfunc (a : Frm) : a.ev (.const .nilFunc) = some .nilFunc := rfl
theorem look_cons (t t' : Nat) (v : Value) (r : List (Nat × Value)) : look t ((t', v) :: r) = if t' = t then some v else look t r := rfl
theorem look_nil (t : Nat) : look t [] = none := rfl
theorem args_nil (k : Nat) : argSlots k [] = [] := rfl
theorem args_cons (k : Nat) (v : Value) (l : List Value) : argSlots k (v :: l) = (k, v) :: argSlots (k + 1) l := rfl
theorem allV_nil (ρ : Rho) : allV ρ [] = some [] := rfl
theorem allV_cons (ρ : Rho) (x : Operand) (l : List Operand) : allV ρ (x :: l) = match ρ x, allV ρ l with | some v, some vs => some (v :: vs) | _, _ => none := rfl
theorem allP_nil (ρ : Rho) : allP ρ [] = some [] := rfl
theorem allP_cons (ρ : Rho) (i : Nat) (x : Operand) (l : List (Nat × Operand)) : allP ρ ((i, x) :: l) = match ρ x, allP ρ l with | some v, some vs => some ((i, v) :: vs) | _, _ => none := rfl
theorem optV_none (ρ : Rho) : optV ρ none = some none := rfl
theorem optV_some (ρ : Rho) (x : Operand) : optV ρ (some x) = (ρ x).map some := rfl
theorem results_nil (P : Program) (a : Frm) (h : Heap) : resultsV P a h [] = some [] := rfl
theorem results_cons (P : Program) (a : Frm) (h : Heap) (x : ResultVar) (l : List ResultVar) : resultsV P a h (x :: l) = match resultV P a h x, resultsV P a h l with | some v, some vs => some (v :: vs) | _, _ => none := rfl
theorem result_tmp (P : Program) (a : Frm) (h : Heap) (t : Nat) : resultV P a h (.tmp t) = a.get t := rfl
theorem result_cell (P : Program) (a : Frm) (h : Heap) (p : Nat) (t : TypeId) : resultV P a h (.cell p t) = match a.get p with | some v => loadV P t h v | none => none := rfl
theorem pack_one (v : Value) : packV [v] = v := rfl
theorem pack_two (u v : Value) : packV [u, v] = .tuple #[u, v] := rfl
theorem pack_three (u v x : Value) : packV [u, v, x] = .tuple #[u, v, x] := rfl
theorem pack_four (u v x y : Value) : packV [u, v, x, y] = .tuple #[u, v, x, y] := rfl
theorem pack_nil : packV [] = .tuple #[] := rfl
theorem guard_at (t : Nat) (want : Bool) (a : Frm) : guardV (some t) want a = guardOf (a.get t) want := rfl
theorem guardOf_true (b : Bool) : guardOf (some (.bool b)) true = some b := rfl
theorem guardOf_false (b : Bool) : guardOf (some (.bool b)) false = some (!b) := rfl
theorem pick_true (x y : Option Value) : pickV (some (.bool true)) x y = x := rfl
theorem pick_false (x y : Option Value) : pickV (some (.bool false)) x y = y := rfl
theorem pick_any (b : Bool) (u v : Value) : pickV (some (.bool b)) (some u) (some v) = some (if b then u else v) := by cases b <;> rfl
-- integers
theorem bin_int (P : Program) (op : BinOp) (t : TypeId) (k : IntKind) (a b : Int) : binV P op t (.int k a) (.int k b) = if isShift op then shiftV op k a b else intV op k a b := by simp [binV]
theorem bin_shl (P : Program) (t : TypeId) (k k' : IntKind) (a b : Int) : binV P .shl t (.int k a) (.int k' b) = shiftV .shl k a b := by simp [binV, isShift]
theorem bin_shr (P : Program) (t : TypeId) (k k' : IntKind) (a b : Int) : binV P .shr t (.int k a) (.int k' b) = shiftV .shr k a b := by simp [binV, isShift]
theorem bin_str (P : Program) (op : BinOp) (t : TypeId) (a b : ByteArray) : binV P op t (.string a) (.string b) = strV op a b := rfl
theorem bin_add (P : Program) (t : TypeId) (k : IntKind) (a b : Int) : binV P .add t (.int k a) (.int k b) = some (.int k (k.wrap (a + b))) := by simp [binV, isShift, intV]
theorem bin_sub (P : Program) (t : TypeId) (k : IntKind) (a b : Int) : binV P .sub t (.int k a) (.int k b) = some (.int k (k.wrap (a - b))) := by simp [binV, isShift, intV]
theorem bin_mul (P : Program) (t : TypeId) (k : IntKind) (a b : Int) : binV P .mul t (.int k a) (.int k b) = some (.int k (k.wrap (a * b))) := by simp [binV, isShift, intV]
theorem bin_and (P : Program) (t : TypeId) (k : IntKind) (a b : Int) : binV P .and t (.int k a) (.int k b) = some (.int k (bits .and k a b)) := by simp [binV, isShift, intV]
theorem bin_or (P : Program) (t : TypeId) (k : IntKind) (a b : Int) : binV P .or t (.int k a) (.int k b) = some (.int k (bits .or k a b)) := by simp [binV, isShift, intV]
theorem bin_andNot (P : Program) (t : TypeId) (k : IntKind) (a b : Int) : binV P .andNot t (.int k a) (.int k b) = some (.int k (bits .andNot k a b)) := by simp [binV, isShift, intV]
theorem bin_quo (P : Program) (t : TypeId) (k : IntKind) (a b : Int) : binV P .quo t (.int k a) (.int k b) = if b = 0 then none else some (.int k (k.wrap (a.tdiv b))) := by simp [binV, isShift, intV]
theorem bin_rem (P : Program) (t : TypeId) (k : IntKind) (a b : Int) : binV P .rem t (.int k a) (.int k b) = if b = 0 then none else some (.int k (a.tmod b)) := by simp [binV, isShift, intV]
theorem bin_eql (P : Program) (t : TypeId) (k : IntKind) (a b : Int) : binV P .eql t (.int k a) (.int k b) = some (.bool (decide (a = b))) := by simp [binV, isShift, intV]; exact Bool.beq_eq_decide_eq _ _
theorem bin_neq (P : Program) (t : TypeId) (k : IntKind) (a b : Int) : binV P .neq t (.int k a) (.int k b) = some (.bool (decide (¬ a = b))) := by simp [binV, isShift, intV]; rw [bne, Bool.beq_eq_decide_eq]
theorem bin_lss (P : Program) (t : TypeId) (k : IntKind) (a b : Int) : binV P .lss t (.int k a) (.int k b) = some (.bool (decide (a < b))) := by simp [binV, isShift, intV]
theorem bin_leq (P : Program) (t : TypeId) (k : IntKind) (a b : Int) : binV P .leq t (.int k a) (.int k b) = some (.bool (decide (a ≤ b))) := by simp [binV, isShift, intV]
theorem bin_gtr (P : Program) (t : TypeId) (k : IntKind) (a b : Int) : binV P .gtr t (.int k a) (.int k b) = some (.bool (decide (b < a))) := by simp [binV, isShift, intV]
theorem bin_geq (P : Program) (t : TypeId) (k : IntKind) (a b : Int) : binV P .geq t (.int k a) (.int k b) = some (.bool (decide (b ≤ a))) := by simp [binV, isShift, intV]
theorem shift_l (k : IntKind) (a b : Int) : shiftV .shl k a b = if b < 0 then none else some (.int k (k.wrap (a * 2 ^ (min b.toNat k.bits)))) := rfl
theorem shift_r (k : IntKind) (a b : Int) : shiftV .shr k a b = if b < 0 then none else some (.int k (a.fdiv (2 ^ (min b.toNat k.bits)))) := rfl
theorem un_not (b : Bool) : unV .not (.bool b) = some (.bool (!b)) := rfl
theorem un_neg (k : IntKind) (n : Int) : unV .neg (.int k n) = some (.int k (k.wrap (0 - n))) := rfl
theorem conv_int {P : Program} {s d : TypeId} {k k' : IntKind} {n : Int} {D : TypeDesc} {h : Heap} {K : Value → Heap → Prop} (h1 : P.underlying s = some D) (h2 : P.underlying d = some (.int k')) :
    convWp P s d (.int k n) h K = K (.int k' (k'.wrap n)) h := by
  unfold convWp
  rw [h1, h2]
  cases D <;> simp [convV, h1, h2]
theorem load_at (P : Program) (t : TypeId) (h : Heap) (b i : Nat) : loadV P t h (.pointer (some ⟨b, i, none⟩)) = match h.get b with
  | some (.cells cs _ _) => partV P t cs i
  | _ => none := rfl
theorem store_at (P : Program) (t : TypeId) (h : Heap) (b i : Nat) (x : Value) : storeV P t h (.pointer (some ⟨b, i, none⟩)) x = match h.get b with
    | some (.cells cs e true) =>
      if szT P t = some x.cells.size ∧ i + x.cells.size ≤ cs.length ∧ x.cells.toList.all Value.oneCell' = true then
        some (h.set b (.cells (setMany cs i x.cells.toList) e true))
      else none
    | _ => none := rfl
theorem part_one {P : Program} {t : TypeId} (hu : (P.underlying t).isSome = true) (ha : aggT P t = false) (cs : List Value) (o : Nat) : partV P t cs o = cs[o]? := by
  unfold partV
  cases h : P.underlying t with
  | none => simp [h] at hu
  | some d => simp [ha]
theorem part_agg {P : Program} {t : TypeId} {n : Nat} (ha : aggT P t = true) (hs : szT P t = some n) (cs : List Value) (o : Nat) : partV P t cs o = if o + n ≤ cs.length then some (.agg ((cs.drop o).take n).toArray) else none := by
  unfold partV
  cases h : P.underlying t with
  | none => simp [aggT, h] at ha
  | some d => simp [ha, hs]
theorem cells_agg (xs : Array Value) : Value.cells (.agg xs) = xs := rfl
theorem cells_int (k : IntKind) (n : Int) : Value.cells (.int k n) = #[.int k n] := rfl
theorem cells_bool (b : Bool) : Value.cells (.bool b) = #[.bool b] := rfl
theorem cells_string (b : ByteArray) : Value.cells (.string b) = #[.string b] := rfl
theorem cells_ptr (b : Option Addr) : Value.cells (.pointer b) = #[.pointer b] := rfl
theorem cells_slice (b : Option Addr) (n c : Nat) : Value.cells (.slice b n c) = #[.slice b n c] := rfl
theorem cells_map (b : Option Nat) : Value.cells (.map b) = #[.map b] := rfl
theorem cells_func (f : Fn) (x y : Array Value) : Value.cells (.func f x y) = #[.func f x y] := rfl
theorem one_int (k : IntKind) (n : Int) : (Value.int k n).oneCell' = true := rfl
theorem one_bool (n : Bool) : (Value.bool n).oneCell' = true := rfl
theorem one_string (n : ByteArray) : (Value.string n).oneCell' = true := rfl
theorem one_ptr (b : Option Addr) : (Value.pointer b).oneCell' = true := rfl
theorem one_slice (b : Option Addr) (n c : Nat) : (Value.slice b n c).oneCell' = true := rfl
theorem one_map (b : Option Nat) : (Value.map b).oneCell' = true := rfl
theorem one_func (f : Fn) (x y : Array Value) : (Value.func f x y).oneCell' = true := rfl
theorem many_nil (cs : List Value) (i : Nat) : setMany cs i [] = cs := rfl
theorem many_cons (cs : List Value) (i : Nat) (v : Value) (r : List Value) : setMany cs i (v :: r) = setMany (cs.set i v) (i + 1) r := rfl
attribute [go_sem ↓] cWp_nil cWp_guard stk_nil stk_seq stk_seq_exit stk_seq_goto stk_block stk_block_exit stk_block_goto stk_loop stk_loop_exit stk_loop_goto stk_ret
  thenQ_normal thenQ_exit thenQ_goto thenQ_ret blockQ_normal blockQ_exit blockQ_goto blockQ_ret bodyQ_ret bodyQ_normal endWp_some
  withV_some withN_some withL_some withVH_some withH_some cond_true_hold cond_false_hold guard_true_hold guard_false_hold callWp_func
  step_move step_assign step_pick step_binOp step_unOp step_load step_store step_fieldAddr step_field step_indexAddr step_index step_extract step_nilCheck step_convert step_build step_makeFunc step_slice step_box step_alloc step_buildSlice step_makeSlice step_call step_len step_min step_max
attribute [push_cast] frm_get frm_put frm_put_none ev_tmp ev_func ev_int ev_bool ev_string ev_nilptr ev_nilslice ev_nilmap ev_nilfunc look_cons look_nil args_nil args_cons allV_nil allV_cons allP_nil allP_cons optV_none optV_some results_nil results_cons result_tmp result_cell pack_one pack_two pack_three pack_four pack_nil guard_at guardOf_true guardOf_false pick_true pick_false pick_any bin_str bin_add bin_sub bin_mul bin_and bin_or bin_andNot bin_quo bin_rem bin_eql bin_neq bin_lss bin_leq bin_gtr bin_geq bin_shl bin_shr shift_l shift_r un_not un_neg load_at store_at cells_agg cells_int cells_bool cells_string cells_ptr cells_slice cells_map cells_func one_int one_bool one_string one_ptr one_slice one_map one_func many_nil many_cons Option.map_some Option.map_none if_true if_false ite_self List.length_cons List.length_nil List.getElem?_cons_zero List.getElem?_cons_succ List.getElem?_nil Option.some.injEq
attribute [congr] withV_congr withN_congr withL_congr withVH_congr withH_congr condWp_congr guardWp_congr endWp_congr convWp_congr
end Go.Sim
