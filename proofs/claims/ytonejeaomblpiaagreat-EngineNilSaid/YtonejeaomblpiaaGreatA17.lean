/- Loops with a state; frames known in part; heaps that have grown. -/
import Derived.Test.YtonejeaomblpiaaGreatA16
set_option linter.unusedSimpArgs false
set_option linter.unusedVariables false
set_option linter.defProp false
namespace Go.Sim
open Go.RowKit

/-- What is known of a frame. -/
def Has (n : Nat) (l : List (Nat × Value)) (a : Frm) : Prop := a.n = n ∧ ∀ p ∈ l, a.get p.1 = some p.2
theorem look_mem : ∀ (l : List (Nat × Value)) (t : Nat) (v : Value), look t l = some v → (t, v) ∈ l
  | [], t, v, h => by simp [look] at h
  | (t', u) :: l, t, v, h => by
    simp only [look] at h
    split at h
    · rename_i e; cases h; subst e; exact List.mem_cons_self ..
    · exact List.mem_cons_of_mem _ (look_mem l t v h)
def hasL (r : List (Nat × Value)) : List (Nat × Value) → Prop
  | [] => True
  | (t, v) :: l => look t r = some v ∧ hasL r l
theorem hasL_mem (r : List (Nat × Value)) : ∀ l, hasL r l = ∀ p ∈ l, look p.1 r = some p.2
  | [] => by simp [hasL]
  | (t, v) :: l => by simp [hasL, hasL_mem r l]
theorem has_frm (n n' : Nat) (l r : List (Nat × Value)) : Has n l ⟨n', r⟩ = (n' = n ∧ hasL r l) := by
  rw [hasL_mem]; rfl
theorem has_nil (r : List (Nat × Value)) : hasL r [] = True := rfl
theorem has_cons (t : Nat) (v : Value) (l r : List (Nat × Value)) : hasL r ((t, v) :: l) = (look t r = some v ∧ hasL r l) := rfl
section
variable {P : Program} {Q : Exit → Frm → Heap → Prop} {h : Heap} {c : Code}
theorem loop_st {σ : Type} {n : Nat} {s : List Fr} {a : Frm} (F : σ → List (Nat × Value)) (I : σ → Heap → Prop) (μ : σ → Nat) (x : σ) (h0 : Has n (F x) a ∧ I x h)
    (round : ∀ x h, I x h → codeHold P c (stk P (.loop (fun a' h' => ∃ x', (Has n (F x') a' ∧ I x' h') ∧ μ x' < μ x) :: s) Q) ⟨n, F x⟩ h) : AWp P (.loop c) (stk P s Q) a h := by
  refine awp_loop_st (fun x a h => Has n (F x) a ∧ I x h) μ x h0 fun x a h ⟨hF, hI⟩ => ?_
  refine AWp.weaken (a' := ⟨n, F x⟩) hF.1.symm (fun t v e => hF.2 (t, v) (look_mem _ t v e)) (codeWp_sound c (round x h hI))
end

/-! ### Heaps that have grown -/
/-- What lay in the first still lies in the second. -/
structure Ext (h h' : Heap) : Prop where
  le : h.next ≤ h'.next
  get : ∀ b, b < h.next → h'.get b = h.get b
theorem Ext.refl (h : Heap) : Ext h h := ⟨Nat.le_refl _, fun _ _ => rfl⟩
theorem Ext.trans {h h1 h2 : Heap} (x : Ext h h1) (y : Ext h1 h2) : Ext h h2 :=
  ⟨Nat.le_trans x.le y.le, fun b hb => (y.get b (Nat.lt_of_lt_of_le hb x.le)).trans (x.get b hb)⟩
theorem Ext.push {h h' : Heap} (x : Ext h h') (o : AObj) : Ext h (h'.push o) :=
  ⟨by have := x.le; simp; omega, fun b hb => by rw [Heap.get_push_ne _ _ (by have := x.le; omega)]; exact x.get b hb⟩
theorem Ext.set {h h' : Heap} (x : Ext h h') {b : Nat} (hb : h.next ≤ b) (o : AObj) : Ext h (h'.set b o) :=
  ⟨x.le, fun c hc => by rw [Heap.get_set_ne _ _ (by omega)]; exact x.get c hc⟩
theorem Ext.kill {h h' : Heap} (x : Ext h h') {b : Nat} (hb : h.next ≤ b) : Ext h (h'.kill b) :=
  ⟨x.le, fun c hc => by rw [Heap.get_kill_ne _ (by omega)]; exact x.get c hc⟩
theorem Ext.other {h h1 h2 : Heap} {b : Nat} (x : Ext h h1) (hn : h2.next = h1.next) (hg : ∀ c, c ≠ b → h2.get c = h1.get c) (hb : h.next ≤ b) : Ext h h2 :=
  ⟨by have := x.le; omega, fun c hc => (hg c (by omega)).trans (x.get c hc)⟩
theorem get_push_eq {h : Heap} {o : AObj} {b : Nat} (e : b = h.next) : (h.push o).get b = some o := by subst e; exact Heap.get_push_self h o
theorem get_push_ne {h : Heap} {o : AObj} {b : Nat} (e : b ≠ h.next) : (h.push o).get b = h.get b := Heap.get_push_ne h o e
theorem get_set_eq {h : Heap} {o : AObj} {b c : Nat} (e : b = c) : (h.set c o).get b = (h.get b).map fun _ => o := by subst e; simp [Heap.get_set]
theorem get_set_ne {h : Heap} {o : AObj} {b c : Nat} (e : b ≠ c) : (h.set c o).get b = h.get b := Heap.get_set_ne h o e
theorem get_kill_ne {h : Heap} {b c : Nat} (e : b ≠ c) : (h.kill c).get b = h.get b := Heap.get_kill_ne h e
theorem ptr_new (b : Nat) : ptrOfNew b = .pointer (some ⟨b, 0, none⟩) := rfl
theorem slice_new (n c b : Nat) : sliceOfNew n c b = .slice (some ⟨b, 0, none⟩) n c := rfl
theorem makeFunc_eq (f : FuncId) (x y : List Value) : x.toArray.toList ++ y = x ++ y := by simp
attribute [push_cast] has_frm has_nil has_cons Heap.next_push Heap.next_set Heap.next_kill ptr_new slice_new get_push_eq get_push_ne get_set_eq get_set_ne get_kill_ne
  List.toList_toArray List.append_nil List.nil_append List.cons_append List.size_toArray Nat.zero_add Nat.add_zero
  List.getElem?_toArray List.getElem?_cons_zero List.getElem?_cons_succ List.all_cons List.all_nil Bool.and_true Bool.true_and Bool.and_self Bool.not_true Bool.not_false List.set_cons_zero List.set_cons_succ List.drop_zero List.drop_succ_cons List.take_succ_cons List.take_zero List.take_nil List.drop_nil Nat.le_refl
end Go.Sim
namespace Go.Sim
theorem cond_split_dec {p : Prop} {dp : Decidable p} {A B : Prop} (h1 : p → A) (h2 : ¬ p → B) : condWp (some (.bool (@decide p dp))) A B :=
  ⟨fun e => h1 (of_decide_eq_true e), fun e => h2 (of_decide_eq_false e)⟩
theorem cond_split_not {p : Prop} {dp : Decidable (¬ p)} {A B : Prop} (h1 : ¬ p → A) (h2 : p → B) : condWp (some (.bool (@decide (¬ p) dp))) A B :=
  ⟨fun e => h1 (of_decide_eq_true e), fun e => h2 (Classical.not_not.1 (of_decide_eq_false e))⟩
theorem guard_split_dec {p : Prop} {dp : Decidable p} {A B : Prop} (h1 : p → A) (h2 : ¬ p → B) : guardWp (some (@decide p dp)) A B :=
  ⟨fun e => h1 (of_decide_eq_true e), fun e => h2 (of_decide_eq_false e)⟩
theorem guard_split_not {p : Prop} {dp : Decidable (¬ p)} {A B : Prop} (h1 : ¬ p → A) (h2 : p → B) : guardWp (some (@decide (¬ p) dp)) A B :=
  ⟨fun e => h1 (of_decide_eq_true e), fun e => h2 (Classical.not_not.1 (of_decide_eq_false e))⟩
theorem not_dec (p : Prop) {dp : Decidable p} : (!decide p) = decide (¬ p) := by simp
attribute [push_cast] not_dec decide_true decide_false not_true_eq_false not_false_eq_true Int.toNat_natCast Nat.mul_one
/-- A slice of values of one cell each. -/
def SlAt (h : Heap) (v : Value) (e : TypeId) (xs : List Value) : Prop :=
  (v = .slice none 0 0 ∧ xs = []) ∨ (∃ b o, v = .slice (some ⟨b, o, none⟩) 0 dud ∧ xs = []) ∨ ∃ b o c cs rw, v = .slice (some ⟨b, o, none⟩) xs.length c ∧ h.get b = some (.cells cs e rw) ∧ (cs.drop o).take xs.length = xs ∧ xs.length ≤ maxLen
theorem SlAt.ext {h h' : Heap} {v : Value} {e : TypeId} {xs : List Value} (hs : SlAt h v e xs) (hx : Ext h h') : SlAt h' v e xs := by
  rcases hs with hs | hs | ⟨b, o, c, cs, rw, h1, h2, h3⟩
  · exact .inl hs
  · exact .inr (.inl hs)
  · exact .inr (.inr ⟨b, o, c, cs, rw, h1, (hx.get b (h.wf _ _ h2)).trans h2, h3⟩)
theorem slice_at {cs xs : List Value} {o i : Nat} (h : (cs.drop o).take xs.length = xs) (hi : i < xs.length) : cs[o + i]? = some xs[i] := by
  have h1 : xs[i]? = some xs[i] := List.getElem?_eq_getElem hi
  rw [← h1]
  conv => rhs; rw [← h]
  rw [List.getElem?_take, if_pos hi, List.getElem?_drop]
theorem wrap_i64 {n : Int} (h1 : -9223372036854775808 ≤ n) (h2 : n < 9223372036854775808) : IntKind.i64.wrap n = n := by
  unfold IntKind.wrap
  simp only [IntKind.bits, IntKind.signed, Bool.true_and, decide_eq_true_eq, ge_iff_le]
  split <;> omega
end Go.Sim
namespace Go.Sim
theorem foldl_take {α β : Type} (f : β → α → β) (d : α) : ∀ (l : List α) (i : Nat) (x : β), i < l.length → (l.take (i + 1)).foldl f x = f ((l.take i).foldl f x) (l.getD i d)
  | [], i, x, h => by simp at h
  | a :: l, 0, x, h => by simp
  | a :: l, i + 1, x, h => by
    have := foldl_take f d l i (f x a) (by simpa using h)
    simpa using this
end Go.Sim
namespace Go.Sim
/-! ### Slices that grow -/
/-- A slice of one's own: made since h₀. -/
def OwnSl (h₀ h : Heap) (v : Value) (e : TypeId) (xs : List Value) : Prop :=
  (v = .slice none 0 0 ∧ xs = []) ∨ ∃ b o c cs, v = .slice (some ⟨b, o, none⟩) xs.length c ∧ c ≠ dud ∧ c ≠ noapp ∧ h₀.next ≤ b ∧ h.get b = some (.cells cs e true) ∧ (cs.drop o).take xs.length = xs ∧ xs.length ≤ maxLen ∧ o + xs.length ≤ cs.length
theorem OwnSl.at {h₀ h : Heap} {v : Value} {e : TypeId} {xs : List Value} (hs : OwnSl h₀ h v e xs) : SlAt h v e xs := by
  rcases hs with hs | ⟨b, o, c, cs, h1, _, _, _, h2, h3, h4, _⟩
  · exact .inl hs
  · exact .inr (.inr ⟨b, o, c, cs, true, h1, h2, h3, h4⟩)
theorem OwnSl.ext {h₀ h h' : Heap} {v : Value} {e : TypeId} {xs : List Value} (hs : OwnSl h₀ h v e xs) (hx : Ext h h') : OwnSl h₀ h' v e xs := by
  rcases hs with hs | ⟨b, o, c, cs, h1, h2, h3, h4, h5, h6⟩
  · exact .inl hs
  · exact .inr ⟨b, o, c, cs, h1, h2, h3, h4, (hx.get b (h.wf _ _ h5)).trans h5, h6⟩
/-- The block of a slice. -/
def blockOf : Value → Option Nat
  | .slice (some ⟨b, _, none⟩) _ _ => some b
  | .pointer (some ⟨b, _, none⟩) => some b
  | .map (some b) => some b
  | _ => none
def appWp (P : Program) (ts : List TypeId) (h : Heap) (s x : Value) (K : Value → Heap → Prop) : Prop := withVH (appendV P ts h s x) K
theorem step_append' (P : Program) (d : Option Tmp) (r : List C) (K : Frm → Heap → Prop) (a : Frm) (h : Heap) (x y : Operand) (ts : List TypeId) : cWp P (⟨d, .call ⟨.builtin .append, #[x, y], ts.toArray⟩, none⟩ :: r) K a h =
    withV (a.ev x) fun u => withV (a.ev y) fun v => appWp P ts h u v fun v h' => cHold P r K (a.put d v) h' := step_append P d r K a h x y ts
theorem take_len {cs xs : List Value} {o : Nat} (h : (cs.drop o).take xs.length = xs) (h0 : xs ≠ []) : o + xs.length ≤ cs.length := by
  have := congrArg List.length h
  simp only [List.length_take, List.length_drop] at this
  have : 0 < xs.length := List.length_pos_iff.2 h0
  omega
theorem srcV_at {P : Program} {t2 e e2 : TypeId} {h : Heap} {x : Value} {ys : List Value} (hu : P.underlying t2 = some (.slice e2)) (hx : SlAt h x e ys) (h1 : ys.all Value.oneCell' = true) : srcV P 1 t2 h x = some (ys.length, ys) := by
  unfold srcV
  rw [hu]
  rcases hx with ⟨rfl, rfl⟩ | ⟨b, o, rfl, rfl⟩ | ⟨b, o, c, cs, rw, rfl, hb, ht, _⟩
  · rfl
  · rfl
  · simp only
    by_cases h0 : ys = []
    · subst h0; rfl
    · have hp : 0 < ys.length := List.length_pos_iff.2 h0
      rw [if_neg (by omega), hb]
      simp only [Nat.mul_one]
      rw [if_pos ⟨take_len ht h0, by rw [ht]; exact h1⟩, ht]
theorem append_own {P : Program} {t t2 e e2 : TypeId} {i : TypeInfo} {h₀ h : Heap} {s x : Value} {xs ys : List Value} {K : Value → Heap → Prop} (hu : P.underlying t = some (.slice e)) (hu2 : P.underlying t2 = some (.slice e2)) (hi : P.info? e = some i) (hsz : i.size = 1)
    (hz : (zeroCellsT P e).isSome = true) (hs : OwnSl h₀ h s e xs) (hx : SlAt h x e ys) (h1 : ys.all Value.oneCell' = true) (hlen : (xs.length + ys.length) * i.bytes ≤ 140737488355328) (hm : xs.length + ys.length ≤ maxLen) (h0 : Ext h₀ h)
    (hK : ∀ v' h', OwnSl h₀ h' v' e (xs ++ ys) → Ext h₀ h' → h.next ≤ h'.next → (∀ c, c < h.next → blockOf s ≠ some c → h'.get c = h.get c) → (blockOf v' = blockOf s ∨ blockOf v' = some h.next) → K v' h') : appWp P [t, t2] h s x K := by
  unfold appWp appendV
  simp only [hu, hi]
  cases hzz : zeroCellsT P e with
  | none => rw [hzz] at hz; cases hz
  | some z =>
    simp only [hsz, srcV_at hu2 hx h1]
    have hs0 := hs
    rcases hs with ⟨rfl, rfl⟩ | ⟨b, o, c, cs, rfl, hc1, hc2, hb0, hb, ht, hl, hle2⟩
    · simp only
      by_cases hy : ys.length = 0
      · rw [if_pos hy]
        have hy' : ys = [] := List.length_eq_zero_iff.1 hy
        subst hy'
        exact hK _ _ hs0 h0 (Nat.le_refl _) (fun _ _ _ => rfl) (.inl rfl)
      · rw [if_neg hy, if_pos ⟨by simpa using hm, by simpa using hlen⟩]
        refine hK _ _ (.inr ⟨h.next, 0, unk, ys, rfl, by decide, by decide, h0.le, Heap.get_push_self _ _, by simp, by simpa using hm, by simp⟩) (h0.push _) (by simp) (fun c hc _ => Heap.get_push_ne _ _ (by omega)) (.inr rfl)
    · simp only
      by_cases hy : ys.length = 0
      · rw [if_pos hy]
        have hy' : ys = [] := List.length_eq_zero_iff.1 hy
        subst hy'
        exact hK _ _ (by simpa using hs0) h0 (Nat.le_refl _) (fun _ _ _ => rfl) (.inl rfl)
      · rw [if_neg hy, if_neg (by simp [hc1, hc2]), if_pos ⟨hm, hlen⟩, hb]
        have hz1 : szT P e = some 1 := by unfold szT; rw [hi]; simp [hsz]
        simp only [Nat.mul_one]
        have key : ∀ h2 : Heap, h.next = h2.next → Ext h₀ h2 → (∀ c, c < h.next → c ≠ b → h2.get c = h.get c) → K (sliceOfNew (xs.length + ys.length) unk h2.next) (h2.push (.cells ((cs.drop o).take xs.length ++ ys) e true)) := by
          intro h2 hn hx2 hg
          rw [ht]
          refine hK _ _ (.inr ⟨h2.next, 0, unk, xs ++ ys, by simp [sliceOfNew], by decide, by decide, hx2.le, Heap.get_push_self _ _, by rw [List.drop_zero]; exact List.take_of_length_le (Nat.le_refl _), by simpa using hm, by simp⟩) (hx2.push _) (by simp; omega) (fun c hc hne => ?_) (.inr (by simp [sliceOfNew, blockOf, hn]))
          rw [Heap.get_push_ne _ _ (by omega)]
          exact hg c hc (by rintro rfl; exact hne rfl)
        rw [if_pos ⟨hle2, hz1, trivial⟩]
        split
        · exact key h rfl h0 (fun _ _ _ => rfl)
        · exact key (h.kill b) rfl (h0.kill hb0) (fun c _ hne => Heap.get_kill_ne h hne)
attribute [go_sem ↓] step_append'
end Go.Sim
namespace Go.Sim
/-! ### More facts about types, as the seat's text tells them -/
theorem eqV_int {P : Program} {d : Nat} {t : TypeId} {q k : IntKind} {a b : Int} (hd : d ≠ 0) (hu : P.underlying t = some (.int q)) : eqV P d t (.int k a) (.int k b) = some (decide (a = b)) := by
  obtain ⟨d, rfl⟩ := Nat.exists_eq_succ_of_ne_zero hd
  simp [eqV, hu, Bool.beq_eq_decide_eq]
theorem eqV_bool {P : Program} {d : Nat} {t : TypeId} {a b : Bool} (hd : d ≠ 0) (hu : P.underlying t = some .bool) : eqV P d t (.bool a) (.bool b) = some (decide (a = b)) := by
  obtain ⟨d, rfl⟩ := Nat.exists_eq_succ_of_ne_zero hd
  simp [eqV, hu, Bool.beq_eq_decide_eq]
theorem eqV_struct {P : Program} {t : TypeId} {fs : Array Field} (xs ys : Array Value) (hu : P.underlying t = some (.struct fs)) (hh : P.stoodInHeld t = false) : eqV P 10000 t (.agg xs) (.agg ys) = eqFieldsV (eqV P 9999) P xs.toList ys.toList fs.toList := by
  have gen : ∀ d, eqV P (d + 1) t (.agg xs) (.agg ys) = eqFieldsV (eqV P d) P xs.toList ys.toList fs.toList := fun d => by simp [eqV, hu, hh]
  exact gen 9999
theorem bin_eq_struct {P : Program} {t : TypeId} {xs ys : Array Value} {p : Prop} {dp : Decidable p} (hg : P.eqGuardType P.depth t = false) (h : eqV P 10000 t (.agg xs) (.agg ys) = some (decide p)) : binV P .eql t (.agg xs) (.agg ys) = some (.bool (decide p)) := by
  simp [binV, hg, h]
theorem bin_ne_struct {P : Program} {t : TypeId} {xs ys : Array Value} {p : Prop} {dp : Decidable p} (hg : P.eqGuardType P.depth t = false) (h : eqV P 10000 t (.agg xs) (.agg ys) = some (decide p)) : binV P .neq t (.agg xs) (.agg ys) = some (.bool (decide (¬ p))) := by
  simp [binV, hg, h]
theorem bin_eq_bool {P : Program} {t : TypeId} {a b : Bool} (hu : P.underlying t = some .bool) : binV P .eql t (.bool a) (.bool b) = some (.bool (decide (a = b))) := by
  have := eqV_bool (P := P) (d := 10000) (t := t) (a := a) (b := b) (by decide) hu
  simp [binV, this]
theorem bin_ne_bool {P : Program} {t : TypeId} {a b : Bool} (hu : P.underlying t = some .bool) : binV P .neq t (.bool a) (.bool b) = some (.bool (decide (¬ a = b))) := by
  have := eqV_bool (P := P) (d := 10000) (t := t) (a := a) (b := b) (by decide) hu
  simp [binV, this]
theorem buildSlice_eq {P : Program} {t e : TypeId} {s n : Nat} {z : List Value} {ps : List (Nat × Value)} (hu : P.underlying t = some (.slice e)) (hz : zeroCellsT P e = some z) (hs : szT P e = some s) (h : n * s ≤ 16777216 ∧ 0 < s ∧ n ≤ maxLen) :
    buildSliceV P t n ps = (fillL (fun i => some (i * s, s)) (zeros z n) ps).map fun l => (AObj.cells l e true, sliceOfNew n n) := by
  unfold buildSliceV
  simp only [hu, hz, hs]
  rw [if_pos h, fill_list]
  cases fillL (fun i => some (i * s, s)) (zeros z n) ps <;> rfl
theorem zeros_def (z : List Value) (n : Nat) : zeros z n = (List.replicate n z).flatten := rfl
attribute [push_cast] zeros_def List.flatten_cons List.flatten_nil
end Go.Sim
namespace Go.Sim
/-- What lay in the first still lies in the second, but for one block. -/
structure ExtB (b : Nat) (h h' : Heap) : Prop where
  le : h.next ≤ h'.next
  get : ∀ c, c < h.next → c ≠ b → h'.get c = h.get c
theorem ExtB.refl (b : Nat) (h : Heap) : ExtB b h h := ⟨Nat.le_refl _, fun _ _ _ => rfl⟩
theorem ExtB.ext {b : Nat} {h h1 h2 : Heap} (x : ExtB b h h1) (y : Ext h1 h2) : ExtB b h h2 :=
  ⟨Nat.le_trans x.le y.le, fun c hc hne => (y.get c (Nat.lt_of_lt_of_le hc x.le)).trans (x.get c hc hne)⟩
theorem ExtB.trans {b : Nat} {h h1 h2 : Heap} (x : ExtB b h h1) (y : ExtB b h1 h2) : ExtB b h h2 :=
  ⟨Nat.le_trans x.le y.le, fun c hc hne => (y.get c (Nat.lt_of_lt_of_le hc x.le) hne).trans (x.get c hc hne)⟩
theorem ExtB.push {b : Nat} {h h1 : Heap} (x : ExtB b h h1) (o : AObj) : ExtB b h (h1.push o) := x.ext (Ext.push (Ext.refl _) o)
theorem ExtB.set {b : Nat} {h h1 : Heap} (x : ExtB b h h1) {c : Nat} (hc : c = b ∨ h.next ≤ c) (o : AObj) : ExtB b h (h1.set c o) :=
  ⟨x.le, fun d hd hne => by rw [Heap.get_set_ne _ _ (by omega)]; exact x.get d hd hne⟩
theorem Ext.but {b : Nat} {h h1 h2 : Heap} (x : Ext h h1) (y : ExtB b h1 h2) (hb : h.next ≤ b) : Ext h h2 :=
  ⟨Nat.le_trans x.le y.le, fun c hc => (y.get c (Nat.lt_of_lt_of_le hc x.le) (by omega)).trans (x.get c hc)⟩
end Go.Sim
